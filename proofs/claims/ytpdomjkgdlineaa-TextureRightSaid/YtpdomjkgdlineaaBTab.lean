/- The tables of types and functions that the evaluator reads, printed by a program. -/
import Derived.Test.YtpdomjkgdlineaaProg
import Derived.Test.YtpdomjkgdlineaaBXClone
import Derived.KernelRfl
set_option linter.unusedVariables false
set_option linter.unusedSimpArgs false
set_option linter.unnecessarySimpa false
set_option linter.deprecated false
namespace Gz
open Go Go.Proofs
def tyT : Tre TyI := .node 41 ⟨1, .int .u16, [.i .u16 0]⟩ (.node 22 ⟨1, .slice .col 45, [.slnil .col]⟩ (.node 5 ⟨1, .int .u8, [.i .u8 0]⟩ (.node 4 ⟨1, .bool, [.b false]⟩ (.node 3 ⟨1, .int .i64, [.i .i64 0]⟩ .nil .nil) .nil) (.node 9 ⟨1, .str, [.s ByteArray.empty]⟩ .nil .nil)) (.node 33 ⟨1, .slice .int 3, [.slnil .int]⟩ (.node 27 ⟨1, .int .i64, [.i .i64 0]⟩ .nil .nil) (.node 40 ⟨2, .arr 2 .u8 5, [.i .u8 0, .i .u8 0]⟩ .nil .nil))) (.node 61 ⟨1, .func, [.fnil]⟩ (.node 45 ⟨4, .struct [(0, 1), (1, 1), (2, 1), (3, 1)], [.i .u8 0, .i .u8 0, .i .u8 0, .i .u8 0]⟩ (.node 42 ⟨3, .struct [(0, 1), (1, 1), (2, 1)], [.i .i64 0, .i .i64 0, .slnil .col]⟩ .nil .nil) (.node 60 ⟨1, .func, [.fnil]⟩ .nil .nil)) (.node 68 ⟨1, .int .u64, [.i .u64 0]⟩ (.node 65 ⟨1, .func, [.fnil]⟩ .nil .nil) (.node 69 ⟨1, .int .u64, [.i .u64 0]⟩ .nil .nil)))
def fnT : Tre Unit := .node 33 () (.node 20 () (.node 16 () (.node 14 () (.node 4 () .nil .nil) (.node 15 () .nil .nil)) (.node 18 () (.node 17 () .nil .nil) (.node 19 () .nil .nil))) (.node 30 () (.node 28 () (.node 27 () .nil .nil) (.node 29 () .nil .nil)) (.node 32 () (.node 31 () .nil .nil) .nil))) (.node 48 () (.node 41 () (.node 39 () (.node 38 () .nil .nil) (.node 40 () .nil .nil)) (.node 46 () (.node 45 () .nil .nil) (.node 47 () .nil .nil))) (.node 52 () (.node 50 () (.node 49 () .nil .nil) (.node 51 () .nil .nil)) (.node 54 () (.node 53 () .nil .nil) .nil)))
def puT : Tre Unit := .node 32 () (.node 19 () (.node 16 () (.node 14 () (.node 4 () .nil .nil) (.node 15 () .nil .nil)) (.node 18 () (.node 17 () .nil .nil) .nil)) (.node 28 () (.node 27 () (.node 20 () .nil .nil) .nil) (.node 31 () (.node 29 () .nil .nil) .nil))) (.node 49 () (.node 45 () (.node 38 () (.node 33 () .nil .nil) (.node 39 () .nil .nil)) (.node 48 () (.node 47 () .nil .nil) .nil)) (.node 52 () (.node 51 () (.node 50 () .nil .nil) .nil) (.node 54 () (.node 53 () .nil .nil) .nil)))
def eqTT : Tre (List LV) := .node 45 [.i .u8 0, .i .u8 0, .i .u8 0, .i .u8 0] .nil .nil
def elT : Tag → Nat
  | .col => 45
  | .int => 3
  | .u8 => 5
  | _ => 0
def gT : Tre Tag := .node 5 .u8 (.node 3 .int .nil .nil) (.node 45 .col .nil .nil)
def gaT : Tre Tag := .node 40 .u8 .nil .nil
def tabs : Tabs := { ty := tyT, fn := fnT, pure_ := puT, eqT := eqTT, elemOf := elT }
noncomputable def base : Cfg := tabs.cfg Try.prog
theorem base_ok : Base Try.prog base := Tabs.base (by kernel_rfl) (by kernel_rfl) (by kernel_rfl) (by kernel_rfl)
def csv0 : ByteArray := ⟨#[0, 1, 2, 2, 3, 3, 3, 3, 4, 4, 4, 4, 4, 4, 4, 4, 5, 5, 5, 5, 5, 5, 5, 5, 5, 5, 5, 5, 5, 5, 5, 5, 6, 6, 6, 6, 6, 6, 6, 6, 6, 6, 6, 6, 6, 6, 6, 6, 6, 6, 6, 6, 6, 6, 6, 6, 6, 6, 6, 6, 6, 6, 6, 6, 7, 7, 7, 7, 7, 7, 7, 7, 7, 7, 7, 7, 7, 7, 7, 7, 7, 7, 7, 7, 7, 7, 7, 7, 7, 7, 7, 7, 7, 7, 7, 7, 7, 7, 7, 7, 7, 7, 7, 7, 7, 7, 7, 7, 7, 7, 7, 7, 7, 7, 7, 7, 7, 7, 7, 7, 7, 7, 7, 7, 7, 7, 7, 7, 8, 8, 8, 8, 8, 8, 8, 8, 8, 8, 8, 8, 8, 8, 8, 8, 8, 8, 8, 8, 8, 8, 8, 8, 8, 8, 8, 8, 8, 8, 8, 8, 8, 8, 8, 8, 8, 8, 8, 8, 8, 8, 8, 8, 8, 8, 8, 8, 8, 8, 8, 8, 8, 8, 8, 8, 8, 8, 8, 8, 8, 8, 8, 8, 8, 8, 8, 8, 8, 8, 8, 8, 8, 8, 8, 8, 8, 8, 8, 8, 8, 8, 8, 8, 8, 8, 8, 8, 8, 8, 8, 8, 8, 8, 8, 8, 8, 8, 8, 8, 8, 8, 8, 8, 8, 8, 8, 8, 8, 8, 8, 8, 8, 8, 8, 8, 8, 8, 8, 8, 8, 8, 8, 8, 8, 8, 8, 8]⟩
end Gz
