/- The tables of types and functions that the evaluator reads, printed by a program. -/
import Derived.Test.YtpdomjkgdlineaaProg
import Derived.Test.YtpdomjkgdlineaaXClone
import Derived.KernelRfl
set_option linter.unusedVariables false
set_option linter.unusedSimpArgs false
set_option linter.unnecessarySimpa false
set_option linter.deprecated false
namespace Gz
open Go Go.Proofs
def tyT : Tre TyI := .node 45 ⟨4, .struct [(0, 1), (1, 1), (2, 1), (3, 1)], [.i .u8 0, .i .u8 0, .i .u8 0, .i .u8 0]⟩ (.node 22 ⟨1, .slice .col 45, [.slnil .col]⟩ (.node 5 ⟨1, .int .u8, [.i .u8 0]⟩ (.node 4 ⟨1, .bool, [.b false]⟩ (.node 3 ⟨1, .int .i64, [.i .i64 0]⟩ .nil .nil) .nil) (.node 9 ⟨1, .str, [.s ByteArray.empty]⟩ .nil .nil)) (.node 27 ⟨1, .int .i64, [.i .i64 0]⟩ (.node 25 ⟨1, .slice .u8 5, [.slnil .u8]⟩ (.node 24 ⟨3, .struct [(0, 1), (1, 1), (2, 1)], [.i .i64 0, .i .i64 0, .slnil .col]⟩ .nil .nil) .nil) (.node 33 ⟨1, .slice .int 3, [.slnil .int]⟩ .nil .nil))) (.node 69 ⟨1, .int .u64, [.i .u64 0]⟩ (.node 67 ⟨1, .func, [.fnil]⟩ (.node 52 ⟨1, .func, [.fnil]⟩ (.node 51 ⟨1, .func, [.fnil]⟩ .nil .nil) .nil) (.node 68 ⟨1, .int .u64, [.i .u64 0]⟩ .nil .nil)) (.node 72 ⟨1, .func, [.fnil]⟩ (.node 71 ⟨1, .func, [.fnil]⟩ .nil .nil) (.node 81 ⟨1, .func, [.fnil]⟩ .nil .nil)))
def fnT : Tre Unit := .node 23 () (.node 10 () (.node 7 () (.node 5 () (.node 3 () .nil .nil) (.node 6 () .nil .nil)) (.node 9 () (.node 8 () .nil .nil) .nil)) (.node 13 () (.node 12 () (.node 11 () .nil .nil) .nil) (.node 22 () (.node 21 () .nil .nil) .nil))) (.node 36 () (.node 26 () (.node 25 () (.node 24 () .nil .nil) .nil) (.node 35 () (.node 34 () .nil .nil) .nil)) (.node 43 () (.node 42 () (.node 37 () .nil .nil) .nil) (.node 48 () (.node 44 () .nil .nil) .nil)))
def puT : Tre Unit := .node 22 () (.node 9 () (.node 6 () (.node 5 () (.node 3 () .nil .nil) .nil) (.node 8 () (.node 7 () .nil .nil) .nil)) (.node 12 () (.node 11 () (.node 10 () .nil .nil) .nil) (.node 13 () .nil .nil))) (.node 35 () (.node 25 () (.node 24 () (.node 23 () .nil .nil) .nil) (.node 26 () .nil .nil)) (.node 44 () (.node 42 () (.node 37 () .nil .nil) .nil) (.node 48 () .nil .nil)))
def eqTT : Tre (List LV) := .node 45 [.i .u8 0, .i .u8 0, .i .u8 0, .i .u8 0] .nil .nil
def elT : Tag → Nat
  | .col => 45
  | .int => 3
  | .u8 => 5
  | _ => 0
def gT : Tre Tag := .node 5 .u8 (.node 3 .int .nil .nil) (.node 45 .col .nil .nil)
def gaT : Tre Tag := .node 40 .u8 .nil .nil
def tabs : Tabs := { ty := tyT, fn := fnT, pure_ := puT, eqT := eqTT, elemOf := elT }
noncomputable def base : Cfg := tabs.cfg Try.prog
theorem base_ok : Base Try.prog base := Tabs.base (by kernel_rfl) (by kernel_rfl) (by kernel_rfl) (by kernel_rfl)
def csv0 : ByteArray := ⟨#[4, 2, 4, 0, 0, 0, 0]⟩
def csv1 : ByteArray := ⟨#[0, 1, 2, 2, 3, 3, 3, 3, 4, 4, 4, 4, 4, 4, 4, 4, 5, 5, 5, 5, 5, 5, 5, 5, 5, 5, 5, 5, 5, 5, 5, 5, 6, 6, 6, 6, 6, 6, 6, 6, 6, 6, 6, 6, 6, 6, 6, 6, 6, 6, 6, 6, 6, 6, 6, 6, 6, 6, 6, 6, 6, 6, 6, 6, 7, 7, 7, 7, 7, 7, 7, 7, 7, 7, 7, 7, 7, 7, 7, 7, 7, 7, 7, 7, 7, 7, 7, 7, 7, 7, 7, 7, 7, 7, 7, 7, 7, 7, 7, 7, 7, 7, 7, 7, 7, 7, 7, 7, 7, 7, 7, 7, 7, 7, 7, 7, 7, 7, 7, 7, 7, 7, 7, 7, 7, 7, 7, 7, 8, 8, 8, 8, 8, 8, 8, 8, 8, 8, 8, 8, 8, 8, 8, 8, 8, 8, 8, 8, 8, 8, 8, 8, 8, 8, 8, 8, 8, 8, 8, 8, 8, 8, 8, 8, 8, 8, 8, 8, 8, 8, 8, 8, 8, 8, 8, 8, 8, 8, 8, 8, 8, 8, 8, 8, 8, 8, 8, 8, 8, 8, 8, 8, 8, 8, 8, 8, 8, 8, 8, 8, 8, 8, 8, 8, 8, 8, 8, 8, 8, 8, 8, 8, 8, 8, 8, 8, 8, 8, 8, 8, 8, 8, 8, 8, 8, 8, 8, 8, 8, 8, 8, 8, 8, 8, 8, 8, 8, 8, 8, 8, 8, 8, 8, 8, 8, 8, 8, 8, 8, 8, 8, 8, 8, 8, 8, 8]⟩
end Gz
