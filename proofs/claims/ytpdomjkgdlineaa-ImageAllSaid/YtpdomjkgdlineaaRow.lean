/- The law glazierlaw24.ImageAll: for every image and all bytes that come in the call returns true, and both read behind it as they read before. No condition. -/
import Derived.Test.YtpdomjkgdlineaaRows
import Derived.Test.YtpdomjkgdlineaaP6
import Derived.Test.YtpdomjkgdlineaaXLaw
import Derived.WalkKit
import Derived.ProofKit
import Derived.OpenShut
set_option linter.unusedVariables false
set_option linter.unusedSimpArgs false
set_option linter.unnecessarySimpa false
set_option linter.deprecated false
namespace Go.Proofs.Ytpdomjkgdlineaa.imageAll
open Go.ChangeShapes Go.WideShapes Go.ChangeAt Go.RowKit

theorem plain {N : Nat} (hN : 100000 ≤ N) (x0 x1 : Int) (l2 : List Gz.Col) (l3 : List Int) (h2 : ∀ c ∈ l2, Gz.okCol c) (h3 : ∀ x ∈ l3, Gz.okI .u8 x) {α : Type} (k : Bool → Option α) : Gz.F3 N k x0 x1 l2 l3 = k true := by
  refine Gz.F3xeq hN x0 x1 l2 l3 h2 (fun x hx => ?_) k
  have := h3 x hx
  simpa [Gz.okI, IntKind.min, IntKind.max, IntKind.signed, IntKind.bits] using this

theorem own : ownKnob Try.prog.godebug = none := by kernel_rfl
theorem kids : Kids Try.prog (· < Try.prog.types.size) := kids_rows (by kernel_rfl) (by kernel_rfl)

theorem contract (H : Type) (enc : TypeId × Value → H) (W : World) (base : Nat) (args : Array Value) (ds gs : List (DataW H)) (before : List MemPlace)
    (hval : ∀ (j : Nat) t v, Try.f3.params[j]? = some t → args[j]? = some v → Value.okWide Try.prog W .any base t v)
    (hW : DataW.Whole enc Try.prog Try.f3.params.toList Rows.imageAllSpec.vars false W args.toList ds gs before) :
    Calls Try.prog 3 args W fun e W' => ∃ v, e = .returned v ∧ Rows.imageAllSpec.post enc Try.prog Try.f3 false true false false W args v W' := by
  refine Gz.law_calls (C := Gz.base) (G := Gz.gT.find) (GA := Gz.gaT.find) (B := maxLen) Gz.base_ok (Gz.EF3Ok 100000) Gz.bulk_any (ks := [.ag [.i .i64, .i .i64, .sl .col], .cell (.sl .u8)]) (fn := Try.f3) (by kernel_rfl) ?_ kids
    (slices_full_of Try.prog (by kernel_rfl)) rfl (by decide) (tb := 4) rfl Try.underlying4 ?_ hval hW (.inr (Nat.le_refl _))
  · intro avs h
    match avs, h with
    | [], h => exact h.elim
    | [_], h => exact h.2.elim
    | _ :: _ :: _ :: _, h => exact h.2.2.elim
    | [a, b], ⟨⟨cs, ha, hcs⟩, ⟨l3, hb, h3⟩, _⟩ =>
      obtain ⟨x0, cs, rfl, h0, hcs⟩ := hcs.i_inv
      obtain ⟨x1, cs, rfl, h1, hcs⟩ := hcs.i_inv
      obtain ⟨l2, cs, rfl, h2, hcs⟩ := hcs.sl_inv
      obtain rfl := hcs.nil_inv
      subst ha; subst hb
      exact ⟨rfl, plain (Nat.le_refl _) x0 x1 l2 l3 h2.2 h3.2 _⟩
  · intro ds hds
    match ds, hds with
    | [a, b], _ => rfl
    | [], h => simp at h
    | [_], h => simp at h
    | _ :: _ :: _ :: _, h => simp at h

set_option maxRecDepth 100000 in
theorem lifted (os : Os) (started : os.Started) (H : Type) (enc : TypeId × Value → H) :
    ReturnsInHanded {} Try.checked os 3 .any (Rows.imageAllSpec.pre6 enc Try.prog Try.f3 Rows.imageAllRow.domain false) (Rows.imageAllSpec.post enc Try.prog Try.f3 false true false false) := by
  refine returnsInHanded_of_change (C := Try.checked) own started (by kernel_rfl) Try.func3
    (ChangeSpec.witness6 (enc := enc) (C := Try.checked) false ⟨#[], #[.agg #[.int .i64 0, .int .i64 0, .slice none 0 0], .slice none 0 0], []⟩ 8 (by kernel_rfl) (by kernel_rfl) (by kernel_rfl) (by kernel_rfl)) ?_
  intro W base args ds gs before hval hW _ _
  exact contract H enc W base args ds gs before hval hW

theorem proved : Rows.ImageAllSaid :=
  OpenClaim.holds_of_wide 3 Try.f3 rfl rfl rfl rfl rfl rfl rfl ⟨rfl, rfl, rfl, rfl, rfl⟩ rfl rfl rfl rfl rfl (by kernel_rfl) Try.func3 (by kernel_rfl)
    (of_decide_eq_true (by kernel_rfl)) (by unfold Func.isWrapper; first | (rw [if_pos (by decide +kernel)]; kernel_rfl) | (rw [if_neg (by decide +kernel)]; exact ⟨rfl, rfl⟩))
    (fun os started H enc _ => lifted os started H enc)
end Go.Proofs.Ytpdomjkgdlineaa.imageAll
