/- The law glazierlaw11.TextureRight: pictures are told right just if their sides are, and smooth ones of right colours are right; both read behind it as they read before. No condition. -/
import Derived.Test.YtpdomjkgdlineaaRows
import Derived.Test.YtpdomjkgdlineaaBP3
import Derived.Test.YtpdomjkgdlineaaBXLaw
import Derived.WalkKit
import Derived.ProofKit
import Derived.OpenShut
set_option linter.unusedVariables false
set_option linter.unusedSimpArgs false
set_option linter.unnecessarySimpa false
set_option linter.deprecated false
namespace Go.Proofs.Ytpdomjkgdlineaa.textureRight
open Go.ChangeShapes Go.WideShapes Go.ChangeAt Go.RowKit

theorem u8_bd {x : Int} (h : Gz.okI .u8 x) : 0 ≤ x ∧ x ≤ 255 := by simpa [Gz.okI, IntKind.min, IntKind.max, IntKind.signed, IntKind.bits] using h
theorem u16_bd {x : Int} (h : Gz.okI .u16 x) : 0 ≤ x ∧ x ≤ 65535 := by simpa [Gz.okI, IntKind.min, IntKind.max, IntKind.signed, IntKind.bits] using h
theorem plain {N : Nat} (hN : 300 ≤ N) (x0 x1 x2 x3 x4 : Int) (l5 : List Gz.Col) (h0 : Gz.okI .u8 x0) (h1 : Gz.okI .u8 x1) (h2 : Gz.okI .u16 x2) (h5 : ∀ c ∈ l5, Gz.okCol c) {α : Type} (k : Bool → Option α) : Gz.F4 N k x0 x1 x2 x3 x4 l5 = k true :=
  Gz.F4xeq hN x0 x1 x2 x3 x4 l5 (u8_bd h0) (u8_bd h1) (u16_bd h2) (fun c hc => ⟨u8_bd (h5 c hc).r, u8_bd (h5 c hc).g, u8_bd (h5 c hc).b, u8_bd (h5 c hc).a⟩) k

theorem own : ownKnob Try.prog.godebug = none := by kernel_rfl
theorem kids : Kids Try.prog (· < Try.prog.types.size) := kids_rows (by kernel_rfl) (by kernel_rfl)

theorem contract (H : Type) (enc : TypeId × Value → H) (W : World) (base : Nat) (args : Array Value) (ds gs : List (DataW H)) (before : List MemPlace)
    (hval : ∀ (j : Nat) t v, Try.f4.params[j]? = some t → args[j]? = some v → Value.okWide Try.prog W .any base t v)
    (hW : DataW.Whole enc Try.prog Try.f4.params.toList Rows.textureRightSpec.vars false W args.toList ds gs before) :
    Calls Try.prog 4 args W fun e W' => ∃ v, e = .returned v ∧ Rows.textureRightSpec.post enc Try.prog Try.f4 false true false false W args v W' := by
  refine Gz.law_calls (C := Gz.base) (G := Gz.gT.find) (GA := Gz.gaT.find) (B := maxLen) Gz.base_ok (Gz.EF4Ok 1000) Gz.bulk_any (ks := [.av .u8 2, .cell (.i .u16), .ag [.i .i64, .i .i64, .sl .col]]) (fn := Try.f4) (by kernel_rfl) ?_ kids
    (slices_full_of Try.prog (by kernel_rfl)) rfl (by decide) (tb := 4) rfl Try.underlying4 ?_ hval hW (.inr (Nat.le_refl _))
  · intro avs h
    match avs, h with
    | [], h => exact h.elim
    | [_], h => exact h.2.elim
    | [_, _], h => exact h.2.2.elim
    | _ :: _ :: _ :: _ :: _, h => exact h.2.2.2.elim
    | [a, b, c], ⟨⟨l, ha, hl, hel⟩, ⟨n, hb, hn⟩, ⟨cs, hc, hcs⟩, _⟩ =>
      obtain ⟨x3, cs, rfl, h3, hcs⟩ := hcs.i_inv
      obtain ⟨x4, cs, rfl, h4, hcs⟩ := hcs.i_inv
      obtain ⟨l5, cs, rfl, h5, hcs⟩ := hcs.sl_inv
      obtain rfl := hcs.nil_inv
      subst ha; subst hb; subst hc
      match l, hl, hel with
      | [x0, x1], _, hel => exact ⟨rfl, Eq.trans (by kernel_rfl) (plain (N := 1000) (by omega) x0 x1 n x3 x4 l5 (hel x0 (by simp)) (hel x1 (by simp)) hn h5.2 (fun b => some (Gz.LV.b b, [])))⟩
  · intro ds hds
    match ds, hds with
    | [a, b, c], _ => rfl
    | [], h => simp at h
    | [_], h => simp at h
    | [_, _], h => simp at h
    | _ :: _ :: _ :: _ :: _, h => simp at h

set_option maxRecDepth 100000 in
theorem lifted (os : Os) (started : os.Started) (H : Type) (enc : TypeId × Value → H) :
    ReturnsInHanded {} Try.checked os 4 .any (Rows.textureRightSpec.pre6 enc Try.prog Try.f4 Rows.textureRightRow.domain false) (Rows.textureRightSpec.post enc Try.prog Try.f4 false true false false) := by
  refine returnsInHanded_of_change (C := Try.checked) own started (by kernel_rfl) Try.func4
    (ChangeSpec.witness6 (enc := enc) (C := Try.checked) false ⟨#[], #[.agg #[.int .u8 0, .int .u8 0], .int .u16 0, .agg #[.int .i64 0, .int .i64 0, .slice none 0 0]], []⟩ 8 (by kernel_rfl) (by kernel_rfl) (by kernel_rfl) (by kernel_rfl)) ?_
  intro W base args ds gs before hval hW _ _
  exact contract H enc W base args ds gs before hval hW

theorem proved : Rows.TextureRightSaid :=
  OpenClaim.holds_of_wide 4 Try.f4 rfl rfl rfl rfl rfl rfl rfl ⟨rfl, rfl, rfl, rfl, rfl⟩ rfl rfl rfl rfl rfl (by kernel_rfl) Try.func4 (by kernel_rfl)
    (of_decide_eq_true (by kernel_rfl)) (by unfold Func.isWrapper; first | (rw [if_pos (by decide +kernel)]; kernel_rfl) | (rw [if_neg (by decide +kernel)]; exact ⟨rfl, rfl⟩))
    (fun os started H enc _ => lifted os started H enc)
end Go.Proofs.Ytpdomjkgdlineaa.textureRight
