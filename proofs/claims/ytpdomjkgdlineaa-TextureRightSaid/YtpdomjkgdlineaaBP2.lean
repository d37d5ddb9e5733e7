/- TextureRight, plain: pictures. -/
import Derived.Test.YtpdomjkgdlineaaBP1
set_option linter.unusedVariables false
set_option linter.unusedSimpArgs false
set_option linter.unnecessarySimpa false
set_option linter.deprecated false
namespace Gz
open Go

def fineB (W H : Int) : Bool := decide (1 ≤ W) && decide (W ≤ 16) && decide (1 ≤ H) && decide (H ≤ 16)
theorem F33xeq {α : Type} {N : Nat} (hN : 3 ≤ N) (k0 : Bool → Option α) (W H : Int) : F33 N k0 [W, H] = k0 (fineB W H) := by
  obtain ⟨n, rfl⟩ : ∃ n, N = n + 3 := ⟨N - 3, by omega⟩
  have l2 : ln ([W, H] : List Int) = 2 := rfl
  have i0 : inb 0 ([W, H] : List Int) = true := rfl
  have i1 : inb 1 ([W, H] : List Int) = true := rfl
  have r0 : rd .int ([W, H] : List Int) 0 = W := rfl
  have r1 : rd .int ([W, H] : List Int) 1 = H := rfl
  have a1 : wi64 (0 + 1) = 1 := rfl
  have a2 : wi64 (1 + 1) = 2 := rfl
  have d0 : decide ((0 : Int) < 2) = true := rfl
  have d1 : decide ((1 : Int) < 2) = true := rfl
  have d2 : decide ((2 : Int) < 2) = false := rfl
  simp only [F33, F33g, L33x2, L33x2g, l2, i0, i1, r0, r1, a1, a2, d0, d1, d2, cond_true, cond_false]
  by_cases h1 : W < 1
  · rw [cd_t h1]; simp [fineB, show ¬ 1 ≤ W by omega]
  · rw [cd_f h1]
    by_cases h2 : W > 16
    · rw [cd_t h2]; simp [fineB, show ¬ W ≤ 16 by omega]
    · rw [cd_f h2]
      by_cases h3 : H < 1
      · rw [cd_t h3]; simp [fineB, show ¬ 1 ≤ H by omega]
      · rw [cd_f h3]
        by_cases h4 : H > 16
        · rw [cd_t h4]; simp [fineB, show ¬ H ≤ 16 by omega]
        · rw [cd_f h4]; simp [fineB, show 1 ≤ W by omega, show W ≤ 16 by omega, show 1 ≤ H by omega, show H ≤ 16 by omega]
theorem F20xeq {α : Type} {N : Nat} (hN : 3 ≤ N) (k0 : Bool → Option α) (W H : Int) (l : List Col) (h : 0 ≤ W * H) (h' : W * H ≤ 100000) : F20 N k0 W H l = k0 (fineB W H && (ln l == W * H)) := by
  unfold F20 F20g
  rw [F33xeq hN, wi64xid (by omega) (by omega)]
  cases fineB W H <;> rfl

/-- A picture that is as it should be. -/
structure Pic (W H : Int) (l : List Col) : Prop where
  w : 1 ≤ W ∧ W ≤ 16
  h : 1 ≤ H ∧ H ≤ 16
  len : ln l = W * H
  ok : ∀ c ∈ l, okC c
theorem Pic.fine {W H : Int} {l : List Col} (p : Pic W H l) : fineB W H = true := by simp [fineB, p.w.1, p.w.2, p.h.1, p.h.2]
theorem Pic.area {W H : Int} {l : List Col} (p : Pic W H l) : 0 ≤ W * H ∧ W * H ≤ 256 := by
  have h1 := p.w; have h2 := p.h
  refine ⟨Int.mul_nonneg (by omega) (by omega), ?_⟩
  have h3 : W * H ≤ 16 * H := Int.mul_le_mul_of_nonneg_right h1.2 (by omega)
  omega

def wrp (x W : Int) : Int := Int.tmod (Int.tmod x W + W) W
theorem wrp_bd {x W : Int} (h : 1 ≤ W) : 0 ≤ wrp x W ∧ wrp x W < W := by
  have h1 : -W < Int.tmod x W := by
    rcases Int.le_total 0 x with hx | hx
    · have := Int.tmod_nonneg W hx; omega
    · have h2 := Int.tmod_lt_of_pos (-x) (show 0 < W by omega)
      rw [Int.neg_tmod] at h2; omega
  have h2 := Int.tmod_lt_of_pos x (show 0 < W by omega)
  exact ⟨Int.tmod_nonneg W (by omega), Int.tmod_lt_of_pos _ (by omega)⟩
def atW (W H : Int) (x y : Int) : Int := wrp y H * W + wrp x W
theorem atW_bd {W H : Int} (x y : Int) (hw : 1 ≤ W) (hh : 1 ≤ H) : 0 ≤ atW W H x y ∧ atW W H x y < W * H := by
  have h1 := wrp_bd (x := x) hw
  have h2 := wrp_bd (x := y) hh
  have h3 : 0 ≤ wrp y H * W := Int.mul_nonneg h2.1 (by omega)
  have h4 : (wrp y H + 1) * W ≤ H * W := Int.mul_le_mul_of_nonneg_right (by omega) (by omega)
  rw [Int.add_mul, Int.one_mul, Int.mul_comm H W] at h4
  unfold atW; omega
def texC (W H : Int) (l : List Col) (x y : Int) : Col := rd .col l (atW W H x y)
theorem texC_mem {W H : Int} {l : List Col} (p : Pic W H l) (x y : Int) : texC W H l x y ∈ l := by
  have h := atW_bd x y p.w.1 p.h.1
  have h2 := p.len
  rw [ln_def] at h2
  have h3 : (atW W H x y).toNat < l.length := by omega
  unfold texC rd
  rw [List.getD_eq_getElem?_getD, List.getElem?_eq_getElem h3]
  exact List.getElem_mem h3
theorem tmod_bd {x W : Int} (h : 1 ≤ W) : -W < Int.tmod x W ∧ Int.tmod x W < W := by
  have h2 := Int.tmod_lt_of_pos x (show 0 < W by omega)
  refine ⟨?_, h2⟩
  rcases Int.le_total 0 x with hx | hx
  · have := Int.tmod_nonneg W hx; omega
  · have h2 := Int.tmod_lt_of_pos (-x) (show 0 < W by omega)
    rw [Int.neg_tmod] at h2; omega
theorem F32xeq {α : Type} {N : Nat} (hN : 3 ≤ N) (k0 : Int → Int → Int → Int → Option α) {W H : Int} {l : List Col} (p : Pic W H l) (x y : Int) :
    F32 N k0 W H l x y = k0 (texC W H l x y).r (texC W H l x y).g (texC W H l x y).b (texC W H l x y).a := by
  have ha := p.area
  have hw := p.w
  have hh := p.h
  have e1 : (!(W == 0)) = true := by rw [beq_eq_false_iff_ne.2 (by omega)]; rfl
  have e2 : (!(H == 0)) = true := by rw [beq_eq_false_iff_ne.2 (by omega)]; rfl
  have e3 : (ln l == W * H) = true := by rw [p.len]; exact beq_self_eq_true _
  have hb := atW_bd x y hw.1 hh.1
  have tx := tmod_bd (x := x) hw.1
  have ty := tmod_bd (x := y) hh.1
  have v2 : wi64 ((wi64 ((Int.tmod (wi64 ((Int.tmod y H) + H)) H) * W)) + (Int.tmod (wi64 ((Int.tmod x W) + W)) W)) = atW W H x y := by
    have h1 := wrp_bd (x := x) hw.1
    have h2 := wrp_bd (x := y) hh.1
    have h3 : 0 ≤ wrp y H * W := Int.mul_nonneg h2.1 (by omega)
    have hb' := hb
    unfold atW at hb'
    rw [wi64xid (n := Int.tmod y H + H) (by omega) (by omega), wi64xid (n := Int.tmod x W + W) (by omega) (by omega)]
    show wi64 (wi64 (wrp y H * W) + wrp x W) = _
    rw [wi64xid (n := wrp y H * W) (by omega) (by omega), wi64xid (by omega) (by omega)]
    rfl
  have hl := p.len
  rw [ln_def] at hl
  have e4 : inb (atW W H x y) l = true := inb_t (by omega) (by omega)
  unfold F32 F32g
  rw [F20xeq hN _ _ _ _ ha.1 (by omega), p.fine, e3]
  simp only [Bool.and_self, Bool.not_true, cond_false, e1, e2, cond_true, v2, e4]
  rfl

def smooth (W H : Int) (l : List Col) (u v : Int) : Col :=
  mixC (mixC (texC W H l ((u - 8) / 16) ((v - 8) / 16)) (texC W H l ((u - 8) / 16 + 1) ((v - 8) / 16)) (16 * ((u - 8) % 16)))
    (mixC (texC W H l ((u - 8) / 16) ((v - 8) / 16 + 1)) (texC W H l ((u - 8) / 16 + 1) ((v - 8) / 16 + 1)) (16 * ((u - 8) % 16))) (16 * ((v - 8) % 16))
theorem F19xeq {α : Type} {N : Nat} (hN : 3 ≤ N) (k0 : Int → Int → Int → Int → Option α) {W H : Int} {l : List Col} (p : Pic W H l) (u v : Int) (hu : -900000 ≤ u ∧ u ≤ 900000) (hv : -900000 ≤ v ∧ v ≤ 900000) :
    F19 N k0 W H l u v = k0 (smooth W H l u v).r (smooth W H l u v).g (smooth W H l u v).b (smooth W H l u v).a := by
  have o := fun x y => p.ok _ (texC_mem p x y)
  unfold F19 F19g
  rw [wi64xid (n := u - 8) (by omega) (by omega), wi64xid (n := v - 8) (by omega) (by omega), F29xeq _ (by omega) (by omega)]
  show F29 N _ (v - 8) = _
  rw [F29xeq _ (by omega) (by omega)]
  show F32 N _ W H l ((u - 8) / 16) ((v - 8) / 16) = _
  rw [F32xeq hN _ p]
  have a1 : wi64 ((u - 8) / 16 + 1) = (u - 8) / 16 + 1 := wi64xid (by omega) (by omega)
  have a2 : wi64 ((v - 8) / 16 + 1) = (v - 8) / 16 + 1 := wi64xid (by omega) (by omega)
  have a3 : wi64 (16 * ((u - 8) % 16)) = 16 * ((u - 8) % 16) := wi64xid (by omega) (by omega)
  have a4 : wi64 (16 * ((v - 8) % 16)) = 16 * ((v - 8) % 16) := wi64xid (by omega) (by omega)
  simp only [a1, a2, a3, a4]
  rw [F32xeq hN _ p]
  try simp only []
  rw [F31xeq _ _ _ _ (o _ _) (o _ _) (by omega)]
  try simp only []
  rw [F32xeq hN _ p]
  try simp only []
  rw [F32xeq hN _ p]
  try simp only []
  rw [F31xeq _ _ _ _ (o _ _) (o _ _) (by omega)]
  try simp only []
  rw [F31xeq _ _ _ _ (mixC_ok (o _ _) (o _ _) (by omega)) (mixC_ok (o _ _) (o _ _) (by omega)) (by omega)]
  rfl
theorem smooth_pre {W H : Int} {l : List Col} (p : Pic W H l) (hp : ∀ c ∈ l, preC c) (u v : Int) : preC (smooth W H l u v) := by
  have o := fun x y => hp _ (texC_mem p x y)
  exact mixC_pre (mixC_pre (o _ _) (o _ _) (by omega)) (mixC_pre (o _ _) (o _ _) (by omega)) (by omega)
theorem shownPic : Pic 2 1 [(⟨0, 0, 0, 0⟩ : Col), (⟨255, 255, 255, 255⟩ : Col)] := by
  refine ⟨by omega, by omega, rfl, ?_⟩
  intro c hc
  simp only [List.mem_cons, List.not_mem_nil, or_false] at hc
  rcases hc with rfl | rfl <;> simp [okC]
theorem F14xeq {α : Type} {N : Nat} (hN : 3 ≤ N) (k0 : Bool → Option α) : F14 N k0 = k0 true := by
  unfold F14 F14g
  rw [F19xeq hN _ shownPic 16 0 (by omega) (by omega)]
  have : smooth 2 1 [(⟨0, 0, 0, 0⟩ : Col), (⟨255, 255, 255, 255⟩ : Col)] 16 0 = ⟨128, 128, 128, 128⟩ := by decide +kernel
  rw [this]
  rfl
end Gz
