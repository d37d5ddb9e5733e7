/- TextureRight, plain: the law. -/
import Derived.Test.YtpdomjkgdlineaaBP2
set_option linter.unusedVariables false
set_option linter.unusedSimpArgs false
set_option linter.unnecessarySimpa false
set_option linter.deprecated false
namespace Gz
open Go

def fewL (l : List Col) : List Col := if ln l > 300 then l.take 300 else l
theorem F16xeq {α : Type} (k0 : Int → Int → List Col → Option α) (x y : Int) (l : List Col) : F16 k0 x y l = k0 x y (fewL l) := by
  unfold F16 F16g fewL
  by_cases h : ln l > 300
  · rw [cd_t h, if_pos h, cond_t (insl_t (by omega) (by omega) (by rw [ln_def] at h; omega))]
    rfl
  · rw [cd_f h, if_neg h]
theorem fewL_mem {l : List Col} {c : Col} (h : c ∈ fewL l) : c ∈ l := by
  unfold fewL at h
  split at h
  · exact List.mem_of_mem_take h
  · exact h

theorem F27xex {α : Type} (k0 : Int → Option α) (x : Int) : ∃ r, 0 ≤ r ∧ r < 16 ∧ F27 k0 x 16 = k0 r := by
  have h := tmod_bd (x := x) (show (1 : Int) ≤ 16 by omega)
  have e1 : (!((16 : Int) == 0)) = true := rfl
  unfold F27 F27g
  simp only [e1, cond_true]
  by_cases h2 : Int.tmod x 16 < 0
  · refine ⟨Int.tmod x 16 + 16, by omega, by omega, ?_⟩
    rw [cd_t h2, wi64xid (by omega) (by omega)]
  · exact ⟨Int.tmod x 16, by omega, by omega, by rw [cd_f h2]⟩

theorem L15x3ex {α : Type} (k0 : Int → Int → List Col → Int → Int → Int → Int → List Col → List Col → Option α) (x y a b W H : Int) (l l0 : List Col) (hl : ∀ c ∈ l, okC c) (h0 : 0 ≤ W * H) (h1 : W * H ≤ 256) : ∀ (n : Nat) (i : Int) (out : List Col),
    ln out = i → i ≤ W * H → (W * H - i).toNat < n → (∀ c ∈ out, okC c) → ∃ out', (∀ c ∈ out', okC c) ∧ ln out' = W * H ∧ L15x3 k0 n i x y l a b W H l0 out = k0 x y l a b W H l0 out'
  | 0, i, out, h2, h3, h4, h5 => by omega
  | n + 1, i, out, h2, h3, h4, h5 => by
    have hi : 0 ≤ i := by rw [← h2, ln_def]; omega
    simp only [L15x3, L15x3g]
    rw [wi64xid (n := W * H) (by omega) (by omega)]
    by_cases h6 : i < W * H
    · rw [cd_t h6]
      have step : ∀ c : Col, okC c → ∃ out', (∀ c ∈ out', okC c) ∧ ln out' = W * H ∧ L15x3 k0 n (i + 1) x y l a b W H l0 (out ++ [c]) = k0 x y l a b W H l0 out' := fun c hc =>
        L15x3ex k0 x y a b W H l l0 hl h0 h1 n (i + 1) (out ++ [c]) (by rw [ln_def] at h2 ⊢; simp; omega) (by omega) (by omega) (fun d hd => by
          rcases List.mem_append.1 hd with hd | hd
          · exact h5 d hd
          · simp at hd; subst hd; exact hc)
      have hr : ∀ c : Col, room out [c] = true := fun c => room_t (by rw [ln_def] at h2; simp; omega)
      rw [wi64xid (n := i + 1) (by omega) (by omega)]
      by_cases h7 : i < ln l
      · rw [cd_t h7, cond_t (inb_t hi (by rw [ln_def] at h7; omega))]
        rw [cond_t (hr _)]
        refine step _ (hl _ ?_)
        obtain ⟨m, rfl⟩ := Int.eq_ofNat_of_zero_le hi
        have hm : m < l.length := by rw [ln_def] at h7; omega
        rw [rd_n m hm]
        exact List.getElem_mem hm
      · rw [cd_f h7]
        rw [cond_t (hr _)]
        refine step _ ⟨?_, ?_, by simp, by simp⟩
        · show 0 ≤ wu8 _ ∧ wu8 _ ≤ 255
          rw [wu8xdef]; omega
        · show 0 ≤ wu8 _ ∧ wu8 _ ≤ 255
          rw [wu8xdef]; omega
    · rw [cd_f h6]
      exact ⟨out, h5, by omega, rfl⟩
theorem area {W H : Int} (hW : 1 ≤ W ∧ W ≤ 16) (hH : 1 ≤ H ∧ H ≤ 16) : 0 ≤ W * H ∧ W * H ≤ 256 := by
  refine ⟨Int.mul_nonneg (by omega) (by omega), ?_⟩
  have h3 : W * H ≤ 16 * H := Int.mul_le_mul_of_nonneg_right hW.2 (by omega)
  omega
theorem F15xex {α : Type} {N : Nat} (hN : 300 ≤ N) (k0 : Int → Int → List Col → Option α) (x y : Int) (l : List Col) (hl : ∀ c ∈ l, okC c) : ∃ W H l', Pic W H l' ∧ F15 N k0 x y l = k0 W H l' := by
  unfold F15 F15g
  obtain ⟨r, r1, r2, e⟩ := F27xex (fun x233 => F27 (fun x234 => L15x3 (fun x254 x255 l256 x257 x258 x259 x260 l261 l262 => k0 x259 x260 l262) N 0 x y l 0 0 (wi64 (1 + x233)) (wi64 (1 + x234)) [] []) y 16) x
  obtain ⟨q, q1, q2, e2⟩ := F27xex (fun x234 => L15x3 (fun x254 x255 l256 x257 x258 x259 x260 l261 l262 => k0 x259 x260 l262) N 0 x y l 0 0 (wi64 (1 + r)) (wi64 (1 + x234)) [] []) y
  have e3 := e.trans e2
  rw [wi64xid (n := 1 + r) (by omega) (by omega), wi64xid (n := 1 + q) (by omega) (by omega)] at e3
  have ar := area (W := 1 + r) (H := 1 + q) (by omega) (by omega)
  obtain ⟨out', o1, o2, o3⟩ := L15x3ex (fun x254 x255 l256 x257 x258 x259 x260 l261 l262 => k0 x259 x260 l262) x y 0 0 (1 + r) (1 + q) l [] hl ar.1 ar.2 N 0 [] rfl ar.1 (by omega) (fun c hc => by simp at hc)
  exact ⟨1 + r, 1 + q, out', ⟨by omega, by omega, o2, o1⟩, e3.trans o3⟩

def ptI (x a : Int) : Int := (2 * (x * a) + 255) / 510
theorem ptI_bd {x a : Int} (hx : 0 ≤ x ∧ x ≤ 255) (ha : 0 ≤ a ∧ a ≤ 255) : 0 ≤ ptI x a ∧ ptI x a ≤ a := by
  have h1 : 0 ≤ x * a := Int.mul_nonneg hx.1 ha.1
  have h3 : x * a ≤ 255 * a := Int.mul_le_mul_of_nonneg_right hx.2 ha.1
  unfold ptI; omega
theorem F28xeq {α : Type} (k0 : Int → Option α) {x a : Int} (hx : 0 ≤ x ∧ x ≤ 255) (ha : 0 ≤ a ∧ a ≤ 255) : F28 k0 x a = k0 (ptI x a) := by
  have h1 : 0 ≤ x * a := Int.mul_nonneg hx.1 ha.1
  have h3 : x * a ≤ 255 * a := Int.mul_le_mul_of_nonneg_right hx.2 ha.1
  have hb := ptI_bd hx ha
  unfold F28 F28g
  rw [wi64xid (n := x) (by omega) (by omega), wi64xid (n := a) (by omega) (by omega), wi64xid (n := x * a) (by omega) (by omega)]
  unfold F38 F38g
  rw [cd_f (by omega), cd_f (by omega), wi64xid (n := 2 * (x * a)) (by omega) (by omega), wi64xid (n := 2 * (x * a) + 255) (by omega) (by omega), Int.tdiv_eq_ediv_of_nonneg (by omega)]
  show k0 (wu8 (wi64 (ptI x a))) = _
  rw [wi64xid (by omega) (by omega), wu8xid (by omega) (by omega)]
def preP (c : Col) : Col := ⟨ptI c.r c.a, ptI c.g c.a, ptI c.b c.a, c.a⟩
theorem preP_ok {c : Col} (h : okC c) : okC (preP c) ∧ preC (preP c) := by
  have h1 := ptI_bd h.1 h.2.2.2
  have h2 := ptI_bd h.2.1 h.2.2.2
  have h3 := ptI_bd h.2.2.1 h.2.2.2
  have h4 := h.2.2.2
  unfold okC preC preP
  refine ⟨⟨⟨?_, ?_⟩, ⟨?_, ?_⟩, ⟨?_, ?_⟩, ?_⟩, ?_, ?_, ?_⟩ <;> first | exact h4 | (simp only []; omega)
theorem F17xeq {α : Type} (k0 : Int → Int → Int → Int → Option α) {c : Col} (h : okC c) : F17 k0 c.r c.g c.b c.a = k0 (preP c).r (preP c).g (preP c).b (preP c).a := by
  unfold F17 F17g
  rw [F28xeq _ h.1 h.2.2.2]
  show F28 _ c.g c.a = _
  rw [F28xeq _ h.2.1 h.2.2.2]
  show F28 _ c.b c.a = _
  rw [F28xeq _ h.2.2.1 h.2.2.2]
  rfl

theorem L4x10ex {α : Type} (k0 : Int → Bool → Int → Int → Int → Bool → List Int → Int → Int → List Col → Int → Int → Int → Int → Int → Int → List Col → List Col → List Col → Option α)
    (y0 : Int) (b1 : Bool) (y2 y3 y4 : Int) (b5 : Bool) (m6 : List Int) (y7 y8 : Int) (m9 : List Col) (z0 z1 z2 z3 W H : Int) (m1 m2 : List Col) : ∀ (n i : Nat) (l : List Col), Pic W H l → i ≤ l.length → l.length - i < n →
    (∀ j c, j < i → l[j]? = some c → preC c) → ∃ l', Pic W H l' ∧ (∀ c ∈ l', preC c) ∧ L4x10 k0 n y0 b1 y2 y3 y4 b5 (i : Int) m6 y7 y8 m9 z0 z1 z2 z3 W H m1 m2 l = k0 y0 b1 y2 y3 y4 b5 m6 y7 y8 m9 z0 z1 z2 z3 W H m1 m2 l'
  | 0, i, l, p, h1, h2, h3 => by omega
  | n + 1, i, l, p, h1, h2, h3 => by
    have ar := p.area
    have hl := p.len
    rw [ln_def] at hl
    simp only [L4x10, L4x10g]
    by_cases h : i < l.length
    · rw [cd_t (show (i : Int) < ln l by rw [ln_def]; omega), cond_t (inb_n h), rd_n i h]
      have ho := p.ok _ (List.getElem_mem h)
      rw [F17xeq _ ho]
      rw [cond_t (inb_n h), wi64xid (n := (i : Int) + 1) (by omega) (by omega)]
      have hs : stL l (i : Int) (⟨(preP l[i]).r, (preP l[i]).g, (preP l[i]).b, (preP l[i]).a⟩ : Col) = l.set i (preP l[i]) := by simp [stL]
      rw [hs]
      have hq : Pic W H (l.set i (preP l[i])) := ⟨p.w, p.h, by rw [ln_def, List.length_set, ← ln_def]; exact p.len, fun c hc => by
        rcases List.mem_or_eq_of_mem_set hc with hc | hc
        · exact p.ok c hc
        · subst hc; exact (preP_ok ho).1⟩
      have := L4x10ex k0 y0 b1 y2 y3 y4 b5 m6 y7 y8 m9 z0 z1 z2 z3 W H m1 m2 n (i + 1) (l.set i (preP l[i])) hq (by rw [List.length_set]; omega) (by rw [List.length_set]; omega) (fun j c hj hc => by
        by_cases hji : i = j
        · subst hji
          rw [List.getElem?_set_self h] at hc
          cases hc
          exact (preP_ok ho).2
        · rw [List.getElem?_set_ne hji] at hc
          exact h3 j c (by omega) hc)
      exact this
    · rw [cd_f (show ¬ (i : Int) < ln l by rw [ln_def]; omega)]
      refine ⟨l, p, fun c hc => ?_, rfl⟩
      obtain ⟨j, hj, rfl⟩ := List.getElem_of_mem hc
      exact h3 j _ (by omega) (List.getElem?_eq_getElem hj)

theorem F18xeq {α : Type} (k0 : Bool → Option α) {c : Col} (h : preC c) : F18 k0 c.r c.g c.b c.a = k0 true := by
  unfold F18 F18g
  rw [cd_t h.1, cd_t h.2.1, decide_eq_true h.2.2]

theorem tail {α : Type} {N : Nat} (hN : 300 ≤ N) (k0 : Bool → Option α) (x0 x1 x2 x3 x4 v0 v1 v2 v3 : Int) (b : Bool) (l5 : List Col) (h5 : ∀ c ∈ l5, okC c) (h2 : 0 ≤ x2 ∧ x2 ≤ 65535) (h0 : 0 ≤ v0) (hv1 : 0 ≤ v1 ∧ v1 ≤ 20) (hv2 : 0 ≤ v2 ∧ v2 ≤ 20) (hv3 : v3 = v1 * v2) (hb : b = fineB v1 v2) :
    F16 (fun (x224 : Int) (x225 : Int) (l226 : List Col) => F15 N (fun (x266 : Int) (x267 : Int) (l268 : List Col) => L4x10 (fun (x329 : Int) (b330 : Bool) (x331 : Int) (x332 : Int) (x333 : Int) (b334 : Bool) (l335 : List Int) (x336 : Int) (x337 : Int) (l338 : List Col) (x339 : Int) (x340 : Int) (x341 : Int) (x342 : Int) (x343 : Int) (x344 : Int) (l345 : List Col) (l346 : List Col) (l347 : List Col) => F19 N (fun (x348 : Int) (x349 : Int) (x350 : Int) (x351 : Int) => F18 (fun (b357 : Bool) => bif b330 then F20 N (fun (b358 : Bool) => bif b334 then bif b358 == (x333 == (wi64 (x331 * x332))) then F20 N (fun (b359 : Bool) => bif b359 == b334 then k0 b357 else k0 false) x341 x342 l346 else k0 false else bif b358 == false then F20 N (fun (b361 : Bool) => bif b361 == b334 then k0 b357 else k0 false) x341 x342 l346 else k0 false) x339 x340 l345 else k0 false) x348 x349 x350 x351) x343 x344 l347 (wi64 (5 * (wi64 x329))) (wi64 (x331 - x332))) N x2 true v1 v2 v0 b 0 ([x0, x1] : List Int) x3 x4 l5 v1 v2 v1 v2 x266 x267 (List.replicate (Int.toNat v0) (⟨0, 0, 0, 0⟩ : Col)) (List.replicate (Int.toNat v3) (⟨0, 0, 0, 0⟩ : Col)) l268) x224 x225 l226) x3 x4 l5 = k0 true := by
  have ar0 : 0 ≤ v1 * v2 := Int.mul_nonneg hv1.1 hv2.1
  have ar1 : v1 * v2 ≤ 20 * v2 := Int.mul_le_mul_of_nonneg_right hv1.2 hv2.1
  have hN3 : 3 ≤ N := by omega
  rw [F16xeq]
  try simp only []
  obtain ⟨W, H, l', p, e⟩ := F15xex hN (fun (x266 : Int) (x267 : Int) (l268 : List Col) => L4x10 (fun (x329 : Int) (b330 : Bool) (x331 : Int) (x332 : Int) (x333 : Int) (b334 : Bool) (l335 : List Int) (x336 : Int) (x337 : Int) (l338 : List Col) (x339 : Int) (x340 : Int) (x341 : Int) (x342 : Int) (x343 : Int) (x344 : Int) (l345 : List Col) (l346 : List Col) (l347 : List Col) => F19 N (fun (x348 : Int) (x349 : Int) (x350 : Int) (x351 : Int) => F18 (fun (b357 : Bool) => bif b330 then F20 N (fun (b358 : Bool) => bif b334 then bif b358 == (x333 == (wi64 (x331 * x332))) then F20 N (fun (b359 : Bool) => bif b359 == b334 then k0 b357 else k0 false) x341 x342 l346 else k0 false else bif b358 == false then F20 N (fun (b361 : Bool) => bif b361 == b334 then k0 b357 else k0 false) x341 x342 l346 else k0 false) x339 x340 l345 else k0 false) x348 x349 x350 x351) x343 x344 l347 (wi64 (5 * (wi64 x329))) (wi64 (x331 - x332))) N x2 true v1 v2 v0 b 0 ([x0, x1] : List Int) x3 x4 l5 v1 v2 v1 v2 x266 x267 (List.replicate (Int.toNat v0) (⟨0, 0, 0, 0⟩ : Col)) (List.replicate (Int.toNat v3) (⟨0, 0, 0, 0⟩ : Col)) l268) x3 x4 (fewL l5) (fun c hc => h5 c (fewL_mem hc))
  refine e.trans ?_
  try simp only []
  have hlen : l'.length ≤ 256 := by have := p.len; have := p.area; rw [ln_def] at *; omega
  obtain ⟨l2, p2, q2, e2⟩ := L4x10ex (fun (x329 : Int) (b330 : Bool) (x331 : Int) (x332 : Int) (x333 : Int) (b334 : Bool) (l335 : List Int) (x336 : Int) (x337 : Int) (l338 : List Col) (x339 : Int) (x340 : Int) (x341 : Int) (x342 : Int) (x343 : Int) (x344 : Int) (l345 : List Col) (l346 : List Col) (l347 : List Col) => F19 N (fun (x348 : Int) (x349 : Int) (x350 : Int) (x351 : Int) => F18 (fun (b357 : Bool) => bif b330 then F20 N (fun (b358 : Bool) => bif b334 then bif b358 == (x333 == (wi64 (x331 * x332))) then F20 N (fun (b359 : Bool) => bif b359 == b334 then k0 b357 else k0 false) x341 x342 l346 else k0 false else bif b358 == false then F20 N (fun (b361 : Bool) => bif b361 == b334 then k0 b357 else k0 false) x341 x342 l346 else k0 false) x339 x340 l345 else k0 false) x348 x349 x350 x351) x343 x344 l347 (wi64 (5 * (wi64 x329))) (wi64 (x331 - x332))) x2 true v1 v2 v0 b [x0, x1] x3 x4 l5 v1 v2 v1 v2 W H (List.replicate (Int.toNat v0) (⟨0, 0, 0, 0⟩ : Col)) (List.replicate (Int.toNat v3) (⟨0, 0, 0, 0⟩ : Col)) N 0 l' p (by omega) (by omega) (fun j c hj _ => by omega)
  refine Eq.trans e2 ?_
  try simp only []
  have w1 : wi64 x2 = x2 := wi64xid (by omega) (by omega)
  have w2 : wi64 (5 * x2) = 5 * x2 := wi64xid (by omega) (by omega)
  have w3 : wi64 (v1 - v2) = v1 - v2 := wi64xid (by omega) (by omega)
  have w4 : wi64 (v1 * v2) = v1 * v2 := wi64xid (by omega) (by omega)
  rw [w1, w2, w3]
  rw [F19xeq hN3 _ p2 (5 * x2) (v1 - v2) (by omega) (by omega)]
  rw [F18xeq _ (smooth_pre p2 q2 _ _)]
  simp only [cond_true]
  have r0 : ln (List.replicate (Int.toNat v0) (⟨0, 0, 0, 0⟩ : Col)) = v0 := by rw [ln_def, List.length_replicate]; omega
  have r3 : ln (List.replicate (Int.toNat v3) (⟨0, 0, 0, 0⟩ : Col)) = v3 := by rw [ln_def, List.length_replicate]; omega
  rw [F20xeq hN3 _ _ _ _ ar0 (by omega), r0, ← hb, w4]
  cases b with
  | false =>
    simp only [Bool.false_and, cond_false, beq_self_eq_true, cond_true]
    rw [F20xeq hN3 _ _ _ _ ar0 (by omega), ← hb]
    rfl
  | true =>
    simp only [Bool.true_and, cond_true, beq_self_eq_true]
    rw [F20xeq hN3 _ _ _ _ ar0 (by omega), ← hb, r3, hv3, beq_self_eq_true]
    rfl

theorem F4xeq {N : Nat} (hN : 300 ≤ N) (x0 x1 x2 x3 x4 : Int) (l5 : List Col) (h0 : 0 ≤ x0 ∧ x0 ≤ 255) (h1 : 0 ≤ x1 ∧ x1 ≤ 255) (h2 : 0 ≤ x2 ∧ x2 ≤ 65535) (h5 : ∀ c ∈ l5, okC c) {α : Type} (k0 : Bool → Option α) :
    F4 N k0 x0 x1 x2 x3 x4 l5 = k0 true := by
  unfold F4 F4g
  rw [F14xeq (by omega)]
  try simp only []
  rw [wi64xid (n := x0) (by omega) (by omega), wi64xid (n := x1) (by omega) (by omega), wi64xid (n := x2) (by omega) (by omega)]
  rw [Int.tmod_eq_emod_of_nonneg h0.1, Int.tmod_eq_emod_of_nonneg h1.1, Int.tmod_eq_emod_of_nonneg h2.1]
  have b0 : 0 ≤ x2 % 401 ∧ x2 % 401 ≤ 400 := by omega
  have b1 : 0 ≤ x0 % 21 ∧ x0 % 21 ≤ 20 := by omega
  have b2 : 0 ≤ x1 % 21 ∧ x1 % 21 ≤ 20 := by omega
  generalize x2 % 401 = v0 at b0 ⊢
  generalize x0 % 21 = v1 at b1 ⊢
  generalize x1 % 21 = v2 at b2 ⊢
  have ar0 : 0 ≤ v1 * v2 := Int.mul_nonneg b1.1 b2.1
  have ar1 : v1 * v2 ≤ 20 * v2 := Int.mul_le_mul_of_nonneg_right b1.2 b2.1
  rw [wi64xid (n := v1 * v2) (by omega) (by omega)]
  have i0 : inm v0 = true := by simp [inm, b0.1]; omega
  have i3 : inm (v1 * v2) = true := by simp [inm, ar0]; omega
  rw [cond_t i0, cond_t i3]
  by_cases c1 : v1 ≥ 1
  · rw [cd_t c1]
    by_cases c2 : v1 ≤ 16
    · rw [cd_t c2]
      by_cases c3 : v2 ≥ 1
      · rw [cd_t c3]
        exact tail hN k0 x0 x1 x2 x3 x4 v0 v1 v2 (v1 * v2) (decide (v2 ≤ 16)) l5 h5 h2 b0.1 b1 b2 rfl (by simp [fineB, show 1 ≤ v1 from c1, c2, show 1 ≤ v2 from c3])
      · rw [cd_f c3]
        exact tail hN k0 x0 x1 x2 x3 x4 v0 v1 v2 (v1 * v2) false l5 h5 h2 b0.1 b1 b2 rfl (by simp [fineB, show ¬ 1 ≤ v2 from c3])
    · rw [cd_f c2]
      exact tail hN k0 x0 x1 x2 x3 x4 v0 v1 v2 (v1 * v2) false l5 h5 h2 b0.1 b1 b2 rfl (by simp [fineB, c2])
  · rw [cd_f c1]
    exact tail hN k0 x0 x1 x2 x3 x4 v0 v1 v2 (v1 * v2) false l5 h5 h2 b0.1 b1 b2 rfl (by simp [fineB, show ¬ 1 ≤ v1 from c1])
end Gz
