/- Numbers read out of bytes: the program's, the reference's. -/
import Derived.Test.YtpdomjkgdlineaaP3
set_option linter.unusedVariables false
set_option linter.unusedSimpArgs false
set_option linter.unnecessarySimpa false
set_option linter.deprecated false
namespace Gz
open Go

def bl (p : Nat) : Nat := if p ≤ 1 then p else Nat.log2 p + 1
theorem len64xsmall : ∀ p : Nat, p < 128 → F48 (α := Int) some (p : Int) = some (bl p : Int) := by decide +kernel
theorem bl_le : ∀ p : Nat, p < 128 → bl p ≤ 7 ∧ (bl p ≤ 1 ↔ p ≤ 1) := by decide +kernel

section
variable {α : Type}
set_option maxRecDepth 100000 in
theorem F48xeq (k : Int → Option α) (p : Nat) (hp : p < 128) : F48 k (p : Int) = k (bl p : Int) := by
  have key : ∃ t : Int, ∀ (β : Type) (k : Int → Option β), F48 k (p : Int) = k t := by
    apply Exists.intro
    intro β k
    unfold F48 F48g
    simp only []
    rw [cond_f (by simp; omega), cond_f (by simp; omega), cond_f (by simp; omega), cond_t (inS_t (by rw [wu8xid] <;> omega) (by rw [wu8xid (by omega) (by omega)]; show (p : Int) < ((256 : Nat) : Int); omega))]
  obtain ⟨t, ht⟩ := key
  have h1 := ht Int some
  rw [len64xsmall p hp] at h1
  cases h1
  exact ht α k

def rdR (k0 : Int → Int → Option α) (i X : Nat) : Option (Nat × Nat) → Option α
  | some (w, m) => k0 (uz (X + w * 2 ^ (7 * i))) ((i + m : Nat) : Int)
  | none => k0 0 0
theorem pow7 (i : Nat) : (2 : Nat) ^ (7 * i) = 128 ^ i := by rw [Nat.pow_mul]

theorem L44x3xeq (k0 : Int → Int → Option α) (k1 : Option α) (hk : k1 = k0 0 0) (l : List Int) (hb : okB l) : ∀ (n i X : Nat), 11 - i < n → i ≤ 10 → i ≤ l.length → X < 2 ^ (7 * i) →
    L44x3 k0 k1 n (X : Int) ((7 * i : Nat) : Int) l (ln l) (i : Int) = rdR k0 i X (rdC i (l.drop i))
  | 0, _, _, h, _, _, _ => by omega
  | n + 1, i, X, hn, hi, hil, hX => by
    simp only [L44x3, L44x3g]
    by_cases h : i < l.length
    · have hc := hb _ (List.getElem_mem h)
      obtain ⟨c, hc'⟩ : ∃ c : Nat, l[i] = (c : Int) := ⟨(l[i]).toNat, by omega⟩
      rw [List.drop_eq_getElem_cons h]
      rw [cond_t (by simp [ln_def]; omega), cond_t (inb_n h), rd_n i h, hc']
      have hc2 : c < 256 := by omega
      rw [bandNot_128 c hc2]
      have e1 : wu64 ((c % 128 : Nat) : Int) = ((c % 128 : Nat) : Int) := wu64xid (by omega) (by omega)
      obtain ⟨b1, b2⟩ := bl_le (c % 128) (by omega)
      rw [e1, F48xeq _ _ (by omega), wi64xid (n := ((7 * i : Nat) : Int) + (bl (c % 128) : Int)) (by omega) (by omega)]
      simp only [rdC]
      by_cases hbig : 10 ≤ i ∨ (i = 9 ∧ 1 < (c : Int) % 128)
      · rw [cond_t (by simp; omega), if_pos (.inl hbig)]
        rfl
      rw [cond_f (by simp; omega)]
      have hi9 : i ≤ 9 := by omega
      have hp1 : (c % 128) * 2 ^ (7 * i) < 18446744073709551616 ∧ X + (c % 128) * 2 ^ (7 * i) < 18446744073709551616 ∧ (i ≤ 9 → 2 ^ (7 * i) ≤ 9223372036854775808) := by
        by_cases h9 : i = 9
        · subst h9
          simp only [Nat.reduceMul, Nat.reducePow] at hX ⊢
          omega
        · have h3 : 2 ^ (7 * i) ≤ 2 ^ 56 := Nat.pow_le_pow_right (by omega) (by omega)
          have h4 : (c % 128) * 2 ^ (7 * i) ≤ 127 * 2 ^ 56 := Nat.mul_le_mul (by omega) h3
          simp only [Nat.reducePow] at h3 h4
          omega
      have hsh : ishl .u64 ((c % 128 : Nat) : Int) ((7 * i : Nat) : Int) = (((c % 128) * 2 ^ (7 * i) : Nat) : Int) := ishl_n (by omega) hp1.1
      have hor : bor .u64 (X : Int) (ishl .u64 ((c % 128 : Nat) : Int) ((7 * i : Nat) : Int)) = ((X + (c % 128) * 2 ^ (7 * i) : Nat) : Int) := by rw [hsh]; exact bor_add hX hp1.2.1
      -- what is done with a byte that may be
      have good : (bif decide (0 ≤ ((7 * i : Nat) : Int)) then
            bif decide ((c : Int) < 128) then k0 (bxor .i64 (wi64 (ishr .u64 (bor .u64 (X : Int) (ishl .u64 ((c % 128 : Nat) : Int) ((7 * i : Nat) : Int))) 1)) (wi64 (0 - wi64 (band .u64 (bor .u64 (X : Int) (ishl .u64 ((c % 128 : Nat) : Int) ((7 * i : Nat) : Int))) 1)))) (wi64 ((i : Int) + 1))
            else L44x3 k0 k1 n (bor .u64 (X : Int) (ishl .u64 ((c % 128 : Nat) : Int) ((7 * i : Nat) : Int))) (wi64 (((7 * i : Nat) : Int) + 7)) l (ln l) (wi64 ((i : Int) + 1))
          else none) = rdR k0 i X (if (c : Int) < 128 then some ((c : Int).toNat, 1) else rdM c (rdC (i + 1) (l.drop (i + 1)))) := by
        rw [cond_t (by simp; omega), hor, uz_word hp1.2.1, wi64xid (n := (i : Int) + 1) (by omega) (by omega), wi64xid (n := ((7 * i : Nat) : Int) + 7) (by omega) (by omega)]
        by_cases hlt : (c : Int) < 128
        · rw [cond_t (by simpa using hlt), if_pos hlt]
          have : c % 128 = c := by omega
          simp [this, rdR]
        · rw [cond_f (by simpa using hlt), if_neg hlt]
          have e2 : (i : Int) + 1 = ((i + 1 : Nat) : Int) := by omega
          have e3 : ((7 * i : Nat) : Int) + 7 = ((7 * (i + 1) : Nat) : Int) := by omega
          have hpw : 2 ^ (7 * (i + 1)) = 2 ^ (7 * i) * 128 := by rw [show 7 * (i + 1) = 7 * i + 7 by omega, Nat.pow_add]
          have hmul : (c % 128) * 2 ^ (7 * i) ≤ 127 * 2 ^ (7 * i) := Nat.mul_le_mul_right _ (by omega)
          rw [e2, e3, L44x3xeq k0 k1 hk l hb n (i + 1) (X + (c % 128) * 2 ^ (7 * i)) (by omega) (by omega) (by omega) (by rw [hpw]; omega)]
          cases rdC (i + 1) (l.drop (i + 1)) with
          | none => rfl
          | some p =>
            obtain ⟨w, m⟩ := p
            simp only [rdM, rdR]
            have e4 : X + (c % 128) * 2 ^ (7 * i) + w * 2 ^ (7 * (i + 1)) = X + (((c : Int) % 128).toNat + 128 * w) * 2 ^ (7 * i) := by
              have e5 : ((c : Int) % 128).toNat = c % 128 := by omega
              have e6 : w * (2 ^ (7 * i) * 128) = 128 * w * 2 ^ (7 * i) := by rw [Nat.mul_comm (2 ^ (7 * i)) 128, ← Nat.mul_assoc, Nat.mul_comm w 128]
              rw [e5, hpw, Nat.add_mul, e6]; omega
            rw [e4]
            congr 2; omega
      by_cases h0 : (c : Int) = 0
      · rw [cond_t (by simpa using h0)]
        by_cases hi0 : 0 < i
        · rw [cond_t (by simpa using hi0), if_pos (.inr ⟨h0, hi0⟩)]
          rfl
        · rw [cond_f (by simpa using hi0), if_neg (by omega)]
          exact good
      · rw [cond_f (by simpa using h0), if_neg (by omega)]
        exact good
    · rw [cond_f (by simp [ln_def]; omega), List.drop_eq_nil_of_le (by omega), hk]
      rfl

def rd0 (b : List Int) : Option (Nat × Nat) := rdC 0 b
def rdF (k0 : Int → Int → Option α) : Option (Nat × Nat) → Option α
  | some (v, m) => k0 (uz v) (m : Int)
  | none => k0 0 0
theorem F44xeq {N : Nat} (hN : 20 ≤ N) (k0 : Int → Int → Option α) (b : List Int) (hb : okB b) : F44 N k0 b = rdF k0 (rdC 0 b) := by
  unfold F44 F44g
  have := L44x3xeq (fun x211 x212 => k0 x211 x212) (k0 0 0) rfl b hb N 0 0 (by omega) (by omega) (by omega) (by simp)
  rw [List.drop_zero] at this
  refine Eq.trans this ?_
  cases rdC 0 b with
  | none => rfl
  | some q => simp [rdR, rdF]

/-- All numbers of bytes. -/
def nums : Nat → List Int → Option (List Int)
  | 0, _ => none
  | n + 1, b => if b = [] then some [] else match rdC 0 b with
    | some (v, m) => (nums n (b.drop m)).map (uz v :: ·)
    | none => none

theorem okB_drop {b : List Int} (h : okB b) (n : Nat) : okB (b.drop n) := fun x hx => h x (List.mem_of_mem_drop hx)
/-- .. or those before the first place that is none, and that there is one. -/
def alls : Nat → List Int → List Int × Bool
  | 0, _ => ([], true)
  | n + 1, b => if b = [] then ([], false) else match rdC 0 b with
    | some (v, m) => let r := alls n (b.drop m); (uz v :: r.1, r.2)
    | none => ([], true)

theorem L43x1xeq {N : Nat} (hN : 20 ≤ N) (k0 k1 k2 : List Int → List Int → List Int → Option α) (l : List Int) (hb : okB l) (l2 : List Int) (hl : l.length ≤ 100000) : ∀ (n i : Nat) (acc : List Int), i ≤ l.length → l.length - i < n → acc.length ≤ i →
    ∃ acc', L43x1 N k0 k1 k2 n (i : Int) l l2 acc = if (alls n (l.drop i)).2 = true then k0 l [] acc' else k2 l l2 (acc ++ (alls n (l.drop i)).1)
  | 0, _, _, _, h, _ => by omega
  | n + 1, i, acc, ha, hn, hacc => by
    simp only [L43x1, L43x1g, alls]
    by_cases h : i < l.length
    · have hne : l.drop i ≠ [] := by
        intro e
        have := congrArg List.length e
        simp at this; omega
      rw [cond_t (by simp [ln_def]; omega), cond_t (insE_t (by omega) (by omega)), subE_n, F44xeq hN _ _ (okB_drop hb i), if_neg hne]
      cases hr : rdC 0 (l.drop i) with
      | none =>
        refine ⟨acc, ?_⟩
        simp only [rdF, if_true]
        rw [cond_t (by simp)]
      | some q =>
        obtain ⟨v, m⟩ := q
        obtain ⟨m0, m1, m2, _⟩ := rdC_0 (okB_drop hb i) hr
        simp at m1
        obtain ⟨acc', ih⟩ := L43x1xeq hN k0 k1 k2 l hb l2 hl n (i + m) (acc ++ [uz v]) (by omega) (by omega) (by simp; omega)
        refine ⟨acc', ?_⟩
        simp only [rdF]
        have e1 : wi64 ((i : Int) + (m : Int)) = ((i + m : Nat) : Int) := by rw [wi64xid (by omega) (by omega)]; omega
        rw [cond_f (by simp; omega), cond_t (room_t (by simp; omega)), cond_f (by simp; omega), e1, ih, List.drop_drop]
        simp
    · refine ⟨acc, ?_⟩
      have hnil : l.drop i = [] := List.drop_eq_nil_of_le (by omega)
      rw [cond_f (by simp [ln_def]; omega), hnil, if_pos rfl]
      simp

/-- The numbers of bytes, if they are that alone. -/
def numL (b : List Int) : List Int := if (alls (b.length + 1) b).2 = true then [] else (alls (b.length + 1) b).1
theorem alls_fuel : ∀ (n m : Nat) (b : List Int), okB b → b.length < n → b.length < m → alls n b = alls m b
  | 0, _, _, _, h, _ => by omega
  | _, 0, _, _, _, h => by omega
  | n + 1, m + 1, b, hb, h1, h2 => by
    simp only [alls]
    by_cases hne : b = []
    · rw [if_pos hne, if_pos hne]
    · rw [if_neg hne, if_neg hne]
      cases hr : rdC 0 b with
      | none => rfl
      | some q =>
        obtain ⟨v, k⟩ := q
        obtain ⟨m0, m1, _⟩ := rdC_0 hb hr
        simp only
        rw [alls_fuel n m (b.drop k) (okB_drop hb k) (by simp; omega) (by simp; omega)]

theorem F24xeq {N : Nat} (k0 : List Int → Option α) (b : List Int) (hb : okB b) (hl : b.length ≤ 100000) (hN : b.length + 20 ≤ N) : F24 N k0 b = k0 (numL b) := by
  unfold F24 F24g C42 G24x7 G24x7g
  rw [cond_t (room_t (by simp; omega))]
  obtain ⟨acc', h⟩ := L43x1xeq (N := N) (by omega) (fun l226 l227 l228 => k0 l227) (fun l232 l233 l234 => k0 l234) (fun l238 l239 l240 => k0 l240) b hb [] hl N 0 [] (by omega) (by omega) (by simp)
  refine Eq.trans h ?_
  rw [List.drop_zero, alls_fuel N (b.length + 1) b hb (by omega) (by omega)]
  unfold numL
  split <;> simp
end
end Gz
