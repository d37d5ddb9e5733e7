/- Bytes as numbers: what the program reads and what the reference takes. -/
import Derived.Test.YtpdomjkgdlineaaP2
set_option linter.unusedVariables false
set_option linter.unusedSimpArgs false
set_option linter.unnecessarySimpa false
set_option linter.deprecated false
namespace Gz
open Go

def uz (v : Nat) : Int := if v % 2 = 0 then ((v / 2 : Nat) : Int) else -((v / 2 : Nat) : Int) - 1
theorem zz_uz (v : Nat) : zz (uz v) = v := by unfold zz uz; split <;> split <;> omega
theorem uz_zz (n : Int) : uz (zz n) = n := by unfold zz uz; split <;> split <;> omega
theorem uz_ok {v : Nat} (h : v < 18446744073709551616) : okI .i64 (uz v) := by
  unfold uz; split <;> exact okI_of (by omega) (by omega)

theorem vb_last : ∀ {x : Nat} {l : List Int} {c : Int}, vb x = l ++ [c] → (l ≠ [] → c ≠ 0) ∧ c * (128 ^ l.length : Nat) ≤ x := by
  intro x
  induction x using Nat.strongRecOn with
  | _ x ih =>
    intro l c h
    by_cases hx : x < 128
    · rw [vb_s hx] at h
      cases l with
      | nil => simp at h; subst h; simp
      | cons a l => simp at h
    · rw [vb_b hx] at h
      cases l with
      | nil =>
        exfalso
        have := congrArg List.length h
        simp [vb] at this
      | cons a l =>
        simp only [List.cons_append, List.cons.injEq] at h
        obtain ⟨h1, h2⟩ := ih (x / 128) (by omega) h.2
        refine ⟨fun _ => ?_, ?_⟩
        · by_cases hl : l = []
          · subst hl
            intro h0
            subst h0
            have h3 := h.2
            by_cases h4 : x / 128 < 128
            · rw [vb_s h4] at h3; simp at h3; omega
            · rw [vb_b h4] at h3; have := congrArg List.length h3; simp [vb] at this
          · exact h1 hl
        · rw [List.length_cons, Nat.pow_succ]
          have e : (((128 ^ l.length * 128 : Nat)) : Int) = ((128 ^ l.length : Nat) : Int) * 128 := by push_cast; rfl
          rw [e, ← Int.mul_assoc]
          omega

theorem vb_step {a w : Nat} (ha : a < 128) (hw : 0 < w) : vb (a + 128 * w) = ((a + 128 : Nat) : Int) :: vb w := by
  rw [vb_b (by omega)]
  have e1 : (a + 128 * w) % 128 = a := by omega
  have e2 : (a + 128 * w) / 128 = w := by omega
  rw [e1, e2]

def rdM (c : Int) : Option (Nat × Nat) → Option (Nat × Nat)
  | some (w, m) => some ((c % 128).toNat + 128 * w, m + 1)
  | none => none
/-- A number at the begin of bytes, of which the i-th is the first: its value, and how many bytes it has. -/
def rdC : Nat → List Int → Option (Nat × Nat)
  | _, [] => none
  | i, c :: r => if (10 ≤ i ∨ (i = 9 ∧ 1 < c % 128)) ∨ (c = 0 ∧ 0 < i) then none else if c < 128 then some (c.toNat, 1) else rdM c (rdC (i + 1) r)
theorem rdC_big {i : Nat} (h : 10 ≤ i) (l : List Int) : rdC i l = none := by
  cases l with
  | nil => rfl
  | cons c r => simp [rdC, h]
theorem rdC_ok : ∀ (l : List Int) {i w m : Nat}, okB l → rdC i l = some (w, m) → i ≤ 9 ∧ 0 < m ∧ m ≤ l.length ∧ vb w = l.take m ∧ (0 < i → 0 < w) ∧ w < 2 ^ (64 - 7 * i)
  | [], i, w, m, _, h => by simp [rdC] at h
  | c :: r, i, w, m, hb, h => by
    have hc := hb c (List.mem_cons_self)
    simp only [rdC] at h
    split at h
    · cases h
    · rename_i hbad
      split at h
      · rename_i hlt
        cases h
        refine ⟨by omega, by omega, by simp, ?_, by omega, ?_⟩
        · rw [vb_s (by omega)]; simp; omega
        · by_cases h9 : i = 9
          · subst h9; simp; omega
          · have : 2 ^ 8 ≤ 2 ^ (64 - 7 * i) := Nat.pow_le_pow_right (by omega) (by omega)
            omega
      · rename_i hlt
        cases hr : rdC (i + 1) r with
        | none => rw [hr] at h; cases h
        | some q =>
          obtain ⟨w', m'⟩ := q
          rw [hr] at h
          cases h
          obtain ⟨a1, a2, a3, a4, a5, a6⟩ := rdC_ok r (fun x hx => hb x (List.mem_cons_of_mem _ hx)) hr
          have hw := a5 (by omega)
          refine ⟨by omega, by omega, by simp; omega, ?_, by omega, ?_⟩
          · rw [vb_step (by omega) hw, List.take_succ_cons, a4]
            congr 1; omega
          · have : 2 ^ (64 - 7 * i) = 2 ^ (64 - 7 * (i + 1)) * 128 := by
              rw [show (128 : Nat) = 2 ^ 7 from rfl, ← Nat.pow_add]; congr 1; omega
            rw [this]; omega
theorem rdC_0 {l : List Int} {w m : Nat} (hb : okB l) (h : rdC 0 l = some (w, m)) : 0 < m ∧ m ≤ l.length ∧ m ≤ 10 ∧ vb w = l.take m ∧ w < 18446744073709551616 := by
  obtain ⟨_, a2, a3, a4, _, a6⟩ := rdC_ok l hb h
  have hw : w < 18446744073709551616 := by simpa using a6
  refine ⟨a2, a3, ?_, a4, hw⟩
  have := vb_len64 hw
  rw [a4] at this
  simp at this; omega
/-- What is put is read. -/
theorem rdC_vb (x : Nat) : ∀ (i : Nat) (r : List Int), (0 < i → 0 < x) → x < 2 ^ (64 - 7 * i) → i ≤ 9 → rdC i (vb x ++ r) = some (x, (vb x).length) := by
  induction x using Nat.strongRecOn with
  | _ x ih =>
    intro i r h0 hx hi
    by_cases h : x < 128
    · rw [vb_s h]
      simp only [List.cons_append, List.nil_append, rdC, List.length_cons, List.length_nil]
      rw [if_neg, if_pos (by omega)]
      · simp
      · by_cases h9 : i = 9
        · subst h9; simp at hx; omega
        · omega
    · have hi9 : i ≠ 9 := by rintro rfl; simp at hx; omega
      rw [vb_b h]
      simp only [List.cons_append, rdC, List.length_cons]
      have e : 2 ^ (64 - 7 * i) = 2 ^ (64 - 7 * (i + 1)) * 128 := by
        rw [show (128 : Nat) = 2 ^ 7 from rfl, ← Nat.pow_add]; congr 1; omega
      rw [if_neg (by omega), if_neg (by omega), ih (x / 128) (by omega) (i + 1) r (by omega) (by omega) (by omega)]
      simp [rdM]; omega

/-! Bits. -/
theorem bandNot_128 : ∀ n : Nat, n < 256 → bandNot .u8 (n : Int) 128 = ((n % 128 : Nat) : Int) := by decide +kernel
theorem ofInt_nat (n : Nat) : BitVec.ofInt 64 (n : Int) = BitVec.ofNat 64 n := by
  apply BitVec.eq_of_toNat_eq; simp [BitVec.toNat_ofInt]
theorem bor_add {a p s : Nat} (ha : a < 2 ^ s) (h : a + p * 2 ^ s < 18446744073709551616) : bor .u64 (a : Int) ((p * 2 ^ s : Nat) : Int) = ((a + p * 2 ^ s : Nat) : Int) := by
  unfold bor
  show IntKind.u64.wrap ((BitVec.ofInt 64 (a : Int) ||| BitVec.ofInt 64 ((p * 2 ^ s : Nat) : Int)).toNat : Int) = _
  rw [ofInt_nat, ofInt_nat, BitVec.toNat_or, BitVec.toNat_ofNat, BitVec.toNat_ofNat, Nat.mod_eq_of_lt (by omega), Nat.mod_eq_of_lt (by omega)]
  have := Nat.two_pow_add_eq_or_of_lt ha p
  rw [Nat.or_comm, Nat.mul_comm p, ← this]
  show wu64 _ = _
  rw [Nat.mul_comm] at h
  rw [Nat.add_comm (2 ^ s * p), wu64xid (by omega) (by omega)]
theorem ishl_n {p s : Nat} (hs : s ≤ 64) (h : p * 2 ^ s < 18446744073709551616) : ishl .u64 (p : Int) (s : Int) = ((p * 2 ^ s : Nat) : Int) := by
  unfold ishl
  have : min (s : Int).toNat IntKind.u64.bits = s := by simp [IntKind.bits]; omega
  rw [this]
  have e : (p : Int) * 2 ^ s = ((p * 2 ^ s : Nat) : Int) := by push_cast; rfl
  rw [e]
  show wu64 _ = _
  rw [wu64xid (by omega) (by omega)]
theorem uz_word {v : Nat} (h : v < 18446744073709551616) : bxor .i64 (wi64 (ishr .u64 (v : Int) 1)) (wi64 (0 - wi64 (band .u64 (v : Int) 1))) = uz v := by
  have h1 : ishr .u64 (v : Int) 1 = ((v / 2 : Nat) : Int) := by
    simp [ishr, IntKind.bits, Int.fdiv_eq_ediv_of_nonneg]
  have h2 : band .u64 (v : Int) 1 = ((v % 2 : Nat) : Int) := by
    unfold band
    show IntKind.u64.wrap ((BitVec.ofInt 64 (v : Int) &&& BitVec.ofInt 64 ((1 : Nat) : Int)).toNat : Int) = _
    rw [ofInt_nat, ofInt_nat, BitVec.toNat_and, BitVec.toNat_ofNat, BitVec.toNat_ofNat, Nat.mod_eq_of_lt (by omega), show (1 : Nat) % 2 ^ 64 = 1 from rfl, Nat.and_one_is_mod]
    show wu64 _ = _
    rw [wu64xid (by omega) (by omega)]
  rw [h1, h2, wi64xid (n := ((v / 2 : Nat) : Int)) (by omega) (by omega), wi64xid (n := ((v % 2 : Nat) : Int)) (by omega) (by omega), wi64xid (by omega) (by omega)]
  unfold uz bxor
  by_cases hv : v % 2 = 0
  · rw [if_pos hv, hv]
    show IntKind.i64.wrap ((BitVec.ofInt 64 ((v / 2 : Nat) : Int) ^^^ BitVec.ofInt 64 ((0 : Nat) : Int)).toNat : Int) = _
    rw [ofInt_nat, ofInt_nat, BitVec.xor_zero, BitVec.toNat_ofNat, Nat.mod_eq_of_lt (by omega)]
    show wi64 _ = _
    rw [wi64xdef]; split <;> omega
  · rw [if_neg hv, show v % 2 = 1 by omega]
    have e2 : BitVec.ofInt 64 (0 - ((1 : Nat) : Int)) = BitVec.allOnes 64 := by decide
    show IntKind.i64.wrap ((BitVec.ofInt 64 ((v / 2 : Nat) : Int) ^^^ BitVec.ofInt 64 (0 - ((1 : Nat) : Int))).toNat : Int) = _
    rw [ofInt_nat, e2, BitVec.xor_allOnes, BitVec.toNat_not, BitVec.toNat_ofNat, Nat.mod_eq_of_lt (by omega)]
    show wi64 _ = _
    rw [wi64xdef]; split <;> omega
end Gz
