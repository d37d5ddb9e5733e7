/- Numbers as bytes: what the program puts and what the reference puts. -/
import Derived.Test.YtpdomjkgdlineaaFun2
import Derived.Test.YtpdomjkgdlineaaXNum
set_option linter.unusedVariables false
set_option linter.unusedSimpArgs false
set_option linter.unnecessarySimpa false
set_option linter.deprecated false
namespace Gz
open Go

/-- All bytes of a number but the last, and the last. -/
def vbi (x : Nat) : List Int := if h : x < 128 then [] else ((x % 128 + 128 : Nat) : Int) :: vbi (x / 128)
termination_by x
decreasing_by omega
def vbl (x : Nat) : Nat := if h : x < 128 then x else vbl (x / 128)
termination_by x
decreasing_by omega
theorem vbi_s {x : Nat} (h : x < 128) : vbi x = [] := by rw [vbi]; simp [h]
theorem vbi_b {x : Nat} (h : ¬ x < 128) : vbi x = ((x % 128 + 128 : Nat) : Int) :: vbi (x / 128) := by rw [vbi]; simp [h]
theorem vbl_s {x : Nat} (h : x < 128) : vbl x = x := by rw [vbl]; simp [h]
theorem vbl_b {x : Nat} (h : ¬ x < 128) : vbl x = vbl (x / 128) := by rw [vbl]; simp [h]
def vb (x : Nat) : List Int := vbi x ++ [(vbl x : Int)]
theorem vb_s {x : Nat} (h : x < 128) : vb x = [(x : Int)] := by simp [vb, vbi_s h, vbl_s h]
theorem vb_b {x : Nat} (h : ¬ x < 128) : vb x = ((x % 128 + 128 : Nat) : Int) :: vb (x / 128) := by simp [vb, vbi_b h, vbl_b h]
theorem vbl_lt (x : Nat) : vbl x < 128 := by
  induction x using Nat.strongRecOn with
  | _ x ih =>
    by_cases h : x < 128
    · rw [vbl_s h]; exact h
    · rw [vbl_b h]; exact ih _ (by omega)
theorem vbi_len (x : Nat) : ∀ k, x < 128 ^ (k + 1) → (vbi x).length ≤ k := by
  intro k
  induction k generalizing x with
  | zero => intro h; rw [vbi_s (by simpa using h)]; simp
  | succ k ih =>
    intro h
    by_cases hx : x < 128
    · rw [vbi_s hx]; simp
    · rw [vbi_b hx]
      have := ih (x / 128) (by rw [Nat.pow_succ] at h; omega)
      simp; omega
theorem vbi_len64 {x : Nat} (h : x < 18446744073709551616) : (vbi x).length ≤ 9 := vbi_len x 9 (by omega)
theorem vb_len64 {x : Nat} (h : x < 18446744073709551616) : (vb x).length ≤ 10 := by have := vbi_len64 h; simp [vb]; omega
theorem vb_okB (x : Nat) : okB (vb x) := by
  induction x using Nat.strongRecOn with
  | _ x ih =>
    by_cases h : x < 128
    · rw [vb_s h]; intro y hy; simp at hy; omega
    · rw [vb_b h]
      intro y hy
      rcases List.mem_cons.1 hy with rfl | hy
      · omega
      · exact ih _ (by omega) y hy

/-- The number that a number is put as. -/
def zz (n : Int) : Nat := if n < 0 then (-2 * n - 1).toNat else (2 * n).toNat
theorem zz_lt {n : Int} (h : okI .i64 n) : zz n < 18446744073709551616 := by
  simp [okI, IntKind.min, IntKind.max, IntKind.signed, IntKind.bits] at h
  unfold zz; split <;> omega
def encs (l : List Int) : List Int := l.flatMap fun n => vb (zz n)
theorem encs_nil : encs [] = [] := rfl
theorem encs_cons (n : Int) (l : List Int) : encs (n :: l) = vb (zz n) ++ encs l := rfl
theorem encs_append (l m : List Int) : encs (l ++ m) = encs l ++ encs m := by simp [encs]
theorem encs_okB (l : List Int) : okB (encs l) := by
  intro x hx
  obtain ⟨n, _, h⟩ := List.mem_flatMap.1 hx
  exact vb_okB _ x h
def okN (l : List Int) : Prop := ∀ x ∈ l, okI .i64 x
theorem encs_len {l : List Int} (h : okN l) : (encs l).length ≤ 10 * l.length := by
  induction l with
  | nil => simp [encs]
  | cons n l ih =>
    have := ih fun x hx => h x (List.mem_cons_of_mem _ hx)
    have := vb_len64 (zz_lt (h n (List.mem_cons_self)))
    rw [encs_cons]; simp; omega

/-! Bits. -/
theorem bor_128 : ∀ n : Nat, n < 256 → bor .u8 (n : Int) 128 = ((n % 128 + 128 : Nat) : Int) := by decide +kernel
theorem ishr7 (x : Nat) : ishr .u64 (x : Int) 7 = ((x / 128 : Nat) : Int) := by
  simp [ishr, IntKind.bits, Int.fdiv_eq_ediv_of_nonneg]
theorem zz_word {n : Int} (h : okI .i64 n) : bxor .u64 (ishl .u64 (wu64 n) 1) (wu64 (ishr .i64 n 63)) = (zz n : Int) := by
  have h0 := h
  simp [okI, IntKind.min, IntKind.max, IntKind.signed, IntKind.bits] at h
  have hs : ishr .i64 n 63 = if n < 0 then -1 else 0 := by
    simp [ishr, IntKind.bits, Int.fdiv_eq_ediv_of_nonneg]
    split <;> omega
  have hl : ishl .u64 (wu64 n) 1 = (n * 2) % 18446744073709551616 := by
    simp [ishl, IntKind.wrap, IntKind.bits, IntKind.signed, wu64xdef]; omega
  rw [hs, hl]
  unfold zz
  by_cases hn : n < 0
  · rw [if_pos hn, if_pos hn]
    have e1 : wu64 (-1) = 18446744073709551615 := by rw [wu64xdef]; omega
    rw [e1]
    unfold bxor
    have e2 : BitVec.ofInt IntKind.u64.bits 18446744073709551615 = BitVec.allOnes 64 := by show BitVec.ofInt 64 18446744073709551615 = BitVec.allOnes 64; decide
    rw [e2]
    have e3 : BitVec.ofInt IntKind.u64.bits (n * 2 % 18446744073709551616) = BitVec.ofNat 64 (n * 2 % 18446744073709551616).toNat := by
      apply BitVec.eq_of_toNat_eq
      simp [IntKind.bits, BitVec.toNat_ofInt]
      omega
    rw [e3]
    have e4 : (BitVec.ofNat 64 (n * 2 % 18446744073709551616).toNat ^^^ BitVec.allOnes 64).toNat = 18446744073709551615 - (n * 2 % 18446744073709551616).toNat := by
      rw [BitVec.xor_allOnes, BitVec.toNat_not]
      simp
      omega
    show IntKind.u64.wrap ((BitVec.ofNat 64 (n * 2 % 18446744073709551616).toNat ^^^ BitVec.allOnes 64).toNat : Int) = _
    rw [e4]
    simp [IntKind.wrap, IntKind.bits, IntKind.signed]
    omega
  · rw [if_neg hn, if_neg hn]
    have e1 : wu64 0 = 0 := by rw [wu64xdef]; omega
    rw [e1]
    unfold bxor
    have e2 : BitVec.ofInt IntKind.u64.bits 0 = 0#64 := by show BitVec.ofInt 64 0 = 0#64; decide
    rw [e2]
    have e3 : BitVec.ofInt IntKind.u64.bits (n * 2 % 18446744073709551616) = BitVec.ofNat 64 (n * 2).toNat := by
      apply BitVec.eq_of_toNat_eq
      simp [IntKind.bits, BitVec.toNat_ofInt]
      omega
    rw [e3]
    show IntKind.u64.wrap ((BitVec.ofNat 64 (n * 2).toNat ^^^ 0#64).toNat : Int) = _
    rw [BitVec.xor_zero]
    simp [IntKind.wrap, IntKind.bits, IntKind.signed]
    omega

/-! The program puts numbers. -/
section
variable {α : Type}
theorem L22x6xeq (k0 : Int → List Int → Int → Int → List Int → Option α) (l : List Int) (a b : Int) : ∀ (n x : Nat) (out : List Int), x < 18446744073709551616 → (vbi x).length < n → out.length + (vbi x).length < 1073741824 →
    L22x6 k0 n (x : Int) l a b out = k0 (vbl x : Int) l a b (out ++ vbi x)
  | 0, _, _, _, h, _ => by omega
  | n + 1, x, out, hx, hn, ho => by
    simp only [L22x6, L22x6g]
    by_cases h : x < 128
    · rw [cond_f (by simp; omega), vbi_s h, vbl_s h, List.append_nil]
    · rw [vbi_b h] at hn ho
      simp at hn ho
      have hw : bor .u8 (wu8 (x : Int)) 128 = ((x % 128 + 128 : Nat) : Int) := by
        have e : wu8 (x : Int) = ((x % 256 : Nat) : Int) := by rw [wu8xdef]; omega
        rw [e, bor_128 _ (by omega)]
        omega
      rw [cond_t (by simp; omega), hw, cond_t (room_t (by simp; omega)), ishr7, L22x6xeq k0 l a b n (x / 128) _ (by omega) (by omega) (by simp; omega), vbi_b h, vbl_b h]
      simp

theorem L22x3xeq {N : Nat} (hN : 10 ≤ N) (k0 : List Int → Option α) (l : List Int) (hl : okN l) (hlen : l.length < 100000000) : ∀ (n i : Nat) (out : List Int), i ≤ l.length → l.length - i < n → out.length + 10 * (l.length - i) < 1073741824 →
    L22x3 N k0 n l (ln l) (i : Int) out = k0 (out ++ encs (l.drop i))
  | 0, _, _, _, h, _ => by omega
  | n + 1, i, out, hi, hn, ho => by
    simp only [L22x3, L22x3g]
    by_cases h : i < l.length
    · have hz := zz_lt (hl _ (List.getElem_mem h))
      have h9 := vbi_len64 hz
      have hlt := vbl_lt (zz l[i])
      rw [cond_t (by simp [ln_def]; omega), cond_t (inb_n h), rd_n i h, zz_word (hl _ (List.getElem_mem h)), L22x6xeq _ _ _ _ _ _ _ hz (by omega) (by omega)]
      have e8 : wu8 (vbl (zz l[i]) : Int) = (vbl (zz l[i]) : Int) := wu8xid (by omega) (by omega)
      rw [e8, cond_t (room_t (by simp; omega)), wi64xid (by omega) (by omega)]
      have e1 : (i : Int) + 1 = ((i + 1 : Nat) : Int) := by omega
      rw [e1, L22x3xeq hN k0 l hl hlen n (i + 1) _ (by omega) (by omega) (by simp; omega), List.drop_eq_getElem_cons h, encs_cons]
      simp [vb]
    · rw [cond_f (by simp [ln_def]; omega), List.drop_eq_nil_of_le (by omega)]
      simp [encs]

theorem F22xeq {N : Nat} (k0 : List Int → Option α) (l : List Int) (hl : okN l) (hlen : l.length < 100000000) (hN : l.length + 10 ≤ N) : F22 N k0 l = k0 (encs l) := by
  unfold F22 F22g
  have := L22x3xeq (N := N) (by omega) k0 l hl hlen N 0 [] (by omega) (by omega) (by simp; omega)
  simpa using this

theorem L35x5xeq (k0 : Int → List Int → Option α) : ∀ (n x : Nat) (out : List Int), x < 18446744073709551616 → (vbi x).length < n → out.length + (vbi x).length < 1073741824 →
    L35x5 k0 n (x : Int) out = k0 (vbl x : Int) (out ++ vbi x)
  | 0, _, _, _, h, _ => by omega
  | n + 1, x, out, hx, hn, ho => by
    simp only [L35x5, L35x5g]
    by_cases h : x < 128
    · rw [cond_f (by simp; omega), vbi_s h, vbl_s h, List.append_nil]
    · rw [vbi_b h] at hn ho
      simp at hn ho
      have e : Int.tmod (x : Int) 128 = ((x % 128 : Nat) : Int) := by rw [Int.tmod_eq_emod_of_nonneg (by omega)]; omega
      have hw : wu8 (wu8 (Int.tmod (x : Int) 128) + 128) = ((x % 128 + 128 : Nat) : Int) := by
        rw [e, wu8xid (n := ((x % 128 : Nat) : Int)) (by omega) (by omega), wu8xid (by omega) (by omega)]; omega
      have hd : wu64 (Int.tdiv (x : Int) 128) = ((x / 128 : Nat) : Int) := by
        rw [Int.tdiv_eq_ediv_of_nonneg (by omega), wu64xid (by omega) (by omega)]; omega
      rw [cond_t (by simp; omega), hw, cond_t (room_t (by simp; omega)), hd, L35x5xeq k0 n (x / 128) _ (by omega) (by omega) (by simp; omega), vbi_b h, vbl_b h]
      simp

theorem F35xeq {N : Nat} (hN : 10 ≤ N) (k0 : List Int → Option α) (n : Int) (h : okI .i64 n) : F35 N k0 n = k0 (vb (zz n)) := by
  have hz := zz_lt h
  have h9 := vbi_len64 hz
  have hlt := vbl_lt (zz n)
  simp [okI, IntKind.min, IntKind.max, IntKind.signed, IntKind.bits] at h
  have e8 : wu8 (vbl (zz n) : Int) = (vbl (zz n) : Int) := wu8xid (by omega) (by omega)
  unfold F35 F35g
  simp only []
  by_cases hn : n < 0
  · have e : wu64 (wu64 (wu64 (wi64 (0 - wi64 (n + 1))) * 2) + 1) = (zz n : Int) := by
      rw [wi64xid (n := n + 1) (by omega) (by omega), wi64xid (by omega) (by omega), wu64xid (n := 0 - (n + 1)) (by omega) (by omega), wu64xid (n := (0 - (n + 1)) * 2) (by omega) (by omega), wu64xid (by omega) (by omega)]
      unfold zz; rw [if_pos hn]; omega
    rw [cond_t (by simp; exact hn), e, L35x5xeq _ _ _ _ hz (by omega) (by simp; omega), e8, cond_t (room_t (by simp; omega))]
    simp [vb]
  · have e : wu64 (wu64 n * 2) = (zz n : Int) := by
      rw [wu64xid (n := n) (by omega) (by omega), wu64xid (by omega) (by omega)]
      unfold zz; rw [if_neg hn]; omega
    rw [cond_f (by simp; omega), e, L35x5xeq _ _ _ _ hz (by omega) (by simp; omega), e8, cond_t (room_t (by simp; omega))]
    simp [vb]

theorem L23x3xeq {N : Nat} (hN : 10 ≤ N) (k0 : List Int → Option α) (l : List Int) (hl : okN l) (hlen : l.length < 100000000) : ∀ (n i : Nat) (out : List Int), i ≤ l.length → l.length - i < n → out.length + 10 * (l.length - i) < 1073741824 →
    L23x3 N k0 n l (i : Int) out = k0 (out ++ encs (l.drop i))
  | 0, _, _, _, h, _ => by omega
  | n + 1, i, out, hi, hn, ho => by
    simp only [L23x3, L23x3g]
    by_cases h : i < l.length
    · have hz := vb_len64 (zz_lt (hl _ (List.getElem_mem h)))
      rw [cond_t (by simp [ln_def]; omega), cond_t (inb_n h), rd_n i h, F35xeq hN _ _ (hl _ (List.getElem_mem h)), cond_t (room_t (by omega)), wi64xid (by omega) (by omega)]
      have e1 : (i : Int) + 1 = ((i + 1 : Nat) : Int) := by omega
      rw [e1, L23x3xeq hN k0 l hl hlen n (i + 1) _ (by omega) (by omega) (by simp; omega), List.drop_eq_getElem_cons h, encs_cons]
      simp
    · rw [cond_f (by simp [ln_def]; omega), List.drop_eq_nil_of_le (by omega)]
      simp [encs]

theorem F23xeq {N : Nat} (k0 : List Int → Option α) (l : List Int) (hl : okN l) (hlen : l.length < 100000000) (hN : l.length + 10 ≤ N) : F23 N k0 l = k0 (encs l) := by
  unfold F23 F23g
  have := L23x3xeq (N := N) (by omega) k0 l hl hlen N 0 [] (by omega) (by omega) (by simp; omega)
  simpa using this
end
end Gz
