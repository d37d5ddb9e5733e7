/- Numbers taken by the reference. -/
import Derived.Test.YtpdomjkgdlineaaP4
set_option linter.unusedVariables false
set_option linter.unusedSimpArgs false
set_option linter.unnecessarySimpa false
set_option linter.deprecated false
namespace Gz
open Go

section
variable {α : Type}
def tkF (k0 : Int → Bool → List Int → Option α) (b : List Int) : Option (Nat × Nat) → Option α
  | some (v, m) => k0 (uz v) true (b.drop m)
  | none => k0 0 false []

theorem uz_dec {v : Nat} (h : v < 18446744073709551616) : (v % 2 = 1 → wi64 (wi64 (0 - wi64 (wu64 (Int.tdiv (v : Int) 2))) - 1) = uz v) ∧ (¬ v % 2 = 1 → wi64 (wu64 (Int.tdiv (v : Int) 2)) = uz v) := by
  have e : wu64 (Int.tdiv (v : Int) 2) = ((v / 2 : Nat) : Int) := by
    rw [Int.tdiv_eq_ediv_of_nonneg (by omega), wu64xid (by omega) (by omega)]; omega
  rw [e, wi64xid (n := ((v / 2 : Nat) : Int)) (by omega) (by omega)]
  refine ⟨fun hv => ?_, fun hv => ?_⟩
  · rw [wi64xid (n := 0 - ((v / 2 : Nat) : Int)) (by omega) (by omega), wi64xid (by omega) (by omega)]
    unfold uz; rw [if_neg (by omega)]; omega
  · unfold uz; rw [if_pos (by omega)]

/-- What the reference does with a number that it has read: whether it is put as it is. -/
theorem L37x4xeq {N : Nat} (hN : 20 ≤ N) (k0 : Int → Bool → List Int → Option α) (k1 : Option α) (hk : k1 = k0 0 false []) (l : List Int) (hb : okB l) (hl : l.length ≤ 1000000) : ∀ (n i X : Nat), 11 - i < n → i ≤ 10 → i ≤ l.length → X < 2 ^ (7 * i) →
    (∀ w, (0 < i → 0 < w) → vb (X + w * 2 ^ (7 * i)) = l.take i ++ vb w) →
    L37x4 N k0 k1 n l ((X % 18446744073709551616 : Nat) : Int) ((2 ^ (7 * i) % 18446744073709551616 : Nat) : Int) (i : Int) = tkF k0 l ((rdC i (l.drop i)).map fun p => (X + p.1 * 2 ^ (7 * i), i + p.2))
  | 0, _, _, h, _, _, _, _ => by omega
  | n + 1, i, X, hn, hi, hil, hX, hpre => by
    simp only [L37x4, L37x4g]
    by_cases h : i < l.length
    · rw [cond_t (by simp [ln_def]; omega), List.drop_eq_getElem_cons h]
      by_cases h10 : i = 10
      · subst h10
        rw [cond_f (by simp), rdC_big (by omega), hk]; rfl
      · rw [cond_t (by simp; omega), cond_t (inb_n h), cond_t (inb_n h), rd_n i h]
        have hc := hb _ (List.getElem_mem h)
        obtain ⟨c, hc'⟩ : ∃ c : Nat, l[i] = (c : Int) := ⟨(l[i]).toNat, by omega⟩
        rw [hc']
        have hc2 : c < 256 := by omega
        have hP : 2 ^ (7 * i) ≤ 9223372036854775808 := by
          have : 2 ^ (7 * i) ≤ 2 ^ 63 := Nat.pow_le_pow_right (by omega) (by omega)
          simpa using this
        have hpw : 2 ^ (7 * (i + 1)) = 2 ^ (7 * i) * 128 := by rw [show 7 * (i + 1) = 7 * i + 7 by omega, Nat.pow_add]
        have hmul : (c % 128) * 2 ^ (7 * i) ≤ 127 * 2 ^ (7 * i) := Nat.mul_le_mul_right _ (by omega)
        -- the new sum
        have e2 : wu64 (((X % 18446744073709551616 : Nat) : Int) + wu64 (wu64 (Int.tmod (c : Int) 128) * ((2 ^ (7 * i) % 18446744073709551616 : Nat) : Int))) = (((X + (c % 128) * 2 ^ (7 * i)) % 18446744073709551616 : Nat) : Int) := by
          have e3 : Int.tmod (c : Int) 128 = ((c % 128 : Nat) : Int) := by rw [Int.tmod_eq_emod_of_nonneg (by omega)]; omega
          rw [e3, wu64xid (n := ((c % 128 : Nat) : Int)) (by omega) (by omega), wu64xdef, wu64xdef]
          rw [Nat.mod_eq_of_lt (a := 2 ^ (7 * i)) (by omega), Nat.mod_eq_of_lt (a := X) (by omega)]
          have e4 : ((c % 128 : Nat) : Int) * ((2 ^ (7 * i) : Nat) : Int) = (((c % 128) * 2 ^ (7 * i) : Nat) : Int) := by push_cast; rfl
          rw [e4]; omega
        have e5 : wi64 ((i : Int) + 1) = ((i + 1 : Nat) : Int) := by rw [wi64xid (by omega) (by omega)]; omega
        simp only [e2, e5]
        by_cases hlt : (c : Int) < 128
        · have hcc : c % 128 = c := by omega
          rw [cond_t (by simpa using hlt), hcc]
          generalize hV : (X + c * 2 ^ (7 * i)) % 18446744073709551616 = V
          have hV64 : V < 18446744073709551616 := by rw [← hV]; exact Nat.mod_lt _ (by omega)
          obtain ⟨u1, u2⟩ := uz_dec hV64
          -- the end, whether it is odd or even
          have fin : (bif insl 0 ((i + 1 : Nat) : Int) l then bif !(seqS (bytesOf (vb V)) (bytesOf (subL l 0 ((i + 1 : Nat) : Int)))) then k0 0 false [] else bif insE ((i + 1 : Nat) : Int) l then bif room ([] : List Int) (subE l ((i + 1 : Nat) : Int)) then k0 (uz V) true (subE l ((i + 1 : Nat) : Int)) else none else none else none) =
              if vb V = l.take (i + 1) then k0 (uz V) true (l.drop (i + 1)) else k0 0 false [] := by
            have hbt : okB (l.take (i + 1)) := fun x hx => hb x (List.mem_of_mem_take hx)
            rw [cond_t (insl_t (by omega) (by omega) (by omega)), subL_0, subE_n, seqS_bytes (vb_okB V) hbt]
            by_cases he : vb V = l.take (i + 1)
            · rw [cond_f (by simp [he]), cond_t (insE_t (by omega) (by omega)), cond_t (room_t (by simp; omega)), if_pos he]
            · rw [cond_t (by simp [he]), if_neg he]
          have odd : Int.tmod (V : Int) 2 = ((V % 2 : Nat) : Int) := by rw [Int.tmod_eq_emod_of_nonneg (by omega)]; omega
          have htk : l.take (i + 1) = l.take i ++ [(c : Int)] := by rw [List.take_succ_eq_append_getElem h, hc']
          have goal2 : (if vb V = l.take (i + 1) then k0 (uz V) true (l.drop (i + 1)) else k0 0 false []) = tkF k0 l ((rdC i ((c : Int) :: l.drop (i + 1))).map fun p => (X + p.1 * 2 ^ (7 * i), i + p.2)) := by
            simp only [rdC]
            by_cases hbad : (10 ≤ i ∨ (i = 9 ∧ 1 < (c : Int) % 128)) ∨ ((c : Int) = 0 ∧ 0 < i)
            · rw [if_pos hbad, if_neg]
              · rfl
              · intro he
                rw [htk] at he
                obtain ⟨l1, l2⟩ := vb_last he
                rcases hbad with (hb1 | ⟨rfl, hb1⟩) | ⟨hb1, hb2⟩
                · omega
                · have : (l.take 9).length = 9 := by simp; omega
                  rw [this] at l2
                  simp only [Nat.reducePow] at l2
                  omega
                · exact l1 (by intro e; have := congrArg List.length e; rw [List.length_take, List.length_nil] at this; omega) hb1
            · rw [if_neg hbad, if_pos hlt]
              have hsum : X + c * 2 ^ (7 * i) < 18446744073709551616 := by
                by_cases h9 : i = 9
                · subst h9
                  simp only [Nat.reduceMul, Nat.reducePow] at hX ⊢
                  omega
                · have h3 : 2 ^ (7 * i) ≤ 2 ^ 56 := Nat.pow_le_pow_right (by omega) (by omega)
                  rw [hcc] at hmul
                  simp only [Nat.reducePow] at h3
                  omega
              have hVe : V = X + c * 2 ^ (7 * i) := by rw [← hV]; exact Nat.mod_eq_of_lt hsum
              have hvb := hpre c (fun h0 => by omega)
              rw [vb_s (x := c) (by omega)] at hvb
              rw [if_pos (by rw [hVe, hvb, htk])]
              simp [tkF, hVe]
          by_cases ho : V % 2 = 1
          · rw [cond_t (by rw [odd, ho]; rfl), u1 ho, F35xeq (by omega) _ _ (uz_ok hV64), zz_uz]
            exact fin.trans goal2
          · rw [cond_f (by rw [odd]; simp; omega), u2 ho, F35xeq (by omega) _ _ (uz_ok hV64), zz_uz]
            exact fin.trans goal2
        · rw [cond_f (by simpa using hlt)]
          have hsc : wu64 (((2 ^ (7 * i) % 18446744073709551616 : Nat) : Int) * 128) = ((2 ^ (7 * (i + 1)) % 18446744073709551616 : Nat) : Int) := by
            rw [wu64xdef, hpw]; omega
          have hpre' : ∀ w, (0 < i + 1 → 0 < w) → vb (X + (c % 128) * 2 ^ (7 * i) + w * 2 ^ (7 * (i + 1))) = l.take (i + 1) ++ vb w := by
            intro w hw
            have hw := hw (by omega)
            have e6 : X + (c % 128) * 2 ^ (7 * i) + w * 2 ^ (7 * (i + 1)) = X + (c % 128 + 128 * w) * 2 ^ (7 * i) := by
              have e7 : w * (2 ^ (7 * i) * 128) = 128 * w * 2 ^ (7 * i) := by rw [Nat.mul_comm (2 ^ (7 * i)) 128, ← Nat.mul_assoc, Nat.mul_comm w 128]
              rw [hpw, Nat.add_mul, e7]; omega
            rw [e6, hpre (c % 128 + 128 * w) (fun _ => by omega), vb_step (by omega) hw, List.take_succ_eq_append_getElem h, hc']
            have e8 : ((c % 128 + 128 : Nat) : Int) = (c : Int) := by omega
            rw [e8]; simp
          rw [hsc, L37x4xeq hN k0 k1 hk l hb hl n (i + 1) (X + (c % 128) * 2 ^ (7 * i)) (by omega) (by omega) (by omega) (by rw [hpw]; omega) hpre']
          simp only [rdC]
          by_cases hbad : (10 ≤ i ∨ (i = 9 ∧ 1 < (c : Int) % 128)) ∨ ((c : Int) = 0 ∧ 0 < i)
          · rw [if_pos hbad]
            have h9 : i = 9 := by omega
            rw [rdC_big (i := i + 1) (by omega)]
            rfl
          · rw [if_neg hbad, if_neg hlt]
            cases rdC (i + 1) (l.drop (i + 1)) with
            | none => rfl
            | some q =>
              obtain ⟨w, m⟩ := q
              simp only [rdM, Option.map_some, tkF]
              have e6 : X + (c % 128) * 2 ^ (7 * i) + w * 2 ^ (7 * (i + 1)) = X + (((c : Int) % 128).toNat + 128 * w) * 2 ^ (7 * i) := by
                have e7 : w * (2 ^ (7 * i) * 128) = 128 * w * 2 ^ (7 * i) := by rw [Nat.mul_comm (2 ^ (7 * i)) 128, ← Nat.mul_assoc, Nat.mul_comm w 128]
                have e5 : ((c : Int) % 128).toNat = c % 128 := by omega
                rw [e5, hpw, Nat.add_mul, e7]; omega
              rw [e6, show i + 1 + m = i + (m + 1) by omega]
    · have hnil : l.drop i = [] := List.drop_eq_nil_of_le (by omega)
      rw [cond_f (by simp [ln_def]; omega), hnil, hk]
      rfl

theorem F37xeq {N : Nat} (hN : 20 ≤ N) (k0 : Int → Bool → List Int → Option α) (b : List Int) (hb : okB b) (hl : b.length ≤ 1000000) : F37 N k0 b = tkF k0 b (rdC 0 b) := by
  unfold F37 F37g
  have := L37x4xeq hN (fun x343 b344 l345 => k0 x343 b344 l345) (k0 0 false []) rfl b hb hl N 0 0 (by omega) (by omega) (by omega) (by simp) (by simp)
  rw [List.drop_zero] at this
  refine Eq.trans this ?_
  cases rdC 0 b with
  | none => rfl
  | some q => simp [tkF]

theorem L26x2xeq {N : Nat} (hN : 20 ≤ N) (k0 : Bool → List Int → Option α) (k1 : List Int → Option α) : ∀ (n : Nat) (b acc : List Int), okB b → b.length ≤ 1000000 → b.length < n → acc.length + b.length ≤ 1000000 →
    L26x2 N k0 k1 n b acc = if (alls n b).2 = true then k0 true (acc ++ (alls n b).1) else k1 (acc ++ (alls n b).1)
  | 0, _, _, _, _, h, _ => by omega
  | n + 1, b, acc, hb, hl, hn, hacc => by
    simp only [L26x2, L26x2g, alls]
    by_cases hne : b = []
    · subst hne
      rw [cond_f (by simp [ln_def]), if_pos rfl]; simp
    · have h0 : 0 < b.length := List.length_pos_iff.2 hne
      rw [cond_t (by simp [ln_def]; omega), F37xeq hN _ _ hb hl, if_neg hne]
      cases hr : rdC 0 b with
      | none =>
        simp only [tkF, if_true]
        rw [cond_t (by rfl)]; simp
      | some q =>
        obtain ⟨v, m⟩ := q
        obtain ⟨m0, m1, _⟩ := rdC_0 hb hr
        simp only [tkF]
        rw [cond_f (by rfl), cond_t (room_t (by simp; omega)), L26x2xeq hN k0 k1 n (b.drop m) _ (okB_drop hb m) (by simp; omega) (by simp; omega) (by simp; omega)]
        simp

theorem F26xeq {N : Nat} (k0 : Bool → List Int → Option α) (b : List Int) (hb : okB b) (hl : b.length ≤ 100000) (hN : b.length + 20 ≤ N) : F26 N k0 b = k0 (alls (b.length + 1) b).2 (alls (b.length + 1) b).1 := by
  unfold F26 F26g
  have := L26x2xeq (N := N) (by omega) (fun b362 l363 => k0 b362 l363) (fun l366 => k0 false l366) N b [] hb (by omega) (by omega) (by simp; omega)
  refine Eq.trans this ?_
  rw [alls_fuel N (b.length + 1) b hb (by omega) (by omega)]
  split
  · rename_i h; rw [h]; simp
  · rename_i h; rw [Bool.not_eq_true] at h; rw [h]; simp
end
end Gz
