/- TextureRight, plain: the numbers. -/
import Derived.Test.YtpdomjkgdlineaaBFun1
import Derived.Test.YtpdomjkgdlineaaBXNum
set_option linter.unusedVariables false
set_option linter.unusedSimpArgs false
set_option linter.unnecessarySimpa false
set_option linter.deprecated false
namespace Gz
open Go

theorem ishr_small {a : Int} (h : 0 ≤ a) (h' : a < 4294967296) : ishr .u64 a 32 = 0 := by
  have : min (32 : Int).toNat (IntKind.u64).bits = 32 := by decide
  simp only [ishr, this]
  rw [Int.fdiv_eq_ediv_of_nonneg _ (by decide)]
  have h2 : ((2 : Int) ^ 32) = 4294967296 := by decide
  rw [h2]; omega
theorem band_small {a : Int} (h : 0 ≤ a) (h' : a < 4294967296) : band .u64 a 4294967295 = a := by
  obtain ⟨n, rfl⟩ := Int.eq_ofNat_of_zero_le h
  have hn : n < 4294967296 := by omega
  have e : (BitVec.ofInt 64 (n : Int) &&& BitVec.ofInt 64 4294967295).toNat = n := by
    have : (BitVec.ofInt 64 4294967295) = BitVec.ofNat 64 4294967295 := rfl
    rw [this, BitVec.ofInt_natCast, BitVec.toNat_and, BitVec.toNat_ofNat, BitVec.toNat_ofNat, Nat.mod_eq_of_lt (by omega), Nat.mod_eq_of_lt (by omega), show (4294967295 : Nat) = 2 ^ 32 - 1 from rfl, Nat.and_two_pow_sub_one_eq_mod]
    omega
  show IntKind.u64.wrap (((BitVec.ofInt 64 (n : Int) &&& BitVec.ofInt 64 4294967295).toNat : Nat) : Int) = n
  rw [e]
  exact wu64xid (by omega) (by omega)

theorem F50xeq {α : Type} (k0 : Int → Option α) {x : Int} (h : -1000000 ≤ x) (h' : x ≤ 1000000) : F50 k0 x = k0 (max x (-x)) := by
  unfold F50 F50g
  rw [wi64xid (by omega) (by omega), mx_def, wu64xid (by omega) (by omega)]; simp
theorem F49xeq {α : Type} (k0 : Int → Int → Option α) {x : Int} (h : 0 ≤ x) (h' : x ≤ 1000000) : F49 k0 x 1 = k0 0 x := by
  unfold F49 F49g
  have e1 : ishr .u64 1 32 = 0 := ishr_small (by omega) (by omega)
  have e2 : band .u64 1 4294967295 = 1 := band_small (by omega) (by omega)
  have e0 : ishr .u64 0 32 = 0 := ishr_small (by omega) (by omega)
  have e3 : band .u64 0 4294967295 = 0 := band_small (by omega) (by omega)
  have z : wu64 0 = 0 := wu64xid (by omega) (by omega)
  simp only [ishr_small h (show x < 4294967296 by omega), band_small h (show x < 4294967296 by omega), e1, e2, Int.mul_one, Int.mul_zero, Int.zero_mul, z, Int.zero_add, Int.add_zero, wu64xid h (show x ≤ 18446744073709551615 by omega), ishr_small h (show x < 4294967296 by omega), e0, e3]
theorem F51xeq {α : Type} {N : Nat} (k0 : Int → Int → Option α) {x : Int} (h : 0 ≤ x) (h' : x ≤ 1000000) : F51 N k0 0 x 16 = k0 (x / 16) (x % 16) := by
  have e1 : ((16 : Int) == 0) = false := rfl
  have e2 : decide ((16 : Int) ≤ 0) = false := rfl
  have e3 : ((0 : Int) == 0) = true := rfl
  simp only [F51, F51g, M51x20, M51x20g, M51x24, M51x24g, e1, e2, e3, cond_true, cond_false, Bool.not_false, Int.tdiv_eq_ediv_of_nonneg h, Int.tmod_eq_emod_of_nonneg h]
  rw [wu64xid (by omega) (by omega)]
theorem F52xp {α : Type} (k0 : Int → Int → Option α) {x : Int} (h : 0 ≤ x) (h' : x ≤ 1000000) : F52 k0 x false = k0 x 0 := by
  simp only [F52, F52g, F54, F54g, cond_false, decide_eq_true (show x ≤ 9223372036854775807 by omega), Bool.not_true]
  rw [wi64xid (by omega) (by omega)]
theorem F52xn {α : Type} (k0 : Int → Int → Option α) {x : Int} (h : 0 ≤ x) (h' : x ≤ 1000000) : F52 k0 x true = k0 (-x) 0 := by
  simp only [F52, F52g, F54, F54g, cond_true, cond_false, decide_eq_true (show x ≤ 9223372036854775808 by omega), Bool.not_true]
  have : wi64 (wu64 (0 - x)) = -x := by rw [wi64xdef, wu64xdef]; split <;> omega
  rw [this]
theorem F45xeq {α : Type} {N : Nat} (k0 : Int → Int → Option α) {x : Int} (h : -1000000 ≤ x) (h' : x ≤ 1000000) : F45 N k0 x 1 16 = k0 (x / 16) 0 := by
  have e1 : ((16 : Int) == 0) = false := rfl
  have m1 : max (1 : Int) (-1) = 1 := by omega
  have m2 : max (16 : Int) (-16) = 16 := by omega
  have z2 : decide ((0 : Int) ≥ 16) = false := rfl
  unfold F45 F45g
  rw [cond_f e1, F50xeq _ h h', F50xeq _ (by omega) (by omega), m1, F49xeq _ (by omega) (by omega), F50xeq _ (by omega) (by omega), m2, cond_f z2, F51xeq _ (by omega) (by omega)]
  have d1 : decide ((1 : Int) < 0) = false := rfl
  have d2 : decide ((16 : Int) < 0) = false := rfl
  by_cases hx : x < 0
  · have hm : max x (-x) = -x := by omega
    have dx : decide (x < 0) = true := decide_eq_true hx
    have b1 : (!((!(true == false)) == false)) = true := rfl
    simp only [dx, d1, d2, hm, b1, cond_true]
    by_cases hr : (-x) % 16 > 0
    · rw [cond_t (decide_eq_true hr), wu64xid (by omega) (by omega), cond_f (by rw [beq_eq_false_iff_ne]; omega)]
      rw [F52xn _ (by omega) (by omega)]
      congr 1; omega
    · rw [cond_f (decide_eq_false hr)]
      rw [F52xn _ (by omega) (by omega)]
      congr 1; omega
  · have hm : max x (-x) = x := by omega
    have dx : decide (x < 0) = false := decide_eq_false hx
    have b1 : (!((!(false == false)) == false)) = false := rfl
    simp only [dx, d1, d2, hm, b1, cond_false]
    rw [F52xp _ (by omega) (by omega)]
theorem F29xeq {α : Type} {N : Nat} (k0 : Int → Int → Option α) {x : Int} (h : -1000000 ≤ x) (h' : x ≤ 1000000) : F29 N k0 x = k0 (x / 16) (x % 16) := by
  unfold F29 F29g F39 F39g
  rw [F45xeq _ h h']
  show k0 (x / 16) (wi64 (x - wi64 (16 * (x / 16)))) = _
  rw [wi64xid (n := 16 * (x / 16)) (by omega) (by omega), wi64xid (by omega) (by omega)]
  congr 1; omega

theorem F47xeq {α : Type} (k0 : Int → Option α) {x : Int} (h : 0 ≤ x) (h' : x ≤ 255) : F47 k0 x = k0 x := by
  unfold F47 F47g
  rw [mx_def, mn_def, wu8xid (by omega) (by omega)]
  congr 1; omega

/-- One part of two mixed. -/
def mixI (a b t : Int) : Int := (a * (256 - t) + b * t + 128) / 256
theorem mixI_bd {a b t : Int} (ha : 0 ≤ a ∧ a ≤ 255) (hb : 0 ≤ b ∧ b ≤ 255) (ht : 0 ≤ t ∧ t ≤ 256) : 0 ≤ mixI a b t ∧ mixI a b t ≤ 255 := by
  have h1 : 0 ≤ a * (256 - t) := Int.mul_nonneg ha.1 (by omega)
  have h2 : 0 ≤ b * t := Int.mul_nonneg hb.1 ht.1
  have h3 : a * (256 - t) ≤ 255 * (256 - t) := Int.mul_le_mul_of_nonneg_right ha.2 (by omega)
  have h4 : b * t ≤ 255 * t := Int.mul_le_mul_of_nonneg_right hb.2 ht.1
  unfold mixI; omega
theorem mixI_mono {a b a' b' t : Int} (ha : a ≤ a') (hb : b ≤ b') (ht : 0 ≤ t ∧ t ≤ 256) : mixI a b t ≤ mixI a' b' t := by
  have h3 : a * (256 - t) ≤ a' * (256 - t) := Int.mul_le_mul_of_nonneg_right ha (by omega)
  have h4 : b * t ≤ b' * t := Int.mul_le_mul_of_nonneg_right hb ht.1
  unfold mixI; omega
theorem mix_words {a b t : Int} (ha : 0 ≤ a ∧ a ≤ 255) (hb : 0 ≤ b ∧ b ≤ 255) (ht : 0 ≤ t ∧ t ≤ 256) :
    wi64 (Int.tdiv (wi64 ((wi64 ((wi64 ((wi64 a) * (256 - t))) + (wi64 ((wi64 b) * t)))) + 128)) 256) = mixI a b t := by
  have h1 : 0 ≤ a * (256 - t) := Int.mul_nonneg ha.1 (by omega)
  have h2 : 0 ≤ b * t := Int.mul_nonneg hb.1 ht.1
  have h3 : a * (256 - t) ≤ 255 * (256 - t) := Int.mul_le_mul_of_nonneg_right ha.2 (by omega)
  have h4 : b * t ≤ 255 * t := Int.mul_le_mul_of_nonneg_right hb.2 ht.1
  rw [wi64xid (n := a) (by omega) (by omega), wi64xid (n := b) (by omega) (by omega), wi64xid (n := a * (256 - t)) (by omega) (by omega), wi64xid (n := b * t) (by omega) (by omega),
    wi64xid (n := a * (256 - t) + b * t) (by omega) (by omega), wi64xid (n := a * (256 - t) + b * t + 128) (by omega) (by omega), Int.tdiv_eq_ediv_of_nonneg (by omega), wi64xid (by omega) (by omega)]
  rfl
/-- All parts right for a colour. -/
def okC (c : Col) : Prop := (0 ≤ c.r ∧ c.r ≤ 255) ∧ (0 ≤ c.g ∧ c.g ≤ 255) ∧ (0 ≤ c.b ∧ c.b ≤ 255) ∧ (0 ≤ c.a ∧ c.a ≤ 255)
def preC (c : Col) : Prop := c.r ≤ c.a ∧ c.g ≤ c.a ∧ c.b ≤ c.a
def mixC (c d : Col) (t : Int) : Col := ⟨mixI c.r d.r t, mixI c.g d.g t, mixI c.b d.b t, mixI c.a d.a t⟩
theorem mixC_ok {c d : Col} {t : Int} (hc : okC c) (hd : okC d) (ht : 0 ≤ t ∧ t ≤ 256) : okC (mixC c d t) :=
  ⟨mixI_bd hc.1 hd.1 ht, mixI_bd hc.2.1 hd.2.1 ht, mixI_bd hc.2.2.1 hd.2.2.1 ht, mixI_bd hc.2.2.2 hd.2.2.2 ht⟩
theorem mixC_pre {c d : Col} {t : Int} (hc : preC c) (hd : preC d) (ht : 0 ≤ t ∧ t ≤ 256) : preC (mixC c d t) :=
  ⟨mixI_mono hc.1 hd.1 ht, mixI_mono hc.2.1 hd.2.1 ht, mixI_mono hc.2.2 hd.2.2 ht⟩
theorem F31xeq {α : Type} (k0 : Int → Int → Int → Int → Option α) (c d : Col) (t : Int) (hc : okC c) (hd : okC d) (ht : 0 ≤ t ∧ t ≤ 256) :
    F31 k0 c.r c.g c.b c.a d.r d.g d.b d.a t = k0 (mixC c d t).r (mixC c d t).g (mixC c d t).b (mixC c d t).a := by
  have e : mn (mx t 0) 256 = t := by rw [mx_def, mn_def]; omega
  have e2 : wi64 (256 - t) = 256 - t := wi64xid (by omega) (by omega)
  simp only [F31, F31g, e, e2, mix_words hc.1 hd.1 ht, mix_words hc.2.1 hd.2.1 ht, mix_words hc.2.2.1 hd.2.2.1 ht, mix_words hc.2.2.2 hd.2.2.2 ht]
  rw [F47xeq _ (mixI_bd hc.1 hd.1 ht).1 (mixI_bd hc.1 hd.1 ht).2, F47xeq _ (mixI_bd hc.2.1 hd.2.1 ht).1 (mixI_bd hc.2.1 hd.2.1 ht).2, F47xeq _ (mixI_bd hc.2.2.1 hd.2.2.1 ht).1 (mixI_bd hc.2.2.1 hd.2.2.1 ht).2, F47xeq _ (mixI_bd hc.2.2.2 hd.2.2.2 ht).1 (mixI_bd hc.2.2.2 hd.2.2.2 ht).2]
  rfl
end Gz
