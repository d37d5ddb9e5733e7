/- Images taken; runs gone through; rows that are the same. -/
import Derived.Test.YtpdomjkgdlineaaP5
set_option linter.unusedVariables false
set_option linter.unusedSimpArgs false
set_option linter.unnecessarySimpa false
set_option linter.deprecated false
namespace Gz
open Go

/-! What numbers say. -/
def many (n : Int) (acc : List Col) : Nat := min n.toNat (4097 - acc.length)
def pxs : List Int → List Col → List Col
  | n :: r :: g :: b :: a :: rest, acc => pxs rest (acc ++ List.replicate (many n acc) ⟨wu8 r, wu8 g, wu8 b, wu8 a⟩)
  | _, acc => acc
theorem pxs_short {l : List Int} (h : l.length < 5) (acc : List Col) : pxs l acc = acc := by
  match l, h with
  | [], _ => rfl
  | [_], _ => rfl
  | [_, _], _ => rfl
  | [_, _, _], _ => rfl
  | [_, _, _, _], _ => rfl
  | _ :: _ :: _ :: _ :: _ :: _, h => simp at h; omega
theorem pxs_step {l : List Int} {i : Nat} (h : i + 5 ≤ l.length) (acc : List Col) : pxs (l.drop i) acc = pxs (l.drop (i + 5)) (acc ++ List.replicate (many l[i] acc) ⟨wu8 l[i + 1], wu8 l[i + 2], wu8 l[i + 3], wu8 l[i + 4]⟩) := by
  rw [List.drop_eq_getElem_cons (show i < l.length by omega), List.drop_eq_getElem_cons (show i + 1 < l.length by omega), List.drop_eq_getElem_cons (show i + 1 + 1 < l.length by omega), List.drop_eq_getElem_cons (show i + 1 + 1 + 1 < l.length by omega),
    List.drop_eq_getElem_cons (show i + 1 + 1 + 1 + 1 < l.length by omega)]
  rfl
theorem many_le (n : Int) (acc : List Col) (h : acc.length ≤ 4097) : acc.length + many n acc ≤ 4097 := by unfold many; omega
theorem pxs_len : ∀ (k : Nat) (l : List Int) (acc : List Col), l.length ≤ k → acc.length ≤ 4097 → (pxs l acc).length ≤ 4097
  | 0, l, acc, h, ha => by rw [pxs_short (by omega)]; exact ha
  | k + 1, l, acc, h, ha => by
    by_cases h5 : l.length < 5
    · rw [pxs_short h5]; exact ha
    · have := pxs_step (l := l) (i := 0) (by omega) acc
      rw [List.drop_zero] at this
      rw [this]
      exact pxs_len k _ _ (by simp; omega) (by have := many_le (l[0]'(by omega)) acc ha; simp; omega)
theorem wu8xrng (n : Int) : 0 ≤ wu8 n ∧ wu8 n ≤ 255 := by rw [wu8xdef]; omega
theorem okCol_wu8 (a b c d : Int) : okCol ⟨wu8 a, wu8 b, wu8 c, wu8 d⟩ := by
  have h : ∀ n, okI .u8 (wu8 n) := fun n => by
    have := wu8xrng n
    simp [okI, IntKind.min, IntKind.max, IntKind.signed, IntKind.bits]; exact this
  exact ⟨h _, h _, h _, h _⟩
theorem pxs_ok : ∀ (k : Nat) (l : List Int) (acc : List Col), l.length ≤ k → okC acc → okC (pxs l acc)
  | 0, l, acc, h, ha => by rw [pxs_short (by omega)]; exact ha
  | k + 1, l, acc, h, ha => by
    by_cases h5 : l.length < 5
    · rw [pxs_short h5]; exact ha
    · have := pxs_step (l := l) (i := 0) (by omega) acc
      rw [List.drop_zero] at this
      rw [this]
      refine pxs_ok k _ _ (by simp; omega) fun c hc => ?_
      rcases List.mem_append.1 hc with hc | hc
      · exact ha c hc
      · rw [(List.mem_replicate.1 hc).2]; exact okCol_wu8 _ _ _ _

section
variable {α : Type}
/-! The program's. -/
theorem L8x10xeq (k0 : List Int → List Int → Int → Int → List Int → Int → Int → Int → Int → Int → Int → List Col → List Col → Option α) (l1 l2 : List Int) (cnt : Nat) (hcnt : cnt ≤ 5000) (a b : Int) (l3 : List Int) (c d r g bb aa : Int) (l4 : List Col) : ∀ (n i : Nat) (px : List Col), i ≤ cnt → cnt - i < n → px.length + (cnt - i) ≤ 5000 →
    L8x10 k0 n l1 l2 (cnt : Int) (i : Int) a b l3 c d r g bb aa l4 px = k0 l1 l2 a b l3 c d r g bb aa l4 (px ++ List.replicate (cnt - i) ⟨r, g, bb, aa⟩)
  | 0, _, _, _, h, _ => by omega
  | n + 1, i, px, hi, hn, hp => by
    simp only [L8x10, L8x10g]
    by_cases h : i < cnt
    · have e1 : wi64 ((i : Int) + 1) = ((i + 1 : Nat) : Int) := by rw [wi64xid (by omega) (by omega)]; omega
      rw [cond_t (by simpa using h), cond_t (room_t (by simp; omega)), e1, L8x10xeq k0 l1 l2 cnt hcnt a b l3 c d r g bb aa l4 n (i + 1) _ (by omega) (by omega) (by simp; omega)]
      have e2 : cnt - i = (cnt - (i + 1)) + 1 := by omega
      rw [e2, List.replicate_succ]; simp
    · rw [cond_f (by simpa using h)]
      have : cnt - i = 0 := by omega
      rw [this]; simp

theorem many_word (n : Int) (px : List Col) (hp : px.length ≤ 4097) (hn : okI .i64 n) : mn (mx n 0) (wi64 (4097 - mn (ln px) 4097)) = (many n px : Int) ∧ many n px ≤ 4097 := by
  simp [okI, IntKind.min, IntKind.max, IntKind.signed, IntKind.bits] at hn
  rw [mn_def, mx_def, mn_def, ln_def, wi64xid (by omega) (by omega)]
  unfold many
  omega

theorem L8x6xeq {N : Nat} (hN : 6000 ≤ N) (k0 : List Int → Int → Int → List Int → Int → Int → List Col → List Col → Option α) (l1 : List Int) (a b : Int) (l3 : List Int) (c d : Int) (l4 : List Col) : ∀ (n : Nat) (l : List Int) (px : List Col), okN l → l.length ≤ 100000 → l.length < n → px.length ≤ 4097 →
    L8x6 N k0 n l1 l a b l3 c d l4 px = k0 l1 a b l3 c d l4 (pxs l px)
  | 0, _, _, _, _, h, _ => by omega
  | n + 1, l, px, hl, hlen, hn, hp => by
    simp only [L8x6, L8x6g]
    by_cases h : 5 ≤ l.length
    · obtain ⟨m1, m2⟩ := many_word l[0] px hp (hl _ (List.getElem_mem _))
      have r0 : rd .int l 0 = l[0] := rd_n 0 (by omega)
      have r1 : rd .int l 1 = l[1] := rd_n 1 (by omega)
      have r2 : rd .int l 2 = l[2] := rd_n 2 (by omega)
      have r3 : rd .int l 3 = l[3] := rd_n 3 (by omega)
      have r4 : rd .int l 4 = l[4] := rd_n 4 (by omega)
      rw [cd_t (by rw [ln_def]; omega), cond_t (inb_t (by omega) (by omega)), cond_t (inb_t (by omega) (by omega)), cond_t (inb_t (by omega) (by omega)), cond_t (inb_t (by omega) (by omega)), cond_t (inb_t (by omega) (by omega)), r0, r1, r2, r3, r4, m1]
      have hm := many_le l[0] px hp
      have := L8x10xeq (α := α) (fun l290 l291 x292 x293 l294 x295 x296 x297 x298 x299 x300 l301 l302 => bif insE 5 l291 then L8x6 N k0 n l290 (subE l291 5) x292 x293 l294 x295 x296 l301 l302 else none) l1 l (many l[0] px) (by omega) a b l3 c d (wu8 l[1]) (wu8 l[2]) (wu8 l[3]) (wu8 l[4]) l4 N 0 px (by omega) (by omega) (by omega)
      rw [show ((0 : Nat) : Int) = 0 from rfl] at this
      rw [this, cond_t (insE_t (by omega) (by omega))]
      have e5 : subE l 5 = l.drop 5 := subE_n l 5
      rw [e5, L8x6xeq hN k0 l1 a b l3 c d l4 n (l.drop 5) _ (fun x hx => hl x (List.mem_of_mem_drop hx)) (by simp; omega) (by simp; omega) (by simp; omega)]
      have := pxs_step (l := l) (i := 0) (by omega) px
      rw [List.drop_zero] at this
      rw [this]; simp
    · rw [cd_f (by rw [ln_def]; omega), pxs_short (by omega)]

/-- What an image is taken as. -/
structure Tk where (w h e : Int) (px : List Col)
def tkn (b : List Int) (L : List Int) : Tk := if h : 2 ≤ L.length then
    (if fits (L[0]'(by omega)) (L[1]'(by omega)) (pxs (L.drop 2) []) = true ∧ putB (L[0]'(by omega)) (L[1]'(by omega)) (pxs (L.drop 2) []) = b then ⟨L[0]'(by omega), L[1]'(by omega), 0, pxs (L.drop 2) []⟩ else ⟨0, 0, 10, []⟩)
  else ⟨0, 0, 10, []⟩

theorem putB_ok (w h : Int) (l : List Col) : okB (putB w h l) := by
  unfold putB; split
  · exact encs_okB _
  · intro x hx; cases hx

theorem alls_ok : ∀ (n : Nat) (b : List Int), okB b → okN (alls n b).1 ∧ (alls n b).1.length ≤ b.length
  | 0, b, _ => by simp [alls, okN]
  | n + 1, b, hb => by
    simp only [alls]
    by_cases hne : b = []
    · rw [if_pos hne]; simp [okN]
    · rw [if_neg hne]
      cases hr : rdC 0 b with
      | none => simp [okN]
      | some q =>
        obtain ⟨v, m⟩ := q
        obtain ⟨m0, m1, _, _, m4⟩ := rdC_0 hb hr
        obtain ⟨h1, h2⟩ := alls_ok n (b.drop m) (okB_drop hb m)
        simp only
        refine ⟨fun x hx => ?_, by simp at h2 ⊢; omega⟩
        rcases List.mem_cons.1 hx with rfl | hx
        · exact uz_ok m4
        · exact h1 x hx

theorem F8xeq {N : Nat} (k0 : Int → Int → Int → List Col → Option α) (b : List Int) (hb : okB b) (hl : b.length ≤ 10000) (hN : 50000 ≤ N) : F8 N k0 b = k0 (tkn b (numL b)).w (tkn b (numL b)).h (tkn b (numL b)).e (tkn b (numL b)).px := by
  unfold F8 F8g
  rw [F24xeq _ b hb (by omega) (by omega)]
  try dsimp only
  obtain ⟨o1, o2⟩ := alls_ok (b.length + 1) b hb
  have hN1 : okN (numL b) ∧ (numL b).length ≤ b.length := by
    unfold numL; split
    · exact ⟨fun x hx => (by cases hx), by simp⟩
    · exact ⟨o1, o2⟩
  generalize hL : numL b = L at hN1
  unfold tkn
  by_cases h2 : 2 ≤ L.length
  · have r0 : rd .int L 0 = L[0] := rd_n 0 (by omega)
    have r1 : rd .int L 1 = L[1] := rd_n 1 (by omega)
    have e2 : subE L 2 = L.drop 2 := subE_n L 2
    rw [cd_f (by rw [ln_def]; omega), cond_t (inb_t (by omega) (by omega)), cond_t (inb_t (by omega) (by omega)), cond_t (insE_t (by omega) (by omega)), r0, r1, e2, dif_pos h2]
    have hok : okC (pxs (L.drop 2) []) := pxs_ok _ _ _ (Nat.le_refl _) (fun c hc => by cases hc)
    rw [L8x6xeq (by omega) _ _ _ _ _ _ _ _ N (L.drop 2) [] (fun x hx => hN1.1 x (List.mem_of_mem_drop hx)) (by simp; omega) (by simp; omega) (by simp), F6xeq (by omega) _ _ _ _ hok]
    unfold putE
    by_cases hf : fits L[0] L[1] (pxs (L.drop 2) []) = true
    · rw [if_pos hf, cond_f (by simp)]
      unfold F25 F25g
      rw [seqS_bytes (putB_ok _ _ _) hb]
      try dsimp only
      by_cases he : putB L[0] L[1] (pxs (L.drop 2) []) = b
      · rw [cond_f (by simp [he]), if_pos ⟨hf, he⟩]
      · rw [cond_t (by simp [he]), if_neg (fun h => he h.2)]
    · rw [if_neg hf, cond_t (by simp), if_neg (fun h => hf h.1)]
  · rw [cd_t (by rw [ln_def]; omega), dif_neg h2]

/-! The reference's. -/
theorem L9x9xeq (k0 : List Int → Int → Int → Int → Int → Int → List Int → List Col → List Col → Option α) (b0 : List Int) (l : List Int) (hlen : l.length ≤ 100000) (hl : okN l) (i : Nat) (hi : i + 5 ≤ l.length) (a b c d : Int) (l4 : List Col) : ∀ (n k : Nat) (px : List Col), px.length ≤ 4097 → 4097 - px.length < n → k ≤ px.length →
    L9x9 k0 n b0 (i : Int) (k : Int) a b c d l l4 px = k0 b0 (i : Int) a b c d l l4 (px ++ List.replicate (many (l[i] - k) px) ⟨wu8 l[i + 1], wu8 l[i + 2], wu8 l[i + 3], wu8 l[i + 4]⟩)
  | 0, _, _, _, h, _ => by omega
  | n + 1, k, px, hp, hn, hk => by
    simp only [L9x9, L9x9g]
    have hli := hl _ (List.getElem_mem (show i < l.length by omega))
    simp [okI, IntKind.min, IntKind.max, IntKind.signed, IntKind.bits] at hli
    rw [cond_t (inb_n (by omega)), rd_n i (by omega)]
    by_cases h1 : (k : Int) < l[i]
    · rw [cond_t (by simpa using h1)]
      by_cases h2 : px.length < 4097
      · have e1 : wi64 ((i : Int) + 1) = ((i + 1 : Nat) : Int) := by rw [wi64xid (by omega) (by omega)]; omega
        have e2 : wi64 ((i : Int) + 2) = ((i + 2 : Nat) : Int) := by rw [wi64xid (by omega) (by omega)]; omega
        have e3 : wi64 ((i : Int) + 3) = ((i + 3 : Nat) : Int) := by rw [wi64xid (by omega) (by omega)]; omega
        have e4 : wi64 ((i : Int) + 4) = ((i + 4 : Nat) : Int) := by rw [wi64xid (by omega) (by omega)]; omega
        have ek : wi64 ((k : Int) + 1) = ((k + 1 : Nat) : Int) := by rw [wi64xid (by omega) (by omega)]; omega
        rw [cd_t (by rw [ln_def]; omega)]
        simp only [e1, e2, e3, e4, ek]
        rw [cond_t (inb_n (by omega)), cond_t (inb_n (by omega)), cond_t (inb_n (by omega)), cond_t (inb_n (by omega)), rd_n (i + 1) (by omega), rd_n (i + 2) (by omega), rd_n (i + 3) (by omega), rd_n (i + 4) (by omega), cond_t (room_t (by simp; omega))]
        rw [L9x9xeq k0 b0 l hlen hl i hi a b c d l4 n (k + 1) _ (by simp; omega) (by simp; omega) (by simp; omega)]
        have hm : many (l[i] - k) px = many (l[i] - ((k + 1 : Nat) : Int)) (px ++ [⟨wu8 l[i + 1], wu8 l[i + 2], wu8 l[i + 3], wu8 l[i + 4]⟩]) + 1 := by
          unfold many; simp only [List.length_append, List.length_cons, List.length_nil]; omega
        rw [hm, List.replicate_succ]; simp
      · rw [cd_f (by rw [ln_def]; omega)]
        have : many (l[i] - k) px = 0 := by unfold many; omega
        rw [this]; simp
    · rw [cond_f (by simpa using h1)]
      have : many (l[i] - k) px = 0 := by unfold many; omega
      rw [this]; simp

theorem L9x6xeq {N : Nat} (hN : 6000 ≤ N) (k0 : List Int → Int → Int → Int → Int → List Col → List Col → Option α) (b0 : List Int) (l : List Int) (hlen : l.length ≤ 100000) (hl : okN l) (a b c d : Int) (l4 : List Col) : ∀ (n i : Nat) (px : List Col), l.length + 5 - i < n → i ≤ l.length + 5 → px.length ≤ 4097 →
    L9x6 N k0 n b0 (i : Int) a b c d l l4 px = k0 b0 a b c d l4 (pxs (l.drop i) px)
  | 0, _, _, h, _, _ => by omega
  | n + 1, i, px, hn, hi, hp => by
    simp only [L9x6, L9x6g]
    rw [wi64xid (n := (i : Int) + 5) (by omega) (by omega)]
    by_cases h : i + 5 ≤ l.length
    · have hm := many_le (l[i] - (0 : Nat)) px hp
      rw [cd_t (by rw [ln_def]; omega)]
      have := L9x9xeq (α := α) (fun l401 x402 x403 x404 x405 x406 l407 l408 l409 => L9x6 N k0 n l401 (wi64 (x402 + 5)) x403 x404 x405 x406 l407 l408 l409) b0 l hlen hl i h a b c d l4 N 0 px hp (by omega) (by omega)
      rw [show ((0 : Nat) : Int) = 0 from rfl] at this
      rw [this]
      have e1 : wi64 ((i : Int) + 5) = ((i + 5 : Nat) : Int) := by rw [wi64xid (by omega) (by omega)]; omega
      simp only [e1]
      rw [Int.sub_zero]
      rw [show ((0 : Nat) : Int) = 0 from rfl, Int.sub_zero] at hm
      rw [L9x6xeq hN k0 b0 l hlen hl a b c d l4 n (i + 5) _ (by omega) (by omega) (by simp; omega), pxs_step h]
    · rw [cd_f (by rw [ln_def]; omega), pxs_short (by simp; omega)]

/-- What was put is all numbers, and nothing else. -/
theorem alls_encs : ∀ (n : Nat) (M : List Int), okN M → (encs M).length < n → alls n (encs M) = (M, false)
  | 0, _, _, h => by omega
  | n + 1, [], _, _ => by simp [alls, encs]
  | n + 1, x :: M, hM, h => by
    have hx := hM x (List.mem_cons_self)
    have hz := zz_lt hx
    rw [encs_cons] at h ⊢
    simp only [alls]
    have hlen : 0 < (vb (zz x)).length := by simp [vb]
    have hne : vb (zz x) ++ encs M ≠ [] := by
      intro e; have := congrArg List.length e; rw [List.length_append, List.length_nil] at this; omega
    rw [if_neg hne, rdC_vb (zz x) 0 (encs M) (by omega) (by simpa using hz) (by omega)]
    simp only [List.drop_left]
    rw [alls_encs n M (fun y hy => hM y (List.mem_cons_of_mem _ hy)) (by rw [List.length_append] at h; omega), uz_zz]

theorem tkn_short {b L : List Int} (h : ¬ 2 ≤ L.length) : tkn b L = ⟨0, 0, 10, []⟩ := by unfold tkn; rw [dif_neg h]
/-- Bytes that are not numbers alone are none that are put. -/
theorem tkn_bad {b : List Int} (hb : okB b) (h : (alls (b.length + 1) b).2 = true) : tkn b (alls (b.length + 1) b).1 = ⟨0, 0, 10, []⟩ := by
  unfold tkn
  split
  · rename_i h2
    rw [if_neg]
    rintro ⟨hf, he⟩
    obtain ⟨o1, o2⟩ := okN_img hf (pxs_ok _ _ _ (Nat.le_refl _) (fun c hc => by cases hc))
    unfold putB at he
    rw [if_pos hf] at he
    have := alls_encs (b.length + 1) _ o1 (by rw [he]; omega)
    rw [he] at this
    rw [this] at h
    cases h
  · rfl
theorem numL_tkn {b : List Int} (hb : okB b) : tkn b (numL b) = tkn b (alls (b.length + 1) b).1 := by
  unfold numL
  split
  · rename_i h
    rw [tkn_bad hb h, tkn_short (by simp)]
  · rfl

theorem F9xeq {N : Nat} (k0 : Int → Int → Int → List Col → Option α) (b : List Int) (hb : okB b) (hl : b.length ≤ 10000) (hN : 50000 ≤ N) : F9 N k0 b = k0 (tkn b (numL b)).w (tkn b (numL b)).h (tkn b (numL b)).e (tkn b (numL b)).px := by
  rw [numL_tkn hb]
  unfold F9 F9g
  rw [F26xeq _ b hb (by omega) (by omega)]
  try dsimp only
  obtain ⟨o1, o2⟩ := alls_ok (b.length + 1) b hb
  generalize (alls (b.length + 1) b).1 = L at o1 o2
  unfold tkn
  by_cases h2 : 2 ≤ L.length
  · have r0 : rd .int L 0 = L[0] := rd_n 0 (by omega)
    have r1 : rd .int L 1 = L[1] := rd_n 1 (by omega)
    rw [cd_f (by rw [ln_def]; omega), cond_t (inb_t (by omega) (by omega)), cond_t (inb_t (by omega) (by omega)), r0, r1, dif_pos h2]
    have hok : okC (pxs (L.drop 2) []) := pxs_ok _ _ _ (Nat.le_refl _) (fun c hc => by cases hc)
    have := L9x6xeq (N := N) (by omega) (fun l417 x418 x419 x420 x421 l422 l423 => F7 N (fun x424 l425 => bif x424 != 0 then k0 0 0 10 [] else bif !(seqS (bytesOf l425) (bytesOf l417)) then k0 0 0 10 [] else k0 x420 x421 0 l423) x420 x421 l423) b L (by omega) o1 0 0 L[0] L[1] [] N 2 [] (by omega) (by omega) (by simp)
    rw [show ((2 : Nat) : Int) = 2 from rfl] at this
    refine Eq.trans this ?_
    try dsimp only
    rw [F7xeq (by omega) _ _ _ _ hok]
    unfold putE
    by_cases hf : fits L[0] L[1] (pxs (L.drop 2) []) = true
    · rw [if_pos hf, cond_f (by simp), seqS_bytes (putB_ok _ _ _) hb]
      by_cases he : putB L[0] L[1] (pxs (L.drop 2) []) = b
      · rw [cond_f (by simp [he]), if_pos ⟨hf, he⟩]
      · rw [cond_t (by simp [he]), if_neg (fun h => he h.2)]
    · rw [if_neg hf, cond_t (by simp), if_neg (fun h => hf h.1)]
  · rw [cd_t (by rw [ln_def]; omega), dif_neg h2]

/-! Rows that are the same. -/
theorem L10x4xeq (k0 : Bool → Option α) (k1 : Option α) (l : List Col) (hl : l.length ≤ 1000000) : ∀ (n i : Nat), l.length - i < n → i ≤ l.length → L10x4 k0 k1 n l l (i : Int) = k1
  | 0, _, h, _ => by omega
  | n + 1, i, hn, hi => by
    simp only [L10x4, L10x4g]
    by_cases h : i < l.length
    · have e1 : wi64 ((i : Int) + 1) = ((i + 1 : Nat) : Int) := by rw [wi64xid (by omega) (by omega)]; omega
      rw [cd_t (by rw [ln_def]; omega), cond_t (inb_n h), cond_t (inb_n h), colEq, cond_f (by simp), e1, L10x4xeq k0 k1 l hl n (i + 1) (by omega) (by omega)]
    · rw [cd_f (by rw [ln_def]; omega)]
theorem F10xeq {N : Nat} (k0 : Bool → Option α) (l : List Col) (hl : l.length ≤ 100000) (hN : l.length < N) : F10 N k0 l l = k0 true := by
  unfold F10 F10g
  rw [cond_f (by simp)]
  exact L10x4xeq _ _ l (by omega) N 0 (by omega) (by omega)
theorem L13x4xeq (k0 : Bool → Option α) (k1 : Option α) (l : List Int) (hl : l.length ≤ 1000000) : ∀ (n i : Nat), l.length - i < n → i ≤ l.length → L13x4 k0 k1 n l l (i : Int) = k1
  | 0, _, h, _ => by omega
  | n + 1, i, hn, hi => by
    simp only [L13x4, L13x4g]
    by_cases h : i < l.length
    · have e1 : wi64 ((i : Int) + 1) = ((i + 1 : Nat) : Int) := by rw [wi64xid (by omega) (by omega)]; omega
      rw [cd_t (by rw [ln_def]; omega), cond_t (inb_n h), cond_t (inb_n h), cond_f (by simp), e1, L13x4xeq k0 k1 l hl n (i + 1) (by omega) (by omega)]
    · rw [cd_f (by rw [ln_def]; omega)]
theorem F13xeq {N : Nat} (k0 : Bool → Option α) (l : List Int) (hl : l.length ≤ 100000) (hN : l.length < N) : F13 N k0 l l = k0 true := by
  unfold F13 F13g
  rw [cond_f (by simp)]
  exact L13x4xeq _ _ l (by omega) N 0 (by omega) (by omega)

/-! Runs gone through. -/
theorem L34x3b_eq (k0 : Int → Int → List Col → Int → Bool → List Col → List Int → List Col → List Int → List Col → Option α) (l1 : List Col) (a : Int) (bb : Bool) (l : List Col) (l2 : List Int) (l3 : List Col) (l4 : List Int) (l5 : List Col) (hlen : l.length ≤ 100000) (f : Nat) (hf : f < l.length) : ∀ (n e : Nat), e ≤ l.length → l.length - e < n →
    L34x3b k0 n (f : Int) (e : Int) l1 a bb l l2 l3 l4 l5 = k0 (f : Int) ((e + tw l l[f] e : Nat) : Int) l1 a bb l l2 l3 l4 l5
  | 0, _, _, h => by omega
  | n + 1, e, he, hn => by
    simp only [L34x3b, L34x3bg]
    by_cases h : e < l.length
    · rw [cd_t (by rw [ln_def]; omega), cond_t (inb_n h), cond_t (inb_n hf), rd_n e h, rd_n f hf, colEq, tw_step h]
      by_cases hc : l[e] = l[f]
      · have e1 : wi64 ((e : Int) + 1) = ((e + 1 : Nat) : Int) := by rw [wi64xid (by omega) (by omega)]; omega
        rw [cond_t (by simp [hc]), e1, L34x3b_eq k0 l1 a bb l l2 l3 l4 l5 hlen f hf n (e + 1) (by omega) (by omega), if_pos hc]
        congr 2; omega
      · rw [cond_f (by simp [hc]), if_neg hc]; rfl
    · rw [cd_f (by rw [ln_def]; omega), tw_end (by omega)]; rfl

theorem L34x1b_eq {N : Nat} (k0 k1 k2 : List Col → Int → Bool → List Col → List Int → List Col → List Int → List Col → Option α) (a : Int) (bb : Bool) (l : List Col) (l2 : List Int) (l3 : List Col) (hlen : l.length ≤ 5000) (ha : 5001 ≤ a) (hN : l.length + 20 ≤ N) : ∀ (n f : Nat), f ≤ l.length → l.length - f < n →
    (∀ (h : f < l.length), ∀ p, (rns (l.take f)).getLast? = some p → p.2 ≠ l[f]) →
    L34x1b N k0 k1 k2 n (f : Int) (f : Int) l a bb l l2 l3 ((rns (l.take f)).map (·.1)) ((rns (l.take f)).map (·.2)) = k2 l a bb l l2 l3 ((rns l).map (·.1)) ((rns l).map (·.2))
  | 0, _, _, h, _ => by omega
  | n + 1, f, hf, hn, hlast => by
    simp only [L34x1b, L34x1bg]
    by_cases h : f < l.length
    · obtain ⟨g1, g2⟩ := rns_grp h (hlast h)
      have g3 := rns_next h (hlast h)
      have g4 := tw_le l l[f] f hf
      obtain ⟨r1, r2, _⟩ := rns_len f (l.take f) (by simp; omega)
      obtain ⟨r3, _, _⟩ := rns_len (f + tw l l[f] f) (l.take (f + tw l l[f] f)) (by simp; omega)
      rw [g1] at r3
      simp at r3
      rw [cd_t (by rw [ln_def]; omega), L34x3b_eq _ _ _ _ l _ _ _ _ (by omega) f h N f (by omega) (by omega)]
      have e1 : wi64 (((f + tw l l[f] f : Nat) : Int) - (f : Int)) = ((tw l l[f] f : Nat) : Int) := by rw [wi64xid (by omega) (by omega)]; omega
      rw [cond_t (inb_n h), e1, rd_n f h, cond_t (room_t (by simp; omega)), cond_t (room_t (by simp; omega)), cd_f (by rw [ln_def]; simp; omega), cd_f (by rw [ln_def, ln_def]; simp; omega)]
      have e2 : (rns (l.take f)).map (fun x => x.1) ++ [((tw l l[f] f : Nat) : Int)] = (rns (l.take (f + tw l l[f] f))).map (fun x => x.1) := by rw [g1]; simp
      have e3 : (rns (l.take f)).map (fun x => x.2) ++ [l[f]] = (rns (l.take (f + tw l l[f] f))).map (fun x => x.2) := by rw [g1]; simp
      rw [e2, e3, L34x1b_eq k0 k1 k2 a bb l l2 l3 hlen ha hN n (f + tw l l[f] f) g4 (by omega) g3]
    · rw [cd_f (by rw [ln_def]; omega), List.take_of_length_le (by omega)]

theorem F11xeq {N : Nat} (k0 : Bool → List Int → List Col → Option α) (l : List Col) (hlen : l.length ≤ 5000) (hN : 10000 ≤ N) : F11 N k0 l 10000 = k0 true ((rns l).map (·.1)) ((rns l).map (·.2)) := by
  unfold F11 F11g G11x18 G11x18g
  have := L34x1b_eq (N := N) (fun l513 x514 b515 l516 l517 l518 l519 l520 => k0 true l519 l520) (fun l529 x530 b531 l532 l533 l534 l535 l536 => k0 b531 l533 l534) (fun l545 x546 b547 l548 l549 l550 l551 l552 => k0 true l551 l552)
    10000 false l [] [] hlen (by omega) (by omega) N 0 (by omega) (by omega) (by simp [rns])
  exact this

/-! The document's example, and the whole. -/
theorem F5xeq {N : Nat} (hN : 10000 ≤ N) (k0 : Bool → Option α) : F5 N k0 = k0 true := by
  unfold F5 F5g
  have hc : okC [⟨0, 0, 0, 0⟩, ⟨0, 0, 0, 0⟩] := by
    intro c hc
    have : c = ⟨0, 0, 0, 0⟩ := by simpa using hc
    subst this
    have h : okI .u8 0 := by simp [okI, IntKind.min, IntKind.max, IntKind.signed, IntKind.bits]
    exact ⟨h, h, h, h⟩
  rw [F6xeq hN _ _ _ _ hc]
  have h1 : putE 2 1 [⟨0, 0, 0, 0⟩, ⟨0, 0, 0, 0⟩] = 0 := by decide
  have v : ∀ n : Nat, n < 128 → vb n = [(n : Int)] := fun n h => vb_s h
  have h2 : putB 2 1 [⟨0, 0, 0, 0⟩, ⟨0, 0, 0, 0⟩] = [4, 2, 4, 0, 0, 0, 0] := by
    have hf : fits 2 1 [⟨0, 0, 0, 0⟩, ⟨0, 0, 0, 0⟩] = true := by decide
    have hr : rns [⟨0, 0, 0, 0⟩, ⟨0, 0, 0, 0⟩] = [(2, ⟨0, 0, 0, 0⟩)] := by decide
    unfold putB
    rw [if_pos hf, hr]
    have z2 : zz 2 = 4 := by decide
    have z1 : zz 1 = 2 := by decide
    have z0 : zz 0 = 0 := by decide
    simp [flt, encs, z2, z1, z0, v 4 (by omega), v 2 (by omega), v 0 (by omega)]
  rw [h1, h2]
  try dsimp only
  have h3 : bytesOf [4, 2, 4, 0, 0, 0, 0] = csv0 := rfl
  rw [cond_t (by decide), h3, cond_t (by simp [seqS])]

theorem M3x26xeq (k0 : List Int → Bool → Int → Int → List Col → Option α) (l1 : List Int) (b : Bool) (x y : Int) (l : List Col) : M3x26 k0 l1 b (decide (ln l > 400)) x y l = k0 l1 b x y (l.take 400) := by
  unfold M3x26 M3x26g
  by_cases h : l.length ≤ 400
  · rw [cd_f (by rw [ln_def]; omega), List.take_of_length_le h]
  · rw [cd_t (by rw [ln_def]; omega), cond_t (insl_t (by omega) (by omega) (by omega))]
    have : subL l 0 400 = l.take 400 := subL_0 l 400
    rw [this]
theorem M3x33xeq (k0 : List Int → Bool → Int → Int → List Col → Option α) (l1 : List Int) (b : Bool) (x y : Int) (l : List Col) : M3x33 k0 l1 b (decide (ln l1 > 600)) x y l = k0 (l1.take 600) b x y l := by
  unfold M3x33 M3x33g
  by_cases h : l1.length ≤ 600
  · rw [cd_f (by rw [ln_def]; omega), List.take_of_length_le h]
  · rw [cd_t (by rw [ln_def]; omega), cond_t (insl_t (by omega) (by omega) (by omega))]
    have : subL l1 0 600 = l1.take 600 := subL_0 l1 600
    rw [this]

theorem F3xeq {N : Nat} (hN : 100000 ≤ N) (x0 x1 : Int) (l2 : List Col) (l3 : List Int) (h2 : okC l2) (h3 : okB l3) (k : Bool → Option α) : F3 N k x0 x1 l2 l3 = k true := by
  unfold F3 F3g
  rw [F5xeq (by omega)]
  try dsimp only
  rw [M3x26xeq]
  try dsimp only
  rw [M3x33xeq]
  try dsimp only
  have hl : (l2.take 400).length ≤ 400 := by simp; omega
  have hb : (l3.take 600).length ≤ 600 := by simp; omega
  have hlo : okC (l2.take 400) := fun c hc => h2 c (List.mem_of_mem_take hc)
  have hbo : okB (l3.take 600) := fun c hc => h3 c (List.mem_of_mem_take hc)
  generalize l2.take 400 = l at hl hlo
  generalize l3.take 600 = b at hb hbo
  obtain ⟨r1, r2, _⟩ := rns_len l.length l rfl
  have hpx : (tkn b (numL b)).px.length ≤ 4097 := by
    unfold tkn
    split
    · split
      · exact pxs_len _ _ _ (Nat.le_refl _) (by simp)
      · simp
    · simp
  rw [F6xeq (by omega) _ _ _ _ hlo]
  try dsimp only
  rw [F7xeq (by omega) _ _ _ _ hlo]
  try dsimp only
  rw [F8xeq _ b hbo (by omega) (by omega)]
  try dsimp only
  rw [F9xeq _ b hbo (by omega) (by omega)]
  try dsimp only
  rw [F10xeq _ _ (by omega) (by omega)]
  try dsimp only
  rw [F11xeq _ l (by omega) (by omega)]
  try dsimp only
  rw [F12xeq _ l (by omega) (by omega)]
  try dsimp only
  rw [F13xeq _ _ (by simp; omega) (by simp; omega)]
  try dsimp only
  rw [F10xeq _ _ (by simp; omega) (by simp; omega)]
  try dsimp only
  have hs : ∀ x : ByteArray, seqS x x = true := fun x => by simp [seqS]
  rw [hs]
  simp
end
end Gz
