/- Runs of pixels, and images as bytes. -/
import Derived.Test.YtpdomjkgdlineaaP1
set_option linter.unusedVariables false
set_option linter.unusedSimpArgs false
set_option linter.unnecessarySimpa false
set_option linter.deprecated false
namespace Gz
open Go

def stp (acc : List (Int × Col)) (c : Col) : List (Int × Col) := match acc.getLast? with
  | some (m, d) => if d = c then acc.dropLast ++ [(m + 1, c)] else acc ++ [(1, c)]
  | none => [(1, c)]
def rns (l : List Col) : List (Int × Col) := l.foldl stp []
theorem rns_nil : rns [] = [] := rfl
theorem rns_snoc (l : List Col) (c : Col) : rns (l ++ [c]) = stp (rns l) c := by simp [rns]
theorem rns_take {l : List Col} {i : Nat} (h : i < l.length) : rns (l.take (i + 1)) = stp (rns (l.take i)) l[i] := by
  rw [List.take_succ_eq_append_getElem h, rns_snoc]
theorem stp_nil (c : Col) : stp [] c = [(1, c)] := rfl
theorem stp_snoc (acc : List (Int × Col)) (m : Int) (d c : Col) : stp (acc ++ [(m, d)]) c = if d = c then acc ++ [(m + 1, c)] else acc ++ [(m, d)] ++ [(1, c)] := by
  simp [stp]
theorem snoc_cases {β : Type} (l : List β) : l = [] ∨ ∃ l' x, l = l' ++ [x] := by
  rcases List.eq_nil_or_concat l with h | ⟨l', x, h⟩
  · exact .inl h
  · exact .inr ⟨l', x, by simpa using h⟩
theorem rns_len : ∀ (n : Nat) (l : List Col), l.length = n → (rns l).length ≤ n ∧ (∀ p ∈ rns l, 1 ≤ p.1 ∧ p.1 ≤ n ∧ p.2 ∈ l) ∧ (l ≠ [] → rns l ≠ [])
  | 0, l, h => by rw [List.eq_nil_of_length_eq_zero h]; simp [rns]
  | n + 1, l, h => by
    rcases snoc_cases l with rfl | ⟨l', x, rfl⟩
    · simp at h
    · have hl : l'.length = n := by simpa using h
      obtain ⟨h1, h2, h3⟩ := rns_len n l' hl
      rw [rns_snoc]
      rcases snoc_cases (rns l') with he | ⟨acc, ⟨m, d⟩, he⟩
      · rw [he, stp_nil]
        exact ⟨by simp, by intro p hp; simp at hp; subst hp; exact ⟨by simp, by simp; omega, by simp⟩, by simp⟩
      · rw [he] at h1 h2 ⊢
        rw [stp_snoc]
        have hm := h2 (m, d) (by simp)
        split
        · refine ⟨by simp at h1 ⊢; omega, ?_, by simp⟩
          intro p hp
          rcases List.mem_append.1 hp with hp | hp
          · have := h2 p (List.mem_append_left _ hp); exact ⟨this.1, by omega, List.mem_append_left _ this.2.2⟩
          · simp at hp; subst hp; exact ⟨by omega, by simp; omega, by simp⟩
        · refine ⟨by simp at h1 ⊢; omega, ?_, by simp⟩
          intro p hp
          rcases List.mem_append.1 hp with hp | hp
          · have := h2 p hp; exact ⟨this.1, by omega, List.mem_append_left _ this.2.2⟩
          · rw [List.mem_singleton] at hp; subst hp; exact ⟨by simp, by simp; omega, by simp⟩

def flt (acc : List (Int × Col)) : List Int := acc.flatMap fun p => [p.1, p.2.r, p.2.g, p.2.b, p.2.a]
theorem flt_append (a b : List (Int × Col)) : flt (a ++ b) = flt a ++ flt b := by simp [flt]
theorem flt_len (a : List (Int × Col)) : (flt a).length = 5 * a.length := by
  induction a with
  | nil => rfl
  | cons p a ih => simp [flt] at ih ⊢; omega

theorem colEq (a b : Col) : ((a.r == b.r) && ((a.g == b.g) && ((a.b == b.b) && ((a.a == b.a) && true)))) = decide (a = b) := by
  obtain ⟨r, g, b1, a1⟩ := a
  obtain ⟨r', g', b1', a1'⟩ := b
  by_cases h1 : r = r' <;> by_cases h2 : g = g' <;> by_cases h3 : b1 = b1' <;> by_cases h4 : a1 = a1' <;> simp [h1, h2, h3, h4]

def okC (l : List Col) : Prop := ∀ c ∈ l, okCol c
theorem okCol.n {c : Col} (h : okCol c) : (0 ≤ c.r ∧ c.r ≤ 255) ∧ (0 ≤ c.g ∧ c.g ≤ 255) ∧ (0 ≤ c.b ∧ c.b ≤ 255) ∧ (0 ≤ c.a ∧ c.a ≤ 255) := by
  have h1 := h.r; have h2 := h.g; have h3 := h.b; have h4 := h.a
  simp [okI, IntKind.min, IntKind.max, IntKind.signed, IntKind.bits] at h1 h2 h3 h4
  exact ⟨h1, h2, h3, h4⟩
theorem okI_of {n : Int} (h : -9223372036854775808 ≤ n) (h' : n ≤ 9223372036854775807) : okI .i64 n := by
  simp [okI, IntKind.min, IntKind.max, IntKind.signed, IntKind.bits]; omega
theorem okN_run {m : Int} {c : Col} (hm : 0 ≤ m) (hm' : m ≤ 1000000) (hc : okCol c) : okN [m, c.r, c.g, c.b, c.a] := by
  obtain ⟨h1, h2, h3, h4⟩ := hc.n
  intro x hx
  simp at hx
  rcases hx with rfl | rfl | rfl | rfl | rfl <;> exact okI_of (by omega) (by omega)

/-! The reference's runs. -/
section
variable {α : Type}
theorem L12x4xeq (k0 : List Int → List Col → Option α) (l : List Col) (hlen : l.length ≤ 100000) : ∀ (n i : Nat), i ≤ l.length → l.length - i < n →
    L12x4 k0 n l (i : Int) ((rns (l.take i)).map (·.1)) ((rns (l.take i)).map (·.2)) = k0 ((rns l).map (·.1)) ((rns l).map (·.2))
  | 0, _, _, h => by omega
  | n + 1, i, hi, hn => by
    simp only [L12x4, L12x4g]
    by_cases h : i < l.length
    · have e1 : wi64 ((i : Int) + 1) = ((i + 1 : Nat) : Int) := by rw [wi64xid (by omega) (by omega)]; omega
      have ih := L12x4xeq k0 l hlen n (i + 1) (by omega) (by omega)
      rw [rns_take h] at ih
      obtain ⟨r1, r2, _⟩ := rns_len i (l.take i) (by simp; omega)
      rw [cond_t (by simp [ln_def]; omega), e1]
      rcases snoc_cases (rns (l.take i)) with he | ⟨acc, ⟨m, d⟩, he⟩
      · rw [he] at ih ⊢
        rw [cond_f (by simp [ln_def]), cond_t (room_t (by simp)), cond_t (inb_n h), cond_t (room_t (by simp)), rd_n i h]
        exact ih
      · rw [he] at ih r1 r2 ⊢
        have hm := r2 (m, d) (by simp)
        simp at r1
        have e2 : wi64 (ln ((acc ++ [(m, d)]).map (·.2)) - 1) = (acc.length : Int) := by
          rw [ln_def, wi64xid (by simp <;> omega) (by simp <;> omega)]; simp
        rw [e2, cond_t (by simp [ln_def] <;> omega), cond_t (inb_n (by simp)), cond_t (inb_n h), rd_n acc.length (by simp), rd_n i h, colEq]
        have e3 : ((acc ++ [(m, d)]).map (·.2))[acc.length]'(by simp) = d := by simp
        rw [e3]
        rw [stp_snoc] at ih
        by_cases hd : d = l[i]
        · rw [cond_t (by simp [hd]), cond_t (inb_n (by simp)), cond_t (inb_n (by simp)), rd_n acc.length (by simp)]
          rw [if_pos hd] at ih
          have e4 : ((acc ++ [(m, d)]).map (·.1))[acc.length]'(by simp) = m := by simp
          rw [e4, wi64xid (by omega) (by omega)]
          have e5 : stL ((acc ++ [(m, d)]).map (·.1)) (acc.length : Int) (m + 1) = (acc ++ [(m + 1, l[i])]).map (·.1) := by simp [stL]
          have e6 : (acc ++ [(m, d)]).map (·.2) = (acc ++ [(m + 1, l[i])]).map (·.2) := by simp [hd]
          rw [e5, e6]; exact ih
        · rw [cond_f (by simp [hd]), cond_t (room_t (by simp; omega)), cond_t (inb_n h), cond_t (room_t (by simp; omega))]
          rw [if_neg hd] at ih
          have e5 : (acc ++ [(m, d)]).map (fun x => x.1) ++ [1] = (acc ++ [(m, d)] ++ [((1 : Int), l[i])]).map (fun x => x.1) := by simp
          have e6 : (acc ++ [(m, d)]).map (fun x => x.2) ++ [l[i]] = (acc ++ [(m, d)] ++ [((1 : Int), l[i])]).map (fun x => x.2) := by simp
          rw [e5, e6]; exact ih
    · rw [cond_f (by simp [ln_def]; omega), List.take_of_length_le (by omega)]

theorem F12xeq {N : Nat} (k0 : List Int → List Col → Option α) (l : List Col) (hlen : l.length ≤ 100000) (hN : l.length < N) : F12 N k0 l = k0 ((rns l).map (·.1)) ((rns l).map (·.2)) := by
  unfold F12 F12g
  exact L12x4xeq _ l hlen N 0 (by omega) (by omega)

/-! The program's runs. -/
def tw (l : List Col) (c : Col) (e : Nat) : Nat := ((l.drop e).takeWhile fun x => decide (x = c)).length
theorem tw_step {l : List Col} {c : Col} {e : Nat} (h : e < l.length) : tw l c e = if l[e] = c then tw l c (e + 1) + 1 else 0 := by
  unfold tw
  rw [List.drop_eq_getElem_cons h, List.takeWhile_cons]
  by_cases hc : l[e] = c <;> simp [hc]
theorem tw_end {l : List Col} {c : Col} {e : Nat} (h : l.length ≤ e) : tw l c e = 0 := by simp [tw, List.drop_eq_nil_of_le h]
theorem tw_le (l : List Col) (c : Col) (e : Nat) (h : e ≤ l.length) : e + tw l c e ≤ l.length := by
  have := (List.takeWhile_prefix (fun x => decide (x = c)) (l := l.drop e)).length_le
  simp at this
  unfold tw; omega
theorem tw_stop {l : List Col} {c : Col} : ∀ (n e : Nat), l.length - e = n → ∀ (h : e + tw l c e < l.length), l[e + tw l c e] ≠ c
  | 0, e, hn, h => by omega
  | n + 1, e, hn, h => by
    have he : e < l.length := by omega
    rw [tw_step he] at h
    by_cases hc : l[e] = c
    · rw [if_pos hc] at h
      have := tw_stop (l := l) (c := c) n (e + 1) (by omega) (by omega)
      have e1 : e + tw l c e = e + 1 + tw l c (e + 1) := by rw [tw_step he, if_pos hc]; omega
      simp only [e1]; exact this
    · have e1 : e + tw l c e = e := by rw [tw_step he, if_neg hc]; omega
      simp only [e1]; exact hc
theorem tw_take {l : List Col} {c : Col} : ∀ (n e : Nat), l.length - e = n → l.take (e + tw l c e) = l.take e ++ List.replicate (tw l c e) c
  | 0, e, hn => by rw [tw_end (by omega)]; simp
  | n + 1, e, hn => by
    have he : e < l.length := by omega
    by_cases hc : l[e] = c
    · have := tw_take (l := l) (c := c) n (e + 1) (by omega)
      rw [tw_step he, if_pos hc, show e + (tw l c (e + 1) + 1) = e + 1 + tw l c (e + 1) by omega, this, List.take_succ_eq_append_getElem he, hc]
      simp [List.replicate_succ]
    · rw [tw_step he, if_neg hc]; simp

theorem grp {acc : List (Int × Col)} {c : Col} (hl : ∀ p, acc.getLast? = some p → p.2 ≠ c) : ∀ (k : Nat), (List.replicate (k + 1) c).foldl stp acc = acc ++ [(((k + 1 : Nat) : Int), c)]
  | 0 => by
    rcases snoc_cases acc with rfl | ⟨a, ⟨m, d⟩, rfl⟩
    · rfl
    · have hd : d ≠ c := hl (m, d) (by simp)
      have := stp_snoc a m d c
      rw [if_neg hd] at this
      simpa using this
  | k + 1 => by
    have ih := grp hl k
    rw [List.replicate_succ', List.foldl_append, ih]
    simp only [List.foldl_cons, List.foldl_nil]
    rw [stp_snoc, if_pos rfl]
    simp
theorem rns_grp {l : List Col} {f : Nat} (h : f < l.length) (hl : ∀ p, (rns (l.take f)).getLast? = some p → p.2 ≠ l[f]) :
    rns (l.take (f + tw l l[f] f)) = rns (l.take f) ++ [(((tw l l[f] f : Nat) : Int), l[f])] ∧ 0 < tw l l[f] f := by
  have hp : tw l l[f] f = tw l l[f] (f + 1) + 1 := by rw [tw_step h, if_pos rfl]
  refine ⟨?_, by omega⟩
  rw [tw_take (l.length - f) f rfl]
  unfold rns
  rw [List.foldl_append]
  show (List.replicate (tw l l[f] f) l[f]).foldl stp (rns (l.take f)) = _
  rw [hp]
  exact grp hl _
theorem rns_next {l : List Col} {f : Nat} (h : f < l.length) (hl : ∀ p, (rns (l.take f)).getLast? = some p → p.2 ≠ l[f]) :
    ∀ (h' : f + tw l l[f] f < l.length), ∀ p, (rns (l.take (f + tw l l[f] f))).getLast? = some p → p.2 ≠ l[f + tw l l[f] f] := by
  intro h' p hp
  rw [(rns_grp h hl).1] at hp
  simp at hp
  subst hp
  exact fun e => tw_stop (l.length - f) f rfl h' e.symm

theorem L34x3xeq (k0 : Int → Int → Int → Int → List Col → List Int → List Col → List Int → Option α) (a b : Int) (l1 : List Col) (l2 : List Int) (l : List Col) (l4 : List Int) (hlen : l.length ≤ 100000) (f : Nat) (hf : f < l.length) : ∀ (n e : Nat), e ≤ l.length → l.length - e < n →
    L34x3 k0 n (f : Int) (e : Int) a b l1 l2 l l4 = k0 (f : Int) ((e + tw l l[f] e : Nat) : Int) a b l1 l2 l l4
  | 0, _, _, h => by omega
  | n + 1, e, he, hn => by
    simp only [L34x3, L34x3g]
    by_cases h : e < l.length
    · rw [cond_t (by simp [ln_def]; omega), cond_t (inb_n h), cond_t (inb_n hf), rd_n e h, rd_n f hf, colEq, tw_step h]
      by_cases hc : l[e] = l[f]
      · have e1 : wi64 ((e : Int) + 1) = ((e + 1 : Nat) : Int) := by rw [wi64xid (by omega) (by omega)]; omega
        rw [cond_t (by simp [hc]), e1, L34x3xeq k0 a b l1 l2 l l4 hlen f hf n (e + 1) (by omega) (by omega), if_pos hc]
        congr 2; omega
      · rw [cond_f (by simp [hc]), if_neg hc]; rfl
    · rw [cond_f (by simp [ln_def]; omega), tw_end (by omega)]; rfl

theorem L34x1xeq {N : Nat} (k0 : Int → Int → List Col → List Int → List Col → List Int → Option α) (a b : Int) (l1 : List Col) (l2 : List Int) (l : List Col) (hl : okC l) (hlen : l.length ≤ 100000) (hN : l.length + 20 ≤ N) (out0 : List Int) (h0 : out0.length ≤ 100) : ∀ (n f : Nat), f ≤ l.length → l.length - f < n →
    (∀ (h : f < l.length), ∀ p, (rns (l.take f)).getLast? = some p → p.2 ≠ l[f]) →
    L34x1 N k0 n (f : Int) (f : Int) a b l1 l2 l (out0 ++ encs (flt (rns (l.take f)))) = k0 a b l1 l2 l (out0 ++ encs (flt (rns l)))
  | 0, _, _, h, _ => by omega
  | n + 1, f, hf, hn, hlast => by
    simp only [L34x1, L34x1g]
    by_cases h : f < l.length
    · obtain ⟨g1, g2⟩ := rns_grp h (hlast h)
      have g3 := rns_next h (hlast h)
      have g4 := tw_le l l[f] f hf
      have hc := hl _ (List.getElem_mem h)
      obtain ⟨c1, c2, c3, c4⟩ := hc.n
      rw [cond_t (by simp [ln_def]; omega), L34x3xeq _ a b l1 l2 l _ hlen f h N f (by omega) (by omega), cond_t (inb_n h), rd_n f h]
      have e1 : wi64 (((f + tw l l[f] f : Nat) : Int) - (f : Int)) = ((tw l l[f] f : Nat) : Int) := by rw [wi64xid (by omega) (by omega)]; omega
      rw [e1, wi64xid (n := (l[f]).r) (by omega) (by omega), wi64xid (n := (l[f]).g) (by omega) (by omega), wi64xid (n := (l[f]).b) (by omega) (by omega), wi64xid (n := (l[f]).a) (by omega) (by omega)]
      have hok := okN_run (m := ((tw l l[f] f : Nat) : Int)) (c := l[f]) (by omega) (by omega) hc
      rw [F22xeq _ _ hok (by simp) (by simp; omega)]
      have hb : (encs (flt (rns (l.take f)))).length ≤ 50 * l.length := by
        obtain ⟨r1, r2, _⟩ := rns_len f (l.take f) (by simp; omega)
        have hokf : okN (flt (rns (l.take f))) := by
          intro x hx
          obtain ⟨p, hp, hx⟩ := List.mem_flatMap.1 hx
          have hp2 := r2 p hp
          exact okN_run (m := p.1) (by omega) (by omega) (hl _ (List.mem_of_mem_take hp2.2.2)) x hx
        have := encs_len hokf
        rw [flt_len] at this
        omega
      have hb2 := encs_len hok
      simp at hb2
      rw [cond_t (room_t (by simp; omega))]
      have e2 : out0 ++ encs (flt (rns (l.take f))) ++ encs [((tw l l[f] f : Nat) : Int), (l[f]).r, (l[f]).g, (l[f]).b, (l[f]).a] = out0 ++ encs (flt (rns (l.take (f + tw l l[f] f)))) := by
        rw [g1, flt_append, encs_append]; simp [flt]
      rw [e2, L34x1xeq k0 a b l1 l2 l hl hlen hN out0 h0 n (f + tw l l[f] f) g4 (by omega) g3]
    · rw [cond_f (by simp [ln_def]; omega), List.take_of_length_le (by omega)]

theorem G6x40xeq {N : Nat} (k0 : Int → Int → List Col → List Int → List Col → List Int → Option α) (a b : Int) (l1 : List Col) (l2 : List Int) (l : List Col) (hl : okC l) (hlen : l.length ≤ 100000) (hN : l.length + 20 ≤ N) (out0 : List Int) (h0 : out0.length ≤ 100) :
    G6x40 N k0 a b l1 l2 l out0 = k0 a b l1 l2 l (out0 ++ encs (flt (rns l))) := by
  unfold G6x40 G6x40g
  have := L34x1xeq (N := N) k0 a b l1 l2 l hl hlen hN out0 h0 N 0 (by omega) (by omega) (by simp [rns])
  simpa [rns, flt, encs] using this

/-- An image that may be. -/
def fits (w h : Int) (l : List Col) : Bool := decide (1 ≤ w ∧ w ≤ 64 ∧ 1 ≤ h ∧ h ≤ 64 ∧ (l.length : Int) = w * h)
theorem fits_of {w h : Int} {l : List Col} (hf : fits w h l = true) : 1 ≤ w ∧ w ≤ 64 ∧ 1 ≤ h ∧ h ≤ 64 ∧ (l.length : Int) = w * h ∧ l.length ≤ 4096 := by
  have := of_decide_eq_true hf
  obtain ⟨a, b, c, d, e⟩ := this
  have : w * h ≤ 64 * 64 := Int.mul_le_mul b d (by omega) (by omega)
  exact ⟨a, b, c, d, e, by omega⟩
def putE (w h : Int) (l : List Col) : Int := if fits w h l then 0 else 1
def putB (w h : Int) (l : List Col) : List Int := if fits w h l then encs ([w, h] ++ flt (rns l)) else []

theorem F6xeq {N : Nat} (hN : 10000 ≤ N) (k0 : Int → List Int → Option α) (w h : Int) (l : List Col) (hl : okC l) : F6 N k0 w h l = k0 (putE w h l) (putB w h l) := by
  unfold F6 F6g putE putB
  simp only []
  rw [mn_def, mx_def]
  by_cases h1 : min w h < 1
  · have : fits w h l = false := by simp only [fits, decide_eq_false_iff_not]; omega
    rw [cond_t (by simpa using h1), this]; rfl
  rw [cond_f (by simpa using h1)]
  by_cases h2 : max w h > 64
  · have : fits w h l = false := by simp only [fits, decide_eq_false_iff_not]; omega
    rw [cond_t (by simpa using h2), this]; rfl
  rw [cond_f (by simpa using h2)]
  have hm : 0 ≤ w * h ∧ w * h ≤ 64 * 64 := ⟨Int.mul_nonneg (by omega) (by omega), Int.mul_le_mul (by omega) (by omega) (by omega) (by omega)⟩
  rw [wi64xid (n := w * h) (by omega) (by omega)]
  by_cases h3 : ln l = w * h
  · have hf : fits w h l = true := by simp only [fits, decide_eq_true_eq]; rw [ln_def] at h3; omega
    obtain ⟨f1, f2, f3, f4, f5, f6⟩ := fits_of hf
    have hwh : okN [w, h] := by
      intro x hx; simp at hx
      rcases hx with rfl | rfl <;> exact okI_of (by omega) (by omega)
    have hlen := encs_len hwh
    simp at hlen
    rw [cond_f (by simp [h3]), F22xeq _ _ hwh (by simp) (by simp; omega), G6x40xeq _ _ _ _ _ l hl (by omega) (by omega) _ (by omega), hf]
    simp only [if_true]
    rw [encs_append]
  · have hf : fits w h l = false := by simp only [fits, decide_eq_false_iff_not]; rw [ln_def] at h3; omega
    rw [cond_t (by simp [h3]), hf]; rfl

/-! The reference's image. -/
theorem L7x6xeq (k0 : Int → Int → List Col → List Int → Option α) (a b : Int) (l1 : List Col) (r : List (Int × Col)) (hr : r.length ≤ 100000) (hok : ∀ p ∈ r, okCol p.2) (out0 : List Int) (h0 : out0.length ≤ 100) : ∀ (n i : Nat), i ≤ r.length → r.length - i < n →
    L7x6 k0 n (i : Int) a b l1 (out0 ++ flt (r.take i)) (r.map (·.1)) (r.map (·.2)) = k0 a b l1 (out0 ++ flt r)
  | 0, _, _, h => by omega
  | n + 1, i, hi, hn => by
    simp only [L7x6, L7x6g]
    by_cases h : i < r.length
    · obtain ⟨c1, c2, c3, c4⟩ := (hok _ (List.getElem_mem h)).n
      have hi1 : i < (r.map (·.1)).length := by simpa using h
      have hi2 : i < (r.map (·.2)).length := by simpa using h
      rw [cond_t (by simp [ln_def]; omega), cond_t (inb_n hi1), cond_t (inb_n hi2), cond_t (inb_n hi2), cond_t (inb_n hi2), cond_t (inb_n hi2), rd_n i hi1, rd_n i hi2]
      simp only [List.getElem_map]
      rw [wi64xid (n := (r[i]).2.r) (by omega) (by omega), wi64xid (n := (r[i]).2.g) (by omega) (by omega), wi64xid (n := (r[i]).2.b) (by omega) (by omega), wi64xid (n := (r[i]).2.a) (by omega) (by omega)]
      rw [cond_t (room_t (by simp [flt_len]; omega)), wi64xid (by omega) (by omega)]
      have e1 : (i : Int) + 1 = ((i + 1 : Nat) : Int) := by omega
      have e2 : out0 ++ flt (r.take i) ++ [(r[i]).1, (r[i]).2.r, (r[i]).2.g, (r[i]).2.b, (r[i]).2.a] = out0 ++ flt (r.take (i + 1)) := by
        rw [List.take_succ_eq_append_getElem h, flt_append]; simp [flt]
      rw [e1, e2, L7x6xeq k0 a b l1 r hr hok out0 h0 n (i + 1) (by omega) (by omega)]
    · rw [cond_f (by simp [ln_def]; omega), List.take_of_length_le (by omega)]

theorem okN_img {w h : Int} {l : List Col} (hf : fits w h l = true) (hl : okC l) : okN ([w, h] ++ flt (rns l)) ∧ ([w, h] ++ flt (rns l)).length ≤ 2 + 5 * 4096 := by
  obtain ⟨f1, f2, f3, f4, f5, f6⟩ := fits_of hf
  obtain ⟨r1, r2, _⟩ := rns_len l.length l rfl
  refine ⟨?_, by simp [flt_len]; omega⟩
  intro x hx
  rcases List.mem_append.1 hx with hx | hx
  · simp at hx; rcases hx with rfl | rfl <;> exact okI_of (by omega) (by omega)
  · obtain ⟨p, hp, hx⟩ := List.mem_flatMap.1 hx
    have hp2 := r2 p hp
    exact okN_run (m := p.1) (by omega) (by omega) (hl _ hp2.2.2) x hx

theorem F7xeq {N : Nat} (hN : 30000 ≤ N) (k0 : Int → List Int → Option α) (w h : Int) (l : List Col) (hl : okC l) : F7 N k0 w h l = k0 (putE w h l) (putB w h l) := by
  unfold F7 F7g putE putB
  by_cases h1 : w < 1
  · have : fits w h l = false := by simp only [fits, decide_eq_false_iff_not]; omega
    rw [cond_t (by simpa using h1), this]; rfl
  rw [cond_f (by simpa using h1)]
  by_cases h2 : w > 64
  · have : fits w h l = false := by simp only [fits, decide_eq_false_iff_not]; omega
    rw [cond_t (by simpa using h2), this]; rfl
  rw [cond_f (by simpa using h2)]
  by_cases h3 : h < 1
  · have : fits w h l = false := by simp only [fits, decide_eq_false_iff_not]; omega
    rw [cond_t (by simpa using h3), this]; rfl
  rw [cond_f (by simpa using h3)]
  by_cases h4 : h > 64
  · have : fits w h l = false := by simp only [fits, decide_eq_false_iff_not]; omega
    rw [cond_t (by simpa using h4), this]; rfl
  rw [cond_f (by simpa using h4)]
  have hm : 0 ≤ w * h ∧ w * h ≤ 64 * 64 := ⟨Int.mul_nonneg (by omega) (by omega), Int.mul_le_mul (by omega) (by omega) (by omega) (by omega)⟩
  rw [wi64xid (n := w * h) (by omega) (by omega)]
  by_cases h5 : ln l = w * h
  · have hf : fits w h l = true := by simp only [fits, decide_eq_true_eq]; rw [ln_def] at h5; omega
    obtain ⟨f1, f2, f3, f4, f5, f6⟩ := fits_of hf
    obtain ⟨o1, o2⟩ := okN_img hf hl
    obtain ⟨r1, r2, _⟩ := rns_len l.length l rfl
    have := L7x6xeq (α := α) (fun x163 x164 l165 l166 => F23 N (fun l185 => k0 0 l185) l166) w h l (rns l) (by omega) (fun p hp => hl _ (r2 p hp).2.2) [w, h] (by simp) N 0 (by omega) (by omega)
    rw [cond_f (by simp [h5]), F12xeq _ l (by omega) (by omega), hf]
    simp only [List.take_zero, if_true] at this ⊢
    have e0 : [w, h] ++ flt [] = [w, h] := by simp [flt]
    rw [e0] at this
    rw [show ((0 : Nat) : Int) = 0 from rfl] at this
    rw [this, F23xeq _ _ o1 (by omega) (by omega)]
  · have hf : fits w h l = false := by simp only [fits, decide_eq_false_iff_not]; rw [ln_def] at h5; omega
    rw [cond_t (by simp [h5]), hf]; rfl
end
end Gz
