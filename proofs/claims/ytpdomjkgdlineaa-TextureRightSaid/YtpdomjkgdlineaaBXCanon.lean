/- The head of a kept loop: objects take other numbers. -/
import Derived.Test.YtpdomjkgdlineaaBXPure2
set_option linter.unusedVariables false
set_option linter.unusedSimpArgs false
set_option linter.unnecessarySimpa false
set_option linter.deprecated false
namespace Gz
open Go

section
variable {P : Program} {C : Cfg} {R : Rl} {st st1 : St} {w w' : World} {n0 : Nat}

/-- What is said of the objects that move: from where each came. -/
structure MvInv (st : St) (n0 : Nat) (m : Mv) (og : List (Option Nat)) : Prop where
  hst : m.st = st
  hn0 : m.n0 = n0
  len : og.length = m.more.length
  obj : ∀ (i o : Nat), og[i]? = some (some o) → ∃ t e, m.more[i]? = some (t, e) ∧ st.L[o]? = some (.arr t e)
  nil : ∀ (i : Nat) (t : TL) (e : Nat), og[i]? = some none → m.more[i]? = some (t, e) → t.l = []
  mv : ∀ (o k : Nat), (o, k) ∈ m.moved → ∃ i, k = n0 + i ∧ og[i]? = some (some o)
  vm : ∀ (i o : Nat), og[i]? = some (some o) → (o, n0 + i) ∈ m.moved
  inj : ∀ (i j o : Nat), og[i]? = some (some o) → og[j]? = some (some o) → i = j

/-- Where the objects lie then. -/
structure AtM (R : Rl) (n0 : Nat) (m : Mv) (og : List (Option Nat)) (ρ : Rho) : Prop where
  old : ∀ o, o < n0 → ρ o = R.ρ o
  mv : ∀ (i o : Nat), og[i]? = some (some o) → ρ (n0 + i) = R.ρ o
  nil : ∀ (i : Nat) (t : TL) (e : Nat), og[i]? = some none → m.more[i]? = some (t, e) → ρ (n0 + i) = some (.row none 0 0 t.g)

def Grows (m m' : Mv) : Prop := ∃ x, m'.more = m.more ++ x
theorem Grows.refl (m : Mv) : Grows m m := ⟨[], by simp⟩
theorem Grows.trans {a b c : Mv} (h : Grows a b) (k : Grows b c) : Grows a c := by
  obtain ⟨x, hx⟩ := h; obtain ⟨y, hy⟩ := k; exact ⟨x ++ y, by rw [hy, hx, List.append_assoc]⟩

theorem AtM.less {m m' : Mv} {og o' : List (Option Nat)} {ρ : Rho} (h : AtM R n0 m' (og ++ o') ρ) (hg : Grows m m') (hl : og.length = m.more.length) : AtM R n0 m og ρ := by
  obtain ⟨x, hx⟩ := hg
  refine ⟨h.old, fun i o hi => h.mv i o (by rw [List.getElem?_append_left (List.getElem?_eq_some_iff.1 hi).1]; exact hi), fun i t e hi hm => ?_⟩
  refine h.nil i t e (by rw [List.getElem?_append_left (List.getElem?_eq_some_iff.1 hi).1]; exact hi) ?_
  rw [hx, List.getElem?_append_left (List.getElem?_eq_some_iff.1 hm).1]; exact hm

theorem lookup_mem {l : List (Nat × Nat)} {o k : Nat} (h : l.lookup o = some k) : (o, k) ∈ l := by
  induction l with
  | nil => simp at h
  | cons p l ih =>
    obtain ⟨a, b⟩ := p
    rw [List.lookup_cons] at h
    by_cases hab : (o == a) = true
    · simp only [hab] at h; cases h
      have : o = a := by simpa using hab
      subst this; simp
    · have : (o == a) = false := by simpa using hab
      simp only [this] at h
      exact List.mem_cons_of_mem _ (ih h)
theorem lookup_none {l : List (Nat × Nat)} {o : Nat} (h : l.lookup o = none) (k : Nat) : (o, k) ∉ l := by
  induction l with
  | nil => simp
  | cons p l ih =>
    obtain ⟨a, b⟩ := p
    rw [List.lookup_cons] at h
    by_cases hab : (o == a) = true
    · simp only [hab] at h; cases h
    · have h2 : (o == a) = false := by simpa using hab
      simp only [h2] at h
      intro hm
      rcases List.mem_cons.1 hm with e | hm
      · cases e; simp at hab
      · exact ih h hm

theorem getD_some {L : List LO} {o : Nat} {ob : LO} (h1 : L.getD o .dead = ob) (h2 : ob ≠ .dead) : L[o]? = some ob := by
  rw [List.getD_eq_getElem?_getD] at h1
  cases hq : L[o]? with
  | none => rw [hq] at h1; exact absurd h1.symm h2
  | some x => rw [hq] at h1; simp at h1; rw [h1]

theorem snoc_at {α : Type} {l : List α} {x y : α} {i : Nat} (h : (l ++ [x])[i]? = some y) : (l[i]? = some y ∧ i < l.length) ∨ (i = l.length ∧ y = x) := by
  by_cases h1 : i < l.length
  · rw [List.getElem?_append_left h1] at h; exact .inl ⟨h, h1⟩
  · have h2 := (List.getElem?_eq_some_iff.1 h).1
    simp at h2
    have h3 : i = l.length := by omega
    subst h3
    simp at h; exact .inr ⟨rfl, h.symm⟩

theorem MvInv.addMv {m : Mv} {og : List (Option Nat)} {o : Nat} {t : TL} {e : Nat} (h : MvInv st n0 m og) (ho : st.L[o]? = some (.arr t e)) (hn : ∀ k, (o, k) ∉ m.moved) :
    MvInv st n0 { m with moved := (o, m.n0 + m.more.length) :: m.moved, more := m.more ++ [(t, e)] } (og ++ [some o]) := by
  refine ⟨h.hst, h.hn0, by simp [h.len], ?_, ?_, ?_, ?_, ?_⟩
  · intro i o' hi
    rcases snoc_at hi with ⟨h1, h2⟩ | ⟨h1, h2⟩
    · obtain ⟨t', e', h3, h4⟩ := h.obj i o' h1
      exact ⟨t', e', by rw [List.getElem?_append_left (by rw [← h.len]; exact h2)]; exact h3, h4⟩
    · cases h2; exact ⟨t, e, by rw [h1, h.len]; simp, ho⟩
  · intro i t' e' hi hm
    rcases snoc_at hi with ⟨h1, h2⟩ | ⟨h1, h2⟩
    · exact h.nil i t' e' h1 (by rw [List.getElem?_append_left (by rw [← h.len]; exact h2)] at hm; exact hm)
    · cases h2
  · intro o' k hk
    rcases List.mem_cons.1 hk with e1 | hk
    · cases e1; exact ⟨m.more.length, by rw [h.hn0], by rw [← h.len]; simp⟩
    · obtain ⟨i, h1, h2⟩ := h.mv o' k hk
      exact ⟨i, h1, by rw [List.getElem?_append_left (List.getElem?_eq_some_iff.1 h2).1]; exact h2⟩
  · intro i o' hi
    rcases snoc_at hi with ⟨h1, h2⟩ | ⟨h1, h2⟩
    · exact List.mem_cons_of_mem _ (h.vm i o' h1)
    · cases h2; rw [h1, h.len, ← h.hn0]; exact List.mem_cons_self
  · intro i j o' hi hj
    rcases snoc_at hi with ⟨h1, h2⟩ | ⟨h1, h2⟩ <;> rcases snoc_at hj with ⟨h3, h4⟩ | ⟨h3, h4⟩
    · exact h.inj i j o' h1 h3
    · cases h4; exact absurd (h.vm i _ h1) (hn _)
    · cases h2; exact absurd (h.vm j _ h3) (hn _)
    · omega

theorem MvInv.addNil {m : Mv} {og : List (Option Nat)} {g : Tag} {e : Nat} (h : MvInv st n0 m og) : MvInv st n0 { m with more := m.more ++ [(⟨g, []⟩, e)] } (og ++ [none]) := by
  refine ⟨h.hst, h.hn0, by simp [h.len], ?_, ?_, ?_, ?_, ?_⟩
  · intro i o' hi
    rcases snoc_at hi with ⟨h1, h2⟩ | ⟨h1, h2⟩
    · obtain ⟨t', e', h3, h4⟩ := h.obj i o' h1
      exact ⟨t', e', by rw [List.getElem?_append_left (by rw [← h.len]; exact h2)]; exact h3, h4⟩
    · cases h2
  · intro i t' e' hi hm
    rcases snoc_at hi with ⟨h1, h2⟩ | ⟨h1, h2⟩
    · exact h.nil i t' e' h1 (by rw [List.getElem?_append_left (by rw [← h.len]; exact h2)] at hm; exact hm)
    · rw [h1, h.len] at hm; simp at hm; rw [← hm.1]
  · intro o' k hk
    obtain ⟨i, h1, h2⟩ := h.mv o' k hk
    exact ⟨i, h1, by rw [List.getElem?_append_left (List.getElem?_eq_some_iff.1 h2).1]; exact h2⟩
  · intro i o' hi
    rcases snoc_at hi with ⟨h1, h2⟩ | ⟨h1, h2⟩
    · exact h.vm i o' h1
    · cases h2
  · intro i j o' hi hj
    rcases snoc_at hi with ⟨h1, h2⟩ | ⟨h1, h2⟩ <;> rcases snoc_at hj with ⟨h3, h4⟩ | ⟨h3, h4⟩
    · exact h.inj i j o' h1 h3
    · cases h4
    · cases h2
    · omega

theorem capLt_V {ρ : Rho} {v : LV} {u : Value} (h : VR R w v u) (hc : capLt n0 v = true) (hρ : ∀ o, o < n0 → ρ o = R.ρ o) : V ρ R.ro w v u := by
  cases v
  case p o e off =>
    have ho : o < n0 := by simpa [capLt] using hc
    cases h with
    | pblk h => exact .pblk ((hρ o ho).trans h)
    | prow h he => exact .prow ((hρ o ho).trans h) he
  case mp => cases h
  all_goals first
    | exact h.clo rfl
    | (simp [capLt] at hc; done)

/-- One value. -/
theorem mvOne_sound {m : Mv} {og : List (Option Nat)} (v : LV) (h : MvInv st n0 m og) :
    ∃ o', MvInv st n0 (mvOne C m v).2 (og ++ o') ∧ Grows m (mvOne C m v).2 ∧ ∀ (R : Rl) (w : World) (u : Value), Sim R st w → VR R w v u → ∀ ρ, AtM R n0 (mvOne C m v).2 (og ++ o') ρ → V ρ R.ro w (mvOne C m v).1 u := by
  have self : ∀ x, (∀ (R : Rl) (w : World) (u : Value), Sim R st w → VR R w v u → ∀ ρ, (∀ o, o < n0 → ρ o = R.ρ o) → (∀ (i o : Nat), og[i]? = some (some o) → ρ (n0 + i) = R.ρ o) → V ρ R.ro w x u) →
      ∃ o', MvInv st n0 m (og ++ o') ∧ Grows m m ∧ ∀ (R : Rl) (w : World) (u : Value), Sim R st w → VR R w v u → ∀ ρ, AtM R n0 m (og ++ o') ρ → V ρ R.ro w x u :=
    fun x hx => ⟨[], by simpa using h, Grows.refl m, fun R w u hs hv ρ hat => hx R w u hs hv ρ hat.old (by simpa using hat.mv)⟩
  cases v
  case sl o =>
    simp only [mvOne]
    split
    · rename_i k hk
      obtain ⟨i, rfl, hi⟩ := h.mv o k (lookup_mem hk)
      refine self _ (fun R w u hs hv ρ h1 h2 => ?_)
      obtain ⟨A, cap, len, g, hρ, rfl⟩ := V.sl_inv hv
      exact .sl ((h2 i o hi).trans hρ)
    · rename_i hk
      split
      · rename_i t e he
        have ho : st.L[o]? = some (.arr t e) := by rw [h.hst] at he; exact getD_some he (by simp)
        refine ⟨[some o], h.addMv ho (lookup_none hk), ⟨_, rfl⟩, fun R w u hs hv ρ hat => ?_⟩
        obtain ⟨A, cap, len, g, hρ, rfl⟩ := V.sl_inv hv
        have := hat.mv og.length o (by simp)
        rw [h.len, ← h.hn0] at this
        exact .sl (this.trans hρ)
      · rename_i t ht
        have ho : st.L[o]? = some (.ro t) := by rw [h.hst] at ht; exact getD_some ht (by simp)
        refine self _ (fun R w u hs hv ρ h1 h2 => ?_)
        have hf : frz st (.sl o) = (.slv t, st) := by
          simp only [frz, List.getD_eq_getElem?_getD, ho]; rfl
        obtain ⟨R', a1, a2, a3, a4, a5, a6⟩ := frz_sound hs hv
        obtain ⟨A, cap, len, g, hρ, rfl⟩ := V.sl_inv hv
        obtain ⟨hg, hlen, hro, e, xs, hown, hxs⟩ := hs.obj o _ _ hρ ho
        subst hlen
        cases A with
        | none =>
          rcases hown.2 with ⟨h1, h2⟩ | ⟨g', cap', cur, h1, _⟩
          · simp [slv_] at h1
            simp only [slv_, Option.map_none, h1.2, h2]
            exact .slve h2
          · simp [slv_] at h1
        | some b =>
          have hc : t.len ≤ cap := by
            rcases hown.2 with ⟨h1, h2⟩ | ⟨g', cap', cur, h1, _, _, h2, _⟩
            · simp [slv_] at h1
            · simp [slv_] at h1; omega
          have hx' : VC ρ R.ro w t.flat xs := hxs.flat_ρ
          exact .slv hc (hro b rfl) (hown.cells (g := b) rfl) hx'.one hx'.vl.1 hx'.vl.2
      · exact self _ (fun _ _ _ _ _ _ _ _ => .u _)
  case slnil g =>
    simp only [mvOne]
    refine ⟨[none], h.addNil, ⟨_, rfl⟩, fun R w u hs hv ρ hat => ?_⟩
    cases hv
    have := hat.nil og.length ⟨g, []⟩ (C.elemOf g) (by simp) (by rw [h.len]; simp)
    rw [h.len, ← h.hn0] at this
    exact .sl (A := none) (cap := 0) (len := 0) this
  case p o e off =>
    simp only [mvOne]
    split
    · rename_i ho
      rw [h.hn0] at ho
      exact self _ (fun R w u hs hv ρ h1 h2 => capLt_V (n0 := n0) hv (by simpa [capLt] using ho) h1)
    · exact self _ (fun _ _ _ _ _ _ _ _ => .u _)
  case mp o =>
    simp only [mvOne]
    split
    · exact self _ (fun R w u hs hv ρ h1 h2 => by cases hv)
    · exact self _ (fun _ _ _ _ _ _ _ _ => .u _)
  case yl o =>
    simp only [mvOne]
    split
    · rename_i ho
      rw [h.hn0] at ho
      exact self _ (fun R w u hs hv ρ h1 h2 => by
        obtain ⟨b, d, tm, rfl, hρ⟩ := V.yl_inv hv
        exact .yl ((h1 o ho).trans hρ))
    · exact self _ (fun _ _ _ _ _ _ _ _ => .u _)
  case fn f caps =>
    simp only [mvOne]
    split
    · rename_i hc
      rw [h.hn0] at hc
      exact self _ (fun R w u hs hv ρ h1 h2 => by
        obtain ⟨cs, rfl, hcs⟩ := V.fn_inv hv
        exact .fn hcs.1 (fun j lv v h3 h4 => capLt_V (hcs.2 j lv v h3 h4) (List.all_eq_true.1 hc _ (List.mem_of_getElem? h3)) h1))
    · exact self _ (fun _ _ _ _ _ _ _ _ => .u _)
  case ag => exact self _ (fun _ _ _ _ _ _ _ _ => .u _)
  case tu => exact self _ (fun _ _ _ _ _ _ _ _ => .u _)
  all_goals exact self _ (fun R w u hs hv ρ h1 h2 => hv.clo rfl)

theorem mvList_sound : ∀ (l : List LV) {m : Mv} {og : List (Option Nat)}, MvInv st n0 m og →
    ∃ o', MvInv st n0 (mvList C m l).2 (og ++ o') ∧ Grows m (mvList C m l).2 ∧ ∀ (R : Rl) (w : World) (us : List Value), Sim R st w → VLR R w l us → ∀ ρ, AtM R n0 (mvList C m l).2 (og ++ o') ρ → VL ρ R.ro w (mvList C m l).1 us
  | [], m, og, h => ⟨[], by simpa [mvList] using h, Grows.refl m, fun R w us hs hv ρ hat => by have := hv.of_nil; subst this; exact VL.nil⟩
  | v :: l, m, og, h => by
    obtain ⟨o1, a1, a2, a3⟩ := mvOne_sound (C := C) v h
    obtain ⟨o2, b1, b2, b3⟩ := mvList_sound l a1
    refine ⟨o1 ++ o2, by rw [← List.append_assoc]; exact b1, a2.trans b2, fun R w us hs hv ρ hat => ?_⟩
    obtain ⟨u, us', rfl, h1, h2⟩ := hv.of_cons
    rw [← List.append_assoc] at hat
    exact VL.cons (a3 R w u hs h1 ρ (hat.less b2 a1.len)) (b3 R w us' hs h2 ρ hat)

theorem mvSlots_sound {keep : List Nat} : ∀ (l : List LV) (k : Nat) {m : Mv} {og : List (Option Nat)}, MvInv st n0 m og →
    ∃ o', MvInv st n0 (mvSlots C keep m k l).2 (og ++ o') ∧ Grows m (mvSlots C keep m k l).2 ∧ ∀ (R : Rl) (w : World) (us : List Value), Sim R st w → VLR R w l us → ∀ ρ, AtM R n0 (mvSlots C keep m k l).2 (og ++ o') ρ → VL ρ R.ro w (mvSlots C keep m k l).1 us
  | [], k, m, og, h => ⟨[], by simpa [mvSlots] using h, Grows.refl m, fun R w us hs hv ρ hat => by have := hv.of_nil; subst this; exact VL.nil⟩
  | v :: l, k, m, og, h => by
    simp only [mvSlots]
    split
    · obtain ⟨o1, a1, a2, a3⟩ := mvOne_sound (C := C) v h
      obtain ⟨o2, b1, b2, b3⟩ := mvSlots_sound (keep := keep) l (k + 1) a1
      refine ⟨o1 ++ o2, by rw [← List.append_assoc]; exact b1, a2.trans b2, fun R w us hs hv ρ hat => ?_⟩
      obtain ⟨u, us', rfl, h1, h2⟩ := hv.of_cons
      rw [← List.append_assoc] at hat
      exact VL.cons (a3 R w u hs h1 ρ (hat.less b2 a1.len)) (b3 R w us' hs h2 ρ hat)
    · obtain ⟨o2, b1, b2, b3⟩ := mvSlots_sound (keep := keep) l (k + 1) h
      refine ⟨o2, b1, b2, fun R w us hs hv ρ hat => ?_⟩
      obtain ⟨u, us', rfl, h1, h2⟩ := hv.of_cons
      exact VL.cons (.u _) (b3 R w us' hs h2 ρ hat)

/-- What becomes of an object. -/
def ObMv (R : Rl) (w : World) (ρ : Rho) (x x' : LO) : Prop :=
  (x = x' ∧ ∀ c, x ≠ .cells c) ∨ ∃ c c', x = .cells c ∧ x' = .cells c' ∧ ∀ us, VLR R w c us → VL ρ R.ro w c' us

theorem mvObjs_sound : ∀ (L : List LO) {m : Mv} {og : List (Option Nat)}, MvInv st n0 m og →
    ∃ o', MvInv st n0 (mvObjs C m L).2 (og ++ o') ∧ Grows m (mvObjs C m L).2 ∧ (mvObjs C m L).1.length = L.length ∧ ∀ (R : Rl) (w : World), Sim R st w → ∀ ρ, AtM R n0 (mvObjs C m L).2 (og ++ o') ρ → ∀ (o : Nat) (x' : LO), (mvObjs C m L).1[o]? = some x' → ∃ x, L[o]? = some x ∧ ObMv R w ρ x x'
  | [], m, og, h => ⟨[], by simpa [mvObjs] using h, Grows.refl m, rfl, fun R w hs ρ hat o x' ho => by simp [mvObjs] at ho⟩
  | x :: L, m, og, h => by
    have keep : (∀ c, x ≠ .cells c) → mvObjs C m (x :: L) = (x :: (mvObjs C m L).1, (mvObjs C m L).2) := by
      intro hx; cases x <;> first | rfl | exact absurd rfl (hx _)
    by_cases hx : ∀ c, x ≠ .cells c
    · rw [keep hx]
      obtain ⟨o2, b1, b2, b4, b3⟩ := mvObjs_sound L h
      refine ⟨o2, b1, b2, by simp [b4], fun R w hs ρ hat o x' ho => ?_⟩
      cases o with
      | zero => simp at ho; subst ho; exact ⟨x, rfl, .inl ⟨rfl, hx⟩⟩
      | succ o => exact b3 R w hs ρ hat o x' (by simpa using ho)
    · have : ∃ c, x = .cells c := by
        cases x <;> first | exact ⟨_, rfl⟩ | (exact absurd (fun c e => by cases e) hx)
      obtain ⟨c, rfl⟩ := this
      obtain ⟨o1, a1, a2, a3⟩ := mvList_sound (C := C) c h
      obtain ⟨o2, b1, b2, b4, b3⟩ := mvObjs_sound L a1
      refine ⟨o1 ++ o2, by rw [← List.append_assoc]; exact b1, a2.trans b2, by simp [mvObjs, b4], fun R w hs ρ hat o x' ho => ?_⟩
      rw [← List.append_assoc] at hat
      cases o with
      | zero =>
        simp [mvObjs] at ho; subst ho
        exact ⟨_, rfl, .inr ⟨c, _, rfl, rfl, fun us hu => a3 R w us hs hu ρ (hat.less b2 a1.len)⟩⟩
      | succ o => exact b3 R w hs ρ hat o x' (by simpa [mvObjs] using ho)
end
end Gz
