/- Regions that are run in any order: one operation, on a part of the store. -/
import Derived.Test.YtpdomjkgdlineaaBXLoop
set_option linter.unusedVariables false
set_option linter.unusedSimpArgs false
set_option linter.unnecessarySimpa false
set_option linter.deprecated false
namespace Gz
open Go

section
variable {P : Program} {C : Cfg} {R : Rl} {st : St} {w w' : World} {a : Nat} {foot tch : List Nat}

theorem maskL_length (foot : List Nat) : ∀ (k : Nat) (L : List LO), (maskL foot k L).length = L.length
  | _, [] => rfl
  | k, v :: l => by simp [maskL, maskL_length foot (k + 1) l]
theorem maskL_at (foot : List Nat) : ∀ (k : Nat) (L : List LO) (o : Nat), (maskL foot k L)[o]? = (L[o]?).map fun x => bif foot.contains (k + o) then x else .dead
  | _, [], o => by simp [maskL]
  | k, v :: l, 0 => by simp [maskL]
  | k, v :: l, o + 1 => by
    simp only [maskL, List.getElem?_cons_succ]
    rw [maskL_at foot (k + 1) l o, show k + 1 + o = k + (o + 1) by omega]
theorem mergeL_at (tch : List Nat) : ∀ (k : Nat) (L M : List LO) (o : Nat), L.length ≤ M.length → (mergeL tch k L M)[o]? = if o < L.length then (bif tch.contains (k + o) then M[o]? else L[o]?) else M[o]?
  | k, [], m, o, h => by
    have : mergeL tch k [] m = m := by cases m <;> rfl
    simp [this]
  | k, x :: l, [], o, h => by simp at h
  | k, x :: l, y :: m, 0, h => by
    simp only [mergeL, List.getElem?_cons_zero, List.length_cons, Nat.zero_lt_succ, if_true, Nat.add_zero]
    cases tch.contains k <;> rfl
  | k, x :: l, y :: m, o + 1, h => by
    simp only [mergeL, List.getElem?_cons_succ, List.length_cons]
    rw [mergeL_at tch (k + 1) l m o (by simpa using h), show k + 1 + o = k + (o + 1) by omega]
    simp only [Nat.add_lt_add_iff_right]
theorem mergeL_length (tch : List Nat) : ∀ (k : Nat) (L M : List LO), L.length ≤ M.length → (mergeL tch k L M).length = M.length
  | k, [], m, h => by cases m <;> rfl
  | k, x :: l, [], h => by simp at h
  | k, x :: l, y :: m, h => by simp [mergeL, mergeL_length tch (k + 1) l m (by simpa using h)]

/-- The first objects alone. -/
def cutR (R : Rl) (a : Nat) : Rl := { R with ρ := fun o => if o < a then R.ρ o else none }
theorem cutR_some {o : Nat} {l : Loc} (h : (cutR R a).ρ o = some l) : o < a ∧ R.ρ o = some l := by
  simp only [cutR] at h
  split at h
  · exact ⟨by assumption, h⟩
  · cases h
theorem cutR_lt {o : Nat} (h : o < a) : (cutR R a).ρ o = R.ρ o := by simp [cutR, h]

theorem ltV_cut {v : LV} {u : Value} (h : VR R w v u) (hc : ltV a v = true) : VR (cutR R a) w v u := ltV_V (R := R) (ρ := (cutR R a).ρ) h hc (fun o ho => cutR_lt ho)

theorem Sim.part {L : List LO} {lo : Nat} (hs : Sim R st w) (hL : L.length = a) (hat : ∀ o, o < a → L[o]? = some .dead ∨ (∃ x, L[o]? = some x ∧ st.L[o]? = some x ∧ ltOb a x = true)) : Sim (cutR R a) ⟨L, lo⟩ w := by
  have hlive : ∀ o, live ⟨L, lo⟩ o → live st o := by
    intro o ⟨x, h1, h2⟩
    have ho : o < a := by rw [← hL]; exact (List.getElem?_eq_some_iff.1 h1).1
    rcases hat o ho with h3 | ⟨y, h3, h4, _⟩
    · have h1 : L[o]? = some x := h1
      rw [h3] at h1; cases h1; simp [LO.live] at h2
    · have h1 : L[o]? = some x := h1
      rw [h3] at h1; cases h1; exact ⟨_, h4, h2⟩
  refine ⟨fun o l h => by have := (cutR_some h).1; show o < L.length; omega, ?_, fun o o' l l' b h1 h2 h3 h4 => hs.inj o o' l l' b (cutR_some h1).2 (cutR_some h2).2 (hlive o h3) (hlive o' h4), fun o l b h1 h2 => hs.wr o l b (cutR_some h1).2 (hlive o h2), hs.rolt, hs.dfr, hs.nodup, hs.old, hs.size, hs.os, hs.tape, hs.output⟩
  intro o l ob h1 h2
  obtain ⟨h3, h4⟩ := cutR_some h1
  have h2 : L[o]? = some ob := h2
  rcases hat o h3 with h5 | ⟨x, h5, h6, h7⟩
  · rw [h5] at h2; cases h2; exact ObjRel.dead l
  · rw [h5] at h2; cases h2
    have hob := hs.obj o l ob h4 h6
    cases ob with
    | dead => exact ObjRel.dead l
    | cells c =>
      cases l <;> simp only [ObjRel] at hob ⊢
      obtain ⟨arr, e, g1, g2⟩ := hob
      exact ⟨arr, e, g1, ⟨g2.vl.1, fun j lv v h8 h9 => ltV_cut (g2.vl.2 j lv v h8 h9) (List.all_eq_true.1 h7 _ (List.mem_of_getElem? h8))⟩, g2.one⟩
    | arr t e =>
      cases l <;> simp only [ObjRel] at hob ⊢
      obtain ⟨g1, g2, xs, g3, g4⟩ := hob
      exact ⟨g1, g2, xs, g3, g4.flat_ρ⟩
    | ro t =>
      cases l <;> simp only [ObjRel] at hob ⊢
      obtain ⟨g1, g2, g5, e, xs, g3, g4⟩ := hob
      exact ⟨g1, g2, g5, e, xs, g3, g4.flat_ρ⟩
    | loop fr ps as b f p s =>
      cases l <;> simp only [ObjRel] at hob ⊢
      obtain ⟨g1, g2, g3⟩ := hob
      exact ⟨g1, ⟨g2.1, fun j lv v h8 h9 => ltV_cut (g2.2 j lv v h8 h9) (List.all_eq_true.1 h7 _ (List.mem_of_getElem? h8))⟩, g3⟩

/-- From one point of such a region to a later one. -/
structure Wq (n : Nat) (R R' : Rl) (st st' : St) (w w' : World) : Prop where
  lo : st'.lo = st.lo
  len : st'.L.length = st.L.length
  same : ∀ b, b < w.heap.size → ¬ owned R st b → w'.heap[b]? = w.heap[b]?
  own : ∀ b, b < w.heap.size → owned R' st' b → owned R st b
  old : ∀ o, o < st.lo → o < n → st'.L[o]? = st.L[o]? ∨ (∃ t e, st.L[o]? = some (.arr t e) ∧ st'.L[o]? = some (.ro t))
  lp : ∀ (o : Nat) (fr : List LV) (ps : List Nat) (a b : Code) (f : Nat) (p : Option Code) (s : LoopState), st.L[o]? = some (LO.loop fr ps a b f p s) → ∃ p' s', st'.L[o]? = some (LO.loop fr ps a b f p' s')
  nl : ∀ o, LoopAt st' o → LoopAt st o
  rho : ∀ o, o < n → R'.ρ o = R.ρ o
  rof : ∀ b, b < w.heap.size → R'.ro b → R.ro b ∨ hasB R st b
  hasb : ∀ b, b < w.heap.size → hasB R' st' b → hasB R st b

theorem Wq.refl (n : Nat) (R : Rl) (st : St) (w : World) : Wq n R R st st w w := ⟨rfl, rfl, fun _ _ _ => rfl, fun _ _ h => h, fun _ _ _ => .inl rfl, fun _ _ _ _ _ _ _ _ h => ⟨_, _, h⟩, fun _ h => h, fun _ _ => rfl, fun _ _ h => .inl h, fun _ _ h => h⟩
theorem Wq.trans {n : Nat} {R R' R'' : Rl} {st st' st'' : St} {w w' w'' : World} (hz : w.heap.size ≤ w'.heap.size) (h : Wq n R R' st st' w w') (k : Wq n R' R'' st' st'' w' w'') : Wq n R R'' st st'' w w'' := by
  refine ⟨k.lo.trans h.lo, k.len.trans h.len, fun b hb hn => (k.same b (Nat.lt_of_lt_of_le hb hz) (fun ho => hn (h.own b hb ho))).trans (h.same b hb hn),
    fun b hb ho => h.own b hb (k.own b (Nat.lt_of_lt_of_le hb hz) ho), fun o ho hol => ?_, fun o fr ps a b f p s h1 => (let ⟨p', s', h2⟩ := h.lp o fr ps a b f p s h1; k.lp o fr ps a b f p' s' h2), fun o h1 => h.nl o (k.nl o h1), fun o ho => (k.rho o ho).trans (h.rho o ho),
    fun b hb h1 => (k.rof b (Nat.lt_of_lt_of_le hb hz) h1).elim (h.rof b hb) (fun h2 => .inr (h.hasb b hb h2)), fun b hb h1 => h.hasb b hb (k.hasb b (Nat.lt_of_lt_of_le hb hz) h1)⟩
  have ho' : o < st'.lo := by rw [h.lo]; exact ho
  rcases h.old o ho hol with h1 | ⟨t, e, h1, h2⟩
  · rcases k.old o ho' hol with h3 | ⟨t, e, h3, h4⟩
    · exact .inl (h3.trans h1)
    · exact .inr ⟨t, e, by rw [← h1]; exact h3, h4⟩
  · rcases k.old o ho' hol with h3 | ⟨t', e', h3, h4⟩
    · exact .inr ⟨t, e, h1, h3.trans h2⟩
    · rw [h2] at h3; cases h3

/-- What was done on a part is done on the whole. -/
theorem Sim.whole {b n : Nat} {L : List LO} {lo : Nat} {R' : Rl} {st1 st2 : St} (hs : Sim R st w) (hL : L.length = a) (hat : ∀ o, o < a → L[o]? = some .dead ∨ (∃ x, L[o]? = some x ∧ st.L[o]? = some x ∧ ltOb a x = true)) (hlo : st.lo ≤ lo) (hloa : lo ≤ a)
    (s1 : Sim R' st1 w') (e1 : Ext (cutR R a) R' w w') (m1 : Wm (cutR R a) R' ⟨L, lo⟩ st1 w w') (hD : R'.D = R.D) (hb : st1.L.length = b) (hna : n ≤ a) (hbN : b ≤ st.L.length)
    (hnew : ∀ o, a ≤ o → o < b → R.ρ o = none ∧ ¬ live st o ∧ ¬ LoopAt st o)
    (hlo2 : st2.lo = st.lo) (hlen2 : st2.L.length = st.L.length)
    (hst2 : ∀ o, (st2.L[o]? = st.L[o]? ∧ ¬ (a ≤ o ∧ o < b) ∧ (∀ x, L[o]? = some x → x = .dead ∨ st1.L[o]? = some x)) ∨ (st2.L[o]? = st1.L[o]? ∧ o < b ∧ (o < a → L[o]? = st.L[o]?)))
    (hold : ∀ o, o < st.lo → o < n → st2.L[o]? = st.L[o]? ∨ (∃ t e, st.L[o]? = some (.arr t e) ∧ st2.L[o]? = some (.ro t))) :
    ∃ R2, Sim R2 st2 w' ∧ Ext R R2 w w' ∧ Wq n R R2 st st2 w w' ∧ R2.D = R.D ∧ (∀ o, o < b → R2.ρ o = R'.ρ o) ∧ (∀ o, b ≤ o → R2.ρ o = R.ρ o) ∧ R2.ro = R'.ro := by
  have hab : a ≤ b := by rw [← hb, ← hL]; exact m1.len
  have hR'a : ∀ o, o < a → R'.ρ o = R.ρ o := fun o ho => by rw [m1.rho o (by show o < L.length; omega), cutR_lt ho]
  have hR'b : ∀ o l, R'.ρ o = some l → o < b := fun o l h => by rw [← hb]; exact s1.dom o l h
  let ρ2 : Rho := fun o => if o < b then R'.ρ o else R.ρ o
  have h2b : ∀ o, o < b → ρ2 o = R'.ρ o := fun o ho => by simp [ρ2, ho]
  have h2n : ∀ o, b ≤ o → ρ2 o = R.ρ o := fun o ho => by simp [ρ2, Nat.not_lt.2 ho]
  have hsub' : ∀ o l, R'.ρ o = some l → ρ2 o = some l := fun o l h => by rw [h2b o (hR'b o l h)]; exact h
  have hsub : ∀ o l, R.ρ o = some l → ρ2 o = some l := by
    intro o l h
    by_cases h1 : o < a
    · rw [h2b o (by omega), hR'a o h1]; exact h
    · by_cases h2 : o < b
      · have := (hnew o (by omega) h2).1; rw [this] at h; cases h
      · rw [h2n o (by omega)]; exact h
  have hback : ∀ o l, ρ2 o = some l → ¬ (a ≤ o ∧ o < b) → R.ρ o = some l := by
    intro o l h h1
    by_cases h2 : o < b
    · rw [h2b o h2, hR'a o (by omega)] at h; exact h
    · rw [h2n o (by omega)] at h; exact h
  -- the part's live objects
  have hpl : ∀ o, live ⟨L, lo⟩ o → live st o := by
    intro o ⟨x, h1, h2⟩
    have h1 : L[o]? = some x := h1
    have ho : o < a := by rw [← hL]; exact (List.getElem?_eq_some_iff.1 h1).1
    rcases hat o ho with h3 | ⟨y, h3, h4, _⟩
    · rw [h3] at h1; cases h1; simp [LO.live] at h2
    · rw [h3] at h1; cases h1; exact ⟨_, h4, h2⟩
  have hph : ∀ k, hasB (cutR R a) ⟨L, lo⟩ k → hasB R st k := fun k ⟨o, l, h1, h2, h3⟩ => ⟨o, l, (cutR_some h1).2, hpl o h2, h3⟩
  have hpo : ∀ k, owned (cutR R a) ⟨L, lo⟩ k → owned R st k := fun k ⟨o, l, h1, h2, h3, h4⟩ => ⟨o, l, (cutR_some h1).2, hpl o h2, Nat.le_trans hlo h3, h4⟩
  -- each live object is in the part or outside
  have hcls : ∀ o l k, ρ2 o = some l → live st2 o → l.block = some k → (R'.ρ o = some l ∧ live st1 o) ∨ (R.ρ o = some l ∧ live st o ∧ st2.L[o]? = st.L[o]? ∧ k < w.heap.size ∧ ¬ hasB (cutR R a) ⟨L, lo⟩ k ∧ w'.heap[k]? = w.heap[k]?) := by
    intro o l k h1 ⟨x, h2, h3⟩ h4
    rcases hst2 o with ⟨g1, g2, g3⟩ | ⟨g1, g2, g3⟩
    · rw [g1] at h2
      have h5 := hback o l h1 g2
      by_cases h6 : live ⟨L, lo⟩ o
      · obtain ⟨y, h7, h8⟩ := h6
        have h7 : L[o]? = some y := h7
        have ho : o < a := by rw [← hL]; exact (List.getElem?_eq_some_iff.1 h7).1
        rcases g3 y h7 with rfl | h9
        · simp [LO.live] at h8
        · exact .inl ⟨by rw [hR'a o ho]; exact h5, y, h9, h8⟩
      · have hk := hs.wr o l k h5 ⟨x, h2, h3⟩ h4
        have hnb : ¬ hasB (cutR R a) ⟨L, lo⟩ k := by
          intro ⟨o', l', q1, q2, q3⟩
          have := hs.inj o o' l l' k h5 (cutR_some q1).2 ⟨x, h2, h3⟩ (hpl o' q2) h4 q3
          subst this; exact h6 q2
        exact .inr ⟨h5, ⟨x, h2, h3⟩, g1, hk.2.1, hnb, m1.same k hk.2.1 (fun ⟨o', l', q1, q2, q3, q4⟩ => hnb ⟨o', l', q1, q2, q4⟩)⟩
    · rw [g1] at h2
      exact .inl ⟨by rw [← h2b o g2]; exact h1, x, h2, h3⟩
  have hpart := hs.part (lo := lo) hL hat
  have hdk : ∀ d : Nat, w.heap[d]? = some (Obj.deferred (some [])) → w'.heap[d]? = some (Obj.deferred (some [])) := by
    intro d hd
    rw [m1.same d (Array.getElem?_eq_some_iff.1 hd).1 (fun ⟨o, l, q1, q2, q3, q4⟩ => ?_), hd]
    obtain ⟨x, h1, h2⟩ := q2
    exact (hpart.obj o l x q1 h1).notd h2 q4 hd
  have hk1 : Keeps R'.ro w' w' := ⟨fun _ _ => rfl⟩
  refine ⟨{ R' with ρ := ρ2 }, ⟨?_, ?_, ?_, ?_, s1.rolt, s1.dfr, s1.nodup, s1.old, s1.size, s1.os, s1.tape, s1.output⟩, ⟨hsub, e1.ro, e1.keeps, e1.base, e1.w0, e1.size⟩, ⟨hlo2, hlen2, fun k hk hn => m1.same k hk (fun h => hn (hpo k h)), ?_, hold, ?_, ?_, fun o ho => ?_, ?_, ?_⟩, hD, h2b, h2n, rfl⟩
  · intro o l h
    have h : ρ2 o = some l := h
    by_cases ho : o < b
    · omega
    · rw [h2n o (by omega)] at h; rw [hlen2]; exact hs.dom o l h
  · intro o l x h1 h2
    have h1 : ρ2 o = some l := h1
    rcases hst2 o with ⟨g1, g2, g3⟩ | ⟨g1, g2, g3⟩
    · rw [g1] at h2
      have h5 := hback o l h1 g2
      have hob := hs.obj o l x h5 h2
      by_cases hx : x.live = true
      · by_cases h6 : live ⟨L, lo⟩ o
        · obtain ⟨y, h7, h8⟩ := h6
          have h7 : L[o]? = some y := h7
          have ho : o < a := by rw [← hL]; exact (List.getElem?_eq_some_iff.1 h7).1
          rcases g3 y h7 with rfl | h9
          · simp [LO.live] at h8
          · have : y = x := by
              rcases hat o ho with q1 | ⟨z, q1, q2, _⟩
              · rw [q1] at h7; cases h7; simp [LO.live] at h8
              · rw [q1] at h7; cases h7; rw [q2] at h2; cases h2; rfl
            subst this
            exact (s1.obj o l y (by rw [hR'a o ho]; exact h5) h9).mono hsub' (fun _ h => h) hk1 (fun _ _ => rfl) (fun _ _ _ _ => rfl)
        · show ObjRel ρ2 R'.ro R'.base w' x l
          rw [e1.base]
          refine hob.keep hsub e1.ro e1.keeps (fun _ k hk => ?_) hdk
          rcases hcls o l k h1 ⟨x, by rw [g1]; exact h2, hx⟩ hk with ⟨_, q⟩ | ⟨_, _, _, _, _, q⟩
          · have hkk := hs.wr o l k h5 ⟨x, h2, hx⟩ hk
            refine m1.same k hkk.2.1 (fun ⟨o', l', q1, q2, q3, q4⟩ => ?_)
            have := hs.inj o o' l l' k h5 (cutR_some q1).2 ⟨x, h2, hx⟩ (hpl o' q2) hk q4
            subst this; exact h6 q2
          · exact q
      · show ObjRel ρ2 R'.ro R'.base w' x l
        rw [e1.base]
        exact hob.keep hsub e1.ro e1.keeps (fun h => absurd h hx) hdk
    · rw [g1] at h2
      rw [h2b o g2] at h1
      exact (s1.obj o l x h1 h2).mono hsub' (fun _ h => h) hk1 (fun _ _ => rfl) (fun _ _ _ _ => rfl)
  · intro o o' l l' k h1 h2 h3 h4 h5 h6
    rcases hcls o l k h1 h3 h5 with ⟨c1, c2⟩ | ⟨c1, c2, _, c3, c4, _⟩ <;> rcases hcls o' l' k h2 h4 h6 with ⟨d1, d2⟩ | ⟨d1, d2, _, d3, d4, _⟩
    · exact s1.inj o o' l l' k c1 d1 c2 d2 h5 h6
    · exact absurd (m1.hasb k d3 ⟨o, l, c1, c2, h5⟩) d4
    · exact absurd (m1.hasb k c3 ⟨o', l', d1, d2, h6⟩) c4
    · exact hs.inj o o' l l' k c1 d1 c2 d2 h5 h6
  · intro o l k h1 h2 h3
    rcases hcls o l k h1 h2 h3 with ⟨c1, c2⟩ | ⟨c1, c2, _, c3, c4, _⟩
    · exact s1.wr o l k c1 c2 h3
    · have := hs.wr o l k c1 c2 h3
      exact ⟨by show R'.base ≤ k; rw [e1.base]; exact this.1, Nat.lt_of_lt_of_le c3 e1.size, fun h => (m1.rof k c3 h).elim this.2.2 c4⟩
  · intro k hk ⟨o, l, h1, h2, h3, h4⟩
    rcases hcls o l k h1 h2 h4 with ⟨c1, c2⟩ | ⟨c1, c2, _⟩
    · rw [hlo2] at h3
      by_cases h5 : lo ≤ o
      · exact hpo k (m1.own k hk ⟨o, l, c1, c2, by rw [m1.lo]; exact h5, h4⟩)
      · have ho : o < a := by omega
        obtain ⟨x, h6, h7⟩ := c2
        rcases m1.old o (by show o < lo; omega) (by show o < L.length; omega) with h8 | ⟨t, e, _, h8⟩
        · have h8 : st1.L[o]? = L[o]? := h8
          exact ⟨o, l, by rw [← hR'a o ho]; exact c1, hpl o ⟨x, h8.symm.trans h6, h7⟩, h3, h4⟩
        · rw [h8] at h6; cases h6; simp [LO.live] at h7
    · exact ⟨o, l, c1, c2, by rw [← hlo2]; exact h3, h4⟩
  · intro o fr ps a' b' f p s h1
    rcases hst2 o with ⟨g1, g2, g3⟩ | ⟨g1, g2, g3⟩
    · exact ⟨p, s, g1.trans h1⟩
    · by_cases ho : o < a
      · obtain ⟨p', s', h2⟩ := m1.lp o fr ps a' b' f p s ((g3 ho).trans h1)
        exact ⟨p', s', g1.trans h2⟩
      · exact absurd ⟨_, _, _, _, _, _, _, h1⟩ (hnew o (by omega) g2).2.2
  · intro o ⟨x1, x2, x3, x4, x5, x6, x7, h⟩
    rcases hst2 o with ⟨g1, g2, g3⟩ | ⟨g1, g2, g3⟩
    · exact ⟨_, _, _, _, _, _, _, g1.symm.trans h⟩
    · obtain ⟨y1, y2, y3, y4, y5, y6, y7, h2⟩ := m1.nl o ⟨_, _, _, _, _, _, _, g1.symm.trans h⟩
      have h2 : L[o]? = _ := h2
      have ho : o < a := by rw [← hL]; exact (List.getElem?_eq_some_iff.1 h2).1
      exact ⟨_, _, _, _, _, _, _, (g3 ho).symm.trans h2⟩
  · show ρ2 o = R.ρ o
    rw [h2b o (by omega), hR'a o (by omega)]
  · intro k hk h
    exact (m1.rof k hk h).imp id (hph k)
  · intro k hk ⟨o, l, h1, h2, h4⟩
    rcases hcls o l k h1 h2 h4 with ⟨c1, c2⟩ | ⟨c1, c2, _⟩
    · exact hph k (m1.hasb k hk ⟨o, l, c1, c2, h4⟩)
    · exact ⟨o, l, c1, c2, h4⟩
end
end Gz
