/- The head of a kept loop: what is so then. -/
import Derived.Test.YtpdomjkgdlineaaBXCanon
set_option linter.unusedVariables false
set_option linter.unusedSimpArgs false
set_option linter.unnecessarySimpa false
set_option linter.deprecated false
namespace Gz
open Go

section
variable {P : Program} {C : Cfg} {R : Rl} {st st1 : St} {w w' : World} {n0 : Nat}

theorem lt1xV {ρ : Rho} {v : LV} {u : Value} (h : VR R w v u) (hc : lt1 n0 v = true) (hρ : ∀ o, o < n0 → ρ o = R.ρ o) : V ρ R.ro w v u := by
  cases v
  case p o e off =>
    have ho : o < n0 := by simpa [lt1] using hc
    cases h with
    | pblk h => exact .pblk ((hρ o ho).trans h)
    | prow h he => exact .prow ((hρ o ho).trans h) he
  case sl o =>
    have ho : o < n0 := by simpa [lt1] using hc
    cases h with
    | sl h => exact .sl ((hρ o ho).trans h)
  case mp => cases h
  case yl o =>
    have ho : o < n0 := by simpa [lt1] using hc
    cases h with
    | yl h => exact .yl ((hρ o ho).trans h)
  all_goals first
    | exact h.clo rfl
    | (simp [lt1] at hc; done)
theorem ltV_V {ρ : Rho} {v : LV} {u : Value} (h : VR R w v u) (hc : ltV n0 v = true) (hρ : ∀ o, o < n0 → ρ o = R.ρ o) : V ρ R.ro w v u := by
  cases v
  case ag cs =>
    obtain ⟨us, rfl, hcs⟩ := V.ag_inv h
    exact .ag hcs.one hcs.vl.1 (fun j lv v h3 h4 => lt1xV (hcs.vl.2 j lv v h3 h4) (List.all_eq_true.1 hc _ (List.mem_of_getElem? h3)) hρ)
  case fn f caps =>
    obtain ⟨us, rfl, hcs⟩ := V.fn_inv h
    exact .fn hcs.1 (fun j lv v h3 h4 => lt1xV (hcs.2 j lv v h3 h4) (List.all_eq_true.1 hc _ (List.mem_of_getElem? h3)) hρ)
  case tu vs =>
    cases vs with
    | nil =>
      obtain ⟨cs, rfl, hcs⟩ := V.tu_inv h
      exact .tu (cs := cs) hcs.1 (fun j lv v h1 h2 => by simp at h1)
    | cons x l => simp [ltV, lt1] at hc
  all_goals exact lt1xV h hc hρ

theorem kill_length (mv : List (Nat × Nat)) (L : List LO) : (kill mv L).length = L.length := by
  unfold kill
  induction mv generalizing L with
  | nil => rfl
  | cons p mv ih => rw [List.foldl_cons, ih]; simp
theorem kill_at {mv : List (Nat × Nat)} {L : List LO} {o : Nat} {x : LO} (h : (kill mv L)[o]? = some x) : x = .dead ∨ (L[o]? = some x ∧ ∀ k, (o, k) ∉ mv) := by
  unfold kill at h
  induction mv generalizing L with
  | nil => exact .inr ⟨h, by simp⟩
  | cons p mv ih =>
    rw [List.foldl_cons] at h
    rcases ih h with h1 | ⟨h1, h2⟩
    · exact .inl h1
    · rw [List.getElem?_set] at h1
      split at h1
      · split at h1 <;> cases h1; exact .inl rfl
      · rename_i hne
        refine .inr ⟨h1, fun k hk => ?_⟩
        rcases List.mem_cons.1 hk with e | hk
        · subst e; exact hne rfl
        · exact h2 k hk
theorem kill_keep {mv : List (Nat × Nat)} {L : List LO} {o : Nat} (h : ∀ k, (o, k) ∉ mv) : (kill mv L)[o]? = L[o]? := by
  unfold kill
  induction mv generalizing L with
  | nil => rfl
  | cons p mv ih =>
    rw [List.foldl_cons, ih (fun k hk => h k (List.mem_cons_of_mem _ hk)), List.getElem?_set, if_neg]
    intro e; exact h p.2 (by rw [← e]; exact List.mem_cons_self)

theorem mvObjs_keep : ∀ (L : List LO) (m : Mv) (o : Nat) (x : LO), L[o]? = some x → (∀ c, x ≠ .cells c) → (mvObjs C m L).1[o]? = some x
  | [], m, o, x, h, hx => by simp at h
  | y :: L, m, 0, x, h, hx => by
    simp at h; subst h
    cases y <;> first | rfl | exact absurd rfl (hx _)
  | y :: L, m, o + 1, x, h, hx => by
    have h' : L[o]? = some x := by simpa using h
    cases y <;> simp only [mvObjs, List.getElem?_cons_succ] <;> exact mvObjs_keep L _ o x h' hx

structure CanOK (R R' : Rl) (st st' : St) (n0 : Nat) : Prop where
  ro : R'.ro = R.ro
  D : R'.D = R.D
  base : R'.base = R.base
  w0 : R'.w0 = R.w0
  ρ : ∀ o, o < n0 → R'.ρ o = R.ρ o
  lo : st'.lo = st.lo
  len : n0 ≤ st'.L.length
  hasb : ∀ b, hasB R' st' b → hasB R st b
  lp : ∀ (o : Nat) (fr : List LV) (ps : List Nat) (a b : Code) (f : Nat) (p : Option Code) (s : LoopState), o < n0 → st.L[o]? = some (.loop fr ps a b f p s) → st'.L[o]? = some (.loop fr ps a b f p s)
  nl : ∀ o, LoopAt st' o → o < n0 ∧ LoopAt st o

theorem canon_sound {keep : List Nat} {fr fr' : List LV} {st' : St} {us : List Value} (hs : Sim R st w) (hf : VLR R w fr us) (hn : n0 ≤ st.L.length) (h : canon C keep n0 fr st = some (fr', st')) :
    ∃ R', Sim R' st' w ∧ VLR R' w fr' us ∧ CanOK R R' st st' n0 := by
  unfold canon at h
  simp only at h
  split at h
  case isFalse => cases h
  rename_i hlt
  have h0 : MvInv st n0 ⟨st, n0, [], [], true⟩ [] := ⟨rfl, rfl, rfl, fun i o h => by simp at h, fun i t e h => by simp at h, fun o k h => by simp at h, fun i o h => by simp at h, fun i j o h => by simp at h⟩
  obtain ⟨o1, a1, a2, a3⟩ := mvSlots_sound (C := C) (keep := keep) fr 0 h0
  obtain ⟨o2, b1, b2, b4, b3⟩ := mvObjs_sound (C := C) (st.L.take n0) a1
  have hkeep := fun o x => mvObjs_keep (C := C) (st.L.take n0) (mvSlots C keep ⟨st, n0, [], [], true⟩ 0 fr).2 o x
  simp only [List.nil_append] at a1 a3 b1 b3
  generalize mvSlots C keep ⟨st, n0, [], [], true⟩ 0 fr = a at *
  generalize mvObjs C a.2 (st.L.take n0) = q at *
  generalize hog : o1 ++ o2 = og at *
  injection h with h
  injection h with h1 h2
  subst h1; subst h2
  have hqlen : q.1.length = n0 := by rw [b4]; simp; omega
  let ρ' : Rho := fun k => if k < n0 then R.ρ k else match og[k - n0]? with
    | some (some o) => R.ρ o
    | some none => (q.2.more[k - n0]?).map fun p => .row none 0 0 p.1.g
    | none => none
  have hρold : ∀ o, o < n0 → ρ' o = R.ρ o := fun o ho => by simp only [ρ']; rw [if_pos ho]
  have hρnew : ∀ i, ρ' (n0 + i) = match og[i]? with
    | some (some o) => R.ρ o
    | some none => (q.2.more[i]?).map fun p => .row none 0 0 p.1.g
    | none => none := fun i => by simp only [ρ']; rw [if_neg (by omega), Nat.add_sub_cancel_left]
  have hat : AtM R n0 q.2 og ρ' := by
    refine ⟨hρold, fun i o hi => by rw [hρnew, hi], fun i t e hi hm => by rw [hρnew, hi]; simp only [hm, Option.map_some]⟩
  have hLo : ∀ o, o < n0 → (kill q.2.moved q.1 ++ q.2.more.map fun p => LO.arr p.1 p.2)[o]? = (kill q.2.moved q.1)[o]? := fun o ho => List.getElem?_append_left (by rw [kill_length, hqlen]; exact ho)
  have hLn : ∀ i, (kill q.2.moved q.1 ++ q.2.more.map fun p => LO.arr p.1 p.2)[n0 + i]? = (q.2.more[i]?).map fun p => .arr p.1 p.2 := fun i => by
    rw [List.getElem?_append_right (by rw [kill_length, hqlen]; omega), kill_length, hqlen, Nat.add_sub_cancel_left, List.getElem?_map]
  have htake : ∀ {o : Nat} {x : LO}, (st.L.take n0)[o]? = some x → o < n0 ∧ st.L[o]? = some x := by
    intro o x h
    rw [List.getElem?_take] at h
    split at h
    · exact ⟨by assumption, h⟩
    · cases h
  -- what an old object was
  have hwas : ∀ {o : Nat} {x' : LO}, o < n0 → (kill q.2.moved q.1)[o]? = some x' → x' = .dead ∨ ((∀ k, (o, k) ∉ q.2.moved) ∧ ∃ x, st.L[o]? = some x ∧ ObMv R w ρ' x x') := by
    intro o x' ho h
    rcases kill_at h with h1 | ⟨h1, h2⟩
    · exact .inl h1
    · obtain ⟨x, h3, h4⟩ := b3 R w hs ρ' hat o x' h1
      exact .inr ⟨h2, x, (htake h3).2, h4⟩
  have hmvlive : ∀ {x x' : LO}, ObMv R w ρ' x x' → x'.live = true → x.live = true := by
    rintro x x' (⟨rfl, _⟩ | ⟨c, c', rfl, rfl, _⟩) h
    · exact h
    · rfl
  -- from where a live object is
  have horg : ∀ (o : Nat) (l : Loc) (b : Nat), ρ' o = some l → live { st with L := kill q.2.moved q.1 ++ q.2.more.map fun p => LO.arr p.1 p.2 } o → l.block = some b →
      ∃ o0, R.ρ o0 = some l ∧ live st o0 ∧ ((o < n0 ∧ o0 = o ∧ ∀ k, (o, k) ∉ q.2.moved) ∨ (∃ i, o = n0 + i ∧ og[i]? = some (some o0))) := by
    intro o l b h1 ⟨x, h2, h3⟩ h4
    have h2 : (kill q.2.moved q.1 ++ q.2.more.map fun p => LO.arr p.1 p.2)[o]? = some x := h2
    by_cases ho : o < n0
    · rw [hLo o ho] at h2
      rcases hwas ho h2 with rfl | ⟨h5, y, h6, h7⟩
      · simp [LO.live] at h3
      · rw [hρold o ho] at h1
        exact ⟨o, h1, ⟨y, h6, hmvlive h7 h3⟩, .inl ⟨ho, rfl, h5⟩⟩
    · have ho' : o = n0 + (o - n0) := by omega
      rw [ho', hρnew] at h1
      split at h1
      · rename_i o0 hi
        obtain ⟨t, e, h5, h6⟩ := b1.obj _ _ hi
        exact ⟨o0, h1, ⟨_, h6, rfl⟩, .inr ⟨o - n0, ho', hi⟩⟩
      · cases hq : q.2.more[o - n0]? with
        | none => rw [hq] at h1; cases h1
        | some p => rw [hq] at h1; cases h1; cases h4
      · cases h1
  refine ⟨{ R with ρ := ρ' }, ⟨?_, ?_, ?_, ?_, hs.rolt, hs.dfr, hs.nodup, hs.old, hs.size, hs.os, hs.tape, hs.output⟩, ?_, ⟨rfl, rfl, rfl, rfl, hρold, rfl, ?_, ?_, ?_, ?_⟩⟩
  · intro o l h1
    show o < (kill q.2.moved q.1 ++ q.2.more.map fun p => LO.arr p.1 p.2).length
    rw [List.length_append, kill_length, hqlen, List.length_map, ← b1.len]
    by_cases ho : o < n0
    · omega
    · have ho' : o = n0 + (o - n0) := by omega
      have h1 : ρ' o = some l := h1
      rw [ho', hρnew] at h1
      have : o - n0 < og.length := by
        cases hi : og[o - n0]? with
        | none => rw [hi] at h1; cases h1
        | some _ => exact (List.getElem?_eq_some_iff.1 hi).1
      omega
  · intro o l x' h1 h2
    have h1 : ρ' o = some l := h1
    have h2 : (kill q.2.moved q.1 ++ q.2.more.map fun p => LO.arr p.1 p.2)[o]? = some x' := h2
    by_cases ho : o < n0
    · rw [hLo o ho] at h2
      rw [hρold o ho] at h1
      rcases hwas ho h2 with rfl | ⟨h5, x, h6, h7⟩
      · exact ObjRel.dead l
      · have hob := hs.obj o l x h1 h6
        rcases h7 with ⟨rfl, h8⟩ | ⟨c, c', rfl, rfl, h8⟩
        · cases x with
          | cells c => exact absurd rfl (h8 c)
          | dead => exact ObjRel.dead l
          | arr t e =>
            cases l <;> simp only [ObjRel] at hob ⊢
            obtain ⟨g1, g2, xs, g3, g4⟩ := hob
            exact ⟨g1, g2, xs, g3, g4.flat_ρ⟩
          | ro t =>
            cases l <;> simp only [ObjRel] at hob ⊢
            obtain ⟨g1, g2, g5, e, xs, g3, g4⟩ := hob
            exact ⟨g1, g2, g5, e, xs, g3, g4.flat_ρ⟩
          | loop fr ps a b f p s =>
            cases l <;> simp only [ObjRel] at hob ⊢
            obtain ⟨g1, g2, g3⟩ := hob
            refine ⟨g1, ⟨g2.1, fun j lv v h3 h4 => ltV_V (g2.2 j lv v h3 h4) ?_ hρold⟩, g3⟩
            have := List.all_eq_true.1 hlt _ (List.mem_of_getElem? (i := o) (by rw [List.getElem?_take, if_pos ho]; exact h6))
            exact List.all_eq_true.1 this _ (List.mem_of_getElem? h3)
        · cases l <;> simp only [ObjRel] at hob ⊢
          obtain ⟨arr, e, g1, g2⟩ := hob
          exact ⟨arr, e, g1, h8 _ g2.vl, g2.one⟩
    · have ho' : o = n0 + (o - n0) := by omega
      rw [ho', hρnew] at h1
      rw [ho', hLn] at h2
      cases hi : og[o - n0]? with
      | none => rw [hi] at h1; cases h1
      | some oo =>
        rw [hi] at h1
        cases oo with
        | some o0 =>
          obtain ⟨t, e, h5, h6⟩ := b1.obj _ _ hi
          rw [h5] at h2; cases h2
          have hob := hs.obj o0 l _ h1 h6
          cases l <;> simp only [ObjRel] at hob ⊢
          obtain ⟨g1, g2, xs, g3, g4⟩ := hob
          exact ⟨g1, g2, xs, g3, g4.flat_ρ⟩
        | none =>
          cases hq : q.2.more[o - n0]? with
          | none => rw [hq] at h2; cases h2
          | some p =>
            obtain ⟨t, e⟩ := p
            rw [hq] at h1 h2; cases h1; cases h2
            have ht := b1.nil _ t e hi hq
            have ht2 : t.flat = [] := by unfold TL.flat; rw [ht]; rfl
            refine ⟨rfl, by unfold TL.len; rw [ht]; rfl, [], ⟨by simp, .inl ⟨rfl, rfl⟩⟩, ?_⟩
            rw [ht2]; exact ⟨VL.nil, by simp⟩
  · intro o o' l l' b h1 h2 h3 h4 h5 h6
    obtain ⟨p, c1, c2, c3⟩ := horg o l b h1 h3 h5
    obtain ⟨p', d1, d2, d3⟩ := horg o' l' b h2 h4 h6
    have := hs.inj p p' l l' b c1 d1 c2 d2 h5 h6
    subst this
    rcases c3 with ⟨e1, e2, e3⟩ | ⟨i, rfl, e2⟩ <;> rcases d3 with ⟨f1, f2, f3⟩ | ⟨j, rfl, f2⟩
    · exact e2.symm.trans f2
    · subst e2; exact absurd (b1.vm j _ f2) (e3 _)
    · subst f2; exact absurd (b1.vm i _ e2) (f3 _)
    · rw [b1.inj i j p e2 f2]
  · intro o l b h1 h2 h3
    obtain ⟨p, c1, c2, _⟩ := horg o l b h1 h2 h3
    exact hs.wr p l b c1 c2 h3
  · exact a3 R w us hs hf ρ' (by rw [← hog] at hat; exact hat.less b2 a1.len)
  · show n0 ≤ (kill q.2.moved q.1 ++ q.2.more.map fun p => LO.arr p.1 p.2).length
    rw [List.length_append, kill_length, hqlen]; omega
  · intro b ⟨o, l, h1, h2, h3⟩
    obtain ⟨p, c1, c2, _⟩ := horg o l b h1 h2 h3
    exact ⟨p, l, c1, c2, h3⟩
  · intro o fr ps a b f p s ho h1
    show (kill q.2.moved q.1 ++ q.2.more.map fun p => LO.arr p.1 p.2)[o]? = _
    rw [hLo o ho, kill_keep]
    · exact hkeep o _ (by rw [List.getElem?_take, if_pos ho]; exact h1) (fun c e => by cases e)
    · intro k hk
      obtain ⟨i, _, hi⟩ := b1.mv o k hk
      obtain ⟨t, e, _, h6⟩ := b1.obj _ _ hi
      rw [h1] at h6; cases h6
  · intro o ⟨a1, a2, a3, a4, a5, a6, a7, h1⟩
    have h1 : (kill q.2.moved q.1 ++ q.2.more.map fun p => LO.arr p.1 p.2)[o]? = _ := h1
    by_cases ho : o < n0
    · rw [hLo o ho] at h1
      rcases hwas ho h1 with h2 | ⟨_, x, h6, h7⟩
      · cases h2
      · rcases h7 with ⟨rfl, _⟩ | ⟨c, c', _, h8, _⟩
        · exact ⟨ho, _, _, _, _, _, _, _, h6⟩
        · cases h8
    · have ho' : o = n0 + (o - n0) := by omega
      rw [ho', hLn] at h1
      cases hq : q.2.more[o - n0]? with
      | none => rw [hq] at h1; cases h1
      | some p => rw [hq] at h1; cases h1
end
end Gz
