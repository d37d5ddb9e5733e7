/- Each operation of the machine does what the evaluator says: the parts. -/
import Derived.Test.YtpdomjkgdlineaaBXSim
import Derived.Laws.Tables
set_option linter.unusedVariables false
set_option linter.unusedSimpArgs false
set_option linter.unnecessarySimpa false
set_option linter.deprecated false
namespace Gz
open Go

section
variable {ρ : Rho} {ro : Nat → Prop} {w : World}

theorem V.slnil_to {g : Tag} {v : Value} (h : V ρ ro w (.slnil g) v) : V ρ ro w (.slv ⟨g, []⟩) v := by
  cases h; exact .slve rfl

theorem decPt_sound {cs : List LV} {x : Pt} (h : decPt cs = some x) : encPt x = cs := by
  unfold decPt at h
  split at h
  · cases h; rfl
  · cases h

theorem dec_sound {g : Tag} {cs : List LV} {x : El g} {vs : List Value} (h : dec g cs = some x) (hv : VL ρ ro w cs vs) : VL ρ ro w (enc g x) vs := by
  unfold dec at h
  split at h
  all_goals try (cases h; exact hv)
  · have := decPt_sound h
    show VL ρ ro w (encPt x) vs
    rw [this]; exact hv
  · rename_i n l
    cases h1 : decPt (l.take 7) with
    | none => simp [h1] at h
    | some p =>
      cases h2 : decPt ((l.drop 7).take 7) with
      | none => simp [h1, h2] at h
      | some q =>
        cases h3 : decPt (l.drop 14) with
        | none => simp [h1, h2, h3] at h
        | some r =>
          simp [h1, h2, h3] at h
          subst h
          have e1 := decPt_sound h1
          have e2 := decPt_sound h2
          have e3 := decPt_sound h3
          have : enc .part ⟨n, p, q, r⟩ = .i .i64 n :: l := by
            show i6 n :: (encPt p ++ (encPt q ++ encPt r)) = _
            rw [e1, e2, e3]
            have h14 : l.drop 14 = (l.drop 7).drop 7 := by rw [List.drop_drop]
            rw [h14, List.take_append_drop, List.take_append_drop]
            rfl
          rw [this]; exact hv
  · cases h
    obtain ⟨v, vs', rfl, h1, h2⟩ := hv.of_cons
    exact VL.cons h1.slnil_to h2
  · cases h
    obtain ⟨v, vs', rfl, h1, h2⟩ := hv.of_cons
    obtain ⟨v2, vs2, rfl, h3, h4⟩ := h2.of_cons
    obtain ⟨v3, vs3, rfl, h5, h6⟩ := h4.of_cons
    exact VL.cons h1 (VL.cons h3 (VL.cons h5.slnil_to h6))
  · cases h
    obtain ⟨v, vs', rfl, h1, h2⟩ := hv.of_cons
    obtain ⟨v2, vs2, rfl, h3, h4⟩ := h2.of_cons
    obtain ⟨v3, vs3, rfl, h5, h6⟩ := h4.of_cons
    obtain ⟨v4, vs4, rfl, h7, h8⟩ := h6.of_cons
    obtain ⟨v5, vs5, rfl, h9, h10⟩ := h8.of_cons
    exact VL.cons h1 (VL.cons h3 (VL.cons h5 (VL.cons h7 (VL.cons h9.slnil_to h10))))
  · cases h

theorem drop_mid (L : List Value) (b k : Nat) (hk : k ≤ b) (hb : b ≤ L.length) : L.drop k = (L.take b).drop k ++ L.drop b := by
  have h : (L.take b ++ L.drop b).drop k = (L.take b).drop k ++ L.drop b := List.drop_append_of_le_length (by rw [List.length_take]; omega)
  rwa [List.take_append_drop] at h

theorem chunk_sound {g : Tag} : ∀ {n : Nat} {cs : List LV} {l : List (El g)} {vs : List Value}, TL.chunk g n cs = some l → cs.length = n * sz g → VL ρ ro w cs vs → l.length = n ∧ VL ρ ro w (l.flatMap (enc g)) vs
  | 0, cs, l, vs, h, hl, hv => by
    simp [TL.chunk] at h
    subst h
    have : cs = [] := List.eq_nil_of_length_eq_zero (by simpa using hl)
    subst this
    exact ⟨rfl, by simpa using hv⟩
  | n + 1, cs, l, vs, h, hl, hv => by
    simp only [TL.chunk] at h
    cases h1 : dec g (cs.take (sz g)) with
    | none => simp [h1] at h
    | some x =>
      cases h2 : TL.chunk g n (cs.drop (sz g)) with
      | none => simp [h1, h2] at h
      | some m =>
        simp [h1, h2] at h
        subst h
        have a := dec_sound h1 (hv.take _)
        have b := chunk_sound h2 (by rw [List.length_drop, hl, Nat.succ_mul]; omega) (hv.drop _)
        refine ⟨by simp [b.1], ?_⟩
        rw [List.flatMap_cons, ← List.take_append_drop (sz g) vs]
        exact a.append b.2

theorem ofCells_sound {g : Tag} {n : Nat} {cs : List LV} {t : TL} {vs : List Value} (h : TL.ofCells g n cs = some t) (hv : VL ρ ro w cs vs) : t.g = g ∧ t.len = n ∧ VL ρ ro w t.flat vs := by
  unfold TL.ofCells at h
  split at h
  case isFalse => cases h
  rename_i hl
  cases h1 : TL.chunk g n cs with
  | none => simp [h1] at h
  | some l =>
    simp [h1] at h
    subst h
    have := chunk_sound h1 hl hv
    exact ⟨rfl, this.1, this.2⟩

/-- One element's cells, some of them new. -/
theorem put_sound {t t' : TL} {e off : Nat} {cs : List LV} {xs us : List Value} (h : t.put e off cs = some t') (he : e < t.len) (ho : off + cs.length ≤ sz t.g) (hv : VL ρ ro w t.flat xs) (hu : VL ρ ro w cs us) :
    t'.g = t.g ∧ t'.len = t.len ∧ VL ρ ro w t'.flat (xs.take (e * sz t.g + off) ++ (us ++ xs.drop (e * sz t.g + off + us.length))) := by
  obtain ⟨g, l⟩ := t
  unfold TL.put at h
  simp only [] at h he ho hv ⊢
  cases h1 : dec g ((TL.at_ ⟨g, l⟩ e).take off ++ (cs ++ (TL.at_ ⟨g, l⟩ e).drop (off + cs.length))) with
  | none => simp [h1] at h
  | some x =>
    simp [h1] at h
    subst h
    have he' : e < l.length := he
    refine ⟨rfl, by simp [TL.len], ?_⟩
    have hat := hv.elem e he
    simp only [] at hat
    have hn : VL ρ ro w (enc g x) (((xs.drop (e * sz g)).take (sz g)).take off ++ (us ++ ((xs.drop (e * sz g)).take (sz g)).drop (off + us.length))) := by
      refine dec_sound h1 ((hat.take off).append (hu.append ?_))
      have := hat.drop (off + cs.length)
      rwa [hu.1] at this ⊢
    have hflat : TL.flat ⟨g, l.set e x⟩ = (TL.flat ⟨g, l⟩).take (e * sz g) ++ (enc g x ++ (TL.flat ⟨g, l⟩).drop (e * sz g + sz g)) := by
      unfold TL.flat
      simp only []
      clear hv hat hn h1 he ho
      induction l generalizing e with
      | nil => simp at he'
      | cons y l ih =>
        cases e with
        | zero =>
          simp only [List.set_cons_zero, List.flatMap_cons, Nat.zero_mul, List.take_zero, List.nil_append, Nat.zero_add]
          rw [show sz g = (enc g y).length from (enc_length g y).symm, List.drop_left]
        | succ e =>
          simp only [List.set_cons_succ, List.flatMap_cons]
          rw [ih (by simpa using he')]
          have h1 : (e + 1) * sz g = (enc g y).length + e * sz g := by rw [enc_length, Nat.succ_mul, Nat.add_comm]
          rw [h1, List.take_append, Nat.add_assoc, List.drop_append]
          rw [List.take_of_length_le (Nat.le_add_right _ _), List.drop_eq_nil_of_le (Nat.le_add_right _ _)]
          simp [List.append_assoc]
    rw [hflat]
    have hlen : xs.length = l.length * sz g := by have := hv.1; rw [flat_length] at this; simpa [TL.len] using this.symm
    have hle : e * sz g + sz g ≤ xs.length := by rw [hlen, ← Nat.succ_mul]; exact Nat.mul_le_mul_right _ he'
    have e1 : xs.take (e * sz g + off) ++ (us ++ xs.drop (e * sz g + off + us.length)) =
        xs.take (e * sz g) ++ ((((xs.drop (e * sz g)).take (sz g)).take off ++ (us ++ ((xs.drop (e * sz g)).take (sz g)).drop (off + us.length))) ++ xs.drop (e * sz g + sz g)) := by
      rw [List.take_take, Nat.min_eq_left (by omega), List.take_add]
      have hd := drop_mid (xs.drop (e * sz g)) (sz g) (off + us.length) (by rw [← hu.1]; exact ho) (by rw [List.length_drop]; omega)
      rw [List.drop_drop, List.drop_drop] at hd
      rw [Nat.add_assoc (e * sz g) off us.length, hd]
      simp only [List.append_assoc]
    rw [e1]
    exact (hv.take _).append (hn.append (hv.drop _))
end

/-! What a part of a run leaves alone. -/
def owned (R : Rl) (st : St) (b : Nat) : Prop := ∃ o l, R.ρ o = some l ∧ live st o ∧ st.lo ≤ o ∧ l.block = some b

/-- A loop's record stays one. -/
def LoopAt (st : St) (o : Nat) : Prop := ∃ fr ps a b f p s, st.L[o]? = some (.loop fr ps a b f p s)

def hasB (R : Rl) (st : St) (b : Nat) : Prop := ∃ o l, R.ρ o = some l ∧ live st o ∧ l.block = some b
structure Wm (R R' : Rl) (st st' : St) (w w' : World) : Prop where
  lo : st'.lo = st.lo
  len : st.L.length ≤ st'.L.length
  same : ∀ b, b < w.heap.size → ¬ owned R st b → w'.heap[b]? = w.heap[b]?
  own : ∀ b, b < w.heap.size → owned R' st' b → owned R st b
  old : ∀ o, o < st.lo → o < st.L.length → st'.L[o]? = st.L[o]? ∨ (∃ t e, st.L[o]? = some (.arr t e) ∧ st'.L[o]? = some (.ro t))
  lp : ∀ (o : Nat) (fr : List LV) (ps : List Nat) (a b : Code) (f : Nat) (p : Option Code) (s : LoopState), st.L[o]? = some (LO.loop fr ps a b f p s) → ∃ p' s', st'.L[o]? = some (LO.loop fr ps a b f p' s')
  nl : ∀ o, LoopAt st' o → LoopAt st o
  rho : ∀ o, o < st.L.length → R'.ρ o = R.ρ o
  rof : ∀ b, b < w.heap.size → R'.ro b → R.ro b ∨ hasB R st b
  hasb : ∀ b, b < w.heap.size → hasB R' st' b → hasB R st b

/-- What may be said while a loop's record is there. -/
structure Wn (R R' : Rl) (st st' : St) (w w' : World) : Prop where
  lo : st'.lo = st.lo
  len : st.L.length ≤ st'.L.length
  same : ∀ b, b < w.heap.size → ¬ owned R st b → w'.heap[b]? = w.heap[b]?
  own : ∀ b, b < w.heap.size → owned R' st' b → owned R st b
  old : ∀ o, o < st.lo → o < st.L.length → st'.L[o]? = st.L[o]? ∨ (∃ t e, st.L[o]? = some (.arr t e) ∧ st'.L[o]? = some (.ro t))
  rho : ∀ o, o < st.L.length → R'.ρ o = R.ρ o
  rof : ∀ b, b < w.heap.size → R'.ro b → R.ro b ∨ hasB R st b
  hasb : ∀ b, b < w.heap.size → hasB R' st' b → hasB R st b
theorem Wm.n {R R' : Rl} {st st' : St} {w w' : World} (h : Wm R R' st st' w w') : Wn R R' st st' w w' := ⟨h.lo, h.len, h.same, h.own, h.old, h.rho, h.rof, h.hasb⟩
theorem Wn.m {R R' : Rl} {st st' : St} {w w' : World} (h : Wn R R' st st' w w')
    (lp : ∀ (o : Nat) (fr : List LV) (ps : List Nat) (a b : Code) (f : Nat) (p : Option Code) (s : LoopState), st.L[o]? = some (LO.loop fr ps a b f p s) → ∃ p' s', st'.L[o]? = some (LO.loop fr ps a b f p' s'))
    (nl : ∀ o, LoopAt st' o → LoopAt st o) : Wm R R' st st' w w' := ⟨h.lo, h.len, h.same, h.own, h.old, lp, nl, h.rho, h.rof, h.hasb⟩
theorem Wn.trans {R R' R'' : Rl} {st st' st'' : St} {w w' w'' : World} (hz : w.heap.size ≤ w'.heap.size) (h : Wn R R' st st' w w') (k : Wn R' R'' st' st'' w' w'') : Wn R R'' st st'' w w'' := by
  refine ⟨k.lo.trans h.lo, Nat.le_trans h.len k.len, fun b hb hn => (k.same b (Nat.lt_of_lt_of_le hb hz) (fun ho => hn (h.own b hb ho))).trans (h.same b hb hn),
    fun b hb ho => h.own b hb (k.own b (Nat.lt_of_lt_of_le hb hz) ho), fun o ho hol => ?_, fun o ho => (k.rho o (Nat.lt_of_lt_of_le ho h.len)).trans (h.rho o ho),
    fun b hb h1 => (k.rof b (Nat.lt_of_lt_of_le hb hz) h1).elim (h.rof b hb) (fun h2 => .inr (h.hasb b hb h2)), fun b hb h1 => h.hasb b hb (k.hasb b (Nat.lt_of_lt_of_le hb hz) h1)⟩
  have ho' : o < st'.lo := by rw [h.lo]; exact ho
  rcases h.old o ho hol with h1 | ⟨t, e, h1, h2⟩
  · rcases k.old o ho' (Nat.lt_of_lt_of_le hol h.len) with h3 | ⟨t, e, h3, h4⟩
    · exact .inl (h3.trans h1)
    · exact .inr ⟨t, e, by rw [← h1]; exact h3, h4⟩
  · rcases k.old o ho' (Nat.lt_of_lt_of_le hol h.len) with h3 | ⟨t', e', h3, h4⟩
    · exact .inr ⟨t, e, h1, h3.trans h2⟩
    · rw [h2] at h3; cases h3

theorem Wm.refl (R : Rl) (st : St) (w : World) : Wm R R st st w w := ⟨rfl, Nat.le_refl _, fun _ _ _ => rfl, fun _ _ h => h, fun _ _ _ => .inl rfl, fun _ _ _ _ _ _ _ _ h => ⟨_, _, h⟩, fun _ h => h, fun _ _ => rfl, fun _ _ h => .inl h, fun _ _ h => h⟩
theorem Wm.trans {R R' R'' : Rl} {st st' st'' : St} {w w' w'' : World} (hz : w.heap.size ≤ w'.heap.size) (h : Wm R R' st st' w w') (k : Wm R' R'' st' st'' w' w'') : Wm R R'' st st'' w w'' := by
  refine ⟨k.lo.trans h.lo, Nat.le_trans h.len k.len, fun b hb hn => (k.same b (Nat.lt_of_lt_of_le hb hz) (fun ho => hn (h.own b hb ho))).trans (h.same b hb hn),
    fun b hb ho => h.own b hb (k.own b (Nat.lt_of_lt_of_le hb hz) ho), fun o ho hol => ?_, fun o fr ps a b f p s h1 => (let ⟨p', s', h2⟩ := h.lp o fr ps a b f p s h1; k.lp o fr ps a b f p' s' h2), fun o h1 => h.nl o (k.nl o h1), fun o ho => (k.rho o (Nat.lt_of_lt_of_le ho h.len)).trans (h.rho o ho),
    fun b hb h1 => (k.rof b (Nat.lt_of_lt_of_le hb hz) h1).elim (h.rof b hb) (fun h2 => .inr (h.hasb b hb h2)), fun b hb h1 => h.hasb b hb (k.hasb b (Nat.lt_of_lt_of_le hb hz) h1)⟩
  have ho' : o < st'.lo := by rw [h.lo]; exact ho
  rcases h.old o ho hol with h1 | ⟨t, e, h1, h2⟩
  · rcases k.old o ho' (Nat.lt_of_lt_of_le hol h.len) with h3 | ⟨t, e, h3, h4⟩
    · exact .inl (h3.trans h1)
    · exact .inr ⟨t, e, by rw [← h1]; exact h3, h4⟩
  · rcases k.old o ho' (Nat.lt_of_lt_of_le hol h.len) with h3 | ⟨t', e', h3, h4⟩
    · exact .inr ⟨t, e, h1, h3.trans h2⟩
    · rw [h2] at h3; cases h3

def upd (ρ : Rho) (n : Nat) (l : Loc) : Rho := fun o => if o = n then some l else ρ o

theorem live_new {st : St} {ob : LO} {o : Nat} (h : live (new st ob) o) : live st o ∨ (o = st.L.length ∧ ob.live = true) := by
  obtain ⟨x, h1, h2⟩ := h
  simp only [new] at h1
  by_cases ho : o < st.L.length
  · rw [List.getElem?_append_left ho] at h1; exact .inl ⟨x, h1, h2⟩
  · rw [List.getElem?_append_right (by omega)] at h1
    have : o - st.L.length = 0 := by
      by_cases h0 : o - st.L.length = 0
      · exact h0
      · rw [List.getElem?_eq_none (by simp; omega)] at h1; cases h1
    rw [this] at h1; cases h1
    exact .inr ⟨by omega, h2⟩
theorem new_old {st : St} {ob : LO} {o : Nat} (ho : o < st.L.length) : (new st ob).L[o]? = st.L[o]? := by
  simp only [new]; exact List.getElem?_append_left ho
theorem new_new (st : St) (ob : LO) : (new st ob).L[st.L.length]? = some ob := by simp [new]

theorem heap_push_old (w : World) (o : Obj) {b : Nat} (h : b < w.heap.size) : (w.alloc o).heap[b]? = w.heap[b]? := heap_alloc_old w o b h

/-- A new object, in a new block. -/
theorem Sim.push0 {R : Rl} {st : St} {w : World} (hs : Sim R st w) (ob : LO) (l : Loc) (obj : Obj) (hl : l.block = some w.heap.size)
    (hob : ObjRel (upd R.ρ st.L.length l) R.ro R.base (w.alloc obj) ob l) :
    Sim { R with ρ := upd R.ρ st.L.length l } (new st ob) (w.alloc obj) ∧ Ext R { R with ρ := upd R.ρ st.L.length l } w (w.alloc obj) ∧ Wn R { R with ρ := upd R.ρ st.L.length l } st (new st ob) w (w.alloc obj) := by
  have hsz : (w.alloc obj).heap.size = w.heap.size + 1 := Array.size_push _
  have hold : ∀ b, b < w.heap.size → (w.alloc obj).heap[b]? = w.heap[b]? := fun b hb => heap_push_old w obj hb
  have hρ : ∀ o l', R.ρ o = some l' → upd R.ρ st.L.length l o = some l' := by
    intro o l' h
    have := hs.dom o l' h
    simp only [upd]; rw [if_neg (by omega)]; exact h
  have hk : Keeps R.ro w (w.alloc obj) := ⟨fun b hb => hold b (hs.rolt b hb)⟩
  have hcase : ∀ o l', upd R.ρ st.L.length l o = some l' → (o = st.L.length ∧ l' = l) ∨ (o < st.L.length ∧ R.ρ o = some l') := by
    intro o l' h
    simp only [upd] at h
    split at h
    · cases h; exact .inl ⟨by assumption, rfl⟩
    · exact .inr ⟨hs.dom o l' h, h⟩
  have hblk : ∀ o l' b, R.ρ o = some l' → live st o → l'.block = some b → b < w.heap.size := fun o l' b h1 h2 h3 => (hs.wr o l' b h1 h2 h3).2.1
  refine ⟨⟨?_, ?_, ?_, ?_, ?_, ?_, hs.nodup, ?_, ?_, hs.os, hs.tape, hs.output⟩, ⟨hρ, fun _ h => h, hk, rfl, rfl, by omega⟩, ⟨rfl, by simp [new], fun b hb _ => hold b hb, ?_, ?_, fun o ho => by simp only [upd]; rw [if_neg (by omega)], fun _ _ h => .inl h, ?_⟩⟩
  · intro o l' h
    rcases hcase o l' h with ⟨h1, _⟩ | ⟨h1, _⟩ <;> simp [new] <;> omega
  · intro o l' x h1 h2
    rcases hcase o l' h1 with ⟨rfl, rfl⟩ | ⟨h3, h4⟩
    · rw [new_new] at h2; cases h2; exact hob
    · rw [new_old h3] at h2
      have := hs.obj o l' x h4 h2
      exact this.keep hρ (fun _ h => h) hk (fun hx b hb => hold b (hblk o l' b h4 ⟨x, h2, hx⟩ hb)) (fun d hd => (hold d (Array.getElem?_eq_some_iff.1 hd).1).trans hd)
  · intro o o' l1 l2 b h1 h2 h3 h4 h5 h6
    rcases hcase o l1 h1 with ⟨rfl, rfl⟩ | ⟨h7, h8⟩ <;> rcases hcase o' l2 h2 with ⟨rfl, rfl⟩ | ⟨h9, h10⟩
    · rfl
    · rw [hl] at h5; cases h5
      rcases live_new h4 with h11 | ⟨h11, _⟩
      · have := hblk o' l2 _ h10 h11 h6; omega
      · omega
    · rw [hl] at h6; cases h6
      rcases live_new h3 with h11 | ⟨h11, _⟩
      · have := hblk o l1 _ h8 h11 h5; omega
      · omega
    · rcases live_new h3 with h11 | ⟨h11, _⟩
      · rcases live_new h4 with h12 | ⟨h12, _⟩
        · exact hs.inj o o' l1 l2 b h8 h10 h11 h12 h5 h6
        · omega
      · omega
  · intro o l' b h1 h2 h3
    rcases hcase o l' h1 with ⟨rfl, rfl⟩ | ⟨h4, h5⟩
    · rw [hl] at h3; cases h3
      exact ⟨hs.size, by omega, fun hr => by have := hs.rolt _ hr; omega⟩
    · rcases live_new h2 with h6 | ⟨h6, _⟩
      · have := hs.wr o l' b h5 h6 h3
        exact ⟨this.1, by omega, this.2.2⟩
      · omega
  · intro b hb; have := hs.rolt b hb; omega
  · intro d hd
    have := hs.dfr d hd
    exact ⟨(hold d (Array.getElem?_eq_some_iff.1 this.1).1).trans this.1, this.2⟩
  · intro b hb
    exact (hold b (Nat.lt_of_lt_of_le hb hs.size)).trans (hs.old b hb)
  · have := hs.size; show R.base ≤ _; omega
  · intro b hb ⟨o, l', h1, h2, h3, h4⟩
    rcases hcase o l' h1 with ⟨rfl, rfl⟩ | ⟨h5, h6⟩
    · rw [hl] at h4; cases h4; omega
    · rcases live_new h2 with h7 | ⟨h7, _⟩
      · exact ⟨o, l', h6, h7, h3, h4⟩
      · omega
  · intro o ho hol
    exact .inl (new_old hol)
  · intro b hb ⟨o, l', h1, h2, h4⟩
    rcases hcase o l' h1 with ⟨rfl, rfl⟩ | ⟨h5, h6⟩
    · rw [hl] at h4; cases h4; omega
    · rcases live_new h2 with h7 | ⟨h7, _⟩
      · exact ⟨o, l', h6, h7, h4⟩
      · omega

theorem Sim.push {R : Rl} {st : St} {w : World} (hs : Sim R st w) (ob : LO) (l : Loc) (obj : Obj) (hl : l.block = some w.heap.size) (hnl : ∀ fr ps a b f p s, ob ≠ .loop fr ps a b f p s)
    (hob : ObjRel (upd R.ρ st.L.length l) R.ro R.base (w.alloc obj) ob l) :
    Sim { R with ρ := upd R.ρ st.L.length l } (new st ob) (w.alloc obj) ∧ Ext R { R with ρ := upd R.ρ st.L.length l } w (w.alloc obj) ∧ Wm R { R with ρ := upd R.ρ st.L.length l } st (new st ob) w (w.alloc obj) := by
  obtain ⟨h1, h2, h3⟩ := hs.push0 ob l obj hl hob
  exact ⟨h1, h2, h3.m (fun o a1 a2 a3 a4 a5 a6 a7 h => ⟨a6, a7, (new_old (List.getElem?_eq_some_iff.1 h).1).trans h⟩) (fun o ⟨a1, a2, a3, a4, a5, a6, a7, h⟩ => by
      by_cases ho : o < st.L.length
      · rw [new_old ho] at h; exact ⟨a1, a2, a3, a4, a5, a6, a7, h⟩
      · by_cases ho2 : o = st.L.length
        · subst ho2; rw [new_new] at h; cases h; exact absurd rfl (hnl _ _ _ _ _ _ _)
        · (rw [List.getElem?_eq_none (by simp [new]; omega)] at h; cases h))⟩

theorem live_set {st : St} {ob : LO} {o k : Nat} (h : live { st with L := st.L.set o ob } k) (ho : live st o) : live st k := by
  obtain ⟨x, h1, h2⟩ := h
  simp only [List.getElem?_set] at h1
  split at h1
  · rename_i e; subst e; exact ho
  · exact ⟨x, h1, h2⟩

/-- A live object is written. -/
theorem Sim.write {R : Rl} {st : St} {w w' : World} (hs : Sim R st w) {o b : Nat} {l : Loc} (hρ : R.ρ o = some l) (hlv : live st o) (hlb : l.block = some b) (hlo : st.lo ≤ o) (ob' : LO)
    (hw : ∀ k, k ≠ b → w'.heap[k]? = w.heap[k]?) (hsz : w'.heap.size = w.heap.size) (hos : w'.os = w.os) (htp : w'.tape = w.tape) (hout : w'.output = w.output)
    (hnd : w.heap[b]? ≠ some (.deferred (some []))) (hob : ObjRel R.ρ R.ro R.base w' ob' l) (hl' : ob'.live = true) (hlp : ∀ (fr : List LV) (ps : List Nat) (a b : Code) (f : Nat) (p : Option Code) (s : LoopState), st.L[o]? = some (LO.loop fr ps a b f p s) → ∃ p' s', ({ st with L := st.L.set o ob' } : St).L[o]? = some (LO.loop fr ps a b f p' s')) (hlp' : LoopAt { st with L := st.L.set o ob' } o → LoopAt st o) :
    Sim R { st with L := st.L.set o ob' } w' ∧ Ext R R w w' ∧ Wm R R st { st with L := st.L.set o ob' } w w' := by
  have hb := hs.wr o l b hρ hlv hlb
  have hk : Keeps R.ro w w' := ⟨fun k hk => hw k (fun e => hb.2.2 (e ▸ hk))⟩
  have hol : o < st.L.length := hs.dom o l hρ
  refine ⟨⟨fun k l' h => by simpa using hs.dom k l' h, ?_, ?_, ?_, ?_, ?_, hs.nodup, ?_, ?_, hos.trans hs.os, htp.trans hs.tape, hout.trans hs.output⟩, ⟨fun _ _ h => h, fun _ h => h, hk, rfl, rfl, by omega⟩, ⟨rfl, by simp, ?_, ?_, ?_, fun k a1 a2 a3 a4 a5 a6 a7 h => by
      by_cases hk2 : o = k
      · subst hk2; exact hlp _ _ _ _ _ _ _ h
      · refine ⟨a6, a7, ?_⟩
        show (st.L.set o ob')[k]? = _
        rw [List.getElem?_set, if_neg hk2]; exact h, fun k h => by
      by_cases hk2 : o = k
      · subst hk2; exact hlp' h
      · obtain ⟨a1, a2, a3, a4, a5, a6, a7, h⟩ := h
        refine ⟨a1, a2, a3, a4, a5, a6, a7, ?_⟩
        have h : (st.L.set o ob')[k]? = _ := h
        rw [List.getElem?_set, if_neg hk2] at h; exact h, fun _ _ => rfl, fun _ _ h => .inl h, fun k hk' ⟨o', l', h1, h2, h4⟩ => ⟨o', l', h1, live_set h2 hlv, h4⟩⟩⟩
  · intro k l' x h1 h2
    simp only [List.getElem?_set] at h2
    split at h2
    · rename_i e; subst e
      cases h2
      rw [hρ] at h1; cases h1; exact hob
    · rename_i hne
      refine (hs.obj k l' x h1 h2).keep (fun _ _ h => h) (fun _ h => h) hk ?_ ?_
      · intro hx b' hb'
        refine hw b' (fun e => hne ?_)
        subst e
        exact hs.inj o k l l' b' hρ h1 hlv ⟨x, h2, hx⟩ hlb hb'
      · intro d hd
        rw [hw d (fun e => hnd (e ▸ hd))]; exact hd
  · intro k k' l1 l2 b' h1 h2 h3 h4 h5 h6
    exact hs.inj k k' l1 l2 b' h1 h2 (live_set h3 hlv) (live_set h4 hlv) h5 h6
  · intro k l' b' h1 h2 h3
    have := hs.wr k l' b' h1 (live_set h2 hlv) h3
    exact ⟨this.1, by omega, this.2.2⟩
  · intro k hk'; have := hs.rolt k hk'; omega
  · intro d hd
    have := hs.dfr d hd
    exact ⟨by rw [hw d (fun e => hnd (e ▸ this.1))]; exact this.1, this.2⟩
  · intro k hk'
    rw [hw k (by omega)]; exact hs.old k hk'
  · have := hs.size; omega
  · intro k hk' hn
    exact hw k (fun e => hn ⟨o, l, hρ, hlv, hlo, e ▸ hlb⟩)
  · intro k hk' ⟨o', l', h1, h2, h3, h4⟩
    exact ⟨o', l', h1, live_set h2 hlv, h3, h4⟩
  · intro k hk' _
    left
    show (st.L.set o ob')[k]? = _
    rw [List.getElem?_set, if_neg (by omega)]

/-- A slice's array is written no more. -/
theorem Sim.freeze {R : Rl} {st : St} {w : World} (hs : Sim R st w) {o cap len : Nat} {A : Option Nat} {g : Tag} {t : TL} {ety : Nat} (hρ : R.ρ o = some (.row A cap len g)) (ht : st.L[o]? = some (.arr t ety)) :
    Sim { R with ro := fun b => R.ro b ∨ A = some b } { st with L := st.L.set o (.ro t) } w ∧ Ext R { R with ro := fun b => R.ro b ∨ A = some b } w w ∧
      Wm R { R with ro := fun b => R.ro b ∨ A = some b } st { st with L := st.L.set o (.ro t) } w w ∧ V R.ρ (fun b => R.ro b ∨ A = some b) w (.slv t) (slv_ A len cap) := by
  have hlv : live st o := ⟨_, ht, rfl⟩
  have hol : o < st.L.length := hs.dom o _ hρ
  have hk : Keeps R.ro w w := ⟨fun _ _ => rfl⟩
  have hro : ∀ b, R.ro b → R.ro b ∨ A = some b := fun b h => .inl h
  have hob := hs.obj o _ _ hρ ht
  obtain ⟨hg, hlen, xs, hown, hxs⟩ := hob
  refine ⟨⟨fun k l' h => by simpa using hs.dom k l' h, ?_, ?_, ?_, ?_, ?_, hs.nodup, hs.old, hs.size, hs.os, hs.tape, hs.output⟩, ⟨fun _ _ h => h, hro, hk, rfl, rfl, Nat.le_refl _⟩, ⟨rfl, by simp, fun _ _ _ => rfl, ?_, ?_, fun k a1 a2 a3 a4 a5 a6 a7 h => by
      refine ⟨a6, a7, ?_⟩
      show (st.L.set o (.ro t))[k]? = _
      rw [List.getElem?_set, if_neg (fun e => by subst e; rw [ht] at h; cases h)]; exact h, fun k h => by
      obtain ⟨a1, a2, a3, a4, a5, a6, a7, h⟩ := h
      refine ⟨a1, a2, a3, a4, a5, a6, a7, ?_⟩
      have h : (st.L.set o (.ro t))[k]? = _ := h
      rw [List.getElem?_set] at h
      split at h
      · first | (cases h; done) | (split at h <;> cases h)
      · exact h, fun _ _ => rfl, fun b _ h => h.imp id (fun h => ⟨o, _, hρ, hlv, h⟩), fun k hk' ⟨o', l', h1, h2, h4⟩ => ⟨o', l', h1, live_set h2 hlv, h4⟩⟩, ?_⟩
  · intro k l' x h1 h2
    simp only [List.getElem?_set] at h2
    split at h2
    · rename_i e; subst e
      cases h2
      simp only [hρ] at h1
      cases h1
      exact ⟨hg, hlen, fun b hb => .inr hb, ety, xs, hown, hxs.mono (fun _ _ h => h) hro hk⟩
    · exact (hs.obj k l' x h1 h2).keep (fun _ _ h => h) hro hk (fun _ _ _ => rfl) (fun _ h => h)
  · intro k k' l1 l2 b' h1 h2 h3 h4 h5 h6
    exact hs.inj k k' l1 l2 b' h1 h2 (live_set h3 hlv) (live_set h4 hlv) h5 h6
  · intro k l' b' h1 h2 h3
    have h4 := hs.wr k l' b' h1 (live_set h2 hlv) h3
    refine ⟨h4.1, h4.2.1, fun h => ?_⟩
    rcases h with h | h
    · exact h4.2.2 h
    · have := hs.inj o k _ l' b' hρ h1 hlv (live_set h2 hlv) h h3
      subst this
      obtain ⟨x, h5, h6⟩ := h2
      simp only [List.getElem?_set, hol, if_true] at h5
      cases h5; simp [LO.live] at h6
  · intro b hb
    rcases hb with hb | hb
    · exact hs.rolt b hb
    · exact (hs.wr o _ b hρ hlv hb).2.1
  · intro d hd
    obtain ⟨h1, h2, h3⟩ := hs.dfr d hd
    refine ⟨h1, h2, fun h => h.elim h3 fun hA => ?_⟩
    subst hA
    rcases hown.2 with ⟨h4, _⟩ | ⟨g', cap', cur, h4, _, h5, _⟩
    · simp [slv_] at h4
    · simp [slv_] at h4
      obtain ⟨h4, _⟩ := h4
      subst h4
      rw [h1] at h5; cases h5
  · intro k hk' ⟨o', l', h1, h2, h3, h4⟩
    exact ⟨o', l', h1, live_set h2 hlv, h3, h4⟩
  · intro k hk' _
    by_cases h : o = k
    · subst h; right; exact ⟨t, ety, ht, by simp [hol]⟩
    · left
      show (st.L.set o (.ro t))[k]? = _
      rw [List.getElem?_set, if_neg h]
  · subst hlen
    cases A with
    | none =>
      rcases hown.2 with ⟨h1, h2⟩ | ⟨g', cap', cur, h1, _⟩
      · simp [slv_] at h1
        simp only [slv_, Option.map_none, h1.2, h2]
        exact .slve h2
      · simp [slv_] at h1
    | some b =>
      have hc : t.len ≤ cap := by
        rcases hown.2 with ⟨h1, h2⟩ | ⟨g', cap', cur, h1, _, _, h2, _⟩
        · simp [slv_] at h1
        · simp [slv_] at h1; omega
      exact .slv hc (.inr rfl) (hown.cells (g := b) rfl) hxs.one hxs.vl.1 (fun j lv v h1 h2 => (hxs.vl.2 j lv v h1 h2).mono (fun _ _ h => h) hro hk)
end Gz
