/- Calls by themselves: what is handed back joins the caller's store. -/
import Derived.Test.YtpdomjkgdlineaaBXPure
set_option linter.unusedVariables false
set_option linter.unusedSimpArgs false
set_option linter.unnecessarySimpa false
set_option linter.deprecated false
namespace Gz
open Go

section
variable {P : Program} {C : Cfg} {R : Rl} {st st1 : St} {w w' : World} {vals : List LV}

theorem plain1xsh (n : Nat) (v : LV) : plain1 (shOne n v) = plain1 v := by cases v <;> rfl
theorem plainV_sh (n : Nat) (v : LV) : plainV (shV n v) = plainV v := by
  cases v
  case ag cs => simp only [shV, plainV, List.all_map]; congr 1; funext x; exact plain1xsh n x
  all_goals rfl
theorem plain_sh (n : Nat) (v : LV) : plain (shift n v) = plain v := by
  cases v
  case tu cs => simp only [shift, plain, List.all_map]; congr 1; funext x; exact plainV_sh n x
  case ag cs => exact plainV_sh n (.ag cs)
  all_goals rfl

def joinL (L : List LO) (ts : List (TL × Nat)) : List LO := L ++ ts.map fun p => .arr p.1 p.2

theorem ObjRel.base_mono {ρ : Rho} {ro : Nat → Prop} {b b' : Nat} {w : World} {t : TL} {e : Nat} {l : Loc} (h : ObjRel ρ ro b' w (.arr t e) l) (hb : b ≤ b') : ObjRel ρ ro b w (.arr t e) l := by
  cases l <;> simp only [ObjRel] at h ⊢
  obtain ⟨h1, h2, xs, h3, h4⟩ := h
  refine ⟨h1, h2, xs, ⟨h3.1, ?_⟩, h4⟩
  rcases h3.2 with h5 | ⟨g, cap, cur, h5, h6, h7⟩
  · exact .inl h5
  · exact .inr ⟨g, cap, cur, h5, Nat.le_trans hb h6, h7⟩

theorem Sim.join {R' : Rl} (hb : Sim R st w) (h1 : Sim R' st1 w') (hbase : R'.base = w.heap.size) (hw0 : R'.w0 = w) {ts : List (TL × Nat)} {os : List Nat} {ls : List Loc} (hO : OutInv R' st1 w' (ts, os) ls) (ro : Nat → Prop)
    (hro1 : ∀ b, R.ro b → ro b) (hro2 : ∀ b, ro b → b < w.heap.size → R.ro b) (hro3 : ∀ b, ro b → b < w'.heap.size) (hro4 : ∀ (i : Nat) (l : Loc) (b : Nat), ls[i]? = some l → l.block = some b → ¬ ro b)
    (ρ2 : Rho) (hρ1 : ∀ o, o < st.L.length → ρ2 o = R.ρ o) (hρ2 : ∀ i, ρ2 (st.L.length + i) = ls[i]?)
    (hts : ∀ (i : Nat) (t : TL) (e : Nat) (l : Loc), ts[i]? = some (t, e) → ls[i]? = some l → ObjRel ρ2 ro R.base w' (.arr t e) l) :
    Sim { R with ρ := ρ2, ro := ro } { st with L := joinL st.L ts } w' ∧ Ext R { R with ρ := ρ2, ro := ro } w w' ∧ Wm R { R with ρ := ρ2, ro := ro } st { st with L := joinL st.L ts } w w' := by
  have hsz : w.heap.size ≤ w'.heap.size := by rw [← hbase]; exact h1.size
  have hold : ∀ b, b < w.heap.size → w'.heap[b]? = w.heap[b]? := fun b hb => by rw [← hw0]; exact h1.old b (by rw [hbase]; exact hb)
  have hρ0 : ∀ o l, R.ρ o = some l → ρ2 o = some l := fun o l h => (hρ1 o (hb.dom o l h)).trans h
  have hcase : ∀ o l, ρ2 o = some l → (o < st.L.length ∧ R.ρ o = some l) ∨ (∃ i, o = st.L.length + i ∧ ls[i]? = some l) := by
    intro o l h
    by_cases ho : o < st.L.length
    · rw [hρ1 o ho] at h; exact .inl ⟨ho, h⟩
    · refine .inr ⟨o - st.L.length, by omega, ?_⟩
      rw [← hρ2, show st.L.length + (o - st.L.length) = o by omega]; exact h
  have hLo : ∀ o, o < st.L.length → (joinL st.L ts)[o]? = st.L[o]? := fun o ho => List.getElem?_append_left ho
  have hLn : ∀ i, (joinL st.L ts)[st.L.length + i]? = (ts[i]?).map fun p => .arr p.1 p.2 := fun i => by
    unfold joinL; rw [List.getElem?_append_right (by omega)]; simp
  have hlive : ∀ o, o < st.L.length → live { st with L := joinL st.L ts } o → live st o := fun o ho ⟨x, h1, h2⟩ => ⟨x, (hLo o ho).symm.trans h1, h2⟩
  have hnew : ∀ (i : Nat) (l : Loc) (b : Nat), ls[i]? = some l → l.block = some b → w.heap.size ≤ b ∧ b < w'.heap.size := by
    intro i l b h2 h3
    obtain ⟨o, _, h4, h5⟩ := hO.own i l b h2 h3
    have := h1.wr o l b h4 h5 h3
    rw [hbase] at this
    exact ⟨this.1, this.2.1⟩
  have hk : Keeps R.ro w w' := ⟨fun b h => hold b (hb.rolt b h)⟩
  have hblk : ∀ (o : Nat) (l : Loc) (b : Nat), R.ρ o = some l → live st o → l.block = some b → b < w.heap.size := fun o l b a1 a2 a3 => (hb.wr o l b a1 a2 a3).2.1
  refine ⟨⟨?_, ?_, ?_, ?_, hro3, ?_, hb.nodup, ?_, Nat.le_trans hb.size hsz, ?_, ?_, ?_⟩, ⟨hρ0, hro1, hk, rfl, rfl, hsz⟩, ⟨rfl, by simp [joinL], fun b hb _ => hold b hb, ?_, fun o _ ho => .inl (hLo o ho), fun o a1 a2 a3 a4 a5 a6 a7 h => ⟨a6, a7, (hLo o (List.getElem?_eq_some_iff.1 h).1).trans h⟩, ?_, hρ1, fun b hb h => .inl (hro2 b h hb), ?_⟩⟩
  · intro o l h
    rcases hcase o l h with ⟨h2, _⟩ | ⟨i, rfl, h2⟩
    · simp [joinL]; omega
    · have := (List.getElem?_eq_some_iff.1 h2).1
      rw [hO.len] at this
      simp [joinL]; exact this
  · intro o l ob h2 h3
    rcases hcase o l h2 with ⟨h4, h5⟩ | ⟨i, rfl, h5⟩
    · have h3 : (joinL st.L ts)[o]? = some ob := h3
      rw [hLo o h4] at h3
      exact (hb.obj o l ob h5 h3).keep hρ0 hro1 hk (fun hx b h6 => hold b (hblk o l b h5 ⟨_, h3, hx⟩ h6)) (fun d hd => (hold d (Array.getElem?_eq_some_iff.1 hd).1).trans hd)
    · have h3 : (joinL st.L ts)[st.L.length + i]? = some ob := h3
      rw [hLn] at h3
      cases hq : ts[i]? with
      | none => rw [hq] at h3; cases h3
      | some p => rw [hq] at h3; cases h3; exact hts i p.1 p.2 l hq h5
  · intro o o' l l' b h2 h3 h4 h5 h6 h7
    rcases hcase o l h2 with ⟨h8, h9⟩ | ⟨i, rfl, h9⟩ <;> rcases hcase o' l' h3 with ⟨h10, h11⟩ | ⟨i', rfl, h11⟩
    · exact hb.inj o o' l l' b h9 h11 (hlive o h8 h4) (hlive o' h10 h5) h6 h7
    · have := hblk o l b h9 (hlive o h8 h4) h6; have := (hnew i' l' b h11 h7).1; omega
    · have := hblk o' l' b h11 (hlive o' h10 h5) h7; have := (hnew i l b h9 h6).1; omega
    · rw [hO.inj i i' l l' b h9 h11 h6 h7]
  · intro o l b h2 h3 h4
    rcases hcase o l h2 with ⟨h5, h6⟩ | ⟨i, rfl, h6⟩
    · have := hb.wr o l b h6 (hlive o h5 h3) h4
      exact ⟨this.1, by omega, fun h => this.2.2 (hro2 b h this.2.1)⟩
    · have := hnew i l b h6 h4
      exact ⟨Nat.le_trans hb.size this.1, this.2, hro4 i l b h6 h4⟩
  · intro d hd
    obtain ⟨h2, h3, h4⟩ := hb.dfr d hd
    have hd' := (Array.getElem?_eq_some_iff.1 h2).1
    exact ⟨(hold d hd').trans h2, h3, fun h => h4 (hro2 d h hd')⟩
  · intro b h2
    exact (hold b (Nat.lt_of_lt_of_le h2 hb.size)).trans (hb.old b h2)
  · rw [h1.os, hw0]; exact hb.os
  · rw [h1.tape, hw0]; exact hb.tape
  · rw [h1.output, hw0]; exact hb.output
  · intro b hb' ⟨o, l, h2, h3, h4, h5⟩
    rcases hcase o l h2 with ⟨h6, h7⟩ | ⟨i, rfl, h7⟩
    · exact ⟨o, l, h7, hlive o h6 h3, h4, h5⟩
    · have := (hnew i l b h7 h5).1; omega
  · intro o ⟨a1, a2, a3, a4, a5, a6, a7, h⟩
    have h : (joinL st.L ts)[o]? = _ := h
    by_cases ho : o < st.L.length
    · rw [hLo o ho] at h; exact ⟨a1, a2, a3, a4, a5, a6, a7, h⟩
    · rw [show o = st.L.length + (o - st.L.length) by omega, hLn] at h
      cases hq : ts[o - st.L.length]? with
      | none => rw [hq] at h; cases h
      | some p => rw [hq] at h; cases h
  · intro b hb' ⟨o, l, h2, h3, h5⟩
    rcases hcase o l h2 with ⟨h6, h7⟩ | ⟨i, rfl, h7⟩
    · exact ⟨o, l, h7, hlive o h6 h3, h5⟩
    · have := (hnew i l b h7 h5).1; omega

theorem frzV_sound {v : LV} {u : Value} (hs : Sim R st w) (hv : VR R w v u) : ∃ R', Sim R' (frzV st v).2 w ∧ Ext R R' w w ∧ Wm R R' st (frzV st v).2 w w ∧ VR R' w (frzV st v).1 u ∧ R'.D = R.D ∧ R'.ρ = R.ρ := by
  cases v
  case ag cs =>
    obtain ⟨us, rfl, hc⟩ := V.ag_inv hv
    obtain ⟨R', h1, h2, h3, h4, h5, h6⟩ := frzL_sound hs hc.vl
    exact ⟨R', h1, h2, h3, .ag hc.one h4.1 h4.2, h5, h6⟩
  all_goals exact frz_sound hs hv

theorem frzVs_sound : ∀ {cs : List LV} {R : Rl} {st : St} {us : List Value}, Sim R st w → VLR R w cs us →
    ∃ R', Sim R' (frzVs st cs).2 w ∧ Ext R R' w w ∧ Wm R R' st (frzVs st cs).2 w w ∧ VLR R' w (frzVs st cs).1 us ∧ R'.D = R.D ∧ R'.ρ = R.ρ
  | [], R, st, us, hs, hv => ⟨R, hs, Ext.refl R w, Wm.refl R st w, hv, rfl, rfl⟩
  | v :: cs, R, st, us, hs, hv => by
    obtain ⟨u, us', rfl, h1, h2⟩ := hv.of_cons
    obtain ⟨R1, a1, a2, a3, a4, a5, a6⟩ := frzV_sound hs h1
    obtain ⟨R2, b1, b2, b3, b4, b5, b6⟩ := frzVs_sound a1 (VL.ext h2 a2)
    exact ⟨R2, b1, a2.trans b2, a3.trans (Nat.le_refl _) b3, VL.cons (V.ext a4 b2) b4, b5.trans a5, b6.trans a6⟩

theorem nrm1xV {ρ : Rho} {ro : Nat → Prop} {w : World} {v : LV} {u : Value} (h : V ρ ro w v u) : V ρ ro w (nrm1 v) u := by
  cases v
  case slnil g => cases h; exact .slve rfl
  all_goals exact h
theorem nrm_V {ρ : Rho} {ro : Nat → Prop} {w : World} {v : LV} {u : Value} (h : V ρ ro w v u) : V ρ ro w (nrm v) u := by
  cases v
  case ag cs =>
    obtain ⟨us, rfl, hc⟩ := V.ag_inv h
    refine .ag hc.one (by simp [hc.vl.1]) fun j lv v h1 h2 => ?_
    rw [List.getElem?_map, Option.map_eq_some_iff] at h1
    obtain ⟨a, h1, rfl⟩ := h1
    exact nrm1xV (hc.vl.2 j a v h1 h2)
  all_goals exact nrm1xV h
theorem nrm_VL {ρ : Rho} {ro : Nat → Prop} {w : World} {l : List LV} {us : List Value} (h : VL ρ ro w l us) : VL ρ ro w (l.map nrm) us := by
  refine ⟨by simp [h.1], fun j lv v h1 h2 => ?_⟩
  rw [List.getElem?_map, Option.map_eq_some_iff] at h1
  obtain ⟨a, h1, rfl⟩ := h1
  exact nrm_V (h.2 j a v h1 h2)

/-- What a function by itself comes to. -/
def PureOK (P : Program) (C : Cfg) (k : Nat) (m : List LV) (res : Res) : Prop :=
  ∃ f body x fr1 st1 v0, C.fn k = some f ∧ f.body = some body ∧ CodeOK P body k (m ++ List.replicate (f.ntmps - m.length) .u) ⟨[], 0⟩ x fr1 st1 ∧ (x = .r ∨ x = .n) ∧ resVals C f fr1 st1 = some v0 ∧ res = out C st1 v0

theorem pure_gen {m : List LV} (hm : ∀ (ρ : Rho) (ro : Nat → Prop) (w : World) (us : List Value), VL ρ ro w (frzVs st vals).1 us → VL ρ ro w m us) {k : Nat} {f : Func} {body : Code} {caps args fr1 : List LV} {x : X} {v0 : LV} (hC : CfgOK P C) (hf : C.fn k = some f) (hb : f.body = some body) (hva : normArgs C f.params.toList (args ++ caps) = some vals)
    (hclo : (frzVs st vals).1.all clo = true) (h : CodeOK P body k (m ++ List.replicate (f.ntmps - m.length) .u) ⟨[], 0⟩ x fr1 st1) (hx : x = .r ∨ x = .n) (hv : resVals C f fr1 st1 = some v0) :
    CallOK P (.fn k caps) args st (shift (if (plain (out C st1 v0).1 && (out C st1 v0).2.all fun p => flatTag p.1.g) = true then st else (frzVs st vals).2).L.length (out C st1 v0).1)
      { (if (plain (out C st1 v0).1 && (out C st1 v0).2.all fun p => flatTag p.1.g) = true then st else (frzVs st vals).2) with L := joinL (if (plain (out C st1 v0).1 && (out C st1 v0).2.all fun p => flatTag p.1.g) = true then st else (frzVs st vals).2).L (out C st1 v0).2 } := by
  intro R w fv av c cs hs hfv hav
  obtain ⟨b, tm, e1, e2, e3, e4, e5, us, e6, e7⟩ := enter_ok hC hf hb hfv hav hva
  obtain ⟨R2, a1, a2, a3, a4, a5, a6⟩ := frzVs_sound hs e6
  let R0 : Rl := { ρ := fun _ => none, ro := R2.ro, D := [], base := w.heap.size, w0 := w }
  have hn0 : ∀ o l, R0.ρ o = some l → False := fun _ _ h => by cases h
  have hs0 : Sim R0 ⟨[], 0⟩ w := ⟨fun o l h => (hn0 _ _ h).elim, fun o l ob h => (hn0 _ _ h).elim, fun o o' l l' b h => (hn0 _ _ h).elim, fun o l b h => (hn0 _ _ h).elim, a1.rolt, fun d h => absurd h (List.not_mem_nil), List.nodup_nil, fun _ _ => rfl, Nat.le_refl _, rfl, rfl, rfl⟩
  have hfr : VLR R0 w (m ++ List.replicate (f.ntmps - m.length) .u) tm.toList := by
    have h0 := hm _ _ _ _ (VL.clo (ρ' := R0.ρ) a4 hclo)
    rw [e7, h0.1]
    exact h0.append (VL.replicate_u _ _)
  have h1 := h R0 w tm b [] [] (c :: cs) e1 hs0 hfr (fun l hl => by rw [e2] at hl; cases hl)
  obtain ⟨R', w', u, b1, b2, b3, b4, b5, b6⟩ := leave_ok hC hf e1 e2 e3 hs0 h1 hx hv
  refine ⟨_, _, e4, e5, ?_⟩
  obtain ⟨ls, c1, c2⟩ := out2xsound (C := C) b3 b2
  have hout1 : (out C st1 v0).1 = (out2 C st1 v0).1 := rfl
  have hout2 : (out C st1 v0).2 = (out2 C st1 v0).2.1 := rfl
  generalize hq : out2 C st1 v0 = q at c1 c2 hout1 hout2
  obtain ⟨v, ts, os⟩ := q
  rw [hout1, hout2]
  simp only
  have hroNew : ∀ b, R'.ro b → b < w.heap.size → R2.ro b := fun b h h2 => (b5.rof b h2 h).elim id (fun ⟨o, l, h3, _⟩ => by cases h3)
  have hnro : ∀ (i : Nat) (l : Loc) (b : Nat), ls[i]? = some l → l.block = some b → ¬ R'.ro b ∧ w.heap.size ≤ b := by
    intro i l b h2 h3
    obtain ⟨o, _, h4, h5⟩ := c1.own i l b h2 h3
    have := b3.wr o l b h4 h5 h3
    exact ⟨this.2.2, by have h6 := this.1; rw [b4.base] at h6; exact h6⟩
  split
  · rename_i hp
    rw [Bool.and_eq_true] at hp
    obtain ⟨hp1, hp2⟩ := hp
    let ρ2 : Rho := fun o => if o < st.L.length then R.ρ o else ls[o - st.L.length]?
    have hr2 : ∀ i, ρ2 (st.L.length + i) = ls[i]? := fun i => by simp only [ρ2]; rw [if_neg (by omega), Nat.add_sub_cancel_left]
    obtain ⟨d1, d2, d3⟩ := hs.join (w' := w') b3 (by rw [b4.base]) (by rw [b4.w0]) c1 R.ro (fun _ h => h) (fun _ h _ => h) (fun b h => Nat.lt_of_lt_of_le (hs.rolt b h) b4.size)
      (fun i l b h2 h3 h4 => by have := (hnro i l b h2 h3).2; have := hs.rolt b h4; omega) ρ2 (fun o ho => by simp [ρ2, ho]) hr2 (fun i t e l h2 h3 => by
        have h4 := (c1.obj i t e l h2 h3).base_mono (b := R.base) (by rw [b4.base]; exact hs.size)
        cases l <;> simp only [ObjRel] at h4 ⊢
        obtain ⟨g1, g2, xs, g3, g4⟩ := h4
        exact ⟨g1, g2, xs, g3, g4.flat_any (List.all_eq_true.1 hp2 (t, e) (List.mem_of_getElem? h2))⟩)
    exact ⟨_, w', u, b1, plain_V (c2 st.L.length ρ2 (fun i l h => by rw [hr2]; exact h)) (by rw [plain_sh]; exact hp1) (fun _ _ h => h), d1, d2, d3, rfl⟩
  · let ρ2 : Rho := fun o => if o < (frzVs st vals).2.L.length then R2.ρ o else ls[o - (frzVs st vals).2.L.length]?
    have hr2 : ∀ i, ρ2 ((frzVs st vals).2.L.length + i) = ls[i]? := fun i => by simp only [ρ2]; rw [if_neg (by omega), Nat.add_sub_cancel_left]
    obtain ⟨d1, d2, d3⟩ := a1.join (w' := w') b3 (by rw [b4.base]) (by rw [b4.w0]) c1 R'.ro b4.ro hroNew b3.rolt (fun i l b h2 h3 => (hnro i l b h2 h3).1) ρ2 (fun o ho => by simp [ρ2, ho]) hr2 (fun i t e l h2 h3 => by
        have h4 := (c1.obj i t e l h2 h3).base_mono (b := R2.base) (by rw [b4.base]; exact a1.size)
        cases l <;> simp only [ObjRel] at h4 ⊢
        obtain ⟨g1, g2, xs, g3, g4⟩ := h4
        exact ⟨g1, g2, xs, g3, g4.flat_ρ⟩)
    exact ⟨_, w', u, b1, c2 _ ρ2 (fun i l h => by rw [hr2]; exact h), d1, a2.trans d2, a3.trans (Nat.le_refl _) d3, a5⟩

theorem pure_ok {k : Nat} {f : Func} {body : Code} {caps args fr1 : List LV} {x : X} {v0 : LV} (hC : CfgOK P C) (hf : C.fn k = some f) (hb : f.body = some body) (hva : normArgs C f.params.toList (args ++ caps) = some vals)
    (hclo : (frzVs st vals).1.all clo = true) (h : CodeOK P body k ((frzVs st vals).1 ++ List.replicate (f.ntmps - (frzVs st vals).1.length) .u) ⟨[], 0⟩ x fr1 st1) (hx : x = .r ∨ x = .n) (hv : resVals C f fr1 st1 = some v0) :
    CallOK P (.fn k caps) args st (shift (if (plain (out C st1 v0).1 && (out C st1 v0).2.all fun p => flatTag p.1.g) = true then st else (frzVs st vals).2).L.length (out C st1 v0).1)
      { (if (plain (out C st1 v0).1 && (out C st1 v0).2.all fun p => flatTag p.1.g) = true then st else (frzVs st vals).2) with L := joinL (if (plain (out C st1 v0).1 && (out C st1 v0).2.all fun p => flatTag p.1.g) = true then st else (frzVs st vals).2).L (out C st1 v0).2 } :=
  pure_gen (fun _ _ _ _ h => h) hC hf hb hva hclo h hx hv

theorem pure_spec {k : Nat} {f : Func} {caps args : List LV} {res : Res} (hC : CfgOK P C) (hf : C.fn k = some f) (hva : normArgs C f.params.toList (args ++ caps) = some vals)
    (hclo : (frzVs st vals).1.all clo = true) (h : PureOK P C k ((frzVs st vals).1.map nrm) res) :
    CallOK P (.fn k caps) args st (shift (if (plain res.1 && res.2.all fun p => flatTag p.1.g) = true then st else (frzVs st vals).2).L.length res.1)
      { (if (plain res.1 && res.2.all fun p => flatTag p.1.g) = true then st else (frzVs st vals).2) with L := joinL (if (plain res.1 && res.2.all fun p => flatTag p.1.g) = true then st else (frzVs st vals).2).L res.2 } := by
  obtain ⟨f', body, x, fr1, st1, v0, h1, h2, h3, h4, h5, rfl⟩ := h
  rw [hf] at h1; cases h1
  exact pure_gen (fun _ _ _ _ h => nrm_VL h) hC hf h2 hva hclo h3 h4 h5
end
end Gz
