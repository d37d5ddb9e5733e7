/- A loop over a function. -/
import Derived.Test.YtpdomjkgdlineaaBXRound
set_option linter.unusedVariables false
set_option linter.unusedSimpArgs false
set_option linter.unnecessarySimpa false
set_option linter.deprecated false
namespace Gz
open Go

section
variable {P : Program} {C : Cfg} {R : Rl} {st st1 st2 : St} {w : World}

theorem alloc_at (w : World) (o : Obj) : (w.alloc o).heap[w.heap.size]? = some o := Array.getElem?_push_size ..

/-- A block for deferred calls. -/
theorem Sim.dpush (hs : Sim R st w) : Sim { R with D := w.heap.size :: R.D } st (w.alloc (.deferred (some []))) ∧ Ext R { R with D := w.heap.size :: R.D } w (w.alloc (.deferred (some []))) ∧ Wm R { R with D := w.heap.size :: R.D } st st w (w.alloc (.deferred (some []))) := by
  have hsz : (w.alloc (.deferred (some []))).heap.size = w.heap.size + 1 := Array.size_push _
  have hold : ∀ b, b < w.heap.size → (w.alloc (.deferred (some []))).heap[b]? = w.heap[b]? := fun b hb => heap_push_old w _ hb
  have hk : Keeps R.ro w (w.alloc (.deferred (some []))) := ⟨fun b hb => hold b (hs.rolt b hb)⟩
  refine ⟨⟨hs.dom, ?_, hs.inj, fun o l b a1 a2 a3 => (hs.wr o l b a1 a2 a3).imp id (fun h => h.imp (fun h => by omega) id), fun b hb => by have := hs.rolt b hb; omega, ?_, ?_, ?_, by have := hs.size; show R.base ≤ _; omega, hs.os, hs.tape, hs.output⟩, ⟨fun _ _ h => h, fun _ h => h, hk, rfl, rfl, by omega⟩,
    ⟨rfl, Nat.le_refl _, fun b hb _ => hold b hb, fun _ _ h => h, fun _ _ _ => .inl rfl, fun _ _ _ _ _ _ _ _ h => ⟨_, _, h⟩, fun _ h => h, fun _ _ => rfl, fun _ _ h => .inl h, fun _ _ h => h⟩⟩
  · intro o l ob a1 a2
    exact (hs.obj o l ob a1 a2).keep (fun _ _ h => h) (fun _ h => h) hk (fun hx b hb => hold b (hs.wr o l b a1 ⟨_, a2, hx⟩ hb).2.1) (fun d hd => (hold d (Array.getElem?_eq_some_iff.1 hd).1).trans hd)
  · intro d hd
    rcases List.mem_cons.1 hd with rfl | hd
    · exact ⟨alloc_at _ _, hs.size, fun h => by have := hs.rolt _ h; omega⟩
    · obtain ⟨h1, h2, h3⟩ := hs.dfr d hd
      exact ⟨(hold d (Array.getElem?_eq_some_iff.1 h1).1).trans h1, h2, h3⟩
  · refine List.nodup_cons.2 ⟨fun h => ?_, hs.nodup⟩
    have := (Array.getElem?_eq_some_iff.1 (hs.dfr _ h).1).1
    omega
  · intro b hb
    exact (hold b (Nat.lt_of_lt_of_le hb hs.size)).trans (hs.old b hb)

/-- A new loop's record. -/
theorem Sim.lpush {fr : List LV} {tm : Array Value} {ps : List Nat} {asg body : Code} {fid d : Nat} (hs : Sim R st w) (hf : VLR R w fr tm.toList) (hd : w.heap[d]? = some (.deferred (some []))) :
    ∃ R', R'.ρ st.L.length = some (.lp w.heap.size d tm) ∧ R'.D = R.D ∧ Sim R' (new st (.loop fr ps asg body fid none .ready)) (w.alloc (.loop (recOf ps asg body fid none .ready d tm))) ∧ Ext R R' w (w.alloc (.loop (recOf ps asg body fid none .ready d tm))) ∧
      Wn R R' st (new st (.loop fr ps asg body fid none .ready)) w (w.alloc (.loop (recOf ps asg body fid none .ready d tm))) := by
  refine ⟨{ R with ρ := upd R.ρ st.L.length (.lp w.heap.size d tm) }, by simp [upd], rfl, hs.push0 _ _ _ rfl ?_⟩
  have hρ : ∀ o l', R.ρ o = some l' → upd R.ρ st.L.length (.lp w.heap.size d tm) o = some l' := by
    intro o l' h
    have := hs.dom o l' h
    simp only [upd]; rw [if_neg (by omega)]; exact h
  refine ⟨alloc_at _ _, VL.mono hf hρ (fun _ h => h) ⟨fun b hb => heap_push_old w _ (hs.rolt b hb)⟩, ?_⟩
  rw [heap_push_old w _ (Array.getElem?_eq_some_iff.1 hd).1]; exact hd

/-- An object that is gone. -/
theorem Sim.kill {o : Nat} (hs : Sim R st w) (hlo : st.lo ≤ o) : Sim R { st with L := st.L.set o .dead } w ∧ Wn R R st { st with L := st.L.set o .dead } w w := by
  have hlv : ∀ k, live { st with L := st.L.set o .dead } k → live st k := by
    intro k ⟨x, h1, h2⟩
    simp only [List.getElem?_set] at h1
    split at h1
    · split at h1 <;> cases h1; simp [LO.live] at h2
    · exact ⟨x, h1, h2⟩
  refine ⟨⟨fun k l h => by simpa using hs.dom k l h, ?_, fun k k' l l' b a1 a2 a3 a4 => hs.inj k k' l l' b a1 a2 (hlv k a3) (hlv k' a4), fun k l b a1 a2 => hs.wr k l b a1 (hlv k a2), hs.rolt, hs.dfr, hs.nodup, hs.old, hs.size, hs.os, hs.tape, hs.output⟩,
    ⟨rfl, by simp, fun _ _ _ => rfl, fun b hb ⟨o', l, a1, a2, a3, a4⟩ => ⟨o', l, a1, hlv o' a2, a3, a4⟩, fun k hk _ => .inl (by show (st.L.set o .dead)[k]? = _; rw [List.getElem?_set, if_neg (by omega)]), fun _ _ => rfl, fun _ _ h => .inl h, fun b hb ⟨o', l, a1, a2, a4⟩ => ⟨o', l, a1, hlv o' a2, a4⟩⟩⟩
  intro k l ob a1 a2
  simp only [List.getElem?_set] at a2
  split at a2
  · split at a2 <;> cases a2; exact ObjRel.dead l
  · exact hs.obj k l ob a1 a2

/-- The loop, till what is left to be done behind it. -/
theorem range_ok {fid : Nat} {fr fr' : List LV} {f : Operand} {params : Array Tmp} {asg body : Code} {x : X} {v : LV} {fr0 : List LV} {ps : List Nat} {a0 b0 : Code} {f0 : Nat} {pend : Option Code} {s : LoopState} {st' : St} (hlo : st.lo ≤ st.L.length)
    (hc : CallOK P (val C fr f) [.yl st.L.length] (new st (.loop fr params.toList asg body fid none .ready)) v st1) (hl : st1.L[st.L.length]? = some (.loop fr0 ps a0 b0 f0 pend s)) (hs : s ≠ .busy)
    (h : (pend = none ∧ x = .n ∧ fr' = fr ∧ st' = { st1 with L := st1.L.set st.L.length .dead }) ∨ ∃ j, pend = some j ∧ CodeOK P j fid fr { st1 with L := st1.L.set st.L.length .dead } x fr' st') : CodeOK P (.rangeFunc f params asg body) fid fr st x fr' st' := by
  intro R w tm b df k cs hb hs0 hf hr
  -- the record
  have hpush : ∃ R1 w1 bl d mk ds, (Instr.enterLoop b.fn tm params asg body b.roundOf).run P w = .ok (bl, mk) w1 ∧ R1.ρ st.L.length = some (.lp bl d tm) ∧ mk = ds.map mark ∧ R1.D = ds ++ R.D ∧ (b.roundOf.isSome = true → ds = []) ∧ (∀ d, d ∈ ds → w.heap.size ≤ d) ∧
      Sim R1 (new st (.loop fr params.toList asg body fid none .ready)) w1 ∧ Ext R R1 w w1 ∧ Wn R R1 st (new st (.loop fr params.toList asg body fid none .ready)) w w1 := by
    subst hb
    cases hro : b.roundOf with
    | none =>
      obtain ⟨a1, a2, a3⟩ := hs0.dpush
      have hsz : (w.alloc (.deferred (some []))).heap.size = w.heap.size + 1 := Array.size_push _
      obtain ⟨R1, b1, b2, b3, b4, b5⟩ := a1.lpush (fr := fr) (tm := tm) (ps := params.toList) (asg := asg) (body := body) (fid := b.fn) (d := w.heap.size) (hf.ext a2) (alloc_at _ _)
      refine ⟨R1, _, w.heap.size + 1, w.heap.size, _, [w.heap.size], run_enterLoop b.fn tm, by rw [b1, hsz], rfl, by rw [b2]; rfl, by simp, by simp, b3, a2.trans b4, a3.n.trans a2.size b5⟩
    | some l0 =>
      obtain ⟨o, d, tm0, c1, fr1, ps1, e1, e2, e3, e4, e5, c2⟩ := hr l0 hro
      obtain ⟨d1, d2, d3⟩ := hs0.loopObj c1 c2
      obtain ⟨R1, b1, b2, b3, b4, b5⟩ := hs0.lpush (fr := fr) (tm := tm) (ps := params.toList) (asg := asg) (body := body) (fid := b.fn) (d := d) hf d3
      exact ⟨R1, _, w.heap.size, d, _, [], run_enterLoop_in b.fn tm d1, b1, rfl, by rw [b2]; rfl, by simp, by simp, b3, b4, b5⟩
  obtain ⟨R1, w1, bl, d, mk, ds, p1, p2, rfl, p4, p5, p6, p7, p8, p9⟩ := hpush
  -- the call
  have hy : VLR R1 w1 [.yl st.L.length] (#[Value.func (.yield bl) #[] #[]]).toList := VL.cons (.yl p2) VL.nil
  obtain ⟨nx, f1, q1, q2, R2, w2, u, q3, q4, q5, q6, q7, q8⟩ := hc R1 w1 (evalT tm f) #[.func (.yield bl) #[] #[]] (fa b tm (ds.map mark ++ df) (.inRangeFunc bl :: k)) cs p7 ((val_V hf f).ext p8) hy
  -- its end
  obtain ⟨p0, s0, hl'⟩ := q7.lp st.L.length fr params.toList asg body fid none .ready (new_new _ _)
  have hj := hl.symm.trans hl'
  injection hj with hj
  injection hj with _ _ _ _ _ j6 j7
  subst j6; subst j7
  replace hl := hl'
  have hρ2 := q6.ρ _ _ p2
  obtain ⟨r1, r2, r3⟩ := q5.loopObj hρ2 hl
  have hlo1 : st1.lo ≤ st.L.length := by rw [q7.lo]; exact hlo
  obtain ⟨w3, hw3, t1, t2, t3⟩ := q5.loopSet hρ2 hl hlo1 pend .exhausted
  obtain ⟨t4, t5⟩ := t1.kill (o := st.L.length) hlo1
  simp only [List.set_set] at t4 t5
  have hsteps : Steps P (lone (fa b tm df (.code (.rangeFunc f params asg body) :: k)) cs w) (lone (fa b tm (ds.map mark ++ df) ((pend.map Item.code).toList ++ k)) cs w3) := by
    refine .head (st_rangeFunc p1 q1 q2) ?_
    rw [fa_finish_range] at q3
    refine q3.trans (.one ?_)
    rw [hw3]
    exact st_endRange r1 hs
  have hE : Ext R R2 w w3 := p8.trans (q6.trans t2)
  have hN : Wn R R2 st { st1 with L := st1.L.set st.L.length .dead } w w3 := p9.trans p8.size ((q7.n.trans q6.size (t3.n.trans t2.size t5)))
  have hM : Wm R R2 st { st1 with L := st1.L.set st.L.length .dead } w w3 := by
    refine hN.m ?_ ?_
    · intro o a1 a2 a3 a4 a5 a6 a7 ho
      have hol := (List.getElem?_eq_some_iff.1 ho).1
      obtain ⟨p', s', h2⟩ := q7.lp o a1 a2 a3 a4 a5 a6 a7 (by rw [new_old hol]; exact ho)
      refine ⟨p', s', ?_⟩
      show (st1.L.set st.L.length .dead)[o]? = _
      rw [List.getElem?_set, if_neg (by omega)]; exact h2
    · intro o ⟨a1, a2, a3, a4, a5, a6, a7, ho⟩
      have ho : (st1.L.set st.L.length .dead)[o]? = _ := ho
      rw [List.getElem?_set] at ho
      split at ho
      · split at ho <;> cases ho
      · rename_i hne
        obtain ⟨b1, b2, b3, b4, b5, b6, b7, h2⟩ := q7.nl o ⟨_, _, _, _, _, _, _, ho⟩
        have h3 : o < st.L.length := by
          have := (List.getElem?_eq_some_iff.1 h2).1
          simp [new] at this
          omega
        rw [new_old h3] at h2
        exact ⟨_, _, _, _, _, _, _, h2⟩
  refine .then hr (k1 := (pend.map Item.code).toList ++ k) (fr1 := fr) (st1 := { st1 with L := st1.L.set st.L.length .dead }) ⟨R2, w3, tm, ds, hsteps, t4, hf.ext hE, hE, hM, by rw [q8, p4], p5, p6⟩ ?_
  intro R4 w4 tm4 df4 s4 f4 r4
  rcases h with ⟨rfl, rfl, rfl, rfl⟩ | ⟨j, rfl, h⟩
  · exact .nothing (show Arr P _ b k cs .n tm4 df4 w4 from .refl _ _) s4 f4
  · exact h R4 w4 tm4 b df4 k cs hb s4 f4 r4
end
end Gz
