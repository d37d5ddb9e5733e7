/- Rounds of a loop over a function. -/
import Derived.Test.YtpdomjkgdlineaaBXCall2
set_option linter.unusedVariables false
set_option linter.unusedSimpArgs false
set_option linter.unnecessarySimpa false
set_option linter.deprecated false
namespace Gz
open Go

section
variable {P : Program} {C : Cfg} {R : Rl} {st st1 st2 : St} {w : World}

def recOf (ps : List Nat) (asg body : Code) (fid : Nat) (p : Option Code) (s : LoopState) (d : Nat) (tm : Array Value) : Loop :=
  { state := s, pending := p, fn := fid, tmps := tm, params := ps.toArray, assign := asg, body := body, defers := d }

theorem Sim.loopObj {l b d : Nat} {tm : Array Value} {fr : List LV} {ps : List Nat} {asg body : Code} {fid : Nat} {p : Option Code} {s : LoopState} (hs : Sim R st w) (hρ : R.ρ l = some (.lp b d tm)) (hl : st.L[l]? = some (.loop fr ps asg body fid p s)) :
    w.heap[b]? = some (.loop (recOf ps asg body fid p s d tm)) ∧ VLR R w fr tm.toList ∧ w.heap[d]? = some (.deferred (some [])) := hs.obj l _ _ hρ hl

/-- A loop's record is written. -/
theorem Sim.loopSet {l b d : Nat} {tm : Array Value} {fr : List LV} {ps : List Nat} {asg body : Code} {fid : Nat} {p : Option Code} {s : LoopState} (hs : Sim R st w) (hρ : R.ρ l = some (.lp b d tm)) (hl : st.L[l]? = some (.loop fr ps asg body fid p s)) (hlo : st.lo ≤ l) (p' : Option Code) (s' : LoopState) :
    ∃ w', w' = { w with heap := w.heap.setIfInBounds b (.loop (recOf ps asg body fid p' s' d tm)) } ∧ Sim R { st with L := st.L.set l (.loop fr ps asg body fid p' s') } w' ∧ Ext R R w w' ∧ Wm R R st { st with L := st.L.set l (.loop fr ps asg body fid p' s') } w w' := by
  obtain ⟨h1, h2, h3⟩ := hs.loopObj hρ hl
  have hll : l < st.L.length := (List.getElem?_eq_some_iff.1 hl).1
  have hb : b < w.heap.size := (Array.getElem?_eq_some_iff.1 h1).1
  have hne : ∀ k, k ≠ b → ({ w with heap := w.heap.setIfInBounds b (.loop (recOf ps asg body fid p' s' d tm)) } : World).heap[k]? = w.heap[k]? := fun k hk => Array.getElem?_setIfInBounds_ne (Ne.symm hk)
  have hdb : d ≠ b := fun e => by subst e; rw [h1] at h3; cases h3
  have hlv : live st l := ⟨_, hl, rfl⟩
  have hk : Keeps R.ro w { w with heap := w.heap.setIfInBounds b (.loop (recOf ps asg body fid p' s' d tm)) } := ⟨fun k hk => hne k (fun e => (hs.wr l _ b hρ hlv rfl).2.2 (e ▸ hk))⟩
  refine ⟨_, rfl, ?_⟩
  refine hs.write hρ hlv rfl hlo _ hne (by simp) rfl rfl rfl (by rw [h1]; simp) ?_ rfl ?_ ?_
  · exact ⟨by simp [hb]; rfl, VL.mono h2 (fun _ _ h => h) (fun _ h => h) hk, (hne d hdb).trans h3⟩
  · intro a1 a2 a3 a4 a5 a6 a7 h
    rw [hl] at h; cases h
    exact ⟨p', s', by simp [hll]⟩
  · intro _; exact ⟨_, _, _, _, _, _, _, hl⟩

theorem zipset {ρ : Rho} {ro : Nat → Prop} : ∀ {ps : List Nat} {args : List LV} {us : List Value} {fr : List LV} {tm : List Value}, VL ρ ro w args us → VL ρ ro w fr tm →
    VL ρ ro w ((ps.zip args).foldl (fun fr p => fr.set p.1 p.2) fr) ((ps.zip us).foldl (fun tm p => tm.set p.1 p.2) tm)
  | [], args, us, fr, tm, ha, hf => by simpa using hf
  | p :: ps, [], us, fr, tm, ha, hf => by have := ha.of_nil; subst this; simpa using hf
  | p :: ps, a :: args, us, fr, tm, ha, hf => by
    obtain ⟨u, us', rfl, h1, h2⟩ := ha.of_cons
    simp only [List.zip_cons_cons, List.foldl_cons]
    exact zipset h2 (hf.set p h1)

theorem run_yield {b : Nat} {r : Loop} {av : Array Value} (h : w.heap[b]? = some (.loop r)) (hn : av.size = r.params.size) :
    (callV (.func (.yield b) #[] #[]) av).run P w = .ok (.round b r.fn ((r.params.zip av).foldl (fun tmps (t, a) => tmps.setIfInBounds t a) r.tmps) r.assign r.body) w := by
  simp only [callV, Deferred.ofValue, pure_bind, invoke]
  rw [show (#[] ++ av : Array Value) = av by simp]
  simp [Instr.yield, Instr.getLoop, getObj, Sem.run, h, hn]

theorem foldl_tm (l : List (Nat × Value)) (tm : Array Value) : (l.foldl (fun tmps (p : Nat × Value) => tmps.setIfInBounds p.1 p.2) tm).toList = l.foldl (fun tm p => tm.set p.1 p.2) tm.toList := by
  induction l generalizing tm with
  | nil => rfl
  | cons p l ih => simp only [List.foldl_cons]; rw [ih]; simp

theorem yield_ok {l : Nat} {fr0 fr1 fr2 : List LV} {ps : List Nat} {asg body : Code} {fid : Nat} {args : List LV} {x : X} (hl : st.L[l]? = some (.loop fr0 ps asg body fid none .ready)) (hlo : st.lo ≤ l) (hn : ps.length = args.length)
    (h1 : CodeOK P asg fid ((ps.zip args).foldl (fun fr p => fr.set p.1 p.2) fr0) st .n fr1 st1) (hl1' : ∃ g0 g1 g2 g3 g4, st1.L[l]? = some (.loop g0 g1 g2 g3 g4 none .ready))
    (h2 : CodeOK P body fid fr1 { st1 with L := st1.L.set l (.loop fr0 ps asg body fid none .busy) } x fr2 st2) {t : Bool} {p : Option Code} {s : LoopState}
    (hx : (x = .n ∧ t = true ∧ p = none ∧ s = .ready) ∨ (∃ id, x = .e id ∧ t = false ∧ p = some (.exit id) ∧ s = .done) ∨ (x = .r ∧ t = false ∧ p = some .ret ∧ s = .done)) :
    CallOK P (.yl l) args st (.b t) { st2 with L := st2.L.set l (.loop fr0 ps asg body fid p s) } := by
  intro R w fv av c cs hs hfv hav
  obtain ⟨b, d, tm, rfl, hρ⟩ := V.yl_inv hfv
  obtain ⟨e1, e2, e3⟩ := hs.loopObj hρ hl
  have hav' : av.size = ps.length := by rw [hn, hav.1]; simp
  have hrun := run_yield (P := P) (w := w) (av := av) e1 (by simpa [recOf] using hav')
  have hf0 : VLR R w ((ps.zip args).foldl (fun fr p => fr.set p.1 p.2) fr0) (((recOf ps asg body fid none .ready d tm).params.zip av).foldl (fun tmps (t, a) => tmps.setIfInBounds t a) (recOf ps asg body fid none .ready d tm).tmps).toList := by
    rw [← Array.foldl_toList, Array.toList_zip]
    refine VL.mono ?_ (fun _ _ h => h) (fun _ h => h) ⟨fun _ _ => rfl⟩
    rw [show (List.foldl (fun (tmps : Array Value) (x : Nat × Value) => match x with | (t, a) => tmps.setIfInBounds t a) (recOf ps asg body fid none LoopState.ready d tm).tmps ((recOf ps asg body fid none .ready d tm).params.toList.zip av.toList)) = _ from rfl]
    rw [foldl_tm]
    exact zipset hav e2
  generalize htm : (((recOf ps asg body fid none .ready d tm).params.zip av).foldl (fun tmps (t, a) => tmps.setIfInBounds t a) (recOf ps asg body fid none .ready d tm).tmps) = tm0 at hrun hf0
  let b0 : Frame := { fn := fid, tmps := #[], todo := [], defers := [], mode := .run, kind := .normal, roundOf := some b }
  refine ⟨_, fa b0 tm0 [] [.code asg, .beginRound, .code body], hrun, by simp [begins, Frame.round, fa, b0, recOf], ?_⟩
  have hin : InRound b0 R st := fun l' hl' => by cases hl'; exact ⟨l, d, tm, hρ, _, _, _, _, _, _, _, hl⟩
  obtain ⟨R1, w1, tm1, ds1, a1, a2, a3, a4, a5, a6, a7, a8⟩ := (h1 R w tm0 b0 [] [.beginRound, .code body] (c :: cs) rfl hs hf0 hin).out
  have hds1 := a7 rfl
  subst hds1
  simp only [List.map_nil, List.nil_append] at a1 a6
  have hρ1 := a4.ρ _ _ hρ
  have hl1 : st1.L[l]? = some (.loop fr0 ps asg body fid none .ready) := by
    obtain ⟨g0, g1, g2, g3, g4, hg⟩ := hl1'
    obtain ⟨p', s', h5⟩ := a5.lp l _ _ _ _ _ _ _ hl
    have h6 := hg.symm.trans h5
    injection h6 with h6
    injection h6 with _ _ _ _ _ h7 h8
    rw [h5, ← h7, ← h8]
  obtain ⟨f1, f2, f3⟩ := a2.loopObj hρ1 hl1
  obtain ⟨w2, hw2, g1, g2, g3⟩ := a2.loopSet hρ1 hl1 (by rw [a5.lo]; exact hlo) none .busy
  have hst2 : Steps P (lone (fa b0 tm0 [] [.code asg, .beginRound, .code body]) (c :: cs) w) (lone (fa b0 tm1 [] [.code body]) (c :: cs) w2) := by
    refine Steps.trans a1 (.one ?_)
    rw [hw2]
    exact st_beginRound rfl f1 rfl
  have hll1 : l < st1.L.length := (List.getElem?_eq_some_iff.1 hl1).1
  have hin2 : InRound b0 R1 { st1 with L := st1.L.set l (.loop fr0 ps asg body fid none .busy) } := fun l' hl' => by
    cases hl'; exact ⟨l, d, tm, hρ1, fr0, ps, asg, body, fid, none, .busy, by simp [hll1]⟩
  obtain ⟨R3, w3, tm3, ds3, c1, c2, c3, c4, c5, c6, c7, c8⟩ := (h2 R1 w2 tm1 b0 [] [] (c :: cs) rfl g1 (a3.ext g2) hin2).out
  have hds3 := c7 rfl
  subst hds3
  simp only [List.map_nil, List.nil_append] at c1 c6
  obtain ⟨p3, s3, hl3⟩ := c5.lp l fr0 ps asg body fid none .busy (by simp [hll1])
  have hρ3 := c4.ρ _ _ hρ1
  obtain ⟨k1, k2, k3⟩ := c2.loopObj hρ3 hl3
  obtain ⟨w4, hw4, m1, m2, m3⟩ := c2.loopSet hρ3 hl3 (by rw [c5.lo]; show st1.lo ≤ l; rw [a5.lo]; exact hlo) p s
  have hlast : Steps P (lone (fa b0 tm1 [] [.code body]) (c :: cs) w2) (lone (c.finish (.bool t)) cs w4) := by
    rw [hw4]
    rcases hx with ⟨rfl, rfl, rfl, rfl⟩ | ⟨id, rfl, rfl, rfl, rfl⟩ | ⟨rfl, rfl, rfl, rfl⟩
    · exact Steps.trans c1 (.one (st_round_end rfl rfl k1))
    · obtain ⟨k0, n1, n2⟩ := c1
      exact n2.trans (.one (st_round_exit rfl rfl k1 (by rw [n1]; rfl)))
    · obtain ⟨k0, n2⟩ := c1
      exact n2.trans (.one (st_round_ret rfl rfl k1))
  exact ⟨R3, w4, .bool t, hst2.trans hlast, .b t, m1, a4.trans (g2.trans (c4.trans m2)), (a5.trans a4.size (g3.trans g2.size (c5.trans c4.size m3))), c6.trans a6⟩
end
end Gz
