/- Calls: a function's frame, from its begin to what it hands back. -/
import Derived.Test.YtpdomjkgdlineaaBXSound
set_option linter.unusedVariables false
set_option linter.unusedSimpArgs false
set_option linter.unnecessarySimpa false
set_option linter.deprecated false
namespace Gz
open Go

section
variable {P : Program} {C : Cfg} {R : Rl} {st : St} {w : World}

theorem V.fn_inv {ρ : Rho} {ro : Nat → Prop} {f : Nat} {caps : List LV} {v : Value} (h : V ρ ro w (.fn f caps) v) : ∃ cs, v = .func (.func f) #[] cs ∧ VL ρ ro w caps cs.toList := by
  cases h with | fn h1 h2 => exact ⟨_, rfl, h1, h2⟩
theorem V.yl_inv {ρ : Rho} {ro : Nat → Prop} {o : Nat} {v : Value} (h : V ρ ro w (.yl o) v) : ∃ b d tm, v = .func (.yield b) #[] #[] ∧ ρ o = some (.lp b d tm) := by
  cases h with | yl h1 => exact ⟨_, _, _, rfl, h1⟩

theorem run_callFunc {k : Nat} {f : Func} {c : Code} (hf : P.funcs[k]? = some f) (hn : (f.name == "runtime.NumGoroutine") = false) (hb : f.body = some c) (args : Array Value) :
    (callFunc k args).run P w = .ok (.enter k args) w := by
  have h1 : f.name ≠ "runtime.NumGoroutine" := by simpa using hn
  simp [callFunc, hf, h1, hb]

theorem normT_sound {t : Nat} {v v' : LV} {u : Value} (h : normT C t v = some v') (hv : VR R w v u) : VR R w v' u := by
  unfold normT at h
  split at h
  · obtain ⟨cs, rfl, hc⟩ := V.ag_inv hv
    cases ho : TL.ofCells _ _ _ with
    | none => rw [ho] at h; cases h
    | some l =>
      rw [ho] at h; cases h
      obtain ⟨_, _, h3⟩ := ofCells_sound ho hc.vl
      exact .av hc.one h3.1 h3.2
  · cases h; exact hv

theorem normArgs_sound : ∀ {ts : List Nat} {vs vs' : List LV} {us : List Value}, normArgs C ts vs = some vs' → VLR R w vs us → VLR R w vs' us
  | [], vs, vs', us, h, hv => by simp only [normArgs] at h; cases h; exact hv
  | t :: ts, [], vs', us, h, hv => by simp only [normArgs] at h; cases h; exact hv
  | t :: ts, v :: vs, vs', us, h, hv => by
    simp only [normArgs] at h
    obtain ⟨u, us', rfl, h1, h2⟩ := VL.of_cons hv
    cases hn : normT C t v with
    | none => rw [hn] at h; cases h
    | some v' =>
      rw [hn] at h
      cases hm : normArgs C ts vs with
      | none => simp [hm] at h
      | some vs'' =>
        simp [hm] at h; subst h
        exact VL.cons (normT_sound hn h1) (normArgs_sound hm h2)

/-! What a function hands back. -/
def resOne (C : Cfg) (fr : List LV) (st : St) : ResultVar → Option LV
  | .tmp t => some (fr.getD t .u)
  | .cell a t => loadAt C st t (fr.getD a .u)
def resOneV (tm : Array Value) : ResultVar → Sem Value
  | .tmp t => pure (tm.getD t undef)
  | .cell a t => do loadVar t (← asAddr (tm.getD a undef))

theorem resOne_sound {fr : List LV} {tm : Array Value} {r : ResultVar} {v : LV} (hC : CfgOK P C) (hs : Sim R st w) (hf : VLR R w fr tm.toList) (h : resOne C fr st r = some v) : ∃ u, (resOneV tm r).run P w = .ok u w ∧ VR R w v u := by
  have hg : ∀ t, VR R w (fr.getD t .u) (tm.getD t undef) := fun t => val_V (C := C) hf (.tmp t)
  cases r with
  | tmp t =>
    simp only [resOne] at h; cases h
    exact ⟨_, by simp [resOneV], hg t⟩
  | cell a t =>
    simp only [resOne] at h
    have hp : ∃ ad, tm.getD a undef = .pointer (some ad) := by
      have := hg a
      unfold loadAt at h
      split at h
      · rename_i e; rw [e] at this; generalize tm.getD a undef = q at this; cases this <;> exact ⟨_, rfl⟩
      · rename_i e; rw [e] at this; generalize tm.getD a undef = q at this; cases this; exact ⟨_, rfl⟩
      · cases h
    obtain ⟨u, e1, e2⟩ := loadAt_sound (hC.ty t) hs h (hg a)
    refine ⟨u, ?_, e2⟩
    rw [← e1]
    obtain ⟨ad, hp⟩ := hp
    simp only [resOneV, Instr.loadAt, hp, asAddr, Instr.sureAddr, pure_bind]

theorem mapM_sound {fr : List LV} {tm : Array Value} (hC : CfgOK P C) (hs : Sim R st w) (hf : VLR R w fr tm.toList) : ∀ {rs : List ResultVar} {vs : List LV}, rs.mapM (resOne C fr st) = some vs →
    ∃ us, (rs.mapM (resOneV tm)).run P w = .ok us w ∧ VLR R w vs us ∧ us.length = rs.length
  | [], vs, h => by simp at h; subst h; exact ⟨[], by simp, VL.nil, rfl⟩
  | r :: rs, vs, h => by
    rw [List.mapM_cons] at h
    cases h1 : resOne C fr st r with
    | none => simp [h1] at h
    | some v =>
      cases h2 : rs.mapM (resOne C fr st) with
      | none => simp [h1, h2] at h
      | some vs' =>
        simp [h1, h2] at h; subst h
        obtain ⟨u, e1, e2⟩ := resOne_sound hC hs hf h1
        obtain ⟨us, e3, e4, e5⟩ := mapM_sound hC hs hf h2
        refine ⟨u :: us, ?_, VL.cons e2 e4, by simp [e5]⟩
        rw [List.mapM_cons, Sem.run_bind, e1, Result.andThen_ok, Sem.run_bind, e3, Result.andThen_ok, Sem.run_pure]

theorem results_eq (f : Func) (tm : Array Value) : results f tm = (do
    let vs ← f.results.toList.mapM (resOneV tm)
    pure (match vs with | [v] => v | vs => .tuple vs.toArray)) := by
  have h0 : results f tm = (f.results.mapM (resOneV tm) >>= fun vs => pure (if h : vs.size = 1 then vs[0] else .tuple vs)) := by
    unfold results
    have : ∀ g : ResultVar → Sem Value, g = resOneV tm → (f.results.mapM g >>= fun vs => (pure (if h : vs.size = 1 then vs[0] else .tuple vs) : Sem Value)) = (f.results.mapM (resOneV tm) >>= fun vs => pure (if h : vs.size = 1 then vs[0] else .tuple vs)) := by rintro _ rfl; rfl
    exact this _ (by funext r; cases r <;> rfl)
  rw [h0, Array.mapM_eq_mapM_toList]
  simp only [map_eq_pure_bind, bind_assoc, pure_bind]
  congr 1
  funext vs
  match vs with
  | [] => rfl
  | [v] => rfl
  | v :: u :: l => simp

theorem resVals_sound {f : Func} {fr : List LV} {tm : Array Value} {v : LV} (hC : CfgOK P C) (hs : Sim R st w) (hf : VLR R w fr tm.toList) (h : resVals C f fr st = some v) : ∃ u, (results f tm).run P w = .ok u w ∧ VR R w v u := by
  rw [results_eq, Sem.run_bind]
  have hfun : ∀ (g : ResultVar → Option LV) (l : List ResultVar), g = resOne C fr st → (List.mapM g l).bind (fun vs => some (.tu vs)) = some v → (List.mapM (resOne C fr st) l).bind (fun vs => some (.tu vs)) = some v := by rintro _ l rfl h; exact h
  unfold resVals at h
  split at h
  · rename_i t ht
    obtain ⟨u, e1, e2⟩ := resOne_sound (r := .tmp t) hC hs hf h
    rw [ht, List.mapM_cons, Sem.run_bind, e1]
    exact ⟨u, by simp, e2⟩
  · rename_i a t ht
    obtain ⟨u, e1, e2⟩ := resOne_sound (r := .cell a t) hC hs hf h
    rw [ht, List.mapM_cons, Sem.run_bind, e1]
    exact ⟨u, by simp, e2⟩
  · rename_i rs h1 h2
    replace h := hfun _ _ (by funext r; cases r <;> rfl) h
    cases hm : f.results.toList.mapM (resOne C fr st) with
    | none => rw [hm] at h; cases h
    | some vs =>
      rw [hm] at h; cases h
      obtain ⟨us, e1, e2, e3⟩ := mapM_sound hC hs hf hm
      rw [e1, Result.andThen_ok]
      refine ⟨_, Sem.run_pure _ _ _, ?_⟩
      have : (match us with | [v] => v | vs => Value.tuple vs.toArray) = .tuple us.toArray := by
        match us, e3 with
        | [], _ => rfl
        | [u], e3 =>
          match hq : f.results.toList, e3 with
          | [.tmp t], _ => exact absurd hq (h1 t)
          | [.cell a t], _ => exact absurd hq (h2 a t)
        | u :: u' :: l, _ => rfl
      rw [this]
      exact .tu (cs := us.toArray) (by simpa using e2.1) (fun j lv v h1 h2 => e2.2 j lv v h1 (by simpa using h2))

/-! The marks of loops are taken. -/
def taken (w : World) (d : Nat) : World := { w with heap := w.heap.setIfInBounds d (.deferred none) }

theorem ObjRel.notd {ρ : Rho} {ro : Nat → Prop} {base : Nat} {w : World} {ob : LO} {l : Loc} {b : Nat} {x : Option (List Deferred)} (h : ObjRel ρ ro base w ob l) (hl : ob.live = true) (hb : l.block = some b) : w.heap[b]? ≠ some (.deferred x) := by
  intro e
  cases ob <;> simp only [LO.live, reduceCtorEq] at hl <;> cases l <;> simp only [ObjRel] at h <;> simp only [Loc.block, Option.some.injEq] at hb
  · subst hb; obtain ⟨arr, e', h1, _⟩ := h; rw [h1] at e; cases e
  · subst hb
    obtain ⟨_, _, xs, h3, _⟩ := h
    rcases h3.2 with ⟨h4, _⟩ | ⟨g', cap', cur, h4, _, h5, _⟩
    · simp [slv_] at h4
    · simp [slv_] at h4
      obtain ⟨h4, _⟩ := h4
      subst h4
      rw [h5] at e; cases e
  · subst hb; rw [h.1] at e; cases e

theorem Sim.take {d : Nat} {D' : List Nat} (hs : Sim R st w) (hD : R.D = d :: D') (hlp : ∀ o b tm, LoopAt st o → R.ρ o = some (.lp b d tm) → False) :
    Sim { R with D := D' } st (taken w d) ∧ Keeps R.ro w (taken w d) ∧ (taken w d).heap.size = w.heap.size ∧ (∀ k, k ≠ d → (taken w d).heap[k]? = w.heap[k]?) := by
  obtain ⟨h1, h2, h3⟩ := hs.dfr d (by rw [hD]; simp)
  have hne : ∀ k, k ≠ d → (taken w d).heap[k]? = w.heap[k]? := fun k hk => by
    simp only [taken]; exact Array.getElem?_setIfInBounds_ne (Ne.symm hk)
  have hk : Keeps R.ro w (taken w d) := ⟨fun b hb => hne b (fun e => h3 (e ▸ hb))⟩
  have hsz : (taken w d).heap.size = w.heap.size := by simp [taken]
  have hnd := hs.nodup
  rw [hD] at hnd
  obtain ⟨hn1, hn2⟩ := List.nodup_cons.1 hnd
  refine ⟨⟨hs.dom, ?_, hs.inj, fun o l b a1 a2 a3 => (hs.wr o l b a1 a2 a3).imp id (fun h => h.imp (fun h => by rw [hsz]; exact h) id), fun b hb => by rw [hsz]; exact hs.rolt b hb, ?_, hn2, ?_, by rw [hsz]; exact hs.size, hs.os, hs.tape, hs.output⟩, hk, hsz, hne⟩
  · intro o l ob a1 a2
    have ho := hs.obj o l ob a1 a2
    by_cases hx : ob.live = true
    · refine ho.mono (fun _ _ h => h) (fun _ h => h) hk (fun b hb => hne b (fun e => ?_)) (fun b d' tm e => hne d' (fun e' => ?_))
      · subst e; exact ho.notd hx hb h1
      · subst e'; subst e
        cases ob <;> simp only [ObjRel] at ho <;> simp only [LO.live, reduceCtorEq] at hx
        exact hlp o b tm ⟨_, _, _, _, _, _, _, a2⟩ a1
    · rcases ho.roOf hx with rfl | ⟨b1, b2⟩
      · exact ObjRel.dead l
      · exact ho.mono (fun _ _ h => h) (fun _ h => h) hk (fun b hb => hk.same b (b1 b hb)) (fun b d tm e => absurd e (b2 b d tm))
  · intro d' hd'
    obtain ⟨c1, c2, c3⟩ := hs.dfr d' (by rw [hD]; exact List.mem_cons_of_mem _ hd')
    exact ⟨by rw [hne d' (fun e => hn1 (e ▸ hd'))]; exact c1, c2, c3⟩
  · intro b hb
    rw [hne b (fun e => by subst e; exact absurd h2 (Nat.not_le.2 hb))]; exact hs.old b hb

theorem take_all {b : Frame} {tm : Array Value} {todo : List Item} {cs : List Frame} {D' : List Nat} : ∀ {ds : List Nat} {R : Rl} {w : World}, Sim R st w → R.D = ds ++ D' → (∀ d o b tm, d ∈ ds → LoopAt st o → R.ρ o = some (.lp b d tm) → False) →
    ∃ w', Steps P (lone (leaving b tm (ds.map mark) todo) cs w) (lone (leaving b tm [] todo) cs w') ∧ Sim { R with D := D' } st w' ∧ Keeps R.ro w w' ∧ w'.heap.size = w.heap.size ∧ ∀ k, k ∉ ds → w'.heap[k]? = w.heap[k]?
  | [], R, w, hs, hD, _ => ⟨w, .refl _ _, by simp only [List.nil_append] at hD; rw [← hD]; exact hs, ⟨fun _ _ => rfl⟩, rfl, fun _ _ => rfl⟩
  | d :: ds, R, w, hs, hD, hlp => by
    obtain ⟨h1, h2, h3, h4⟩ := hs.take (D' := ds ++ D') (by simpa using hD) (fun o b tm h => hlp d o b tm (by simp) h)
    obtain ⟨w', a1, a2, a3, a4, a5⟩ := take_all (b := b) (tm := tm) (todo := todo) (cs := cs) (D' := D') (ds := ds) h1 rfl (fun d o b tm hd h => hlp d o b tm (by simp [hd]) h)
    refine ⟨w', .head (st_take (hs.dfr d (by rw [hD]; simp)).1) a1, a2, ⟨fun b hb => (a3.same b hb).trans (h2.same b hb)⟩, a4.trans h3, fun k hk => ?_⟩
    rw [a5 k (fun h => hk (by simp [h])), h4 k (fun h => hk (by simp [h]))]
end
end Gz
