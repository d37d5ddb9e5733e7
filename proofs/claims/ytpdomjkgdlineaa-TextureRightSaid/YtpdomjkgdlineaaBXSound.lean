/- What the evaluator says of code is what the machine does: the parts. -/
import Derived.Test.YtpdomjkgdlineaaBXRun
set_option linter.unusedVariables false
set_option linter.unusedSimpArgs false
set_option linter.unnecessarySimpa false
set_option linter.deprecated false
namespace Gz
open Go

/-- Where a piece of code has come to. -/
def Arr (P : Program) (m : Machine) (b : Frame) (k : List Item) (cs : List Frame) : X → Array Value → List Deferred → World → Prop
  | .n, tm, df, w => Steps P m (lone (fa b tm df k) cs w)
  | .e id, tm, df, w => ∃ k0, exitTo id k0 = exitTo id k ∧ Steps P m (lone (fa b tm df (.code (.exit id) :: k0)) cs w)
  | .r, tm, df, w => ∃ k0, Steps P m (lone (fa b tm df (.code .ret :: k0)) cs w)
  | .v _, _, _, _ => False

theorem Arr.of_steps {P : Program} {m m' : Machine} {b : Frame} {k : List Item} {cs : List Frame} {x : X} {tm : Array Value} {df : List Deferred} {w : World} (h : Steps P m m') (h' : Arr P m' b k cs x tm df w) : Arr P m b k cs x tm df w := by
  cases x with
  | n => exact h.trans h'
  | e id => obtain ⟨k0, h1, h2⟩ := h'; exact ⟨k0, h1, h.trans h2⟩
  | r => obtain ⟨k0, h2⟩ := h'; exact ⟨k0, h.trans h2⟩
  | v _ => exact h'.elim
theorem Arr.pass {P : Program} {m : Machine} {b : Frame} {k k' : List Item} {cs : List Frame} {x : X} {tm : Array Value} {df : List Deferred} {w : World} (hx : x ≠ .n) (hk : ∀ id, x = .e id → exitTo id k' = exitTo id k) (h : Arr P m b k' cs x tm df w) : Arr P m b k cs x tm df w := by
  cases x with
  | n => exact absurd rfl hx
  | e id => obtain ⟨k0, h1, h2⟩ := h; exact ⟨k0, h1.trans (hk id rfl), h2⟩
  | r => exact h
  | v _ => exact h

/-- A round knows its loop's record. -/
def InRound (b : Frame) (R : Rl) (st : St) : Prop := ∀ l, b.roundOf = some l → ∃ o d tm, R.ρ o = some (.lp l d tm) ∧ LoopAt st o

theorem InRound.step {b : Frame} {R R' : Rl} {st st' : St} {w w' : World} (h : InRound b R st) (e : Ext R R' w w') (m : Wm R R' st st' w w') : InRound b R' st' := by
  intro l hl
  obtain ⟨o, d, tm, h1, fr, ps, a, c, f, p, s, h2⟩ := h l hl
  obtain ⟨p', s', h3⟩ := m.lp o fr ps a c f p s h2
  exact ⟨o, d, tm, e.ρ _ _ h1, fr, ps, a, c, f, p', s', h3⟩

/-- What a piece of code comes to, from a state on. -/
structure After (P : Program) (m : Machine) (R : Rl) (st : St) (w : World) (b : Frame) (df : List Deferred) (k : List Item) (cs : List Frame) (x : X) (fr' : List LV) (st' : St) : Prop where
  out : ∃ R' w' tm' ds, Arr P m b k cs x tm' (ds.map mark ++ df) w' ∧ Sim R' st' w' ∧ VLR R' w' fr' tm'.toList ∧ Ext R R' w w' ∧ Wm R R' st st' w w' ∧ R'.D = ds ++ R.D ∧ (b.roundOf.isSome = true → ds = []) ∧ ∀ d, d ∈ ds → w.heap.size ≤ d

def CodeOK (P : Program) (c : Code) (fid : Nat) (fr : List LV) (st : St) (x : X) (fr' : List LV) (st' : St) : Prop :=
  ∀ (R : Rl) (w : World) (tm : Array Value) (b : Frame) (df : List Deferred) (k : List Item) (cs : List Frame), b.fn = fid → Sim R st w → VLR R w fr tm.toList → InRound b R st →
    After P (lone (fa b tm df (.code c :: k)) cs w) R st w b df k cs x fr' st'

/-- A loop, at a round's head. -/
def LoopOK (P : Program) (c : Code) (fid : Nat) (fr : List LV) (st : St) (x : X) (fr' : List LV) (st' : St) : Prop :=
  ∀ (R : Rl) (w : World) (tm : Array Value) (b : Frame) (df : List Deferred) (k : List Item) (cs : List Frame), b.fn = fid → Sim R st w → VLR R w fr tm.toList → InRound b R st →
    After P (lone (fa b tm df (.code c :: .inLoop c :: k)) cs w) R st w b df k cs x fr' st'

def OpsOK (P : Program) (all rest : List Oper) (fid : Nat) (fr : List LV) (st : St) (fr' : List LV) (st' : St) : Prop :=
  ∀ (R : Rl) (w : World) (tm : Array Value) (b : Frame) (df : List Deferred) (k : List Item) (cs : List Frame) (ops : Array Oper) (i : Nat), ops.toList = all → rest = all.drop i → b.fn = fid → Sim R st w → VLR R w fr tm.toList → InRound b R st →
    ∃ R' w' tm', Steps P (lone (fa b tm df (.inRegion ops ((List.range ops.size).drop i) :: k)) cs w) (lone (fa b tm' df k) cs w') ∧ Sim R' st' w' ∧ VLR R' w' fr' tm'.toList ∧ Ext R R' w w' ∧ Wm R R' st st' w w' ∧ R'.D = R.D

/-- A call, from its frame's begin to what it hands back. -/
def CallOK (P : Program) (f : LV) (args : List LV) (st : St) (v : LV) (st' : St) : Prop :=
  ∀ (R : Rl) (w : World) (fv : Value) (av : Array Value) (c : Frame) (cs : List Frame), Sim R st w → VR R w f fv → VLR R w args av.toList →
    ∃ nx f0, (callV fv av).run P w = .ok nx w ∧ begins P nx = some f0 ∧ ∃ R' w' u, Steps P (lone f0 (c :: cs) w) (lone (c.finish u) cs w') ∧ VR R' w' v u ∧ Sim R' st' w' ∧ Ext R R' w w' ∧ Wm R R' st st' w w' ∧ R'.D = R.D

section
variable {P : Program} {C : Cfg} {fid : Nat} {fr fr' fr1 : List LV} {st st' st1 : St} {x : X}

theorem After.nothing {m : Machine} {R : Rl} {w : World} {b : Frame} {df : List Deferred} {k : List Item} {cs : List Frame} {tm : Array Value} (ha : Arr P m b k cs x tm df w) (hs : Sim R st w) (hf : VLR R w fr tm.toList) : After P m R st w b df k cs x fr st :=
  ⟨R, w, tm, [], ha, hs, hf, Ext.refl R w, Wm.refl R st w, rfl, fun _ => rfl, by simp⟩

theorem ok_skip : CodeOK P .skip fid fr st .n fr st := fun R w tm b df k cs hb hs hf hr => .nothing (show Arr P _ b k cs .n tm df w from .one st_skip) hs hf
theorem ok_label {l : Nat} : CodeOK P (.label l) fid fr st .n fr st := fun R w tm b df k cs hb hs hf hr => .nothing (show Arr P _ b k cs .n tm df w from .one st_label) hs hf
theorem ok_ret : CodeOK P .ret fid fr st .r fr st := fun R w tm b df k cs hb hs hf hr => .nothing (show Arr P _ b k cs .r tm df w from ⟨k, .refl _ _⟩) hs hf
theorem ok_exit {id : Nat} : CodeOK P (.exit id) fid fr st (.e id) fr st := fun R w tm b df k cs hb hs hf hr => .nothing (show Arr P _ b k cs (.e id) tm df w from ⟨k, rfl, .refl _ _⟩) hs hf

/-- First this, then that. -/
theorem After.then {m : Machine} {R : Rl} {w : World} {b : Frame} {df : List Deferred} {k k1 : List Item} {cs : List Frame} (hr : InRound b R st) (h : After P m R st w b df k1 cs .n fr1 st1)
    (h' : ∀ (R1 : Rl) (w1 : World) (tm1 : Array Value) (df1 : List Deferred), Sim R1 st1 w1 → VLR R1 w1 fr1 tm1.toList → InRound b R1 st1 → After P (lone (fa b tm1 df1 k1) cs w1) R1 st1 w1 b df1 k cs x fr' st') : After P m R st w b df k cs x fr' st' := by
  obtain ⟨R1, w1, tm1, ds1, a1, a2, a3, a4, a5, a6, a7, a8⟩ := h
  obtain ⟨R2, w2, tm2, ds2, b1, b2, b3, b4, b5, b6, b7, b8⟩ := h' R1 w1 tm1 (ds1.map mark ++ df) a2 a3 (hr.step a4 a5)
  refine ⟨R2, w2, tm2, ds2 ++ ds1, ?_, b2, b3, a4.trans b4, a5.trans a4.size b5, by rw [b6, a6, List.append_assoc], fun h => by rw [a7 h, b7 h]; rfl, fun d hd => ?_⟩
  · have := Arr.of_steps a1 b1
    rwa [List.map_append, List.append_assoc]
  · rcases List.mem_append.1 hd with hd | hd
    · exact Nat.le_trans a4.size (b8 d hd)
    · exact a8 d hd

theorem After.pass {m : Machine} {R : Rl} {w : World} {b : Frame} {df : List Deferred} {k k' : List Item} {cs : List Frame} (hx : x ≠ .n) (hk : ∀ id, x = .e id → exitTo id k' = exitTo id k) (h : After P m R st w b df k' cs x fr' st') : After P m R st w b df k cs x fr' st' := by
  obtain ⟨R1, w1, tm1, ds1, a1, a⟩ := h
  exact ⟨R1, w1, tm1, ds1, a1.pass hx hk, a⟩
theorem After.of_steps {m m' : Machine} {R : Rl} {w : World} {b : Frame} {df : List Deferred} {k : List Item} {cs : List Frame} (hm : Steps P m m') (h : After P m' R st w b df k cs x fr' st') : After P m R st w b df k cs x fr' st' := by
  obtain ⟨R1, w1, tm1, ds1, a1, a⟩ := h
  exact ⟨R1, w1, tm1, ds1, a1.of_steps hm, a⟩

theorem ok_seq {a c : Code} (h : CodeOK P a fid fr st .n fr1 st1) (h' : CodeOK P c fid fr1 st1 x fr' st') : CodeOK P (.seq a c) fid fr st x fr' st' := by
  intro R w tm b df k cs hb hs hf hr
  refine .of_steps (.one st_seq) ?_
  exact .then hr (h R w tm b df (.code c :: k) cs hb hs hf hr) fun R1 w1 tm1 df1 s1 f1 r1 => h' R1 w1 tm1 b df1 k cs hb s1 f1 r1
theorem ok_seq_x {a c : Code} (hx : x ≠ .n) (h : CodeOK P a fid fr st x fr' st') : CodeOK P (.seq a c) fid fr st x fr' st' := by
  intro R w tm b df k cs hb hs hf hr
  exact .of_steps (.one st_seq) (After.pass (k' := .code c :: k) hx (fun _ _ => rfl) (h R w tm b df (.code c :: k) cs hb hs hf hr))

theorem ok_cond {c : Operand} {a d : Code} {t : Bool} (hc : val C fr c = .b t) (h : CodeOK P (if t then a else d) fid fr st x fr' st') : CodeOK P (.cond c a d) fid fr st x fr' st' := by
  intro R w tm b df k cs hb hs hf hr
  have := val_V (C := C) hf c
  rw [hc] at this
  exact .of_steps (.one (st_cond this.b_inv)) (h R w tm b df k cs hb hs hf hr)

theorem ok_block {id : Nat} {c : Code} (h : CodeOK P c fid fr st x fr' st') : CodeOK P (.block id c) fid fr st (match x with | .e j => if j = id then .n else .e j | y => y) fr' st' := by
  intro R w tm b df k cs hb hs hf hr
  refine .of_steps (.one st_block) ?_
  obtain ⟨R1, w1, tm1, ds1, a1, a⟩ := h R w tm b df (.inBlock id :: k) cs hb hs hf hr
  refine ⟨R1, w1, tm1, ds1, ?_, a⟩
  cases x with
  | n => exact Steps.trans a1 (.one st_inBlock)
  | r => exact a1
  | v _ => exact a1
  | e j =>
    obtain ⟨k0, h1, h2⟩ := a1
    by_cases hj : j = id
    · subst hj
      simp only [if_true]
      refine Steps.trans h2 (.one (st_exit ?_))
      rw [h1]; simp [exitTo]
    · simp only [if_neg hj]
      refine ⟨k0, ?_, h2⟩
      rw [h1]
      have : (id == j) = false := by simpa using fun e => hj e.symm
      simp [exitTo, this]

theorem ok_scope {c : Code} (h : CodeOK P c fid fr st x fr' st') : CodeOK P (.scope c) fid fr st x fr' st' := by
  intro R w tm b df k cs hb hs hf hr
  refine .of_steps (.one st_scope) ?_
  obtain ⟨R1, w1, tm1, ds1, a1, a⟩ := h R w tm b df (.inScope c :: k) cs hb hs hf hr
  refine ⟨R1, w1, tm1, ds1, ?_, a⟩
  cases x with
  | n => exact Steps.trans a1 (.one st_inScope)
  | r => exact a1
  | v _ => exact a1
  | e j => exact a1

theorem ok_loop {c : Code} (h : LoopOK P c fid fr st x fr' st') : CodeOK P (.loop c) fid fr st x fr' st' :=
  fun R w tm b df k cs hb hs hf hr => .of_steps (.one st_loop) (h R w tm b df k cs hb hs hf hr)
theorem lp_round {c : Code} (h : CodeOK P c fid fr st .n fr1 st1) (h' : LoopOK P c fid fr1 st1 x fr' st') : LoopOK P c fid fr st x fr' st' := by
  intro R w tm b df k cs hb hs hf hr
  exact .then hr (h R w tm b df (.inLoop c :: k) cs hb hs hf hr) fun R1 w1 tm1 df1 s1 f1 r1 => .of_steps (.one st_inLoop) (h' R1 w1 tm1 b df1 k cs hb s1 f1 r1)
theorem lp_leave {c : Code} (hx : x ≠ .n) (h : CodeOK P c fid fr st x fr' st') : LoopOK P c fid fr st x fr' st' :=
  fun R w tm b df k cs hb hs hf hr => After.pass (k' := .inLoop c :: k) hx (fun _ _ => rfl) (h R w tm b df (.inLoop c :: k) cs hb hs hf hr)

/-! Regions in the text's order. -/
theorem putV_VL {R : Rl} {w : World} {tm : Array Value} {v : LV} {u : Value} (hf : VLR R w fr tm.toList) (d : Option Nat) (hv : VR R w v u) : VLR R w (put fr d v) (putV tm d u).toList := by
  cases d with
  | none => exact hf
  | some d => simp only [put, putV, Array.toList_setIfInBounds]; exact hf.set d hv

theorem range_drop (n i : Nat) (h : i < n) : (List.range n).drop i = i :: (List.range n).drop (i + 1) := by
  rw [List.drop_eq_getElem_cons (by simpa using h)]; simp

theorem ops_nil {all : List Oper} : OpsOK P all [] fid fr st fr st := by
  intro R w tm b df k cs ops i ha hr hb hs hf hin
  have : all.length ≤ i := by
    have := congrArg List.length hr; simp at this; omega
  have h2 : (List.range ops.size).drop i = [] := List.drop_eq_nil_of_le (by subst ha; simpa using this)
  rw [h2]
  exact ⟨R, w, tm, .one st_region_end, hs, hf, Ext.refl R w, Wm.refl R st w, rfl⟩

theorem ops_at {all rest : List Oper} {o : Oper} {ops : Array Oper} {i : Nat} (ha : ops.toList = all) (hr : o :: rest = all.drop i) : ops[i]? = some o ∧ rest = all.drop (i + 1) ∧ i < ops.size := by
  have h1 : all[i]? = some o := by
    have := congrArg (fun l => l[0]?) hr
    simp only [List.getElem?_drop] at this
    simpa using this.symm
  have h2 : rest = all.drop (i + 1) := by
    have := congrArg List.tail hr
    simpa [List.tail_drop] using this
  subst ha
  refine ⟨by simpa using h1, h2, ?_⟩
  have := (List.getElem?_eq_some_iff.1 h1).1
  simpa using this

theorem ops_skip {all rest : List Oper} {o : Oper} (hw : ∀ (R : Rl) (w : World) (tm : Array Value) (ops : Array Oper), ops.toList = all → VLR R w fr tm.toList → Region.wanted o (yielded ops tm) = false) (h : OpsOK P all rest fid (put fr o.dst (.tu [])) st fr' st') :
    OpsOK P all (o :: rest) fid fr st fr' st' := by
  intro R w tm b df k cs ops i ha hr hb hs hf hin
  obtain ⟨h1, h2, h3⟩ := ops_at ha hr
  rw [range_drop _ _ h3]
  have hu : VR R w (.tu []) undef := .tu (cs := #[]) rfl (fun j lv v hj => by simp at hj)
  obtain ⟨R1, w1, tm1, a1, a⟩ := h R w (putV tm o.dst undef) b df k cs ops (i + 1) ha h2 hb hs (putV_VL hf o.dst hu) hin
  exact ⟨R1, w1, tm1, .head (st_op_skip h1 (hw R w tm ops ha hf)) a1, a⟩

theorem ops_run {all rest : List Oper} {o : Oper} {v : LV} (hC : CfgOK P C) (hE : ∀ t z, C.eqT t = some z → EqOK P t z) (hw : ∀ (R : Rl) (w : World) (tm : Array Value) (ops : Array Oper), ops.toList = all → VLR R w fr tm.toList → Region.wanted o (yielded ops tm) = true)
    (hop : evOp C fr st o = some (true, v, st1)) (h : OpsOK P all rest fid (put fr o.dst v) st1 fr' st') : OpsOK P all (o :: rest) fid fr st fr' st' := by
  intro R w tm b df k cs ops i ha hr hb hs hf hin
  obtain ⟨h1, h2, h3⟩ := ops_at ha hr
  rw [range_drop _ _ h3]
  obtain ⟨nx, w1, R1, u, e1, e2, e3, e4, e5, e6, e7⟩ := evOp_good hC hE hs hf hop
  obtain ⟨R2, w2, tm2, a1, a2, a3, a4, a5, a6⟩ := h R1 w1 (putV tm o.dst u) b df k cs ops (i + 1) ha h2 hb e4 (putV_VL (hf.ext e5) o.dst e3) (hin.step e5 e6)
  have hnd : ∀ c, o.op ≠ .defer c := by
    intro c hc
    unfold evOp at hop
    simp only [hc, reduceCtorEq] at hop
  exact ⟨R2, w2, tm2, .head (st_op h1 (hw R w tm ops ha hf) hnd e1 e2) a1, a2, a3, e5.trans a4, e6.trans e5.size a5, a6.trans e7⟩

theorem ops_call {all rest : List Oper} {o : Oper} {f : Operand} {args : Array Operand} {ts : Array Nat} {v : LV} (hw : ∀ (R : Rl) (w : World) (tm : Array Value) (ops : Array Oper), ops.toList = all → VLR R w fr tm.toList → Region.wanted o (yielded ops tm) = true)
    (ho : o.op = .call { callee := .value f, args := args, argTypes := ts }) (hl : args.size = ts.size) (hc : CallOK P (val C fr f) ((args.toList.zip ts.toList).map fun (x, t) => valT C fr t x) st v st1) (h : OpsOK P all rest fid (put fr o.dst v) st1 fr' st') :
    OpsOK P all (o :: rest) fid fr st fr' st' := by
  intro R w tm b df k cs ops i ha hr hb hs hf hin
  obtain ⟨h1, h2, h3⟩ := ops_at ha hr
  rw [range_drop _ _ h3]
  have hargs : VLR R w ((args.toList.zip ts.toList).map fun (x, t) => valT C fr t x) (args.map (evalT tm)).toList := by
    have : (args.map (evalT tm)).toList = (args.toList.zip ts.toList).map fun (x, t) => evalT tm x := by
      rw [Array.toList_map]
      have : args.toList = (args.toList.zip ts.toList).map Prod.fst := by rw [List.map_fst_zip]; simpa using Nat.le_of_eq hl
      conv => lhs; rw [this]
      rw [List.map_map]; rfl
    rw [this]
    exact VL.map2 _ _ _ (fun p _ => valT_V hf p.2 p.1)
  obtain ⟨nx, f0, e1, e2, R1, w1, u, e3, e4, e5, e6, e7, e8⟩ := hc R w (evalT tm f) (args.map (evalT tm)) (fa b tm df (.inRegion ops (i :: (List.range ops.size).drop (i + 1)) :: k)) cs hs (val_V hf f) hargs
  obtain ⟨R2, w2, tm2, a1, a2, a3, a4, a5, a6⟩ := h R1 w1 (putV tm o.dst u) b df k cs ops (i + 1) ha h2 hb e5 (putV_VL (hf.ext e6) o.dst e4) (hin.step e6 e7)
  have hrun : (execOp (evalT tm) o).run P w = .ok nx w := by
    rw [← e1]; simp only [execOp, ho, resolve, callV]
  rw [fa_finish h1] at e3
  exact ⟨R2, w2, tm2, .head (st_op_call h1 (hw R w tm ops ha hf) (fun c hc => by rw [ho] at hc; cases hc) hrun e2) (Steps.trans e3 a1), a2, a3, e6.trans a4, e7.trans e6.size a5, a6.trans e8⟩

theorem ok_region {id : Nat} {ops : Array Oper} (h : OpsOK P ops.toList ops.toList fid fr st fr' st') : CodeOK P (.region id ops false) fid fr st .n fr' st' := by
  intro R w tm b df k cs hb hs hf hr
  obtain ⟨R1, w1, tm1, a1, a2, a3, a4, a5, a6⟩ := h R w tm b df k cs ops 0 rfl rfl hb hs hf hr
  exact ⟨R1, w1, tm1, [], .head st_region (by simpa using a1), a2, a3, a4, a5, a6, fun _ => rfl, by simp⟩
end
end Gz
