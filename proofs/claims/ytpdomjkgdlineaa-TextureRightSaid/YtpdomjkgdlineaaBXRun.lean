/- The machine's steps, in a function's frame and in a round's. -/
import Derived.Test.YtpdomjkgdlineaaBXGood6
import Derived.Calls
set_option linter.unusedVariables false
set_option linter.unusedSimpArgs false
set_option linter.unnecessarySimpa false
set_option linter.deprecated false
namespace Gz
open Go

/-- A frame that runs. -/
def fa (b : Frame) (tm : Array Value) (df : List Deferred) (todo : List Item) : Frame := { b with tmps := tm, defers := df, todo := todo, mode := .run }

theorem fa_eval (b : Frame) (tm : Array Value) (df : List Deferred) (todo : List Item) : (fa b tm df todo).eval = evalT tm := by
  funext x; cases x <;> rfl

section
variable {P : Program} {b : Frame} {tm : Array Value} {df : List Deferred} {k : List Item} {cs : List Frame} {w : World}

theorem st_skip : step P (lone (fa b tm df (.code .skip :: k)) cs w) = .next (lone (fa b tm df k) cs w) := step_lone_go (by simp [stepG, stepG.exec, fa])
theorem st_label {l : Nat} : step P (lone (fa b tm df (.code (.label l) :: k)) cs w) = .next (lone (fa b tm df k) cs w) := step_lone_go (by simp [stepG, stepG.exec, fa])
theorem st_inBlock {id : Nat} : step P (lone (fa b tm df (.inBlock id :: k)) cs w) = .next (lone (fa b tm df k) cs w) := step_lone_go (by simp [stepG, stepG.exec, fa])
theorem st_inScope {c : Code} : step P (lone (fa b tm df (.inScope c :: k)) cs w) = .next (lone (fa b tm df k) cs w) := step_lone_go (by simp [stepG, stepG.exec, fa])
theorem st_seq {x y : Code} : step P (lone (fa b tm df (.code (.seq x y) :: k)) cs w) = .next (lone (fa b tm df (.code x :: .code y :: k)) cs w) := step_lone_go (by simp [stepG, stepG.exec, fa])
theorem st_cond {c : Operand} {x y : Code} {t : Bool} (h : evalT tm c = .bool t) : step P (lone (fa b tm df (.code (.cond c x y) :: k)) cs w) = .next (lone (fa b tm df (.code (if t then x else y) :: k)) cs w) :=
  step_lone_go (by
    have := congrFun (fa_eval b tm df (.code (.cond c x y) :: k)) c
    simp only [fa] at this
    simp [stepG, stepG.exec, fa, this, h])
theorem st_block {id : Nat} {c : Code} : step P (lone (fa b tm df (.code (.block id c) :: k)) cs w) = .next (lone (fa b tm df (.code c :: .inBlock id :: k)) cs w) := step_lone_go (by simp [stepG, stepG.exec, fa])
theorem st_scope {c : Code} : step P (lone (fa b tm df (.code (.scope c) :: k)) cs w) = .next (lone (fa b tm df (.code c :: .inScope c :: k)) cs w) := step_lone_go (by simp [stepG, stepG.exec, fa])
theorem st_loop {c : Code} : step P (lone (fa b tm df (.code (.loop c) :: k)) cs w) = .next (lone (fa b tm df (.code c :: .inLoop c :: k)) cs w) := step_lone_go (by simp [stepG, stepG.exec, fa])
theorem st_inLoop {c : Code} : step P (lone (fa b tm df (.inLoop c :: k)) cs w) = .next (lone (fa b tm df (.code c :: .inLoop c :: k)) cs w) := step_lone_go (by simp [stepG, stepG.exec, fa])
theorem st_exit {id : Nat} {k' : List Item} (h : exitTo id k = some k') : step P (lone (fa b tm df (.code (.exit id) :: k)) cs w) = .next (lone (fa b tm df k') cs w) := step_lone_go (by simp [stepG, stepG.exec, fa, h])
theorem st_region {id : Nat} {ops : Array Oper} : step P (lone (fa b tm df (.code (.region id ops false) :: k)) cs w) = .next (lone (fa b tm df (.inRegion ops (List.range ops.size) :: k)) cs w) := step_lone_go (by simp [stepG, stepG.exec, fa])
theorem st_region_draw {id : Nat} {ops : Array Oper} :
    step P (lone (fa b tm df (.code (.region id ops true) :: k)) cs w) = .next (lone (fa b tm df (.inRegion ops (Region.schedule (P.follows .mixedOrders) ops (w.tape w.drawn (.order b.fn id))) :: k)) cs { w with drawn := w.drawn + 1 }) :=
  step_lone_go (by simp [stepG, stepG.exec, fa, choose, Sem.run, Question.forced, Question.cut])
theorem st_region_end {ops : Array Oper} : step P (lone (fa b tm df (.inRegion ops [] :: k)) cs w) = .next (lone (fa b tm df k) cs w) := step_lone_go (by simp [stepG, stepG.exec, fa])

/-- A slot is written. -/
def putV (tm : Array Value) (d : Option Nat) (v : Value) : Array Value := match d with | some d => tm.setIfInBounds d v | none => tm

theorem fa_finish {ops : Array Oper} {i : Nat} {rest : List Nat} {o : Oper} (ho : ops[i]? = some o) (v : Value) :
    (fa b tm df (.inRegion ops (i :: rest) :: k)).finish v = fa b (putV tm o.dst v) df (.inRegion ops rest :: k) := by
  cases hd : o.dst <;> simp [Frame.finish, fa, ho, hd, putV]

theorem st_op_skip {ops : Array Oper} {i : Nat} {rest : List Nat} {o : Oper} (ho : ops[i]? = some o) (h : Region.wanted o (yielded ops tm) = false) :
    step P (lone (fa b tm df (.inRegion ops (i :: rest) :: k)) cs w) = .next (lone (fa b (putV tm o.dst undef) df (.inRegion ops rest :: k)) cs w) := by
  rw [← fa_finish ho]
  exact step_lone_go (by
    have h' : ((ops[i]?).map (Region.wanted · (yielded ops tm))).getD false = false := by simp [ho, h]
    simp only [fa] at *
    simp [stepG, stepG.exec, h'])

theorem stepG_fa {ops : Array Oper} {i : Nat} {rest : List Nat} {o : Oper} (ho : ops[i]? = some o) (hw : Region.wanted o (yielded ops tm) = true) (hd : ∀ c, o.op ≠ .defer c) :
    stepG P true { frame := fa b tm df (.inRegion ops (i :: rest) :: k), callers := cs, status := .running, dying := none } w =
      stepG.apply P true (fa b tm df (.inRegion ops (i :: rest) :: k)) cs none (execOp (evalT tm) o) w := by
  have he := fa_eval b tm df (.inRegion ops (i :: rest) :: k)
  simp only [fa] at he
  have : stepG P true { frame := fa b tm df (.inRegion ops (i :: rest) :: k), callers := cs, status := .running, dying := none } w = stepG.oper P true (fa b tm df (.inRegion ops (i :: rest) :: k)) cs none w := by
    simp [stepG, stepG.exec, fa, ho, hw]
  rw [this]
  simp only [stepG.oper, Frame.oper?, fa, ho, he]
  split
  · rename_i l c h1 h2
    exact absurd h2 (hd c)
  · rfl

theorem st_op {ops : Array Oper} {i : Nat} {rest : List Nat} {o : Oper} {nx : Next} {u : Value} {w' : World} (ho : ops[i]? = some o) (hw : Region.wanted o (yielded ops tm) = true) (hd : ∀ c, o.op ≠ .defer c)
    (hr : (execOp (evalT tm) o).run P w = .ok nx w') (hn : nxv nx = some u) :
    step P (lone (fa b tm df (.inRegion ops (i :: rest) :: k)) cs w) = .next (lone (fa b (putV tm o.dst u) df (.inRegion ops rest :: k)) cs w') := by
  rw [← fa_finish ho]
  refine step_lone_go ?_
  rw [stepG_fa ho hw hd]
  cases nx <;> simp only [nxv, reduceCtorEq, Option.some.injEq] at hn
  · subst hn; simp [stepG.apply, hr]
  · subst hn; simp [stepG.apply, hr]

/-- The frame that a call begins with. -/
def begins (P : Program) : Next → Option Frame
  | .enter f args => some (Frame.enter P f args .normal)
  | .round l f tmps a b => some (Frame.round l f tmps a b .normal)
  | _ => none

theorem st_op_call {ops : Array Oper} {i : Nat} {rest : List Nat} {o : Oper} {nx : Next} {f : Frame} {w' : World} (ho : ops[i]? = some o) (hw : Region.wanted o (yielded ops tm) = true) (hd : ∀ c, o.op ≠ .defer c)
    (hr : (execOp (evalT tm) o).run P w = .ok nx w') (hn : begins P nx = some f) :
    step P (lone (fa b tm df (.inRegion ops (i :: rest) :: k)) cs w) = .next (lone f (fa b tm df (.inRegion ops (i :: rest) :: k) :: cs) w') := by
  refine step_lone_go ?_
  rw [stepG_fa ho hw hd]
  cases nx <;> simp only [begins, reduceCtorEq, Option.some.injEq] at hn
  · subst hn; simp [stepG.apply, hr, fa]
  · subst hn; simp [stepG.apply, hr, fa]

/-! A round. -/
theorem st_beginRound {l : Nat} {r : Loop} {todo : List Item} (hb : b.roundOf = some l) (hl : w.heap[l]? = some (.loop r)) (hst : r.state = .ready) :
    step P (lone (fa b tm df (.beginRound :: todo)) cs w) = .next (lone (fa b tm df todo) cs { w with heap := w.heap.setIfInBounds l (.loop { r with state := .busy }) }) := by
  refine step_lone_go ?_
  have hrun : (Instr.beginRound l).run P w = .ok () { w with heap := w.heap.setIfInBounds l (.loop { r with state := .busy }) } := by
    simp [Instr.beginRound, Instr.getLoop, getObj, setObj, Sem.run, hl, hst]
  simp [stepG, stepG.exec, fa, hb, stepG.apply, hrun, Frame.finish]

theorem run_endRound {l : Nat} {r : Loop} {j : Option Code} (hl : w.heap[l]? = some (.loop r)) :
    (Instr.endRound l j).run P w = .ok (.bool j.isNone) { w with heap := w.heap.setIfInBounds l (.loop { r with state := if j.isNone then .ready else .done, pending := j }) } := by
  simp [Instr.endRound, Instr.getLoop, getObj, setObj, Sem.run, hl]

theorem st_round_end {l : Nat} {r : Loop} {c : Frame} (hb : b.roundOf = some l) (hk : b.kind = .normal) (hl : w.heap[l]? = some (.loop r)) :
    step P (lone (fa b tm df []) (c :: cs) w) = .next (lone (c.finish (.bool true)) cs { w with heap := w.heap.setIfInBounds l (.loop { r with state := .ready, pending := none }) }) := by
  refine step_lone_go ?_
  have := run_endRound (P := P) (j := none) hl
  simp [stepG, stepG.exec, fa, hb, this, doReturn, hk]

theorem st_round_ret {l : Nat} {r : Loop} {c : Frame} {todo : List Item} (hb : b.roundOf = some l) (hk : b.kind = .normal) (hl : w.heap[l]? = some (.loop r)) :
    step P (lone (fa b tm df (.code .ret :: todo)) (c :: cs) w) = .next (lone (c.finish (.bool false)) cs { w with heap := w.heap.setIfInBounds l (.loop { r with state := .done, pending := some .ret }) }) := by
  refine step_lone_go ?_
  have := run_endRound (P := P) (j := some .ret) hl
  simp [stepG, stepG.exec, fa, hb, this, doReturn, hk]

theorem st_round_exit {l id : Nat} {r : Loop} {c : Frame} {todo : List Item} (hb : b.roundOf = some l) (hk : b.kind = .normal) (hl : w.heap[l]? = some (.loop r)) (he : exitTo id todo = none) :
    step P (lone (fa b tm df (.code (.exit id) :: todo)) (c :: cs) w) = .next (lone (c.finish (.bool false)) cs { w with heap := w.heap.setIfInBounds l (.loop { r with state := .done, pending := some (.exit id) }) }) := by
  refine step_lone_go ?_
  have := run_endRound (P := P) (j := some (.exit id)) hl
  simp [stepG, stepG.exec, fa, hb, this, doReturn, hk, he]

/-! A function's end. -/
def mark (d : Nat) : Deferred := { target := .collected d, args := #[] }
def leaving (b : Frame) (tm : Array Value) (df : List Deferred) (todo : List Item) : Frame := { b with tmps := tm, defers := df, todo := todo, mode := .returning }

theorem st_ret {todo : List Item} (hb : b.roundOf = none) : step P (lone (fa b tm df (.code .ret :: todo)) cs w) = .next (lone (leaving b tm df (.code .ret :: todo)) cs w) :=
  step_lone_go (by simp [stepG, stepG.exec, fa, hb, leaving])
theorem st_end (hb : b.roundOf = none) : step P (lone (fa b tm df []) cs w) = .next (lone (leaving b tm df []) cs w) :=
  step_lone_go (by simp [stepG, stepG.exec, fa, hb, leaving])
theorem st_take {d : Nat} {todo : List Item} (hd : w.heap[d]? = some (.deferred (some []))) :
    step P (lone (leaving b tm (mark d :: df) todo) cs w) = .next (lone (leaving b tm df todo) cs { w with heap := w.heap.setIfInBounds d (.deferred none) }) := by
  refine step_lone_go ?_
  have hrun : (Instr.takeDeferred d).run P w = .ok [] { w with heap := w.heap.setIfInBounds d (.deferred none) } := by
    simp [Instr.takeDeferred, getObj, setObj, Sem.run, hd]
  simp [stepG, leaving, unwind, mark, hrun]
theorem st_leave {fn : Func} {v : Value} {c : Frame} {todo : List Item} (hf : P.funcs[b.fn]? = some fn) (hk : b.kind = .normal) (hr : (results fn tm).run P w = .ok v w) :
    step P (lone (leaving b tm [] todo) (c :: cs) w) = .next (lone (c.finish v) cs w) :=
  step_lone_go (by simp [stepG, unwind, doReturn, leaving, hk, hf, hr])

/-! A loop over a function. -/
theorem run_enterLoop {params : Array Tmp} {asg body : Code} (f : Nat) (tm : Array Value) :
    (Instr.enterLoop f tm params asg body none).run P w = .ok (w.heap.size + 1, [mark w.heap.size])
      ((w.alloc (.deferred (some []))).alloc (.loop { state := .ready, pending := none, fn := f, tmps := tm, params := params, assign := asg, body := body, defers := w.heap.size })) := by
  simp [Instr.enterLoop, newObj, Sem.run, World.alloc, mark, Array.push]

theorem run_enterLoop_in {params : Array Tmp} {asg body : Code} (f : Nat) (tm : Array Value) {l0 : Nat} {r0 : Loop} (h0 : w.heap[l0]? = some (.loop r0)) :
    (Instr.enterLoop f tm params asg body (some l0)).run P w = .ok (w.heap.size, [])
      (w.alloc (.loop { state := .ready, pending := none, fn := f, tmps := tm, params := params, assign := asg, body := body, defers := r0.defers })) := by
  simp [Instr.enterLoop, Instr.getLoop, newObj, getObj, Sem.run, World.alloc, Array.push, h0]

/-- How a value is called. -/
def callV (f : Value) (args : Array Value) : Sem Next := do let d ← Deferred.ofValue f args; invoke d.target d.args

theorem st_rangeFunc {x : Operand} {params : Array Tmp} {asg body : Code} {nx : Next} {f0 : Frame} {w1 w2 : World} {l : Nat} {mk : List Deferred}
    (he : (Instr.enterLoop b.fn tm params asg body b.roundOf).run P w = .ok (l, mk) w1) (hc : (callV (evalT tm x) #[.func (.yield l) #[] #[]]).run P w1 = .ok nx w2) (hn : begins P nx = some f0) :
    step P (lone (fa b tm df (.code (.rangeFunc x params asg body) :: k)) cs w) = .next (lone f0 (fa b tm (mk ++ df) (.inRangeFunc l :: k) :: cs) w2) := by
  refine step_lone_go ?_
  have hev := congrFun (fa_eval b tm (mk ++ df) (.inRangeFunc l :: k)) x
  simp only [fa] at hev
  have hc' : (do let d ← resolve (Frame.eval { b with tmps := tm, defers := mk ++ df, todo := .inRangeFunc l :: k, mode := .run }) { callee := .value x, args := #[.const (.func (.yield l) #[] #[])], argTypes := #[] } 0; invoke d.target d.args : Sem Next).run P w1 = .ok nx w2 := by
    rw [← hc]
    simp only [resolve, callV, List.map_toArray, List.map_cons, List.map_nil, hev]
    rfl
  simp only [stepG, stepG.exec, fa, Sem.runT_eq, he, GStep.bare_after]
  cases nx <;> simp only [begins, reduceCtorEq, Option.some.injEq] at hn
  · subst hn; simp [stepG.apply, hc']
  · subst hn; simp [stepG.apply, hc']

theorem fa_finish_range {l : Nat} (v : Value) : (fa b tm df (.inRangeFunc l :: k)).finish v = fa b tm df (.endRangeFunc l :: k) := rfl

theorem st_endRange {l : Nat} {r : Loop} (hl : w.heap[l]? = some (.loop r)) (hs : r.state ≠ .busy) :
    step P (lone (fa b tm df (.endRangeFunc l :: k)) cs w) = .next (lone (fa b tm df ((r.pending.map Item.code).toList ++ k)) cs { w with heap := w.heap.setIfInBounds l (.loop { r with state := .exhausted }) }) := by
  refine step_lone_go ?_
  have hrun : (Instr.endLoop l).run P w = .ok r.pending { w with heap := w.heap.setIfInBounds l (.loop { r with state := .exhausted }) } := by
    have : (r.state == LoopState.busy) = false := by simpa using hs
    simp [Instr.endLoop, Instr.getLoop, getObj, setObj, Sem.run, hl, this]
    exact fun h => absurd h hs
  simp [stepG, stepG.exec, fa, hrun]
end
end Gz
