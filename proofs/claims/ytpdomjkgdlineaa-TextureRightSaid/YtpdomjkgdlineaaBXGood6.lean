/- Each operation of the machine does what the evaluator says. -/
import Derived.Test.YtpdomjkgdlineaaBXGood5
set_option linter.unusedVariables false
set_option linter.unusedSimpArgs false
set_option linter.unnecessarySimpa false
set_option linter.deprecated false
namespace Gz
open Go

section
variable {P : Program} {C : Cfg} {R : Rl} {st : St} {w : World} {fr : List LV} {tmps : Array Value}

theorem good_builtin {o : Oper} {b : Builtin} {args : Array Operand} {ts : Array Nat} {v : LV} {st' : St} (hC : CfgOK P C) (hs : Sim R st w) (hf : VLR R w fr tmps.toList) (ho : o.op = .call { callee := .builtin b, args := args, argTypes := ts })
    (h : evBuiltin C fr st b args ts = some (true, v, st')) : Good P R st w (execOp (evalT tmps) o) v st' := by
  have hmm : (if args.size = ts.size then (minMax b ((args.toList.zip ts.toList).map fun p => valT C fr p.2 p.1)).bind fun v => some (true, v, st) else none) = some (true, v, st') → Good P R st w (execOp (evalT tmps) o) v st' := by
    intro h
    split at h
    case isFalse => cases h
    rename_i hl
    cases hm : minMax b ((args.toList.zip ts.toList).map fun p => valT C fr p.2 p.1) with
    | none => rw [hm] at h; simp at h
    | some r =>
      rw [hm] at h
      simp only [Option.bind_some, Option.some.injEq, Prod.mk.injEq, true_and] at h
      obtain ⟨rfl, rfl⟩ := h
      exact good_minmax hs hf ho hm hl
  unfold evBuiltin at h
  split at h
  · split at h
    case h_2 => cases h
    rename_i x t ha ht
    have ha : args = #[x] := by have := congrArg List.toArray ha; simpa using this
    have ht : ts = #[t] := by have := congrArg List.toArray ht; simpa using this
    subst ha; subst ht
    cases hl : lenOf C st t (valT C fr t x) with
    | none => rw [hl] at h; simp at h
    | some r =>
      rw [hl] at h
      simp only [Option.bind_some, Option.some.injEq, Prod.mk.injEq, true_and] at h
      obtain ⟨rfl, rfl⟩ := h
      exact good_len hC hs hf ho hl
  · split at h
    case h_2 => cases h
    rename_i x y t t' ha ht
    have ha : args = #[x, y] := by have := congrArg List.toArray ha; simpa using this
    have ht : ts = #[t, t'] := by have := congrArg List.toArray ht; simpa using this
    subst ha; subst ht
    split at h
    case isFalse => cases h
    rename_i htt
    subst htt
    exact good_append hC hs hf ho h
  · exact hmm h

theorem evOp_good {o : Oper} {v : LV} {st' : St} (hC : CfgOK P C) (hE : ∀ t z, C.eqT t = some z → EqOK P t z) (hs : Sim R st w) (hf : VLR R w fr tmps.toList) (h : evOp C fr st o = some (true, v, st')) :
    Good P R st w (execOp (evalT tmps) o) v st' := by
  cases ho : o.op with
  | move x =>
    unfold evOp at h; simp only [ho, Option.some.injEq, Prod.mk.injEq, true_and] at h
    obtain ⟨rfl, rfl⟩ := h
    exact good_move hs hf (.inl ho) _
  | assign x =>
    unfold evOp at h; simp only [ho, Option.some.injEq, Prod.mk.injEq, true_and] at h
    obtain ⟨rfl, rfl⟩ := h
    exact good_move hs hf (.inr ho) _
  | pick c a b =>
    unfold evOp at h; simp only [ho] at h
    split at h
    · rename_i t hc
      simp only [Option.some.injEq, Prod.mk.injEq, true_and] at h
      obtain ⟨rfl, rfl⟩ := h
      exact good_pick hs hf ho hc
    · cases h
  | alloc t =>
    unfold evOp at h; simp only [ho] at h
    cases hz : zeroObj C t with
    | none => rw [hz] at h; simp at h
    | some ob =>
      rw [hz] at h
      simp only [Option.bind_some, Option.some.injEq, Prod.mk.injEq, true_and] at h
      obtain ⟨rfl, rfl⟩ := h
      exact good_alloc hC hs ho hz
  | box t x =>
    unfold evOp at h; simp only [ho] at h
    cases hz : newVar C t (valT C fr t x) with
    | none => rw [hz] at h; simp at h
    | some ob =>
      rw [hz] at h
      simp only [Option.bind_some, Option.some.injEq, Prod.mk.injEq, true_and] at h
      obtain ⟨rfl, rfl⟩ := h
      exact good_box hC hs hf ho hz
  | build t ps => exact good_build hC hs hf ho h
  | buildSlice t n ps => exact good_buildSlice hC hs hf ho h
  | makeSlice t x y => exact good_makeSlice hC hs hf ho h
  | load t x =>
    unfold evOp at h; simp only [ho] at h
    cases hz : loadAt C st t (val C fr x) with
    | none => rw [hz] at h; simp at h
    | some r =>
      rw [hz] at h
      simp only [Option.bind_some, Option.some.injEq, Prod.mk.injEq, true_and] at h
      obtain ⟨rfl, rfl⟩ := h
      exact good_load hC hs hf ho hz
  | store t x y =>
    unfold evOp at h; simp only [ho] at h
    cases hz : storeAt C st t (val C fr x) (valT C fr t y) with
    | none => rw [hz] at h; simp at h
    | some r =>
      rw [hz] at h
      simp only [Option.bind_some, Option.some.injEq, Prod.mk.injEq, true_and] at h
      obtain ⟨rfl, rfl⟩ := h
      exact good_store hC hs hf ho hz
  | nilCheck x => exact good_nilCheck hs hf ho h
  | binOp op t x y t' =>
    unfold evOp at h; simp only [ho] at h
    cases hz : bin C t op (valT C fr t x) (valT C fr t' y) with
    | none => rw [hz] at h; simp at h
    | some r =>
      obtain ⟨b, r⟩ := r
      rw [hz] at h
      simp only [Option.bind_some, Option.some.injEq, Prod.mk.injEq] at h
      obtain ⟨rfl, rfl, rfl⟩ := h
      exact good_bin hC hE hs hf ho hz
  | unOp op t x => exact good_unOp hs hf ho h
  | convert s t x => exact good_convert hC hs hf ho h
  | makeFunc fn first caps =>
    unfold evOp at h; simp only [ho] at h
    cases fn <;> simp only [reduceCtorEq] at h
    split at h
    · rename_i h0
      simp only [Option.some.injEq, Prod.mk.injEq, true_and] at h
      obtain ⟨rfl, rfl⟩ := h
      exact good_makeFunc hs hf ho h0
    · cases h
  | fieldAddr t x f => exact good_fieldAddr hC hs hf ho h
  | indexAddr t x ix => exact good_indexAddr hC hs hf ho h
  | index t x ix => exact good_index hC hs hf ho h
  | slice t x lo hi mx =>
    cases mx with
    | none => exact good_slice hC hs hf ho h
    | some m => unfold evOp at h; simp only [ho, reduceCtorEq] at h
  | extract x n =>
    unfold evOp at h; simp only [ho] at h
    split at h
    · rename_i vs hx
      split at h
      · rename_i hn
        simp only [Option.some.injEq, Prod.mk.injEq, true_and] at h
        obtain ⟨rfl, rfl⟩ := h
        exact good_extract hs hf ho hx hn
      · cases h
    · cases h
  | call c =>
    obtain ⟨callee, args, ts⟩ := c
    cases callee with
    | builtin b =>
      unfold evOp at h; simp only [ho] at h
      exact good_builtin hC hs hf ho h
    | value f => unfold evOp at h; simp only [ho, reduceCtorEq] at h
    | invoke r m => unfold evOp at h; simp only [ho, reduceCtorEq] at h
  | _ => unfold evOp at h; simp only [ho, reduceCtorEq] at h
end
end Gz
