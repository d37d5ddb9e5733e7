/- A function by itself: the kit's Calls. -/
import Derived.Test.YtpdomjkgdlineaaBXEv
import Derived.Calls
set_option linter.unusedVariables false
set_option linter.unusedSimpArgs false
set_option linter.unnecessarySimpa false
set_option linter.deprecated false
namespace Gz
open Go

/-- What a call by itself leaves alone. -/
structure Kept (w w' : World) : Prop where
  old : ∀ b, b < w.heap.size → w'.heap[b]? = w.heap[b]?
  size : w.heap.size ≤ w'.heap.size
  os : w'.os = w.os
  tape : w'.tape = w.tape
  output : w'.output = w.output

section
variable {P : Program} {C : Cfg}

theorem pure_calls (hC : CfgOK P C) {k : Nat} {args : List LV} {res : Res} (h : PureOK P C k args res) {w : World} {av : Array Value} (ro : Nat → Prop)
    (hro : ∀ b, ro b → b < w.heap.size) (hV : VL (fun _ => none) ro w args av.toList) :
    Calls P k av w fun e w' => ∃ u, e = .returned u ∧ Kept w w' ∧ ∃ (ls : List Loc) (ro' : Nat → Prop), ∀ ρ, At 0 ls ρ → V ρ ro' w' (shift 0 res.1) u := by
  intro cs
  obtain ⟨f, body, x, fr1, st1, v0, hf, hb, h2, hx, hv, hres⟩ := h
  let R0 : Rl := { ρ := fun _ => none, ro := ro, D := [], base := w.heap.size, w0 := w }
  have hn0 : ∀ o l, R0.ρ o = some l → False := fun _ _ h => by cases h
  have hs0 : Sim R0 ⟨[], 0⟩ w := ⟨fun o l h => (hn0 _ _ h).elim, fun o l ob h => (hn0 _ _ h).elim, fun o o' l l' b h => (hn0 _ _ h).elim, fun o l b h => (hn0 _ _ h).elim, hro, fun d h => absurd h (List.not_mem_nil), List.nodup_nil, fun _ _ => rfl, Nat.le_refl _, rfl, rfl, rfl⟩
  obtain ⟨hf1, hf2⟩ := hC.fn k f hf
  let b : Frame := { fn := k, tmps := #[], todo := [], defers := [], mode := .run, kind := .normal }
  let tm : Array Value := av ++ Array.replicate (f.ntmps - av.size) undef
  have hent : Frame.enter P k av .normal = fa b tm [] [.code body] := by simp [Frame.enter, fa, hf1, hb, b, tm]
  have hfr : VLR R0 w (args ++ List.replicate (f.ntmps - args.length) .u) tm.toList := by
    have hl : av.size = args.length := by rw [← Array.length_toList]; exact hV.1.symm
    show VL _ _ _ _ (av ++ Array.replicate (f.ntmps - av.size) undef).toList
    rw [Array.toList_append, hl, Array.toList_replicate]
    exact hV.append (VL.replicate_u _ _)
  obtain ⟨R1, w1, tm1, ds, a1, a2, a3, a4, a5, a6, a7, a8⟩ := (h2 R0 w tm b [] [] cs rfl hs0 hfr (fun l hl => by cases hl)).out
  have hst : ∃ todo, Steps P (lone (fa b tm [] [.code body]) cs w) (lone (leaving b tm1 (ds.map mark) todo) cs w1) := by
    rw [List.append_nil] at a1
    rcases hx with rfl | rfl
    · obtain ⟨k0, h1⟩ := a1
      exact ⟨_, h1.trans (.one (st_ret rfl))⟩
    · exact ⟨_, Steps.trans a1 (.one (st_end rfl))⟩
  obtain ⟨todo, hst⟩ := hst
  have hlp : ∀ d o b tm, d ∈ ds → LoopAt st1 o → R1.ρ o = some (.lp b d tm) → False := by
    intro d o b tm hd hl hρ
    obtain ⟨fr, ps, asg, bd, fd, p, s, h0⟩ := a5.nl o hl
    simp at h0
  obtain ⟨w2, b1, b2, b3, b4, b5⟩ := take_all (P := P) (b := b) (tm := tm1) (todo := todo) (cs := cs) a2 a6 hlp
  have a3' : VLR { R1 with D := R0.D } w2 fr1 tm1.toList := VL.mono a3 (fun _ _ h => h) (fun _ h => h) b3
  obtain ⟨u, c1, c2⟩ := resVals_sound hC b2 a3' hv
  obtain ⟨ls, d1, d2⟩ := out2xsound (C := C) b2 c2
  have hbase : R1.base = w.heap.size := a4.base
  have hw0 : R1.w0 = w := a4.w0
  refine ⟨.returned u, w2, leaving b tm1 [] todo, ⟨u, rfl, ⟨fun x hx => ?_, ?_, ?_, ?_, ?_⟩, ls, R1.ro, fun ρ hat => ?_⟩, ?_, rfl, ⟨rfl, rfl, rfl, f, hf1, c1⟩⟩
  · have := b2.old x (by show x < R1.base; rw [hbase]; exact hx)
    rw [this]; show R1.w0.heap[x]? = _; rw [hw0]
  · rw [b4]; exact a4.size
  · rw [b2.os]; show R1.w0.os = _; rw [hw0]
  · rw [b2.tape]; show R1.w0.tape = _; rw [hw0]
  · rw [b2.output]; show R1.w0.output = _; rw [hw0]
  · rw [hres]; exact d2 0 ρ hat
  · rw [hent]; exact hst.trans b1
end
end Gz
