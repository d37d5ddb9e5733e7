/- Calls that share the store, and rounds of a loop. -/
import Derived.Test.YtpdomjkgdlineaaBXCall
set_option linter.unusedVariables false
set_option linter.unusedSimpArgs false
set_option linter.unnecessarySimpa false
set_option linter.deprecated false
namespace Gz
open Go

section
variable {P : Program} {C : Cfg} {R : Rl} {st st1 : St} {w : World}

/-- A function's body has come to its end. -/
theorem leave_ok {b : Frame} {f : Func} {k : Nat} {x : X} {fr1 : List LV} {v : LV} {m : Machine} {c : Frame} {cs : List Frame} (hC : CfgOK P C) (hf : C.fn k = some f) (hb : b.fn = k) (hr : b.roundOf = none) (hk : b.kind = .normal) (hs : Sim R st w)
    (h : After P m R st w b [] [] (c :: cs) x fr1 st1) (hx : x = .r ∨ x = .n) (hv : resVals C f fr1 st1 = some v) :
    ∃ R' w' u, Steps P m (lone (c.finish u) cs w') ∧ VR R' w' v u ∧ Sim R' st1 w' ∧ Ext R R' w w' ∧ Wm R R' st st1 w w' ∧ R'.D = R.D := by
  obtain ⟨R1, w1, tm1, ds, a1, a2, a3, a4, a5, a6, a7, a8⟩ := h
  have hst : ∃ todo, Steps P m (lone (leaving b tm1 (ds.map mark) todo) (c :: cs) w1) := by
    rw [List.append_nil] at a1
    rcases hx with rfl | rfl
    · obtain ⟨k0, h1⟩ := a1
      exact ⟨_, h1.trans (.one (st_ret hr))⟩
    · exact ⟨_, Steps.trans a1 (.one (st_end hr))⟩
  obtain ⟨todo, hst⟩ := hst
  have hlp : ∀ d o b tm, d ∈ ds → LoopAt st1 o → R1.ρ o = some (.lp b d tm) → False := by
    intro d o b tm hd hl hρ
    have hl0 := a5.nl o hl
    obtain ⟨fr, ps, asg, bd, fd, p, s, h0⟩ := hl0
    have ho : o < st.L.length := (List.getElem?_eq_some_iff.1 h0).1
    rw [a5.rho o ho] at hρ
    have h1 := hs.obj o _ _ hρ h0
    have h2 := (Array.getElem?_eq_some_iff.1 h1.2.2).1
    have := a8 d hd
    omega
  obtain ⟨w2, b1, b2, b3, b4, b5⟩ := take_all (P := P) (b := b) (tm := tm1) (todo := todo) (cs := c :: cs) a2 a6 hlp
  have a3' : VLR { R1 with D := R.D } w2 fr1 tm1.toList := VL.mono a3 (fun _ _ h => h) (fun _ h => h) b3
  obtain ⟨u, c1, c2⟩ := resVals_sound hC b2 a3' hv
  refine ⟨{ R1 with D := R.D }, w2, u, (hst.trans b1).trans (.one (st_leave (fn := f) (by rw [hb]; exact (hC.fn k f hf).1) hk c1)), c2, b2, ⟨a4.ρ, a4.ro, ⟨fun b hb => (b3.same b (a4.ro b hb)).trans (a4.keeps.same b hb)⟩, a4.base, a4.w0, by rw [b4]; exact a4.size⟩,
    ⟨a5.lo, a5.len, fun k hk hn => (b5 k (fun hd => by have := a8 k hd; omega)).trans (a5.same k hk hn), a5.own, a5.old, a5.lp, a5.nl, a5.rho, a5.rof, a5.hasb⟩, rfl⟩

theorem enter_ok {k : Nat} {f : Func} {body : Code} {fv : Value} {caps args vals : List LV} {av : Array Value} (hC : CfgOK P C) (hf : C.fn k = some f) (hb : f.body = some body) (hfv : VR R w (.fn k caps) fv) (hav : VLR R w args av.toList)
    (hva : normArgs C f.params.toList (args ++ caps) = some vals) : ∃ (b : Frame) (tm : Array Value), b.fn = k ∧ b.roundOf = none ∧ b.kind = .normal ∧ (callV fv av).run P w = .ok (.enter k (av ++ (match fv with | .func _ _ cs => cs | _ => #[]))) w ∧
      begins P (.enter k (av ++ (match fv with | .func _ _ cs => cs | _ => #[]))) = some (fa b tm [] [.code body]) ∧ ∃ us, VLR R w vals us ∧ tm.toList = us ++ List.replicate (f.ntmps - us.length) undef := by
  obtain ⟨cs, rfl, hcs⟩ := V.fn_inv hfv
  obtain ⟨h1, h2⟩ := hC.fn k f hf
  have hva' : VLR R w vals (av ++ cs).toList := normArgs_sound hva (by rw [Array.toList_append]; exact hav.append hcs)
  refine ⟨{ fn := k, tmps := #[], todo := [], defers := [], mode := .run, kind := .normal }, (av ++ cs) ++ Array.replicate (f.ntmps - (av ++ cs).size) undef, rfl, rfl, rfl, ?_, ?_, ?_⟩
  · simp only [callV, Deferred.ofValue, pure_bind, invoke]
    rw [show (#[] ++ av : Array Value) = av by simp]
    exact run_callFunc h1 h2 hb _
  · simp [begins, Frame.enter, fa, h1, hb]
  · exact ⟨_, hva', by simp⟩

theorem call_ok {k : Nat} {f : Func} {body : Code} {caps args vals fr1 : List LV} {x : X} {v : LV} (hC : CfgOK P C) (hf : C.fn k = some f) (hb : f.body = some body) (hva : normArgs C f.params.toList (args ++ caps) = some vals)
    (h : CodeOK P body k (vals ++ List.replicate (f.ntmps - vals.length) .u) st x fr1 st1) (hx : x = .r ∨ x = .n) (hv : resVals C f fr1 st1 = some v) : CallOK P (.fn k caps) args st v st1 := by
  intro R w fv av c cs hs hfv hav
  obtain ⟨b, tm, e1, e2, e3, e4, e5, us, e6, e7⟩ := enter_ok hC hf hb hfv hav hva
  replace e6 : VLR R w (vals ++ List.replicate (f.ntmps - vals.length) .u) tm.toList := by rw [e7, e6.1]; exact e6.append (VL.replicate_u _ _)
  have h1 := h R w tm b [] [] (c :: cs) e1 hs e6 (fun l hl => by rw [e2] at hl; cases hl)
  exact ⟨_, _, e4, e5, leave_ok hC hf e1 e2 e3 hs h1 hx hv⟩
end
end Gz
