/- Kept loops. -/
import Derived.Test.YtpdomjkgdlineaaBXCanon2
set_option linter.unusedVariables false
set_option linter.unusedSimpArgs false
set_option linter.unnecessarySimpa false
set_option linter.deprecated false
namespace Gz
open Go

section
variable {P : Program} {C : Cfg}

theorem CanOK.ext {R0 R R' : Rl} {st0 st st' : St} {w0 w : World} {n0 : Nat} (h : CanOK R R' st st' n0) (h0 : Sim R0 st0 w0) (hn : st0.L.length = n0) (e : Ext R0 R w0 w) : Ext R0 R' w0 w :=
  ⟨fun o l ho => (h.ρ o (by rw [← hn]; exact h0.dom o l ho)).trans (e.ρ o l ho), fun b hb => by rw [h.ro]; exact e.ro b hb, e.keeps, h.base.trans e.base, h.w0.trans e.w0, e.size⟩
theorem CanOK.wm {R0 R R' : Rl} {st0 st st' : St} {w0 w : World} {n0 : Nat} (h : CanOK R R' st st' n0) (hn : st0.L.length = n0) (hlo : st0.lo = 0) (m : Wm R0 R st0 st w0 w) : Wm R0 R' st0 st' w0 w := by
  refine ⟨h.lo.trans m.lo, by rw [hn]; exact h.len, m.same, ?_, fun o ho => by omega, ?_, fun o ho => m.nl o (h.nl o ho).2, fun o ho => (h.ρ o (by omega)).trans (m.rho o ho), fun b hb hr => m.rof b hb (by rw [← h.ro]; exact hr), fun b hb hh => m.hasb b hb (h.hasb b hh)⟩
  · intro b hb ⟨o, l, h1, h2, h3, h4⟩
    obtain ⟨o', l', h5, h6, h7⟩ := h.hasb b ⟨o, l, h1, h2, h4⟩
    exact m.own b hb ⟨o', l', h5, h6, by rw [m.lo, hlo]; exact Nat.zero_le _, h7⟩
  · intro o fr ps a b f p s ho
    obtain ⟨p', s', h1⟩ := m.lp o fr ps a b f p s ho
    exact ⟨p', s', h.lp o fr ps a b f p' s' (by rw [← hn]; exact (List.getElem?_eq_some_iff.1 ho).1) h1⟩

/-- At a loop's head, seen from where the loop began. -/
def HeadOK (P : Program) (c : Code) (fid n0 : Nat) (fr : List LV) (st : St) (x : X) (fr' : List LV) (st' : St) : Prop :=
  ∀ (R0 : Rl) (st0 : St) (w0 : World) (R : Rl) (w : World) (tm : Array Value) (b : Frame) (df : List Deferred) (k : List Item) (cs : List Frame) (ds : List Nat), b.fn = fid → Sim R0 st0 w0 → st0.L.length = n0 → st0.lo = 0 → InRound b R0 st0 →
    Sim R st w → VLR R w fr tm.toList → Ext R0 R w0 w → Wm R0 R st0 st w0 w → R.D = ds ++ R0.D → (b.roundOf.isSome = true → ds = []) → (∀ d, d ∈ ds → w0.heap.size ≤ d) →
      After P (lone (fa b tm (ds.map mark ++ df) (.code c :: .inLoop c :: k)) cs w) R0 st0 w0 b df k cs x fr' st'

theorem head_step {c : Code} {fid n0 : Nat} {keep : List Nat} {fr fr1 fr2 fr' : List LV} {st st1 st2 st' : St} {x : X} (hcan : canon C keep n0 fr st = some (fr1, st1)) (h : CodeOK P c fid fr1 st1 .n fr2 st2) (h' : HeadOK P c fid n0 fr2 st2 x fr' st') : HeadOK P c fid n0 fr st x fr' st' := by
  intro R0 st0 w0 R w tm b df k cs ds hb hs0 hn hlo hin hs hf e m hD hds1 hds2
  obtain ⟨R1, a1, a2, a3⟩ := canon_sound hs hf (by rw [← hn]; exact m.len) hcan
  have e1 := a3.ext hs0 hn e
  have m1 := a3.wm hn hlo m
  obtain ⟨R2, w2, tm2, ds2, b1, b2, b3, b4, b5, b6, b7, b8⟩ := (h R1 w tm b (ds.map mark ++ df) (.inLoop c :: k) cs hb a1 a2 (hin.step e1 m1)).out
  have := h' R0 st0 w0 R2 w2 tm2 b df k cs (ds2 ++ ds) hb hs0 hn hlo hin b2 b3 (e1.trans b4) (m1.trans e1.size b5) (by rw [b6, a3.D, hD, List.append_assoc]) (fun hr => by rw [b7 hr, hds1 hr]; rfl) (fun d hd => by
    rcases List.mem_append.1 hd with hd | hd
    · exact Nat.le_trans e.size (b8 d hd)
    · exact hds2 d hd)
  refine .of_steps (Steps.trans b1 (.one st_inLoop)) ?_
  rwa [List.map_append, List.append_assoc] at this

theorem head_leave {c : Code} {fid n0 : Nat} {keep : List Nat} {fr fr1 fr' : List LV} {st st1 st' : St} {x : X} (hx : x ≠ .n) (hcan : canon C keep n0 fr st = some (fr1, st1)) (h : CodeOK P c fid fr1 st1 x fr' st') : HeadOK P c fid n0 fr st x fr' st' := by
  intro R0 st0 w0 R w tm b df k cs ds hb hs0 hn hlo hin hs hf e m hD hds1 hds2
  obtain ⟨R1, a1, a2, a3⟩ := canon_sound hs hf (by rw [← hn]; exact m.len) hcan
  have e1 := a3.ext hs0 hn e
  have m1 := a3.wm hn hlo m
  obtain ⟨R2, w2, tm2, ds2, b1, b2, b3, b4, b5, b6, b7, b8⟩ := (h R1 w tm b (ds.map mark ++ df) (.inLoop c :: k) cs hb a1 a2 (hin.step e1 m1)).out
  refine ⟨R2, w2, tm2, ds2 ++ ds, ?_, b2, b3, e1.trans b4, m1.trans e1.size b5, by rw [b6, a3.D, hD, List.append_assoc], fun hr => by rw [b7 hr, hds1 hr]; rfl, fun d hd => ?_⟩
  · rw [List.map_append, List.append_assoc]
    exact Arr.pass (k' := .inLoop c :: k) hx (fun _ _ => rfl) b1
  · rcases List.mem_append.1 hd with hd | hd
    · exact Nat.le_trans e.size (b8 d hd)
    · exact hds2 d hd

theorem loopIt_ok {c : Code} {fid n0 : Nat} {keep : List Nat} {body : List LV → St → Kont → Option Res} (hb : ∀ fr st K r, body fr st K = some r → ∃ x fr' st', K x fr' st' = some r ∧ CodeOK P c fid fr st x fr' st') :
    ∀ (n : Nat) (fr : List LV) (st : St) (K : Kont) (r : Res), loopIt body (canon C keep n0) n fr st K = some r → ∃ x fr' st', K x fr' st' = some r ∧ HeadOK P c fid n0 fr st x fr' st'
  | 0, fr, st, K, r, h => by simp [loopIt] at h
  | n + 1, fr, st, K, r, h => by
    simp only [loopIt] at h
    split at h
    · cases h
    · rename_i q hq
      obtain ⟨fr1, st1⟩ := q
      obtain ⟨x, fr2, st2, h1, h2⟩ := hb _ _ _ _ h
      cases x with
      | n =>
        obtain ⟨x, fr', st', h3, h4⟩ := loopIt_ok hb n fr2 st2 K r h1
        exact ⟨x, fr', st', h3, head_step hq h2 h4⟩
      | e id => exact ⟨_, fr2, st2, h1, head_leave (by simp) hq h2⟩
      | r => exact ⟨_, fr2, st2, h1, head_leave (by simp) hq h2⟩
      | v y => exact ⟨_, fr2, st2, h1, head_leave (by simp) hq h2⟩

theorem head_loop {c : Code} {fid : Nat} {fr fr' : List LV} {st st' : St} {x : X} (hlo : st.lo = 0) (h : HeadOK P c fid st.L.length fr st x fr' st') : CodeOK P (.loop c) fid fr st x fr' st' := by
  intro R w tm b df k cs hb hs hf hin
  exact .of_steps (.one st_loop) (h R st w R w tm b df k cs [] hb hs rfl hlo hin hs hf (Ext.refl R w) (Wm.refl R st w) rfl (fun _ => rfl) (fun d hd => by cases hd))
end
end Gz
