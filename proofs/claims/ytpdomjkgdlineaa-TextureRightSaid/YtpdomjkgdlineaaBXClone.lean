/- slices.Clone. -/
import Derived.Test.YtpdomjkgdlineaaBXTyp
import Derived.Laws.Cover3
set_option linter.unusedVariables false
set_option linter.unusedSimpArgs false
set_option linter.unnecessarySimpa false
set_option linter.deprecated false
namespace Gz
open Go

section
variable {P : Program} {B C : Cfg}

/-- At its end a piece of code lets go. -/
theorem code_end {c : Code} {fid n0 : Nat} {fz keepX : List Nat} {fr fr2 fr' : List LV} {st st2 st' : St} {x : X} (hn : st.L.length = n0) (hlo : st.lo = 0) (h : CodeOK P c fid fr st x fr2 st2)
    (hcan' : canF C fz keepX n0 fr2 st2 = some (fr', st')) : CodeOK P c fid fr st x fr' st' := by
  intro R w tm b df k cs hb hs hf hin
  obtain ⟨R2, w2, tm2, ds2, b1, b2, b3, b4, b5, b6, b7, b8⟩ := (h R w tm b df k cs hb hs hf hin).out
  obtain ⟨Rp, p1, p2, p3, p4, p5⟩ := prep_sound (fz := fz) b2 b3
  have e2 := b4.trans p3
  have m2 := b5.trans b4.size p4
  obtain ⟨R3, d1, d2, d3⟩ := canon_sound p1 p2 (by rw [← hn]; exact m2.len) hcan'
  exact ⟨R3, w2, tm2, ds2, b1, d1, d2, d3.ext hs hn e2, d3.wm hn hlo m2, by rw [d3.D, p5, b6], b7, b8⟩

def cloneS (k : Nat) (g : Tag) : SpecE := ⟨k, [.o (.slv g)], fun args K => bif room ([] : List (El g)) (exT g (args.getD 0 .u)) then K (.slv ⟨g, exT g (args.getD 0 .u)⟩, []) else none⟩

/-- It is handed back, and nothing else is left. -/
def tellK (B : Cfg) : Kont := fun x fr st => match x with
  | .r => match canF B [2] [2] 0 fr st with
    | some (fr', ⟨[], 0⟩) => some (.tu fr', [])
    | _ => none
  | _ => none

theorem code_tell (h : Base P B) (gas : Nat) {c : Code} {k : Nat} {fr fr' : List LV} (he : ev (B.with_ [] []) gas (.code c) k fr ⟨[], 0⟩ (tellK B) = some (.tu fr', [])) : CodeOK P c k fr ⟨[], 0⟩ .r fr' ⟨[], 0⟩ := by
  obtain ⟨x, fr2, st2, h1, h2⟩ := h.sound (S := []) (I := []) all_nil all_nil gas _ _ _ _ _ _ he
  have h2 : CodeOK P c k fr ⟨[], 0⟩ x fr2 st2 := h2
  unfold tellK at h1
  split at h1
  · split at h1
    · rename_i q hq
      cases h1
      exact code_end (fz := [2]) (keepX := [2]) rfl rfl h2 hq
    · cases h1
  · cases h1

theorem clone_ok (h : Base P B) {k : Nat} {g : Tag} {t t' e : Nat} {f : Func} {i0 i1 : Nat} {o0 o1 o2 : Oper} {A : Code} {rest : Code} (hf : B.fn k = some f) (hb : f.body = some (.seq (.region i0 #[o0] false) (.seq (.seq (.region i1 #[o1, o2] false) (.cond (.tmp 4) A .skip)) rest)))
    (h0 : o0.op = .assign (.const (.slice none 0 0)) ∧ o0.dst = some 2 ∧ o0.guard = none) (h1 : o1.op = .move (.tmp 0) ∧ o1.dst = some 3 ∧ o1.guard = none) (h2 : o2.op = .binOp .eql t (.tmp 3) (.const (.slice none 0 0)) t' ∧ o2.dst = some 4 ∧ o2.guard = none)
    (ht : (B.ty t).k = .slice g e) (hres : f.results = #[.tmp 2]) (hn : f.ntmps = 8)
    (hE : CodeOK P A k [.slv ⟨g, []⟩, .u, .u, .u, .b true, .u, .u, .u] ⟨[], 0⟩ .r [.u, .u, .slv ⟨g, []⟩, .u, .u, .u, .u, .u] ⟨[], 0⟩)
    (hF : ∀ l : List (El g), room ([] : List (El g)) l = true → CodeOK P rest k [.slv ⟨g, l⟩, .u, .u, .u, .b false, .u, .u, .u] ⟨[], 0⟩ .r [.u, .u, .slv ⟨g, l⟩, .u, .u, .u, .u, .u] ⟨[], 0⟩) : (cloneS k g).OK P B := by
  intro args K r hc hr
  have hroom : room ([] : List (El g)) (exT g (args.getD 0 .u)) = true := by
    cases hq : room ([] : List (El g)) (exT g (args.getD 0 .u)) with
    | true => rfl
    | false => simp only [cloneS, hq, cond_false] at hr; cases hr
  have hr : K (.slv ⟨g, exT g (args.getD 0 .u)⟩, []) = some r := by simpa only [cloneS, hroom, cond_true] using hr
  refine ⟨_, hr, ?_⟩
  match args, hc with
  | [], hc => cases hc
  | _ :: _ :: _, hc => exact absurd (and_b hc).2 (by simp [chkL])
  | [v], hc =>
    have hv : chk0 (.slv g) v = true := (and_b hc).1
    have := chk0xok hv
    simp only [nor0] at this
    have hroom2 : room ([] : List (El g)) (exT g v) = true := hroom
    show PureOK P B k [v] (.slv ⟨g, exT g v⟩, [])
    generalize hl : exT g v = l at this hroom2 ⊢
    subst this
    refine ⟨f, _, .r, [.u, .u, .slv ⟨g, l⟩, .u, .u, .u, .u, .u], ⟨[], 0⟩, .slv ⟨g, l⟩, hf, hb, ?_, .inl rfl, by simp [resVals, hres], by simp [out, out2, outV, outOne] ⟩
    intro R w tm b df kk cs hb0 hs hf0 hin
    have hf0 : VLR R w [.slv ⟨g, l⟩, .u, .u, .u, .u, .u, .u, .u] tm.toList := by rw [hn] at hf0; exact hf0
    -- the slots
    obtain ⟨u0, us, htm, hv0, hvs⟩ := hf0.of_cons
    have hsz : tm.size = 8 := by have := hf0.1; simpa using this.symm
    have hw0 : ∀ (ops : Array Oper) (tm : Array Value), Region.wanted o0 (yielded ops tm) = true := fun _ _ => by simp [Region.wanted, h0.2.2]
    have hw1 : ∀ (ops : Array Oper) (tm : Array Value), Region.wanted o1 (yielded ops tm) = true := fun _ _ => by simp [Region.wanted, h1.2.2]
    have hw2 : ∀ (ops : Array Oper) (tm : Array Value), Region.wanted o2 (yielded ops tm) = true := fun _ _ => by simp [Region.wanted, h2.2.2]
    obtain ⟨ad, cap, hu0, hA⟩ : ∃ ad cap, u0 = .slice ad (TL.len ⟨g, l⟩) cap ∧ (ad = none → l = []) := by
      cases hv0 with
      | slv hc hro hx h1 hl hV => exact ⟨_, _, rfl, fun h => by cases h⟩
      | slve h => exact ⟨_, _, by rw [h], fun _ => List.eq_nil_of_length_eq_zero h⟩
    obtain ⟨inf, d, z, e1, e2, e3, e4, _⟩ := (h.ok.ty t).out (by simp [tyKnown, ht])
    rw [ht] at e4
    cases d <;> (try simp only [DescOK] at e4)
    rename_i el
    let tm1 := putV tm o0.dst (.slice none 0 0)
    let tm2 := putV tm1 o1.dst u0
    let tm3 := putV tm2 o2.dst (.bool ad.isNone)
    have htm0 : tm.getD 0 undef = u0 := by
      have := congrArg (·[0]?) htm
      simp at this
      rw [Array.getD_eq_getD_getElem?, this]; rfl
    have htm1 : tm1.getD 0 undef = u0 := by
      simp only [tm1, putV, h0.2.1]; rw [Array.getD_eq_getD_getElem?, Array.getElem?_setIfInBounds_ne (by simp), ← Array.getD_eq_getD_getElem?]; exact htm0
    have htm2 : tm2.getD 3 undef = u0 := by
      have h8 : tm1.size = 8 := by simp [tm1, putV, h0.2.1, hsz]
      simp only [tm2, putV, h1.2.1]; rw [Array.getD_eq_getD_getElem?, Array.getElem?_setIfInBounds_self_of_lt (by omega)]; rfl
    have s1 : Steps P (lone (fa b tm df (.code (.seq (.region i0 #[o0] false) (.seq (.seq (.region i1 #[o1, o2] false) (.cond (.tmp 4) A .skip)) rest)) :: kk)) cs w) (lone (fa b tm3 df (.code (.cond (.tmp 4) A .skip) :: .code rest :: kk)) cs w) := by
      refine .head st_seq (.head st_region ?_)
      refine .head (st_op (o := o0) rfl (hw0 _ _) (fun c hc => by rw [h0.1] at hc; cases hc) (nx := .value (.slice none 0 0)) (u := .slice none 0 0) (w' := w) (by simp [execOp, h0.1, evalT]) rfl) ?_
      refine .head st_region_end (.head st_seq (.head st_seq (.head st_region ?_)))
      refine .head (st_op (o := o1) rfl (hw1 _ _) (fun c hc => by rw [h1.1] at hc; cases hc) (nx := .value u0) (u := u0) (w' := w) (by simp only [execOp, h1.1, evalT]; rw [htm1]; rfl) rfl) ?_
      refine .head (st_op (o := o2) rfl (hw2 _ _) (fun c hc => by rw [h2.1] at hc; cases hc) (nx := .value (.bool ad.isNone)) (u := .bool ad.isNone) (w' := w) ?_ rfl) ?_
      · simp only [execOp, h2.1, evalT]
        rw [htm2, hu0]
        simp [eqGuard, Go.binOp, run_equal_slice_nil w t el ad _ cap e2]
      · exact .head st_region_end (.refl _ _)
    -- the abstract frame there
    have hf3 : VLR R w [.slv ⟨g, l⟩, .u, .u, .u, .b ad.isNone, .u, .u, .u] tm3.toList := by
      have := ((hf0.set 2 (a := .u) (v := .slice none 0 0) (.u _)).set 3 (a := .u) (v := u0) (.u _)).set 4 (a := .b ad.isNone) (v := .bool ad.isNone) (.b _)
      simpa [tm3, tm2, tm1, putV, h0.2.1, h1.2.1, h2.2.1] using this
    refine .of_steps s1 ?_
    cases hAn : ad with
    | none =>
      have := hA hAn
      subst this
      rw [hAn] at hf3
      have h4 := ok_cond (C := B) (c := .tmp 4) (a := A) (d := .skip) (fid := k) (t := true) (fr := [.slv ⟨g, []⟩, .u, .u, .u, .b true, .u, .u, .u]) rfl hE
      exact After.pass (k' := .code rest :: kk) (by simp) (fun _ _ => rfl) (h4 R w tm3 b df (.code rest :: kk) cs hb0 hs hf3 hin)
    | some a =>
      rw [hAn] at hf3
      have h4 := ok_cond (P := P) (C := B) (c := .tmp 4) (a := A) (d := .skip) (fid := k) (t := false) (fr := [.slv ⟨g, l⟩, .u, .u, .u, .b false, .u, .u, .u]) (st := ⟨[], 0⟩) rfl ok_skip
      exact .then hin (h4 R w tm3 b df (.code rest :: kk) cs hb0 hs hf3 hin) fun R1 w1 tm1 df1 s1 f1 r1 => hF l hroom2 R1 w1 tm1 b df1 kk cs hb0 s1 f1 r1
end
end Gz
