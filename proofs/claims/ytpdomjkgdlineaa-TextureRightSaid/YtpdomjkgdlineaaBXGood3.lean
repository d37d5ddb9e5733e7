/- Each operation of the machine does what the evaluator says: the others. -/
import Derived.Test.YtpdomjkgdlineaaBXGood2
set_option linter.unusedVariables false
set_option linter.unusedSimpArgs false
set_option linter.unnecessarySimpa false
set_option linter.deprecated false
namespace Gz
open Go

section
variable {P : Program} {C : Cfg} {R : Rl} {st : St} {w : World} {fr : List LV} {tmps : Array Value}

theorem Good.unit {s : Sem Unit} {o : Oper} {st' : St} {w' : World} {R' : Rl} (h : s.run P w = .ok () w') (hx : (execOp (evalT tmps) o).run P w = (s.run P w).andThen fun _ w => .ok .skip w) (h1 : Sim R' st' w') (h2 : Ext R R' w w') (h3 : Wm R R' st st' w w') (h4 : R'.D = R.D) :
    Good P R st w (execOp (evalT tmps) o) .u st' := ⟨.skip, w', R', undef, by rw [hx, h]; rfl, rfl, .u _, h1, h2, h3, h4⟩

theorem good_load {o : Oper} {t : Nat} {x : Operand} {v : LV} (hC : CfgOK P C) (hs : Sim R st w) (hf : VLR R w fr tmps.toList) (ho : o.op = .load t x) (h : loadAt C st t (val C fr x) = some v) :
    Good P R st w (execOp (evalT tmps) o) v st := by
  obtain ⟨u, h1, h2⟩ := loadAt_sound (hC.ty t) hs h (val_V hf x)
  exact Good.pure hs (by simp only [execOp, ho, Sem.run_bind, h1, Result.andThen_ok, Sem.run_pure]) h2

theorem good_store {o : Oper} {t : Nat} {x y : Operand} {st' : St} (hC : CfgOK P C) (hs : Sim R st w) (hf : VLR R w fr tmps.toList) (ho : o.op = .store t x y) (h : storeAt C st t (val C fr x) (valT C fr t y) = some st') :
    Good P R st w (execOp (evalT tmps) o) .u st' := by
  obtain ⟨w', R', h1, h2, h3, h4, h5⟩ := storeAt_sound (hC.ty t) hs h (val_V hf x) (valT_V hf t y)
  exact Good.unit h1 (by simp only [execOp, ho, Sem.run_bind]; rfl) h2 h3 h4 h5

theorem good_alloc {o : Oper} {t : Nat} {ob : LO} (hC : CfgOK P C) (hs : Sim R st w) (ho : o.op = .alloc t) (h : zeroObj C t = some ob) :
    Good P R st w (execOp (evalT tmps) o) (.p st.L.length 0 0) (new st ob) := by
  have hk : tyKnown C t = true := by
    unfold tyKnown
    unfold zeroObj at h
    split
    · rename_i hh; rw [hh] at h; cases h
    · rfl
  obtain ⟨inf, d, z, h1, h2, h3, h4, h5, h6, h7, h8, h9⟩ := (hC.ty t).out hk
  have hob : (∃ cs, ob = .cells cs ∧ VC R.ρ R.ro w cs z.cells.toList) ∨ (∃ l : TL, ob = .arr l t ∧ 0 < l.len ∧ l.len ≤ 65536 ∧ VC R.ρ R.ro w l.flat z.cells.toList) := by
    unfold zeroObj at h
    split at h
    · rename_i n g e hh
      split at h
      case isFalse => cases h
      rename_i hn
      cases h
      rw [hh] at h4
      cases d <;> (try simp only [DescOK] at h4)
      exact .inr ⟨_, rfl, by simpa [TL.len] using hn, by simpa [TL.len] using h4.2.2.2.2, h9 n g e hh R.ρ R.ro w⟩
    · cases h
    · split at h
      · rename_i hz
        cases h
        exact .inl ⟨_, rfl, h7 hz R.ρ R.ro w⟩
      · cases h
  obtain ⟨R', a1, a2, a3, a4, a5⟩ := new_sound (t := t) hs hob
  refine ⟨.value (.pointer (some ⟨w.heap.size, 0, none⟩)), _, R', _, ?_, rfl, a1, a2, a3, a4, a5⟩
  simp only [execOp, ho, Instr.alloc, Sem.run_bind, run_zero h1 h5, Result.andThen_ok, run_newVar, Sem.run_pure]

theorem good_box {o : Oper} {t : Nat} {x : Operand} {ob : LO} (hC : CfgOK P C) (hs : Sim R st w) (hf : VLR R w fr tmps.toList) (ho : o.op = .box t x) (h : newVar C t (valT C fr t x) = some ob) :
    Good P R st w (execOp (evalT tmps) o) (.p st.L.length 0 0) (new st ob) := by
  have hv := valT_V (C := C) hf t x
  have hk : tyKnown C t = true := by
    unfold tyKnown
    unfold newVar at h
    split
    · rename_i hh; rw [hh] at h; cases h
    · rfl
  obtain ⟨inf, d, z, h1, h2, h3, h4, h5, h6, h7, h8, h9⟩ := (hC.ty t).out hk
  have hob : (∃ cs, ob = .cells cs ∧ VC R.ρ R.ro w cs (evalT tmps x).cells.toList) ∨ (∃ l : TL, ob = .arr l t ∧ 0 < l.len ∧ l.len ≤ 65536 ∧ VC R.ρ R.ro w l.flat (evalT tmps x).cells.toList) := by
    unfold newVar at h
    split at h
    · rename_i n g e hh
      rw [hh] at h4
      cases d <;> (try simp only [DescOK] at h4)
      split at h
      case isFalse => cases h
      rename_i hn
      split at h
      · rename_i cs hvv
        rw [hvv] at hv
        obtain ⟨vs, hvs, hvc⟩ := hv.ag_inv
        cases ho2 : TL.ofCells g n cs with
        | none => rw [ho2] at h; simp at h
        | some l =>
          rw [ho2] at h
          simp at h
          subst h
          have e3 := ofCells_sound ho2 hvc.vl
          refine .inr ⟨l, rfl, by omega, by rw [e3.2.1]; exact h4.2.2.2.2, ?_⟩
          rw [hvs]
          exact ⟨e3.2.2, hvc.one⟩
      · rename_i l hvv
        rw [hvv] at hv
        obtain ⟨vs, hvs, hvc⟩ := hv.av_inv
        split at h
        case isFalse => cases h
        rename_i hh2
        cases h
        refine .inr ⟨l, rfl, by omega, by rw [hh2.2]; exact h4.2.2.2.2, ?_⟩
        rw [hvs]
        exact hvc
      · cases h
    · cases h
    · cases hf2 : flatV (valT C fr t x) with
      | none => rw [hf2] at h; simp at h
      | some cs =>
        rw [hf2] at h
        simp only [Option.bind_some] at h
        split at h
        · cases h
          exact .inl ⟨_, rfl, flatV_cells hf2 hv⟩
        · cases h
  obtain ⟨R', a1, a2, a3, a4, a5⟩ := new_sound (t := t) hs hob
  refine ⟨.value (.pointer (some ⟨w.heap.size, 0, none⟩)), _, R', _, ?_, rfl, a1, a2, a3, a4, a5⟩
  simp only [execOp, ho, Instr.box, Sem.run_bind, run_newVar, Result.andThen_ok, Sem.run_pure]

theorem good_pick {o : Oper} {c a b : Operand} {t : Bool} (hs : Sim R st w) (hf : VLR R w fr tmps.toList) (ho : o.op = .pick c a b) (hc : val C fr c = .b t) :
    Good P R st w (execOp (evalT tmps) o) (if t then val C fr a else val C fr b) st := by
  have hcv := val_V (C := C) hf c
  rw [hc] at hcv
  have hcv := hcv.b_inv
  cases t with
  | true => exact Good.pure hs (u := evalT tmps a) (by simp [execOp, ho, hcv, asBool]) (val_V hf a)
  | false => exact Good.pure hs (u := evalT tmps b) (by simp [execOp, ho, hcv, asBool]) (val_V hf b)

theorem good_extract {o : Oper} {x : Operand} {n : Nat} {vs : List LV} (hs : Sim R st w) (hf : VLR R w fr tmps.toList) (ho : o.op = .extract x n) (hx : val C fr x = .tu vs) (hn : n < vs.length) :
    Good P R st w (execOp (evalT tmps) o) (vs.getD n .u) st := by
  have hv := val_V (C := C) hf x
  rw [hx] at hv
  obtain ⟨cs, hcs, hl⟩ := hv.tu_inv
  have hn' : n < cs.size := by have := hl.1; simp at this; omega
  refine Good.pure hs (u := cs[n]) ?_ ?_
  · simp [execOp, ho, Instr.extract, hcs, Array.getElem?_eq_getElem hn']
  · have := hl.getD n
    simpa [List.getD, Array.getElem?_eq_getElem hn'] using this

theorem good_makeFunc {o : Oper} {f : Nat} {first caps : Array Operand} (hs : Sim R st w) (hf : VLR R w fr tmps.toList) (ho : o.op = .makeFunc (.func f) first caps) (h0 : first.size = 0) :
    Good P R st w (execOp (evalT tmps) o) (.fn f (caps.toList.map (val C fr))) st := by
  have : first = #[] := Array.eq_empty_of_size_eq_zero h0
  subst this
  have hl : VL R.ρ R.ro w (caps.toList.map (val C fr)) (caps.map (evalT tmps)).toList := by
    rw [Array.toList_map]
    exact VL.map2 _ _ caps.toList (fun a _ => val_V hf a)
  refine Good.pure hs (u := .func (.func f) #[] (caps.map (evalT tmps))) ?_ (.fn hl.1 hl.2)
  simp [execOp, ho, Instr.makeFunc]

theorem good_nilCheck {o : Oper} {x : Operand} {v : LV} {st' : St} {sd : Bool} (hs : Sim R st w) (hf : VLR R w fr tmps.toList) (ho : o.op = .nilCheck x) (h : evOp C fr st o = some (sd, v, st')) :
    Good P R st w (execOp (evalT tmps) o) v st' := by
  unfold evOp at h
  simp only [ho] at h
  have hv := val_V (C := C) hf x
  generalize hav : evalT tmps x = av at hv
  split at h <;> (try (cases h; done))
  all_goals
    rename_i hx
    rw [hx] at hv
    simp only [Option.some.injEq, Prod.mk.injEq] at h
    obtain ⟨rfl, rfl, rfl⟩ := h
    have hv' := hv
    cases hv <;> exact Good.pure hs (by simp [execOp, ho, hav]) hv'

theorem good_unOp {o : Oper} {op : UnOp} {t : Nat} {x : Operand} {v : LV} {st' : St} {sd : Bool} (hs : Sim R st w) (hf : VLR R w fr tmps.toList) (ho : o.op = .unOp op t x) (h : evOp C fr st o = some (sd, v, st')) :
    Good P R st w (execOp (evalT tmps) o) v st' := by
  unfold evOp at h
  simp only [ho] at h
  have hv := val_V (C := C) hf x
  split at h <;> (try (cases h; done))
  all_goals
    rename_i hx
    rw [hx] at hv
    simp only [Option.some.injEq, Prod.mk.injEq] at h
    obtain ⟨rfl, rfl, rfl⟩ := h
  · exact Good.pure hs (by simp [execOp, ho, hv.b_inv, Op.unary]) (.b _)
  · exact Good.pure hs (by simp [execOp, ho, hv.i_inv, Op.unary, Op.intArith]) (.i _ _)
  · exact Good.pure hs (by simp [execOp, ho, hv.i_inv, Op.unary, Op.intBits]) (.i _ _)

theorem good_index {o : Oper} {t : Nat} {x ix : Operand} {v : LV} {st' : St} (hC : CfgOK P C) (hs : Sim R st w) (hf : VLR R w fr tmps.toList) (ho : o.op = .index t x ix) (h : evOp C fr st o = some (true, v, st')) :
    Good P R st w (execOp (evalT tmps) o) v st' := by
  unfold evOp at h
  simp only [ho] at h
  split at h
  case h_2 => cases h
  rename_i ik i hi
  have hix := val_V (C := C) hf ix
  rw [hi] at hix
  have hix := hix.i_inv
  have hx := val_V (C := C) hf x
  split at h
  · rename_i hk
    obtain ⟨inf, d, z, h1, h2, h3, h4, _⟩ := (hC.ty t).out (by simp [tyKnown, hk])
    rw [hk] at h4
    cases d <;> (try simp only [DescOK] at h4)
    split at h
    · rename_i s hv
      rw [hv] at hx
      have hx := hx.s_inv
      simp only [Option.some.injEq, Prod.mk.injEq, Bool.and_eq_true, decide_eq_true_eq] at h
      obtain ⟨⟨h0, hlt⟩, rfl, rfl⟩ := h
      have hn : i.toNat < s.size := by omega
      have hn' : i.toNat < s.data.toList.length := by simpa using hn
      refine Good.pure hs (u := .int .u8 (s[i.toNat]'hn).toNat) ?_ ?_
      · simp [execOp, ho, Instr.index, hix, asIntOf, run_underlying h2, hx, h0, hn]
      · have : (s.data.toList.getD i.toNat 0) = s[i.toNat]'hn := by
          rw [List.getD_eq_getElem?_getD, List.getElem?_eq_getElem hn']; rfl
        rw [this]; exact .i _ _
    · cases h
  · rename_i n g e hk
    obtain ⟨inf, d, z, h1, h2, h3, h4, _⟩ := (hC.ty t).out (by simp [tyKnown, hk])
    rw [hk] at h4
    cases d <;> (try simp only [DescOK] at h4)
    obtain ⟨rfl, rfl, ⟨einf, ez, he1, he2, _⟩, _⟩ := h4
    split at h
    · rename_i l hv
      rw [hv] at hx
      obtain ⟨cs, hcs, hvc⟩ := hx.av_inv
      split at h
      case isFalse => cases h
      rename_i hh
      obtain ⟨rfl, rfl, hke⟩ := hh
      simp only [Option.some.injEq, Prod.mk.injEq, Bool.and_eq_true, decide_eq_true_eq] at h
      obtain ⟨⟨h0, hlt⟩, rfl, rfl⟩ := h
      obtain ⟨einf', ed, ez', t1, t2, t3, t4, _⟩ := (hC.ty e).out hke
      rw [he1] at t1; cases t1
      have hel := hvc.elem i.toNat (by omega)
      have hcl : cs.size = l.len * sz l.g := by have := hvc.length; rw [flat_length] at this; simpa using this.symm
      have hle2 : i.toNat * sz l.g + sz l.g ≤ cs.size := by rw [hcl, ← Nat.succ_mul]; exact Nat.mul_le_mul_right _ (by omega)
      have hagg : isAgg C e = isAggD ed := by
        rw [t4.agg]; unfold isAgg isAggK; rfl
      have hr : (execOp (evalT tmps) o).run P w = ((part e cs (i.toNat * sz l.g)).run P w).andThen fun v w => .ok (.value v) w := by
        simp only [execOp, ho, Instr.index, hix, asIntOf, Sem.run_bind, Sem.run_pure, Result.andThen_ok, run_underlying h2, hcs, if_pos (And.intro h0 hlt), run_size he1, he2]
      cases hd : isAggD ed with
      | true =>
        rw [hagg, hd]
        refine Good.pure hs (u := .agg (cs.extract (i.toNat * sz l.g) (i.toNat * sz l.g + sz l.g))) ?_ ?_
        · rw [hr]; simp only [part, Sem.run_bind, run_isAgg t2, hd, Result.andThen_ok, if_true, run_size he1, he2, Sem.run_pure]
        · refine V.ag_mk ?_
          simp only [Array.toList_extract, List.extract_eq_take_drop]
          have : i.toNat * sz l.g + sz l.g - i.toNat * sz l.g = sz l.g := by omega
          rw [this]; exact hel
      | false =>
        rw [hagg, hd]
        have h1z : sz l.g = 1 := by
          have := t4.size1 (by rw [← t4.agg]; exact hd)
          rw [← he2, t3, this]
        rw [h1z] at hel hle2
        refine Good.pure hs (u := cs[i.toNat * 1]'(by omega)) ?_ ?_
        · rw [hr, h1z]
          simp only [part, Sem.run_bind, run_isAgg t2, hd, Result.andThen_ok, Bool.false_eq_true, if_false]
          rw [Array.getElem?_eq_getElem (by omega)]
          rfl
        · have := hel.vl.getD 0
          have h9 : i.toNat * 1 < cs.size := by omega
          have e : (List.take 1 (List.drop (i.toNat * 1) cs.toList)).getD 0 undef = cs[i.toNat * 1]'h9 := by
            rw [List.getD_eq_getElem?_getD, List.getElem?_take, List.getElem?_drop]
            simp [Array.getElem?_eq_getElem (show i.toNat < cs.size by omega)]
          rw [e] at this
          exact this
    · cases h
  · cases h
end
end Gz
