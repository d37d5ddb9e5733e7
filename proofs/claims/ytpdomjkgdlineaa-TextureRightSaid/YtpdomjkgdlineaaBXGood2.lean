/- Each operation of the machine does what the evaluator says: the others. -/
import Derived.Test.YtpdomjkgdlineaaBXGood
set_option linter.unusedVariables false
set_option linter.unusedSimpArgs false
set_option linter.unnecessarySimpa false
set_option linter.deprecated false
namespace Gz
open Go

section
variable {P : Program} {C : Cfg} {R : Rl} {st : St} {w : World} {fr : List LV} {tmps : Array Value}

theorem zeros_one (zc : Array Value) (n : Nat) (h1 : ∀ v ∈ zc.toList, v.oneCell' = true) (hz : n = 0 ∨ 0 < zc.size) : ∀ v ∈ ((Array.range n).map (fun i => zc[i % zc.size]!)).toList, v.oneCell' = true := by
  intro v hv
  simp only [Array.toList_map, List.mem_map, Array.toList_range, List.mem_range] at hv
  obtain ⟨i, hi, rfl⟩ := hv
  have hpos : 0 < zc.size := by omega
  have hlt : i % zc.size < zc.size := Nat.mod_lt _ hpos
  rw [getElem!_pos zc _ hlt]
  exact h1 _ (by simp)

theorem sz_pos (g : Tag) : 0 < sz g := by cases g <;> decide

theorem good_buildSlice {o : Oper} {t n : Nat} {ps : Array (Nat × Operand)} {v : LV} {st' : St} {sd : Bool} (hC : CfgOK P C) (hs : Sim R st w) (hf : VLR R w fr tmps.toList) (ho : o.op = .buildSlice t n ps) (h : evOp C fr st o = some (sd, v, st')) :
    Good P R st w (execOp (evalT tmps) o) v st' := by
  unfold evOp at h
  simp only [ho] at h
  split at h
  case h_2 => cases h
  rename_i g e hk
  split at h
  · cases h
  rename_i hsm
  obtain ⟨inf, d, z, h1, h2, h3, h4, h5, h6, h7, h8, _⟩ := (hC.ty t).out (by simp [tyKnown, hk])
  rw [hk] at h4
  cases d <;> (try simp only [DescOK] at h4)
  rename_i e'
  obtain ⟨rfl, ⟨einf, ez, he1, he2, he3, he4, he5, he6⟩, _⟩ := h4
  cases hfc : fillC (fun i => some (i * sz g, sz g)) (List.replicate (n * sz g) .u) (ps.toList.map fun (i, x) => (i, val C fr x)) with
  | none => rw [hfc] at h; simp at h
  | some cs =>
    rw [hfc] at h
    simp only [Option.bind_some] at h
    cases ho2 : TL.ofCells g n (frzL st cs).1 with
    | none => rw [ho2] at h; simp at h
    | some l =>
      rw [ho2] at h
      simp only [Option.bind_some, Option.some.injEq, Prod.mk.injEq] at h
      obtain ⟨rfl, rfl, rfl⟩ := h
      have hp1 : (ps.toList.map fun (i, x) => (i, val C fr x)).map (·.1) = (ps.toList.map fun (i, x) => (i, evalT tmps x)).map (·.1) := by simp [List.map_map, Function.comp_def]
      have hp2 : VL R.ρ R.ro w ((ps.toList.map fun (i, x) => (i, val C fr x)).map (·.2)) ((ps.toList.map fun (i, x) => (i, evalT tmps x)).map (·.2)) := by
        simp only [List.map_map, Function.comp_def]
        exact VL.map2 _ _ ps.toList (fun a _ => val_V hf a.2)
      have hzc : ez.cells.size = sz g := he5
      have hone := (he6 R.ρ R.ro w).one
      have hz1 := zeros_one ez.cells (n * sz g) hone (.inr (by rw [hzc]; exact sz_pos g))
      have hinit : VL R.ρ R.ro w (List.replicate (n * sz g) LV.u) ((Array.range (n * sz g)).map (fun i => ez.cells[i % ez.cells.size]!)).toList := by
        refine ⟨by simp, fun j lv u h1 h2 => ?_⟩
        rw [List.getElem?_replicate] at h1
        split at h1 <;> cases h1
        exact .u _
      obtain ⟨arr', e1, e2⟩ := fill_sound (place' := fun i => some (i * sz g, sz g)) (fun i p hp => hp) hfc hp1 hp2 hinit hz1
      obtain ⟨R1, a1, a2, a3, a4, a5, a6⟩ := frzL_sound hs e2.vl
      have e3 := ofCells_sound ho2 a4
      have hsize : arr'.size = n * sz g := by
        have := e3.2.2.1; rw [flat_length, e3.1, e3.2.1] at this; simpa using this.symm
      have hk' : Keeps R1.ro w (w.alloc (.cells arr' e)) := ⟨fun b hb => heap_push_old w _ (a1.rolt b hb)⟩
      have hup : ∀ l o l', R1.ρ o = some l' → upd R1.ρ (frzL st cs).2.L.length l o = some l' := by
        intro l o l' h
        have := a1.dom o l' h
        simp only [upd]; rw [if_neg (by omega)]; exact h
      have hn63 : n ≤ maxLen := by
        have hp := sz_pos g
        have : n ≤ n * sz g := Nat.le_mul_of_pos_right n hp
        unfold maxLen; omega
      obtain ⟨s1, s2, s3⟩ := a1.push (.arr l e) (.row (some w.heap.size) n n g) (.cells arr' e) rfl (fun _ _ _ _ _ _ _ h => by cases h)
        ⟨e3.1, e3.2.1, arr'.toList, World.ownsRow_lit (base := R1.base) (e := e) (size := sz g) w arr' n a1.size hn63 hsize, ⟨e3.2.2.mono (hup _) (fun _ h => h) hk', e2.one⟩⟩
      refine ⟨.value (slv_ (some w.heap.size) n n), _, _, slv_ (some w.heap.size) n n, ?_, rfl, ?_, s1, a2.trans s2, a3.trans (Nat.le_refl _) s3, a5⟩
      · have hno : ¬ (n * sz g > 2 ^ 24) := by omega
        have e1' : Instr.fill (fun i => some (i * sz g, sz g)) ((Array.range (n * sz g)).map (fun i => ez.cells[i % ez.cells.size]!)) (ps.toList.map fun x => (x.1, evalT tmps x.2)) = some arr' := e1
        simp only [execOp, ho, Instr.buildSlice, Sem.run_bind, run_underlying h2, Result.andThen_ok, run_size he1, he2, if_neg hno, Sem.run_pure, Array.toList_map]
        by_cases h0 : n * sz g = 0
        · have hA : ∀ f : Nat → Value, (Array.range (n * sz g)).map f = #[] := by intro f; rw [h0]; simp
          rw [hA] at e1'
          simp only [if_pos h0, Sem.run_bind, Sem.run_pure, Result.andThen_ok, hA]
          rw [e1']; rfl
        · simp only [if_neg h0, Sem.run_bind, run_zero he1 he4, Sem.run_pure, Result.andThen_ok]
          rw [e1']; rfl
      · exact V.sl (A := some w.heap.size) (cap := n) (len := n) (g := g) (by simp [upd])

theorem flat_rep_at (g : Tag) (x : El g) : ∀ (n j : Nat), j < n * sz g → (TL.flat ⟨g, List.replicate n x⟩)[j]? = (enc g x)[j % sz g]?
  | 0, j, h => by rw [Nat.zero_mul] at h; omega
  | n + 1, j, h => by
    have ih := flat_rep_at g x n
    simp only [TL.flat, List.replicate_succ, List.flatMap_cons] at ih ⊢
    have hl : (enc g x).length = sz g := enc_length ..
    by_cases hj : j < sz g
    · rw [List.getElem?_append_left (by rw [hl]; exact hj), Nat.mod_eq_of_lt hj]
    · rw [List.getElem?_append_right (by rw [hl]; omega), hl, ih (j - sz g) (by rw [Nat.succ_mul] at h; omega), Nat.mod_eq_sub_mod (show sz g ≤ j by omega)]

theorem made_VC {ρ : Rho} {ro : Nat → Prop} {g : Tag} {zc : Array Value} (hz : zc.size = sz g) (h : VC ρ ro w (enc g (dfl g)) zc.toList) (n : Nat) :
    VC ρ ro w (TL.flat ⟨g, List.replicate n (dfl g)⟩) (madeCells zc (n * sz g)).toList := by
  refine ⟨⟨?_, fun j lv v h1 h2 => ?_⟩, ?_⟩
  · rw [flat_length, Array.length_toList, size_madeCells]; simp [TL.len]
  · have hj : j < n * sz g := by
      rcases Nat.lt_or_ge j (n * sz g) with h3 | h3
      · exact h3
      · rw [List.getElem?_eq_none (by rw [Array.length_toList, size_madeCells]; exact h3)] at h2; cases h2
    rw [flat_rep_at g _ n j hj] at h1
    have hm : j % sz g < zc.size := by rw [hz]; exact Nat.mod_lt _ (sz_pos g)
    have h2' : v = zc[j % zc.size]! := by
      simp only [madeCells, Array.toList_map, Array.toList_range, List.getElem?_map, List.getElem?_range hj, Option.map_some, Option.some.injEq] at h2
      exact h2.symm
    refine h.vl.2 (j % sz g) lv v h1 ?_
    rw [h2', hz, getElem!_pos zc _ hm]
    simp [hm]
  · exact zeros_one zc _ h.one (.inr (by rw [hz]; exact sz_pos g))

theorem sameInt_ok {ρ : Rho} {ro : Nat → Prop} {x y : Operand} {k : IntKind} {m : Int} (h : sameInt x y = true) (hx : evalT tmps x = .int k m) : ∃ k', evalT tmps y = .int k' m := by
  unfold sameInt at h
  split at h
  · rename_i a b
    have := Nat.eq_of_beq_eq_true h; subst this
    exact ⟨k, hx⟩
  · rename_i k1 a k2 b
    have := of_decide_eq_true h; subst this
    simp only [evalT, Value.int.injEq] at hx ⊢
    exact ⟨k2, rfl, hx.2⟩
  · cases h

theorem good_makeSlice {o : Oper} {t : Nat} {x y : Operand} {v : LV} {st' : St} (hC : CfgOK P C) (hs : Sim R st w) (hf : VLR R w fr tmps.toList) (ho : o.op = .makeSlice t x y) (h : evOp C fr st o = some (true, v, st')) :
    Good P R st w (execOp (evalT tmps) o) v st' := by
  unfold evOp at h
  simp only [ho] at h
  split at h
  case h_2 => cases h
  rename_i g e k m hk hx
  split at h
  case isFalse => cases h
  rename_i hsm
  simp only [Option.some.injEq, Prod.mk.injEq, Bool.and_eq_true, decide_eq_true_eq] at h
  obtain ⟨⟨hm0, hm1⟩, rfl, rfl⟩ := h
  obtain ⟨inf, d, z, h1, h2, h3, h4, h5, h6, h7, h8, _⟩ := (hC.ty t).out (by simp [tyKnown, hk])
  rw [hk] at h4
  cases d <;> (try simp only [DescOK] at h4)
  rename_i e'
  obtain ⟨rfl, ⟨einf, ez, he1, he2, he3, he4, he5, he6⟩, _⟩ := h4
  have hxv := val_V (C := C) hf x
  rw [hx] at hxv
  have hxv := hxv.i_inv
  obtain ⟨k', hyv⟩ := sameInt_ok (ρ := R.ρ) (ro := R.ro) hsm hxv
  obtain ⟨n, rfl⟩ := Int.eq_ofNat_of_zero_le hm0
  simp only [Int.toNat_natCast]
  have hn : n ≤ 16777216 := by omega
  have hn63 : n ≤ maxLen := by unfold maxLen; omega
  have hb : (einf.bytes : Int) * (n : Int) ≤ 281474976710656 := by
    have : einf.bytes * n ≤ 65536 * 16777216 := Nat.mul_le_mul he3 hn
    rw [← Int.natCast_mul]; omega
  have hr := run_make (P := P) w t e einf ez h2 he1 he4 k k' n n (by omega) (Int.le_refl _) hb (by omega)
  simp only [Int.toNat_natCast, he2] at hr
  have hVC := made_VC (w := w) (ρ := R.ρ) (ro := R.ro) he5 (he6 R.ρ R.ro w) n
  have hk' : Keeps R.ro w (w.alloc (.cells (madeCells ez.cells (n * sz g)) e)) := ⟨fun b hb => heap_push_old w _ (hs.rolt b hb)⟩
  have hup : ∀ l o l', R.ρ o = some l' → upd R.ρ st.L.length l o = some l' := by
    intro l o l' h
    have := hs.dom o l' h
    simp only [upd]; rw [if_neg (by omega)]; exact h
  obtain ⟨s1, s2, s3⟩ := hs.push (.arr ⟨g, List.replicate n (dfl g)⟩ e) (.row (some w.heap.size) n n g) (.cells (madeCells ez.cells (n * sz g)) e) rfl (fun _ _ _ _ _ _ _ h => by cases h)
    ⟨rfl, by simp [TL.len], _, World.ownsRow_lit (base := R.base) (e := e) (size := sz g) w _ n hs.size hn63 (size_madeCells _ _), ⟨hVC.vl.mono (hup _) (fun _ h => h) hk', hVC.one⟩⟩
  refine ⟨.value (slv_ (some w.heap.size) n n), _, _, slv_ (some w.heap.size) n n, ?_, rfl, ?_, s1, s2, s3, rfl⟩
  · simp only [execOp, ho, hxv, hyv]
    simp only [Sem.run_bind, hr, Result.andThen_ok, Sem.run_pure]
    rfl
  · exact V.sl (A := some w.heap.size) (cap := n) (len := n) (g := g) (by simp [upd])

theorem add_lit (b k j : Nat) : (⟨b, k, none⟩ : Addr).add j = ⟨b, k + j, none⟩ := by unfold Addr.add; split <;> simp_all
theorem add_add (ad : Addr) (i j : Nat) : (ad.add i).add j = ad.add (i + j) := by
  unfold Addr.add
  split <;> split <;> split <;> simp_all <;> omega

theorem good_fieldAddr {o : Oper} {t f : Nat} {x : Operand} {v : LV} {st' : St} {sd : Bool} (hC : CfgOK P C) (hs : Sim R st w) (hf : VLR R w fr tmps.toList) (ho : o.op = .fieldAddr t x f) (h : evOp C fr st o = some (sd, v, st')) :
    Good P R st w (execOp (evalT tmps) o) v st' := by
  unfold evOp at h
  simp only [ho] at h
  split at h
  case h_2 => cases h
  rename_i offs hk
  obtain ⟨inf, d, z, h1, h2, h3, h4, h5, h6, h7, h8, _⟩ := (hC.ty t).out (by simp [tyKnown, hk])
  rw [hk] at h4
  cases d <;> (try simp only [DescOK] at h4)
  rename_i fs
  have hx := val_V (C := C) hf x
  have key : ∀ off size, offs[f]? = some (off, size) → ∃ fd, fs[f]? = some fd ∧ ∀ a : Addr, (fieldPlace a fd).run P w = .ok (a.add off) w := by
    intro off size hof
    obtain ⟨fd, finf, e1, e2, e3, e4, e5, _⟩ := h4.2 f (off, size) hof
    refine ⟨fd, e1, fun a => ?_⟩
    have : ¬ finf.size = 0 := by rw [e4]; exact e5
    simp only [fieldPlace, Sem.run_bind, run_size e3, Result.andThen_ok, if_neg this, Sem.run_pure, e2]
  split at h
  · rename_i off size o' e k hof hv
    simp only [Option.some.injEq, Prod.mk.injEq] at h
    obtain ⟨rfl, rfl, rfl⟩ := h
    rw [hv] at hx
    obtain ⟨fd, e1, e2⟩ := key _ _ hof
    have hr : ∀ a : Addr, evalT tmps x = .pointer (some a) → (execOp (evalT tmps) o).run P w = .ok (.value (.pointer (some (a.add off)))) w := by
      intro a ha
      simp only [execOp, ho, Instr.fieldAt, Sem.run_bind, run_underlying h2, Result.andThen_ok, e1, ha, Instr.sureAddr, Sem.run_pure, e2]
    generalize hav : evalT tmps x = av at hx
    cases hx with
    | pblk hρ =>
      have := hr _ hav
      rw [add_lit] at this
      exact Good.pure hs this (.pblk hρ)
    | prow hρ he =>
      have := hr _ hav
      rw [add_lit, Nat.add_assoc] at this
      exact Good.pure hs this (.prow hρ he)
  · rename_i off size l e k hof hv
    simp only [Option.some.injEq, Prod.mk.injEq] at h
    obtain ⟨rfl, rfl, rfl⟩ := h
    rw [hv] at hx
    obtain ⟨fd, e1, e2⟩ := key _ _ hof
    have hr : ∀ a : Addr, evalT tmps x = .pointer (some a) → (execOp (evalT tmps) o).run P w = .ok (.value (.pointer (some (a.add off)))) w := by
      intro a ha
      simp only [execOp, ho, Instr.fieldAt, Sem.run_bind, run_underlying h2, Result.andThen_ok, e1, ha, Instr.sureAddr, Sem.run_pure, e2]
    generalize hav : evalT tmps x = av at hx
    cases hx with
    | pv he hro hx' h1' hl hV =>
      have := hr _ hav
      rw [add_add, Nat.add_assoc] at this
      exact Good.pure hs this (.pv he hro hx' h1' hl hV)
  · cases h

theorem rdSl_obj {o cap len : Nat} {A : Option Nat} {g : Tag} {l : TL} (hs : Sim R st w) (hρ : R.ρ o = some (.row A cap len g)) (h : rdSl st (.sl o) = some l) :
    l.g = g ∧ l.len = len ∧ ∃ e xs, w.ownsRow R.base e (sz g) (slv_ A len cap) len xs ∧ VC R.ρ R.ro w l.flat xs := by
  simp only [rdSl] at h
  split at h
  · rename_i t ety hL
    cases h
    have := hs.obj o _ _ hρ (getD_obj hL (by simp))
    exact ⟨this.1, this.2.1, _, this.2.2⟩
  · rename_i t hL
    cases h
    have := hs.obj o _ _ hρ (getD_obj hL (by simp))
    exact ⟨this.1, this.2.1, this.2.2.2⟩
  · cases h

theorem good_indexAddr {o : Oper} {t : Nat} {x ix : Operand} {v : LV} {st' : St} (hC : CfgOK P C) (hs : Sim R st w) (hf : VLR R w fr tmps.toList) (ho : o.op = .indexAddr t x ix) (h : evOp C fr st o = some (true, v, st')) :
    Good P R st w (execOp (evalT tmps) o) v st' := by
  unfold evOp at h
  simp only [ho] at h
  split at h
  case h_2 => cases h
  rename_i ik i hi
  have hix := val_V (C := C) hf ix
  rw [hi] at hix
  have hix := hix.i_inv
  have hx := val_V (C := C) hf x
  generalize hav : evalT tmps x = av at hx
  split at h
  · -- slices
    rename_i g e hk
    obtain ⟨inf, d, z, h1, h2, h3, h4, h5, h6, h7, h8, _⟩ := (hC.ty t).out (by simp [tyKnown, hk])
    rw [hk] at h4
    cases d <;> (try simp only [DescOK] at h4)
    obtain ⟨rfl, ⟨einf, ez, he1, he2, _⟩, _⟩ := h4
    have hr : ∀ (a : Addr) (len cap : Nat), av = .slice (some a) len cap → 0 ≤ i → i < (len : Int) → (execOp (evalT tmps) o).run P w = .ok (.value (.pointer (some (a.add (i.toNat * sz g))))) w := by
      intro a len cap ha h0 hl
      simp only [execOp, ho, Instr.indexAt, hix, asIntOf, Sem.run_bind, Sem.run_pure, Result.andThen_ok, run_underlying h2, hav, ha, if_pos (And.intro h0 hl), run_size he1, he2]
    split at h
    · rename_i o' hv
      rw [hv] at hx
      split at h
      case h_2 => cases h
      rename_i l hl
      split at h
      case isFalse => cases h
      rename_i hg
      simp only [Option.some.injEq, Prod.mk.injEq, Bool.and_eq_true, decide_eq_true_eq] at h
      obtain ⟨⟨h0, hlt⟩, rfl, rfl⟩ := h
      obtain ⟨A, cap, len, g', hρ, rfl⟩ := hx.sl_inv
      obtain ⟨hg1, hlen, e2, xs, hown, _⟩ := rdSl_obj hs hρ hl
      subst hg1; subst hg; subst hlen
      cases A with
      | none =>
        rcases hown.2 with ⟨h6, h7⟩ | ⟨g', cap', cur, h6, _⟩
        · omega
        · simp [slv_] at h6
      | some b =>
        have := hr ⟨b, 0, none⟩ _ _ rfl h0 hlt
        rw [add_lit, Nat.zero_add] at this
        exact Good.pure hs this (by have := V.prow (ro := R.ro) (w := w) (off := 0) hρ (e := i.toNat) (by omega); simpa using this)
    · rename_i l hv
      rw [hv] at hx
      split at h
      case isFalse => cases h
      rename_i hg
      simp only [Option.some.injEq, Prod.mk.injEq, Bool.and_eq_true, decide_eq_true_eq] at h
      obtain ⟨⟨h0, hlt⟩, rfl, rfl⟩ := h
      subst hg
      cases hx with
      | slv hc hro hx' h1' hl hV =>
        have := hr _ _ _ rfl h0 hlt
        exact Good.pure hs this (by have := V.pv (e := i.toNat) (off := 0) (by omega) hro hx' h1' hl hV; simpa using this)
      | slve h0' => omega
    · cases h
  · -- arrays
    rename_i n g e hk
    obtain ⟨inf, d, z, h1, h2, h3, h4, h5, h6, h7, h8, _⟩ := (hC.ty t).out (by simp [tyKnown, hk])
    rw [hk] at h4
    cases d <;> (try simp only [DescOK] at h4)
    obtain ⟨rfl, rfl, ⟨einf, ez, he1, he2, _⟩, _⟩ := h4
    have hr : ∀ (a : Addr), av = .pointer (some a) → 0 ≤ i → i < (n : Int) → (execOp (evalT tmps) o).run P w = .ok (.value (.pointer (some (a.add (i.toNat * sz g))))) w := by
      intro a ha h0 hl
      simp only [execOp, ho, Instr.indexAt, hix, asIntOf, Sem.run_bind, Sem.run_pure, Result.andThen_ok, run_underlying h2, hav, ha, Instr.sureAddr, if_pos (And.intro h0 hl), run_size he1, he2]
    split at h
    · rename_i o' e0 k hv
      rw [hv] at hx
      split at h
      · rename_i l ety hL
        split at h
        · rename_i hh
          obtain ⟨rfl, rfl, rfl, rfl⟩ := hh
          simp only [Option.some.injEq, Prod.mk.injEq, Bool.and_eq_true, decide_eq_true_eq] at h
          obtain ⟨⟨h0, hlt⟩, rfl, rfl⟩ := h
          have hL := getD_obj hL (by simp)
          cases hx with
          | pblk hρ => exact (hs.obj o' _ _ hρ hL).elim
          | prow hρ he =>
            obtain ⟨hg1, hlen, _⟩ := hs.obj o' _ _ hρ hL
            subst hg1
            have := hr _ rfl h0 hlt
            rw [add_lit] at this
            exact Good.pure hs this (by have := V.prow (ro := R.ro) (w := w) (off := 0) hρ (e := i.toNat) (by omega); simpa using this)
        · simp only [Option.some.injEq, Prod.mk.injEq, Bool.and_eq_true, decide_eq_true_eq] at h
          obtain ⟨⟨h0, hlt⟩, rfl, rfl⟩ := h
          cases hx with
          | pblk hρ =>
            have := hr _ rfl h0 hlt
            rw [add_lit] at this
            exact Good.pure hs this (.pblk hρ)
          | prow hρ he =>
            have := hr _ rfl h0 hlt
            rw [add_lit, Nat.add_assoc] at this
            exact Good.pure hs this (.prow hρ he)
      · simp only [Option.some.injEq, Prod.mk.injEq, Bool.and_eq_true, decide_eq_true_eq] at h
        obtain ⟨⟨h0, hlt⟩, rfl, rfl⟩ := h
        cases hx with
        | pblk hρ =>
          have := hr _ rfl h0 hlt
          rw [add_lit] at this
          exact Good.pure hs this (.pblk hρ)
        | prow hρ he =>
          have := hr _ rfl h0 hlt
          rw [add_lit, Nat.add_assoc] at this
          exact Good.pure hs this (.prow hρ he)
      · cases h
    · rename_i l e0 k hv
      rw [hv] at hx
      simp only [Option.some.injEq, Prod.mk.injEq, Bool.and_eq_true, decide_eq_true_eq] at h
      obtain ⟨⟨h0, hlt⟩, rfl, rfl⟩ := h
      cases hx with
      | pv he hro hx' h1' hl hV =>
        have := hr _ rfl h0 hlt
        rw [add_add, Nat.add_assoc] at this
        exact Good.pure hs this (.pv he hro hx' h1' hl hV)
    · cases h
  · cases h
end
end Gz
