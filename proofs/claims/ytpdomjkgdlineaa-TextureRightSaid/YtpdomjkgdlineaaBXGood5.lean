/- Each operation of the machine does what the evaluator says: all together. -/
import Derived.Test.YtpdomjkgdlineaaBXGood4
import Derived.Laws.BytesArg
set_option linter.unusedVariables false
set_option linter.unusedSimpArgs false
set_option linter.unnecessarySimpa false
set_option linter.deprecated false
namespace Gz
open Go

/-- Two values of a type that are held against each other, cell by cell. -/
def EqOK (P : Program) (t : Nat) (z : List LV) : Prop :=
  ∀ (a b : List LV) (r : Bool) (xs ys : Array Value) (ρ : Rho) (ro : Nat → Prop) (w : World), shp z a = true → shp z b = true → eqCells a b = some r → VC ρ ro w a xs.toList → VC ρ ro w b ys.toList →
    P.eqGuardType P.depth t = false ∧ (Op.equal t (.agg xs) (.agg ys)).run P w = .ok r w

section
variable {P : Program} {C : Cfg} {R : Rl} {st : St} {w : World} {fr : List LV} {tmps : Array Value}

theorem good_len {o : Oper} {t : Nat} {x : Operand} {v : LV} (hC : CfgOK P C) (hs : Sim R st w) (hf : VLR R w fr tmps.toList) (ho : o.op = .call { callee := .builtin .len, args := #[x], argTypes := #[t] })
    (h : lenOf C st t (valT C fr t x) = some v) : Good P R st w (execOp (evalT tmps) o) v st := by
  have hv := valT_V (C := C) hf t x
  have hrun : ∀ r, (Builtin.len_ #[t] o.type #[evalT tmps x]).run P w = .ok r w → (execOp (evalT tmps) o).run P w = .ok (.value r) w := by
    intro r hr
    simp only [execOp, ho, resolve, invoke, Go.builtin, Sem.run_bind, Sem.run_pure, Result.andThen_ok, List.map_toArray, List.map_cons, List.map_nil, hr]
  unfold lenOf at h
  split at h
  · rename_i s hk hx
    cases h
    rw [hx] at hv
    obtain ⟨inf, d, z, h1, h2, h3, h4, _⟩ := (hC.ty t).out (by simp [tyKnown, hk])
    rw [hk] at h4
    cases d <;> (try simp only [DescOK] at h4)
    exact Good.pure hs (hrun _ (by simp [Builtin.len_, run_underlying h2, hv.s_inv, goInt])) (.i _ _)
  · rename_i n g e l hk hx
    split at h
    case isFalse => cases h
    rename_i hn
    cases h
    rw [hx] at hv
    obtain ⟨inf, d, z, h1, h2, h3, h4, _⟩ := (hC.ty t).out (by simp [tyKnown, hk])
    rw [hk] at h4
    cases d <;> (try simp only [DescOK] at h4)
    obtain ⟨rfl, _⟩ := h4
    obtain ⟨cs, hcs, _⟩ := hv.av_inv
    exact Good.pure hs (hrun (.int .i64 n) (by simp [Builtin.len_, run_underlying h2, goInt])) (by rw [hn]; exact .i _ _)
  · rename_i g e x' hk
    cases hr : rdSl st (valT C fr t x) with
    | none => rw [hr] at h; simp at h
    | some l =>
      rw [hr] at h
      simp only [Option.bind_some, Option.some.injEq] at h
      subst h
      obtain ⟨inf, d, z, h1, h2, h3, h4, _⟩ := (hC.ty t).out (by simp [tyKnown, hk])
      rw [hk] at h4
      cases d <;> (try simp only [DescOK] at h4)
      obtain ⟨A, cap, xs, hxv, _⟩ := rdSl_cells hs hr hv
      exact Good.pure hs (hrun (.int .i64 l.len) (by simp [Builtin.len_, run_underlying h2, hxv, goInt])) (.i _ _)
  · cases h

theorem good_convert {o : Oper} {s t : Nat} {x : Operand} {v : LV} {st' : St} {sd : Bool} (hC : CfgOK P C) (hs : Sim R st w) (hf : VLR R w fr tmps.toList) (ho : o.op = .convert s t x) (h : evOp C fr st o = some (sd, v, st')) :
    Good P R st w (execOp (evalT tmps) o) v st' := by
  unfold evOp at h
  simp only [ho] at h
  have hv := val_V (C := C) hf x
  split at h
  · rename_i k hk
    split at h
    case h_2 => cases h
    rename_i k' n hx
    rw [hx] at hv
    split at h
    case isFalse => cases h
    rename_i hsrc
    simp only [Option.some.injEq, Prod.mk.injEq] at h
    obtain ⟨rfl, rfl, rfl⟩ := h
    obtain ⟨inf, d, z, h1, h2, h3, h4, _⟩ := (hC.ty t).out (by simp [tyKnown, hk])
    obtain ⟨sinf, sd, sz', s1, s2, _⟩ := (hC.ty s).out hsrc
    rw [hk] at h4
    cases d <;> (try simp only [DescOK] at h4)
    obtain ⟨rfl, _⟩ := h4
    refine Good.pure hs (u := .int k (k.wrap n)) ?_ (.i _ _)
    cases sd <;> simp [execOp, ho, Go.convert, run_underlying s2, run_underlying h2, hv.i_inv, Conv.intToInt]
  · rename_i hk
    split at h
    case h_2 => cases h
    rename_i e hsk
    split at h
    case h_2 => cases h
    rename_i hek
    split at h
    case h_2 => cases h
    rename_i m hm
    split at h
    case isFalse => cases h
    rename_i hg
    simp only [Option.some.injEq, Prod.mk.injEq] at h
    obtain ⟨rfl, rfl, rfl⟩ := h
    obtain ⟨mg, ml⟩ := m
    simp only at hg
    subst hg
    obtain ⟨inf, d, z, h1, h2, h3, h4, _⟩ := (hC.ty t).out (by simp [tyKnown, hk])
    rw [hk] at h4
    cases d <;> (try simp only [DescOK] at h4)
    obtain ⟨sinf, sd, sz', s1, s2, s3, s4, _⟩ := (hC.ty s).out (by simp [tyKnown, hsk])
    rw [hsk] at s4
    cases sd <;> (try simp only [DescOK] at s4)
    obtain ⟨rfl, _⟩ := s4
    obtain ⟨einf, ed, ez, e1, e2, e3, e4, _⟩ := (hC.ty e).out (by simp [tyKnown, hek])
    rw [hek] at e4
    cases ed <;> (try simp only [DescOK] at e4)
    obtain ⟨rfl, _⟩ := e4
    obtain ⟨A, cap, xs, hxv, hvc, hlen, hcell⟩ := rdSl_cells hs hm hv
    have hxs : xs = ml.map (Value.int .u8) := by
      have : ∀ (l : List Int) (us : List Value), VL R.ρ R.ro w (TL.flat ⟨.u8, l⟩) us → us = l.map (Value.int .u8) := by
        intro l
        induction l with
        | nil => intro us h; exact h.of_nil
        | cons n l ih =>
          intro us h
          have h : VL R.ρ R.ro w (.i .u8 n :: TL.flat ⟨.u8, l⟩) us := h
          obtain ⟨v, us', rfl, a, b⟩ := h.of_cons
          rw [a.i_inv, ih us' b]; rfl
      exact this ml xs hvc.vl
    refine Good.pure hs (u := .string (bytesOf ml)) ?_ (.s _)
    have hrun : (Go.convert s t (evalT tmps x)).run P w = .ok (.string (bytesOf ml)) w := by
      rw [hxv]
      by_cases hz : ml = []
      · subst hz
        cases A with
        | none => rw [run_convert_bytes_string w s t _ _ _ _ s2 e2 h2]; simp [Conv.bytesToString, bytesOf]; rfl
        | some ad =>
          rw [run_convert_bytes_string w s t _ _ _ _ s2 e2 h2, run_bytesToString w ad _ cap [] (by simp [TL.len, loadCells, loadCellsFrom])]
          rfl
      · obtain ⟨ad, rfl, hc⟩ := hcell (by simp only [TL.len]; exact List.length_pos_iff.2 hz)
        have hl : (loadCells ad (TL.len ⟨.u8, ml⟩)).run P w = .ok (ml.map (Value.int .u8)).toArray w := by
          have := run_loadCells_list (P := P) w ad xs hc
          rw [hxs] at this
          simpa [TL.len] using this
        rw [run_convert_bytes_string w s t _ _ _ _ s2 e2 h2, run_bytesToString w ad _ cap ml hl, foldl_push_bytes]
        simp [bytesOf, ByteArray.empty, ByteArray.emptyWithCapacity]
        rfl
    simp [execOp, ho, hrun]
  · cases h

theorem good_minmax {o : Oper} {b : Builtin} {args : Array Operand} {ts : Array Nat} {v : LV} (hs : Sim R st w) (hf : VLR R w fr tmps.toList) (ho : o.op = .call { callee := .builtin b, args := args, argTypes := ts })
    (h : minMax b ((args.toList.zip ts.toList).map fun p => valT C fr p.2 p.1) = some v) (hl : args.size = ts.size) : Good P R st w (execOp (evalT tmps) o) v st := by
  have hargs : VL R.ρ R.ro w ((args.toList.zip ts.toList).map fun p => valT C fr p.2 p.1) (args.map (evalT tmps)).toList := by
    have : (args.map (evalT tmps)).toList = (args.toList.zip ts.toList).map fun p => evalT tmps p.1 := by
      rw [Array.toList_map]
      have : args.toList = (args.toList.zip ts.toList).map Prod.fst := by rw [List.map_fst_zip]; simpa using Nat.le_of_eq hl
      conv => lhs; rw [this]
      rw [List.map_map]; rfl
    rw [this]
    exact VL.map2 _ _ _ (fun p _ => valT_V hf p.2 p.1)
  generalize (args.toList.zip ts.toList).map (fun p => valT C fr p.2 p.1) = ls at h hargs
  have hrun : ∀ r, (b = .min → (Builtin.min_ ts o.type (args.map (evalT tmps))).run P w = .ok r w) → (b = .max → (Builtin.max_ ts o.type (args.map (evalT tmps))).run P w = .ok r w) → (b = .min ∨ b = .max) → (execOp (evalT tmps) o).run P w = .ok (.value r) w := by
    intro r h1 h2 h3
    rcases h3 with rfl | rfl
    · simp only [execOp, ho, resolve, invoke, Go.builtin, Sem.run_bind, Sem.run_pure, Result.andThen_ok, h1 rfl]
    · simp only [execOp, ho, resolve, invoke, Go.builtin, Sem.run_bind, Sem.run_pure, Result.andThen_ok, h2 rfl]
  generalize args.map (evalT tmps) = vs at hargs hrun
  unfold minMax at h
  split at h <;> try (cases h; done)
  all_goals
    cases h
    obtain ⟨v1, vs1, e1, a1, b1⟩ := hargs.of_cons
    obtain ⟨v2, vs2, e2, a2, b2⟩ := b1.of_cons
    have i1 := a1.i_inv
    have i2 := a2.i_inv
  · have e3 := b2.of_nil
    subst i1; subst i2; subst e2; subst e3
    have hvs : vs = vs.toList.toArray := by simp
    rw [e1] at hvs
    subst hvs
    exact Good.pure hs (hrun _ (fun _ => by simp [Builtin.min_, Builtin.min2]) (fun h => by cases h) (.inl rfl)) (.i _ _)
  · have e3 := b2.of_nil
    subst i1; subst i2; subst e2; subst e3
    have hvs : vs = vs.toList.toArray := by simp
    rw [e1] at hvs
    subst hvs
    exact Good.pure hs (hrun _ (fun h => by cases h) (fun _ => by simp [Builtin.max_, Builtin.max2]) (.inr rfl)) (.i _ _)
  · obtain ⟨v3, vs3, e3, a3, b3⟩ := b2.of_cons
    have i3 := a3.i_inv
    have e4 := b3.of_nil
    subst i1; subst i2; subst i3; subst e2; subst e3; subst e4
    have hvs : vs = vs.toList.toArray := by simp
    rw [e1] at hvs
    subst hvs
    exact Good.pure hs (hrun _ (fun _ => by simp [Builtin.min_, Builtin.min2]) (fun h => by cases h) (.inl rfl)) (.i _ _)
  · obtain ⟨v3, vs3, e3, a3, b3⟩ := b2.of_cons
    have i3 := a3.i_inv
    have e4 := b3.of_nil
    subst i1; subst i2; subst i3; subst e2; subst e3; subst e4
    have hvs : vs = vs.toList.toArray := by simp
    rw [e1] at hvs
    subst hvs
    exact Good.pure hs (hrun _ (fun h => by cases h) (fun _ => by simp [Builtin.max_, Builtin.max2]) (.inr rfl)) (.i _ _)

theorem flat_take (t : TL) (n : Nat) : TL.flat ⟨t.g, t.l.take n⟩ = t.flat.take (n * sz t.g) := by
  obtain ⟨g, l⟩ := t
  simp only [TL.flat]
  induction l generalizing n with
  | nil => simp
  | cons x l ih =>
    cases n with
    | zero => simp
    | succ n =>
      have h1 : (n + 1) * sz g = (enc g x).length + n * sz g := by rw [enc_length, Nat.succ_mul, Nat.add_comm]
      rw [List.take_succ_cons, List.flatMap_cons, List.flatMap_cons, ih, h1, List.take_append]
      rw [List.take_of_length_le (Nat.le_add_right _ _)]
      simp
theorem flat_drop (t : TL) (n : Nat) : TL.flat ⟨t.g, t.l.drop n⟩ = t.flat.drop (n * sz t.g) := by
  obtain ⟨g, l⟩ := t
  simp only [TL.flat]
  induction l generalizing n with
  | nil => simp
  | cons x l ih =>
    cases n with
    | zero => simp
    | succ n =>
      have h1 : (n + 1) * sz g = (enc g x).length + n * sz g := by rw [enc_length, Nat.succ_mul, Nat.add_comm]
      rw [List.drop_succ_cons, List.flatMap_cons, ih, h1, List.drop_append]
      rw [List.drop_eq_nil_of_le (Nat.le_add_right _ _)]
      simp

theorem frz_form {v v' : LV} {l : TL} {st' : St} (h : frz st v = (v', st')) (hl : rdSl st' v' = some l) : v' = .slv l ∨ (∃ g, v' = .slnil g ∧ l = ⟨g, []⟩) := by
  cases v <;> simp only [frz] at h
  case sl o =>
    split at h
    · cases h; simp only [rdSl] at hl; cases hl; exact .inl rfl
    · cases h; simp only [rdSl] at hl; cases hl; exact .inl rfl
    · cases h; simp only [rdSl] at hl; cases hl
  all_goals
    cases h
    simp only [rdSl] at hl
    try (cases hl)
  · exact .inl rfl
  · exact .inr ⟨_, rfl, rfl⟩

theorem subslice_V {ρ : Rho} {ro : Nat → Prop} {v : LV} {u : Value} {l : TL} {a b : Nat} (hv : V ρ ro w v u) (hf : v = .slv l ∨ (∃ g, v = .slnil g ∧ l = ⟨g, []⟩)) (hab : a ≤ b) (hb : b ≤ l.len) :
    ∃ A cap, u = .slice A l.len cap ∧ l.len ≤ cap ∧ V ρ ro w (.slv ⟨l.g, (l.l.take b).drop a⟩) (.slice (if cap = a then A else A.map (·.add (a * sz l.g))) (b - a) (cap - a)) := by
  have hlen : (TL.len ⟨l.g, (l.l.take b).drop a⟩) = b - a := by
    simp only [TL.len, List.length_drop, List.length_take]
    have : b ≤ l.l.length := hb
    omega
  have empty : ∀ (A : Option Addr) (cap : Nat), b - a = 0 → V ρ ro w (.slv ⟨l.g, (l.l.take b).drop a⟩) (.slice A (b - a) cap) := by
    intro A cap h0
    rw [h0]
    exact .slve (by rw [hlen, h0])
  rcases hf with rfl | ⟨g, rfl, rfl⟩
  · cases hv with
    | slv hc hro hx h1 hl hV =>
      rename_i ad cap xs
      refine ⟨some ad, cap, rfl, hc, ?_⟩
      by_cases h0 : b - a = 0
      · exact empty _ _ h0
      · rw [if_neg (by omega)]
        have hxs : VC ρ ro w l.flat xs := ⟨⟨hl, hV⟩, h1⟩
        have hflat : TL.flat ⟨l.g, (l.l.take b).drop a⟩ = (l.flat.take (b * sz l.g)).drop (a * sz l.g) := by
          have e1 := flat_drop ⟨l.g, l.l.take b⟩ a
          have e2 := flat_take l b
          simp only [] at e1
          rw [e1, e2]
        have hsub := (hxs.take (b * sz l.g)).drop (a * sz l.g)
        rw [← hflat] at hsub
        have := V.slv (ρ := ρ) (ro := ro) (w := w) (t := ⟨l.g, (l.l.take b).drop a⟩) (ad := ad.add (a * sz l.g)) (cap := cap - a) (xs := (xs.take (b * sz l.g)).drop (a * sz l.g)) (by rw [hlen]; omega)
          (by have : (ad.add (a * sz l.g)).block = ad.block := by unfold Addr.add; split <;> rfl
              rw [this]; exact hro)
          (fun j u hj => by
            rw [List.getElem?_drop, List.getElem?_take] at hj
            split at hj
            · rw [add_add]; exact hx _ _ hj
            · cases hj) hsub.one hsub.vl.1 hsub.vl.2
        rw [hlen] at this
        exact this
    | slve h0 =>
      rename_i A cap
      refine ⟨A, cap, by rw [h0], by omega, ?_⟩
      exact empty _ _ (by omega)
  · cases hv
    refine ⟨none, 0, rfl, by simp [TL.len], ?_⟩
    exact empty _ _ (by simp [TL.len] at hb; omega)

theorem good_slice {o : Oper} {t : Nat} {x : Operand} {lo hi : Option Operand} {v : LV} {st' : St} (hC : CfgOK P C) (hs : Sim R st w) (hf : VLR R w fr tmps.toList) (ho : o.op = .slice t x lo hi none) (h : evOp C fr st o = some (true, v, st')) :
    Good P R st w (execOp (evalT tmps) o) v st' := by
  unfold evOp at h
  simp only [ho] at h
  split at h
  case h_2 => cases h
  rename_i g e hk
  obtain ⟨inf, d, z, h1, h2, h3, h4, _⟩ := (hC.ty t).out (by simp [tyKnown, hk])
  rw [hk] at h4
  cases d <;> (try simp only [DescOK] at h4)
  obtain ⟨rfl, ⟨einf, ez, he1, he2, _⟩, _⟩ := h4
  have hx := val_V (C := C) hf x
  obtain ⟨R1, a1, a2, a3, a4, a5, a6⟩ := frz_sound hs hx
  cases hfr : frz st (val C fr x) with
  | mk v0 st1 =>
    rw [hfr] at h a1 a3 a4
    simp only [] at h a1 a3 a4
    cases hl : rdSl st1 v0 with
    | none => rw [hl] at h; simp at h
    | some l =>
      rw [hl] at h
      simp only [] at h
      split at h
      case isFalse => cases h
      rename_i hg
      subst hg
      split at h
      case h_2 => cases h
      rename_i a b ha hb
      simp only [Option.some.injEq, Prod.mk.injEq, Bool.and_eq_true, decide_eq_true_eq] at h
      obtain ⟨⟨⟨h5, h6⟩, h7⟩, rfl, rfl⟩ := h
      have hform := frz_form hfr hl
      obtain ⟨A, cap, hu, hcap, hV⟩ := subslice_V a4 hform (a := a.toNat) (b := b.toNat) (by omega) (by omega)
      refine ⟨.value (.slice (if cap = a.toNat then A else A.map (·.add (a.toNat * sz l.g))) (b.toNat - a.toNat) (cap - a.toNat)), w, R1, _, ?_, rfl, hV, a1, a2, a3, a5⟩
      have hbd : (Instr.sliceBounds true l.len cap (lo.map (evalT tmps)) (hi.map (evalT tmps)) none).run P w = .ok (a.toNat, b.toNat, cap) w := by
        have hH : (match (hi.map (evalT tmps)) with
            | some v => Instr.sliceBound v cap .sliceAcap
            | none => (Pure.pure l.len : Sem Nat)).run P w = .ok b.toNat w := by
          cases hi with
          | none => simp only [Option.some.injEq] at hb; subst hb; simp
          | some y =>
            simp only [] at hb
            split at hb
            · rename_i k n hy
              cases hb
              have hyv := val_V (C := C) hf y
              rw [hy] at hyv
              simp only [Option.map_some, hyv.i_inv, Instr.sliceBound, asIntOf, Sem.run_bind, Sem.run_pure, Result.andThen_ok]
              rw [if_pos (by omega)]; rfl
            · cases hb
        have hLo : (match (lo.map (evalT tmps)) with
            | some v => Instr.sliceBound v b.toNat .sliceB
            | none => (Pure.pure 0 : Sem Nat)).run P w = .ok a.toNat w := by
          cases lo with
          | none => simp only [Option.some.injEq] at ha; subst ha; simp
          | some y =>
            simp only [] at ha
            split at ha
            · rename_i k n hy
              cases ha
              have hyv := val_V (C := C) hf y
              rw [hy] at hyv
              simp only [Option.map_some, hyv.i_inv, Instr.sliceBound, asIntOf, Sem.run_bind, Sem.run_pure, Result.andThen_ok]
              rw [if_pos (by omega)]; rfl
            · cases ha
        cases lo <;> cases hi <;> simp_all [Instr.sliceBounds]
      simp only [execOp, ho, Instr.sliceAt, Sem.run_bind, run_underlying h2, Result.andThen_ok, Instr.slice, hu, hbd, run_size he1, he2, Sem.run_pure, Option.map_none]

theorem equal_unfold (t : Nat) (x y : Value) : Op.equal t x y = Op.equalIn (9999 + 1) t x y := rfl

theorem equal_bool (n : Nat) {t : Nat} (h : P.underlying t = some .bool) (a b : Bool) : (Op.equalIn (n + 1) t (.bool a) (.bool b)).run P w = .ok (a == b) w := by
  simp only [Op.equalIn, Sem.run_bind, run_underlying h, Result.andThen_ok, Sem.run_pure]
theorem equal_ptr0 (n : Nat) {t e : Nat} (h : P.underlying t = some (.pointer e)) : (Op.equalIn (n + 1) t (.pointer none) (.pointer none)).run P w = .ok true w := by
  simp only [Op.equalIn, Sem.run_bind, run_underlying h, Result.andThen_ok, Sem.run_pure]; rfl
theorem equal_ptr1 (n : Nat) {t e : Nat} (h : P.underlying t = some (.pointer e)) (a : Addr) : (Op.equalIn (n + 1) t (.pointer (some a)) (.pointer none)).run P w = .ok false w := by
  simp only [Op.equalIn, Sem.run_bind, run_underlying h, Result.andThen_ok, Sem.run_pure]
theorem equal_fn0 (n : Nat) {t : Nat} {ps rs : Array Nat} {v : Bool} (h : P.underlying t = some (.func ps rs v)) : (Op.equalIn (n + 1) t .nilFunc .nilFunc).run P w = .ok true w := by
  simp only [Op.equalIn, Sem.run_bind, run_underlying h, Result.andThen_ok, Sem.run_pure]
theorem equal_fn1 (n : Nat) {t : Nat} {ps rs : Array Nat} {v : Bool} (h : P.underlying t = some (.func ps rs v)) (f : Fn) (a c : Array Value) : (Op.equalIn (n + 1) t (.func f a c) .nilFunc).run P w = .ok false w := by
  simp only [Op.equalIn, Sem.run_bind, run_underlying h, Result.andThen_ok, Sem.run_pure]

theorem eqV_sound {t : Nat} {x y : Operand} {op : BinOp} {v1 v2 : LV} {u1 u2 : Value} {r : Bool} (hC : CfgOK P C) (hE : ∀ t z, C.eqT t = some z → EqOK P t z) (hx : VR R w v1 u1) (hy : VR R w v2 u2) (hr : eqV C t v1 v2 = some r) :
    ((op = .eql ∨ op = .neq) → (eqGuard op t x y u1 u2).run P w = .ok () w) ∧ (Op.equal t u1 u2).run P w = .ok r w ∧ (∀ k a k' b, u1 = .int k a → u2 = .int k' b → False) ∧ (∀ a b, u1 = .string a → u2 = .string b → False) ∧ (∀ k a k' b, u1 = .float k a → u2 = .float k' b → False) ∧ (∀ k a a' k' b b', u1 = .complex k a a' → u2 = .complex k' b b' → False) := by
  unfold eqV at hr
  split at hr
  · rename_i hk
    cases hr
    have := hx.b_inv; subst this
    have := hy.b_inv; subst this
    obtain ⟨inf, d, z, h1, h2, h3, h4, _⟩ := (hC.ty t).out (by simp [tyKnown, hk])
    rw [hk] at h4
    cases d <;> (try simp only [DescOK] at h4)
    refine ⟨fun hop => by rcases hop with rfl | rfl <;> rfl, ?_, by simp, by simp, by simp, by simp⟩
    exact equal_bool 9999 h2 _ _
  · rename_i hk
    cases hr
    cases hx; cases hy
    obtain ⟨inf, d, z, h1, h2, h3, h4, _⟩ := (hC.ty t).out (by simp [tyKnown, hk])
    rw [hk] at h4
    cases d <;> (try simp only [DescOK] at h4)
    refine ⟨fun hop => by rcases hop with rfl | rfl <;> rfl, ?_, by simp, by simp, by simp, by simp⟩
    exact equal_ptr0 9999 h2
  · rename_i hk
    cases hr
    obtain ⟨inf, d, z, h1, h2, h3, h4, _⟩ := (hC.ty t).out (by simp [tyKnown, hk])
    rw [hk] at h4
    cases d <;> (try simp only [DescOK] at h4)
    cases hy
    have : ∃ ad, u1 = .pointer (some ad) := by cases hx <;> exact ⟨_, rfl⟩
    obtain ⟨ad, rfl⟩ := this
    refine ⟨fun hop => by rcases hop with rfl | rfl <;> rfl, ?_, by simp, by simp, by simp, by simp⟩
    exact equal_ptr1 9999 h2 _
  · rename_i hk
    cases hr
    obtain ⟨inf, d, z, h1, h2, h3, h4, _⟩ := (hC.ty t).out (by simp [tyKnown, hk])
    rw [hk] at h4
    cases d <;> (try simp only [DescOK] at h4)
    cases hx; cases hy
    refine ⟨fun hop => by rcases hop with rfl | rfl <;> rfl, ?_, by simp, by simp, by simp, by simp⟩
    exact equal_fn1 9999 h2 _ _ _
  · rename_i hk
    cases hr
    obtain ⟨inf, d, z, h1, h2, h3, h4, _⟩ := (hC.ty t).out (by simp [tyKnown, hk])
    rw [hk] at h4
    cases d <;> (try simp only [DescOK] at h4)
    cases hx; cases hy
    refine ⟨fun hop => by rcases hop with rfl | rfl <;> rfl, ?_, by simp, by simp, by simp, by simp⟩
    exact equal_fn0 9999 h2
  · split at hr
    case h_2 => cases hr
    rename_i z he
    rw [Bool.cond_eq_ite] at hr
    split at hr
    case isFalse => cases hr
    rename_i hsh
    rw [Bool.and_eq_true] at hsh
    obtain ⟨cs, rfl, hcs⟩ := hx.ag_inv
    obtain ⟨ds, rfl, hds⟩ := hy.ag_inv
    obtain ⟨e1, e2⟩ := hE t z he _ _ _ cs ds R.ρ R.ro w hsh.1 hsh.2 hr hcs hds
    refine ⟨fun hop => ?_, e2, by simp, by simp, by simp, by simp⟩
    rcases hop with rfl | rfl <;> simp [eqGuard, e1]
  · split at hr
    case h_2 => cases hr
    rename_i z he
    rw [Bool.cond_eq_ite] at hr
    split at hr
    case isFalse => cases hr
    rename_i hsh
    rw [Bool.and_eq_true] at hsh
    obtain ⟨cs, rfl, hcs⟩ := hx.av_inv
    obtain ⟨ds, rfl, hds⟩ := hy.av_inv
    obtain ⟨e1, e2⟩ := hE t z he _ _ _ cs ds R.ρ R.ro w hsh.1 hsh.2 hr hcs hds
    refine ⟨fun hop => ?_, e2, by simp, by simp, by simp, by simp⟩
    rcases hop with rfl | rfl <;> simp [eqGuard, e1]
  · cases hr

theorem good_bin {o : Oper} {op : BinOp} {t t' : Nat} {x y : Operand} {v : LV} (hC : CfgOK P C) (hE : ∀ t z, C.eqT t = some z → EqOK P t z) (hs : Sim R st w) (hf : VLR R w fr tmps.toList) (ho : o.op = .binOp op t x y t')
    (h : bin C t op (valT C fr t x) (valT C fr t' y) = some (true, v)) : Good P R st w (execOp (evalT tmps) o) v st := by
  have hx := valT_V (C := C) hf t x
  have hy := valT_V (C := C) hf t' y
  have hrun : ∀ r, (eqGuard op t x y (evalT tmps x) (evalT tmps y)).run P w = .ok () w → (Go.binOp op t (evalT tmps x) (evalT tmps y)).run P w = .ok r w → (execOp (evalT tmps) o).run P w = .ok (.value r) w := by
    intro r h1 h2
    simp only [execOp, ho, Sem.run_bind, h1, h2, Result.andThen_ok, Sem.run_pure]
  generalize evalT tmps x = u1 at hx hrun
  generalize evalT tmps y = u2 at hy hrun
  generalize valT C fr t x = v1 at h hx
  generalize valT C fr t' y = v2 at h hy
  unfold bin at h
  split at h
  · -- whole numbers
    rename_i k a k' b
    have := hx.i_inv; subst this
    have := hy.i_inv; subst this
    have hg : (eqGuard op t x y (.int k a) (.int k' b)).run P w = .ok () w := by
      unfold eqGuard; cases op <;> rfl
    split at h
    · simp only [Option.some.injEq, Prod.mk.injEq, decide_eq_true_eq] at h
      obtain ⟨h0, rfl⟩ := h
      refine Good.pure hs (hrun _ hg ?_) (.i _ _)
      simp [Go.binOp, Op.shift, show ¬ b < 0 by omega]
    · simp only [Option.some.injEq, Prod.mk.injEq, decide_eq_true_eq] at h
      obtain ⟨h0, rfl⟩ := h
      refine Good.pure hs (hrun _ hg ?_) (.i _ _)
      simp [Go.binOp, Op.shift, show ¬ b < 0 by omega]
    · rename_i hn1 hn2
      split at h
      case isFalse => cases h
      rename_i hkk
      subst hkk
      unfold binInt at h
      cases op <;> simp only [Option.some.injEq, Prod.mk.injEq, reduceCtorEq, true_and] at h <;> first
        | (exact absurd rfl hn1)
        | (exact absurd rfl hn2)
        | (obtain ⟨h0, rfl⟩ := h
           have h0 : ¬ b = 0 := by simpa using h0
           refine Good.pure hs (hrun _ hg ?_) (.i _ _)
           simp [Go.binOp, Op.intDiv, h0])
        | (subst h
           refine Good.pure hs (hrun _ hg ?_) (.i _ _)
           simp [Go.binOp, Op.intArith, Op.intBits])
        | (subst h
           refine Good.pure hs (hrun _ hg ?_) (.b _)
           simp [Go.binOp, Op.intCmp])
        | (exact h.elim)
  · -- texts
    rename_i a b
    have := hx.s_inv; subst this
    have := hy.s_inv; subst this
    have hg : (eqGuard op t x y (.string a) (.string b)).run P w = .ok () w := by
      unfold eqGuard; cases op <;> rfl
    split at h
    · cases h
      exact Good.pure hs (hrun _ hg (by simp [Go.binOp, Op.stringOp])) (.b _)
    · cases h
      exact Good.pure hs (hrun _ hg (by simp [Go.binOp, Op.stringOp])) (.b _)
    · cases h
  · -- all else: by the type
    cases hr : eqV C t v1 v2 with
    | none => rw [hr] at h; simp at h
    | some r =>
      rw [hr] at h
      simp only [Option.bind_some] at h
      obtain ⟨k1, k2, k3, k4, k5, k6⟩ := eqV_sound (x := x) (y := y) (op := op) hC hE hx hy hr
      split at h
      · cases h
        refine Good.pure hs (hrun (.bool r) (k1 (.inl rfl)) ?_) (.b _)
        unfold Go.binOp
        split <;> first
          | contradiction
          | (exfalso; first | exact k3 _ _ _ _ rfl rfl | exact k4 _ _ rfl rfl | exact k5 _ _ _ _ rfl rfl | exact k6 _ _ _ _ _ _ rfl rfl)
          | (simp only [Sem.run_bind, k2, Result.andThen_ok, Sem.run_pure]; done)
          | skip
        all_goals (rename_i hh; first | exact absurd rfl hh | exact absurd rfl (hh _ _) | (simp at hh))
      · cases h
        refine Good.pure hs (hrun (.bool !r) (k1 (.inr rfl)) ?_) (.b _)
        unfold Go.binOp
        split <;> first
          | contradiction
          | (exfalso; first | exact k3 _ _ _ _ rfl rfl | exact k4 _ _ rfl rfl | exact k5 _ _ _ _ rfl rfl | exact k6 _ _ _ _ _ _ rfl rfl)
          | (simp only [Sem.run_bind, k2, Result.andThen_ok, Sem.run_pure]; done)
          | skip
        all_goals (rename_i hh; first | exact absurd rfl hh | exact absurd rfl (hh _ _) | (simp at hh))
      · cases h
end
end Gz
