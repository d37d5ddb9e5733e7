/- Each operation of the machine does what the evaluator says. -/
import Derived.Test.YtpdomjkgdlineaaBXOps
import Derived.Laws.OwnMore
set_option linter.unusedVariables false
set_option linter.unusedSimpArgs false
set_option linter.unnecessarySimpa false
set_option linter.deprecated false
namespace Gz
open Go

/-- An element's type. -/
structure ElemOK (P : Program) (g : Tag) (e : Nat) : Prop where
  out : ∃ inf z, P.info? e = some inf ∧ inf.size = sz g ∧ inf.bytes ≤ 65536 ∧ inf.zero = some z ∧ z.cells.size = sz g ∧ ∀ ρ ro w, VC ρ ro w (enc g (dfl g)) z.cells.toList

def DescOK (P : Program) (size : Nat) : TyK → TypeDesc → Prop
  | .int k, .int k' => k = k' ∧ size = 1
  | .bool, .bool => size = 1
  | .str, .string => size = 1
  | .ptr, .pointer _ => size = 1
  | .func, .func _ _ _ => size = 1
  | .map, .map _ _ => size = 1
  | .slice g e, .slice e' => e = e' ∧ ElemOK P g e ∧ size = 1
  | .arr n g e, .array n' e' => n = n' ∧ e = e' ∧ ElemOK P g e ∧ size = n * sz g ∧ n ≤ 65536
  | .struct offs, .struct fs => fs.size = offs.length ∧ ∀ (i : Nat) (p : Nat × Nat), offs[i]? = some p → ∃ f inf, fs[i]? = some f ∧ f.offset = p.1 ∧ P.info? f.type = some inf ∧ inf.size = p.2 ∧ p.2 ≠ 0 ∧ p.1 + p.2 ≤ size
  | _, _ => False

def isAggK : TyK → Bool
  | .struct _ | .arr .. => true
  | _ => false

structure TyOK (P : Program) (C : Cfg) (t : Nat) : Prop where
  out : tyKnown C t = true → ∃ inf d z, P.info? t = some inf ∧ P.underlying t = some d ∧ inf.size = (C.ty t).size ∧ DescOK P (C.ty t).size (C.ty t).k d ∧ inf.zero = some z ∧ z.cells.size = (C.ty t).size ∧
    ((C.ty t).zero.length = (C.ty t).size → ∀ ρ ro w, VC ρ ro w (C.ty t).zero z.cells.toList) ∧ (isAggK (C.ty t).k = true → ∃ cs, z = .agg cs) ∧ (∀ n g e, (C.ty t).k = .arr n g e → ∀ ρ ro w, VC ρ ro w (TL.flat ⟨g, List.replicate n (dfl g)⟩) z.cells.toList)

structure CfgOK (P : Program) (C : Cfg) : Prop where
  ty : ∀ t, TyOK P C t
  fn : ∀ k f, C.fn k = some f → P.funcs[k]? = some f ∧ (f.name == "runtime.NumGoroutine") = false

def evalT (tmps : Array Value) : Operand → Value
  | .tmp t => tmps.getD t undef
  | .const v => v
  | .global g => .pointer (some ⟨g, 0, none⟩)
  | .func f => .func (.func f) #[] #[]

def nxv : Next → Option Value
  | .value v => some v
  | .skip => some undef
  | _ => none

def Good (P : Program) (R : Rl) (st : St) (w : World) (s : Sem Next) (v : LV) (st' : St) : Prop :=
  ∃ nx w' R' u, s.run P w = .ok nx w' ∧ nxv nx = some u ∧ VR R' w' v u ∧ Sim R' st' w' ∧ Ext R R' w w' ∧ Wm R R' st st' w w' ∧ R'.D = R.D

section
variable {P : Program} {C : Cfg} {R : Rl} {st : St} {w : World} {fr : List LV} {tmps : Array Value}

theorem Good.pure {s : Sem Next} {v : LV} {u : Value} (hs : Sim R st w) (hr : s.run P w = .ok (.value u) w) (hv : VR R w v u) : Good P R st w s v st :=
  ⟨_, w, R, u, hr, rfl, hv, hs, Ext.refl R w, Wm.refl R st w, rfl⟩

theorem cv_V {ρ : Rho} {ro : Nat → Prop} (v : Value) : V ρ ro w (cv v) v := by
  cases v with
  | bool b => exact .b b
  | int k n => exact .i k n
  | string s => exact .s s
  | pointer a => cases a with
    | none => exact .pnil
    | some a => exact .u _
  | nilFunc => exact .fnil
  | _ => exact .u _

theorem getD_V {ρ : Rho} {ro : Nat → Prop} (hf : VL ρ ro w fr tmps.toList) (x : Nat) : V ρ ro w (fr.getD x .u) (tmps.getD x undef) := by
  have := hf.getD x
  simpa [List.getD, Array.getD_eq_getD_getElem?] using this

theorem valT_V {ρ : Rho} {ro : Nat → Prop} (hf : VL ρ ro w fr tmps.toList) (t : Nat) (x : Operand) : V ρ ro w (valT C fr t x) (evalT tmps x) := by
  cases x with
  | tmp x => exact getD_V hf x
  | global g => exact .u _
  | func f => exact .fn rfl (fun j lv v h => by simp at h)
  | const v =>
    simp only [valT, evalT, constT]
    split
    · split
      · exact .slnil _
      · exact .u _
    · exact cv_V _

theorem val_V {ρ : Rho} {ro : Nat → Prop} (hf : VL ρ ro w fr tmps.toList) (x : Operand) : V ρ ro w (val C fr x) (evalT tmps x) := valT_V hf 0 x

/-! Values that are told. -/
theorem V.b_inv {ρ : Rho} {ro : Nat → Prop} {t : Bool} {v : Value} (h : V ρ ro w (.b t) v) : v = .bool t := by cases h; rfl
theorem V.i_inv {ρ : Rho} {ro : Nat → Prop} {k : IntKind} {n : Int} {v : Value} (h : V ρ ro w (.i k n) v) : v = .int k n := by cases h; rfl
theorem V.s_inv {ρ : Rho} {ro : Nat → Prop} {x : ByteArray} {v : Value} (h : V ρ ro w (.s x) v) : v = .string x := by cases h; rfl
theorem V.ag_inv {ρ : Rho} {ro : Nat → Prop} {l : List LV} {v : Value} (h : V ρ ro w (.ag l) v) : ∃ cs, v = .agg cs ∧ VC ρ ro w l cs.toList := by cases h with | ag h1 h2 h3 => exact ⟨_, rfl, ⟨h2, h3⟩, h1⟩
theorem V.av_inv {ρ : Rho} {ro : Nat → Prop} {t : TL} {v : Value} (h : V ρ ro w (.av t) v) : ∃ cs, v = .agg cs ∧ VC ρ ro w t.flat cs.toList := by cases h with | av h1 h2 h3 => exact ⟨_, rfl, ⟨h2, h3⟩, h1⟩
theorem V.tu_inv {ρ : Rho} {ro : Nat → Prop} {l : List LV} {v : Value} (h : V ρ ro w (.tu l) v) : ∃ cs, v = .tuple cs ∧ VL ρ ro w l cs.toList := by cases h with | tu h1 h2 => exact ⟨_, rfl, h1, h2⟩
theorem V.sl_inv {ρ : Rho} {ro : Nat → Prop} {o : Nat} {v : Value} (h : V ρ ro w (.sl o) v) : ∃ A cap len g, ρ o = some (.row A cap len g) ∧ v = slv_ A len cap := by cases h with | sl h => exact ⟨_, _, _, _, h, rfl⟩
theorem V.ag_mk {ρ : Rho} {ro : Nat → Prop} {l : List LV} {cs : Array Value} (h : VC ρ ro w l cs.toList) : V ρ ro w (.ag l) (.agg cs) := .ag h.one h.vl.1 h.vl.2
theorem V.av_mk {ρ : Rho} {ro : Nat → Prop} {t : TL} {cs : Array Value} (h : VC ρ ro w t.flat cs.toList) : V ρ ro w (.av t) (.agg cs) := .av h.one h.vl.1 h.vl.2

/-- A value's cells. -/
theorem VC.single {ρ : Rho} {ro : Nat → Prop} {v : LV} {u : Value} (hv : V ρ ro w v u) (h1 : u.oneCell' = true) : VC ρ ro w [v] [u] :=
  ⟨VL.cons hv VL.nil, fun x hx => by rw [List.mem_singleton.1 hx]; exact h1⟩
theorem flatV_cells {ρ : Rho} {ro : Nat → Prop} {v : LV} {u : Value} {cs : List LV} (h : flatV v = some cs) (hv : V ρ ro w v u) : VC ρ ro w cs u.cells.toList := by
  cases v <;> simp only [flatV] at h <;> try (cases h)
  all_goals first
    | (obtain ⟨cs', rfl, h2⟩ := hv.ag_inv; exact h2)
    | (obtain ⟨cs', rfl, h2⟩ := hv.av_inv; exact h2)
    | (have hv' := hv; cases hv <;> exact VC.single hv' rfl)

theorem getD_obj {o : Nat} {x : LO} (h : st.L.getD o .dead = x) (hx : x ≠ .dead) : st.L[o]? = some x := by
  rw [List.getD_eq_getElem?_getD] at h
  cases h1 : st.L[o]? with
  | none => rw [h1] at h; exact absurd h.symm hx
  | some y => rw [h1] at h; simp at h; rw [h]

theorem arrAt_sound {o e off size : Nat} {cs : List LV} {v : Value} {l : TL} (hs : Sim R st w) (hobj : ∀ A cap len g, R.ρ o = some (.row A cap len g) → l.g = g ∧ l.len = len ∧ ∃ t xs, w.ownsRow R.base t (sz g) (slv_ A len cap) len xs ∧ VC R.ρ R.ro w l.flat xs) (hnb : ∀ b, R.ρ o ≠ some (.blk b))
    (h : (if off + size ≤ sz l.g then some (((l.at_ e).drop off).take size) else none) = some cs) (hv : VR R w (.p o e off) v) :
    ∃ b k xs, v = .pointer (some ⟨b, k, none⟩) ∧ VC R.ρ R.ro w cs xs ∧ xs.length = size ∧ ∀ (j : Nat) (u : Value), xs[j]? = some u → w.cell? ⟨b, k + j, none⟩ = some u := by
  split at h
  · rename_i hle
    cases h
    cases hv with
    | pblk hρ => exact absurd hρ (hnb _)
    | prow hρ he =>
      rename_i b cap len g
      obtain ⟨hg, hlen, t, xs, hown, hxs⟩ := hobj _ _ _ _ hρ
      subst hg
      have hel := hxs.elem e (by omega)
      have hxl : xs.length = l.len * sz l.g := by rw [← hxs.length, flat_length]
      have hle2 : e * sz l.g + sz l.g ≤ xs.length := by rw [hxl, ← Nat.succ_mul]; exact Nat.mul_le_mul_right _ (by omega)
      refine ⟨b, _, _, rfl, (hel.drop off).take size, by simp; omega, fun j u hj => ?_⟩
      have hcell := hown.cells (g := b) rfl
      rw [List.getElem?_take] at hj
      split at hj
      · rw [List.getElem?_drop, List.getElem?_take] at hj
        split at hj
        · rw [List.getElem?_drop] at hj
          have := hcell _ _ hj
          have ha : (⟨b, 0, none⟩ : Addr).add (e * sz l.g + (off + j)) = ⟨b, e * sz l.g + off + j, none⟩ := by unfold Addr.add; split <;> simp_all <;> omega
          rwa [ha] at this
        · cases hj
      · cases hj
  · cases h

/-- Cells at a place. -/
theorem cellsAt_sound {o e off size : Nat} {cs : List LV} {v : Value} (hs : Sim R st w) (h : cellsAt st o e off size = some cs) (hv : VR R w (.p o e off) v) :
    ∃ b k xs, v = .pointer (some ⟨b, k, none⟩) ∧ VC R.ρ R.ro w cs xs ∧ xs.length = size ∧ ∀ (j : Nat) (u : Value), xs[j]? = some u → w.cell? ⟨b, k + j, none⟩ = some u := by
  unfold cellsAt at h
  split at h
  · rename_i c hc
    have hL := getD_obj hc (by simp)
    split at h
    · rename_i hh
      cases h
      obtain ⟨rfl, hle⟩ := hh
      cases hv with
      | pblk hρ =>
        rename_i b
        obtain ⟨arr, t, hb, hcc⟩ := hs.obj o _ _ hρ hL
        refine ⟨b, off, _, rfl, (hcc.drop off).take size, by simp [← hcc.length]; omega, fun j u hj => ?_⟩
        rw [cell_of_row w b (off + j) arr t (0, 0) hb]
        rw [List.getElem?_take] at hj
        split at hj
        · rw [List.getElem?_drop] at hj; simpa using hj
        · cases hj
      | prow hρ he => exact (hs.obj o _ _ hρ hL).elim
    · cases h
  · rename_i l ety hc
    have hL := getD_obj hc (by simp)
    refine arrAt_sound hs (fun A cap len g hρ => ?_) (fun b hρ => (hs.obj o _ _ hρ hL).elim) h hv
    have := hs.obj o _ _ hρ hL
    exact ⟨this.1, this.2.1, _, this.2.2⟩
  · rename_i l hc
    have hL := getD_obj hc (by simp)
    refine arrAt_sound hs (fun A cap len g hρ => ?_) (fun b hρ => (hs.obj o _ _ hρ hL).elim) h hv
    have := hs.obj o _ _ hρ hL
    exact ⟨this.1, this.2.1, this.2.2.2⟩
  · cases h

/-! Types. -/
def isAggD : TypeDesc → Bool
  | .struct _ | .array _ _ => true
  | _ => false
theorem DescOK.agg {size : Nat} {k : TyK} {d : TypeDesc} (h : DescOK P size k d) : isAggD d = isAggK k := by
  cases k <;> cases d <;> simp_all [DescOK, isAggD, isAggK]
theorem DescOK.size1 {size : Nat} {k : TyK} {d : TypeDesc} (h : DescOK P size k d) (ha : isAggK k = false) : size = 1 := by
  cases k <;> cases d <;> simp_all [DescOK, isAggK]
theorem run_isAgg {t : Nat} {d : TypeDesc} (h : P.underlying t = some d) : (Go.isAgg t).run P w = .ok (isAggD d) w := by
  unfold Go.isAgg
  simp only [Sem.run_bind, run_underlying h, Result.andThen_ok]
  cases d <;> rfl
theorem run_size {t : Nat} {inf : TypeInfo} (h : P.info? t = some inf) : (Go.sizeOf t).run P w = .ok inf.size w := by
  simp [Go.sizeOf, Go.typeInfo, h]
theorem run_zero {t : Nat} {inf : TypeInfo} {z : Value} (h : P.info? t = some inf) (hz : inf.zero = some z) : (Go.zeroValue t).run P w = .ok z w := by
  simp [Go.zeroValue, Go.typeInfo, h, hz]

/-- What a variable's cells read as. -/
def pk (agg : Bool) (xs : List Value) : Value := if agg then .agg xs.toArray else xs.getD 0 undef

theorem run_loadVar_cells {t : Nat} {inf : TypeInfo} {d : TypeDesc} (hi : P.info? t = some inf) (hu : P.underlying t = some d) (ha : isAggD d = false → inf.size = 1) (ad : Addr) (xs : List Value) (hl : xs.length = inf.size)
    (hx : ∀ (j : Nat) (u : Value), xs[j]? = some u → w.cell? (ad.add j) = some u) : (loadVar t ad).run P w = .ok (pk (isAggD d) xs) w := by
  unfold loadVar
  simp only [Sem.run_bind, run_isAgg hu, Result.andThen_ok]
  cases hd : isAggD d with
  | true =>
    have := run_loadCells_list (P := P) w ad xs hx
    rw [hl] at this
    simp [run_size hi, this, pk]
  | false =>
    have h1 : xs.length = 1 := by rw [hl]; exact ha hd
    match xs, h1 with
    | [x], _ =>
      have := hx 0 x rfl
      have h0 : ad.add 0 = ad := by simp [Addr.add]
      rw [h0] at this
      simp [this, pk]

theorem pack_sound {ρ : Rho} {ro : Nat → Prop} {t : Nat} {cs : List LV} {v : LV} {xs : List Value} (hT : TyOK P C t) (h : pack C t cs = some v) (hv : VC ρ ro w cs xs) (hl : xs.length = (C.ty t).size) :
    tyKnown C t = true ∧ V ρ ro w v (pk (isAggK (C.ty t).k) xs) := by
  unfold pack at h
  have hk : tyKnown C t = true := by
    unfold tyKnown
    split
    · rename_i hh; simp only [hh] at h; cases h
    · rfl
  refine ⟨hk, ?_⟩
  obtain ⟨inf, d, z, h1, h2, h3, h4, _⟩ := hT.out hk
  split at h
  · cases h
  · rename_i offs hh
    cases h
    rw [hh]
    exact V.ag_mk (by simpa using hv)
  · rename_i n g e hh
    rw [hh] at h4
    cases d <;> simp only [DescOK] at h4
    cases h5 : TL.ofCells g n cs with
    | none => simp [h5] at h
    | some l =>
      simp [h5] at h
      subst h
      have := ofCells_sound h5 hv.vl
      rw [hh]
      exact V.av_mk ⟨by simpa using this.2.2, by simpa using hv.one⟩
  · split at h
    · cases h
      obtain ⟨u, us, rfl, h5, h6⟩ := hv.vl.of_cons
      have : isAggK (C.ty t).k = false := by
        cases hq : (C.ty t).k <;> first | rfl | (simp_all)
      simp [pk, this]; exact h5
    · cases h

theorem loadAt_sound {t : Nat} {a v : LV} {av : Value} (hT : TyOK P C t) (hs : Sim R st w) (h : loadAt C st t a = some v) (hv : VR R w a av) :
    ∃ u, (Instr.loadAt t av).run P w = .ok u w ∧ VR R w v u := by
  unfold loadAt at h
  split at h
  · rename_i o e off
    split at h
    · rename_i l hw
      cases h
      unfold wholeArr at hw
      split at hw
      · rename_i n g e' l e2 hk hc
        split at hw
        · rename_i hh
          cases hw
          obtain ⟨rfl, rfl, rfl, rfl⟩ := hh
          have hL := getD_obj hc (by simp)
          cases hv with
          | pblk hρ => exact (hs.obj o _ _ hρ hL).elim
          | prow hρ he =>
            rename_i b cap len g
            obtain ⟨hg, hlen, xs, hown, hxs⟩ := hs.obj o _ _ hρ hL
            subst hg
            obtain ⟨inf, d, z, h1, h2, h3, h4, _⟩ := hT.out (by simp [tyKnown, hk])
            rw [hk] at h4
            cases d <;> simp only [DescOK] at h4
            have hxl : xs.length = inf.size := by rw [← hxs.length, flat_length, h3, h4.2.2.2.1]
            have hcell := hown.cells (g := b) rfl
            have hr := run_loadVar_cells (P := P) (w := w) h1 h2 (by simp [isAggD]) ⟨b, 0 * sz l.g + 0, none⟩ xs hxl (by simpa using hcell)
            refine ⟨_, by simp only [Instr.loadAt, Instr.sureAddr, Sem.run_bind, Sem.run_pure, Result.andThen_ok]; exact hr, ?_⟩
            simp only [pk, isAggD, if_true]
            exact V.av_mk (by simpa using hxs)
        · cases hw
      · cases hw
    · cases hc : cellsAt st o e off (C.ty t).size with
      | none => simp [hc] at h
      | some cs =>
        simp [hc] at h
        obtain ⟨b, k, xs, rfl, hxs, hl, hcell⟩ := cellsAt_sound hs hc hv
        obtain ⟨hk, hp⟩ := pack_sound hT h hxs hl
        obtain ⟨inf, d, z, h1, h2, h3, h4, _⟩ := hT.out hk
        have hr := run_loadVar_cells (P := P) (w := w) h1 h2 (fun ha => by rw [h3]; exact h4.size1 (by rw [← h4.agg]; exact ha)) ⟨b, k, none⟩ xs (by rw [hl, h3]) (fun j u hj => by
          have ha : (⟨b, k, none⟩ : Addr).add j = ⟨b, k + j, none⟩ := by unfold Addr.add; split <;> simp_all
          rw [ha]; exact hcell j u hj)
        refine ⟨_, by simp only [Instr.loadAt, Instr.sureAddr, Sem.run_bind, Sem.run_pure, Result.andThen_ok]; exact hr, ?_⟩
        rw [h4.agg]; exact hp
  · rename_i l e off
    split at h
    · rename_i hle
      cases hv with
      | pv he hro hx h1' hl hV =>
        rename_i ad xs
        have hxs : VC R.ρ R.ro w l.flat xs := ⟨⟨hl, hV⟩, h1'⟩
        have hel := ((hxs.elem e he).drop off).take (C.ty t).size
        have hxl : xs.length = l.len * sz l.g := by rw [← hxs.length, flat_length]
        have hle2 : e * sz l.g + sz l.g ≤ xs.length := by rw [hxl, ← Nat.succ_mul]; exact Nat.mul_le_mul_right _ (by omega)
        have hlen : ((((xs.drop (e * sz l.g)).take (sz l.g)).drop off).take (C.ty t).size).length = (C.ty t).size := by simp; omega
        obtain ⟨hk, hp⟩ := pack_sound hT h hel hlen
        obtain ⟨inf, d, z, h1, h2, h3, h4, _⟩ := hT.out hk
        have hr := run_loadVar_cells (P := P) (w := w) h1 h2 (fun ha => by rw [h3]; exact h4.size1 (by rw [← h4.agg]; exact ha)) (ad.add (e * sz l.g + off)) _ (by rw [hlen, h3]) (fun j u hj => by
          rw [List.getElem?_take] at hj
          split at hj
          · rw [List.getElem?_drop, List.getElem?_take] at hj
            split at hj
            · rw [List.getElem?_drop] at hj
              have := hx _ _ hj
              have ha : (ad.add (e * sz l.g + off)).add j = ad.add (e * sz l.g + (off + j)) := by
                unfold Addr.add
                split <;> split <;> split <;> simp_all <;> omega
              rw [ha]; exact this
            · cases hj
          · cases hj)
        refine ⟨_, by simp only [Instr.loadAt, Instr.sureAddr, Sem.run_bind, Sem.run_pure, Result.andThen_ok]; exact hr, ?_⟩
        rw [h4.agg]; exact hp
    · cases h
  · cases h

/-! Stores. -/
theorem setRow_own {b len cap k e size : Nat} {base : Nat} {xs us : List Value} (hown : w.ownsRow base e size (slv_ (some b) len cap) len xs) (hk : k + us.length ≤ len * size) :
    ∃ cur, w.heap[b]? = some (.cells cur e (0, 0)) ∧ k + us.length ≤ cur.size ∧
      (w.setRow b (cur.toList.take k ++ us ++ cur.toList.drop (k + us.length)).toArray).ownsRow base e size (slv_ (some b) len cap) len (xs.take k ++ (us ++ xs.drop (k + us.length))) := by
  obtain ⟨hl, h | ⟨g, cap', cur, h1, h2, h3, h4, h5, h6, h7⟩⟩ := hown
  · simp [slv_] at h
  · simp only [slv_, Option.map_some, Value.slice.injEq, Option.some.injEq, Addr.mk.injEq, and_true, true_and] at h1
    obtain ⟨rfl, rfl⟩ := h1
    have hcs : len * size ≤ cur.size := by rw [h6]; exact Nat.mul_le_mul_right _ h4
    refine ⟨cur, h3, by omega, ⟨?_, .inr ⟨b, cap, _, rfl, h2, setRow_heap w b cur _ e _ h3, h4, h5, ?_, ?_⟩⟩⟩
    · simp only [List.length_append, List.length_take, List.length_drop, hl]; omega
    · simp only [List.size_toArray, List.length_append, List.length_take, List.length_drop, Array.length_toList]; omega
    · subst h7
      simp only [List.append_assoc]
      apply List.ext_getElem?
      intro j
      simp only [List.getElem?_take, List.getElem?_append, List.getElem?_drop, List.length_take, Array.length_toList, List.length_drop]
      by_cases hj : j < k
      · have h8 : j < len * size := by omega
        have h9 : j < min k cur.size := by omega
        have h10 : j < min k (min (len * size) cur.size) := by omega
        simp [h8, h9, h10, hj]
      · by_cases hj2 : j < k + us.length
        · have h8 : j < len * size := by omega
          have h9 : ¬ j < min k cur.size := by omega
          have h10 : ¬ j < min k (min (len * size) cur.size) := by omega
          have h11 : min k cur.size = k := by omega
          have h12 : min k (min (len * size) cur.size) = k := by omega
          have h13 : j - k < us.length := by omega
          simp only [h8, if_true, h9, if_false, h10, h11, h12, h13]
        · by_cases h8 : j < len * size
          · have h9 : ¬ j < min k cur.size := by omega
            have h10 : ¬ j < min k (min (len * size) cur.size) := by omega
            have h11 : min k cur.size = k := by omega
            have h12 : min k (min (len * size) cur.size) = k := by omega
            have h13 : ¬ j - k < us.length := by omega
            simp only [h8, if_true, h9, if_false, h10, h11, h12, h13]
            have h14 : k + us.length + (j - k - us.length) = j := by omega
            rw [h14]; simp [h8]
          · have h9 : ¬ j < min k (min (len * size) cur.size) := by omega
            have h12 : min k (min (len * size) cur.size) = k := by omega
            have h13 : ¬ j - k < us.length := by omega
            have h14 : k + us.length + (j - k - us.length) = j := by omega
            simp [h8, h9, h12, h13, h14]

theorem frz_sound {v : LV} {u : Value} (hs : Sim R st w) (hv : VR R w v u) : ∃ R', Sim R' (frz st v).2 w ∧ Ext R R' w w ∧ Wm R R' st (frz st v).2 w w ∧ VR R' w (frz st v).1 u ∧ R'.D = R.D ∧ R'.ρ = R.ρ := by
  have self : ∃ R', Sim R' st w ∧ Ext R R' w w ∧ Wm R R' st st w w ∧ VR R' w v u ∧ R'.D = R.D ∧ R'.ρ = R.ρ := ⟨R, hs, Ext.refl R w, Wm.refl R st w, hv, rfl, rfl⟩
  cases v <;> try (exact self)
  rename_i o
  unfold frz
  simp only []
  obtain ⟨A, cap, len, g, hρ, rfl⟩ := hv.sl_inv
  split
  · rename_i t ety ht
    obtain ⟨h1, h2, h3, h4⟩ := hs.freeze hρ (getD_obj ht (by simp))
    exact ⟨_, h1, h2, h3, h4, rfl, rfl⟩
  · rename_i t ht
    have hL := getD_obj ht (by simp)
    obtain ⟨h1, h2, h3, e, xs, h4, h5⟩ := hs.obj o _ _ hρ hL
    refine ⟨R, hs, Ext.refl R w, Wm.refl R st w, ?_, rfl, rfl⟩
    subst h2
    cases A with
    | none =>
      rcases h4.2 with ⟨h6, h7⟩ | ⟨g', cap', cur, h6, _⟩
      · simp [slv_] at h6
        simp only [slv_, Option.map_none, h6.2, h7]
        exact .slve h7
      · simp [slv_] at h6
    | some b =>
      have hc : t.len ≤ cap := by
        rcases h4.2 with ⟨h6, h7⟩ | ⟨g', cap', cur, h6, _, _, h7, _⟩
        · simp [slv_] at h6
        · simp [slv_] at h6; omega
      exact .slv hc (h3 b rfl) (h4.cells (g := b) rfl) h5.one h5.vl.1 h5.vl.2
  · exact ⟨R, hs, Ext.refl R w, Wm.refl R st w, .u _, rfl, rfl⟩

theorem frzL_sound : ∀ {cs : List LV} {R : Rl} {st : St} {us : List Value}, Sim R st w → VLR R w cs us →
    ∃ R', Sim R' (frzL st cs).2 w ∧ Ext R R' w w ∧ Wm R R' st (frzL st cs).2 w w ∧ VLR R' w (frzL st cs).1 us ∧ R'.D = R.D ∧ R'.ρ = R.ρ
  | [], R, st, us, hs, hv => ⟨R, hs, Ext.refl R w, Wm.refl R st w, hv, rfl, rfl⟩
  | v :: cs, R, st, us, hs, hv => by
    obtain ⟨u, us', rfl, h1, h2⟩ := hv.of_cons
    obtain ⟨R1, a1, a2, a3, a4, a5, a6⟩ := frz_sound hs h1
    obtain ⟨R2, b1, b2, b3, b4, b5, b6⟩ := frzL_sound (cs := cs) (R := R1) (st := (frz st v).2) a1 (h2.ext a2)
    exact ⟨R2, b1, a2.trans b2, a3.trans (Nat.le_refl _) b3, VL.cons (a4.ext b2) b4, b5.trans a5, b6.trans a6⟩

theorem run_storeVar_cells {t : Nat} {inf : TypeInfo} (hi : P.info? t = some inf) {b k e : Nat} {cur : Array Value} {u : Value} (hb : w.heap[b]? = some (.cells cur e (0, 0))) (hl : u.cells.size = inf.size) (hk : k + u.cells.size ≤ cur.size) (h1 : ∀ v ∈ u.cells.toList, v.oneCell' = true) :
    (storeVar t ⟨b, k, none⟩ u).run P w = .ok () (w.setRow b (cur.toList.take k ++ u.cells.toList ++ cur.toList.drop (k + u.cells.toList.length)).toArray) := by
  have := run_storeCells_at P b k e u.cells.toList 0 cur w hb (by simpa using hk) h1
  unfold storeVar
  simp only [Sem.run_bind, run_size hi, Result.andThen_ok, hl, ne_eq, not_true_eq_false, if_false]
  simpa using this

theorem Sim.write_row {R : Rl} {st : St} {w : World} (hs : Sim R st w) {o b : Nat} {l : Loc} (hρ : R.ρ o = some l) (hlv : live st o) (hlb : l.block = some b) (hlo : st.lo ≤ o) (ob' : LO) {cur : Array Value} {e : Nat} (arr : Array Value)
    (hb : w.heap[b]? = some (.cells cur e (0, 0))) (hob : ObjRel R.ρ R.ro R.base (w.setRow b arr) ob' l) (hl' : ob'.live = true) (hnl : ¬ LoopAt st o) (hnl' : ∀ fr ps a b f p s, ob' ≠ .loop fr ps a b f p s) :
    Sim R { st with L := st.L.set o ob' } (w.setRow b arr) ∧ Ext R R w (w.setRow b arr) ∧ Wm R R st { st with L := st.L.set o ob' } w (w.setRow b arr) :=
  hs.write hρ hlv hlb hlo ob' (fun k hk => setRow_other w b k _ hk) (by simp) rfl rfl rfl (by rw [hb]; simp) hob hl' (fun _ _ _ _ _ _ _ h => absurd ⟨_, _, _, _, _, _, _, h⟩ hnl) (fun ⟨_, _, _, _, _, _, _, h⟩ => by
    have h : (st.L.set o ob')[o]? = _ := h
    rw [List.getElem?_set] at h
    simp only [if_true] at h
    split at h
    · injection h with h; exact absurd h (hnl' _ _ _ _ _ _ _)
    · cases h)

theorem keeps_setRow {R : Rl} {st : St} {w : World} (hs : Sim R st w) {o b : Nat} {l : Loc} (hρ : R.ρ o = some l) (hlv : live st o) (hlb : l.block = some b) (arr : Array Value) : Keeps R.ro w (w.setRow b arr) :=
  ⟨fun k hk => setRow_other w b k _ (fun e => (hs.wr o l b hρ hlv hlb).2.2 (e ▸ hk))⟩

theorem storeArr_sound {t o e off : Nat} {l : TL × Nat} {m : TL} {av vv : Value} {st' : St} (hT : TyOK P C t) (hs : Sim R st w) (hlo : st.lo ≤ o) (hw : wholeArr C st t o e off = some l) (h : storeArr st o l m = some st') (ha : VR R w (.p o e off) av) (hv : VR R w (.av m) vv) :
    ∃ w' R', (Instr.storeAt t av vv).run P w = .ok () w' ∧ Sim R' st' w' ∧ Ext R R' w w' ∧ Wm R R' st st' w w' ∧ R'.D = R.D := by
  unfold storeArr at h
  split at h
  case isFalse => cases h
  rename_i hh
  cases h
  unfold wholeArr at hw
  split at hw
  case h_2 => cases hw
  rename_i n g e' l e2 hk hc
  split at hw
  case isFalse => cases hw
  rename_i h3
  cases hw
  obtain ⟨rfl, rfl, rfl, rfl⟩ := h3
  have hL := getD_obj hc (by simp)
  cases ha with
  | pblk hρ => exact (hs.obj o _ _ hρ hL).elim
  | prow hρ he =>
    rename_i b cap len g
    obtain ⟨hg, hlen, xs, hown, hxs⟩ := hs.obj o _ _ hρ hL
    subst hg
    obtain ⟨inf, d, z, h1, h2, h3, h4, _⟩ := hT.out (by simp [tyKnown, hk])
    rw [hk] at h4
    cases d <;> simp only [DescOK] at h4
    obtain ⟨cs, rfl, hcs⟩ := hv.av_inv
    have hcl : cs.toList.length = l.len * sz l.g := by rw [← hcs.length, flat_length, hh.1, hh.2]
    have hlv : live st o := ⟨_, hL, rfl⟩
    obtain ⟨cur, hb, hsz, hown'⟩ := setRow_own (k := 0) (us := cs.toList) hown (by rw [hcl, hlen]; omega)
    have hr := run_storeVar_cells (P := P) (w := w) (k := 0) (u := .agg cs) h1 hb (by show cs.size = _; rw [h3, h4.2.2.2.1]; simpa using hcl) (by simpa [Value.cells] using hsz) hcs.one
    have hxl : xs.length = l.len * sz l.g := by rw [← hxs.length, flat_length]
    have hk' := keeps_setRow hs hρ hlv rfl (cur.toList.take 0 ++ cs.toList ++ cur.toList.drop (0 + cs.toList.length)).toArray
    have hob : ObjRel R.ρ R.ro R.base (w.setRow b (cur.toList.take 0 ++ cs.toList ++ cur.toList.drop (0 + cs.toList.length)).toArray) (.arr m e2) (.row (some b) cap len l.g) := by
      refine ⟨hh.1.symm, by rw [hh.2, hlen], _, hown', ?_⟩
      have : xs.drop (0 + cs.toList.length) = [] := List.drop_eq_nil_of_le (by omega)
      rw [this]
      simpa using hcs.mono (fun _ _ h => h) (fun _ h => h) hk'
    obtain ⟨s1, s2, s3⟩ := hs.write_row hρ hlv rfl hlo (.arr m e2) _ hb hob rfl (fun ⟨_, _, _, _, _, _, _, h⟩ => by rw [hL] at h; cases h) (fun _ _ _ _ _ _ _ h => by cases h)
    refine ⟨_, R, ?_, s1, s2, s3, rfl⟩
    simp only [Instr.storeAt, Instr.sureAddr, Sem.run_bind, Sem.run_pure, Result.andThen_ok]
    simpa [Value.cells] using hr

theorem storeCs_sound {t o e off : Nat} {v : LV} {av vv : Value} {st' : St} (hT : TyOK P C t) (hs : Sim R st w) (hlo : st.lo ≤ o) (h : storeCs C st t o e off v = some st') (ha : VR R w (.p o e off) av) (hv : VR R w v vv) :
    ∃ w' R', (Instr.storeAt t av vv).run P w = .ok () w' ∧ Sim R' st' w' ∧ Ext R R' w w' ∧ Wm R R' st st' w w' ∧ R'.D = R.D := by
  unfold storeCs at h
  cases hf : flatV v with
  | none => simp [hf] at h
  | some cs =>
    simp only [hf, Option.bind_some] at h
    have hcs := flatV_cells hf hv
    split at h
    case isFalse => cases h
    rename_i hh
    obtain ⟨hk, hsize⟩ := hh
    obtain ⟨inf, d, z, h1, h2, h3, h4, _⟩ := hT.out hk
    have hus : vv.cells.size = inf.size := by rw [h3, ← hsize, hcs.length]; simp
    split at h
    · -- a variable's cells
      rename_i c hc
      have hL := getD_obj hc (by simp)
      split at h
      case isFalse => cases h
      rename_i hle
      cases h
      obtain ⟨rfl, hle⟩ := hle
      cases ha with
      | prow hρ he => exact (hs.obj o _ _ hρ hL).elim
      | pblk hρ =>
        rename_i b
        obtain ⟨arr, e, hb, hcc⟩ := hs.obj o _ _ hρ hL
        have hlv : live st o := ⟨_, hL, rfl⟩
        have hal : c.length = arr.size := by simpa using hcc.length
        have hr := run_storeVar_cells (P := P) (w := w) (k := off) (u := vv) h1 hb hus (by have := hcs.length; simp at this; omega) hcs.one
        have hk' := keeps_setRow hs hρ hlv rfl (arr.toList.take off ++ vv.cells.toList ++ arr.toList.drop (off + vv.cells.toList.length)).toArray
        have hob : ObjRel R.ρ R.ro R.base (w.setRow b (arr.toList.take off ++ vv.cells.toList ++ arr.toList.drop (off + vv.cells.toList.length)).toArray) (.cells (c.take off ++ (cs ++ c.drop (off + cs.length)))) (.blk b) := by
          refine ⟨_, e, setRow_heap w b arr _ e _ hb, ?_⟩
          rw [hcs.length]
          simpa [List.append_assoc] using (((hcc.take off).append (hcs.append (hcc.drop (off + vv.cells.toList.length)))).mono (fun _ _ h => h) (fun _ h => h) hk')
        obtain ⟨s1, s2, s3⟩ := hs.write_row hρ hlv rfl hlo _ _ hb hob rfl (fun ⟨_, _, _, _, _, _, _, h⟩ => by rw [hL] at h; cases h) (fun _ _ _ _ _ _ _ h => by cases h)
        refine ⟨_, R, ?_, s1, s2, s3, rfl⟩
        simp only [Instr.storeAt, Instr.sureAddr, Sem.run_bind, Sem.run_pure, Result.andThen_ok]
        exact hr
    · -- an element's cells
      rename_i l0 e0' hc0
      split at h
      case h_2 => cases h
      rename_i l ety hc
      split at h
      case isFalse => cases h
      rename_i hle
      cases hp : l.put e off (frzL st cs).1 with
      | none => simp [hp] at h
      | some l' =>
        simp [hp] at h
        subst h
        obtain ⟨R1, a1, a2, a3, a4, a5, a6⟩ := frzL_sound hs hcs.vl
        have hL := getD_obj hc (by simp)
        have hlo1 : (frzL st cs).2.lo ≤ o := by rw [a3.lo]; exact hlo
        have ha1 := ha.ext a2
        cases ha1 with
        | pblk hρ => exact (a1.obj o _ _ hρ hL).elim
        | prow hρ he =>
          rename_i b cap len g
          obtain ⟨hg, hlen, xs, hown, hxs⟩ := a1.obj o _ _ hρ hL
          subst hg
          have hcs1 : VC R1.ρ R1.ro w (frzL st cs).1 vv.cells.toList := ⟨a4, hcs.one⟩
          have hl1 : (frzL st cs).1.length = cs.length := by rw [hcs1.length, hcs.length]
          have hup : e * sz l.g + sz l.g ≤ len * sz l.g := by rw [← Nat.succ_mul]; exact Nat.mul_le_mul_right _ he
          have hlv : live (frzL st cs).2 o := ⟨_, hL, rfl⟩
          obtain ⟨cur, hb, hsz, hown'⟩ := setRow_own (k := e * sz l.g + off) (us := vv.cells.toList) hown (by rw [← hcs1.length, hl1]; omega)
          have hr := run_storeVar_cells (P := P) (w := w) (k := e * sz l.g + off) (u := vv) h1 hb hus (by simpa using hsz) hcs.one
          have hk' := keeps_setRow a1 hρ hlv rfl (cur.toList.take (e * sz l.g + off) ++ vv.cells.toList ++ cur.toList.drop (e * sz l.g + off + vv.cells.toList.length)).toArray
          have hput := put_sound hp (by omega) (by rw [hl1]; exact hle) hxs.vl a4
          have hob : ObjRel R1.ρ R1.ro R1.base (w.setRow b (cur.toList.take (e * sz l.g + off) ++ vv.cells.toList ++ cur.toList.drop (e * sz l.g + off + vv.cells.toList.length)).toArray) (.arr l' ety) (.row (some b) cap len l.g) := by
            refine ⟨hput.1, by rw [hput.2.1, hlen], _, hown', ⟨hput.2.2.mono (fun _ _ h => h) (fun _ h => h) hk', ?_⟩⟩
            intro x hx
            rcases List.mem_append.1 hx with hx | hx
            · exact hxs.one x (List.mem_of_mem_take hx)
            · rcases List.mem_append.1 hx with hx | hx
              · exact hcs.one x hx
              · exact hxs.one x (List.mem_of_mem_drop hx)
          obtain ⟨s1, s2, s3⟩ := a1.write_row hρ hlv rfl hlo1 _ _ hb hob rfl (fun ⟨_, _, _, _, _, _, _, h⟩ => by rw [hL] at h; cases h) (fun _ _ _ _ _ _ _ h => by cases h)
          refine ⟨_, R1, ?_, s1, a2.trans s2, a3.trans (Nat.le_refl _) s3, a5⟩
          simp only [Instr.storeAt, Instr.sureAddr, Sem.run_bind, Sem.run_pure, Result.andThen_ok]
          exact hr
    · cases h

theorem storeAt_sound {t : Nat} {a v : LV} {av vv : Value} {st' : St} (hT : TyOK P C t) (hs : Sim R st w) (h : storeAt C st t a v = some st') (ha : VR R w a av) (hv : VR R w v vv) :
    ∃ w' R', (Instr.storeAt t av vv).run P w = .ok () w' ∧ Sim R' st' w' ∧ Ext R R' w w' ∧ Wm R R' st st' w w' ∧ R'.D = R.D := by
  unfold storeAt at h
  split at h
  case h_2 => cases h
  rename_i o e off
  split at h
  · cases h
  rename_i hlo
  cases hw : wholeArr C st t o e off with
  | none => rw [hw] at h; exact storeCs_sound hT hs (by omega) h ha hv
  | some l =>
    rw [hw] at h
    cases v
    case av m => exact storeArr_sound hT hs (by omega) hw h ha hv
    all_goals exact storeCs_sound hT hs (by omega) h ha hv

/-! New variables. -/
theorem run_newVar {t : Nat} {u : Value} : (Go.newVar t u).run P w = .ok ⟨w.heap.size, 0, none⟩ (w.alloc (.cells u.cells t)) := rfl

theorem new_sound {t : Nat} {ob : LO} {u : Value} (hs : Sim R st w) (hob : (∃ cs, ob = .cells cs ∧ VC R.ρ R.ro w cs u.cells.toList) ∨ (∃ l : TL, ob = .arr l t ∧ 0 < l.len ∧ l.len ≤ 65536 ∧ VC R.ρ R.ro w l.flat u.cells.toList)) :
    ∃ R', VR R' (w.alloc (.cells u.cells t)) (.p st.L.length 0 0) (.pointer (some ⟨w.heap.size, 0, none⟩)) ∧ Sim R' (new st ob) (w.alloc (.cells u.cells t)) ∧ Ext R R' w (w.alloc (.cells u.cells t)) ∧ Wm R R' st (new st ob) w (w.alloc (.cells u.cells t)) ∧ R'.D = R.D := by
  have hk : Keeps R.ro w (w.alloc (.cells u.cells t)) := ⟨fun b hb => heap_push_old w _ (hs.rolt b hb)⟩
  have hup : ∀ l o l', R.ρ o = some l' → upd R.ρ st.L.length l o = some l' := by
    intro l o l' h
    have := hs.dom o l' h
    simp only [upd]; rw [if_neg (by omega)]; exact h
  rcases hob with ⟨cs, rfl, hcs⟩ | ⟨l, rfl, hpos, hmax, hl⟩
  · obtain ⟨s1, s2, s3⟩ := hs.push (.cells cs) (.blk w.heap.size) (.cells u.cells t) rfl (fun _ _ _ _ _ _ _ h => by cases h) ⟨u.cells, t, heap_alloc_new w _, hcs.mono (hup _) (fun _ h => h) hk⟩
    exact ⟨_, .pblk (by simp [upd]), s1, s2, s3, rfl⟩
  · have hsize : u.cells.size = l.len * sz l.g := by have := hl.length; rw [flat_length] at this; simpa using this.symm
    obtain ⟨s1, s2, s3⟩ := hs.push (.arr l t) (.row (some w.heap.size) l.len l.len l.g) (.cells u.cells t) rfl (fun _ _ _ _ _ _ _ h => by cases h)
      ⟨rfl, rfl, u.cells.toList, World.ownsRow_lit (base := R.base) (e := t) (size := sz l.g) w u.cells l.len hs.size (by unfold maxLen; omega) hsize, hl.mono (hup _) (fun _ h => h) hk⟩
    refine ⟨_, ?_, s1, s2, s3, rfl⟩
    have := V.prow (ρ := upd R.ρ st.L.length (.row (some w.heap.size) l.len l.len l.g)) (ro := R.ro) (w := w.alloc (.cells u.cells t)) (o := st.L.length) (b := w.heap.size) (cap := l.len) (len := l.len) (e := 0) (off := 0) (g := l.g) (by simp [upd]) hpos
    simpa using this

/-! Literals. -/
theorem fold_set (off : Nat) : ∀ (us : List Value) (k : Nat) (arr : Array Value), off + k + us.length ≤ arr.size →
    ((us.zipIdx k).foldl (fun (cs : Array Value) (p : Value × Nat) => cs.setIfInBounds (off + p.2) p.1) arr).toList = arr.toList.take (off + k) ++ (us ++ arr.toList.drop (off + k + us.length))
  | [], k, arr, h => by simp
  | u :: us, k, arr, h => by
    rw [List.zipIdx_cons, List.foldl_cons, fold_set off us (k + 1) (arr.setIfInBounds (off + k) u) (by simp at h ⊢; omega)]
    have hk : off + k < arr.toList.length := by simp at h ⊢; omega
    simp only [Array.toList_setIfInBounds, List.length_cons, ← Nat.add_assoc]
    rw [show off + k + us.length + 1 = off + k + 1 + us.length by omega, List.drop_set_of_lt (by omega)]
    rw [List.take_succ_eq_append_getElem (by simpa using hk)]
    simp [List.take_set_of_le]

theorem fill_one (arr : Array Value) (off : Nat) (us : Array Value) (h : off + us.size ≤ arr.size) :
    (us.zipIdx.foldl (fun cs (c, j) => cs.setIfInBounds (off + j) c) arr).toList = arr.toList.take off ++ (us.toList ++ arr.toList.drop (off + us.size)) := by
  have := fold_set off us.toList 0 arr (by simpa using h)
  simp only [Nat.add_zero, Array.length_toList] at this
  rw [← this, ← Array.foldl_toList]
  simp

theorem fill_sound {ρ : Rho} {ro : Nat → Prop} {place place' : Nat → Option (Nat × Nat)} (hp : ∀ i p, place i = some p → place' i = some p) :
    ∀ {ps : List (Nat × LV)} {qs : List (Nat × Value)} {cs cs' : List LV} {arr : Array Value}, fillC place cs ps = some cs' → ps.map (·.1) = qs.map (·.1) → VL ρ ro w (ps.map (·.2)) (qs.map (·.2)) → VL ρ ro w cs arr.toList → (∀ v ∈ arr.toList, v.oneCell' = true) →
    ∃ arr', Instr.fill place' arr qs = some arr' ∧ VC ρ ro w cs' arr'.toList
  | [], qs, cs, cs', arr, h, h1, h2, h3, h4 => by
    have : qs = [] := by simpa using h1.symm
    subst this
    simp [fillC] at h; subst h
    exact ⟨arr, rfl, h3, h4⟩
  | (i, v) :: ps, qs, cs, cs', arr, h, h1, h2, h3, h4 => by
    cases qs with
    | nil => simp at h1
    | cons q qs =>
      obtain ⟨i', u⟩ := q
      simp only [List.map_cons, List.cons.injEq] at h1
      obtain ⟨rfl, h1⟩ := h1
      simp only [fillC] at h
      split at h
      · cases h
      · rename_i off size hpl
        cases hf : flatV v with
        | none => simp [hf] at h
        | some c =>
          simp only [hf, Option.bind_some] at h
          split at h
          case isFalse => cases h
          rename_i hh
          have hv := h2.head
          have hc := flatV_cells hf hv
          have hus : u.cells.size = size := by rw [← hh.1, hc.length]; simp
          have hal : cs.length = arr.size := by simpa using h3.1
          have h5 := fill_one arr off u.cells (by omega)
          have h6 : VC ρ ro w (cs.take off ++ (c ++ cs.drop (off + size))) (arr.toList.take off ++ (u.cells.toList ++ arr.toList.drop (off + u.cells.size))) := by
            rw [hus]
            exact VC.append (VC.take ⟨h3, h4⟩ off) (VC.append hc (VC.drop ⟨h3, h4⟩ _))
          rw [← h5] at h6
          obtain ⟨arr', h7, h8⟩ := fill_sound hp h h1 h2.tail h6.vl h6.one
          refine ⟨arr', ?_, h8⟩
          simp only [Instr.fill, hp _ _ hpl]
          rw [if_neg (by simp [hus]; omega)]
          exact h7

theorem VL.map2 {ρ : Rho} {ro : Nat → Prop} {α : Type} (f : α → LV) (g : α → Value) : ∀ (l : List α), (∀ a ∈ l, V ρ ro w (f a) (g a)) → VL ρ ro w (l.map f) (l.map g)
  | [], _ => VL.nil
  | a :: l, h => VL.cons (h a (by simp)) (VL.map2 f g l (fun b hb => h b (by simp [hb])))

theorem struct_mapM {fs : Array Field} {offs : List (Nat × Nat)} {size : Nat} (h : DescOK P size (.struct offs) (.struct fs)) :
    (fs.mapM fun f => do pure (f.offset, ← Go.sizeOf f.type) : Sem (Array (Nat × Nat))).run P w = .ok offs.toArray w := by
  simp only [DescOK] at h
  obtain ⟨h1, h2⟩ := h
  have key : ∀ (l : List Field) (os : List (Nat × Nat)), l.length = os.length → (∀ (i : Nat) (p : Nat × Nat), os[i]? = some p → ∃ f inf, l[i]? = some f ∧ f.offset = p.1 ∧ P.info? f.type = some inf ∧ inf.size = p.2) →
      (l.mapM fun f => do pure (f.offset, ← Go.sizeOf f.type) : Sem (List (Nat × Nat))).run P w = .ok os w := by
    intro l
    induction l with
    | nil => intro os hl _; cases os <;> simp_all
    | cons f l ih =>
      intro os hl hh
      cases os with
      | nil => simp at hl
      | cons p os =>
        obtain ⟨f', inf, h3, h4, h5, h6⟩ := hh 0 p rfl
        simp at h3; subst h3
        have := ih os (by simpa using hl) (fun i p hp => hh (i + 1) p (by simpa using hp))
        simp only [List.mapM_cons, Sem.run_bind, run_size h5, Result.andThen_ok, Sem.run_pure, this]
        rw [h4, h6]
  rw [Array.mapM_eq_mapM_toList]
  have := key fs.toList offs (by simpa using h1) (fun i p hp => by
    obtain ⟨f, inf, h3, h4, h5, h6, _⟩ := h2 i p hp
    exact ⟨f, inf, by simpa using h3, h4, h5, h6⟩)
  simp only [Sem.run_map, this, Result.andThen_ok]

/-! The operations, one by one. -/
theorem good_move {o : Oper} {x : Operand} (hs : Sim R st w) (hf : VLR R w fr tmps.toList) (ho : o.op = .move x ∨ o.op = .assign x) (t : Nat) : Good P R st w (execOp (evalT tmps) o) (valT C fr t x) st := by
  refine Good.pure hs (u := evalT tmps x) ?_ (valT_V hf t x)
  rcases ho with ho | ho <;> simp [execOp, ho]

theorem good_build {o : Oper} {t : Nat} {ps : Array (Nat × Operand)} {v : LV} {st' : St} {sd : Bool} (hC : CfgOK P C) (hs : Sim R st w) (hf : VLR R w fr tmps.toList) (ho : o.op = .build t ps) (h : evOp C fr st o = some (sd, v, st')) :
    Good P R st w (execOp (evalT tmps) o) v st' := by
  unfold evOp at h
  simp only [ho] at h
  have hparts : ∀ (l : List (Nat × Operand)), (l.map fun (i, x) => (i, val C fr x)).map (·.1) = (l.map fun (i, x) => (i, evalT tmps x)).map (·.1) ∧ VL R.ρ R.ro w ((l.map fun (i, x) => (i, val C fr x)).map (·.2)) ((l.map fun (i, x) => (i, evalT tmps x)).map (·.2)) := by
    intro l
    refine ⟨by simp [List.map_map, Function.comp_def], ?_⟩
    simp only [List.map_map, Function.comp_def]
    exact VL.map2 _ _ l (fun a _ => val_V hf a.2)
  split at h
  · rename_i offs hk
    obtain ⟨inf, d, z, h1, h2, h3, h4, h5, h6, h7, h8, _⟩ := (hC.ty t).out (by simp [tyKnown, hk])
    have h4' := h4
    rw [hk] at h4 h8
    cases d <;> (try simp only [DescOK] at h4)
    rename_i fs
    obtain ⟨zc, rfl⟩ := h8 rfl
    split at h
    · cases h
    rename_i hzl
    have hz := h7 (by omega) R.ρ R.ro w
    cases hfc : fillC (fun i => offs[i]?) (C.ty t).zero (ps.toList.map fun (i, x) => (i, val C fr x)) with
    | none => rw [hfc] at h; simp at h
    | some cs =>
      rw [hfc] at h
      simp only [Option.bind_some, Option.some.injEq, Prod.mk.injEq] at h
      obtain ⟨rfl, rfl, rfl⟩ := h
      obtain ⟨arr', e1, e2⟩ := fill_sound (place' := fun i => offs.toArray[i]?) (fun i p hp => by simpa using hp) hfc (hparts ps.toList).1 (hparts ps.toList).2 hz.vl hz.one
      refine Good.pure hs (u := .agg arr') ?_ (V.ag_mk e2)
      rw [hk] at h4'
      have hm := struct_mapM (w := w) h4'
      simp only [execOp, ho, Instr.build, Sem.run_bind, run_zero h1 h5, Result.andThen_ok, run_underlying h2, hm, Array.toList_map]
      have e1' : Instr.fill (fun x => offs.toArray[x]?) (Value.agg zc).cells (ps.toList.map fun x => (x.1, evalT tmps x.2)) = some arr' := e1
      rw [e1']; rfl
  · rename_i n g e hk
    obtain ⟨inf, d, z, h1, h2, h3, h4, h5, h6, h7, h8, _⟩ := (hC.ty t).out (by simp [tyKnown, hk])
    rw [hk] at h4 h8
    cases d <;> (try simp only [DescOK] at h4)
    rename_i n' e'
    obtain ⟨rfl, rfl, ⟨einf, ez, he1, he2, _⟩, _⟩ := h4
    obtain ⟨zc, rfl⟩ := h8 rfl
    split at h
    · cases h
    rename_i hzl
    have hz := h7 (by omega) R.ρ R.ro w
    cases hfc : fillC (fun i => some (i * sz g, sz g)) (C.ty t).zero (ps.toList.map fun (i, x) => (i, val C fr x)) with
    | none => rw [hfc] at h; simp at h
    | some cs =>
      rw [hfc] at h
      simp only [Option.bind_some] at h
      cases ho2 : TL.ofCells g n cs with
      | none => rw [ho2] at h; simp at h
      | some l =>
        rw [ho2] at h
        simp only [Option.bind_some, Option.some.injEq, Prod.mk.injEq] at h
        obtain ⟨rfl, rfl, rfl⟩ := h
        obtain ⟨arr', e1, e2⟩ := fill_sound (place' := fun i => some (i * sz g, sz g)) (fun i p hp => hp) hfc (hparts ps.toList).1 (hparts ps.toList).2 hz.vl hz.one
        have e3 := ofCells_sound ho2 e2.vl
        refine Good.pure hs (u := .agg arr') ?_ (V.av_mk ⟨e3.2.2, e2.one⟩)
        simp only [execOp, ho, Instr.build, Sem.run_bind, run_zero h1 h5, Result.andThen_ok, run_underlying h2, run_size he1, he2, Array.toList_map]
        have e1' : Instr.fill (fun i => some (i * sz g, sz g)) (Value.agg zc).cells (ps.toList.map fun x => (x.1, evalT tmps x.2)) = some arr' := e1
        rw [e1']; rfl
  · cases h
end
end Gz
