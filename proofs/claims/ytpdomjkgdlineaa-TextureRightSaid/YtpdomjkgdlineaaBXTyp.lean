/- What is known of types, checked by reckoning. -/
import Derived.Test.YtpdomjkgdlineaaBXItem
import Derived.Laws.StructEq
set_option linter.unusedVariables false
set_option linter.unusedSimpArgs false
set_option linter.unnecessarySimpa false
set_option linter.deprecated false
namespace Gz
open Go

inductive Tre (α : Type)
  | nil
  | node (k : Nat) (v : α) (l r : Tre α)
def Tre.find {α : Type} : Tre α → Nat → Option α
  | .nil, _ => none
  | .node k v l r, t => bif Nat.beq t k then some v else bif Nat.blt t k then l.find t else r.find t
def Tre.all {α : Type} (p : Nat → α → Bool) : Tre α → Bool
  | .nil => true
  | .node k v l r => p k v && (l.all p && r.all p)
theorem Tre.all_ok {α : Type} {p : Nat → α → Bool} : ∀ {T : Tre α} {t : Nat} {v : α}, T.all p = true → T.find t = some v → p t v = true
  | .nil, _, _, _, h => by simp [Tre.find] at h
  | .node k v l r, t, x, h, hf => by
    have h1 := and_b h
    have h2 := and_b h1.2
    simp only [Tre.find] at hf
    cases hb : Nat.beq t k with
    | true =>
      rw [hb] at hf; cases hf
      rw [Nat.eq_of_beq_eq_true hb]; exact h1.1
    | false =>
      rw [hb] at hf; simp only [cond_false] at hf
      cases hc : Nat.blt t k with
      | true => rw [hc] at hf; exact Tre.all_ok h2.1 hf
      | false => rw [hc] at hf; exact Tre.all_ok h2.2 hf

def vcz1 : LV → Value → Bool
  | .i k n, .int k' m => decide (k = k') && decide (n = m)
  | .b a, .bool b => sameBool a b
  | .s x, .string y => Same.s x.data y.data
  | .pnil, .pointer none => true
  | .slnil _, .slice none 0 0 => true
  | .slv t, .slice none 0 0 => Nat.beq t.l.length 0
  | .fnil, .nilFunc => true
  | .u, _ => true
  | _, _ => false
theorem vcz1xok {l : LV} {v : Value} (h : vcz1 l v = true) (ρ : Rho) (ro : Nat → Prop) (w : World) : V ρ ro w l v := by
  unfold vcz1 at h
  split at h
  · have h := and_b h
    obtain rfl := of_decide_eq_true h.1
    obtain rfl := of_decide_eq_true h.2
    exact .i _ _
  · obtain rfl := Same.ok (α := Bool) h
    exact .b _
  · rename_i x y
    have := Same.ok h
    cases x; cases y; simp only at this; subst this
    exact .s _
  · exact .pnil
  · exact .slnil _
  · exact .slve (Nat.eq_of_beq_eq_true h)
  · exact .fnil
  · exact .u _
  · cases h
def vcz : List LV → List Value → Bool
  | [], [] => true
  | a :: l, v :: vs => vcz1 a v && (v.oneCell' && vcz l vs)
  | _, _ => false
theorem vcz_ok : ∀ {l : List LV} {vs : List Value}, vcz l vs = true → ∀ (ρ : Rho) (ro : Nat → Prop) (w : World), VC ρ ro w l vs
  | [], [], _, _, _, _ => ⟨VL.nil, by simp⟩
  | [], _ :: _, h, _, _, _ => by simp [vcz] at h
  | _ :: _, [], h, _, _, _ => by simp [vcz] at h
  | a :: l, v :: vs, h, ρ, ro, w => by
    have h1 := and_b h
    have h2 := and_b h1.2
    have h3 := vcz_ok h2.2 ρ ro w
    refine ⟨.cons (vcz1xok h1.1 ρ ro w) h3.vl, fun u hu => ?_⟩
    rcases List.mem_cons.1 hu with rfl | hu
    · exact h2.1
    · exact h3.one u hu

def elemChk (P : Program) (g : Tag) (e : Nat) : Bool :=
  match P.info? e with
  | some inf => Nat.beq inf.size (sz g) && (Nat.ble inf.bytes 65536 && (match inf.zero with
    | some z => Nat.beq z.cells.size (sz g) && vcz (enc g (dfl g)) z.cells.toList
    | none => false))
  | none => false
theorem elemChk_ok {P : Program} {g : Tag} {e : Nat} (h : elemChk P g e = true) : ElemOK P g e := by
  unfold elemChk at h
  split at h
  · rename_i inf hi
    have h1 := and_b h
    have h2 := and_b h1.2
    have h3 := h2.2
    split at h3
    · rename_i z hz
      have h4 := and_b h3
      exact ⟨inf, z, hi, Nat.eq_of_beq_eq_true h1.1, Nat.le_of_ble_eq_true h2.1, hz, Nat.eq_of_beq_eq_true h4.1, vcz_ok h4.2⟩
    · cases h3
  · cases h

def structChk (P : Program) (size : Nat) : List (Nat × Nat) → List Field → Bool
  | [], [] => true
  | p :: offs, f :: fs => Nat.beq f.offset p.1 && ((match P.info? f.type with
    | some inf => Nat.beq inf.size p.2 && (Nat.blt 0 p.2 && Nat.ble (p.1 + p.2) size)
    | none => false) && structChk P size offs fs)
  | _, _ => false
theorem structChk_ok {P : Program} {size : Nat} : ∀ {offs : List (Nat × Nat)} {fs : List Field}, structChk P size offs fs = true →
    fs.length = offs.length ∧ ∀ (i : Nat) (p : Nat × Nat), offs[i]? = some p → ∃ f inf, fs[i]? = some f ∧ f.offset = p.1 ∧ P.info? f.type = some inf ∧ inf.size = p.2 ∧ p.2 ≠ 0 ∧ p.1 + p.2 ≤ size
  | [], [], _ => ⟨rfl, fun i p h => by simp at h⟩
  | [], _ :: _, h => by simp [structChk] at h
  | _ :: _, [], h => by simp [structChk] at h
  | q :: offs, f :: fs, h => by
    have h1 := and_b h
    have h2 := and_b h1.2
    obtain ⟨h3, h4⟩ := structChk_ok h2.2
    refine ⟨by simp [h3], fun i p hp => ?_⟩
    cases i with
    | zero =>
      simp at hp; subst hp
      have h5 := h2.1
      split at h5
      · rename_i inf hi
        have h6 := and_b h5
        have h7 := and_b h6.2
        exact ⟨f, inf, rfl, Nat.eq_of_beq_eq_true h1.1, hi, Nat.eq_of_beq_eq_true h6.1, by have := h7.1; simp only [Nat.blt, Nat.ble_eq] at this; omega, Nat.le_of_ble_eq_true h7.2⟩
      · cases h5
    | succ i => exact h4 i p (by simpa using hp)

def descChk (P : Program) (size : Nat) : TyK → TypeDesc → Bool
  | .int k, .int k' => decide (k = k') && Nat.beq size 1
  | .bool, .bool => Nat.beq size 1
  | .str, .string => Nat.beq size 1
  | .ptr, .pointer _ => Nat.beq size 1
  | .func, .func _ _ _ => Nat.beq size 1
  | .map, .map _ _ => Nat.beq size 1
  | .slice g e, .slice e' => Nat.beq e e' && (elemChk P g e && Nat.beq size 1)
  | .arr n g e, .array n' e' => Nat.beq n n' && (Nat.beq e e' && (elemChk P g e && (Nat.beq size (n * sz g) && Nat.ble n 65536)))
  | .struct offs, .struct fs => structChk P size offs fs.toList
  | _, _ => false
theorem descChk_ok {P : Program} {size : Nat} {k : TyK} {d : TypeDesc} (h : descChk P size k d = true) : DescOK P size k d := by
  unfold descChk at h
  split at h
  · have h := and_b h; exact ⟨of_decide_eq_true h.1, Nat.eq_of_beq_eq_true h.2⟩
  · exact Nat.eq_of_beq_eq_true h
  · exact Nat.eq_of_beq_eq_true h
  · exact Nat.eq_of_beq_eq_true h
  · exact Nat.eq_of_beq_eq_true h
  · exact Nat.eq_of_beq_eq_true h
  · have h1 := and_b h; have h2 := and_b h1.2; exact ⟨Nat.eq_of_beq_eq_true h1.1, elemChk_ok h2.1, Nat.eq_of_beq_eq_true h2.2⟩
  · have h1 := and_b h; have h2 := and_b h1.2; have h3 := and_b h2.2; have h4 := and_b h3.2
    exact ⟨Nat.eq_of_beq_eq_true h1.1, Nat.eq_of_beq_eq_true h2.1, elemChk_ok h3.1, Nat.eq_of_beq_eq_true h4.1, Nat.le_of_ble_eq_true h4.2⟩
  · obtain ⟨h1, h2⟩ := structChk_ok h
    refine ⟨by simpa using h1, fun i p hp => ?_⟩
    obtain ⟨f, inf, h3, h4⟩ := h2 i p hp
    exact ⟨f, inf, by simpa using h3, h4⟩
  · cases h

def tyChk (P : Program) (t : Nat) (y : TyI) : Bool :=
  match P.info? t, P.underlying t with
  | some inf, some d => Nat.beq inf.size y.size && (descChk P y.size y.k d && (match inf.zero with
    | some z => Nat.beq z.cells.size y.size && ((bif Nat.beq y.zero.length y.size then vcz y.zero z.cells.toList else true) &&
        ((bif isAggK y.k then (match z with | .agg _ => true | _ => false) else true) && (match y.k with | .arr n g _ => vcz (TL.flat ⟨g, List.replicate n (dfl g)⟩) z.cells.toList | _ => true)))
    | none => false))
  | _, _ => false
theorem tyChk_ok {P : Program} {C : Cfg} {t : Nat} (h : tyChk P t (C.ty t) = true) : TyOK P C t := by
  refine ⟨fun _ => ?_⟩
  unfold tyChk at h
  split at h
  · rename_i inf d hi hd
    have h1 := and_b h
    have h2 := and_b h1.2
    have h3 := h2.2
    split at h3
    · rename_i z hz
      have h4 := and_b h3
      have h5 := and_b h4.2
      have h6 := and_b h5.2
      refine ⟨inf, d, z, hi, hd, Nat.eq_of_beq_eq_true h1.1, descChk_ok h2.1, hz, Nat.eq_of_beq_eq_true h4.1, fun hl => ?_, fun ha => ?_, fun n g e hk => ?_⟩
      · have h7 := h5.1
        rw [hl, Nat.beq_refl] at h7
        exact vcz_ok h7
      · have h7 := h6.1
        rw [ha] at h7
        simp only [cond_true] at h7
        split at h7
        · exact ⟨_, rfl⟩
        · cases h7
      · have h7 := h6.2
        rw [hk] at h7
        exact vcz_ok h7
    · cases h3
  · cases h

/-! Values of structs that are held against each other. -/
def fieldsChk (P : Program) : Nat → List LV → List Field → Bool
  | _, [], [] => true
  | off, .i _ _ :: z, f :: fs => Nat.beq f.offset off && (!decide (f.name = "_") && ((match P.underlying f.type with | some (.int _) => true | _ => false) && fieldsChk P (off + 1) z fs))
  | off, .b _ :: z, f :: fs => Nat.beq f.offset off && (!decide (f.name = "_") && ((match P.underlying f.type with | some .bool => true | _ => false) && fieldsChk P (off + 1) z fs))
  | _, _, _ => false
def eqChk (P : Program) (t : Nat) (z : List LV) : Bool :=
  match P.underlying t with
  | some (.struct fs) => !P.stoodInHeld t && (!P.eqGuardType P.depth t && fieldsChk P 0 z fs.toList)
  | _ => false

theorem run_part1 {P : Program} {w : World} {t : Nat} {d : TypeDesc} (hd : P.underlying t = some d) (ha : isAggD d = false) (xs : Array Value) (off : Nat) (v : Value) (h : xs[off]? = some v) : (part t xs off).run P w = .ok v w := by
  unfold part
  simp [run_isAgg hd, ha, h]

theorem eqFields_ok {P : Program} {ρ : Rho} {ro : Nat → Prop} {w : World} {xs ys : Array Value} : ∀ {z a b : List LV} {fs : List Field} {off : Nat} {r : Bool}, fieldsChk P off z fs = true → shp z a = true → shp z b = true → eqCells a b = some r →
    VL ρ ro w a (xs.toList.drop off) → VL ρ ro w b (ys.toList.drop off) → (Op.eqFields 9999 xs ys fs).run P w = .ok r w
  | [], a, b, fs, off, r, hf, ha, hb, he, hx, hy => by
    cases fs with
    | cons => simp [fieldsChk] at hf
    | nil =>
      cases a with
      | cons => simp [shp] at ha
      | nil =>
        cases b with
        | cons => simp [shp] at hb
        | nil => simp [eqCells] at he; subst he; simp [Op.eqFields]
  | c :: z, a, b, fs, off, r, hf, ha, hb, he, hx, hy => by
    have step : ∀ {v : LV} {l : List LV} {us : Array Value}, VL ρ ro w (v :: l) (us.toList.drop off) → ∃ u, us[off]? = some u ∧ V ρ ro w v u ∧ VL ρ ro w l (us.toList.drop (off + 1)) := by
      intro v l us h
      obtain ⟨u, us', h1, h2, h3⟩ := h.of_cons
      refine ⟨u, ?_, h2, ?_⟩
      · have := congrArg (·[0]?) h1
        simpa [List.getElem?_drop] using this
      · have := congrArg (List.drop 1) h1
        rw [List.drop_drop] at this
        rw [this]; simpa using h3
    cases fs with
    | nil => cases c <;> simp [fieldsChk] at hf
    | cons f fs =>
      cases c <;> simp only [fieldsChk, Bool.false_eq_true] at hf
      · rename_i t
        cases a with
        | nil => simp [shp] at ha
        | cons a1 a =>
          cases a1 <;> simp only [shp, Bool.false_eq_true] at ha
          cases b with
          | nil => simp [shp] at hb
          | cons b1 b =>
            cases b1 <;> simp only [shp, Bool.false_eq_true] at hb
            rename_i x y
            have h1 := and_b hf
            have h2 := and_b h1.2
            have h3 := and_b h2.2
            have hoff := Nat.eq_of_beq_eq_true h1.1
            have hname : f.name ≠ "_" := by simpa using h2.1
            simp only [eqCells] at he
            rw [Option.bind_eq_some_iff] at he
            obtain ⟨r0, he0, he⟩ := he
            cases he
            obtain ⟨u, hu, hvu, hx'⟩ := step hx
            obtain ⟨u', hu', hvu', hy'⟩ := step hy
            obtain rfl := hvu.b_inv
            obtain rfl := hvu'.b_inv
            have h4 := h3.1
            split at h4
            · rename_i ht
              have ih := eqFields_ok h3.2 ha hb he0 hx' hy'
              simp only [Op.eqFields, hname, ne_eq, not_false_eq_true, if_true, Sem.run_bind, hoff, run_part1 ht rfl xs off _ hu, run_part1 ht rfl ys off _ hu', Result.andThen_ok, run_equalIn_bool' w 9998 _ _ _ ht]
              cases hxy : (x == y) <;> simp [ih]
            · cases h4
      · rename_i k0 n0
        cases a with
        | nil => simp [shp] at ha
        | cons a1 a =>
          cases a1 <;> simp only [shp, Bool.false_eq_true] at ha
          cases b with
          | nil => simp [shp] at hb
          | cons b1 b =>
            cases b1 <;> simp only [shp, Bool.false_eq_true] at hb
            rename_i k x k' y
            have ha' := and_b ha
            have hb' := and_b hb
            obtain rfl := of_decide_eq_true ha'.1
            obtain rfl := of_decide_eq_true hb'.1
            have h1 := and_b hf
            have h2 := and_b h1.2
            have h3 := and_b h2.2
            have hoff := Nat.eq_of_beq_eq_true h1.1
            have hname : f.name ≠ "_" := by simpa using h2.1
            simp only [eqCells] at he
            rw [Option.bind_eq_some_iff] at he
            obtain ⟨r0, he0, he⟩ := he
            cases he
            obtain ⟨u, hu, hvu, hx'⟩ := step hx
            obtain ⟨u', hu', hvu', hy'⟩ := step hy
            obtain rfl := hvu.i_inv
            obtain rfl := hvu'.i_inv
            have h4 := h3.1
            split at h4
            · rename_i kk ht
              have ih := eqFields_ok h3.2 ha'.2 hb'.2 he0 hx' hy'
              simp only [Op.eqFields, hname, ne_eq, not_false_eq_true, if_true, Sem.run_bind, hoff, run_part1 ht rfl xs off _ hu, run_part1 ht rfl ys off _ hu', Result.andThen_ok, run_equalIn_int w 9998 _ _ _ _ _ ht]
              cases hxy : (x == y) <;> simp [ih]
            · cases h4

theorem eqChk_ok {P : Program} {t : Nat} {z : List LV} (h : eqChk P t z = true) : EqOK P t z := by
  unfold eqChk at h
  split at h
  case h_2 => cases h
  rename_i fs hu
  have h1 := and_b h
  have h2 := and_b h1.2
  intro a b r xs ys ρ ro w ha hb he hx hy
  refine ⟨by simpa using h2.1, ?_⟩
  have hfo : P.fieldsOf t = fs := by simp [Program.fieldsOf, hu]
  show (Op.equalIn (9999 + 1) t (.agg xs) (.agg ys)).run P w = _
  rw [run_equalIn_struct w 9999 t xs ys (by rw [hu, hfo]) (by simpa using h1.1), hfo]
  exact eqFields_ok (off := 0) h2.2 ha hb he (by simpa using hx.vl) (by simpa using hy.vl)

/-! The tables of a program. -/
def tyNone : TyI := ⟨0, .other, []⟩
structure Tabs where
  ty : Tre TyI
  fn : Tre Unit
  pure_ : Tre Unit
  eqT : Tre (List LV)
  elemOf : Tag → Nat

def Tabs.cfg (T : Tabs) (P : Program) : Cfg :=
  { ty := fun t => match T.ty.find t with | some y => y | none => tyNone
    fn := fun k => match T.fn.find k with | some _ => P.funcs[k]? | none => none
    pure_ := fun k => match T.pure_.find k with | some _ => true | none => false
    keep := fun _ _ => none
    prim := fun _ _ => none
    eqT := T.eqT.find
    elemOf := T.elemOf
    N := 0 }

def fnChk (P : Program) (k : Nat) : Bool := match P.funcs[k]? with | some f => !(f.name == "runtime.NumGoroutine") | none => true

theorem Tabs.base {T : Tabs} {P : Program} (hm : P.follows .mixedOrders = true) (h1 : T.ty.all (tyChk P) = true) (h2 : T.fn.all (fun k _ => fnChk P k) = true) (h3 : T.eqT.all (eqChk P) = true) : Base P (T.cfg P) := by
  refine ⟨hm, ⟨fun t => ?_, fun k f hf => ?_⟩, fun t z hz => eqChk_ok (Tre.all_ok h3 hz), fun k caps args v hv => by cases hv⟩
  · show TyOK P (T.cfg P) t
    cases hf : T.ty.find t with
    | some y =>
      refine tyChk_ok ?_
      have : (T.cfg P).ty t = y := by simp only [Tabs.cfg, hf]
      rw [this]
      exact Tre.all_ok h1 hf
    | none =>
      refine ⟨fun hk => ?_⟩
      have : (T.cfg P).ty t = tyNone := by simp only [Tabs.cfg, hf]
      rw [tyKnown, this] at hk
      cases hk
  · simp only [Tabs.cfg] at hf
    split at hf
    · rename_i u hu
      refine ⟨hf, ?_⟩
      have := Tre.all_ok h2 hu
      unfold fnChk at this
      rw [hf] at this
      simpa using this
    · cases hf
end Gz
