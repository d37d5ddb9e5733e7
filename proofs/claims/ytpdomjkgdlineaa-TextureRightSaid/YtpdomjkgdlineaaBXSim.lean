/- How abstract values and stores stand for the machine's: the relation, and what keeps it. -/
import Derived.Test.YtpdomjkgdlineaaBXAbs
import Derived.Laws.AppendOwn
import Derived.Laws.Cells
import Derived.Below
set_option linter.unusedVariables false
set_option linter.unusedSimpArgs false
set_option linter.unnecessarySimpa false
set_option linter.deprecated false
namespace Gz
open Go

inductive Loc
  | blk (b : Nat)
  | row (A : Option Nat) (cap len : Nat) (g : Tag)
  | lp (b d : Nat) (tm : Array Value)

def Loc.block : Loc → Option Nat
  | .blk b => some b
  | .row A _ _ _ => A
  | .lp b _ _ => some b

abbrev Rho := Nat → Option Loc

def slv_ (A : Option Nat) (len cap : Nat) : Value := .slice (A.map fun b => ⟨b, 0, none⟩) len cap

inductive V (ρ : Rho) (ro : Nat → Prop) (w : World) : LV → Value → Prop
  | u (v : Value) : V ρ ro w .u v
  | b (t : Bool) : V ρ ro w (.b t) (.bool t)
  | i (k : IntKind) (n : Int) : V ρ ro w (.i k n) (.int k n)
  | s (x : ByteArray) : V ρ ro w (.s x) (.string x)
  | pblk {o b off : Nat} (h : ρ o = some (.blk b)) : V ρ ro w (.p o 0 off) (.pointer (some ⟨b, off, none⟩))
  | prow {o b cap len e off : Nat} {g : Tag} (h : ρ o = some (.row (some b) cap len g)) (he : e < len) : V ρ ro w (.p o e off) (.pointer (some ⟨b, e * sz g + off, none⟩))
  | pnil : V ρ ro w .pnil (.pointer none)
  | pv {t : TL} {e off : Nat} {ad : Addr} {xs : List Value} (he : e < t.len) (hro : ro ad.block) (hx : ∀ (j : Nat) (v : Value), xs[j]? = some v → w.cell? (ad.add j) = some v)
      (h1 : ∀ v ∈ xs, v.oneCell' = true) (hl : t.flat.length = xs.length) (hV : ∀ (j : Nat) (lv : LV) (v : Value), t.flat[j]? = some lv → xs[j]? = some v → V ρ ro w lv v) : V ρ ro w (.pv t e off) (.pointer (some (ad.add (e * sz t.g + off))))
  | sl {o cap len : Nat} {A : Option Nat} {g : Tag} (h : ρ o = some (.row A cap len g)) : V ρ ro w (.sl o) (slv_ A len cap)
  | slv {t : TL} {ad : Addr} {cap : Nat} {xs : List Value} (hc : t.len ≤ cap) (hro : ro ad.block) (hx : ∀ (j : Nat) (v : Value), xs[j]? = some v → w.cell? (ad.add j) = some v)
      (h1 : ∀ v ∈ xs, v.oneCell' = true) (hl : t.flat.length = xs.length) (hV : ∀ (j : Nat) (lv : LV) (v : Value), t.flat[j]? = some lv → xs[j]? = some v → V ρ ro w lv v) : V ρ ro w (.slv t) (.slice (some ad) t.len cap)
  | slve {t : TL} {A : Option Addr} {cap : Nat} (h : t.len = 0) : V ρ ro w (.slv t) (.slice A 0 cap)
  | slnil (g : Tag) : V ρ ro w (.slnil g) (.slice none 0 0)
  | av {t : TL} {cs : Array Value} (h1 : ∀ v ∈ cs.toList, v.oneCell' = true) (hl : t.flat.length = cs.toList.length) (hV : ∀ (j : Nat) (lv : LV) (v : Value), t.flat[j]? = some lv → cs.toList[j]? = some v → V ρ ro w lv v) : V ρ ro w (.av t) (.agg cs)
  | fn {f : Nat} {caps : List LV} {cs : Array Value} (hl : caps.length = cs.toList.length) (hV : ∀ (j : Nat) (lv : LV) (v : Value), caps[j]? = some lv → cs.toList[j]? = some v → V ρ ro w lv v) : V ρ ro w (.fn f caps) (.func (.func f) #[] cs)
  | yl {o b d : Nat} {tm : Array Value} (h : ρ o = some (.lp b d tm)) : V ρ ro w (.yl o) (.func (.yield b) #[] #[])
  | fnil : V ρ ro w .fnil .nilFunc
  | ag {l : List LV} {cs : Array Value} (h1 : ∀ v ∈ cs.toList, v.oneCell' = true) (hl : l.length = cs.toList.length) (hV : ∀ (j : Nat) (lv : LV) (v : Value), l[j]? = some lv → cs.toList[j]? = some v → V ρ ro w lv v) : V ρ ro w (.ag l) (.agg cs)
  | tu {l : List LV} {cs : Array Value} (hl : l.length = cs.toList.length) (hV : ∀ (j : Nat) (lv : LV) (v : Value), l[j]? = some lv → cs.toList[j]? = some v → V ρ ro w lv v) : V ρ ro w (.tu l) (.tuple cs)

/-- Rows of values. -/
def VL (ρ : Rho) (ro : Nat → Prop) (w : World) (l : List LV) (vs : List Value) : Prop :=
  l.length = vs.length ∧ ∀ (j : Nat) (lv : LV) (v : Value), l[j]? = some lv → vs[j]? = some v → V ρ ro w lv v

/-- What a later world keeps. -/
structure Keeps (ro : Nat → Prop) (w w' : World) : Prop where
  same : ∀ b, ro b → w'.heap[b]? = w.heap[b]?

theorem V.mono {ρ ρ' : Rho} {ro ro' : Nat → Prop} {w w' : World} {lv : LV} {v : Value} (h : V ρ ro w lv v) (hρ : ∀ o l, ρ o = some l → ρ' o = some l) (hro : ∀ b, ro b → ro' b) (hw : Keeps ro w w') : V ρ' ro' w' lv v := by
  have hc : ∀ (ad : Addr) (xs : List Value), ro ad.block → (∀ (j : Nat) (v : Value), xs[j]? = some v → w.cell? (ad.add j) = some v) → ∀ (j : Nat) (v : Value), xs[j]? = some v → w'.cell? (ad.add j) = some v := by
    intro ad xs hr hx j v hj
    have hb : (ad.add j).block = ad.block := by unfold Addr.add; split <;> rfl
    rw [World.cell?_of_block (w := w) (by rw [hb]; exact hw.same _ hr)]
    exact hx j v hj
  induction h with
  | u v => exact .u v
  | b t => exact .b t
  | i k n => exact .i k n
  | s x => exact .s x
  | pblk h => exact .pblk (hρ _ _ h)
  | prow h he => exact .prow (hρ _ _ h) he
  | pnil => exact .pnil
  | pv he hr hx h1 hl _ ih => exact .pv he (hro _ hr) (hc _ _ hr hx) h1 hl ih
  | sl h => exact .sl (hρ _ _ h)
  | slv hcap hr hx h1 hl _ ih => exact .slv hcap (hro _ hr) (hc _ _ hr hx) h1 hl ih
  | slve h => exact .slve h
  | slnil g => exact .slnil g
  | av h1 hl _ ih => exact .av h1 hl ih
  | fn hl _ ih => exact .fn hl ih
  | yl h => exact .yl (hρ _ _ h)
  | fnil => exact .fnil
  | ag h1 hl _ ih => exact .ag h1 hl ih
  | tu hl _ ih => exact .tu hl ih

section
variable {ρ ρ' : Rho} {ro ro' : Nat → Prop} {w w' : World}

theorem VL.mono {l : List LV} {vs : List Value} (h : VL ρ ro w l vs) (hρ : ∀ o l, ρ o = some l → ρ' o = some l) (hro : ∀ b, ro b → ro' b) (hw : Keeps ro w w') : VL ρ' ro' w' l vs :=
  ⟨h.1, fun j lv v h1 h2 => (h.2 j lv v h1 h2).mono hρ hro hw⟩
theorem VL.nil : VL ρ ro w [] [] := ⟨rfl, fun j _ _ h => by simp at h⟩
theorem VL.cons {a : LV} {l : List LV} {v : Value} {vs : List Value} (h : V ρ ro w a v) (h' : VL ρ ro w l vs) : VL ρ ro w (a :: l) (v :: vs) := by
  refine ⟨by simp [h'.1], fun j lv v h1 h2 => ?_⟩
  cases j with
  | zero => simp at h1 h2; subst h1; subst h2; exact h
  | succ j => exact h'.2 j lv v (by simpa using h1) (by simpa using h2)
theorem VL.head {a : LV} {l : List LV} {v : Value} {vs : List Value} (h : VL ρ ro w (a :: l) (v :: vs)) : V ρ ro w a v := h.2 0 a v rfl rfl
theorem VL.tail {a : LV} {l : List LV} {v : Value} {vs : List Value} (h : VL ρ ro w (a :: l) (v :: vs)) : VL ρ ro w l vs :=
  ⟨by simpa using h.1, fun j lv v h1 h2 => h.2 (j + 1) lv v (by simpa using h1) (by simpa using h2)⟩
theorem VL.of_cons {a : LV} {l : List LV} {vs : List Value} (h : VL ρ ro w (a :: l) vs) : ∃ v vs', vs = v :: vs' ∧ V ρ ro w a v ∧ VL ρ ro w l vs' := by
  cases vs with
  | nil => have := h.1; simp at this
  | cons v vs' => exact ⟨v, vs', rfl, h.head, h.tail⟩
theorem VL.of_nil {vs : List Value} (h : VL ρ ro w [] vs) : vs = [] := List.eq_nil_of_length_eq_zero h.1.symm
theorem VL.append {l m : List LV} {vs us : List Value} (h : VL ρ ro w l vs) (h' : VL ρ ro w m us) : VL ρ ro w (l ++ m) (vs ++ us) := by
  refine ⟨by simp [h.1, h'.1], fun j lv v h1 h2 => ?_⟩
  by_cases hj : j < l.length
  · rw [List.getElem?_append_left hj] at h1
    rw [List.getElem?_append_left (by rw [← h.1]; exact hj)] at h2
    exact h.2 j lv v h1 h2
  · rw [List.getElem?_append_right (by omega)] at h1
    rw [List.getElem?_append_right (by rw [← h.1]; omega), ← h.1] at h2
    exact h'.2 _ lv v h1 h2
theorem VL.take {l : List LV} {vs : List Value} (h : VL ρ ro w l vs) (n : Nat) : VL ρ ro w (l.take n) (vs.take n) := by
  refine ⟨by simp [h.1], fun j lv v h1 h2 => ?_⟩
  rw [List.getElem?_take] at h1 h2
  split at h1
  · simp only [*, if_true] at h2; exact h.2 j lv v h1 h2
  · cases h1
theorem VL.drop {l : List LV} {vs : List Value} (h : VL ρ ro w l vs) (n : Nat) : VL ρ ro w (l.drop n) (vs.drop n) := by
  refine ⟨by simp [h.1], fun j lv v h1 h2 => ?_⟩
  rw [List.getElem?_drop] at h1 h2
  exact h.2 _ lv v h1 h2
theorem VL.getD {l : List LV} {vs : List Value} (h : VL ρ ro w l vs) (n : Nat) : V ρ ro w (l.getD n .u) (vs.getD n undef) := by
  by_cases hn : n < l.length
  · have hn' : n < vs.length := by rw [← h.1]; exact hn
    have := h.2 n l[n] vs[n] (List.getElem?_eq_getElem hn) (List.getElem?_eq_getElem hn')
    simpa [List.getD, List.getElem?_eq_getElem hn, List.getElem?_eq_getElem hn'] using this
  · rw [List.getD, List.getElem?_eq_none (by omega)]
    exact .u _
theorem VL.set {l : List LV} {vs : List Value} (h : VL ρ ro w l vs) (n : Nat) {a : LV} {v : Value} (ha : V ρ ro w a v) : VL ρ ro w (l.set n a) (vs.set n v) := by
  refine ⟨by simp [h.1], fun j lv u h1 h2 => ?_⟩
  rw [List.getElem?_set] at h1 h2
  split at h1
  · split at h1
    · simp only [*, if_true] at h2
      have : n < vs.length := by rw [← h.1]; assumption
      rename_i e _
      subst e
      simp only [this, if_true] at h2
      cases h1; cases h2; exact ha
    · cases h1
  · simp only [*, if_false] at h2; exact h.2 j lv u h1 h2
theorem VL.at_ {l : List LV} {vs : List Value} (h : VL ρ ro w l vs) {n : Nat} {a : LV} (ha : l[n]? = some a) : ∃ v, vs[n]? = some v ∧ V ρ ro w a v := by
  have hn : n < l.length := (List.getElem?_eq_some_iff.1 ha).1
  have hn' : n < vs.length := by rw [← h.1]; exact hn
  exact ⟨vs[n], List.getElem?_eq_getElem hn', h.2 n a _ ha (List.getElem?_eq_getElem hn')⟩
theorem VL.replicate_u (n : Nat) (v : Value) : VL ρ ro w (List.replicate n LV.u) (List.replicate n v) := by
  refine ⟨by simp, fun j lv u h1 h2 => ?_⟩
  rw [List.getElem?_replicate] at h1
  split at h1 <;> cases h1
  exact .u _
/-- Slots that are given up. -/
theorem VL.mapU {l m : List LV} {vs : List Value} (h : VL ρ ro w l vs) (hl : m.length = l.length) (hm : ∀ (j : Nat) (a : LV), m[j]? = some a → a = .u ∨ l[j]? = some a) : VL ρ ro w m vs := by
  refine ⟨by rw [hl, h.1], fun j lv v h1 h2 => ?_⟩
  rcases hm j lv h1 with rfl | h3
  · exact .u _
  · exact h.2 j lv v h3 h2

/-- Rows of cells. -/
structure VC (ρ : Rho) (ro : Nat → Prop) (w : World) (l : List LV) (vs : List Value) : Prop where
  vl : VL ρ ro w l vs
  one : ∀ v ∈ vs, v.oneCell' = true
theorem VC.mono {l : List LV} {vs : List Value} (h : VC ρ ro w l vs) (hρ : ∀ o l, ρ o = some l → ρ' o = some l) (hro : ∀ b, ro b → ro' b) (hw : Keeps ro w w') : VC ρ' ro' w' l vs := ⟨h.vl.mono hρ hro hw, h.one⟩
theorem VC.append {l m : List LV} {vs us : List Value} (h : VC ρ ro w l vs) (h' : VC ρ ro w m us) : VC ρ ro w (l ++ m) (vs ++ us) := ⟨h.vl.append h'.vl, fun v hv => (List.mem_append.1 hv).elim (h.one v) (h'.one v)⟩
theorem VC.take {l : List LV} {vs : List Value} (h : VC ρ ro w l vs) (n : Nat) : VC ρ ro w (l.take n) (vs.take n) := ⟨h.vl.take n, fun v hv => h.one v (List.mem_of_mem_take hv)⟩
theorem VC.drop {l : List LV} {vs : List Value} (h : VC ρ ro w l vs) (n : Nat) : VC ρ ro w (l.drop n) (vs.drop n) := ⟨h.vl.drop n, fun v hv => h.one v (List.mem_of_mem_drop hv)⟩
theorem VC.length {l : List LV} {vs : List Value} (h : VC ρ ro w l vs) : l.length = vs.length := h.vl.1

/-! Elements. -/
theorem enc_length (g : Tag) (x : El g) : (enc g x).length = sz g := by
  cases g <;> first | rfl | simp [enc, encPt, encKy, encCol, sz]
theorem flat_length (t : TL) : t.flat.length = t.len * sz t.g := by
  unfold TL.flat TL.len
  induction t.l with
  | nil => simp
  | cons x l ih => rw [List.flatMap_cons, List.length_append, enc_length, ih, List.length_cons, Nat.succ_mul, Nat.add_comm]
theorem flat_at (t : TL) (e : Nat) (he : e < t.len) : t.at_ e = (t.flat.drop (e * sz t.g)).take (sz t.g) := by
  obtain ⟨g, l⟩ := t
  unfold TL.at_ TL.flat
  simp only [TL.len] at he ⊢
  induction l generalizing e with
  | nil => simp at he
  | cons x l ih =>
    cases e with
    | zero => simp [List.flatMap_cons, List.getD, enc_length]
    | succ e =>
      have h1 : (e + 1) * sz g = (enc g x).length + e * sz g := by rw [enc_length, Nat.succ_mul, Nat.add_comm]
      rw [List.flatMap_cons, h1, ← List.drop_drop, List.drop_left]
      have := ih e (by simpa using he)
      simpa [List.getD] using this
theorem VL.elem {t : TL} {vs : List Value} (h : VL ρ ro w t.flat vs) (e : Nat) (he : e < t.len) : VL ρ ro w (t.at_ e) ((vs.drop (e * sz t.g)).take (sz t.g)) := by
  rw [flat_at t e he]; exact (h.drop _).take _

theorem VC.elem {t : TL} {vs : List Value} (h : VC ρ ro w t.flat vs) (e : Nat) (he : e < t.len) : VC ρ ro w (t.at_ e) ((vs.drop (e * sz t.g)).take (sz t.g)) := by
  rw [flat_at t e he]; exact (h.drop _).take _

/-! Objects. -/
def ObjRel (ρ : Rho) (ro : Nat → Prop) (base : Nat) (w : World) : LO → Loc → Prop
  | .cells c, .blk b => ∃ arr e, w.heap[b]? = some (.cells arr e (0, 0)) ∧ VC ρ ro w c arr.toList
  | .arr t e, .row A cap len g => t.g = g ∧ t.len = len ∧ ∃ xs, w.ownsRow base e (sz g) (slv_ A len cap) len xs ∧ VC ρ ro w t.flat xs
  | .ro t, .row A cap len g => t.g = g ∧ t.len = len ∧ (∀ b, A = some b → ro b) ∧ ∃ e xs, w.ownsRow base e (sz g) (slv_ A len cap) len xs ∧ VC ρ ro w t.flat xs
  | .loop fr ps asg body fid pend st, .lp b d tm => w.heap[b]? = some (.loop { state := st, pending := pend, fn := fid, tmps := tm, params := ps.toArray, assign := asg, body := body, defers := d }) ∧ VL ρ ro w fr tm.toList ∧ w.heap[d]? = some (.deferred (some []))
  | .dead, _ => True
  | _, _ => False

theorem ObjRel.mono {ρ ρ' : Rho} {ro ro' : Nat → Prop} {base : Nat} {w w' : World} {ob : LO} {l : Loc} (h : ObjRel ρ ro base w ob l) (hρ : ∀ o l, ρ o = some l → ρ' o = some l) (hro : ∀ b, ro b → ro' b) (hw : Keeps ro w w')
    (hb : ∀ b, l.block = some b → w'.heap[b]? = w.heap[b]?) (hd : ∀ b d tm, l = .lp b d tm → w'.heap[d]? = w.heap[d]?) : ObjRel ρ' ro' base w' ob l := by
  have own : ∀ (e size len cap : Nat) (A : Option Nat) (xs : List Value), (∀ b, A = some b → w'.heap[b]? = w.heap[b]?) → w.ownsRow base e size (slv_ A len cap) len xs → w'.ownsRow base e size (slv_ A len cap) len xs := by
    intro e size len cap A xs hA h
    refine ⟨h.1, ?_⟩
    rcases h.2 with ⟨h1, h2⟩ | ⟨g, cap', cur, h1, h2, h3, h4⟩
    · exact .inl ⟨h1, h2⟩
    · refine .inr ⟨g, cap', cur, h1, h2, ?_, h4⟩
      rw [hA g]
      · exact h3
      · cases A with
        | none => simp [slv_] at h1
        | some b => simp [slv_] at h1; simp [h1.1]
  cases ob <;> cases l <;> simp only [ObjRel] at h ⊢
  · obtain ⟨arr, e, h1, h2⟩ := h
    exact ⟨arr, e, (hb _ rfl).trans h1, h2.mono hρ hro hw⟩
  · obtain ⟨h1, h2, xs, h3, h4⟩ := h
    exact ⟨h1, h2, xs, own _ _ _ _ _ _ (fun b hA => hb b (by simp [Loc.block, hA])) h3, h4.mono hρ hro hw⟩
  · obtain ⟨h1, h2, h5, e, xs, h3, h4⟩ := h
    exact ⟨h1, h2, fun b hA => hro _ (h5 b hA), e, xs, own _ _ _ _ _ _ (fun b hA => hb b (by simp [Loc.block, hA])) h3, h4.mono hρ hro hw⟩
  · obtain ⟨h1, h2, h3⟩ := h
    exact ⟨(hb _ rfl).trans h1, h2.mono hρ hro hw, (hd _ _ _ rfl).trans h3⟩

def LO.live : LO → Bool
  | .cells _ | .arr _ _ | .loop .. => true
  | _ => false

theorem ObjRel.dead {ρ : Rho} {ro : Nat → Prop} {base : Nat} {w : World} (l : Loc) : ObjRel ρ ro base w .dead l := by cases l <;> trivial
theorem ObjRel.roOf {ρ : Rho} {ro : Nat → Prop} {base : Nat} {w : World} {ob : LO} {l : Loc} (h : ObjRel ρ ro base w ob l) (hx : ¬ ob.live = true) : ob = .dead ∨ ((∀ b, l.block = some b → ro b) ∧ ∀ b d tm, l ≠ .lp b d tm) := by
  cases ob with
  | cells c => simp [LO.live] at hx
  | arr t e => simp [LO.live] at hx
  | loop => simp [LO.live] at hx
  | dead => exact .inl rfl
  | ro t =>
    cases l with
    | blk b => exact h.elim
    | lp b d tm => exact h.elim
    | row A cap len g => exact .inr ⟨fun b hb => h.2.2.1 b hb, fun _ _ _ e => by cases e⟩
theorem ObjRel.dfrOf {ρ : Rho} {ro : Nat → Prop} {base : Nat} {w : World} {ob : LO} {b d : Nat} {tm : Array Value} (h : ObjRel ρ ro base w ob (.lp b d tm)) : ob = .dead ∨ w.heap[d]? = some (.deferred (some [])) := by
  cases ob with
  | cells c => exact h.elim
  | arr t e => exact h.elim
  | ro t => exact h.elim
  | dead => exact .inl rfl
  | loop => obtain ⟨_, _, h3⟩ := h; exact .inr h3

/-- What an object's relation needs of a later world. -/
theorem ObjRel.keep {ρ ρ' : Rho} {ro ro' : Nat → Prop} {base : Nat} {w w' : World} {ob : LO} {l : Loc} (h : ObjRel ρ ro base w ob l) (hρ : ∀ o l, ρ o = some l → ρ' o = some l) (hro : ∀ b, ro b → ro' b) (hw : Keeps ro w w')
    (hb : ob.live = true → ∀ b, l.block = some b → w'.heap[b]? = w.heap[b]?) (hd : ∀ d : Nat, w.heap[d]? = some (Obj.deferred (some [])) → w'.heap[d]? = some (Obj.deferred (some []))) : ObjRel ρ' ro' base w' ob l := by
  by_cases hx : ob.live = true
  · refine h.mono hρ hro hw (hb hx) ?_
    intro b d tm hl
    subst hl
    rcases h.dfrOf with rfl | h2
    · simp [LO.live] at hx
    · rw [hd d h2, h2]
  · rcases h.roOf hx with rfl | ⟨h1, h2⟩
    · exact ObjRel.dead l
    · exact h.mono hρ hro hw (fun b hb => hw.same b (h1 b hb)) (fun b d tm e => absurd e (h2 b d tm))

def live (st : St) (o : Nat) : Prop := ∃ ob, st.L[o]? = some ob ∧ ob.live = true

/-- What goes with a run: where each object lies, which blocks are written no more, which blocks hold no deferred calls yet. -/
structure Rl where
  ρ : Rho
  ro : Nat → Prop
  D : List Nat
  base : Nat
  w0 : World

structure Sim (R : Rl) (st : St) (w : World) : Prop where
  dom : ∀ o l, R.ρ o = some l → o < st.L.length
  obj : ∀ o l ob, R.ρ o = some l → st.L[o]? = some ob → ObjRel R.ρ R.ro R.base w ob l
  inj : ∀ o o' l l' b, R.ρ o = some l → R.ρ o' = some l' → live st o → live st o' → l.block = some b → l'.block = some b → o = o'
  wr : ∀ o l b, R.ρ o = some l → live st o → l.block = some b → R.base ≤ b ∧ b < w.heap.size ∧ ¬ R.ro b
  rolt : ∀ b, R.ro b → b < w.heap.size
  dfr : ∀ d, d ∈ R.D → w.heap[d]? = some (.deferred (some [])) ∧ R.base ≤ d ∧ ¬ R.ro d
  nodup : R.D.Nodup
  old : ∀ b, b < R.base → w.heap[b]? = R.w0.heap[b]?
  size : R.base ≤ w.heap.size
  os : w.os = R.w0.os
  tape : w.tape = R.w0.tape
  output : w.output = R.w0.output

/-- From one point of a run to a later one. -/
structure Ext (R R' : Rl) (w w' : World) : Prop where
  ρ : ∀ o l, R.ρ o = some l → R'.ρ o = some l
  ro : ∀ b, R.ro b → R'.ro b
  keeps : Keeps R.ro w w'
  base : R'.base = R.base
  w0 : R'.w0 = R.w0
  size : w.heap.size ≤ w'.heap.size

theorem Ext.refl (R : Rl) (w : World) : Ext R R w w := ⟨fun _ _ h => h, fun _ h => h, ⟨fun _ _ => rfl⟩, rfl, rfl, Nat.le_refl _⟩
theorem Ext.trans {R R' R'' : Rl} {w w' w'' : World} (h : Ext R R' w w') (k : Ext R' R'' w' w'') : Ext R R'' w w'' :=
  ⟨fun o l e => k.ρ o l (h.ρ o l e), fun b e => k.ro b (h.ro b e), ⟨fun b e => (k.keeps.same b (h.ro b e)).trans (h.keeps.same b e)⟩, k.base.trans h.base, k.w0.trans h.w0, Nat.le_trans h.size k.size⟩

abbrev VR (R : Rl) (w : World) := V R.ρ R.ro w
abbrev VLR (R : Rl) (w : World) := VL R.ρ R.ro w
theorem V.ext {R R' : Rl} {w w' : World} {lv : LV} {v : Value} (h : VR R w lv v) (e : Ext R R' w w') : VR R' w' lv v := h.mono e.ρ e.ro e.keeps
theorem VL.ext {R R' : Rl} {w w' : World} {lv : List LV} {v : List Value} (h : VLR R w lv v) (e : Ext R R' w w') : VLR R' w' lv v := VL.mono h e.ρ e.ro e.keeps
end
end Gz
