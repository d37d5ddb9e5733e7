/- What comes in, as the evaluator's values. -/
import Derived.Test.YtpdomjkgdlineaaBXTyp
import Derived.Deep.Slices
import Derived.ChangeStays
import Derived.OpenShut
set_option linter.unusedVariables false
set_option linter.unusedSimpArgs false
set_option linter.unnecessarySimpa false
set_option linter.deprecated false
namespace Gz
open Go Go.ChangeShapes Go.WideShapes

inductive Leaf
  | i (k : IntKind) | b | sl (g : Tag)
  deriving DecidableEq

def tagLs : Tag → List Leaf
  | .u8 => [.i .u8] | .int => [.i .i64] | .u64 => [.i .u64] | .bool => [.b]
  | .col => [.i .u8, .i .u8, .i .u8, .i .u8]
  | .vec => [.i .i64, .i .i64, .i .i64, .i .i64, .i .i64, .i .i64, .i .i64, .i .i64]
  | .pt => [.i .i64, .i .i64, .i .i64, .i .i64, .i .i64, .i .i64, .i .i64]
  | .part => [.i .i64, .i .i64, .i .i64, .i .i64, .i .i64, .i .i64, .i .i64, .i .i64, .i .i64, .i .i64, .i .i64, .i .i64, .i .i64, .i .i64, .i .i64, .i .i64, .i .i64, .i .i64, .i .i64, .i .i64, .i .i64, .i .i64]
  | .ins => [.i .u8, .i .u8, .i .u8, .i .u8, .i .i64]
  | .prog => [.sl .ins]
  | .tex => [.i .i64, .i .i64, .sl .col]
  | .tri => [.i .i64, .i .i64, .i .i64, .i .i64]
  | .draw => [.i .i64, .i .i64, .i .i64, .b, .sl .tri]
  | .frag => [.i .i64, .i .i64, .i .u8, .i .i64, .i .i64, .i .i64, .i .i64, .i .u8, .i .u8, .i .u8, .i .u8]
  | .base => [.b, .i .i64, .i .i64, .i .i64, .i .i64, .i .u8, .i .u8, .i .u8, .i .u8]
  | .box => [.i .i64, .i .i64, .i .i64, .i .i64]

/-- Numbers are of their kinds. -/
def okI (k : IntKind) (n : Int) : Prop := k.min ≤ n ∧ n ≤ k.max
structure okCol (c : Col) : Prop where
  r : okI .u8 c.r
  g : okI .u8 c.g
  b : okI .u8 c.b
  a : okI .u8 c.a
structure okVx (v : Vx) : Prop where
  x : okI .i64 v.x
  y : okI .i64 v.y
  z : okI .i64 v.z
  w : okI .i64 v.w
  a0 : okI .i64 v.a0
  a1 : okI .i64 v.a1
  a2 : okI .i64 v.a2
  a3 : okI .i64 v.a3
structure okPt (v : Pt) : Prop where
  x : okI .i64 v.x
  y : okI .i64 v.y
  z : okI .i64 v.z
  a0 : okI .i64 v.a0
  a1 : okI .i64 v.a1
  a2 : okI .i64 v.a2
  a3 : okI .i64 v.a3
structure okIs (x : Is) : Prop where
  op : okI .u8 x.op
  d : okI .u8 x.d
  a : okI .u8 x.a
  b : okI .u8 x.b
  n : okI .i64 x.n
structure okTx (B : Nat) (t : Tx) : Prop where
  w : okI .i64 t.w
  h : okI .i64 t.h
  len : t.px.length ≤ B
  px : ∀ c ∈ t.px, okCol c
structure okTr (t : Tr) : Prop where
  id : okI .i64 t.id
  v0 : okI .i64 t.v0
  v1 : okI .i64 t.v1
  v2 : okI .i64 t.v2
structure okDr (B : Nat) (d : Dr) : Prop where
  id : okI .i64 d.id
  prog : okI .i64 d.prog
  tex : okI .i64 d.tex
  len : d.tris.length ≤ B
  tris : ∀ t ∈ d.tris, okTr t
structure okKy (k : Ky) : Prop where
  z : okI .i64 k.z
  d : okI .i64 k.d
  t : okI .i64 k.t
  p : okI .i64 k.p
structure okFg (f : Fg) : Prop where
  x : okI .i64 f.x
  y : okI .i64 f.y
  m : okI .u8 f.m
  k : okKy f.k
  c : okCol f.c
structure okBa (b : Ba) : Prop where
  k : okKy b.k
  c : okCol b.c
structure okB4 (b : B4) : Prop where
  x0 : okI .i64 b.x0
  y0 : okI .i64 b.y0
  x1 : okI .i64 b.x1
  y1 : okI .i64 b.y1
structure okPa (p : Pa) : Prop where
  n : okI .i64 p.n
  pp : okPt p.p
  qq : okPt p.q
  rr : okPt p.r

def okEl (B : Nat) : (g : Tag) → El g → Prop
  | .u8, n => okI .u8 n
  | .int, n => okI .i64 n
  | .u64, n => okI .u64 n
  | .bool, _ => True
  | .col, c => okCol c
  | .vec, v => okVx v
  | .pt, p => okPt p
  | .part, p => okPa p
  | .ins, x => okIs x
  | .prog, l => l.length ≤ B ∧ ∀ x ∈ l, okIs x
  | .tex, t => okTx B t
  | .tri, t => okTr t
  | .draw, d => okDr B d
  | .frag, f => okFg f
  | .base, b => okBa b
  | .box, b => okB4 b

def OkL (B : Nat) : Leaf → LV → Prop
  | .i k, v => ∃ n, v = .i k n ∧ okI k n
  | .b, v => ∃ t, v = .b t
  | .sl g, v => ∃ l : List (El g), v = .slv ⟨g, l⟩ ∧ l.length ≤ B ∧ ∀ x ∈ l, okEl B g x
def OkLs (B : Nat) : List Leaf → List LV → Prop
  | [], [] => True
  | p :: ls, v :: vs => OkL B p v ∧ OkLs B ls vs
  | _, _ => False

section
variable {B : Nat}
theorem OkLs.nil_inv {vs : List LV} (h : OkLs B [] vs) : vs = [] := by cases vs <;> simp_all [OkLs]
theorem OkLs.i_inv {k : IntKind} {ls : List Leaf} {vs : List LV} (h : OkLs B (.i k :: ls) vs) : ∃ n vs', vs = .i k n :: vs' ∧ okI k n ∧ OkLs B ls vs' := by
  cases vs with
  | nil => exact h.elim
  | cons v vs => obtain ⟨⟨n, rfl, h1⟩, h2⟩ := h; exact ⟨n, vs, rfl, h1, h2⟩
theorem OkLs.b_inv {ls : List Leaf} {vs : List LV} (h : OkLs B (.b :: ls) vs) : ∃ t vs', vs = .b t :: vs' ∧ OkLs B ls vs' := by
  cases vs with
  | nil => exact h.elim
  | cons v vs => obtain ⟨⟨n, rfl⟩, h2⟩ := h; exact ⟨n, vs, rfl, h2⟩
theorem OkLs.sl_inv {g : Tag} {ls : List Leaf} {vs : List LV} (h : OkLs B (.sl g :: ls) vs) : ∃ (l : List (El g)) (vs' : List LV), vs = .slv ⟨g, l⟩ :: vs' ∧ (l.length ≤ B ∧ ∀ x ∈ l, okEl B g x) ∧ OkLs B ls vs' := by
  cases vs with
  | nil => exact h.elim
  | cons v vs => obtain ⟨⟨l, rfl, h1⟩, h2⟩ := h; exact ⟨l, vs, rfl, h1, h2⟩
theorem OkLs.length : ∀ {ls : List Leaf} {vs : List LV}, OkLs B ls vs → vs.length = ls.length
  | [], [], _ => rfl
  | [], _ :: _, h => h.elim
  | _ :: _, [], h => h.elim
  | _ :: ls, _ :: vs, h => by simp [OkLs.length h.2]
theorem OkLs.append : ∀ {ls ms : List Leaf} {vs us : List LV}, OkLs B ls vs → OkLs B ms us → OkLs B (ls ++ ms) (vs ++ us)
  | [], _, [], _, _, h => h
  | [], _, _ :: _, _, h, _ => h.elim
  | _ :: _, _, [], _, h, _ => h.elim
  | _ :: _, _, _ :: _, _, h, h' => ⟨h.1, OkLs.append h.2 h'⟩

/-- Cells of a known kind are an element. -/
theorem tag_el {g : Tag} {vs : List LV} (h : OkLs B (tagLs g) vs) : ∃ x : El g, vs = enc g x ∧ okEl B g x := by
  cases g
  case u8 => obtain ⟨n, vs, rfl, a, h⟩ := h.i_inv; obtain rfl := h.nil_inv; exact ⟨n, rfl, a⟩
  case int => obtain ⟨n, vs, rfl, a, h⟩ := h.i_inv; obtain rfl := h.nil_inv; exact ⟨n, rfl, a⟩
  case u64 => obtain ⟨n, vs, rfl, a, h⟩ := h.i_inv; obtain rfl := h.nil_inv; exact ⟨n, rfl, a⟩
  case bool => obtain ⟨n, vs, rfl, h1⟩ := h.b_inv; obtain rfl := h1.nil_inv; exact ⟨n, rfl, trivial⟩
  case col =>
    obtain ⟨n0, vs, rfl, a0, h⟩ := h.i_inv; obtain ⟨n1, vs, rfl, a1, h⟩ := h.i_inv; obtain ⟨n2, vs, rfl, a2, h⟩ := h.i_inv; obtain ⟨n3, vs, rfl, a3, h⟩ := h.i_inv
    obtain rfl := h.nil_inv; exact ⟨⟨n0, n1, n2, n3⟩, rfl, ⟨a0, a1, a2, a3⟩⟩
  case vec =>
    obtain ⟨n0, vs, rfl, a0, h⟩ := h.i_inv; obtain ⟨n1, vs, rfl, a1, h⟩ := h.i_inv; obtain ⟨n2, vs, rfl, a2, h⟩ := h.i_inv; obtain ⟨n3, vs, rfl, a3, h⟩ := h.i_inv
    obtain ⟨n4, vs, rfl, a4, h⟩ := h.i_inv; obtain ⟨n5, vs, rfl, a5, h⟩ := h.i_inv; obtain ⟨n6, vs, rfl, a6, h⟩ := h.i_inv; obtain ⟨n7, vs, rfl, a7, h⟩ := h.i_inv
    obtain rfl := h.nil_inv; exact ⟨⟨n0, n1, n2, n3, n4, n5, n6, n7⟩, rfl, ⟨a0, a1, a2, a3, a4, a5, a6, a7⟩⟩
  case pt =>
    obtain ⟨n0, vs, rfl, a0, h⟩ := h.i_inv; obtain ⟨n1, vs, rfl, a1, h⟩ := h.i_inv; obtain ⟨n2, vs, rfl, a2, h⟩ := h.i_inv; obtain ⟨n3, vs, rfl, a3, h⟩ := h.i_inv
    obtain ⟨n4, vs, rfl, a4, h⟩ := h.i_inv; obtain ⟨n5, vs, rfl, a5, h⟩ := h.i_inv; obtain ⟨n6, vs, rfl, a6, h⟩ := h.i_inv
    obtain rfl := h.nil_inv; exact ⟨⟨n0, n1, n2, n3, n4, n5, n6⟩, rfl, ⟨a0, a1, a2, a3, a4, a5, a6⟩⟩
  case part =>
    obtain ⟨n, vs, rfl, a, h⟩ := h.i_inv
    obtain ⟨n0, vs, rfl, a0, h⟩ := h.i_inv; obtain ⟨n1, vs, rfl, a1, h⟩ := h.i_inv; obtain ⟨n2, vs, rfl, a2, h⟩ := h.i_inv; obtain ⟨n3, vs, rfl, a3, h⟩ := h.i_inv
    obtain ⟨n4, vs, rfl, a4, h⟩ := h.i_inv; obtain ⟨n5, vs, rfl, a5, h⟩ := h.i_inv; obtain ⟨n6, vs, rfl, a6, h⟩ := h.i_inv
    obtain ⟨m0, vs, rfl, b0, h⟩ := h.i_inv; obtain ⟨m1, vs, rfl, b1, h⟩ := h.i_inv; obtain ⟨m2, vs, rfl, b2, h⟩ := h.i_inv; obtain ⟨m3, vs, rfl, b3, h⟩ := h.i_inv
    obtain ⟨m4, vs, rfl, b4, h⟩ := h.i_inv; obtain ⟨m5, vs, rfl, b5, h⟩ := h.i_inv; obtain ⟨m6, vs, rfl, b6, h⟩ := h.i_inv
    obtain ⟨q0, vs, rfl, c0, h⟩ := h.i_inv; obtain ⟨q1, vs, rfl, c1, h⟩ := h.i_inv; obtain ⟨q2, vs, rfl, c2, h⟩ := h.i_inv; obtain ⟨q3, vs, rfl, c3, h⟩ := h.i_inv
    obtain ⟨q4, vs, rfl, c4, h⟩ := h.i_inv; obtain ⟨q5, vs, rfl, c5, h⟩ := h.i_inv; obtain ⟨q6, vs, rfl, c6, h⟩ := h.i_inv
    obtain rfl := h.nil_inv
    exact ⟨⟨n, ⟨n0, n1, n2, n3, n4, n5, n6⟩, ⟨m0, m1, m2, m3, m4, m5, m6⟩, ⟨q0, q1, q2, q3, q4, q5, q6⟩⟩, rfl, ⟨a, ⟨a0, a1, a2, a3, a4, a5, a6⟩, ⟨b0, b1, b2, b3, b4, b5, b6⟩, ⟨c0, c1, c2, c3, c4, c5, c6⟩⟩⟩
  case ins =>
    obtain ⟨n0, vs, rfl, a0, h⟩ := h.i_inv; obtain ⟨n1, vs, rfl, a1, h⟩ := h.i_inv; obtain ⟨n2, vs, rfl, a2, h⟩ := h.i_inv; obtain ⟨n3, vs, rfl, a3, h⟩ := h.i_inv
    obtain ⟨n4, vs, rfl, a4, h⟩ := h.i_inv
    obtain rfl := h.nil_inv; exact ⟨⟨n0, n1, n2, n3, n4⟩, rfl, ⟨a0, a1, a2, a3, a4⟩⟩
  case prog => obtain ⟨l, vs, rfl, a, h⟩ := h.sl_inv; obtain rfl := h.nil_inv; exact ⟨l, rfl, a⟩
  case tex =>
    obtain ⟨n0, vs, rfl, a0, h⟩ := h.i_inv; obtain ⟨n1, vs, rfl, a1, h⟩ := h.i_inv; obtain ⟨l, vs, rfl, a, h⟩ := h.sl_inv
    obtain rfl := h.nil_inv; exact ⟨⟨n0, n1, l⟩, rfl, ⟨a0, a1, a.1, a.2⟩⟩
  case tri =>
    obtain ⟨n0, vs, rfl, a0, h⟩ := h.i_inv; obtain ⟨n1, vs, rfl, a1, h⟩ := h.i_inv; obtain ⟨n2, vs, rfl, a2, h⟩ := h.i_inv; obtain ⟨n3, vs, rfl, a3, h⟩ := h.i_inv
    obtain rfl := h.nil_inv; exact ⟨⟨n0, n1, n2, n3⟩, rfl, ⟨a0, a1, a2, a3⟩⟩
  case draw =>
    obtain ⟨n0, vs, rfl, a0, h⟩ := h.i_inv; obtain ⟨n1, vs, rfl, a1, h⟩ := h.i_inv; obtain ⟨n2, vs, rfl, a2, h⟩ := h.i_inv; obtain ⟨t, vs, rfl, h1⟩ := h.b_inv; obtain ⟨l, vs, rfl, a, h⟩ := h1.sl_inv
    obtain rfl := h.nil_inv; exact ⟨⟨n0, n1, n2, t, l⟩, rfl, ⟨a0, a1, a2, a.1, a.2⟩⟩
  case frag =>
    obtain ⟨n0, vs, rfl, a0, h⟩ := h.i_inv; obtain ⟨n1, vs, rfl, a1, h⟩ := h.i_inv; obtain ⟨n2, vs, rfl, a2, h⟩ := h.i_inv
    obtain ⟨k0, vs, rfl, b0, h⟩ := h.i_inv; obtain ⟨k1, vs, rfl, b1, h⟩ := h.i_inv; obtain ⟨k2, vs, rfl, b2, h⟩ := h.i_inv; obtain ⟨k3, vs, rfl, b3, h⟩ := h.i_inv
    obtain ⟨c0, vs, rfl, d0, h⟩ := h.i_inv; obtain ⟨c1, vs, rfl, d1, h⟩ := h.i_inv; obtain ⟨c2, vs, rfl, d2, h⟩ := h.i_inv; obtain ⟨c3, vs, rfl, d3, h⟩ := h.i_inv
    obtain rfl := h.nil_inv; exact ⟨⟨n0, n1, n2, ⟨k0, k1, k2, k3⟩, ⟨c0, c1, c2, c3⟩⟩, rfl, ⟨a0, a1, a2, ⟨b0, b1, b2, b3⟩, ⟨d0, d1, d2, d3⟩⟩⟩
  case base =>
    obtain ⟨t, vs, rfl, h1⟩ := h.b_inv
    obtain ⟨k0, vs, rfl, b0, h⟩ := h1.i_inv; obtain ⟨k1, vs, rfl, b1, h⟩ := h.i_inv; obtain ⟨k2, vs, rfl, b2, h⟩ := h.i_inv; obtain ⟨k3, vs, rfl, b3, h⟩ := h.i_inv
    obtain ⟨c0, vs, rfl, d0, h⟩ := h.i_inv; obtain ⟨c1, vs, rfl, d1, h⟩ := h.i_inv; obtain ⟨c2, vs, rfl, d2, h⟩ := h.i_inv; obtain ⟨c3, vs, rfl, d3, h⟩ := h.i_inv
    obtain rfl := h.nil_inv; exact ⟨⟨t, ⟨k0, k1, k2, k3⟩, ⟨c0, c1, c2, c3⟩⟩, rfl, ⟨⟨b0, b1, b2, b3⟩, ⟨d0, d1, d2, d3⟩⟩⟩
  case box =>
    obtain ⟨n0, vs, rfl, a0, h⟩ := h.i_inv; obtain ⟨n1, vs, rfl, a1, h⟩ := h.i_inv; obtain ⟨n2, vs, rfl, a2, h⟩ := h.i_inv; obtain ⟨n3, vs, rfl, a3, h⟩ := h.i_inv
    obtain rfl := h.nil_inv; exact ⟨⟨n0, n1, n2, n3⟩, rfl, ⟨a0, a1, a2, a3⟩⟩
end

def structLs (r : Nat → Option (List Leaf)) (P : Program) : Nat → List Field → Option (List Leaf)
  | _, [] => some []
  | off, f :: fs => match r f.type with
    | some ls => if f.offset = off ∧ P.cellsOf f.type = ls.length then (match structLs r P (off + ls.length) fs with
      | some m => some (ls ++ m)
      | none => none) else none
    | none => none
def leaves (P : Program) (G : Nat → Option Tag) : Nat → Nat → Option (List Leaf)
  | 0, _ => none
  | n + 1, t => match P.underlying t with
    | some .bool => some [.b]
    | some (.int k) => some [.i k]
    | some (.slice e) => match G e, leaves P G n e with
      | some g, some ls => if ls = tagLs g ∧ P.cellsOf e = sz g then some [.sl g] else none
      | _, _ => none
    | some (.struct fs) => match structLs (leaves P G n) P 0 fs.toList with
      | some ls => if P.cellsOf t = ls.length then some ls else none
      | none => none
    | some (.array m e) => match leaves P G n e with
      | some ls => if P.cellsOf e = ls.length then (if P.cellsOf t = (List.replicate m ls).flatten.length then some (List.replicate m ls).flatten else none) else none
      | none => none
    | _ => none

/-- A measure of what comes in. -/
structure Bulk {H : Type} (bk : DataW H → Nat) : Prop where
  len : ∀ e s, e.length ≤ bk (.slice e s)
  el : ∀ e s x, x ∈ e → bk x ≤ bk (.slice e s)
  ag : ∀ p x, x ∈ p → bk x ≤ bk (.agg p)

section
variable {H : Type} {enc : TypeId × Value → H} {P : Program} {w : World} {bk : DataW H → Nat} {B : Nat} {G : Nat → Option Tag}

abbrev VC0 (w : World) := VC (fun _ => none) (fun b => b < w.heap.size) w

theorem cells?_cell {w : World} {a : Addr} {n : Nat} {cs : List Value} (h : w.cells? 0 a n = some cs) : cs.length = n ∧ ∀ (i : Nat) (v : Value), cs[i]? = some v → w.cell? (a.add i) = some v := by
  unfold World.cells? at h
  rw [if_pos (Nat.zero_le _)] at h
  have key : ∀ (l : List Nat) (cs : List Value), l.mapM (fun i => w.cell? (a.add i)) = some cs → cs.length = l.length ∧ ∀ (i : Nat) (v : Value), cs[i]? = some v → ∃ j, l[i]? = some j ∧ w.cell? (a.add j) = some v := by
    intro l
    induction l with
    | nil => intro cs h; simp at h; subst h; exact ⟨rfl, fun i v h => by simp at h⟩
    | cons x l ih =>
      intro cs h
      simp only [List.mapM_cons, Option.bind_eq_bind, Option.bind_eq_some_iff, Option.pure_def, Option.some.injEq] at h
      obtain ⟨v, hv, cs', hcs, rfl⟩ := h
      obtain ⟨h1, h2⟩ := ih cs' hcs
      refine ⟨by simp [h1], fun i u hu => ?_⟩
      cases i with
      | zero => simp at hu; subst hu; exact ⟨x, rfl, hv⟩
      | succ i => exact h2 i u (by simpa using hu)
  obtain ⟨h1, h2⟩ := key _ _ h
  refine ⟨by simpa using h1, fun i v hv => ?_⟩
  obtain ⟨j, hj, hv⟩ := h2 i v hv
  rw [List.getElem?_range (by have := (List.getElem?_eq_some_iff.1 hj).1; simpa using this)] at hj
  cases hj; exact hv

theorem cell_lt {w : World} {a : Addr} {v : Value} (h : w.cell? a = some v) : a.block < w.heap.size := by
  unfold World.cell? at h
  split at h
  · rename_i hq; exact (Array.getElem?_eq_some_iff.1 hq).1
  · cases h
theorem addr_add (a : Addr) (i j : Nat) (h : i ≠ 0 ∨ a.spot = none) : (a.add i).add j = a.add (i + j) := by
  unfold Addr.add
  by_cases hi : i = 0 <;> by_cases hj : j = 0 <;> simp_all [Nat.add_assoc]

theorem opened (hbk : Bulk bk) : ∀ (n t : Nat) (ls : List Leaf), leaves P G n t = some ls → ∀ (fuel : Nat) (cs : List Value) (x : DataW H × List MemPlace), DataW.trod enc P w 0 (fun _ => true) true fuel t cs = some x → (bk x.1 ≤ B ∨ maxLen ≤ B) →
    ∃ lvs, OkLs B ls lvs ∧ VC0 w lvs cs
  | 0, t, ls, h => by simp [leaves] at h
  | n + 1, t, ls, h => by
    intro fuel cs x hx hB
    have ih := opened hbk n
    unfold leaves at h
    split at h
    · -- bool
      rename_i hu
      cases h
      cases fuel with
      | zero => simp [DataW.trod] at hx
      | succ m =>
        unfold DataW.trod at hx
        rw [hu] at hx
        split at hx <;> simp_all
        rename_i b
        exact ⟨[.b b], ⟨⟨b, rfl⟩, trivial⟩, .single (.b b) rfl⟩
    · rename_i k hu
      cases h
      cases fuel with
      | zero => simp [DataW.trod] at hx
      | succ m =>
        unfold DataW.trod at hx
        rw [hu] at hx
        split at hx <;> simp_all
        rename_i k1 k2 n' hk
        obtain ⟨⟨hk2, hw⟩, hx⟩ := hx
        refine ⟨[.i _ n'], ⟨⟨n', rfl, ?_⟩, trivial⟩, .single (.i _ n') rfl⟩
        simpa [Lit.wf, okI] using hw
    · rename_i e hu
      split at h
      case h_2 => cases h
      rename_i g ls' hg hls'
      split at h
      case isFalse => cases h
      rename_i hls
      obtain ⟨rfl, hsz⟩ := hls
      cases h
      rcases Go.Deep.open_slice hu hx with ⟨rfl, rfl⟩ | ⟨a, len, cap, m, nn, D, Pl, rfl, hb, hl, hcap, hm, rfl, hel⟩
      · exact ⟨[.slv ⟨g, []⟩], ⟨⟨[], rfl, Nat.zero_le _, by simp⟩, trivial⟩, .single (.slve rfl) rfl⟩
      · have hm : m = cap := by simpa using hm
        subst hm
        have hel' : ∀ i, i < len → ∃ (y : El g) (cs' : List Value), w.cells? 0 (a.add (i * sz g)) (sz g) = some cs' ∧ okEl B g y ∧ VC0 w (Gz.enc g y) cs' := by
          intro i hi
          obtain ⟨cs', h1, h2⟩ := hel i (by omega)
          rw [hsz] at h1
          have hBi : bk (D i) ≤ B ∨ maxLen ≤ B := by
            rcases hB with hB | hB
            · exact .inl (Nat.le_trans (hbk.el _ _ (D i) (List.mem_map.2 ⟨i, List.mem_range.2 hi, rfl⟩)) hB)
            · exact .inr hB
          obtain ⟨lvs, h3, h4⟩ := ih e _ hls' _ _ _ h2 hBi
          obtain ⟨y, rfl, h5⟩ := tag_el h3
          exact ⟨y, cs', h1, h5, h4⟩
        -- the elements, one by one
        have all : ∀ k, k ≤ len → ∃ (l : List (El g)) (xs : List Value), l.length = k ∧ (∀ y ∈ l, okEl B g y) ∧ VC0 w (TL.flat ⟨g, l⟩) xs ∧ ∀ (j : Nat) (v : Value), xs[j]? = some v → w.cell? (a.add j) = some v := by
          intro k
          induction k with
          | zero => intro _; exact ⟨[], [], rfl, by simp, ⟨VL.nil, by simp⟩, fun j v h => by simp at h⟩
          | succ k ihk =>
            intro hk
            obtain ⟨l, xs, h1, h2, h3, h4⟩ := ihk (by omega)
            obtain ⟨y, cs', h5, h6, h7⟩ := hel' k (by omega)
            obtain ⟨h8, h9⟩ := cells?_cell h5
            refine ⟨l ++ [y], xs ++ cs', by simp [h1], ?_, ?_, ?_⟩
            · intro z hz
              rcases List.mem_append.1 hz with hz | hz
              · exact h2 z hz
              · rw [List.mem_singleton.1 hz]; exact h6
            · have : TL.flat ⟨g, l ++ [y]⟩ = TL.flat ⟨g, l⟩ ++ Gz.enc g y := by simp [TL.flat]
              rw [this]; exact h3.append h7
            · have hxl : xs.length = k * sz g := by rw [← h3.length, flat_length]; simp [TL.len, h1]
              intro j v hj
              by_cases hlt : j < xs.length
              · rw [List.getElem?_append_left hlt] at hj; exact h4 j v hj
              · rw [List.getElem?_append_right (by omega)] at hj
                have := h9 _ v hj
                by_cases hk0 : k * sz g ≠ 0
                · rw [addr_add _ _ _ (.inl hk0)] at this
                  rw [show k * sz g + (j - xs.length) = j by omega] at this
                  exact this
                · have hk0 : k * sz g = 0 := by omega
                  rw [hk0] at this
                  have e0 : a.add 0 = a := by simp [Addr.add]
                  rw [e0, hxl, hk0] at this
                  simpa using this
        obtain ⟨l, xs, h1, h2, h3, h4⟩ := all len (Nat.le_refl _)
        have hlB : l.length ≤ B := by
          rw [h1]
          rcases hB with hB | hB
          · refine Nat.le_trans ?_ hB
            have := hbk.len ((List.range len).map D) ((List.range (m - len)).map fun j => D (len + j))
            simpa using this
          · omega
        refine ⟨[.slv ⟨g, l⟩], ⟨⟨l, rfl, hlB, h2⟩, trivial⟩, .single ?_ rfl⟩
        by_cases h0 : len = 0
        · rw [h0]; exact .slve (by simp [TL.len, h1, h0])
        · have hx0 : 0 < xs.length := by
            rw [← h3.length, flat_length]
            simp only [TL.len, h1]
            exact Nat.mul_pos (by omega) (by cases g <;> simp [sz])
          have hro : a.block < w.heap.size := by
            have := cell_lt (h4 0 _ (List.getElem?_eq_getElem hx0))
            simpa [Addr.add] using this
          have hlen : len = TL.len ⟨g, l⟩ := by simp [TL.len, h1]
          rw [hlen]
          exact .slv (by rw [← hlen]; exact hl) hro h4 h3.one h3.vl.1 h3.vl.2
    · rename_i fs hu
      obtain ⟨xs, nn, _, rfl, hl, hlen, hf⟩ := DataW.trod_struct hu hx
      have key : ∀ (fl : List Field) (off i : Nat) (ls : List Leaf), fs.toList.drop i = fl → structLs (leaves P G n) P off fl = some ls → ∃ lvs, OkLs B ls lvs ∧ VC0 w lvs ((cs.drop off).take ls.length) := by
        intro fl
        induction fl with
        | nil => intro off i ls _ h; simp only [structLs] at h; cases h; exact ⟨[], trivial, ⟨by simpa using VL.nil, by simp⟩⟩
        | cons f fl ihf =>
          intro off i ls hi h
          simp only [structLs] at h
          split at h
          case h_2 => cases h
          rename_i ls1 h1
          split at h
          case isFalse => cases h
          rename_i hoff
          split at h
          case h_2 => cases h
          rename_i ls2 h2
          cases h
          have hfi : fs[i]? = some f := by
            have := congrArg (·[0]?) hi
            simpa [List.getElem?_drop] using this
          have h3 := hf i f hfi
          rw [hoff.1, hoff.2] at h3
          have hil : i < xs.length := by rw [hlen]; exact (Array.getElem?_eq_some_iff.1 hfi).1
          have hxi : xs[i]? = some xs[i] := List.getElem?_eq_getElem hil
          rw [hxi] at h3
          have hBi : bk (xs[i]).1 ≤ B ∨ maxLen ≤ B := by
            rcases hB with hB | hB
            · exact .inl (Nat.le_trans (hbk.ag _ _ (List.mem_map.2 ⟨xs[i], List.getElem_mem hil, rfl⟩)) hB)
            · exact .inr hB
          obtain ⟨lvs1, k1, k2⟩ := ih f.type ls1 h1 _ _ _ h3 hBi
          obtain ⟨lvs2, k3, k4⟩ := ihf (off + ls1.length) (i + 1) ls2 (by rw [← List.drop_drop, hi]; rfl) h2
          refine ⟨lvs1 ++ lvs2, k1.append k3, ?_⟩
          have : (cs.drop off).take (ls1 ++ ls2).length = (cs.drop off).take ls1.length ++ (cs.drop (off + ls1.length)).take ls2.length := by
            rw [List.length_append, List.take_add, List.drop_drop]
          rw [this]
          exact k2.append k4
      split at h
      case h_2 => cases h
      rename_i ls' hls
      split at h
      case isFalse => cases h
      rename_i hcl
      cases h
      obtain ⟨lvs, k1, k2⟩ := key fs.toList 0 0 ls rfl hls
      refine ⟨lvs, k1, ?_⟩
      rw [List.drop_zero, List.take_of_length_le (by omega)] at k2
      exact k2
    · rename_i m e hu
      split at h
      case h_2 => cases h
      rename_i ls1 h1
      split at h
      case isFalse => cases h
      rename_i hsz
      split at h
      case isFalse => cases h
      rename_i hcl
      cases h
      obtain ⟨xs, nn, _, rfl, hl, hlen, hf⟩ := DataW.trod_array hu hx
      have key : ∀ k, k ≤ m → ∃ lvs, OkLs B (List.replicate k ls1).flatten lvs ∧ VC0 w lvs (cs.take (k * ls1.length)) := by
        intro k
        induction k with
        | zero => intro _; exact ⟨[], trivial, ⟨by simpa using VL.nil, by simp⟩⟩
        | succ k ihk =>
          intro hk
          obtain ⟨lvs, k1, k2⟩ := ihk (by omega)
          have h3 := hf k (by omega)
          rw [hsz] at h3
          have hil : k < xs.length := by omega
          rw [List.getElem?_eq_getElem hil] at h3
          have hBi : bk (xs[k]).1 ≤ B ∨ maxLen ≤ B := by
            rcases hB with hB | hB
            · exact .inl (Nat.le_trans (hbk.ag _ _ (List.mem_map.2 ⟨xs[k], List.getElem_mem hil, rfl⟩)) hB)
            · exact .inr hB
          obtain ⟨lvs2, k3, k4⟩ := ih e ls1 h1 _ _ _ h3 hBi
          refine ⟨lvs ++ lvs2, ?_, ?_⟩
          · rw [List.replicate_succ', List.flatten_append]
            exact k1.append (by simpa using k3)
          · rw [Nat.succ_mul, List.take_add]
            exact k2.append k4
      obtain ⟨lvs, k1, k2⟩ := key m (Nat.le_refl _)
      refine ⟨lvs, k1, ?_⟩
      have : (List.replicate m ls1).flatten.length = m * ls1.length := by simp
      rw [List.take_of_length_le (by omega)] at k2
      exact k2
    · cases h
end
end Gz
