/- An abstract evaluator for the program's functions, over typed values: definitions. -/
import Derived.Control
import Derived.KernelRfl
set_option linter.unusedVariables false
set_option linter.unusedSimpArgs false
set_option linter.unnecessarySimpa false
set_option linter.deprecated false
namespace Gz
open Go

structure Col where (r g b a : Int) deriving Inhabited, DecidableEq
structure Vx where (x y z w a0 a1 a2 a3 : Int) deriving Inhabited, DecidableEq
structure Pt where (x y z a0 a1 a2 a3 : Int) deriving Inhabited, DecidableEq
structure Pa where (n : Int) (p q r : Pt) deriving Inhabited, DecidableEq
structure Is where (op d a b n : Int) deriving Inhabited, DecidableEq
structure Tx where (w h : Int) (px : List Col) deriving Inhabited, DecidableEq
structure Tr where (id v0 v1 v2 : Int) deriving Inhabited, DecidableEq
structure Dr where (id prog tex : Int) (opq : Bool) (tris : List Tr) deriving Inhabited, DecidableEq
structure Ky where (z d t p : Int) deriving Inhabited, DecidableEq
structure Fg where (x y m : Int) (k : Ky) (c : Col) deriving Inhabited, DecidableEq
structure Ba where (s : Bool) (k : Ky) (c : Col) deriving Inhabited, DecidableEq
structure B4 where (x0 y0 x1 y1 : Int) deriving Inhabited, DecidableEq

inductive Tag | u8 | int | u64 | bool | col | vec | pt | part | ins | prog | tex | tri | draw | frag | base | box
  deriving DecidableEq

abbrev El : Tag → Type
  | .u8 => Int | .int => Int | .u64 => Int | .bool => Bool | .col => Col | .vec => Vx | .pt => Pt | .part => Pa | .ins => Is
  | .prog => List Is | .tex => Tx | .tri => Tr | .draw => Dr | .frag => Fg | .base => Ba | .box => B4

structure TL where
  g : Tag
  l : List (El g)

inductive LV
  | u
  | b (b : Bool)
  | i (k : IntKind) (n : Int)
  | s (s : ByteArray)
  | p (o e off : Nat)
  | pv (t : TL) (e off : Nat)
  | pnil
  | sl (o : Nat)
  | slv (t : TL)
  | slnil (g : Tag)
  | av (t : TL)
  | mp (o : Nat)
  | fn (f : Nat) (caps : List LV)
  | yl (l : Nat)
  | fnil
  | ag (cs : List LV)
  | tu (vs : List LV)

namespace LV
def cells : LV → List LV
  | .ag cs => cs
  | x => [x]
end LV

def i6 (n : Int) : LV := .i .i64 n
def i8 (n : Int) : LV := .i .u8 n

def encCol (c : Col) : List LV := [i8 c.r, i8 c.g, i8 c.b, i8 c.a]
def encPt (p : Pt) : List LV := [i6 p.x, i6 p.y, i6 p.z, i6 p.a0, i6 p.a1, i6 p.a2, i6 p.a3]
def encKy (k : Ky) : List LV := [i6 k.z, i6 k.d, i6 k.t, i6 k.p]

def enc : (g : Tag) → El g → List LV
  | .u8, n => [i8 n]
  | .int, n => [i6 n]
  | .u64, n => [.i .u64 n]
  | .bool, b => [.b b]
  | .col, c => encCol c
  | .vec, v => [i6 v.x, i6 v.y, i6 v.z, i6 v.w, i6 v.a0, i6 v.a1, i6 v.a2, i6 v.a3]
  | .pt, p => encPt p
  | .part, p => i6 p.n :: (encPt p.p ++ (encPt p.q ++ encPt p.r))
  | .ins, x => [i8 x.op, i8 x.d, i8 x.a, i8 x.b, i6 x.n]
  | .prog, l => [.slv ⟨.ins, l⟩]
  | .tex, t => [i6 t.w, i6 t.h, .slv ⟨.col, t.px⟩]
  | .tri, t => [i6 t.id, i6 t.v0, i6 t.v1, i6 t.v2]
  | .draw, d => [i6 d.id, i6 d.prog, i6 d.tex, .b d.opq, .slv ⟨.tri, d.tris⟩]
  | .frag, f => i6 f.x :: i6 f.y :: i8 f.m :: (encKy f.k ++ encCol f.c)
  | .base, b => .b b.s :: (encKy b.k ++ encCol b.c)
  | .box, b => [i6 b.x0, i6 b.y0, i6 b.x1, i6 b.y1]

def dfl : (g : Tag) → El g
  | .u8 | .int | .u64 => (0 : Int) | .bool => false | .col => default | .vec => default | .pt => default | .part => default | .ins => default
  | .prog => [] | .tex => default | .tri => default | .draw => default | .frag => default | .base => default | .box => default

def sz : Tag → Nat
  | .u8 | .int | .u64 | .bool | .prog => 1 | .col => 4 | .vec => 8 | .pt => 7 | .part => 22 | .ins => 5 | .tex => 3 | .tri => 4 | .draw => 5 | .frag => 11 | .base => 9 | .box => 4

def decPt : List LV → Option Pt
  | [.i .i64 x, .i .i64 y, .i .i64 z, .i .i64 a, .i .i64 b, .i .i64 c, .i .i64 d] => some ⟨x, y, z, a, b, c, d⟩
  | _ => none

def dec : (g : Tag) → List LV → Option (El g)
  | .u8, [.i .u8 n] => some n
  | .int, [.i .i64 n] => some n
  | .u64, [.i .u64 n] => some n
  | .bool, [.b b] => some b
  | .col, [.i .u8 r, .i .u8 g, .i .u8 b, .i .u8 a] => some ⟨r, g, b, a⟩
  | .vec, [.i .i64 x, .i .i64 y, .i .i64 z, .i .i64 w, .i .i64 a, .i .i64 b, .i .i64 c, .i .i64 d] => some ⟨x, y, z, w, a, b, c, d⟩
  | .pt, l => decPt l
  | .part, .i .i64 n :: l => (decPt (l.take 7)).bind fun p => (decPt ((l.drop 7).take 7)).bind fun q => (decPt (l.drop 14)).bind fun r => some ⟨n, p, q, r⟩
  | .ins, [.i .u8 o, .i .u8 d, .i .u8 a, .i .u8 b, .i .i64 n] => some ⟨o, d, a, b, n⟩
  | .prog, [.slv ⟨.ins, l⟩] => some l
  | .prog, [.slnil .ins] => some []
  | .tex, [.i .i64 w, .i .i64 h, .slv ⟨.col, l⟩] => some ⟨w, h, l⟩
  | .tex, [.i .i64 w, .i .i64 h, .slnil .col] => some ⟨w, h, []⟩
  | .tri, [.i .i64 a, .i .i64 b, .i .i64 c, .i .i64 d] => some ⟨a, b, c, d⟩
  | .draw, [.i .i64 a, .i .i64 b, .i .i64 c, .b o, .slv ⟨.tri, l⟩] => some ⟨a, b, c, o, l⟩
  | .draw, [.i .i64 a, .i .i64 b, .i .i64 c, .b o, .slnil .tri] => some ⟨a, b, c, o, []⟩
  | .frag, [.i .i64 x, .i .i64 y, .i .u8 m, .i .i64 z, .i .i64 d, .i .i64 t, .i .i64 p, .i .u8 r, .i .u8 g, .i .u8 b, .i .u8 a] => some ⟨x, y, m, ⟨z, d, t, p⟩, ⟨r, g, b, a⟩⟩
  | .base, [.b s, .i .i64 z, .i .i64 d, .i .i64 t, .i .i64 p, .i .u8 r, .i .u8 g, .i .u8 b, .i .u8 a] => some ⟨s, ⟨z, d, t, p⟩, ⟨r, g, b, a⟩⟩
  | .box, [.i .i64 a, .i .i64 b, .i .i64 c, .i .i64 d] => some ⟨a, b, c, d⟩
  | _, _ => none

namespace TL
def len (t : TL) : Nat := t.l.length
def at_ (t : TL) (e : Nat) : List LV := enc t.g (t.l.getD e (dfl t.g))
/-- Cells, element by element, as a list. -/
def chunk (g : Tag) : Nat → List LV → Option (List (El g))
  | 0, _ => some []
  | n + 1, cs => (dec g (cs.take (sz g))).bind fun x => (chunk g n (cs.drop (sz g))).bind fun l => some (x :: l)
def ofCells (g : Tag) (n : Nat) (cs : List LV) : Option TL := if cs.length = n * sz g then (chunk g n cs).bind fun l => some ⟨g, l⟩ else none
def flat (t : TL) : List LV := t.l.flatMap (enc t.g)
/-- One element's cells, some of them new. -/
def put (t : TL) (e off : Nat) (cs : List LV) : Option TL :=
  let old := t.at_ e
  (dec t.g (old.take off ++ (cs ++ old.drop (off + cs.length)))).bind fun x => some ⟨t.g, t.l.set e x⟩
end TL

/-- What is known of a type. -/
inductive TyK
  | int (k : IntKind) | bool | str | ptr | func | slice (g : Tag) (e : Nat) | arr (n : Nat) (g : Tag) (e : Nat) | struct (offs : List (Nat × Nat)) | map | other
structure TyI where
  size : Nat
  k : TyK
  zero : List LV

inductive LO
  | cells (c : List LV)
  | arr (t : TL) (e : Nat)
  | ro (t : TL)
  | loop (fr : List LV) (params : List Nat) (assign body : Code) (fid : Nat) (pend : Option Code) (state : LoopState)
  | dead

structure St where
  L : List LO
  lo : Nat

inductive X | n | e (id : Nat) | r | v (x : LV)

abbrev Res := LV × List (TL × Nat)
abbrev Kont := X → List LV → St → Option Res

structure Cfg where
  ty : Nat → TyI
  fn : Nat → Option Func
  /-- Called by itself, its result bound. -/
  pure_ : Nat → Bool
  /-- A loop that is kept: the slots that it needs. -/
  keep : Nat → Nat → Option (List Nat)
  /-- Functions that are taken as they are. -/
  prim : Nat → List LV → Option LV
  /-- Types of structs and arrays that are compared. -/
  eqT : Nat → Option (List LV)
  /-- The element type of slices of a kind. -/
  elemOf : Tag → Nat
  N : Nat
  /-- Functions by themselves whose answers are told. -/
  spec : Nat → List LV → Option ((Res → Option Res) → Option Res) := fun _ _ => none
  /-- Pieces of code (loops, conditions) whose ends are told. -/
  it : Nat → Code → List LV → St → Option (Kont → Option Res) := fun _ _ _ _ => none

def cv : Value → LV
  | .bool b => .b b
  | .int k n => .i k n
  | .string s => .s s
  | .pointer none => .pnil
  | .nilFunc => .fnil
  | _ => .u

section
variable (C : Cfg)

def constT (t : Nat) (v : Value) : LV :=
  match v with
  | .slice none 0 0 => match (C.ty t).k with | .slice g _ => .slnil g | _ => .u
  | v => cv v
def valT (fr : List LV) (t : Nat) : Operand → LV
  | .tmp x => fr.getD x .u
  | .const v => constT C t v
  | .func f => .fn f []
  | .global _ => .u
def val (fr : List LV) (o : Operand) : LV := valT C fr 0 o

/-- Two operands that are the same number. -/
def sameInt : Operand → Operand → Bool
  | .tmp a, .tmp b => Nat.beq a b
  | .const (.int _ a), .const (.int _ b) => decide (a = b)
  | _, _ => false

def put (fr : List LV) (d : Option Nat) (v : LV) : List LV :=
  match d with
  | some d => fr.set d v
  | none => fr

def isAgg (t : Nat) : Bool := match (C.ty t).k with | .struct _ | .arr .. => true | _ => false

/-- Types. -/
def tyKnown (t : Nat) : Bool := match (C.ty t).k with | .other => false | _ => true

/-- A value as a variable of its type holds it: an array of a known element as a list. -/
def normT (t : Nat) (v : LV) : Option LV :=
  match (C.ty t).k, v with
  | .arr n g _, .ag cs => (TL.ofCells g n cs).bind fun l => some (.av l)
  | _, v => some v

/-- A value's cells, an array's too. -/
def flatV : LV → Option (List LV)
  | .ag cs => some cs
  | .av t => some t.flat
  | .u => none
  | .tu _ => none
  | x => some [x]

/-- The object of a new variable. -/
def newVar (t : Nat) (v : LV) : Option LO :=
  match (C.ty t).k with
  | .arr n g _ => if 0 < n then
      match v with
      | .ag cs => (TL.ofCells g n cs).bind fun l => some (.arr l t)
      | .av l => if l.g = g ∧ l.len = n then some (.arr l t) else none
      | _ => none
    else none
  | .other => none
  | _ => (flatV v).bind fun cs => if cs.length = (C.ty t).size then some (.cells cs) else none

def zeroObj (t : Nat) : Option LO :=
  match (C.ty t).k with
  | .arr n g _ => if 0 < n then some (.arr ⟨g, List.replicate n (dfl g)⟩ t) else none
  | .other => none
  | _ => if (C.ty t).zero.length = (C.ty t).size then some (.cells (C.ty t).zero) else none

/-- A slice's contents. -/
def rdSl (st : St) : LV → Option TL
  | .sl o => match st.L.getD o .dead with | .arr t _ => some t | .ro t => some t | _ => none
  | .slv t => some t
  | .slnil g => some ⟨g, []⟩
  | _ => none

/-- A slice that goes into something else is no longer written. -/
def frz (st : St) : LV → LV × St
  | .sl o => match st.L.getD o .dead with
    | .arr t _ => (.slv t, { st with L := st.L.set o (.ro t) })
    | .ro t => (.slv t, st)
    | _ => (.u, st)
  | v => (v, st)
def frzL (st : St) : List LV → List LV × St
  | [] => ([], st)
  | v :: l => let r := frz st v; let q := frzL r.2 l; (r.1 :: q.1, q.2)
def frzV (st : St) : LV → LV × St
  | .ag cs => let q := frzL st cs; (.ag q.1, q.2)
  | v => frz st v
def frzVs (st : St) : List LV → List LV × St
  | [] => ([], st)
  | v :: l => let r := frzV st v; let q := frzVs r.2 l; (r.1 :: q.1, q.2)

/-- Cells at a place of an object. -/
def cellsAt (st : St) (o e off size : Nat) : Option (List LV) :=
  match st.L.getD o .dead with
  | .cells c => if e = 0 ∧ off + size ≤ c.length then some ((c.drop off).take size) else none
  | .arr l _ | .ro l => if off + size ≤ sz l.g then some (((l.at_ e).drop off).take size) else none
  | _ => none

/-- A variable's value out of its cells. -/
def pack (t : Nat) (cs : List LV) : Option LV :=
  match (C.ty t).k with
  | .other => none
  | .struct _ => some (.ag cs)
  | .arr n g _ => (TL.ofCells g n cs).bind fun l => some (.av l)
  | _ => match cs with | [x] => some x | _ => none

/-- A whole array. -/
def wholeArr (st : St) (t : Nat) (o e off : Nat) : Option (TL × Nat) :=
  match (C.ty t).k, st.L.getD o .dead with
  | .arr n g _, .arr l e' => if g = l.g ∧ off = 0 ∧ e = 0 ∧ l.len = n then some (l, e') else none
  | _, _ => none

def loadAt (st : St) (t : Nat) (a : LV) : Option LV :=
  match a with
  | .p o e off => match wholeArr C st t o e off with
    | some l => some (.av l.1)
    | none => (cellsAt st o e off (C.ty t).size).bind (pack C t)
  | .pv l e off => if off + (C.ty t).size ≤ sz l.g then pack C t (((l.at_ e).drop off).take (C.ty t).size) else none
  | _ => none

def storeCs (st : St) (t : Nat) (o e off : Nat) (v : LV) : Option St :=
  (flatV v).bind fun cs =>
    if tyKnown C t = true ∧ cs.length = (C.ty t).size then
      match st.L.getD o .dead with
      | .cells c => if e = 0 ∧ off + cs.length ≤ c.length then some { st with L := st.L.set o (.cells (c.take off ++ (cs ++ c.drop (off + cs.length)))) } else none
      | .arr _ _ =>
        match (frzL st cs).2.L.getD o .dead with
        | .arr l e' => if off + cs.length ≤ sz l.g then (l.put e off (frzL st cs).1).bind fun l' => some { (frzL st cs).2 with L := (frzL st cs).2.L.set o (.arr l' e') } else none
        | _ => none
      | _ => none
    else none
def storeArr (st : St) (o : Nat) (l : TL × Nat) (m : TL) : Option St :=
  if l.1.g = m.g ∧ m.len = l.1.len then some { st with L := st.L.set o (.arr m l.2) } else none

def storeAt (st : St) (t : Nat) (a v : LV) : Option St :=
  match a with
  | .p o e off => if o < st.lo then none else
    match wholeArr C st t o e off with
    | some l => match v with
      | .av m => storeArr st o l m
      | v => storeCs C st t o e off v
    | none => storeCs C st t o e off v
  | _ => none

def binInt (op : BinOp) (k : IntKind) (x y : Int) : Option (Bool × LV) :=
  match op with
  | .add => some (true, .i k (k.wrap (x + y)))
  | .sub => some (true, .i k (k.wrap (x - y)))
  | .mul => some (true, .i k (k.wrap (x * y)))
  | .quo => some (!(y == 0), .i k (k.wrap (x.tdiv y)))
  | .rem => some (!(y == 0), .i k (x.tmod y))
  | .and => some (true, .i k (k.wrap (BitVec.ofInt k.bits x &&& BitVec.ofInt k.bits y).toNat))
  | .or => some (true, .i k (k.wrap (BitVec.ofInt k.bits x ||| BitVec.ofInt k.bits y).toNat))
  | .xor => some (true, .i k (k.wrap (BitVec.ofInt k.bits x ^^^ BitVec.ofInt k.bits y).toNat))
  | .andNot => some (true, .i k (k.wrap (BitVec.ofInt k.bits x &&& ~~~BitVec.ofInt k.bits y).toNat))
  | .eql => some (true, .b (x == y))
  | .neq => some (true, .b (x != y))
  | .lss => some (true, .b (decide (x < y)))
  | .leq => some (true, .b (decide (x ≤ y)))
  | .gtr => some (true, .b (decide (x > y)))
  | .geq => some (true, .b (decide (x ≥ y)))
  | _ => none

def eqCells : List LV → List LV → Option Bool
  | [], [] => some true
  | .i _ a :: l, .i _ b :: m => (eqCells l m).bind fun r => some ((a == b) && r)
  | .b a :: l, .b b :: m => (eqCells l m).bind fun r => some ((a == b) && r)
  | _, _ => none

/-- Cells of the same kinds. -/
def shp : List LV → List LV → Bool
  | [], [] => true
  | .i k _ :: l, .i k' _ :: m => decide (k = k') && shp l m
  | .b _ :: l, .b _ :: m => shp l m
  | _, _ => false

def eqV (t : Nat) (x y : LV) : Option Bool :=
  match (C.ty t).k, x, y with
  | .bool, .b a, .b b => some (a == b)
  | .ptr, .pnil, .pnil => some true
  | .ptr, .p .., .pnil => some false
  | .func, .fn .., .fnil => some false
  | .func, .fnil, .fnil => some true
  | .struct _, .ag a, .ag b => match C.eqT t with | some z => bif shp z a && shp z b then eqCells a b else none | none => none
  | .arr _ _ _, .av a, .av b => match C.eqT t with | some z => bif shp z a.flat && shp z b.flat then eqCells a.flat b.flat else none | none => none
  | _, _, _ => none

def bin (t : Nat) (op : BinOp) (x y : LV) : Option (Bool × LV) :=
  match x, y with
  | .i k a, .i k' b => match op with
    | .shl => some (decide (0 ≤ b), .i k (k.wrap (a * 2 ^ (min b.toNat k.bits))))
    | .shr => some (decide (0 ≤ b), .i k (a.fdiv (2 ^ (min b.toNat k.bits))))
    | op => if k = k' then binInt op k a b else none
  | .s a, .s b => match op with
    | .eql => some (true, .b (a.toList == b.toList))
    | .neq => some (true, .b (!(a.toList == b.toList)))
    | _ => none
  | x, y => (eqV C t x y).bind fun r => match op with
    | .eql => some (true, .b r)
    | .neq => some (true, .b (!r))
    | _ => none

def new (st : St) (o : LO) : St := { st with L := st.L ++ [o] }

/-- The parts of a literal, laid into zero cells. -/
def fillC (place : Nat → Option (Nat × Nat)) (cs : List LV) : List (Nat × LV) → Option (List LV)
  | [] => some cs
  | (i, v) :: rest => match place i with
    | none => none
    | some (off, size) => (flatV v).bind fun w => if w.length = size ∧ off + size ≤ cs.length then fillC place (cs.take off ++ (w ++ cs.drop (off + size))) rest else none

def maxList : Nat := 1073741824

def joinTL (a b : TL) : Option TL := if h : a.g = b.g then some ⟨b.g, (h ▸ a.l) ++ b.l⟩ else none

/-- append(x, y...). -/
def appendTo (st : St) (t : Nat) (x y : LV) : Option (Bool × LV × St) :=
  match (C.ty t).k with
  | .slice g e => match rdSl st y with
    | none => none
    | some m => if m.g ≠ g then none else match x with
      | .sl o => if o < st.lo then none else match st.L.getD o .dead with
        | .arr l e' => if e' = e then (joinTL l m).bind fun lm => some (decide (l.len + m.len < maxList), .sl st.L.length, new { st with L := st.L.set o .dead } (.arr lm e)) else none
        | _ => none
      | .slnil _ => some (decide (m.len < maxList), .sl st.L.length, new st (.arr m e))
      | _ => none
  | _ => none

def lenOf (st : St) (t : Nat) (x : LV) : Option LV :=
  match (C.ty t).k, x with
  | .str, .s s => some (i6 s.size)
  | .arr n _ _, .av l => if l.len = n then some (i6 l.len) else none
  | .slice _ _, x => (rdSl st x).bind fun l => some (i6 l.len)
  | _, _ => none

def minMax : Builtin → List LV → Option LV
  | .min, [.i k x, .i _ y] => some (.i k (if y < x then y else x))
  | .max, [.i k x, .i _ y] => some (.i k (if y > x then y else x))
  | .min, [.i k x, .i _ y, .i _ z] => some (.i k (if z < (if y < x then y else x) then z else (if y < x then y else x)))
  | .max, [.i k x, .i _ y, .i _ z] => some (.i k (if z > (if y > x then y else x) then z else (if y > x then y else x)))
  | _, _ => none

def evBuiltin (fr : List LV) (st : St) (b : Builtin) (args : Array Operand) (argTypes : Array Nat) : Option (Bool × LV × St) :=
  match b with
  | .len => match args.toList, argTypes.toList with
    | [x], [t] => (lenOf C st t (valT C fr t x)).bind fun v => some (true, v, st)
    | _, _ => none
  | .append => match args.toList, argTypes.toList with
    | [x, y], [t, t'] => if t = t' then appendTo C st t (valT C fr t x) (valT C fr t y) else none
    | _, _ => none
  | b => if args.size = argTypes.size then (minMax b ((args.toList.zip argTypes.toList).map fun p => valT C fr p.2 p.1)).bind fun v => some (true, v, st) else none

/-- Bytes as a string. -/
def bytesOf (l : List Int) : ByteArray := ⟨(l.map fun n => UInt8.ofNat n.toNat).toArray⟩

def bytesTL : TL → ByteArray
  | ⟨.u8, l⟩ => bytesOf l
  | _ => ByteArray.empty

/-- An operation that is no call of a Go function: (what must hold, its value, the store behind it). -/
def evOp (fr : List LV) (st : St) (o : Oper) : Option (Bool × LV × St) :=
  match o.op with
  | .move x | .assign x => some (true, valT C fr o.type x, st)
  | .pick c a b => match val C fr c with
    | .b t => some (true, if t then val C fr a else val C fr b, st)
    | _ => none
  | .alloc t => (zeroObj C t).bind fun ob => some (true, .p st.L.length 0 0, new st ob)
  | .box t x => (newVar C t (valT C fr t x)).bind fun ob => some (true, .p st.L.length 0 0, new st ob)
  | .build t ps => match (C.ty t).k with
    | .struct offs => if (C.ty t).zero.length ≠ (C.ty t).size then none else (fillC (fun i => offs[i]?) (C.ty t).zero (ps.toList.map fun (i, x) => (i, val C fr x))).bind fun cs => some (true, .ag cs, st)
    | .arr n g e => if (C.ty t).zero.length ≠ (C.ty t).size then none else (fillC (fun i => some (i * sz g, sz g)) (C.ty t).zero (ps.toList.map fun (i, x) => (i, val C fr x))).bind fun cs => (TL.ofCells g n cs).bind fun l => some (true, .av l, st)
    | _ => none
  | .buildSlice t n ps => match (C.ty t).k with
    | .slice g e => if 16777216 < n * sz g then none else (fillC (fun i => some (i * sz g, sz g)) (List.replicate (n * sz g) .u) (ps.toList.map fun (i, x) => (i, val C fr x))).bind fun cs =>
        let q := frzL st cs
        (TL.ofCells g n q.1).bind fun l => some (true, .sl q.2.L.length, new q.2 (.arr l e))
    | _ => none
  | .makeSlice t x y => match (C.ty t).k, val C fr x with
    | .slice g e, .i _ m => if sameInt x y = true then some (decide (0 ≤ m) && decide (m ≤ 16777216), .sl st.L.length, new st (.arr ⟨g, List.replicate m.toNat (dfl g)⟩ e)) else none
    | _, _ => none
  | .load t a => (loadAt C st t (val C fr a)).bind fun v => some (true, v, st)
  | .store t a x => (storeAt C st t (val C fr a) (valT C fr t x)).bind fun st' => some (true, .u, st')
  | .nilCheck x => match val C fr x with
    | .p o e off => some (true, .p o e off, st)
    | .pv t e off => some (true, .pv t e off, st)
    | .fn f c => some (true, .fn f c, st)
    | .yl l => some (true, .yl l, st)
    | _ => none
  | .binOp op t x y t' => (bin C t op (valT C fr t x) (valT C fr t' y)).bind fun (b, v) => some (b, v, st)
  | .unOp op _ x => match op, val C fr x with
    | .not, .b t => some (true, .b (!t), st)
    | .neg, .i k n => some (true, .i k (k.wrap (0 - n)), st)
    | .xor, .i k n => some (true, .i k (k.wrap (BitVec.ofInt k.bits (if k.signed then -1 else k.max) ^^^ BitVec.ofInt k.bits n).toNat), st)
    | _, _ => none
  | .convert src dst x => match (C.ty dst).k with
    | .int k => match val C fr x with
      | .i _ n => if tyKnown C src = true then some (true, .i k (k.wrap n), st) else none
      | _ => none
    | .str => match (C.ty src).k with
      | .slice .u8 e => match (C.ty e).k with
        | .int .u8 => match rdSl st (val C fr x) with
          | some m => if m.g = .u8 then some (true, .s (bytesTL m), st) else none
          | none => none
        | _ => none
      | _ => none
    | _ => none
  | .makeFunc (.func f) first caps => if first.size = 0 then some (true, .fn f (caps.toList.map (val C fr)), st) else none
  | .fieldAddr t x f => match (C.ty t).k with
    | .struct offs => match offs[f]?, val C fr x with
      | some (off, _), .p o e k => some (true, .p o e (k + off), st)
      | some (off, _), .pv l e k => some (true, .pv l e (k + off), st)
      | _, _ => none
    | _ => none
  | .indexAddr t x ix => match val C fr ix with
    | .i _ i => match (C.ty t).k with
      | .slice g _ => match val C fr x with
        | .sl o => match rdSl st (.sl o) with
          | some l => if l.g = g then some (decide (0 ≤ i) && decide (i < (l.len : Int)), .p o i.toNat 0, st) else none
          | none => none
        | .slv l => if l.g = g then some (decide (0 ≤ i) && decide (i < (l.len : Int)), .pv l i.toNat 0, st) else none
        | _ => none
      | .arr n g _ => match val C fr x with
        | .p o e0 k => match st.L.getD o .dead with
          | .arr l _ => if l.g = g ∧ e0 = 0 ∧ k = 0 ∧ l.len = n then some (decide (0 ≤ i) && decide (i < (n : Int)), .p o i.toNat 0, st) else some (decide (0 ≤ i) && decide (i < (n : Int)), .p o e0 (k + i.toNat * sz g), st)
          | .cells _ => some (decide (0 ≤ i) && decide (i < (n : Int)), .p o e0 (k + i.toNat * sz g), st)
          | _ => none
        | .pv l e0 k => some (decide (0 ≤ i) && decide (i < (n : Int)), .pv l e0 (k + i.toNat * sz g), st)
        | _ => none
      | _ => none
    | _ => none
  | .index t x ix => match val C fr ix with
    | .i _ i => match (C.ty t).k with
      | .str => match val C fr x with
        | .s s => some (decide (0 ≤ i) && decide (i < (s.size : Int)), i8 ((s.data.toList.getD i.toNat 0).toNat), st)
        | _ => none
      | .arr n g e => match val C fr x with
        | .av l => if l.g = g ∧ l.len = n ∧ tyKnown C e = true then some (decide (0 ≤ i) && decide (i < (n : Int)), (if isAgg C e then .ag (l.at_ i.toNat) else (l.at_ i.toNat).getD 0 .u), st) else none
        | _ => none
      | _ => none
    | _ => none
  | .slice t x lo hi none => match (C.ty t).k with
    | .slice g _ => match frz st (val C fr x) with
      | (v, st') => match rdSl st' v with
        | some l => if l.g = g then
            match (match lo with | none => some 0 | some y => match val C fr y with | .i _ n => some n | _ => none : Option Int), (match hi with | none => some (l.len : Int) | some y => match val C fr y with | .i _ n => some n | _ => none : Option Int) with
            | some a, some b => some (decide (0 ≤ a) && decide (a ≤ b) && decide (b ≤ (l.len : Int)), .slv ⟨l.g, (l.l.take b.toNat).drop a.toNat⟩, st')
            | _, _ => none
          else none
        | none => none
    | _ => none
  | .extract x n => match val C fr x with
    | .tu vs => if n < vs.length then some (true, vs.getD n .u, st) else none
    | _ => none
  | .call { callee := .builtin b, args, argTypes } => evBuiltin C fr st b args argTypes
  | _ => none
/-- The head of a loop: the slots that it needs; what was made within it is gone; slices that grow stand behind the old objects. -/
def firstRegion : Code → Nat
  | .region id _ _ => id
  | .seq a _ => firstRegion a
  | .block _ b => firstRegion b
  | .loop b => firstRegion b
  | .scope b => firstRegion b
  | _ => 0

structure Mv where
  st : St                    -- the store, as it was
  n0 : Nat
  moved : List (Nat × Nat)   -- from, to
  more : List (TL × Nat)     -- what stands behind the old objects
  ok : Bool

def capLt (n0 : Nat) : LV → Bool
  | .p o _ _ => decide (o < n0)
  | .mp o => decide (o < n0)
  | .i _ _ | .b _ | .s _ | .pnil | .fnil | .slv _ | .slnil _ => true
  | _ => false

def mvOne (m : Mv) (v : LV) : LV × Mv :=
  match v with
  | .sl o => match m.moved.lookup o with
    | some k => (.sl k, m)
    | none => match m.st.L.getD o .dead with
      | .arr t e => (.sl (m.n0 + m.more.length), { m with moved := (o, m.n0 + m.more.length) :: m.moved, more := m.more ++ [(t, e)] })
      | .ro t => (.slv t, m)
      | _ => (.u, m)
  | .slnil g => (.sl (m.n0 + m.more.length), { m with more := m.more ++ [(⟨g, []⟩, C.elemOf g)] })
  | .p o e off => if o < m.n0 then (.p o e off, m) else (.u, m)
  | .mp o => if o < m.n0 then (.mp o, m) else (.u, m)
  | .yl o => if o < m.n0 then (.yl o, m) else (.u, m)
  | .fn f caps => if caps.all (capLt m.n0) then (.fn f caps, m) else (.u, m)
  | .ag _ | .tu _ => (.u, m)
  | v => (v, m)

def mvList (m : Mv) : List LV → List LV × Mv
  | [] => ([], m)
  | v :: l => let r := mvOne C m v; let q := mvList r.2 l; (r.1 :: q.1, q.2)

/-- Slots k, k + 1, .. : those that are kept. -/
def mvSlots (keep : List Nat) (m : Mv) : Nat → List LV → List LV × Mv
  | _, [] => ([], m)
  | k, v :: l =>
    if keep.contains k then let r := mvOne C m v; let q := mvSlots keep r.2 (k + 1) l; (r.1 :: q.1, q.2)
    else let q := mvSlots keep m (k + 1) l; (.u :: q.1, q.2)

def mvObjs (m : Mv) : List LO → List LO × Mv
  | [] => ([], m)
  | .cells c :: l => let r := mvList C m c; let q := mvObjs r.2 l; (.cells r.1 :: q.1, q.2)
  | o :: l => let q := mvObjs m l; (o :: q.1, q.2)

def kill (moved : List (Nat × Nat)) (L : List LO) : List LO := moved.foldl (fun L p => L.set p.1 .dead) L

def lt1 (n0 : Nat) : LV → Bool
  | .p o _ _ | .sl o | .mp o | .yl o => decide (o < n0)
  | .fn .. | .ag _ | .tu _ => false
  | _ => true
def ltV (n0 : Nat) : LV → Bool
  | .ag cs => cs.all (lt1 n0)
  | .fn _ caps => caps.all (lt1 n0)
  | .tu [] => true
  | v => lt1 n0 v
def ltO (n0 : Nat) : LO → Bool
  | .loop fr _ _ _ _ _ _ => fr.all (ltV n0)
  | _ => true

def canon (keep : List Nat) (n0 : Nat) (fr : List LV) (st : St) : Option (List LV × St) :=
  let a := mvSlots C keep ⟨st, n0, [], [], true⟩ 0 fr
  let b := mvObjs C a.2 (st.L.take n0)
  if (st.L.take n0).all (ltO n0) = true then some (a.1, { st with L := kill b.2.moved b.1 ++ b.2.more.map fun p => .arr p.1 p.2 }) else none

def loopIt (body : List LV → St → Kont → Option Res) (can : List LV → St → Option (List LV × St)) : Nat → List LV → St → Kont → Option Res
  | 0, _, _, _ => none
  | n + 1, fr, st, K => match can fr st with
    | none => none
    | some q => body q.1 q.2 fun x fr' st' => match x with
      | .n => loopIt body can n fr' st' K
      | x => K x fr' st'

/-- What a function hands back: its results, own slices told behind them. -/
def outOne (st : St) (a : List (TL × Nat) × List Nat) : LV → LV × List (TL × Nat) × List Nat
  | .sl o => match st.L.getD o .dead with
    | .arr t e => if a.2.contains o then (.u, a) else (.sl a.1.length, a.1 ++ [(t, e)], o :: a.2)
    | .ro t => (.slv t, a)
    | _ => (.u, a)
  | .slnil g => (.sl a.1.length, a.1 ++ [(⟨g, []⟩, C.elemOf g)], a.2)
  | .p .. | .mp .. | .yl .. | .fn .. | .ag _ | .tu _ => (.u, a)
  | v => (v, a)
def outL (st : St) (a : List (TL × Nat) × List Nat) : List LV → List LV × List (TL × Nat) × List Nat
  | [] => ([], a)
  | v :: l => let r := outOne C st a v; let q := outL st r.2 l; (r.1 :: q.1, q.2)
def outV (st : St) (a : List (TL × Nat) × List Nat) : LV → LV × List (TL × Nat) × List Nat
  | .ag cs => let q := outL C st a cs; (.ag q.1, q.2)
  | v => outOne C st a v
def outVs (st : St) (a : List (TL × Nat) × List Nat) : List LV → List LV × List (TL × Nat) × List Nat
  | [] => ([], a)
  | v :: l => let r := outV C st a v; let q := outVs st r.2 l; (r.1 :: q.1, q.2)
def out2 (st : St) : LV → LV × List (TL × Nat) × List Nat
  | .tu vs => let q := outVs C st ([], []) vs; (.tu q.1, q.2)
  | v => outV C st ([], []) v
def out (st : St) (v : LV) : Res := let q := out2 C st v; (q.1, q.2.1)

/-- What a call handed back, in the caller's store. -/
def shOne (n : Nat) : LV → LV
  | .sl o => .sl (n + o)
  | v => v
def shV (n : Nat) : LV → LV
  | .ag cs => .ag (cs.map (shOne n))
  | v => shOne n v
def shift (n : Nat) : LV → LV
  | .tu vs => .tu (vs.map (shV n))
  | v => shV n v

/-- Values that speak of no object. -/
def clo1 : LV → Bool
  | .p .. | .sl _ | .mp _ | .yl _ | .fn .. | .ag _ | .tu _ => false
  | _ => true
def clo : LV → Bool
  | .ag cs => cs.all clo1
  | .fn _ caps => caps.all clo1
  | v => clo1 v

/-- No slice at all, as an empty one. -/
def nrm1 : LV → LV
  | .slnil g => .slv ⟨g, []⟩
  | v => v
def nrm : LV → LV
  | .ag cs => .ag (cs.map nrm1)
  | v => nrm1 v

/-- Values that speak of nothing that is kept elsewhere. -/
def flatTag : Tag → Bool
  | .prog | .tex | .draw => false
  | _ => true
def plain1 : LV → Bool
  | .b _ | .i .. | .s _ | .pnil | .fnil | .slnil _ | .sl _ => true
  | .av t => flatTag t.g
  | _ => false
def plainV : LV → Bool
  | .ag cs => cs.all plain1
  | v => plain1 v
def plain : LV → Bool
  | .tu vs => vs.all plainV
  | v => plainV v

def resVals (f : Func) (fr : List LV) (st : St) : Option LV :=
  match f.results.toList with
  | [.tmp t] => some (fr.getD t .u)
  | [.cell a t] => loadAt C st t (fr.getD a .u)
  | rs => (rs.mapM fun | ResultVar.tmp t => some (fr.getD t .u) | ResultVar.cell a t => loadAt C st t (fr.getD a .u)).bind fun vs => some (.tu vs)

/-- What an operation of a drawn region has seen and done. -/
structure Rec where
  ins : List Nat
  dst : Option Nat
  foot : List Nat
  tch : List Nat
  a : Nat
  b : Nat
  bef : Nat

inductive Task
  | code (c : Code)
  | ops (all rest : List Oper)
  | lp (b : Code)
  | dops (ops : Array Oper)
  | dop (all rest : List Oper) (rs : List Rec)
  | call (f : LV) (args : List LV)

def normArgs (ts : List Nat) (vs : List LV) : Option (List LV) :=
  match ts, vs with
  | t :: ts, v :: vs => (normT C t v).bind fun v => (normArgs ts vs).bind fun vs => some (v :: vs)
  | _, vs => some vs

abbrev Ev := Task → Nat → List LV → St → Kont → Option Res

/-- What is known of a slot once it has been asked. -/
def known (fr : List LV) (o : Operand) (t : Bool) : List LV := match o with | .tmp k => fr.set k (.b t) | _ => fr

def stepCode (E : Ev) (c : Code) (fid : Nat) (fr : List LV) (st : St) (K : Kont) : Option Res :=
  match c with
  | .skip | .label _ => K .n fr st
  | .ret => K .r fr st
  | .exit id => K (.e id) fr st
  | .seq a b => E (.code a) fid fr st fun x fr st => match x with
    | .n => E (.code b) fid fr st K
    | x => K x fr st
  | .cond c a b => match C.it fid (.cond c a b) fr st with
    | some g => g K
    | none => match val C fr c with
      | .b t => bif t then E (.code a) fid (known fr c true) st K else E (.code b) fid (known fr c false) st K
      | _ => none
  | .block id b => E (.code b) fid fr st fun x fr st => match x with
    | .e j => if j = id then K .n fr st else K (.e j) fr st
    | x => K x fr st
  | .scope b => E (.code b) fid fr st K
  | .region _ ops draw => bif draw then E (.dops ops) fid fr st K else E (.ops ops.toList ops.toList) fid fr st K
  | .loop b => match C.it fid (.loop b) fr st with
   | some g => g K
   | none => match C.keep fid (firstRegion b) with
    | some keep => if st.lo ≠ 0 then none else loopIt (fun fr st K => E (.code b) fid fr st K) (canon C keep st.L.length) C.N fr st K
    | none => E (.lp b) fid fr st K
  | .rangeFunc f params assign body => match C.it fid (.rangeFunc f params assign body) fr st with
   | some g => g K
   | none =>
    if st.L.length < st.lo then none else
    E (.call (val C fr f) [.yl st.L.length]) fid fr (new st (.loop fr params.toList assign body fid none .ready)) fun x fr' st1 => match x with
      | .v _ => match st1.L.getD st.L.length .dead with
        | .loop _ _ _ _ _ pend state =>
          if state = .busy then none else
          match pend with
          | none => K .n fr { st1 with L := st1.L.set st.L.length .dead }
          | some j => E (.code j) fid fr { st1 with L := st1.L.set st.L.length .dead } K
        | _ => none
      | _ => none
  | _ => none

def runOp (E : Ev) (all rest : List Oper) (o : Oper) (fid : Nat) (fr : List LV) (st : St) (K : Kont) : Option Res :=
  match o.op with
  | .call { callee := .value f, args, argTypes } =>
    if args.size ≠ argTypes.size then none else
    E (.call (val C fr f) ((args.toList.zip argTypes.toList).map fun (x, t) => valT C fr t x)) fid fr st fun x fr' st' => match x with
      | .v r => E (.ops all rest) fid (put fr o.dst r) st' K
      | _ => none
  | _ => match evOp C fr st o with
    | none => none
    | some (side, v, st') => bif side then E (.ops all rest) fid (put fr o.dst v) st' K else none

def skipOp (E : Ev) (all rest : List Oper) (o : Oper) (fid : Nat) (fr : List LV) (st : St) (K : Kont) : Option Res :=
  E (.ops all rest) fid (put fr o.dst (.tu [])) st K

def stepOps (E : Ev) (all rest : List Oper) (o : Oper) (fid : Nat) (fr : List LV) (st : St) (K : Kont) : Option Res :=
  match o.guard with
  | none => runOp C E all rest o fid fr st K
  | some (j, want) => match (all[j]?).bind (·.dst) with
    | none => none
    | some d => match fr.getD d .u with
      | .b t => bif t then (bif want then runOp C E all rest o fid (fr.set d (.b true)) st K else skipOp E all rest o fid (fr.set d (.b true)) st K)
          else (bif want then skipOp E all rest o fid (fr.set d (.b false)) st K else runOp C E all rest o fid (fr.set d (.b false)) st K)
      | .tu [] => skipOp E all rest o fid fr st K
      | _ => none

/-! Regions that are run in any order. -/
def refs1 : LV → List Nat
  | .p o _ _ | .sl o | .mp o | .yl o => [o]
  | _ => []
def refs : LV → List Nat
  | .ag cs => cs.flatMap refs1
  | .fn _ caps => caps.flatMap refs1
  | v => refs1 v
def refsO : LO → List Nat
  | .cells c => c.flatMap refs
  | .loop fr _ _ _ _ _ _ => fr.flatMap refs
  | _ => []
def reach (st : St) : Nat → List Nat → List Nat → List Nat
  | 0, _, seen => seen
  | _ + 1, [], seen => seen
  | n + 1, o :: todo, seen => bif seen.contains o then reach st n todo seen else reach st n (refsO (st.L.getD o .dead) ++ todo) (o :: seen)

def opSlots (all : List Oper) (o : Oper) : List Nat :=
  (o.op.operands.toList.filterMap fun | .tmp t => some t | _ => none) ++ (match o.guard with
    | some (j, _) => ((all[j]?).bind (·.dst)).toList
    | none => [])

def maskF (ins : List Nat) : Nat → List LV → List LV
  | _, [] => []
  | k, v :: l => (bif ins.contains k then v else .u) :: maskF ins (k + 1) l
def maskL (foot : List Nat) : Nat → List LO → List LO
  | _, [] => []
  | k, v :: l => (bif foot.contains k then v else .dead) :: maskL foot (k + 1) l
def mergeL (tch : List Nat) : Nat → List LO → List LO → List LO
  | k, x :: l, y :: m => (bif tch.contains k then y else x) :: mergeL tch (k + 1) l m
  | _, [], m => m
  | _, l, [] => l

/-- Operations that leave the store alone. -/
def isPL : Op → Bool
  | .move _ | .pick .. | .assign _ | .build .. | .load .. | .nilCheck _ | .binOp .. | .unOp .. | .convert .. | .makeFunc .. | .fieldAddr .. | .field .. | .indexAddr .. | .index .. | .extract .. => true
  | .call { callee := .builtin b, args := _, argTypes := _ } => match b with | .len | .min | .max => true | _ => false
  | _ => false
def usesSt : Op → Bool
  | .load .. | .indexAddr .. | .store .. | .slice .. | .buildSlice .. | .convert .. | .call _ => true
  | _ => false

def befOf (rs : List Rec) (o : Oper) : Nat :=
  o.after.foldl (fun s e => if Region.binds .any e then s ||| 2 ^ e.on ||| ((rs[e.on]?).map (·.bef)).getD 0 else s) 0

def apartR (x y : Rec) : Bool :=
  (x.tch.all fun o => !y.foot.contains o) && (y.tch.all fun o => !x.foot.contains o) && (y.foot.all fun o => !(decide (x.a ≤ o) && decide (o < x.b))) &&
  (match x.dst with | some d => !y.ins.contains d && (match y.dst with | some d' => !(d == d') | none => true) | none => true) &&
  (match y.dst with | some d => !x.ins.contains d | none => true)
/-- What is not in order keeps apart. -/
def chkR : Nat → List Rec → Rec → Bool
  | _, [], _ => true
  | i, x :: rs, y => (Nat.testBit y.bef i || apartR x y) && chkR (i + 1) rs y

def sameO : LO → LO → Bool
  | .arr .., .arr .. | .ro _, .ro _ | .cells _, .cells _ | .dead, .dead | .loop .., .loop .. => true
  | _, _ => false
def ltOb (n0 : Nat) : LO → Bool
  | .cells c => c.all (ltV n0)
  | .loop fr _ _ _ _ _ _ => fr.all (ltV n0)
  | _ => true

def doneOp (E : Ev) (all rest : List Oper) (rs : List Rec) (r : Rec) (fid : Nat) (fr : List LV) (st : St) (K : Kont) : Option Res :=
  bif chkR 0 rs r && decide (r.a ≤ r.b) then E (.dop all rest (rs ++ [r])) fid fr st K else none

def isPureV : LV → Bool
  | .fn k _ => C.pure_ k
  | _ => false

def runDop (E : Ev) (all rest : List Oper) (rs : List Rec) (o : Oper) (ins : List Nat) (fid : Nat) (fr : List LV) (st : St) (K : Kont) : Option Res :=
  let frm := maskF ins 0 fr
  let a := st.L.length
  let vs := ins.map fun s => fr.getD s .u
  bif vs.all (ltV a) then
    match o.op with
    | .call { callee := .value f, args, argTypes } =>
      if args.size ≠ argTypes.size then none else
      let pu := isPureV C (val C frm f)
      let foot := bif pu then vs.flatMap refs else reach st 200 (vs.flatMap refs) []
      bif foot.all fun o => decide (o < a) && ltOb a (st.L.getD o .dead) then
        let stm : St := ⟨maskL foot 0 st.L, bif pu then a else st.lo⟩
        E (.call (val C frm f) ((args.toList.zip argTypes.toList).map fun (x, t) => valT C frm t x)) fid fr stm fun x _ st1 => match x with
          | .v v =>
            let tch := bif pu then foot.filter (fun o => !sameO (stm.L.getD o .dead) (st1.L.getD o .dead)) else foot
            doneOp E all rest rs ⟨ins, o.dst, foot, tch, a, st1.L.length, befOf rs o⟩ fid (put fr o.dst v) ⟨mergeL tch 0 st.L st1.L, st.lo⟩ K
          | _ => none
      else none
    | _ =>
      let foot := bif usesSt o.op then vs.flatMap refs else []
      bif foot.all fun o => decide (o < a) && ltOb a (st.L.getD o .dead) then
        let stm : St := ⟨maskL foot 0 st.L, st.lo⟩
        match evOp C frm stm o with
        | none => none
        | some (side, v, st1) => bif side then
            bif isPL o.op then doneOp E all rest rs ⟨ins, o.dst, foot, [], a, a, befOf rs o⟩ fid (put fr o.dst v) st K
            else doneOp E all rest rs ⟨ins, o.dst, foot, foot, a, st1.L.length, befOf rs o⟩ fid (put fr o.dst v) ⟨mergeL foot 0 st.L st1.L, st.lo⟩ K
          else none
      else none
  else none

def skipDop (E : Ev) (all rest : List Oper) (rs : List Rec) (o : Oper) (ins : List Nat) (fid : Nat) (fr : List LV) (st : St) (K : Kont) : Option Res :=
  doneOp E all rest rs ⟨ins, o.dst, [], [], st.L.length, st.L.length, befOf rs o⟩ fid (put fr o.dst (.tu [])) st K

def stepDop (E : Ev) (all rest : List Oper) (rs : List Rec) (o : Oper) (fid : Nat) (fr : List LV) (st : St) (K : Kont) : Option Res :=
  let ins := opSlots all o
  if (decide (st.L.length < st.lo) || !(o.after.all fun e => !Region.binds .any e || decide (e.on < rs.length))) = true then none else
  match o.guard with
  | none => runDop C E all rest rs o ins fid fr st K
  | some (j, want) => match (all[j]?).bind (·.dst) with
    | none => none
    | some d => match fr.getD d .u with
      | .b t => bif t then (bif want then runDop C E all rest rs o ins fid (fr.set d (.b true)) st K else skipDop E all rest rs o [d] fid (fr.set d (.b true)) st K)
          else (bif want then skipDop E all rest rs o [d] fid (fr.set d (.b false)) st K else runDop C E all rest rs o ins fid (fr.set d (.b false)) st K)
      | .tu [] => skipDop E all rest rs o [d] fid fr st K
      | _ => none

def stepCall (E : Ev) (fv : LV) (args : List LV) (fid : Nat) (fr : List LV) (st : St) (K : Kont) : Option Res :=
  match fv with
  | .fn k caps => match C.prim k (args ++ caps) with
    | some v => K (.v v) fr st
    | none => match C.fn k with
      | none => none
      | some f => match f.body with
        | none => none
        | some body =>
          (normArgs C f.params.toList (args ++ caps)).bind fun vals =>
          bif C.pure_ k then
            let q := frzVs st vals
            if q.1.all clo = false then none else
            let fin : Res → Option Res := fun (v, ts) =>
              let st' := if (plain v && ts.all fun p => flatTag p.1.g) = true then st else q.2
              K (.v (shift st'.L.length v)) fr { st' with L := st'.L ++ ts.map fun p => .arr p.1 p.2 }
            match C.spec k (q.1.map nrm) with
            | some c => c fin
            | none => (E (.code body) k (q.1 ++ List.replicate (f.ntmps - q.1.length) .u) ⟨[], 0⟩ fun x fr1 st1 => match x with
              | .r | .n => (resVals C f fr1 st1).bind fun v => some (out C st1 v)
              | _ => none).bind fin
          else
            E (.code body) k (vals ++ List.replicate (f.ntmps - vals.length) .u) st fun x fr1 st1 => match x with
              | .r | .n => (resVals C f fr1 st1).bind fun v => K (.v v) fr st1
              | _ => none
  | .yl l => match st.L.getD l .dead with
    | .loop fr0 params assign body fid0 none .ready =>
      if l < st.lo then none else
      if params.length ≠ args.length then none else
      E (.code assign) fid0 ((params.zip args).foldl (fun fr p => fr.set p.1 p.2) fr0) st fun x fr1 st1 => match x with
        | .n => match st1.L.getD l .dead with
          | .loop _ _ _ _ _ none .ready => E (.code body) fid0 fr1 { st1 with L := st1.L.set l (.loop fr0 params assign body fid0 none .busy) } fun x _ st2 => match x with
            | .n => K (.v (.b true)) fr { st2 with L := st2.L.set l (.loop fr0 params assign body fid0 none .ready) }
            | .e id => K (.v (.b false)) fr { st2 with L := st2.L.set l (.loop fr0 params assign body fid0 (some (.exit id)) .done) }
            | .r => K (.v (.b false)) fr { st2 with L := st2.L.set l (.loop fr0 params assign body fid0 (some .ret) .done) }
            | _ => none
          | _ => none
        | _ => none
    | _ => none
  | _ => none

def ev : Nat → Ev
  | 0, _, _, _, _, _ => none
  | g + 1, t, fid, fr, st, K => match t with
    | .code c => stepCode C (ev g) c fid fr st K
    | .lp b => ev g (.code b) fid fr st fun x fr st => match x with
      | .n => ev g (.lp b) fid fr st K
      | x => K x fr st
    | .dops ops => ev g (.dop ops.toList ops.toList []) fid fr st K
    | .dop all rest rs => match rest with
      | [] => K .n fr st
      | o :: rest => stepDop C (ev g) all rest rs o fid fr st K
    | .ops all rest => match rest with
      | [] => K .n fr st
      | o :: rest => stepOps C (ev g) all rest o fid fr st K
    | .call fv args => stepCall C (ev g) fv args fid fr st K

/-- A function by itself. -/
def evFun (g k : Nat) (args : List LV) : Option Res :=
  match C.fn k with
  | none => none
  | some f => match f.body with
    | none => none
    | some body => ev C g (.code body) k (args ++ List.replicate (f.ntmps - args.length) .u) ⟨[], 0⟩ fun x fr1 st1 => match x with
      | .r | .n => (resVals C f fr1 st1).bind fun v => some (out C st1 v)
      | _ => none
end
end Gz
