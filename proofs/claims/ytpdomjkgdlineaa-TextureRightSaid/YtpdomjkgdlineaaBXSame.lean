/- Codes that are the same. -/
import Derived.Test.YtpdomjkgdlineaaBXFun
set_option linter.unusedVariables false
set_option linter.unusedSimpArgs false
set_option linter.unnecessarySimpa false
set_option linter.deprecated false
namespace Gz
open Go

class Same (α : Type) where
  s : α → α → Bool
  ok : ∀ {a b : α}, s a b = true → a = b

section
variable {α β γ δ ε ζ η : Type} [Same α] [Same β] [Same γ] [Same δ] [Same ε] [Same ζ]
theorem and_b {a b : Bool} (h : (a && b) = true) : a = true ∧ b = true := by simpa using h
theorem c1 (f : α → η) {a a' : α} (h : Same.s a a' = true) : f a = f a' := by rw [Same.ok h]
theorem c2 (f : α → β → η) {a a' : α} {b b' : β} (h : (Same.s a a' && Same.s b b') = true) : f a b = f a' b' := by rw [Same.ok (and_b h).1, Same.ok (and_b h).2]
theorem c3 (f : α → β → γ → η) {a a' : α} {b b' : β} {c c' : γ} (h : (Same.s a a' && (Same.s b b' && Same.s c c')) = true) : f a b c = f a' b' c' := by
  rw [Same.ok (and_b h).1]; exact c2 (f a') (and_b h).2
theorem c4 (f : α → β → γ → δ → η) {a a' : α} {b b' : β} {c c' : γ} {d d' : δ} (h : (Same.s a a' && (Same.s b b' && (Same.s c c' && Same.s d d'))) = true) : f a b c d = f a' b' c' d' := by
  rw [Same.ok (and_b h).1]; exact c3 (f a') (and_b h).2
theorem c5 (f : α → β → γ → δ → ε → η) {a a' : α} {b b' : β} {c c' : γ} {d d' : δ} {e e' : ε} (h : (Same.s a a' && (Same.s b b' && (Same.s c c' && (Same.s d d' && Same.s e e')))) = true) : f a b c d e = f a' b' c' d' e' := by
  rw [Same.ok (and_b h).1]; exact c4 (f a') (and_b h).2
theorem c6 (f : α → β → γ → δ → ε → ζ → η) {a a' : α} {b b' : β} {c c' : γ} {d d' : δ} {e e' : ε} {x x' : ζ} (h : (Same.s a a' && (Same.s b b' && (Same.s c c' && (Same.s d d' && (Same.s e e' && Same.s x x'))))) = true) : f a b c d e x = f a' b' c' d' e' x' := by
  rw [Same.ok (and_b h).1]; exact c5 (f a') (and_b h).2
end

instance : Same Nat := ⟨Nat.beq, fun h => Nat.eq_of_beq_eq_true h⟩
def sameBool : Bool → Bool → Bool
  | true, true => true
  | false, false => true
  | _, _ => false
instance : Same Bool := ⟨sameBool, fun {a b} h => by cases a <;> cases b <;> simp_all [sameBool]⟩
instance : Same Int := ⟨fun a b => decide (a = b), fun h => by simpa using h⟩
instance : Same String := ⟨fun a b => decide (a = b), fun h => by simpa using h⟩
instance : Same IntKind := ⟨fun a b => decide (a = b), fun h => by simpa using h⟩
instance : Same BinOp := ⟨fun a b => decide (a = b), fun h => by simpa using h⟩
instance : Same UnOp := ⟨fun a b => decide (a = b), fun h => by simpa using h⟩
instance : Same Builtin := ⟨fun a b => decide (a = b), fun h => by simpa using h⟩
instance : Same Fn := ⟨fun a b => decide (a = b), fun h => by simpa using h⟩
instance : Same Ground := ⟨fun a b => decide (a = b), fun h => by simpa using h⟩
instance : Same UInt8 := ⟨fun a b => Nat.beq a.toNat b.toNat, fun h => UInt8.toNat_inj.1 (Nat.eq_of_beq_eq_true h)⟩

section
variable {α β : Type} [Same α] [Same β]
def sameL : List α → List α → Bool
  | [], [] => true
  | a :: l, b :: m => Same.s a b && sameL l m
  | _, _ => false
theorem sameL_ok : ∀ {l m : List α}, sameL l m = true → l = m
  | [], [], _ => rfl
  | [], _ :: _, h => by simp [sameL] at h
  | _ :: _, [], h => by simp [sameL] at h
  | a :: l, b :: m, h => by
    have h := and_b h
    rw [Same.ok h.1, sameL_ok h.2]
instance : Same (List α) := ⟨sameL, sameL_ok⟩
instance : Same (Array α) := ⟨fun a b => sameL a.toList b.toList, fun {a b} h => by have := sameL_ok h; cases a; cases b; simp_all⟩
def sameOpt : Option α → Option α → Bool
  | none, none => true
  | some a, some b => Same.s a b
  | _, _ => false
instance : Same (Option α) := ⟨sameOpt, fun {a b} h => by
  cases a <;> cases b <;> simp only [sameOpt, Bool.false_eq_true] at h
  · rfl
  · rw [Same.ok h]⟩
instance : Same (α × β) := ⟨fun a b => Same.s a.1 b.1 && Same.s a.2 b.2, fun {a b} h => by
  obtain ⟨a1, a2⟩ := a; obtain ⟨b1, b2⟩ := b
  exact c2 Prod.mk h⟩
end

def sameVal : Value → Value → Bool
  | .bool a, .bool b => Same.s a b
  | .int k n, .int k' n' => Same.s k k' && Same.s n n'
  | .string a, .string b => Same.s a.data b.data
  | .pointer none, .pointer none => true
  | .slice none a b, .slice none a' b' => Same.s a a' && Same.s b b'
  | .nilFunc, .nilFunc => true
  | .nilIface, .nilIface => true
  | .map none, .map none => true
  | _, _ => false
theorem sameVal_ok {a b : Value} (h : sameVal a b = true) : a = b := by
  unfold sameVal at h
  split at h
  · exact c1 _ h
  · exact c2 _ h
  · rename_i a b
    have := Same.ok h
    cases a; cases b; simp_all
  · rfl
  · exact c2 _ h
  · rfl
  · rfl
  · rfl
  · cases h
instance : Same Value := ⟨sameVal, sameVal_ok⟩

def sameOpd : Operand → Operand → Bool
  | .tmp a, .tmp b => Same.s a b
  | .const a, .const b => Same.s a b
  | .global a, .global b => Same.s a b
  | .func a, .func b => Same.s (α := Nat) a b
  | _, _ => false
theorem sameOpd_ok {a b : Operand} (h : sameOpd a b = true) : a = b := by
  unfold sameOpd at h
  split at h
  · exact c1 _ h
  · exact c1 _ h
  · exact c1 _ h
  · exact c1 (α := Nat) Operand.func h
  · cases h
instance : Same Operand := ⟨sameOpd, sameOpd_ok⟩

def sameCallee : Callee → Callee → Bool
  | .value a, .value b => Same.s a b
  | .builtin a, .builtin b => Same.s a b
  | _, _ => false
theorem sameCallee_ok {a b : Callee} (h : sameCallee a b = true) : a = b := by
  unfold sameCallee at h
  split at h
  · exact c1 _ h
  · exact c1 _ h
  · cases h
instance : Same Callee := ⟨sameCallee, sameCallee_ok⟩
instance : Same Call := ⟨fun a b => Same.s a.callee b.callee && (Same.s a.args b.args && Same.s (α := Array Nat) a.argTypes b.argTypes), fun {a b} h => by
  obtain ⟨a1, a2, a3⟩ := a; obtain ⟨b1, b2, b3⟩ := b
  exact c3 (γ := Array Nat) Call.mk h⟩
instance : Same Edge := ⟨fun a b => Same.s a.on b.on && Same.s a.ground b.ground, fun {a b} h => by
  obtain ⟨a1, a2⟩ := a; obtain ⟨b1, b2⟩ := b
  exact c2 Edge.mk h⟩

def sameOpc : Op → Op → Bool
  | .move x, .move x' => Same.s x x'
  | .assign x, .assign x' => Same.s x x'
  | .pick c a b, .pick c' a' b' => Same.s c c' && (Same.s a a' && Same.s b b')
  | .alloc t, .alloc t' => Same.s (α := Nat) t t'
  | .box t x, .box t' x' => Same.s (α := Nat) t t' && Same.s x x'
  | .build t x, .build t' x' => Same.s (α := Nat) t t' && Same.s x x'
  | .buildSlice t n x, .buildSlice t' n' x' => Same.s (α := Nat) t t' && (Same.s n n' && Same.s x x')
  | .load t x, .load t' x' => Same.s (α := Nat) t t' && Same.s x x'
  | .store t x y, .store t' x' y' => Same.s (α := Nat) t t' && (Same.s x x' && Same.s y y')
  | .nilCheck x, .nilCheck x' => Same.s x x'
  | .binOp o t x y u, .binOp o' t' x' y' u' => Same.s o o' && (Same.s (α := Nat) t t' && (Same.s x x' && (Same.s y y' && Same.s (α := Nat) u u')))
  | .unOp o t x, .unOp o' t' x' => Same.s o o' && (Same.s (α := Nat) t t' && Same.s x x')
  | .convert t u x, .convert t' u' x' => Same.s (α := Nat) t t' && (Same.s (α := Nat) u u' && Same.s x x')
  | .makeFunc f a b, .makeFunc f' a' b' => Same.s f f' && (Same.s a a' && Same.s b b')
  | .makeMap t x, .makeMap t' x' => Same.s (α := Nat) t t' && Same.s x x'
  | .makeSlice t x y, .makeSlice t' x' y' => Same.s (α := Nat) t t' && (Same.s x x' && Same.s y y')
  | .slice t x a b c, .slice t' x' a' b' c' => Same.s (α := Nat) t t' && (Same.s x x' && (Same.s a a' && (Same.s b b' && Same.s c c')))
  | .fieldAddr t x n, .fieldAddr t' x' n' => Same.s (α := Nat) t t' && (Same.s x x' && Same.s n n')
  | .field t x n, .field t' x' n' => Same.s (α := Nat) t t' && (Same.s x x' && Same.s n n')
  | .indexAddr t x y, .indexAddr t' x' y' => Same.s (α := Nat) t t' && (Same.s x x' && Same.s y y')
  | .index t x y, .index t' x' y' => Same.s (α := Nat) t t' && (Same.s x x' && Same.s y y')
  | .lookup t x y b, .lookup t' x' y' b' => Same.s (α := Nat) t t' && (Same.s x x' && (Same.s y y' && Same.s b b'))
  | .mapUpdate t x y z, .mapUpdate t' x' y' z' => Same.s (α := Nat) t t' && (Same.s x x' && (Same.s y y' && Same.s z z'))
  | .insert t x y z, .insert t' x' y' z' => Same.s (α := Nat) t t' && (Same.s x x' && (Same.s y y' && Same.s z z'))
  | .mapEntry t x y, .mapEntry t' x' y' => Same.s (α := Nat) t t' && (Same.s x x' && Same.s y y')
  | .entryStore t x y z, .entryStore t' x' y' z' => Same.s (α := Nat) t t' && (Same.s x x' && (Same.s y y' && Same.s z z'))
  | .range t x, .range t' x' => Same.s (α := Nat) t t' && Same.s x x'
  | .next x b, .next x' b' => Same.s x x' && Same.s b b'
  | .entry x, .entry x' => Same.s x x'
  | .extract x n, .extract x' n' => Same.s x x' && Same.s n n'
  | .call c, .call c' => Same.s c c'
  | .panic x, .panic x' => Same.s x x'
  | .makeInterface t x, .makeInterface t' x' => Same.s (α := Nat) t t' && Same.s x x'
  | _, _ => false
theorem sameOpc_ok {a b : Op} (h : sameOpc a b = true) : a = b := by
  unfold sameOpc at h
  split at h
  · exact c1 Op.move h
  · exact c1 Op.assign h
  · exact c3 Op.pick h
  · exact c1 (α := Nat) Op.alloc h
  · exact c2 (α := Nat) Op.box h
  · exact c2 (α := Nat) Op.build h
  · exact c3 (α := Nat) Op.buildSlice h
  · exact c2 (α := Nat) Op.load h
  · exact c3 (α := Nat) Op.store h
  · exact c1 Op.nilCheck h
  · exact c5 (β := Nat) (ε := Nat) Op.binOp h
  · exact c3 (β := Nat) Op.unOp h
  · exact c3 (α := Nat) (β := Nat) Op.convert h
  · exact c3 Op.makeFunc h
  · exact c2 (α := Nat) Op.makeMap h
  · exact c3 (α := Nat) Op.makeSlice h
  · exact c5 (α := Nat) Op.slice h
  · exact c3 (α := Nat) Op.fieldAddr h
  · exact c3 (α := Nat) Op.field h
  · exact c3 (α := Nat) Op.indexAddr h
  · exact c3 (α := Nat) Op.index h
  · exact c4 (α := Nat) Op.lookup h
  · exact c4 (α := Nat) Op.mapUpdate h
  · exact c4 (α := Nat) Op.insert h
  · exact c3 (α := Nat) Op.mapEntry h
  · exact c4 (α := Nat) Op.entryStore h
  · exact c2 (α := Nat) Op.range h
  · exact c2 Op.next h
  · exact c1 Op.entry h
  · exact c2 Op.extract h
  · exact c1 Op.call h
  · exact c1 Op.panic h
  · exact c2 (α := Nat) Op.makeInterface h
  · cases h
instance : Same Op := ⟨sameOpc, sameOpc_ok⟩
instance : Same Oper := ⟨fun a b => Same.s (α := Option Nat) a.dst b.dst && (Same.s a.op b.op && (Same.s (α := Nat) a.type b.type && (Same.s a.pos b.pos && (Same.s a.after b.after && Same.s a.guard b.guard)))), fun {a b} h => by
  obtain ⟨a1, a2, a3, a4, a5, a6⟩ := a; obtain ⟨b1, b2, b3, b4, b5, b6⟩ := b
  exact c6 (α := Option Nat) (γ := Nat) Oper.mk h⟩

def sameCode : Code → Code → Bool
  | .skip, .skip => true
  | .ret, .ret => true
  | .region i o d, .region i' o' d' => Same.s i i' && (Same.s o o' && Same.s d d')
  | .seq a b, .seq a' b' => sameCode a a' && sameCode b b'
  | .cond c a b, .cond c' a' b' => Same.s c c' && (sameCode a a' && sameCode b b')
  | .block i b, .block i' b' => Same.s i i' && sameCode b b'
  | .loop b, .loop b' => sameCode b b'
  | .rangeFunc f p a b, .rangeFunc f' p' a' b' => Same.s f f' && (Same.s (α := Array Nat) p p' && (sameCode a a' && sameCode b b'))
  | .exit i, .exit i' => Same.s i i'
  | .scope b, .scope b' => sameCode b b'
  | .label l, .label l' => Same.s l l'
  | _, _ => false
theorem sameCode_ok : ∀ {a b : Code}, sameCode a b = true → a = b := by
  intro a
  induction a with
  | skip => intro b h; cases b <;> simp_all [sameCode]
  | ret => intro b h; cases b <;> simp_all [sameCode]
  | region i o d => intro b h; cases b <;> simp only [sameCode, Bool.false_eq_true] at h; exact c3 Code.region h
  | seq x y hx hy =>
    intro b h; cases b <;> simp only [sameCode, Bool.false_eq_true] at h
    rw [hx (and_b h).1, hy (and_b h).2]
  | cond c x y hx hy =>
    intro b h; cases b <;> simp only [sameCode, Bool.false_eq_true] at h
    rw [Same.ok (and_b h).1, hx (and_b (and_b h).2).1, hy (and_b (and_b h).2).2]
  | block i x hx =>
    intro b h; cases b <;> simp only [sameCode, Bool.false_eq_true] at h
    rw [Same.ok (and_b h).1, hx (and_b h).2]
  | loop x hx =>
    intro b h; cases b <;> simp only [sameCode, Bool.false_eq_true] at h
    rw [hx h]
  | rangeFunc f p x y hx hy =>
    intro b h; cases b <;> simp only [sameCode, Bool.false_eq_true] at h
    rw [Same.ok (and_b h).1, Same.ok (α := Array Nat) (and_b (and_b h).2).1, hx (and_b (and_b (and_b h).2).2).1, hy (and_b (and_b (and_b h).2).2).2]
  | exit i => intro b h; cases b <;> simp only [sameCode, Bool.false_eq_true] at h; exact c1 Code.exit h
  | scope x hx =>
    intro b h; cases b <;> simp only [sameCode, Bool.false_eq_true] at h
    rw [hx h]
  | label l => intro b h; cases b <;> simp only [sameCode, Bool.false_eq_true] at h; exact c1 Code.label h
  | _ => intro b h; simp [sameCode] at h
instance : Same Code := ⟨sameCode, sameCode_ok⟩
end Gz
