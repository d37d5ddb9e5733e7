/- The words of what is printed, as numbers and lists. -/
import Derived.Test.YtpdomjkgdlineaaBXOpen
import Derived.Laws.Strings
set_option linter.unusedVariables false
set_option linter.unusedSimpArgs false
set_option linter.unnecessarySimpa false
set_option linter.deprecated false
namespace Gz
open Go

theorem cond_t {α : Type} {c : Bool} {a b : α} (h : c = true) : cond c a b = a := by rw [h]; rfl
theorem cond_f {α : Type} {c : Bool} {a b : α} (h : c = false) : cond c a b = b := by rw [h]; rfl

theorem cd_t {α : Type} {p : Prop} [Decidable p] {a b : α} (h : p) : cond (decide p) a b = a := by rw [decide_eq_true h]; rfl
theorem cd_f {α : Type} {p : Prop} [Decidable p] {a b : α} (h : ¬ p) : cond (decide p) a b = b := by rw [decide_eq_false h]; rfl

theorem wi64xdef (n : Int) : wi64 n = if n % 18446744073709551616 ≥ 9223372036854775808 then n % 18446744073709551616 - 18446744073709551616 else n % 18446744073709551616 := by
  simp [wi64, IntKind.wrap, IntKind.bits, IntKind.signed]
theorem wu64xdef (n : Int) : wu64 n = n % 18446744073709551616 := by
  simp [wu64, IntKind.wrap, IntKind.bits, IntKind.signed]
theorem wu8xdef (n : Int) : wu8 n = n % 256 := by
  simp [wu8, IntKind.wrap, IntKind.bits, IntKind.signed]
theorem wi64xid {n : Int} (h : -9223372036854775808 ≤ n) (h' : n ≤ 9223372036854775807) : wi64 n = n := by
  rw [wi64xdef]; split <;> omega
theorem wu64xid {n : Int} (h : 0 ≤ n) (h' : n ≤ 18446744073709551615) : wu64 n = n := by
  rw [wu64xdef]; omega
theorem wu8xid {n : Int} (h : 0 ≤ n) (h' : n ≤ 255) : wu8 n = n := by
  rw [wu8xdef]; omega

theorem ln_def {α : Type} (l : List α) : ln l = (l.length : Int) := rfl
theorem room_t {α : Type} {l m : List α} (h : l.length + m.length < 1073741824) : room l m = true := by simp [room, maxList, h]
theorem room1xt {α : Type} {m : List α} (h : m.length < 1073741824) : room1 m = true := by simp [room1, maxList, h]
theorem inb_t {α : Type} {i : Int} {l : List α} (h : 0 ≤ i) (h' : i < l.length) : inb i l = true := by simp [inb, h, h']
theorem inb_n {α : Type} {i : Nat} {l : List α} (h : i < l.length) : inb (i : Int) l = true := inb_t (by omega) (by omega)
theorem inn_t {i : Int} {n : Nat} (h : 0 ≤ i) (h' : i < n) : inn i n = true := by simp [inn, h, h']
theorem insl_t {α : Type} {a b : Int} {l : List α} (h : 0 ≤ a) (h' : a ≤ b) (h2 : b ≤ l.length) : insl a b l = true := by simp [insl, h, h', h2]
theorem insE_t {α : Type} {a : Int} {l : List α} (h : 0 ≤ a) (h' : a ≤ l.length) : insE a l = true := insl_t h h' (Int.le_refl _)
theorem inS_t {i : Int} {s : ByteArray} (h : 0 ≤ i) (h' : i < s.size) : inS i s = true := by simp [inS, h, h']
theorem rd_n {g : Tag} {l : List (El g)} (i : Nat) (h : i < l.length) : rd g l (i : Int) = l[i] := by
  simp [rd, List.getD, List.getElem?_eq_getElem h]
theorem subL_0 {α : Type} (l : List α) (n : Nat) : subL l 0 (n : Int) = l.take n := by simp [subL]
theorem subE_n {α : Type} (l : List α) (n : Nat) : subE l (n : Int) = l.drop n := by simp [subE, subL]
theorem mn_def (x y : Int) : mn x y = min x y := by unfold mn; split <;> omega
theorem mx_def (x y : Int) : mx x y = max x y := by unfold mx; split <;> omega

/-- Bytes as a string tell the bytes. -/
def okB (l : List Int) : Prop := ∀ x ∈ l, 0 ≤ x ∧ x ≤ 255
theorem seqS_bytes {a b : List Int} (ha : okB a) (hb : okB b) : seqS (bytesOf a) (bytesOf b) = decide (a = b) := by
  have h1 : ∀ l : List Int, (bytesOf l).toList = l.map fun n => UInt8.ofNat n.toNat := fun l => by
    rw [ByteArray.toList_eq]; simp [bytesOf]
  have inj : ∀ {a b : List Int}, okB a → okB b → (a.map fun n => UInt8.ofNat n.toNat) = (b.map fun n => UInt8.ofNat n.toNat) → a = b := by
    intro a
    induction a with
    | nil => intro b _ _ h; cases b <;> simp_all
    | cons x a ih =>
      intro b ha hb h
      cases b with
      | nil => simp at h
      | cons y b =>
        simp only [List.map_cons, List.cons.injEq] at h
        have hx := ha x (List.mem_cons_self)
        have hy := hb y (List.mem_cons_self)
        have e : x = y := by
          have := congrArg UInt8.toNat h.1
          simp [UInt8.toNat_ofNat'] at this
          omega
        rw [e, ih (fun z hz => ha z (List.mem_cons_of_mem _ hz)) (fun z hz => hb z (List.mem_cons_of_mem _ hz)) h.2]
  unfold seqS
  rw [h1, h1]
  by_cases h : a = b
  · subst h; simp
  · have : (a.map fun n => UInt8.ofNat n.toNat) ≠ (b.map fun n => UInt8.ofNat n.toNat) := fun e => h (inj ha hb e)
    rw [decide_eq_false h]
    exact beq_false_of_ne this
end Gz
