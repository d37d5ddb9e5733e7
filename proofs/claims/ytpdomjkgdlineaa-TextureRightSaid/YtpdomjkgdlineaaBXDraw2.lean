/- Regions that are run in any order: what has been done, and what is left. -/
import Derived.Test.YtpdomjkgdlineaaBXDraw
set_option linter.unusedVariables false
set_option linter.unusedSimpArgs false
set_option linter.unnecessarySimpa false
set_option linter.deprecated false
namespace Gz
open Go

/-- One operation's step, on its part. -/
def OpSound (P : Program) (fid : Nat) (all : List Oper) (o : Oper) (frm : List LV) (stm : St) (v : LV) (st1 : St) : Prop :=
  ∀ (R : Rl) (w : World) (tm : Array Value) (b : Frame) (df : List Deferred) (k : List Item) (cs : List Frame) (ops : Array Oper) (i : Nat) (rest : List Nat), ops.toList = all → ops[i]? = some o → b.fn = fid → Sim R stm w → VLR R w frm tm.toList →
    ∃ R' w' u, Steps P (lone (fa b tm df (.inRegion ops (i :: rest) :: k)) cs w) (lone (fa b (putV tm o.dst u) df (.inRegion ops rest :: k)) cs w') ∧ VR R' w' v u ∧ Sim R' st1 w' ∧ Ext R R' w w' ∧ Wm R R' stm st1 w w' ∧ R'.D = R.D

/-- A step of the region, in the text's order. -/
structure Link (P : Program) (fid : Nat) (all : List Oper) (rs : List Rec) (o : Oper) (fr : List LV) (st : St) (r : Rec) (v : LV) (st1 : St) (lo : Nat) (st' : St) : Prop where
  dst : r.dst = o.dst
  a : r.a = st.L.length
  b : r.b = st'.L.length
  bef : r.bef = befOf rs o
  edges : ∀ e, e ∈ o.after → Region.binds .any e = true → e.on < rs.length
  chk : chkR 0 rs r = true
  ins : ∀ s, s ∈ r.ins → ltV st.L.length (fr.getD s .u) = true
  foot : ∀ o, o ∈ r.foot → ltOb st.L.length (st.L.getD o .dead) = true
  tch : ∀ o, o ∈ r.tch → o ∈ r.foot
  hlo : st.lo ≤ lo
  hloa : lo ≤ st.L.length
  foota : ∀ o, o ∈ r.foot → o < st.L.length
  lo' : st'.lo = st.lo
  len1 : st1.L.length = st'.L.length
  le : st.L.length ≤ st'.L.length
  sound : OpSound P fid all o (maskF r.ins 0 fr) ⟨maskL r.foot 0 st.L, lo⟩ v st1
  keep : ∀ (R R' : Rl) (w w' : World), Wm R R' ⟨maskL r.foot 0 st.L, lo⟩ st1 w w' → ∀ o, o < st.L.length → o ∉ r.tch → o ∈ r.foot → st1.L[o]? = st.L[o]?
  new : ∀ o, (o < st.L.length ∧ o ∉ r.tch ∧ st'.L[o]? = st.L[o]?) ∨ (o < st.L.length ∧ o ∈ r.tch ∧ st'.L[o]? = st1.L[o]?) ∨ (st.L.length ≤ o ∧ st'.L[o]? = st1.L[o]?)

inductive Chain (P : Program) (fid : Nat) (all : List Oper) : List Rec → List Oper → List LV → St → List Rec → List LV → St → Prop
  | nil {rs : List Rec} {fr : List LV} {st : St} : Chain P fid all rs [] fr st [] fr st
  | cons {rs l : List Rec} {o : Oper} {rest : List Oper} {fr fr' : List LV} {st st' st2 : St} {r : Rec} {v : LV} {st1 : St} {lo : Nat} (h : Link P fid all rs o fr st r v st1 lo st') (t : Chain P fid all (rs ++ [r]) rest (put fr o.dst v) st' l fr' st2) : Chain P fid all rs (o :: rest) fr st (r :: l) fr' st2

/-- The steps, numbered. -/
structure Run (P : Program) (fid : Nat) (all : List Oper) (rs : List Rec) (n : Nat) (frs : Nat → List LV) (sts : Nat → St) (vs : Nat → LV) : Prop where
  len : rs.length = n
  hall : all.length = n
  link : ∀ i, i < n → ∃ o r st1 lo, all[i]? = some o ∧ rs[i]? = some r ∧ Link P fid all (rs.take i) o (frs i) (sts i) r (vs i) st1 lo (sts (i + 1)) ∧ frs (i + 1) = put (frs i) o.dst (vs i)

section
variable {P : Program} {fid : Nat} {all : List Oper}

theorem Chain.run {rs : List Rec} {rest : List Oper} {fr : List LV} {st : St} {l : List Rec} {fr' : List LV} {st' : St} (h : Chain P fid all rs rest fr st l fr' st') :
    ∃ (frs : Nat → List LV) (sts : Nat → St) (vs : Nat → LV), frs 0 = fr ∧ sts 0 = st ∧ frs rest.length = fr' ∧ sts rest.length = st' ∧ l.length = rest.length ∧
      ∀ i, i < rest.length → ∃ o r st1 lo, rest[i]? = some o ∧ l[i]? = some r ∧ Link P fid all (rs ++ l.take i) o (frs i) (sts i) r (vs i) st1 lo (sts (i + 1)) ∧ frs (i + 1) = put (frs i) o.dst (vs i) := by
  induction h with
  | nil => exact ⟨fun _ => _, fun _ => _, fun _ => .u, rfl, rfl, rfl, rfl, rfl, fun i hi => by simp at hi⟩
  | @cons rs l o rest fr fr' st st' st2 r v st1 lo hl ht ih =>
    obtain ⟨frs, sts, vs, h1, h2, h3, h4, h5, h6⟩ := ih
    refine ⟨fun i => match i with | 0 => fr | i + 1 => frs i, fun i => match i with | 0 => st | i + 1 => sts i, fun i => match i with | 0 => v | i + 1 => vs i, rfl, rfl, h3, h4, by simp [h5], fun i hi => ?_⟩
    cases i with
    | zero =>
      refine ⟨o, r, st1, lo, rfl, rfl, ?_, ?_⟩
      · show Link P fid all (rs ++ []) o fr st r v st1 lo (sts 0)
        rw [h2, List.append_nil]; exact hl
      · exact h1
    | succ i =>
      obtain ⟨o', r', st1', lo', g1, g2, g3, g4⟩ := h6 i (by simpa using hi)
      refine ⟨o', r', st1', lo', by simpa using g1, by simpa using g2, ?_, g4⟩
      have : rs ++ (r :: l).take (i + 1) = rs ++ [r] ++ l.take i := by simp
      rw [this]; exact g3
end

/-! What stands in an object once some of the steps have been done. -/
def tou (rs : List Rec) (i o : Nat) : Bool := match rs[i]? with | some r => r.tch.contains o || (decide (r.a ≤ o) && decide (o < r.b)) | none => false
def wri (rs : List Rec) (i s : Nat) : Bool := match rs[i]? with | some r => r.dst == some s | none => false

def cont (sts : Nat → St) (rs : List Rec) (S : Nat → Bool) (o : Nat) : Nat → LO
  | 0 => (sts 0).L.getD o .dead
  | i + 1 => if (S i && tou rs i o) = true then (sts (i + 1)).L.getD o .dead else cont sts rs S o i
def slot (frs : Nat → List LV) (rs : List Rec) (S : Nat → Bool) (s : Nat) : Nat → LV
  | 0 => (frs 0).getD s .u
  | i + 1 => if (S i && wri rs i s) = true then (frs (i + 1)).getD s .u else slot frs rs S s i

theorem cont_agree {sts : Nat → St} {rs : List Rec} {S T : Nat → Bool} {o : Nat} : ∀ {k : Nat}, (∀ i, i < k → tou rs i o = true → S i = T i) → cont sts rs S o k = cont sts rs T o k
  | 0, _ => rfl
  | k + 1, h => by
    simp only [cont]
    rw [cont_agree (fun i hi => h i (by omega))]
    cases ht : tou rs k o with
    | false => simp
    | true => rw [h k (by omega) ht]
theorem slot_agree {frs : Nat → List LV} {rs : List Rec} {S T : Nat → Bool} {s : Nat} : ∀ {k : Nat}, (∀ i, i < k → wri rs i s = true → S i = T i) → slot frs rs S s k = slot frs rs T s k
  | 0, _ => rfl
  | k + 1, h => by
    simp only [slot]
    rw [slot_agree (fun i hi => h i (by omega))]
    cases ht : wri rs k s with
    | false => simp
    | true => rw [h k (by omega) ht]
theorem cont_stop {sts : Nat → St} {rs : List Rec} {S : Nat → Bool} {o i : Nat} : ∀ {k : Nat}, i ≤ k → (∀ j, i ≤ j → j < k → tou rs j o = true → S j = false) → cont sts rs S o k = cont sts rs S o i
  | 0, h, _ => by have : i = 0 := by omega
                  subst this; rfl
  | k + 1, h, hn => by
    by_cases hk : i = k + 1
    · subst hk; rfl
    · simp only [cont]
      rw [if_neg, cont_stop (by omega) (fun j h1 h2 => hn j h1 (by omega))]
      intro hc
      rw [Bool.and_eq_true] at hc
      rw [hn k (by omega) (by omega) hc.2] at hc
      exact absurd hc.1 (by simp)
theorem slot_stop {frs : Nat → List LV} {rs : List Rec} {S : Nat → Bool} {s i : Nat} : ∀ {k : Nat}, i ≤ k → (∀ j, i ≤ j → j < k → wri rs j s = true → S j = false) → slot frs rs S s k = slot frs rs S s i
  | 0, h, _ => by have : i = 0 := by omega
                  subst this; rfl
  | k + 1, h, hn => by
    by_cases hk : i = k + 1
    · subst hk; rfl
    · simp only [slot]
      rw [if_neg, slot_stop (by omega) (fun j h1 h2 => hn j h1 (by omega))]
      intro hc
      rw [Bool.and_eq_true] at hc
      rw [hn k (by omega) (by omega) hc.2] at hc
      exact absurd hc.1 (by simp)

theorem chkR_at {y : Rec} : ∀ {rs : List Rec} {k j : Nat} {x : Rec}, chkR k rs y = true → rs[j]? = some x → Nat.testBit y.bef (k + j) = true ∨ apartR x y = true
  | [], k, j, x, h, hx => by simp at hx
  | z :: rs, k, 0, x, h, hx => by
    simp at hx; subst hx
    simp only [chkR, Bool.and_eq_true, Bool.or_eq_true] at h
    exact h.1
  | z :: rs, k, j + 1, x, h, hx => by
    simp only [chkR, Bool.and_eq_true] at h
    have := chkR_at (k := k + 1) (j := j) h.2 (by simpa using hx)
    rwa [show k + 1 + j = k + (j + 1) by omega] at this

section
variable {P : Program} {fid : Nat} {all : List Oper} {rs : List Rec} {n : Nat} {frs : Nat → List LV} {sts : Nat → St} {vs : Nat → LV}

theorem Run.rec_at (h : Run P fid all rs n frs sts vs) {i : Nat} (hi : i < n) : ∃ r, rs[i]? = some r := by
  obtain ⟨o, r, st1, lo, _, h2, _⟩ := h.link i hi; exact ⟨r, h2⟩
theorem Run.len_mono (h : Run P fid all rs n frs sts vs) : ∀ {i j : Nat}, i ≤ j → j ≤ n → (sts i).L.length ≤ (sts j).L.length
  | i, 0, h1, _ => by have : i = 0 := by omega
                      subst this; exact Nat.le_refl _
  | i, j + 1, h1, h2 => by
    by_cases hk : i = j + 1
    · subst hk; exact Nat.le_refl _
    · obtain ⟨o, r, st1, lo, _, _, hl, _⟩ := h.link j (by omega)
      exact Nat.le_trans (h.len_mono (i := i) (j := j) (by omega) (by omega)) hl.le
theorem Run.lo_eq (h : Run P fid all rs n frs sts vs) : ∀ {i : Nat}, i ≤ n → (sts i).lo = (sts 0).lo
  | 0, _ => rfl
  | i + 1, hi => by
    obtain ⟨o, r, st1, lo, _, _, hl, _⟩ := h.link i (by omega)
    rw [hl.lo', h.lo_eq (by omega)]

/-- Two steps that are not in order keep apart. -/
theorem Run.apart (h : Run P fid all rs n frs sts vs) {j i : Nat} {x y : Rec} (hji : j < i) (hi : i < n) (hx : rs[j]? = some x) (hy : rs[i]? = some y) : Nat.testBit y.bef j = true ∨ apartR x y = true := by
  obtain ⟨o, r, st1, lo, _, h2, hl, _⟩ := h.link i hi
  rw [hy] at h2; cases h2
  have := chkR_at (k := 0) (j := j) hl.chk (by rw [List.getElem?_take, if_pos hji]; exact hx)
  simpa using this

theorem Run.cont_full (h : Run P fid all rs n frs sts vs) {S : Nat → Bool} {o : Nat} : ∀ {k : Nat}, k ≤ n → (∀ i, i < k → S i = true) → cont sts rs S o k = (sts k).L.getD o .dead
  | 0, _, _ => rfl
  | k + 1, hk, hS => by
    simp only [cont, hS k (by omega), Bool.true_and]
    split
    · rfl
    · rename_i ht
      rw [h.cont_full (by omega) (fun i hi => hS i (by omega))]
      obtain ⟨o', r, st1, lo, _, h2, hl, _⟩ := h.link k (by omega)
      simp only [tou, h2, hl.a, hl.b] at ht
      simp only [Bool.or_eq_true, Bool.and_eq_true, decide_eq_true_eq, not_or, List.contains_eq_mem] at ht
      rcases hl.new o with ⟨_, _, h3⟩ | ⟨_, h3, _⟩ | ⟨h3, h4⟩
      · simp only [List.getD_eq_getElem?_getD, h3]
      · exact absurd h3 ht.1
      · have : (sts (k + 1)).L.length ≤ o := by
          rcases Nat.lt_or_ge o (sts (k + 1)).L.length with h5 | h5
          · exact absurd ⟨h3, h5⟩ ht.2
          · exact h5
        simp only [List.getD_eq_getElem?_getD, List.getElem?_eq_none this, List.getElem?_eq_none h3]

theorem put_getD {fr : List LV} {d : Option Nat} {v : LV} {s : Nat} (h : d ≠ some s) : (put fr d v).getD s .u = fr.getD s .u := by
  cases d with
  | none => rfl
  | some d =>
    simp only [put, List.getD_eq_getElem?_getD]
    rw [List.getElem?_set, if_neg (fun e => h (by rw [e]))]

theorem Run.slot_full (h : Run P fid all rs n frs sts vs) {S : Nat → Bool} {s : Nat} : ∀ {k : Nat}, k ≤ n → (∀ i, i < k → S i = true) → slot frs rs S s k = (frs k).getD s .u
  | 0, _, _ => rfl
  | k + 1, hk, hS => by
    simp only [slot, hS k (by omega), Bool.true_and]
    split
    · rfl
    · rename_i ht
      rw [h.slot_full (by omega) (fun i hi => hS i (by omega))]
      obtain ⟨o', r, st1, lo, _, h2, hl, h4⟩ := h.link k (by omega)
      rw [h4, put_getD]
      simp only [wri, h2, hl.dst] at ht
      intro e; rw [e] at ht; simp at ht

/-- What has been done is closed under the order. -/
def Closed (rs : List Rec) (n : Nat) (S : Nat → Bool) : Prop := ∀ i, i < n → S i = true → ∀ r, rs[i]? = some r → ∀ j, Nat.testBit r.bef j = true → S j = true

structure Next1 (rs : List Rec) (n : Nat) (S : Nat → Bool) (i : Nat) : Prop where
  lt : i < n
  cl : Closed rs n S
  not : S i = false
  bef : ∀ r, rs[i]? = some r → ∀ j, Nat.testBit r.bef j = true → S j = true

theorem Run.foot_eq (h : Run P fid all rs n frs sts vs) {S : Nat → Bool} {i o : Nat} {r : Rec} (hn : Next1 rs n S i) (hr : rs[i]? = some r) (ho : o ∈ r.foot) (hoa : o < (sts i).L.length) : cont sts rs S o n = (sts i).L.getD o .dead := by
  have hi := hn.lt
  have key : ∀ j, j < n → tou rs j o = true → S j = decide (j < i) := by
    intro j hj ht
    obtain ⟨x, hx⟩ := h.rec_at hj
    obtain ⟨_, r1, _, _, _, h2, hl, _⟩ := h.link j hj
    rw [hx] at h2; cases h2
    simp only [tou, hx, Bool.or_eq_true, Bool.and_eq_true, decide_eq_true_eq, List.contains_eq_mem] at ht
    rcases Nat.lt_trichotomy j i with h1 | h1 | h1
    · rw [decide_eq_true h1]
      rcases h.apart h1 hi hx hr with h2 | h2
      · exact hn.bef r hr j h2
      · exfalso
        simp only [apartR, Bool.and_eq_true, List.all_eq_true, Bool.not_eq_true', Bool.and_eq_false_iff, decide_eq_false_iff_not, List.contains_eq_mem, decide_eq_true_eq] at h2
        obtain ⟨⟨⟨⟨g1, g2⟩, g3⟩, _⟩, _⟩ := h2
        rcases ht with ht | ⟨h5, h6⟩
        · exact absurd ho (g1 o ht)
        · rcases g3 o ho with g | g
          · exact g h5
          · exact g h6
    · subst h1; rw [hn.not]; simp
    · rw [decide_eq_false (by omega)]
      cases hS : S j with
      | false => rfl
      | true =>
        exfalso
        rcases h.apart h1 hj hr hx with h2 | h2
        · have := hn.cl j hj hS x hx i h2
          rw [hn.not] at this; cases this
        · simp only [apartR, Bool.and_eq_true, List.all_eq_true, Bool.not_eq_true', Bool.and_eq_false_iff, decide_eq_false_iff_not, List.contains_eq_mem, decide_eq_true_eq] at h2
          obtain ⟨⟨⟨⟨g1, g2⟩, g3⟩, _⟩, _⟩ := h2
          rcases ht with ht | ⟨h5, h6⟩
          · exact absurd ho (g2 o ht)
          · rw [hl.a] at h5
            have := h.len_mono (i := i) (j := j) (by omega) (by omega)
            omega
  rw [cont_agree (T := fun j => decide (j < i)) key, cont_stop (i := i) (by omega) (fun j h1 h2 _ => decide_eq_false (by omega)), h.cont_full (by omega) (fun j hj => decide_eq_true hj)]

theorem Run.ins_eq (h : Run P fid all rs n frs sts vs) {S : Nat → Bool} {i s : Nat} {r : Rec} (hn : Next1 rs n S i) (hr : rs[i]? = some r) (hs : s ∈ r.ins) : slot frs rs S s n = (frs i).getD s .u := by
  have hi := hn.lt
  have key : ∀ j, j < n → wri rs j s = true → S j = decide (j < i) := by
    intro j hj ht
    obtain ⟨x, hx⟩ := h.rec_at hj
    simp only [wri, hx, beq_iff_eq] at ht
    rcases Nat.lt_trichotomy j i with h1 | h1 | h1
    · rw [decide_eq_true h1]
      rcases h.apart h1 hi hx hr with h2 | h2
      · exact hn.bef r hr j h2
      · exfalso
        simp only [apartR, ht, Bool.and_eq_true, Bool.not_eq_true', List.contains_eq_mem, decide_eq_false_iff_not] at h2
        exact h2.1.2.1 hs
    · subst h1; rw [hn.not]; simp
    · rw [decide_eq_false (by omega)]
      cases hS : S j with
      | false => rfl
      | true =>
        exfalso
        rcases h.apart h1 hj hr hx with h2 | h2
        · have := hn.cl j hj hS x hx i h2
          rw [hn.not] at this; cases this
        · simp only [apartR, ht, Bool.and_eq_true, Bool.not_eq_true', List.contains_eq_mem, decide_eq_false_iff_not] at h2
          exact h2.2 hs
  rw [slot_agree (T := fun j => decide (j < i)) key, slot_stop (i := i) (by omega) (fun j h1 h2 _ => decide_eq_false (by omega)), h.slot_full (by omega) (fun j hj => decide_eq_true hj)]

def addS (S : Nat → Bool) (i : Nat) : Nat → Bool := fun j => S j || j == i

theorem Run.cont_add (h : Run P fid all rs n frs sts vs) {S : Nat → Bool} {i o : Nat} (hn : Next1 rs n S i) : cont sts rs (addS S i) o n = if tou rs i o = true then (sts (i + 1)).L.getD o .dead else cont sts rs S o n := by
  have hi := hn.lt
  split
  · rename_i ht
    rw [cont_stop (i := i + 1) (by omega)]
    · simp [cont, addS, ht]
    · intro j h1 h2 h3
      have hij : (j == i) = false := by simp; omega
      simp only [addS, hij, Bool.or_false]
      cases hS : S j with
      | false => rfl
      | true =>
        exfalso
        obtain ⟨r, hr⟩ := h.rec_at hi
        obtain ⟨x, hx⟩ := h.rec_at h2
        obtain ⟨_, r1, _, _, _, q2, hl, _⟩ := h.link j h2
        rw [hx] at q2; cases q2
        obtain ⟨_, r2, _, _, _, p2, hl2, _⟩ := h.link i hi
        rw [hr] at p2; cases p2
        rcases h.apart (show i < j by omega) h2 hr hx with h4 | h4
        · have := hn.cl j h2 hS x hx i h4
          rw [hn.not] at this; cases this
        · simp only [apartR, Bool.and_eq_true, List.all_eq_true, Bool.not_eq_true', Bool.and_eq_false_iff, decide_eq_false_iff_not, List.contains_eq_mem, decide_eq_true_eq] at h4
          obtain ⟨⟨⟨⟨g1, g2⟩, g3⟩, _⟩, _⟩ := h4
          simp only [tou, hx, Bool.or_eq_true, Bool.and_eq_true, decide_eq_true_eq, List.contains_eq_mem] at h3
          simp only [tou, hr, Bool.or_eq_true, Bool.and_eq_true, decide_eq_true_eq, List.contains_eq_mem] at ht
          have hm := h.len_mono (i := i + 1) (j := j) (by omega) (by omega)
          have hfa : ∀ o, o ∈ r.tch → o ∈ r.foot := hl2.tch
          rcases h3 with h3 | ⟨h5, h6⟩
          · rcases ht with ht | ⟨h7, h8⟩
            · exact g2 o h3 (hfa o ht)
            · rcases g3 o (hl.tch o h3) with g | g
              · exact g h7
              · exact g h8
          · rw [hl.a] at h5
            rcases ht with ht | ⟨h7, h8⟩
            · have := hl2.foota o (hfa o ht)
              have := h.len_mono (i := i) (j := j) (by omega) (by omega)
              omega
            · rw [hl2.b] at h8; omega
  · rename_i ht
    refine cont_agree (fun j hj htj => ?_)
    have : (j == i) = false := by
      simp; intro e; subst e; exact ht htj
    simp [addS, this]
end
end Gz
