/- Regions that are run in any order: one more step. -/
import Derived.Test.YtpdomjkgdlineaaBXDraw2
set_option linter.unusedVariables false
set_option linter.unusedSimpArgs false
set_option linter.unnecessarySimpa false
set_option linter.deprecated false
namespace Gz
open Go

section
variable {P : Program} {fid : Nat} {all : List Oper} {rs : List Rec} {n : Nat} {frs : Nat → List LV} {sts : Nat → St} {vs : Nat → LV}

theorem Run.slot_add (h : Run P fid all rs n frs sts vs) {S : Nat → Bool} {i s : Nat} (hn : Next1 rs n S i) : slot frs rs (addS S i) s n = if wri rs i s = true then (frs (i + 1)).getD s .u else slot frs rs S s n := by
  have hi := hn.lt
  split
  · rename_i ht
    rw [slot_stop (i := i + 1) (by omega)]
    · simp [slot, addS, ht]
    · intro j h1 h2 h3
      have hij : (j == i) = false := by simp; omega
      simp only [addS, hij, Bool.or_false]
      cases hS : S j with
      | false => rfl
      | true =>
        exfalso
        obtain ⟨r, hr⟩ := h.rec_at hi
        obtain ⟨x, hx⟩ := h.rec_at h2
        rcases h.apart (show i < j by omega) h2 hr hx with h4 | h4
        · have := hn.cl j h2 hS x hx i h4
          rw [hn.not] at this; cases this
        · simp only [wri, hx, beq_iff_eq] at h3
          simp only [wri, hr, beq_iff_eq] at ht
          simp [apartR, h3, ht] at h4
  · rename_i ht
    refine slot_agree (fun j hj htj => ?_)
    have : (j == i) = false := by
      simp; intro e; subst e; exact ht htj
    simp [addS, this]

theorem Run.new_dead (h : Run P fid all rs n frs sts vs) {S : Nat → Bool} {i o : Nat} (hn : Next1 rs n S i) (h1 : (sts i).L.length ≤ o) (h2 : o < (sts (i + 1)).L.length) : cont sts rs S o n = .dead := by
  have hi := hn.lt
  have key : ∀ j, j < n → tou rs j o = true → S j = false := by
    intro j hj ht
    cases hS : S j with
    | false => rfl
    | true =>
      exfalso
      obtain ⟨x, hx⟩ := h.rec_at hj
      obtain ⟨r, hr⟩ := h.rec_at hi
      obtain ⟨_, r1, _, _, _, q2, hl, _⟩ := h.link j hj
      rw [hx] at q2; cases q2
      obtain ⟨_, r2, _, _, _, p2, hl2, _⟩ := h.link i hi
      rw [hr] at p2; cases p2
      simp only [tou, hx, Bool.or_eq_true, Bool.and_eq_true, decide_eq_true_eq, List.contains_eq_mem] at ht
      rcases Nat.lt_trichotomy j i with h3 | h3 | h3
      · have hm := h.len_mono (i := j + 1) (j := i) (by omega) (by omega)
        rcases ht with ht | ⟨h5, h6⟩
        · have := hl.foota o (hl.tch o ht)
          have := hl.le
          omega
        · rw [hl.b] at h6; omega
      · subst h3; rw [hn.not] at hS; cases hS
      · have hm := h.len_mono (i := i + 1) (j := j) (by omega) (by omega)
        rcases ht with ht | ⟨h5, h6⟩
        · rcases h.apart h3 hj hr hx with h4 | h4
          · have := hn.cl j hj hS x hx i h4
            rw [hn.not] at this; cases this
          · simp only [apartR, Bool.and_eq_true, List.all_eq_true, Bool.not_eq_true', Bool.and_eq_false_iff, decide_eq_false_iff_not, List.contains_eq_mem, decide_eq_true_eq] at h4
            obtain ⟨⟨⟨⟨g1, g2⟩, g3⟩, _⟩, _⟩ := h4
            rcases g3 o (hl.tch o ht) with g | g
            · rw [hl2.a] at g; exact g h1
            · rw [hl2.b] at g; exact g h2
        · rw [hl.a] at h5; omega
  rw [cont_stop (i := 0) (Nat.zero_le _) (fun j _ hj ht => key j hj ht)]
  show (sts 0).L.getD o .dead = .dead
  have := h.len_mono (i := 0) (j := i) (by omega) (by omega)
  rw [List.getD_eq_getElem?_getD, List.getElem?_eq_none (by omega)]; rfl

def stS (sts : Nat → St) (rs : List Rec) (n : Nat) (S : Nat → Bool) : St := ⟨(List.range (sts n).L.length).map fun o => cont sts rs S o n, (sts 0).lo⟩
def frS (frs : Nat → List LV) (rs : List Rec) (n : Nat) (S : Nat → Bool) : List LV := (List.range (frs 0).length).map fun s => slot frs rs S s n

theorem stS_at {S : Nat → Bool} (o : Nat) : (stS sts rs n S).L[o]? = if o < (sts n).L.length then some (cont sts rs S o n) else none := by
  simp only [stS, List.getElem?_map]
  split
  · rename_i h; simp [h]
  · rename_i h; simp [List.getElem?_eq_none, Nat.not_lt.1 h]
theorem frS_at {S : Nat → Bool} (s : Nat) : (frS frs rs n S)[s]? = if s < (frs 0).length then some (slot frs rs S s n) else none := by
  simp only [frS, List.getElem?_map]
  split
  · rename_i h; simp [h]
  · rename_i h; simp [List.getElem?_eq_none, Nat.not_lt.1 h]

theorem maskF_length (ins : List Nat) : ∀ (k : Nat) (l : List LV), (maskF ins k l).length = l.length
  | _, [] => rfl
  | k, v :: l => by simp [maskF, maskF_length ins (k + 1) l]
theorem maskF_at (ins : List Nat) : ∀ (k : Nat) (l : List LV) (s : Nat), (maskF ins k l)[s]? = (l[s]?).map fun x => bif ins.contains (k + s) then x else .u
  | _, [], s => by simp [maskF]
  | k, v :: l, 0 => by simp [maskF]
  | k, v :: l, s + 1 => by
    simp only [maskF, List.getElem?_cons_succ]
    rw [maskF_at ins (k + 1) l s, show k + 1 + s = k + (s + 1) by omega]

theorem Run.fr_len (h : Run P fid all rs n frs sts vs) : ∀ {i : Nat}, i ≤ n → (frs i).length = (frs 0).length
  | 0, _ => rfl
  | i + 1, hi => by
    obtain ⟨o, r, st1, lo, _, _, _, h4⟩ := h.link i (by omega)
    rw [h4, ← h.fr_len (i := i) (by omega)]
    cases o.dst <;> simp [put]

/-- What is so once some steps have been done. -/
structure InvS (rs : List Rec) (n : Nat) (frs : Nat → List LV) (sts : Nat → St) (S : Nat → Bool) (R0 : Rl) (w0 : World) (R : Rl) (w : World) (tm : Array Value) : Prop where
  sim : Sim R (stS sts rs n S) w
  fr : VLR R w (frS frs rs n S) tm.toList
  ext : Ext R0 R w0 w
  wq : Wq (sts 0).L.length R0 R (stS sts rs n fun _ => false) (stS sts rs n S) w0 w
  D : R.D = R0.D
  un : ∀ j, j < n → S j = false → ∀ o, (sts j).L.length ≤ o → o < (sts (j + 1)).L.length → R.ρ o = none

theorem Run.more (h : Run P fid all rs n frs sts vs) {S : Nat → Bool} {i : Nat} (hn : Next1 rs n S i) {R0 : Rl} {w0 : World} {R : Rl} {w : World} {tm : Array Value} (I : InvS rs n frs sts S R0 w0 R w tm)
    {b : Frame} {df : List Deferred} {k : List Item} {cs : List Frame} {ops : Array Oper} {rest : List Nat} (ho : ops.toList = all) (hb : b.fn = fid) :
    ∃ R' w' tm', Steps P (lone (fa b tm df (.inRegion ops (i :: rest) :: k)) cs w) (lone (fa b tm' df (.inRegion ops rest :: k)) cs w') ∧ InvS rs n frs sts (addS S i) R0 w0 R' w' tm' := by
  have hi := hn.lt
  obtain ⟨o, r, st1, lo, hall, hr, hl, hfr⟩ := h.link i hi
  have hop : ops[i]? = some o := by rw [← ho] at hall; simpa using hall
  have hlo := h.lo_eq (i := i) (by omega)
  have hNi : (sts (i + 1)).L.length ≤ (sts n).L.length := h.len_mono (by omega) (Nat.le_refl _)
  have hle := hl.le
  have hgetD : ∀ {L : List LO} {o : Nat}, o < L.length → L[o]? = some (L.getD o .dead) := fun {L o} ho => by rw [List.getD_eq_getElem?_getD, List.getElem?_eq_getElem ho]; rfl
  -- the part
  have hfootat : ∀ x, x ∈ r.foot → (maskL r.foot 0 (sts i).L)[x]? = some ((sts i).L.getD x .dead) ∧ (stS sts rs n S).L[x]? = some ((sts i).L.getD x .dead) := by
    intro x hx
    have hxa := hl.foota x hx
    refine ⟨?_, ?_⟩
    · rw [maskL_at, hgetD hxa]; simp [List.contains_eq_mem, hx]
    · rw [stS_at, if_pos (by omega), h.foot_eq hn hr hx hxa]
  have hdeadat : ∀ x, x < (sts i).L.length → x ∉ r.foot → (maskL r.foot 0 (sts i).L)[x]? = some .dead := by
    intro x hxa hx
    rw [maskL_at, hgetD hxa]; simp [List.contains_eq_mem, hx]
  have hat : ∀ x, x < (sts i).L.length → (maskL r.foot 0 (sts i).L)[x]? = some .dead ∨ (∃ y, (maskL r.foot 0 (sts i).L)[x]? = some y ∧ (stS sts rs n S).L[x]? = some y ∧ ltOb (sts i).L.length y = true) := by
    intro x hxa
    by_cases hx : x ∈ r.foot
    · exact .inr ⟨_, (hfootat x hx).1, (hfootat x hx).2, hl.foot x hx⟩
    · exact .inl (hdeadat x hxa hx)
  have hpart := I.sim.part (lo := lo) (maskL_length r.foot 0 (sts i).L) hat
  have hfrm : VLR (cutR R (sts i).L.length) w (maskF r.ins 0 (frs i)) tm.toList := by
    have hlen : (frs i).length = (frs 0).length := h.fr_len (by omega)
    have hl0 : tm.toList.length = (frs 0).length := by rw [← I.fr.1]; simp [frS]
    refine ⟨by rw [maskF_length, hlen, hl0], fun j lv v h1 h2 => ?_⟩
    rw [maskF_at] at h1
    cases hq : (frs i)[j]? with
    | none => rw [hq] at h1; cases h1
    | some y =>
      rw [hq] at h1
      simp only [Option.map_some, Option.some.injEq, Nat.zero_add] at h1
      by_cases hj : j ∈ r.ins
      · have : lv = y := by rw [← h1]; simp [List.contains_eq_mem, hj]
        subst this
        have hg : (frs i).getD j .u = lv := by rw [List.getD_eq_getElem?_getD, hq]; rfl
        have hjm : j < (frs 0).length := by rw [← hlen]; exact (List.getElem?_eq_some_iff.1 hq).1
        have h3 : (frS frs rs n S)[j]? = some lv := by rw [frS_at, if_pos hjm, h.ins_eq hn hr hj, hg]
        exact ltV_cut (I.fr.2 j lv v h3 h2) (by rw [← hg]; exact hl.ins j hj)
      · have : lv = .u := by rw [← h1]; simp [List.contains_eq_mem, hj]
        subst this; exact .u _
  obtain ⟨R', w', u, a1, a2, a3, a4, a5, a6⟩ := hl.sound (cutR R (sts i).L.length) w tm b df k cs ops i rest ho hop hb hpart hfrm
  -- the whole
  have hlen1 : st1.L.length = (sts (i + 1)).L.length := hl.len1
  have hst2 : ∀ x, ((stS sts rs n (addS S i)).L[x]? = (stS sts rs n S).L[x]? ∧ ¬ ((sts i).L.length ≤ x ∧ x < (sts (i + 1)).L.length) ∧ (∀ y, (maskL r.foot 0 (sts i).L)[x]? = some y → y = .dead ∨ st1.L[x]? = some y)) ∨
      ((stS sts rs n (addS S i)).L[x]? = st1.L[x]? ∧ x < (sts (i + 1)).L.length ∧ (x < (sts i).L.length → (maskL r.foot 0 (sts i).L)[x]? = (stS sts rs n S).L[x]?)) := by
    intro x
    by_cases ht : tou rs i x = true
    · right
      have ht' := ht
      simp only [tou, hr, hl.a, hl.b, Bool.or_eq_true, Bool.and_eq_true, decide_eq_true_eq, List.contains_eq_mem] at ht'
      have hxb : x < (sts (i + 1)).L.length := by
        rcases ht' with h1 | ⟨_, h2⟩
        · have := hl.foota x (hl.tch x h1); omega
        · exact h2
      refine ⟨?_, hxb, fun hxa => ?_⟩
      · rw [stS_at, if_pos (by omega), h.cont_add hn, if_pos ht, ← hgetD hxb]
        rcases hl.new x with ⟨h1, h2, _⟩ | ⟨_, _, h3⟩ | ⟨_, h3⟩
        · rcases ht' with h4 | ⟨h4, _⟩
          · exact absurd h4 h2
          · omega
        · exact h3
        · exact h3
      · rcases ht' with h1 | ⟨h1, _⟩
        · rw [(hfootat x (hl.tch x h1)).1, (hfootat x (hl.tch x h1)).2]
        · omega
    · left
      have ht' := ht
      simp only [tou, hr, hl.a, hl.b, Bool.or_eq_true, Bool.and_eq_true, decide_eq_true_eq, List.contains_eq_mem, not_or] at ht'
      refine ⟨?_, ht'.2, fun y hy => ?_⟩
      · rw [stS_at, stS_at, h.cont_add hn, if_neg ht]
      · have hxa : x < (sts i).L.length := by
          have := (List.getElem?_eq_some_iff.1 hy).1; rwa [maskL_length] at this
        by_cases hx : x ∈ r.foot
        · right
          rw [hl.keep _ _ _ _ a5 x hxa ht'.1 hx, hgetD hxa]
          rw [(hfootat x hx).1] at hy; exact hy
        · left
          rw [hdeadat x hxa hx] at hy; cases hy; rfl
  have hbN : (sts (i + 1)).L.length ≤ (stS sts rs n S).L.length := by simp [stS]; exact hNi
  have hna : (sts 0).L.length ≤ (sts i).L.length := h.len_mono (Nat.zero_le _) (by omega)
  obtain ⟨R2, b1, b2, b3, b4, b5, b6, b7⟩ := I.sim.whole (n := (sts 0).L.length) (st2 := stS sts rs n (addS S i)) (maskL_length r.foot 0 (sts i).L) hat (by show (sts 0).lo ≤ lo; rw [← hlo]; exact hl.hlo) hl.hloa a3 a4 a5 a6 hlen1 hna hbN
    (fun x h1 h2 => by
      have hd : (stS sts rs n S).L[x]? = some .dead := by rw [stS_at, if_pos (by omega), h.new_dead hn h1 h2]
      refine ⟨I.un i hi hn.not x h1 h2, fun ⟨y, h3, h4⟩ => ?_, fun ⟨_, _, _, _, _, _, _, h3⟩ => ?_⟩
      · rw [hd] at h3; cases h3; simp [LO.live] at h4
      · rw [hd] at h3; cases h3) rfl (by simp [stS]) hst2
    (fun x h1 h2 => by
      rcases hst2 x with ⟨g, _⟩ | ⟨g, _, g3⟩
      · exact .inl g
      · have hxa : x < (sts i).L.length := by omega
        rw [g, ← g3 hxa]
        exact a5.old x (by show x < lo; have : x < (sts 0).lo := h1; rw [← hlo] at this; exact Nat.lt_of_lt_of_le this hl.hlo) (by show x < (maskL r.foot 0 (sts i).L).length; rw [maskL_length]; exact hxa))
  refine ⟨R2, w', putV tm o.dst u, a1, b1, ?_, I.ext.trans b2, I.wq.trans I.ext.size b3, b4.trans I.D, ?_⟩
  · have hv2 : VR R2 w' (vs i) u := by
      refine a2.mono (fun x l hx => ?_) (fun x hx => by rw [b7]; exact hx) ⟨fun _ _ => rfl⟩
      rw [b5 x (by rw [← hlen1]; exact a3.dom x l hx)]; exact hx
    have hold := VL.ext I.fr b2
    have hput := putV_VL hold o.dst hv2
    refine ⟨by rw [← hput.1]; cases o.dst <;> simp [put, frS], fun s lv v h1 h2 => ?_⟩
    refine hput.2 s lv v ?_ h2
    rw [frS_at] at h1
    split at h1
    · rename_i hs
      rw [h.slot_add hn, hfr] at h1
      have hlen : (frs i).length = (frs 0).length := h.fr_len (by omega)
      cases hd : o.dst with
      | none =>
        have : wri rs i s = false := by simp [wri, hr, hl.dst, hd]
        rw [this] at h1
        simp only [put]; rw [frS_at, if_pos hs]; exact h1
      | some d =>
        by_cases hds : d = s
        · subst hds
          have : wri rs i d = true := by simp [wri, hr, hl.dst, hd]
          rw [this] at h1
          simp only [if_true, hd, put, List.getD_eq_getElem?_getD, List.getElem?_set, hlen, hs, Option.getD_some] at h1
          simp only [put, List.getElem?_set, if_true]
          rw [if_pos (by simp [frS, hs])]; exact h1
        · have : wri rs i s = false := by simp [wri, hr, hl.dst, hd, hds]
          rw [this] at h1
          simp only [put]
          rw [List.getElem?_set, if_neg hds, frS_at, if_pos hs]; exact h1
    · cases h1
  · intro j hj hS x h1 h2
    have hSj : S j = false ∧ j ≠ i := by
      simp only [addS, Bool.or_eq_false_iff, beq_eq_false_iff_ne] at hS; exact hS
    have hun := I.un j hj hSj.1 x h1 h2
    rcases Nat.lt_or_ge j i with hji | hji
    · have := h.len_mono (i := j + 1) (j := i) (by omega) (by omega)
      rw [b5 x (by omega), a5.rho x (by show x < (maskL r.foot 0 (sts i).L).length; rw [maskL_length]; omega), cutR_lt (by omega)]; exact hun
    · have := h.len_mono (i := i + 1) (j := j) (by omega) (by omega)
      rw [b6 x (by omega)]; exact hun
end
end Gz
