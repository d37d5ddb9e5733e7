/- Regions that are run in any order: the whole. -/
import Derived.Test.YtpdomjkgdlineaaBXDraw3
import Derived.Orders
set_option linter.unusedVariables false
set_option linter.unusedSimpArgs false
set_option linter.unnecessarySimpa false
set_option linter.deprecated false
namespace Gz
open Go

theorem befOf_bit {rs : List Rec} {o : Oper} {j : Nat} (h : Nat.testBit (befOf rs o) j = true) : ∃ e, e ∈ o.after ∧ Region.binds .any e = true ∧ (j = e.on ∨ ∃ r, rs[e.on]? = some r ∧ Nat.testBit r.bef j = true) := by
  unfold befOf at h
  rw [← Array.foldl_toList] at h
  have key : ∀ (l : List Edge) (s : Nat), Nat.testBit (l.foldl (fun s e => if Region.binds .any e then s ||| 2 ^ e.on ||| ((rs[e.on]?).map (·.bef)).getD 0 else s) s) j = true →
      Nat.testBit s j = true ∨ ∃ e, e ∈ l ∧ Region.binds .any e = true ∧ (j = e.on ∨ ∃ r, rs[e.on]? = some r ∧ Nat.testBit r.bef j = true) := by
    intro l
    induction l with
    | nil => intro s h; exact .inl h
    | cons e l ih =>
      intro s h
      rw [List.foldl_cons] at h
      rcases ih _ h with h1 | ⟨e', h1, h2⟩
      · split at h1
        · rename_i hb
          rw [Nat.testBit_or, Nat.testBit_or, Bool.or_eq_true, Bool.or_eq_true] at h1
          rcases h1 with (h1 | h1) | h1
          · exact .inl h1
          · right
            rw [Nat.testBit_two_pow] at h1
            exact ⟨e, List.mem_cons_self, hb, .inl (by simpa using (of_decide_eq_true h1).symm)⟩
          · right
            cases hq : rs[e.on]? with
            | none => rw [hq] at h1; simp at h1
            | some r => rw [hq] at h1; exact ⟨e, List.mem_cons_self, hb, .inr ⟨r, hq, h1⟩⟩
        · exact .inl h1
      · exact .inr ⟨e', List.mem_cons_of_mem _ h1, h2⟩
  rcases key _ _ h with h1 | ⟨e, h1, h2⟩
  · simp at h1
  · exact ⟨e, by simpa using h1, h2⟩

section
variable {P : Program} {fid : Nat} {all : List Oper} {rs : List Rec} {n : Nat} {frs : Nat → List LV} {sts : Nat → St} {vs : Nat → LV}

theorem Run.goes (h : Run P fid all rs n frs sts vs) {R0 : Rl} {w0 : World} {b : Frame} {df : List Deferred} {k : List Item} {cs : List Frame} {ops : Array Oper} (ho : ops.toList = all) (hb : b.fn = fid) :
    ∀ (fuel t : Nat) (listed : Array Bool) (S : Nat → Bool) (R : Rl) (w : World) (tm : Array Value), listed.size = n → (∀ i, i < n → listed[i]? = some (S i)) → Closed rs n S → (List.range n).countP (fun i => !S i) ≤ fuel → InvS rs n frs sts S R0 w0 R w tm →
      ∃ S' R' w' tm', (∀ i, i < n → S' i = true) ∧ Steps P (lone (fa b tm df (.inRegion ops (Region.linearise.go .any ops fuel t listed []) :: k)) cs w) (lone (fa b tm' df k) cs w') ∧ InvS rs n frs sts S' R0 w0 R' w' tm'
  | 0, t, listed, S, R, w, tm, hsz, hS, hc, hn, I => by
    refine ⟨S, R, w, tm, fun i hi => ?_, ?_, I⟩
    · have := List.countP_eq_zero.1 (Nat.le_zero.1 hn) i (by simpa using hi)
      simpa using this
    · simp only [Region.linearise.go, List.reverse_nil]
      exact .one st_region_end
  | fuel + 1, t, listed, S, R, w, tm, hsz, hS, hc, hn, I => by
    have hops : ops.size = n := by rw [← Array.length_toList, ho, h.hall]
    have hlis : ∀ i, i < n → ∀ d, listed.getD i d = S i := by
      intro i hi d
      have := hS i hi
      rw [Array.getD_eq_getD_getElem?, this]; rfl
    have hready : ∀ i, i ∈ Region.ready .any ops listed ↔ i < n ∧ S i = false ∧ ∃ o, all[i]? = some o ∧ ∀ e, e ∈ o.after → Region.binds .any e = true → listed.getD e.on false = true := by
      intro i
      simp only [Region.ready, List.mem_filter, List.mem_range, hops, Bool.and_eq_true, Bool.not_eq_true']
      constructor
      · rintro ⟨h1, h2, h3⟩
        have hoi : ops[i]? = some ops[i] := Array.getElem?_eq_getElem (by omega)
        refine ⟨h1, by rw [hlis i h1] at h2; exact h2, ops[i], by rw [← ho]; simpa using hoi, fun e he hbd => ?_⟩
        rw [hoi] at h3
        simp only [Option.map_some, Option.getD_some, Array.all_eq_true_iff_forall_mem, Bool.or_eq_true, Bool.not_eq_true'] at h3
        rcases h3 e he with h4 | h4
        · rw [hbd] at h4; cases h4
        · exact h4
      · rintro ⟨h1, h2, o, h3, h4⟩
        have hoi : ops[i]? = some o := by rw [← ho] at h3; simpa using h3
        refine ⟨h1, by rw [hlis i h1]; exact h2, ?_⟩
        rw [hoi]
        simp only [Option.map_some, Option.getD_some, Array.all_eq_true_iff_forall_mem, Bool.or_eq_true, Bool.not_eq_true']
        intro e he
        cases hbd : Region.binds .any e with
        | false => exact .inl rfl
        | true => exact .inr (h4 e he hbd)
    have hgo : Region.linearise.go .any ops (fuel + 1) t listed [] = match (Region.ready .any ops listed)[t % (Region.ready .any ops listed).length]? with
        | some i => Region.linearise.go .any ops fuel (t / (Region.ready .any ops listed).length) (listed.setIfInBounds i true) [i]
        | none => [] := rfl
    rw [hgo]
    cases hi : (Region.ready .any ops listed)[t % (Region.ready .any ops listed).length]? with
    | none =>
      have hnil : Region.ready .any ops listed = [] := by
        cases hr : Region.ready .any ops listed with
        | nil => rfl
        | cons x xs =>
          rw [hr] at hi
          have hlt : t % (x :: xs).length < (x :: xs).length := Nat.mod_lt _ (by simp)
          rw [List.getElem?_eq_getElem hlt] at hi; cases hi
      refine ⟨S, R, w, tm, ?_, .one st_region_end, I⟩
      -- the first that is left would be ready
      intro i
      induction i using Nat.strongRecOn with
      | _ i ih =>
        intro hin
        cases hSi : S i with
        | true => rfl
        | false =>
          exfalso
          obtain ⟨o, r, st1, lo, h1, h2, hl, _⟩ := h.link i hin
          have : i ∈ Region.ready .any ops listed := (hready i).2 ⟨hin, hSi, o, h1, fun e he hbd => by
            have := hl.edges e he hbd
            rw [List.length_take] at this
            rw [hlis e.on (by omega)]; exact ih e.on (by omega) (by omega)⟩
          rw [hnil] at this; cases this
    | some i =>
      obtain ⟨h1, h2, o, h3, h4⟩ := (hready i).1 (List.mem_of_getElem? hi)
      simp only
      rw [linearise_go_acc, List.reverse_singleton, List.singleton_append]
      obtain ⟨o', r, st1, lo, g1, g2, hl, _⟩ := h.link i h1
      rw [h3] at g1; cases g1
      have hbef : ∀ j, Nat.testBit r.bef j = true → S j = true := by
        intro j hj
        rw [hl.bef] at hj
        obtain ⟨e, he, hbd, hj⟩ := befOf_bit hj
        have hel := hl.edges e he hbd
        rw [List.length_take, h.len] at hel
        have hSe : S e.on = true := by rw [← hlis e.on (by omega) false]; exact h4 e he hbd
        rcases hj with rfl | ⟨r', hr', hj⟩
        · exact hSe
        · rw [List.getElem?_take, if_pos (by omega)] at hr'
          exact hc e.on (by omega) hSe r' hr' j hj
      have hN : Next1 rs n S i := ⟨h1, hc, h2, fun r' hr' j hj => by rw [g2] at hr'; cases hr'; exact hbef j hj⟩
      obtain ⟨R1, w1, tm1, a1, a2⟩ := h.more (k := k) (cs := cs) (df := df) (rest := Region.linearise.go .any ops fuel (t / (Region.ready .any ops listed).length) (listed.setIfInBounds i true) []) hN I ho hb
      have hadd : ∀ j, j < n → (listed.setIfInBounds i true)[j]? = some (addS S i j) := by
        intro j hj
        rw [Array.getElem?_setIfInBounds]
        split
        · rename_i e; subst e; simp [addS, hsz, h1]
        · rename_i e
          have : (j == i) = false := by simpa using fun e' => e e'.symm
          rw [hS j hj]; simp [addS, this]
      have hcl : Closed rs n (addS S i) := by
        intro x hx hSx r' hr' j hj
        simp only [addS, Bool.or_eq_true, beq_iff_eq] at hSx ⊢
        rcases hSx with hSx | rfl
        · exact .inl (hc x hx hSx r' hr' j hj)
        · rw [g2] at hr'; cases hr'; exact .inl (hbef j hj)
      have hcnt : (List.range n).countP (fun j => !addS S i j) ≤ fuel := by
        have hlt : (List.range n).countP (fun j => !addS S i j) < (List.range n).countP (fun j => !S j) := by
          have hmem : i ∈ List.range n := by simpa using h1
          have hgen : ∀ (l : List Nat), i ∈ l → l.countP (fun j => !addS S i j) < l.countP (fun j => !S j) := by
            intro l
            induction l with
            | nil => intro hm; cases hm
            | cons x l ih =>
              intro hm
              have hle : l.countP (fun j => !addS S i j) ≤ l.countP (fun j => !S j) := List.countP_mono_left (fun y _ hy => by
                simp only [addS, Bool.not_or, Bool.and_eq_true] at hy; exact hy.1)
              rw [List.countP_cons, List.countP_cons]
              by_cases hxi : x = i
              · subst hxi
                have e1 : (!addS S x x) = false := by simp [addS]
                have e2 : (!S x) = true := by rw [h2]; rfl
                rw [e1, e2]; simp; omega
              · have hm' : i ∈ l := by
                  rcases List.mem_cons.1 hm with e | hm'
                  · exact absurd e.symm hxi
                  · exact hm'
                have := ih hm'
                have e1 : (!addS S i x) = !S x := by
                  have : (x == i) = false := by simpa using hxi
                  simp [addS, this]
                rw [e1]; omega
          exact hgen _ hmem
        omega
      obtain ⟨S', R', w', tm', c1, c2, c3⟩ := h.goes ho hb fuel (t / (Region.ready .any ops listed).length) (listed.setIfInBounds i true) (addS S i) R1 w1 tm1 (by simpa using hsz) hadd hcl hcnt a2
      exact ⟨S', R', w', tm', c1, Steps.trans a1 c2, c3⟩

theorem V.drawn {ρ : Rho} {ro : Nat → Prop} {w : World} {n : Nat} {lv : LV} {v : Value} (h : V ρ ro w lv v) : V ρ ro { w with drawn := n } lv v := h.mono (fun _ _ h => h) (fun _ h => h) ⟨fun _ _ => rfl⟩

theorem Run.draw (hm : P.follows .mixedOrders = true) {ops : Array Oper} (h : Run P fid ops.toList rs n frs sts vs) (id : Nat) : CodeOK P (.region id ops true) fid (frs 0) (sts 0) .n (frs n) (sts n) := by
  intro R w tm b df k cs hb hs hf hin
  have hk0 : Keeps R.ro w { w with drawn := w.drawn + 1 } := ⟨fun _ _ => rfl⟩
  have h0n := h.len_mono (i := 0) (j := n) (Nat.zero_le _) (Nat.le_refl _)
  have hS0 : ∀ o, (stS sts rs n fun _ => false).L[o]? = if o < (sts n).L.length then some ((sts 0).L.getD o .dead) else none := by
    intro o
    rw [stS_at, cont_stop (i := 0) (Nat.zero_le _) (fun _ _ _ _ => rfl)]; rfl
  have hlive0 : ∀ o, live (stS sts rs n fun _ => false) o → live (sts 0) o := by
    intro o ⟨x, h1, h2⟩
    rw [hS0] at h1
    split at h1
    · cases h1
      by_cases ho : o < (sts 0).L.length
      · rw [List.getD_eq_getElem?_getD, List.getElem?_eq_getElem ho] at h2
        exact ⟨_, List.getElem?_eq_getElem ho, h2⟩
      · rw [List.getD_eq_getElem?_getD, List.getElem?_eq_none (by omega)] at h2
        simp [LO.live] at h2
    · cases h1
  have hat0 : ∀ (o : Nat) (x : LO), (sts 0).L[o]? = some x → (stS sts rs n fun _ => false).L[o]? = some x := by
    intro o x hx
    have := (List.getElem?_eq_some_iff.1 hx).1
    rw [hS0, if_pos (by omega), List.getD_eq_getElem?_getD, hx]; rfl
  have hsim0 : Sim R (stS sts rs n fun _ => false) { w with drawn := w.drawn + 1 } := by
    refine ⟨fun o l ho => by have := hs.dom o l ho; simp [stS]; omega, fun o l ob h1 h2 => ?_, fun o o' l l' b h1 h2 h3 h4 => hs.inj o o' l l' b h1 h2 (hlive0 o h3) (hlive0 o' h4), fun o l b h1 h2 => hs.wr o l b h1 (hlive0 o h2), hs.rolt, hs.dfr, hs.nodup, hs.old, hs.size, hs.os, hs.tape, hs.output⟩
    have ho := hs.dom o l h1
    rw [hS0, if_pos (by omega)] at h2
    cases h2
    have hx : (sts 0).L[o]? = some ((sts 0).L.getD o .dead) := by rw [List.getD_eq_getElem?_getD, List.getElem?_eq_getElem ho]; rfl
    exact (hs.obj o l _ h1 hx).mono (fun _ _ h => h) (fun _ h => h) hk0 (fun _ _ => rfl) (fun _ _ _ _ => rfl)
  have hfr0 : VLR R { w with drawn := w.drawn + 1 } (frS frs rs n fun _ => false) tm.toList := by
    refine ⟨by rw [← hf.1]; simp [frS], fun s lv v h1 h2 => ?_⟩
    rw [frS_at] at h1
    split at h1
    · rename_i hs'
      rw [slot_stop (i := 0) (Nat.zero_le _) (fun _ _ _ _ => rfl)] at h1
      refine (hf.2 s lv v ?_ h2).drawn
      simp only [slot, List.getD_eq_getElem?_getD, List.getElem?_eq_getElem hs', Option.getD_some] at h1
      rw [List.getElem?_eq_getElem hs']; exact h1
    · cases h1
  have I0 : InvS rs n frs sts (fun _ => false) R { w with drawn := w.drawn + 1 } R { w with drawn := w.drawn + 1 } tm :=
    ⟨hsim0, hfr0, Ext.refl _ _, Wq.refl _ _ _ _, rfl, fun j hj _ o h1 h2 => by
      cases hq : R.ρ o with
      | none => rfl
      | some l =>
        have := hs.dom o l hq
        have := h.len_mono (i := 0) (j := j) (Nat.zero_le _) (by omega)
        omega⟩
  have hops : ops.size = n := by rw [← Array.length_toList, h.hall]
  obtain ⟨S, R1, w1, tm1, hS, a1, I⟩ := h.goes (k := k) (cs := cs) (df := df) (R0 := R) (w0 := { w with drawn := w.drawn + 1 }) rfl hb n (w.tape w.drawn (.order b.fn id)) (Array.replicate n false) (fun _ => false) R _ tm (by simp) (fun i hi => by simp [hi]) (fun i _ hS => by cases hS) (by
    exact Nat.le_trans List.countP_le_length (by simp)) I0
  have hSn : stS sts rs n S = sts n := by
    have hL : (stS sts rs n S).L = (sts n).L := by
      refine List.ext_getElem? (fun o => ?_)
      rw [stS_at, h.cont_full (Nat.le_refl _) hS]
      split
      · rename_i ho; rw [List.getD_eq_getElem?_getD, List.getElem?_eq_getElem ho]; rfl
      · rename_i ho; rw [List.getElem?_eq_none (Nat.not_lt.1 ho)]
    have hlo := h.lo_eq (Nat.le_refl n)
    cases hq : sts n with
    | mk L lo => rw [hq] at hL hlo; simp only [stS] at hL ⊢; rw [hL, ← hlo]
  have hFn : frS frs rs n S = frs n := by
    refine List.ext_getElem? (fun s => ?_)
    have hl := h.fr_len (Nat.le_refl n)
    rw [frS_at, h.slot_full (Nat.le_refl _) hS]
    split
    · rename_i ho; rw [← hl] at ho; rw [List.getD_eq_getElem?_getD, List.getElem?_eq_getElem ho]; rfl
    · rename_i ho; rw [← hl] at ho; rw [List.getElem?_eq_none (Nat.not_lt.1 ho)]
  have hI := I.sim
  have hF := I.fr
  have hW := I.wq
  rw [hSn] at hI hW
  rw [hFn] at hF
  refine ⟨R1, w1, tm1, [], ?_, hI, hF, ⟨I.ext.ρ, I.ext.ro, ⟨fun x hx => I.ext.keeps.same x hx⟩, I.ext.base, I.ext.w0, I.ext.size⟩, ?_, I.D, fun _ => rfl, fun d hd => by cases hd⟩
  · show Steps P _ _
    refine .head st_region_draw ?_
    simp only [Region.schedule, hm, Bool.true_or, if_true, Region.linearise, hops]
    exact a1
  · have hown : ∀ x, owned R (stS sts rs n fun _ => false) x → owned R (sts 0) x := fun x ⟨o, l, h1, h2, h3, h4⟩ => ⟨o, l, h1, hlive0 o h2, h3, h4⟩
    have hhas : ∀ x, hasB R (stS sts rs n fun _ => false) x → hasB R (sts 0) x := fun x ⟨o, l, h1, h2, h4⟩ => ⟨o, l, h1, hlive0 o h2, h4⟩
    refine ⟨hW.lo, h0n, fun x hx hno => hW.same x hx (fun h => hno (hown x h)), fun x hx ho => hown x (hW.own x hx ho), fun o h1 h2 => ?_, fun o f1 f2 f3 f4 f5 f6 f7 ho => hW.lp o f1 f2 f3 f4 f5 f6 f7 (hat0 o _ ho), fun o ho => ?_, fun o ho => hW.rho o ho, fun x hx hr => (hW.rof x hx hr).imp (fun h => h) (hhas x), fun x hx hr => hhas x (hW.hasb x hx hr)⟩
    · have hx : (sts 0).L[o]? = some (sts 0).L[o] := List.getElem?_eq_getElem h2
      rcases hW.old o h1 h2 with h3 | ⟨t, e, h3, h4⟩
      · exact .inl (h3.trans ((hat0 o _ hx).trans hx.symm))
      · rw [hat0 o _ hx] at h3
        exact .inr ⟨t, e, hx.trans h3, h4⟩
    · obtain ⟨f1, f2, f3, f4, f5, f6, f7, h3⟩ := hW.nl o ho
      rw [hS0] at h3
      split at h3
      · have h3 := Option.some.inj h3
        exact ⟨f1, f2, f3, f4, f5, f6, f7, getD_some h3 (by simp)⟩
      · cases h3
end
end Gz
