/- Calls by themselves. -/
import Derived.Test.YtpdomjkgdlineaaBXRange
set_option linter.unusedVariables false
set_option linter.unusedSimpArgs false
set_option linter.unnecessarySimpa false
set_option linter.deprecated false
namespace Gz
open Go

section
variable {P : Program} {C : Cfg} {R : Rl} {st st1 : St} {w : World}

theorem clo_of_clo1 {v : LV} (h : clo1 v = true) : clo v = true := by cases v <;> first | exact h | simp [clo1] at h

theorem enc_clo {g : Tag} {y : El g} {x : LV} (h : x ∈ enc g y) : clo1 x = true :=
  List.all_eq_true.1 (show (enc g y).all clo1 = true by cases g <;> rfl) x h
theorem flat_clo {t : TL} {x : LV} (h : x ∈ t.flat) : clo1 x = true := by
  unfold TL.flat at h
  obtain ⟨y, _, h2⟩ := List.mem_flatMap.1 h
  exact enc_clo h2

theorem V.clo {ρ ρ' : Rho} {ro : Nat → Prop} {w : World} {lv : LV} {u : Value} (h : V ρ ro w lv u) (hc : Gz.clo lv = true) : V ρ' ro w lv u := by
  have hmem : ∀ {t : TL} {j : Nat} {x : LV}, t.flat[j]? = some x → Gz.clo x = true := fun h => clo_of_clo1 (flat_clo (List.mem_of_getElem? h))
  induction h with
  | u v => exact .u v
  | b t => exact .b t
  | i k n => exact .i k n
  | s x => exact .s x
  | pblk h => simp [Gz.clo, clo1] at hc
  | prow h he => simp [Gz.clo, clo1] at hc
  | pnil => exact .pnil
  | pv he hr hx h1 hl _ ih => exact .pv he hr hx h1 hl (fun j lv v h1 h2 => ih j lv v h1 h2 (hmem h1))
  | sl h => simp [Gz.clo, clo1] at hc
  | slv hcap hr hx h1 hl _ ih => exact .slv hcap hr hx h1 hl (fun j lv v h1 h2 => ih j lv v h1 h2 (hmem h1))
  | slve h => exact .slve h
  | slnil g => exact .slnil g
  | av h1 hl _ ih => exact .av h1 hl (fun j lv v h1 h2 => ih j lv v h1 h2 (hmem h1))
  | fn hl _ ih => exact .fn hl (fun j lv v h1 h2 => ih j lv v h1 h2 (clo_of_clo1 (List.all_eq_true.1 hc _ (List.mem_of_getElem? h1))))
  | yl h => simp [Gz.clo, clo1] at hc
  | fnil => exact .fnil
  | ag h1 hl _ ih => exact .ag h1 hl (fun j lv v h1 h2 => ih j lv v h1 h2 (clo_of_clo1 (List.all_eq_true.1 hc _ (List.mem_of_getElem? h1))))
  | tu hl _ ih => simp [Gz.clo, clo1] at hc
theorem VL.clo {ρ ρ' : Rho} {ro : Nat → Prop} {w : World} {l : List LV} {us : List Value} (h : VL ρ ro w l us) (hc : l.all Gz.clo = true) : VL ρ' ro w l us :=
  ⟨h.1, fun j lv v h1 h2 => (h.2 j lv v h1 h2).clo (List.all_eq_true.1 hc _ (List.mem_of_getElem? h1))⟩
theorem VC.flat_ρ {ρ ρ' : Rho} {ro : Nat → Prop} {w : World} {t : TL} {us : List Value} (h : VC ρ ro w t.flat us) : VC ρ' ro w t.flat us :=
  ⟨h.vl.clo (List.all_eq_true.2 fun _ hx => clo_of_clo1 (flat_clo hx)), h.one⟩

/-- Values that speak of nothing that is kept elsewhere. -/
def lit : LV → Bool
  | .i .. | .b _ => true
  | _ => false
theorem enc_pln {g : Tag} (hg : flatTag g = true) {y : El g} {x : LV} (h : x ∈ enc g y) : lit x = true :=
  List.all_eq_true.1 (show (enc g y).all lit = true by cases g <;> first | rfl | (cases hg)) x h
theorem lit_V {ρ ρ' : Rho} {ro ro' : Nat → Prop} {w w' : World} {lv : LV} {u : Value} (h : V ρ ro w lv u) (hp : lit lv = true) : V ρ' ro' w' lv u := by
  cases lv <;> simp only [lit, Bool.false_eq_true] at hp
  · cases h; exact .b _
  · cases h; exact .i _ _
theorem flat_lit {t : TL} (hg : flatTag t.g = true) {x : LV} (h : x ∈ t.flat) : lit x = true := by
  unfold TL.flat at h
  obtain ⟨y, _, h2⟩ := List.mem_flatMap.1 h
  exact enc_pln hg h2
theorem VC.flat_any {ρ ρ' : Rho} {ro ro' : Nat → Prop} {w w' : World} {t : TL} {us : List Value} (h : VC ρ ro w t.flat us) (hg : flatTag t.g = true) : VC ρ' ro' w' t.flat us :=
  ⟨⟨h.vl.1, fun j lv v h1 h2 => lit_V (h.vl.2 j lv v h1 h2) (flat_lit hg (List.mem_of_getElem? h1))⟩, h.one⟩

theorem plain1xV {ρ ρ' : Rho} {ro ro' : Nat → Prop} {w w' : World} {lv : LV} {u : Value} (h : V ρ ro w lv u) (hp : plain1 lv = true) (hρ : ∀ o l, ρ o = some l → ρ' o = some l) : V ρ' ro' w' lv u := by
  cases h with
  | b t => exact .b t
  | i k n => exact .i k n
  | s x => exact .s x
  | pnil => exact .pnil
  | sl h => exact .sl (hρ _ _ h)
  | slnil g => exact .slnil g
  | fnil => exact .fnil
  | av h1 hl hV =>
    exact .av h1 hl (fun j lv v h3 h4 => lit_V (hV j lv v h3 h4) (flat_lit hp (List.mem_of_getElem? h3)))
  | u v => simp [plain1] at hp
  | pblk h => simp [plain1] at hp
  | prow h he => simp [plain1] at hp
  | pv => simp [plain1] at hp
  | slv => simp [plain1] at hp
  | slve h => simp [plain1] at hp
  | fn => simp [plain1] at hp
  | yl => simp [plain1] at hp
  | ag => simp [plain1] at hp
  | tu => simp [plain1] at hp

theorem plainV_V {ρ ρ' : Rho} {ro ro' : Nat → Prop} {w w' : World} {lv : LV} {u : Value} (h : V ρ ro w lv u) (hp : plainV lv = true) (hρ : ∀ o l, ρ o = some l → ρ' o = some l) : V ρ' ro' w' lv u := by
  cases lv
  case ag cs =>
    obtain ⟨us, rfl, hc⟩ := V.ag_inv h
    exact .ag hc.one hc.vl.1 (fun j lv v h1 h2 => plain1xV (hc.vl.2 j lv v h1 h2) (List.all_eq_true.1 hp _ (List.mem_of_getElem? h1)) hρ)
  all_goals exact plain1xV h hp hρ
theorem plain_V {ρ ρ' : Rho} {ro ro' : Nat → Prop} {w w' : World} {lv : LV} {u : Value} (h : V ρ ro w lv u) (hp : plain lv = true) (hρ : ∀ o l, ρ o = some l → ρ' o = some l) : V ρ' ro' w' lv u := by
  cases lv
  case tu cs =>
    obtain ⟨us, rfl, hc⟩ := V.tu_inv h
    exact .tu hc.1 (fun j lv v h1 h2 => plainV_V (hc.2 j lv v h1 h2) (List.all_eq_true.1 hp _ (List.mem_of_getElem? h1)) hρ)
  all_goals exact plainV_V h hp hρ

/-! What is handed back. -/
structure OutInv (R : Rl) (st : St) (w : World) (a : List (TL × Nat) × List Nat) (ls : List Loc) : Prop where
  len : ls.length = a.1.length
  obj : ∀ (i : Nat) (t : TL) (e : Nat) (l : Loc), a.1[i]? = some (t, e) → ls[i]? = some l → ObjRel R.ρ R.ro R.base w (.arr t e) l
  own : ∀ (i : Nat) (l : Loc) (b : Nat), ls[i]? = some l → l.block = some b → ∃ o, o ∈ a.2 ∧ R.ρ o = some l ∧ live st o
  inj : ∀ (i j : Nat) (l m : Loc) (b : Nat), ls[i]? = some l → ls[j]? = some m → l.block = some b → m.block = some b → i = j

/-- Where what is handed back lies, n objects on. -/
def At (n : Nat) (ls : List Loc) (ρ : Rho) : Prop := ∀ i l, ls[i]? = some l → ρ (n + i) = some l
theorem At.less {n : Nat} {ls m : List Loc} {ρ : Rho} (h : At n (ls ++ m) ρ) : At n ls ρ := fun i l hi => h i l (by rw [List.getElem?_append_left (List.getElem?_eq_some_iff.1 hi).1]; exact hi)

theorem OutInv.add {a : List (TL × Nat) × List Nat} {ls : List Loc} {t : TL} {e o : Nat} {l : Loc} (hs : Sim R st w) (h : OutInv R st w a ls) (hob : ObjRel R.ρ R.ro R.base w (.arr t e) l) (hl : ∀ b, l.block = some b → R.ρ o = some l ∧ live st o ∧ o ∉ a.2) (os : List Nat) (hos : ∀ x, x ∈ a.2 → x ∈ os) (ho : (∃ b, l.block = some b) → o ∈ os) :
    OutInv R st w (a.1 ++ [(t, e)], os) (ls ++ [l]) := by
  have at_ : ∀ (i : Nat) (x : Loc), (ls ++ [l])[i]? = some x → ls[i]? = some x ∨ (i = ls.length ∧ x = l) := by
    intro i x hi
    by_cases h1 : i < ls.length
    · rw [List.getElem?_append_left h1] at hi; exact .inl hi
    · rw [List.getElem?_append_right (by omega)] at hi
      have : i - ls.length = 0 := by
        have := (List.getElem?_eq_some_iff.1 hi).1; simp at this; omega
      rw [this] at hi; simp at hi
      exact .inr ⟨by omega, hi.symm⟩
  refine ⟨by simp [h.len], ?_, ?_, ?_⟩
  · intro i t' e' x h1 h2
    rcases at_ i x h2 with h3 | ⟨h3, rfl⟩
    · rw [List.getElem?_append_left (by rw [← h.len]; exact (List.getElem?_eq_some_iff.1 h3).1)] at h1
      exact h.obj i t' e' x h1 h3
    · rw [List.getElem?_append_right (by rw [← h.len]; omega), ← h.len, h3, Nat.sub_self] at h1
      simp at h1; obtain ⟨rfl, rfl⟩ := h1; exact hob
  · intro i x b h1 h2
    rcases at_ i x h1 with h3 | ⟨h3, rfl⟩
    · obtain ⟨o', h4, h5⟩ := h.own i x b h3 h2; exact ⟨o', hos _ h4, h5⟩
    · obtain ⟨h4, h5, h6⟩ := hl b h2; exact ⟨o, ho ⟨b, h2⟩, h4, h5⟩
  · have key : ∀ (i : Nat) (x : Loc) (b : Nat), ls[i]? = some x → x.block = some b → l.block = some b → False := by
      intro i x b h1 h2 h3
      obtain ⟨o', h4, h5, h6⟩ := h.own i x b h1 h2
      obtain ⟨h7, h8, h9⟩ := hl b h3
      have := hs.inj o' o x l b h5 h7 h6 h8 h2 h3
      subst this; exact h9 h4
    intro i j x y b h1 h2 h3 h4
    rcases at_ i x h1 with h5 | ⟨h5, rfl⟩ <;> rcases at_ j y h2 with h6 | ⟨h6, rfl⟩
    · exact h.inj i j x y b h5 h6 h3 h4
    · exact (key i x b h5 h3 h4).elim
    · exact (key j y b h6 h4 h3).elim
    · omega

theorem outOne_sound {a : List (TL × Nat) × List Nat} {ls : List Loc} {v : LV} {u : Value} (hs : Sim R st w) (h : OutInv R st w a ls) (hv : VR R w v u) :
    ∃ ls', OutInv R st w (outOne C st a v).2 (ls ++ ls') ∧ ∀ n ρ, At n (ls ++ ls') ρ → V ρ R.ro w (shOne n (outOne C st a v).1) u := by
  have self : ∀ x, (∀ n ρ, V ρ R.ro w (shOne n x) u) → ∃ ls', OutInv R st w a (ls ++ ls') ∧ ∀ n ρ, At n (ls ++ ls') ρ → V ρ R.ro w (shOne n x) u := fun x hx => ⟨[], by simpa using h, fun n ρ _ => hx n ρ⟩
  cases v
  case sl o =>
    obtain ⟨A, cap, len, g, hρ, rfl⟩ := V.sl_inv hv
    simp only [outOne]
    have hgd : ∀ ob, st.L.getD o .dead = ob → ob ≠ .dead → st.L[o]? = some ob := by
      intro ob h1 h2
      rw [List.getD_eq_getElem?_getD] at h1
      cases hq : st.L[o]? with
      | none => rw [hq] at h1; exact absurd h1.symm h2
      | some x => rw [hq] at h1; simp at h1; rw [h1]
    split
    · rename_i t e he
      have ho := hgd _ he (by simp)
      split
      · exact self _ (fun n ρ => .u _)
      · rename_i hc
        have hob := hs.obj o _ _ hρ ho
        refine ⟨[.row A cap len g], h.add (o := o) hs hob (fun b hb => ⟨hρ, ⟨_, ho, rfl⟩, by simpa using hc⟩) _ (fun x hx => by simp [hx]) (fun _ => by simp), ?_⟩
        exact fun n ρ hat => .sl (A := A) (cap := cap) (len := len) (g := g) (hat _ _ (by rw [← h.len]; simp))
    · rename_i t ht
      have ho := hgd _ ht (by simp)
      have hob := hs.obj o _ _ hρ ho
      refine self _ (fun n ρ => ?_)
      obtain ⟨hg, hlen, hro, e, xs, hown, hxs⟩ := hob
      subst hlen
      cases A with
      | none =>
        rcases hown.2 with ⟨h1, h2⟩ | ⟨g', cap', cur, h1, _⟩
        · simp [slv_] at h1
          simp only [slv_, Option.map_none, h1.2, h2]
          exact .slve h2
        · simp [slv_] at h1
      | some b =>
        have hc : t.len ≤ cap := by
          rcases hown.2 with ⟨h1, h2⟩ | ⟨g', cap', cur, h1, _, _, h2, _⟩
          · simp [slv_] at h1
          · simp [slv_] at h1; omega
        have hx' : VC ρ R.ro w t.flat xs := hxs.flat_ρ
        exact .slv hc (hro b rfl) (hown.cells (g := b) rfl) hx'.one hx'.vl.1 hx'.vl.2
    · exact self _ (fun n ρ => .u _)
  case slnil g =>
    cases hv
    simp only [outOne]
    refine ⟨[.row none 0 0 g], h.add (t := ⟨g, []⟩) (e := C.elemOf g) (l := .row none 0 0 g) (o := 0) hs ⟨rfl, rfl, [], ⟨by simp, .inl ⟨rfl, rfl⟩⟩, ⟨VL.nil, by simp⟩⟩ (fun b hb => by cases hb) _ (fun x hx => hx) (fun ⟨b, hb⟩ => by cases hb), ?_⟩
    exact fun n ρ hat => .sl (A := none) (cap := 0) (len := 0) (g := g) (hat _ _ (by rw [← h.len]; simp))
  case p => exact self _ (fun n ρ => .u _)
  case mp => exact self _ (fun n ρ => .u _)
  case yl => exact self _ (fun n ρ => .u _)
  case fn => exact self _ (fun n ρ => .u _)
  case ag => exact self _ (fun n ρ => .u _)
  case tu => exact self _ (fun n ρ => .u _)
  all_goals exact self _ (fun n ρ => hv.clo rfl)

theorem outOne_sh {a : List (TL × Nat) × List Nat} {v : LV} (n : Nat) : shV n (outOne C st a v).1 = shOne n (outOne C st a v).1 ∧ shift n (outOne C st a v).1 = shOne n (outOne C st a v).1 := by
  cases v
  case sl o =>
    simp only [outOne]
    split
    · split <;> exact ⟨rfl, rfl⟩
    · exact ⟨rfl, rfl⟩
    · exact ⟨rfl, rfl⟩
  all_goals exact ⟨rfl, rfl⟩

theorem outL_sound : ∀ {l : List LV} {us : List Value} {a : List (TL × Nat) × List Nat} {ls : List Loc}, Sim R st w → OutInv R st w a ls → VLR R w l us →
    ∃ ls', OutInv R st w (outL C st a l).2 (ls ++ ls') ∧ ∀ n ρ, At n (ls ++ ls') ρ → VL ρ R.ro w ((outL C st a l).1.map (shOne n)) us
  | [], us, a, ls, hs, h, hv => ⟨[], by simpa [outL] using h, by have := hv.of_nil; subst this; exact fun _ _ _ => VL.nil⟩
  | v :: l, us, a, ls, hs, h, hv => by
    obtain ⟨u, us', rfl, h1, h2⟩ := hv.of_cons
    obtain ⟨l1, a1, a2⟩ := outOne_sound (C := C) hs h h1
    obtain ⟨l2, b1, b2⟩ := outL_sound hs a1 h2
    exact ⟨l1 ++ l2, by rw [← List.append_assoc]; exact b1, fun n ρ hat => by rw [← List.append_assoc] at hat; exact VL.cons (a2 n ρ hat.less) (b2 n ρ hat)⟩

theorem outV_sound {a : List (TL × Nat) × List Nat} {ls : List Loc} {v : LV} {u : Value} (hs : Sim R st w) (h : OutInv R st w a ls) (hv : VR R w v u) :
    ∃ ls', OutInv R st w (outV C st a v).2 (ls ++ ls') ∧ ∀ n ρ, At n (ls ++ ls') ρ → V ρ R.ro w (shV n (outV C st a v).1) u := by
  cases v
  case ag cs =>
    obtain ⟨us, rfl, hc⟩ := V.ag_inv hv
    obtain ⟨l1, a1, a2⟩ := outL_sound (C := C) hs h hc.vl
    exact ⟨l1, a1, fun n ρ hat => .ag hc.one (a2 n ρ hat).1 (a2 n ρ hat).2⟩
  all_goals
    obtain ⟨ls', h1, h2⟩ := outOne_sound (C := C) hs h hv
    refine ⟨ls', h1, fun n ρ hat => ?_⟩
    simp only [outV, (outOne_sh n).1]
    exact h2 n ρ hat

theorem outVs_sound : ∀ {l : List LV} {us : List Value} {a : List (TL × Nat) × List Nat} {ls : List Loc}, Sim R st w → OutInv R st w a ls → VLR R w l us →
    ∃ ls', OutInv R st w (outVs C st a l).2 (ls ++ ls') ∧ ∀ n ρ, At n (ls ++ ls') ρ → VL ρ R.ro w ((outVs C st a l).1.map (shV n)) us
  | [], us, a, ls, hs, h, hv => ⟨[], by simpa [outVs] using h, by have := hv.of_nil; subst this; exact fun _ _ _ => VL.nil⟩
  | v :: l, us, a, ls, hs, h, hv => by
    obtain ⟨u, us', rfl, h1, h2⟩ := hv.of_cons
    obtain ⟨l1, a1, a2⟩ := outV_sound (C := C) hs h h1
    obtain ⟨l2, b1, b2⟩ := outVs_sound hs a1 h2
    exact ⟨l1 ++ l2, by rw [← List.append_assoc]; exact b1, fun n ρ hat => by rw [← List.append_assoc] at hat; exact VL.cons (a2 n ρ hat.less) (b2 n ρ hat)⟩

theorem out2xsound {v : LV} {u : Value} (hs : Sim R st w) (hv : VR R w v u) :
    ∃ ls, OutInv R st w (out2 C st v).2 ls ∧ ∀ n ρ, At n ls ρ → V ρ R.ro w (shift n (out2 C st v).1) u := by
  have h : OutInv R st w ([], []) [] := ⟨rfl, fun i t e l h => by simp at h, fun i l b h => by simp at h, fun i j l m b h => by simp at h⟩
  cases v
  case tu cs =>
    obtain ⟨us, rfl, hc⟩ := V.tu_inv hv
    obtain ⟨l1, a1, a2⟩ := outVs_sound (C := C) hs h hc
    exact ⟨l1, a1, fun n ρ hat => .tu (a2 n ρ hat).1 (a2 n ρ hat).2⟩
  case ag cs =>
    obtain ⟨l1, a1, a2⟩ := outV_sound (C := C) hs h hv
    exact ⟨l1, a1, a2⟩
  all_goals
    obtain ⟨l1, a1, a2⟩ := outOne_sound (C := C) hs h hv
    refine ⟨l1, a1, fun n ρ hat => ?_⟩
    simp only [out2, outV, (outOne_sh n).2]
    exact a2 n ρ hat
end
end Gz
