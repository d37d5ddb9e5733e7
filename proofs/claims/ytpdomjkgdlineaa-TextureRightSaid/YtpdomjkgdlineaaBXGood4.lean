/- Each operation of the machine does what the evaluator says: what grows. -/
import Derived.Test.YtpdomjkgdlineaaBXGood3
import Derived.Maps.AppendAt
set_option linter.unusedVariables false
set_option linter.unusedSimpArgs false
set_option linter.unnecessarySimpa false
set_option linter.deprecated false
namespace Gz
open Go

section
variable {P : Program} {C : Cfg} {R : Rl} {st : St} {w : World} {fr : List LV} {tmps : Array Value}

/-- A slice has grown: its old name is given up, it has a new one. -/
theorem Sim.grow {R : Rl} {st st1 : St} {w w' : World} (hs : Sim R st w) (hL : st1.L.length = st.L.length) (hlo : st1.lo = st.lo) (hst : ∀ k : Nat, st1.L[k]? = st.L[k]? ∨ (st.lo ≤ k ∧ st1.L[k]? = some .dead ∧ ¬ LoopAt st k))
    (row : Option Nat) (hrow : ∀ b, row = some b → ∃ o l, R.ρ o = some l ∧ live st o ∧ st.lo ≤ o ∧ l.block = some b ∧ st1.L[o]? = some .dead ∧ ∃ arr e, w.heap[b]? = some (.cells arr e (0, 0))) (hg : w.grownBy w' row)
    {A' : Option Nat} {cap' len' : Nat} {g : Tag} {t' : TL} {ety : Nat} (hA : ∀ b, A' = some b → (row = some b ∨ b = w.heap.size) ∧ b < w'.heap.size)
    (hob : (∀ o l, R.ρ o = some l → upd R.ρ st.L.length (.row A' cap' len' g) o = some l) → Keeps R.ro w w' → ObjRel (upd R.ρ st.L.length (.row A' cap' len' g)) R.ro R.base w' (.arr t' ety) (.row A' cap' len' g)) :
    Sim { R with ρ := upd R.ρ st.L.length (.row A' cap' len' g) } (new st1 (.arr t' ety)) w' ∧ Ext R { R with ρ := upd R.ρ st.L.length (.row A' cap' len' g) } w w' ∧ Wm R { R with ρ := upd R.ρ st.L.length (.row A' cap' len' g) } st (new st1 (.arr t' ety)) w w' := by
  have hρ : ∀ o l', R.ρ o = some l' → upd R.ρ st.L.length (.row A' cap' len' g) o = some l' := by
    intro o l' h
    have := hs.dom o l' h
    simp only [upd]; rw [if_neg (by omega)]; exact h
  have hlt : ∀ o l' b, R.ρ o = some l' → live st o → l'.block = some b → b < w.heap.size := fun o l' b h1 h2 h3 => (hs.wr o l' b h1 h2 h3).2.1
  have hk : Keeps R.ro w w' := by
    refine ⟨fun b hb => hg.block b (hs.rolt b hb) ?_⟩
    intro e
    obtain ⟨o, l, h1, h2, _, h3, _⟩ := hrow b e.symm
    exact (hs.wr o l b h1 h2 h3).2.2 hb
  have hdfr : ∀ d : Nat, w.heap[d]? = some (.deferred (some [])) → w'.heap[d]? = some (.deferred (some [])) := by
    intro d hd
    rw [hg.block d (Array.getElem?_eq_some_iff.1 hd).1 ?_]
    · exact hd
    · intro e
      obtain ⟨_, _, _, _, _, _, _, arr, t, h⟩ := hrow d e.symm
      rw [hd] at h; cases h
  have hcase : ∀ o l', upd R.ρ st.L.length (.row A' cap' len' g) o = some l' → (o = st.L.length ∧ l' = .row A' cap' len' g) ∨ (o < st.L.length ∧ R.ρ o = some l') := by
    intro o l' h
    simp only [upd] at h
    split at h
    · cases h; exact .inl ⟨by assumption, rfl⟩
    · exact .inr ⟨hs.dom o l' h, h⟩
  have hlive : ∀ k, live st1 k → live st k ∧ st1.L[k]? = st.L[k]? := by
    intro k ⟨x, h1, h2⟩
    rcases hst k with h | ⟨_, h, _⟩
    · exact ⟨⟨x, by rw [← h]; exact h1, h2⟩, h⟩
    · rw [h] at h1; cases h1; simp [LO.live] at h2
  have hnl : ∀ k, live (new st1 (.arr t' ety)) k → (live st1 k ∧ k < st.L.length) ∨ k = st.L.length := by
    intro k h
    rcases live_new h with h | ⟨h, _⟩
    · obtain ⟨x, h1, h2⟩ := h
      exact .inl ⟨⟨x, h1, h2⟩, by rw [← hL]; exact (List.getElem?_eq_some_iff.1 h1).1⟩
    · exact .inr (by rw [h, hL])
  -- a live old object does not lie in the block that has grown
  have hne : ∀ k l b, R.ρ k = some l → live st1 k → l.block = some b → row ≠ some b := by
    intro k l b h1 h2 h3 e
    obtain ⟨o, l', h4, h5, h6, h7, h8, _⟩ := hrow b e
    have := hs.inj k o l l' b h1 h4 (hlive k h2).1 h5 h3 h7
    subst this
    obtain ⟨x, h9, h10⟩ := h2
    rw [h8] at h9; cases h9; simp [LO.live] at h10
  refine ⟨⟨?_, ?_, ?_, ?_, ?_, ?_, hs.nodup, ?_, ?_, hg.os.trans hs.os, hg.tape.trans hs.tape, hg.output.trans hs.output⟩, ⟨hρ, fun _ h => h, hk, rfl, rfl, hg.size⟩, ⟨hlo, by simp [new, hL], ?_, ?_, ?_, fun k a1 a2 a3 a4 a5 a6 a7 h => by
      refine ⟨a6, a7, ?_⟩
      rw [new_old (by rw [hL]; exact (List.getElem?_eq_some_iff.1 h).1)]
      rcases hst k with h2 | ⟨_, _, h2⟩
      · exact h2.trans h
      · exact absurd ⟨a1, a2, a3, a4, a5, a6, a7, h⟩ h2, fun k h => by
      obtain ⟨a1, a2, a3, a4, a5, a6, a7, h⟩ := h
      by_cases hk2 : k < st.L.length
      · rw [new_old (by rw [hL]; exact hk2)] at h
        rcases hst k with h2 | ⟨_, h2, _⟩
        · exact ⟨a1, a2, a3, a4, a5, a6, a7, h2.symm.trans h⟩
        · rw [h2] at h; cases h
      · by_cases hk3 : k = st1.L.length
        · subst hk3; rw [new_new] at h; cases h
        · (rw [List.getElem?_eq_none (by simp [new]; omega)] at h; cases h), fun o ho => by simp only [upd]; rw [if_neg (by omega)], fun _ _ h => .inl h, ?_⟩⟩
  · intro o l' h
    rcases hcase o l' h with ⟨h1, _⟩ | ⟨h1, _⟩ <;> simp [new, hL] <;> omega
  · intro o l' x h1 h2
    rcases hcase o l' h1 with ⟨h3, rfl⟩ | ⟨h3, h4⟩
    · subst h3
      rw [← hL, new_new] at h2; cases h2; exact hob hρ hk
    · rw [new_old (by rw [hL]; exact h3)] at h2
      rcases hst o with h5 | ⟨_, h5, _⟩
      · rw [h5] at h2
        refine (hs.obj o l' x h4 h2).keep hρ (fun _ h => h) hk ?_ hdfr
        intro hx b hb
        refine hg.block b (hlt o l' b h4 ⟨x, h2, hx⟩ hb) ?_
        exact fun e => hne o l' b h4 ⟨x, by rw [h5]; exact h2, hx⟩ hb e.symm
      · rw [h5] at h2; cases h2; exact ObjRel.dead _
  · intro o o' l1 l2 b h1 h2 h3 h4 h5 h6
    rcases hcase o l1 h1 with ⟨e1, rfl⟩ | ⟨h7, h8⟩ <;> rcases hcase o' l2 h2 with ⟨e2, rfl⟩ | ⟨h9, h10⟩
    · omega
    · rcases hnl o' h4 with ⟨h11, _⟩ | h11
      · rcases (hA b h5).1 with h12 | h12
        · exact absurd h12 (hne o' l2 b h10 h11 h6)
        · have := hlt o' l2 b h10 (hlive o' h11).1 h6; omega
      · omega
    · rcases hnl o h3 with ⟨h11, _⟩ | h11
      · rcases (hA b h6).1 with h12 | h12
        · exact absurd h12 (hne o l1 b h8 h11 h5)
        · have := hlt o l1 b h8 (hlive o h11).1 h5; omega
      · omega
    · rcases hnl o h3 with ⟨h11, _⟩ | h11
      · rcases hnl o' h4 with ⟨h12, _⟩ | h12
        · exact hs.inj o o' l1 l2 b h8 h10 (hlive o h11).1 (hlive o' h12).1 h5 h6
        · omega
      · omega
  · intro o l' b h1 h2 h3
    rcases hcase o l' h1 with ⟨e1, rfl⟩ | ⟨h4, h5⟩
    · obtain ⟨h6, h7⟩ := hA b h3
      rcases h6 with h6 | h6
      · obtain ⟨o2, l2, h8, h9, _, h10, _⟩ := hrow b h6
        have := hs.wr o2 l2 b h8 h9 h10
        exact ⟨this.1, h7, this.2.2⟩
      · have := hs.size
        exact ⟨by show R.base ≤ b; omega, h7, fun hr => by have := hs.rolt _ hr; omega⟩
    · rcases hnl o h2 with ⟨h6, _⟩ | h6
      · have := hs.wr o l' b h5 (hlive o h6).1 h3
        exact ⟨this.1, Nat.lt_of_lt_of_le this.2.1 hg.size, this.2.2⟩
      · omega
  · intro b hb; exact Nat.lt_of_lt_of_le (hs.rolt b hb) hg.size
  · intro d hd
    have := hs.dfr d hd
    exact ⟨hdfr d this.1, this.2⟩
  · intro b hb
    rw [hg.block b (Nat.lt_of_lt_of_le hb hs.size) ?_]
    · exact hs.old b hb
    · intro e
      obtain ⟨o, l, h1, h2, _, h3, _⟩ := hrow b e.symm
      have := (hs.wr o l b h1 h2 h3).1
      have hb' : b < R.base := hb
      omega
  · have := hs.size; have := hg.size; show R.base ≤ _; omega
  · intro b hb hn
    refine hg.block b hb ?_
    intro e
    obtain ⟨o, l, h1, h2, h3, h4, _⟩ := hrow b e.symm
    exact hn ⟨o, l, h1, h2, h3, h4⟩
  · intro b hb ⟨o, l', h1, h2, h3, h4⟩
    rcases hcase o l' h1 with ⟨e1, rfl⟩ | ⟨h5, h6⟩
    · rcases (hA b h4).1 with h7 | h7
      · obtain ⟨o2, l2, h8, h9, h10, h11, _⟩ := hrow b h7
        exact ⟨o2, l2, h8, h9, h10, h11⟩
      · omega
    · rcases hnl o h2 with ⟨h7, _⟩ | h7
      · exact ⟨o, l', h6, (hlive o h7).1, by simp only [new] at h3; rw [← hlo]; exact h3, h4⟩
      · omega
  · intro k hk' hkl
    rw [new_old (by rw [hL]; exact hkl)]
    rcases hst k with h | ⟨h, _⟩
    · exact .inl h
    · omega
  · intro b hb ⟨o, l', h1, h2, h4⟩
    rcases hcase o l' h1 with ⟨e1, rfl⟩ | ⟨h5, h6⟩
    · rcases (hA b h4).1 with h7 | h7
      · obtain ⟨o2, l2, h8, h9, h10, h11, _⟩ := hrow b h7
        exact ⟨o2, l2, h8, h9, h11⟩
      · omega
    · rcases hnl o h2 with ⟨h7, _⟩ | h7
      · exact ⟨o, l', h6, (hlive o h7).1, h4⟩
      · omega

/-- What a slice that is told reads as. -/
theorem rdSl_cells {y : LV} {v : Value} {m : TL} (hs : Sim R st w) (h : rdSl st y = some m) (hv : VR R w y v) :
    ∃ A cap xs, v = .slice A m.len cap ∧ VC R.ρ R.ro w m.flat xs ∧ xs.length = m.len * sz m.g ∧ (0 < m.len → ∃ ad, A = some ad ∧ ∀ (j : Nat) (u : Value), xs[j]? = some u → w.cell? (ad.add j) = some u) := by
  have hflat : ∀ xs, VC R.ρ R.ro w m.flat xs → xs.length = m.len * sz m.g := fun xs hx => by rw [← hx.length, flat_length]
  cases y <;> simp only [rdSl] at h <;> try (cases h; done)
  · rename_i o
    obtain ⟨A, cap, len, g, hρ, rfl⟩ := hv.sl_inv
    obtain ⟨h1, h2, e, xs, h3, h4⟩ := rdSl_obj hs hρ (by simpa [rdSl] using h)
    subst h2
    refine ⟨_, cap, xs, rfl, h4, hflat xs h4, fun hp => ?_⟩
    cases A with
    | none =>
      rcases h3.2 with ⟨h6, h7⟩ | ⟨g', cap', cur, h6, _⟩
      · omega
      · simp [slv_] at h6
    | some b => exact ⟨_, rfl, h3.cells (g := b) rfl⟩
  · rename_i t
    cases h
    cases hv with
    | slv hc hro hx h1 hl hV => exact ⟨_, _, _, rfl, ⟨⟨hl, hV⟩, h1⟩, hflat _ ⟨⟨hl, hV⟩, h1⟩, fun _ => ⟨_, rfl, hx⟩⟩
    | slve h0 =>
      have he : m.flat = [] := List.eq_nil_of_length_eq_zero (by rw [flat_length, h0, Nat.zero_mul])
      exact ⟨_, _, [], by rw [h0], ⟨by rw [he]; exact VL.nil, by simp⟩, by simp [h0], fun hp => by omega⟩
  · rename_i g
    cases h
    cases hv
    exact ⟨none, 0, [], rfl, ⟨VL.nil, by simp⟩, by simp [TL.len], fun hp => by simp [TL.len] at hp⟩

theorem joinTL_flat {a b c : TL} (h : joinTL a b = some c) : a.g = b.g ∧ c.g = b.g ∧ c.len = a.len + b.len ∧ c.flat = a.flat ++ b.flat := by
  unfold joinTL at h
  split at h
  · rename_i hg
    obtain ⟨ag, al⟩ := a
    obtain ⟨bg, bl⟩ := b
    simp only [] at hg
    subst hg
    cases h
    exact ⟨rfl, rfl, by simp [TL.len], by simp [TL.flat]⟩
  · cases h

theorem slv_block {A : Option Nat} {len cap : Nat} : (slv_ A len cap).ownBlock = A := by
  cases A <;> rfl

/-- append(v, y...) of a slice that is owned, and one that is read. -/
theorem run_append_any {t e ty : Nat} {g : Tag} {inf : TypeInfo} {z : Value} (ht : P.underlying t = some (.slice e)) (hi : P.info? e = some inf) (hsz : inf.size = sz g) (hby : inf.bytes ≤ 65536) (hz : inf.zero = some z) (hzs : z.cells.size = sz g)
    {base : Nat} {A : Option Nat} {cap n : Nat} {xs : List Value} (hown : w.ownsRow base e (sz g) (slv_ A n cap) n xs) {B : Option Addr} {m c : Nat} {ys : List Value} (hl : ys.length = m * sz g) (h1 : ∀ u ∈ ys, u.oneCell' = true)
    (hys : 0 < m → ∃ ad, B = some ad ∧ ∀ (j : Nat) (u : Value), ys[j]? = some u → w.cell? (ad.add j) = some u) (hlt : n + m < maxList) (hbase : base ≤ w.heap.size) :
    ∃ A' cap' w', (Builtin.append_ #[t, t] ty #[slv_ A n cap, .slice B m c]).run P w = .ok (slv_ A' (n + m) cap') w' ∧ w'.ownsRow base e (sz g) (slv_ A' (n + m) cap') (n + m) (xs ++ ys) ∧ w.grownBy w' A ∧ ∀ b, A' = some b → (A = some b ∨ b = w.heap.size) ∧ b < w'.heap.size := by
  have hlow : ∀ (w' : World) (b n' c' : Nat) (zs : List Value), w'.ownsRow base e (sz g) (slv_ (some b) n' c') n' zs → b < w'.heap.size := by
    intro w' b n' c' zs h
    exact (h.lt b (by rfl)).2
  by_cases hm : m = 0
  · subst hm
    have : ys = [] := List.eq_nil_of_length_eq_zero (by simpa using hl)
    subst this
    refine ⟨A, cap, w, ?_, by simpa using hown, ⟨rfl, rfl, rfl, Nat.le_refl _, fun _ _ _ => rfl⟩, fun b hb => ⟨.inl hb, ?_⟩⟩
    · have hcap : n ≤ cap := by
        rcases hown.2 with ⟨h6, h7⟩ | ⟨g', cap', cur, h6, _, _, h7, _⟩
        · omega
        · cases A <;> simp [slv_] at h6; omega
      have hfc : (Builtin.firstCells (sz g) 0 (.slice B 0 c)).run P w = .ok #[] w := by
        cases B <;> simp [Builtin.firstCells, loadCells, loadCellsFrom]
      cases A <;> cases B <;> simp [slv_, Builtin.append_, run_underlying ht, Go.sizeOf, Go.typeInfo, hi, Builtin.lenOf, hcap, hsz, Builtin.firstCells, loadCells, loadCellsFrom, storeCells]
    · subst hb; exact hlow _ _ _ _ _ hown
  · obtain ⟨ad, rfl, hcell⟩ := hys (by omega)
    have hb1 : (n + m) * inf.bytes ≤ 140737488355328 := by
      have : (n + m) * inf.bytes ≤ 1073741824 * 65536 := Nat.mul_le_mul (by unfold maxList at hlt; omega) hby
      omega
    obtain ⟨v', w', hr, h2, h3, h4, h5⟩ := run_append_own_at (P := P) w base t ty e inf z (sz g) inf.bytes ht hi hz hsz rfl hzs (sz_pos g) (slv_ A n cap) n xs hown ad m c ys hl hcell h1 (by unfold maxLen; unfold maxList at hlt; omega) hb1 hbase
    have hv' : ∃ A' cap', v' = slv_ A' (n + m) cap' := by
      rcases h2.2 with ⟨h6, h7⟩ | ⟨g', cap', cur, h6, _⟩
      · omega
      · exact ⟨some g', cap', h6⟩
    obtain ⟨A', cap', rfl⟩ := hv'
    rw [slv_block] at h3
    refine ⟨A', cap', w', hr, h2, h3, fun b hb => ?_⟩
    subst hb
    rw [slv_block, slv_block] at h5
    refine ⟨?_, hlow _ _ _ _ _ h2⟩
    rcases h5 with h5 | h5
    · exact .inl h5.symm
    · cases h5; exact .inr rfl

theorem good_append {o : Oper} {t : Nat} {x y : Operand} {v : LV} {st' : St} (hC : CfgOK P C) (hs : Sim R st w) (hf : VLR R w fr tmps.toList) (ho : o.op = .call { callee := .builtin .append, args := #[x, y], argTypes := #[t, t] })
    (h : appendTo C st t (valT C fr t x) (valT C fr t y) = some (true, v, st')) : Good P R st w (execOp (evalT tmps) o) v st' := by
  have hx := valT_V (C := C) hf t x
  have hy := valT_V (C := C) hf t y
  unfold appendTo at h
  split at h
  case h_2 => cases h
  rename_i g e hk
  obtain ⟨inf, d, z, h1, h2, h3, h4, _⟩ := (hC.ty t).out (by simp [tyKnown, hk])
  rw [hk] at h4
  cases d <;> (try simp only [DescOK] at h4)
  obtain ⟨rfl, ⟨einf, ez, he1, he2, he3, he4, he5, he6⟩, _⟩ := h4
  split at h
  · cases h
  rename_i m hm
  split at h
  · cases h
  rename_i hmg
  have hmg : m.g = g := by simpa using hmg
  obtain ⟨B, c, ys, hyv, hys, hyl, hyc⟩ := rdSl_cells hs hm hy
  have hrun : ∀ r w', (Builtin.append_ #[t, t] o.type #[evalT tmps x, .slice B m.len c]).run P w = .ok r w' → (execOp (evalT tmps) o).run P w = .ok (.value r) w' := by
    intro r w' hr
    simp only [execOp, ho, resolve, invoke, Go.builtin, Sem.run_bind, Sem.run_pure, Result.andThen_ok, List.map_toArray, List.map_cons, List.map_nil, hyv, hr]
  split at h
  · -- a slice of the run's own
    rename_i o' hxv
    rw [hxv] at hx
    split at h
    · cases h
    rename_i hlo
    split at h
    case h_2 => cases h
    rename_i l ety hl
    have hL := getD_obj hl (by simp)
    split at h
    case isFalse => cases h
    rename_i hee
    subst hee
    cases hj : joinTL l m with
    | none => rw [hj] at h; simp at h
    | some lm =>
      rw [hj] at h
      simp only [Option.bind_some, Option.some.injEq, Prod.mk.injEq, decide_eq_true_eq] at h
      obtain ⟨hlt, rfl, rfl⟩ := h
      obtain ⟨A, cap, len, g', hρ, hxe⟩ := hx.sl_inv
      obtain ⟨hg1, hlen, xs, hown, hxs⟩ := hs.obj o' _ _ hρ hL
      obtain ⟨j1, j2, j3, j4⟩ := joinTL_flat hj
      subst hlen
      have hgg : g' = g := by rw [← hg1, j1, hmg]
      subst hgg
      obtain ⟨A', cap', w', hr, hown', hgr, hA⟩ := run_append_any (ty := o.type) h2 he1 he2 he3 he4 he5 hown (B := B) (m := m.len) (c := c) (ys := ys) (by rw [hyl, hmg]) hys.one hyc hlt hs.size
      have hlv : live st o' := ⟨_, hL, rfl⟩
      have hol : o' < st.L.length := hs.dom o' _ hρ
      obtain ⟨s1, s2, s3⟩ := hs.grow (st1 := { st with L := st.L.set o' .dead }) (by simp) rfl (fun k => by
          by_cases hk : o' = k
          · subst hk; exact .inr ⟨by omega, by simp [hol], fun ⟨_, _, _, _, _, _, _, h⟩ => by rw [hL] at h; cases h⟩
          · left
            show (st.L.set o' .dead)[k]? = _
            rw [List.getElem?_set, if_neg hk]) A (fun b hb => by
          subst hb
          refine ⟨o', _, hρ, hlv, by omega, rfl, by simp [hol], ?_⟩
          rcases hown.2 with ⟨h6, h7⟩ | ⟨g', cap'', cur, h6, h7, h8, _⟩
          · simp [slv_] at h6
          · simp only [slv_, Option.map_some, Value.slice.injEq, Option.some.injEq, Addr.mk.injEq, and_true, true_and] at h6
            rw [h6.1]; exact ⟨_, _, h8⟩) hgr (A' := A') (cap' := cap') (len' := l.len + m.len) (g := g') (t' := lm) (ety := ety) hA
        (fun hρ' hk' => ⟨by rw [j2, hmg], j3, _, hown', by rw [j4]; exact (hxs.append hys).mono hρ' (fun _ h => h) hk'⟩)
      refine ⟨.value (slv_ A' (l.len + m.len) cap'), w', _, slv_ A' (l.len + m.len) cap', hrun _ _ (by rw [hxe]; exact hr), rfl, ?_, s1, s2, s3, rfl⟩
      exact V.sl (A := A') (cap := cap') (len := l.len + m.len) (g := g') (by simp [upd])
  · -- nil
    rename_i g0 hxv
    rw [hxv] at hx
    have hxe : evalT tmps x = slv_ none 0 0 := by
      generalize evalT tmps x = q at hx
      cases hx; rfl
    simp only [Option.some.injEq, Prod.mk.injEq, decide_eq_true_eq] at h
    obtain ⟨hlt, rfl, rfl⟩ := h
    obtain ⟨A', cap', w', hr, hown', hgr, hA⟩ := run_append_any (ty := o.type) (w := w) h2 he1 he2 he3 he4 he5 (A := none) (cap := 0) (n := 0) (World.ownsRow_nil w R.base _ (sz g)) (B := B) (m := m.len) (c := c) (ys := ys) (by rw [hyl, hmg]) hys.one hyc (by omega) hs.size
    obtain ⟨s1, s2, s3⟩ := hs.grow (st1 := st) rfl rfl (fun k => .inl rfl) none (fun b hb => by cases hb) hgr (A' := A') (cap' := cap') (len' := 0 + m.len) (g := g) (t' := m) hA
        (fun hρ' hk' => ⟨hmg, by omega, _, hown', by simpa using hys.mono hρ' (fun _ h => h) hk'⟩)
    refine ⟨.value (slv_ A' (0 + m.len) cap'), w', _, slv_ A' (0 + m.len) cap', hrun _ _ (by rw [hxe]; exact hr), rfl, ?_, s1, s2, s3, rfl⟩
    exact V.sl (A := A') (cap := cap') (len := 0 + m.len) (g := g) (by simp [upd])
  · cases h
end
end Gz
