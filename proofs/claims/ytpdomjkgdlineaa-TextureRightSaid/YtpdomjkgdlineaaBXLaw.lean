/- A law: what its function is told to answer, as the row wants it. -/
import Derived.Test.YtpdomjkgdlineaaBXOpen
import Derived.ChangeSame
import Derived.RowKit3
set_option linter.unusedVariables false
set_option linter.unusedSimpArgs false
set_option linter.unnecessarySimpa false
set_option linter.deprecated false
namespace Gz
open Go Go.ChangeShapes Go.WideShapes

/-- Some measure, where none is asked. -/
theorem bulk_any {H : Type} : Bulk (fun d : DataW H => SizeOf.sizeOf d) := by
  refine ⟨fun e s => ?_, fun e s x hx => ?_, fun p x hx => ?_⟩
  · have : e.length ≤ SizeOf.sizeOf e := by
      induction e with
      | nil => simp
      | cons a l ih => simp; omega
    simp; omega
  · have := List.sizeOf_lt_of_mem hx
    simp; omega
  · have := List.sizeOf_lt_of_mem hx
    simp; omega

inductive AK
  | cell (l : Leaf)
  | ag (ls : List Leaf)
  | av (g : Tag) (n : Nat)
def AOK (B : Nat) : AK → LV → Prop
  | .cell l, a => OkL B l a
  | .ag ls, a => ∃ cs, a = .ag cs ∧ OkLs B ls cs
  | .av g n, a => ∃ l : List (El g), a = .av ⟨g, l⟩ ∧ l.length = n ∧ ∀ x ∈ l, okEl B g x
def AllOK (B : Nat) : List AK → List LV → Prop
  | [], [] => True
  | k :: ks, a :: as => AOK B k a ∧ AllOK B ks as
  | _, _ => False
def argK (P : Program) (G GA : Nat → Option Tag) (t : Nat) : Option AK :=
  match P.underlying t with
  | some (.struct _) => (leaves P G 9 t).map .ag
  | some (.array n e) => match GA t, leaves P G 9 t with
    | some g, some ls => if ls = (List.replicate n (tagLs g)).flatten then some (.av g n) else none
    | _, _ => none
  | some .bool | some (.int _) | some (.slice _) => match leaves P G 9 t with
    | some [l] => some (.cell l)
    | _ => none
  | _ => none

section
variable {H : Type} {enc : TypeId × Value → H} {P : Program} {W : World} {bk : DataW H → Nat} {B : Nat} {G GA : Nat → Option Tag}

theorem flat_els {g : Tag} : ∀ {n : Nat} {vs : List LV}, OkLs B (List.replicate n (tagLs g)).flatten vs → ∃ l : List (El g), vs = TL.flat ⟨g, l⟩ ∧ l.length = n ∧ ∀ x ∈ l, okEl B g x
  | 0, vs, h => by obtain rfl := h.nil_inv; exact ⟨[], rfl, rfl, by simp⟩
  | n + 1, vs, h => by
    rw [List.replicate_succ, List.flatten_cons] at h
    have split : ∀ (ls ms : List Leaf) (vs : List LV), OkLs B (ls ++ ms) vs → ∃ us ws, vs = us ++ ws ∧ OkLs B ls us ∧ OkLs B ms ws := by
      intro ls
      induction ls with
      | nil => intro ms vs h; exact ⟨[], vs, rfl, trivial, h⟩
      | cons l ls ih =>
        intro ms vs h
        cases vs with
        | nil => exact h.elim
        | cons v vs =>
          obtain ⟨us, ws, rfl, h1, h2⟩ := ih ms vs h.2
          exact ⟨v :: us, ws, rfl, ⟨h.1, h1⟩, h2⟩
    obtain ⟨us, ws, rfl, h1, h2⟩ := split _ _ _ h
    obtain ⟨x, rfl, hx⟩ := tag_el h1
    obtain ⟨l, rfl, h3, h4⟩ := flat_els h2
    refine ⟨x :: l, by simp [TL.flat], by simp [h3], fun y hy => ?_⟩
    rcases List.mem_cons.1 hy with rfl | hy
    · exact hx
    · exact h4 y hy

theorem arg_open (hbk : Bulk bk) {t : Nat} {k : AK} (hk : argK P G GA t = some k) {v : Value} {d : DataW H} {ps : List MemPlace} {r : Reach} {b0 : Nat} (hok : Value.okWide P W r b0 t v)
    (h : DataW.Trod enc P W 0 (fun _ => true) true t v d ps) (hB : bk d ≤ B ∨ maxLen ≤ B) : ∃ a, AOK B k a ∧ V (fun _ => none) (fun b => b < W.heap.size) W a v := by
  obtain ⟨fuel, hx⟩ := h
  unfold argK at hk
  split at hk
  · rename_i fs hu
    rw [Option.map_eq_some_iff] at hk
    obtain ⟨ls, hl, rfl⟩ := hk
    obtain ⟨cs, rfl, _⟩ := okWide_struct hu hok
    obtain ⟨lvs, h1, h2⟩ := opened hbk 9 t ls hl fuel _ _ hx hB
    exact ⟨.ag lvs, ⟨lvs, rfl, h1⟩, .ag h2.one h2.vl.1 h2.vl.2⟩
  · rename_i n e hu
    split at hk
    case h_2 => cases hk
    rename_i g ls hg hl
    split at hk
    case isFalse => cases hk
    rename_i hls
    subst hls
    cases hk
    have : ∃ cs, v = .agg cs := by
      simp only [Value.okWide, hu] at hok
      obtain ⟨cs, h1, _⟩ := hok
      exact ⟨cs, h1⟩
    obtain ⟨cs, rfl⟩ := this
    obtain ⟨lvs, h1, h2⟩ := opened hbk 9 t _ hl fuel _ _ hx hB
    obtain ⟨l, rfl, h3, h4⟩ := flat_els h1
    exact ⟨.av ⟨g, l⟩, ⟨l, rfl, h3, h4⟩, .av h2.one h2.vl.1 h2.vl.2⟩
  all_goals first
    | (cases hk; done)
    | (rename_i hu
       split at hk
       case h_2 => cases hk
       rename_i l hl
       cases hk
       obtain ⟨lvs, h1, h2⟩ := opened hbk 9 t _ hl fuel _ _ hx hB
       have hone : v.cells = #[v] := by
         first
           | (obtain ⟨x, rfl⟩ := okWide_bool hu hok; rfl)
           | (obtain ⟨x, rfl⟩ := okWide_int hu hok; rfl)
           | (obtain ⟨x, y, z, rfl⟩ := okWide_slice hu hok; rfl)
       rw [hone] at h2
       obtain ⟨a, as, e1, h3, h4⟩ : ∃ a as, lvs = a :: as ∧ OkL B l a ∧ OkLs B [] as := by
         cases lvs with
         | nil => exact h1.elim
         | cons a as => exact ⟨a, as, rfl, h1.1, h1.2⟩
       subst e1
       exact ⟨a, h3, h2.vl.head⟩)

theorem args_open (hbk : Bulk bk) : ∀ {ts : List Nat} {ks : List AK} {vs : List Value} {ds : List (DataW H)} {ps : List MemPlace} {r : Reach} {b0 : Nat}, ts.map (argK P G GA) = ks.map some →
    (∀ (j : Nat) t v, ts[j]? = some t → vs[j]? = some v → Value.okWide P W r b0 t v) → DataW.TrodAll enc P W 0 (fun _ => true) true ts vs ds ps → ((∀ d ∈ ds, bk d ≤ B) ∨ maxLen ≤ B) →
    ∃ as, AllOK B ks as ∧ VL (fun _ => none) (fun b => b < W.heap.size) W as vs
  | [], ks, vs, ds, ps, r, b0, hk, hok, h, hB => by
    obtain ⟨rfl, rfl, rfl⟩ := trodAll_nil h
    cases ks with
    | nil => exact ⟨[], trivial, VL.nil⟩
    | cons => simp at hk
  | t :: ts, ks, vs, ds, ps, r, b0, hk, hok, h, hB => by
    obtain ⟨v, vs', d, ds', p, q, rfl, rfl, rfl, h1, h2⟩ := trodAll_cons h
    cases ks with
    | nil => simp at hk
    | cons k ks =>
      simp only [List.map_cons, List.cons.injEq] at hk
      obtain ⟨a, a1, a2⟩ := arg_open hbk hk.1 (hok 0 t v rfl rfl) h1 (hB.imp (fun h => h d (List.mem_cons_self)) id)
      obtain ⟨as, b1, b2⟩ := args_open hbk hk.2 (fun j t v h3 h4 => hok (j + 1) t v (by simpa using h3) (by simpa using h4)) h2 (hB.imp (fun h x hx => h x (List.mem_cons_of_mem _ hx)) id)
      exact ⟨a :: as, ⟨a1, b1⟩, .cons a2 b2⟩

/-! What is behind the call. -/
theorem kept_but {W W' : World} (h : Kept W W') (may : MemPlace → Prop) : W.keptBut W' may := by
  refine ⟨h.os, h.output, fun i hi => ?_⟩
  have := h.old i hi
  rw [this]
  cases hq : W.heap[i]? with
  | none => trivial
  | some o => cases o <;> first | exact ⟨rfl, rfl, rfl, fun _ _ => rfl⟩ | exact .inr ⟨rfl, rfl⟩ | trivial

theorem same_at {W W' : World} (h : Kept W W') {p : MemPlace} (hp : p.block < W.heap.size) : W.sameAt W' p := by
  cases p with
  | cell b off => exact World.cell?_of_block (w := W) (w' := W') (h.old b hp)
  | map b => exact h.old b hp

theorem trods_kept {W W' : World} (h : Kept W W') (K : Kids P (· < P.types.size)) (hsz : ∀ t e, t < P.types.size → P.underlying t = some (.slice e) → 0 < P.cellsOf e) {sp : Nat → Bool} : ∀ {ts : List Nat} {vs : List Value} {ds : List (DataW H)} {ps : List MemPlace},
    (∀ t ∈ ts, t < P.types.size) → DataW.TrodAll enc P W 0 (fun _ => true) true ts vs ds ps → (∀ p ∈ ps, sp p.block = true) → DataW.TrodAll enc P W' 0 sp true ts vs ds ps
  | [], vs, ds, ps, _, h1, _ => by
    obtain ⟨rfl, rfl, rfl⟩ := trodAll_nil h1
    rfl
  | t :: ts, vs, ds, ps, ht, h1, hs => by
    have hlt := h1.lt
    obtain ⟨v, vs', d, ds', p, q, rfl, rfl, rfl, ⟨n, h2⟩, h3⟩ := trodAll_cons h1
    refine ⟨p, q, ⟨n, ?_⟩, trods_kept h K hsz (fun t h => ht t (List.mem_cons_of_mem _ h)) h3 (fun x hx => hs x (List.mem_append_right _ hx)), rfl⟩
    exact DataW.trod_stays K (fun {t e} a b => hsz t e a b) (fun h => by cases h) (ht t (List.mem_cons_self)) h2 (fun x hx => same_at h (hlt x (List.mem_append_left _ hx))) (fun x hx => hs x (List.mem_append_left _ hx))

theorem post_true {W W' : World} (h : Kept W W') (K : Kids P (· < P.types.size)) (hsz : ∀ t e, t < P.types.size → P.underlying t = some (.slice e) → 0 < P.cellsOf e) {fn : Func} {s : ChangeSpec} {args : Array Value} {ds gs : List (DataW H)} {before : List MemPlace} {apart : Bool}
    (hW : DataW.Whole enc P fn.params.toList s.vars apart W args.toList ds gs before) (hv : s.vars = []) (hts : ∀ t ∈ fn.params.toList, t < P.types.size) {tb : Nat} (hr : fn.resultTypes = #[tb]) (htb : P.underlying tb = some .bool)
    (hs : s.fn H ds = { results := [.lit (.bool true)], args := ds }) : s.post enc P fn apart true false false W args (.bool true) W' := by
  have hlt := hW.lt
  obtain ⟨p, q, h1, h2, h3, h4, h5⟩ := hW
  have h2' := h2
  rw [hv] at h2'
  obtain ⟨rfl, rfl⟩ := trodVars_none h2'
  have hb : before = p := by rw [h3, List.append_nil]
  refine ⟨ds, [], before, [], p, [], ⟨p, [], h1, h2, h3, h4, h5⟩, ?_, ?_, ?_, kept_but h _, fun h => by cases h⟩
  · rw [List.append_nil, hs, hr]
    refine ⟨[], [], ⟨1, ?_⟩, rfl, rfl⟩
    simp [DataW.trod, htb, Value.cells, Value.resultList]
  · rw [List.append_nil, hs]
    exact trods_kept h K hsz hts h1 (fun x hx => by simpa using hlt x (by rw [hb]; exact hx))
  · rw [List.append_nil, hs, hv]; rfl

/-- The contract of a law. -/
theorem law_calls {C : Cfg} (hC : Base P C) {e : SpecE} (he : e.OK P C) (hbk : Bulk bk) {ks : List AK} {fn : Func} (hk : fn.params.toList.map (argK P G GA) = ks.map some)
    (hlaw : ∀ as, AllOK B ks as → chkL e.ps as = true ∧ e.F as some = some (.b true, [])) (K : Kids P (· < P.types.size)) (hsz : ∀ t e, t < P.types.size → P.underlying t = some (.slice e) → 0 < P.cellsOf e)
    {s : ChangeSpec} (hv : s.vars = []) (hts : ∀ t ∈ fn.params.toList, t < P.types.size) {tb : Nat} (hr : fn.resultTypes = #[tb]) (htb : P.underlying tb = some .bool) (hs : ∀ ds, ds.length = ks.length → s.fn H ds = { results := [.lit (.bool true)], args := ds })
    {base : Nat} {args : Array Value} {ds gs : List (DataW H)} {before : List MemPlace} {apart : Bool} (hval : ∀ (j : Nat) t v, fn.params[j]? = some t → args[j]? = some v → Value.okWide P W .any base t v)
    (hW : DataW.Whole enc P fn.params.toList s.vars apart W args.toList ds gs before) (hB : (∀ d ∈ ds, bk d ≤ B) ∨ maxLen ≤ B) :
    Calls P e.k args W fun e W' => ∃ v, e = .returned v ∧ s.post enc P fn apart true false false W args v W' := by
  have hW' := hW
  obtain ⟨p, q, h1, _⟩ := hW'
  obtain ⟨as, a1, a2⟩ := args_open (B := B) (G := G) (GA := GA) hbk hk (fun j t v h3 h4 => hval j t v (by simpa using h3) (by simpa using h4)) h1 hB
  obtain ⟨c1, c2⟩ := hlaw as a1
  obtain ⟨res, d1, d2⟩ := SpecE.calls hC he c1 c2 (w := W) (av := args) (fun b => b < W.heap.size) (fun _ h => h) a2
  cases d1
  refine d2.mono ?_
  rintro e W' ⟨u, rfl, hk', ls, ro', hV⟩
  have hu : V (fun i => ls[i]?) ro' W' (LV.b true) u := hV (fun i => ls[i]?) (fun i l h => by simpa using h)
  obtain rfl := hu.b_inv
  refine ⟨_, rfl, post_true hk' K hsz hW hv hts hr htb (hs ds ?_)⟩
  have l1 : ∀ {ts : List Nat} {vs : List Value} {ds : List (DataW H)} {ps : List MemPlace}, DataW.TrodAll enc P W 0 (fun _ => true) true ts vs ds ps → ds.length = ts.length := by
    intro ts
    induction ts with
    | nil => intro vs ds ps h; obtain ⟨_, rfl, _⟩ := trodAll_nil h; rfl
    | cons t ts ih => intro vs ds ps h; obtain ⟨v, vs', d, ds', p, q, _, rfl, _, _, h2⟩ := trodAll_cons h; simp [ih h2]
  rw [l1 h1]
  have := congrArg List.length hk
  simpa using this
end
end Gz
