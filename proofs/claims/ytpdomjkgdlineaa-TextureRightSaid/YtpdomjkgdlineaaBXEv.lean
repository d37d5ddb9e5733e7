/- The evaluator says what the machine does. -/
import Derived.Test.YtpdomjkgdlineaaBXDraw4
set_option linter.unusedVariables false
set_option linter.unusedSimpArgs false
set_option linter.unnecessarySimpa false
set_option linter.deprecated false
namespace Gz
open Go

/-- A drawn region, whatever its order. -/
def DrawOK (P : Program) (ops : Array Oper) (fid : Nat) (fr : List LV) (st : St) (fr' : List LV) (st' : St) : Prop :=
  ∀ id, CodeOK P (.region id ops true) fid fr st .n fr' st'

def TaskOK (P : Program) (t : Task) (fid : Nat) (fr : List LV) (st : St) (x : X) (fr' : List LV) (st' : St) : Prop :=
  match t with
  | .code c => CodeOK P c fid fr st x fr' st'
  | .lp c => LoopOK P c fid fr st x fr' st'
  | .ops all rest => x = .n ∧ OpsOK P all rest fid fr st fr' st'
  | .dops ops => x = .n ∧ DrawOK P ops fid fr st fr' st'
  | .dop all rest rs => x = .n ∧ ∃ l, Chain P fid all rs rest fr st l fr' st'
  | .call f args => fr' = fr ∧ ∃ v, x = .v v ∧ CallOK P f args st v st'

def EvOK (P : Program) (E : Ev) : Prop := ∀ t fid fr st K r, E t fid fr st K = some r → ∃ x fr' st', K x fr' st' = some r ∧ TaskOK P t fid fr st x fr' st'

/-- Functions that are taken as they are. -/
def PrimOK (P : Program) (C : Cfg) : Prop := ∀ k caps args v, C.prim k (args ++ caps) = some v → ∀ st, CallOK P (.fn k caps) args st v st

/-- Functions whose answers are told. -/
def SpecOK (P : Program) (C : Cfg) : Prop := ∀ k args c F r, C.spec k args = some c → c F = some r → ∃ res, F res = some r ∧ PureOK P C k args res

/-- Code whose ends are told. -/
def ItOK (P : Program) (C : Cfg) : Prop := ∀ fid c fr st g K r, C.it fid c fr st = some g → g K = some r → ∃ x fr' st', K x fr' st' = some r ∧ CodeOK P c fid fr st x fr' st'

theorem set_known {fr : List LV} {k : Nat} {v : LV} (h : fr.getD k .u = v) (hv : v ≠ .u) : fr.set k v = fr := by
  rw [List.getD_eq_getElem?_getD] at h
  cases hq : fr[k]? with
  | none => rw [hq] at h; exact absurd h.symm hv
  | some y =>
    rw [hq] at h; simp at h; subst h
    obtain ⟨h1, h2⟩ := List.getElem?_eq_some_iff.1 hq
    rw [← h2]; exact List.set_getElem_self h1

section
variable {P : Program} {C : Cfg} {E : Ev}

theorem known_eq {fr : List LV} {c : Operand} {t : Bool} (h : val C fr c = .b t) : known fr c t = fr := by
  cases c with
  | tmp k => exact set_known h (by simp)
  | _ => rfl

theorem stepCode_ok (hE : EvOK P E) (hI : ItOK P C) {c : Code} {fid : Nat} {fr : List LV} {st : St} {K : Kont} {r : Res} (h : stepCode C E c fid fr st K = some r) : ∃ x fr' st', K x fr' st' = some r ∧ CodeOK P c fid fr st x fr' st' := by
  unfold stepCode at h
  cases c with
  | skip => exact ⟨_, _, _, h, ok_skip⟩
  | label l => exact ⟨_, _, _, h, ok_label⟩
  | ret => exact ⟨_, _, _, h, ok_ret⟩
  | exit id => exact ⟨_, _, _, h, ok_exit⟩
  | seq a b =>
    obtain ⟨x, fr1, st1, h1, h2⟩ := hE _ _ _ _ _ _ h
    cases x with
    | n =>
      obtain ⟨x, fr', st', h3, h4⟩ := hE _ _ _ _ _ _ h1
      exact ⟨x, fr', st', h3, ok_seq h2 h4⟩
    | e id => exact ⟨_, _, _, h1, ok_seq_x (by simp) h2⟩
    | r => exact ⟨_, _, _, h1, ok_seq_x (by simp) h2⟩
    | v y => exact ⟨_, _, _, h1, ok_seq_x (by simp) h2⟩
  | cond c a b =>
    simp only at h
    split at h
    · rename_i g hg
      exact hI _ _ _ _ _ _ _ hg h
    · split at h
      · rename_i t ht
        cases t
        · simp only [cond_false] at h
          rw [known_eq ht] at h
          obtain ⟨x, fr', st', h3, h4⟩ := hE _ _ _ _ _ _ h
          exact ⟨x, fr', st', h3, ok_cond ht h4⟩
        · simp only [cond_true] at h
          rw [known_eq ht] at h
          obtain ⟨x, fr', st', h3, h4⟩ := hE _ _ _ _ _ _ h
          exact ⟨x, fr', st', h3, ok_cond ht h4⟩
      · cases h
  | block id b =>
    obtain ⟨x, fr1, st1, h1, h2⟩ := hE _ _ _ _ _ _ h
    have h3 := ok_block (id := id) h2
    cases x with
    | e j =>
      simp only at h1 h3
      split at h1
      · rename_i hj; rw [if_pos hj] at h3; exact ⟨_, _, _, h1, h3⟩
      · rename_i hj; rw [if_neg hj] at h3; exact ⟨_, _, _, h1, h3⟩
    | n => exact ⟨_, _, _, h1, h3⟩
    | r => exact ⟨_, _, _, h1, h3⟩
    | v y => exact ⟨_, _, _, h1, h3⟩
  | scope b =>
    obtain ⟨x, fr1, st1, h1, h2⟩ := hE _ _ _ _ _ _ h
    exact ⟨_, _, _, h1, ok_scope h2⟩
  | region id ops draw =>
    cases draw
    · obtain ⟨x, fr1, st1, h1, rfl, h2⟩ := hE _ _ _ _ _ _ h
      exact ⟨_, _, _, h1, ok_region h2⟩
    · obtain ⟨x, fr1, st1, h1, rfl, h2⟩ := hE _ _ _ _ _ _ h
      exact ⟨_, _, _, h1, h2 id⟩
  | loop b =>
    simp only at h
    split at h
    · rename_i g hg
      exact hI _ _ _ _ _ _ _ hg h
    split at h
    · rename_i keep hk
      split at h
      · cases h
      · rename_i hlo
        have hlo : st.lo = 0 := by simpa using hlo
        obtain ⟨x, fr', st', h1, h2⟩ := loopIt_ok (P := P) (c := b) (fid := fid) (fun fr st K r h => hE _ _ _ _ _ _ h) _ _ _ _ _ h
        exact ⟨x, fr', st', h1, head_loop hlo h2⟩
    · obtain ⟨x, fr', st', h1, h2⟩ := hE _ _ _ _ _ _ h
      exact ⟨x, fr', st', h1, ok_loop h2⟩
  | rangeFunc f params asg body =>
    simp only at h
    split at h
    · rename_i g hg
      exact hI _ _ _ _ _ _ _ hg h
    split at h
    · cases h
    · rename_i hlo
      obtain ⟨x, fr1, st1, h1, rfl, v, rfl, h2⟩ := hE _ _ _ _ _ _ h
      simp only at h1
      split at h1
      · rename_i fr0 ps a0 b0 f0 pend s hl
        have hl' := getD_some hl (by simp)
        split at h1
        · cases h1
        · rename_i hs
          cases pend with
          | none => exact ⟨_, _, _, h1, range_ok (Nat.not_lt.1 hlo) h2 hl' hs (.inl ⟨rfl, rfl, rfl, rfl⟩)⟩
          | some j =>
            obtain ⟨x, fr', st', h3, h4⟩ := hE _ _ _ _ _ _ h1
            exact ⟨x, fr', st', h3, range_ok (Nat.not_lt.1 hlo) h2 hl' hs (.inr ⟨j, rfl, h4⟩)⟩
      · cases h1
  | _ => simp at h

/-! Operations. -/
def Wants (all : List Oper) (o : Oper) (fr : List LV) (t : Bool) : Prop :=
  ∀ (R : Rl) (w : World) (tm : Array Value) (ops : Array Oper), ops.toList = all → VLR R w fr tm.toList → Region.wanted o (yielded ops tm) = t

theorem runOp_ok (hE : EvOK P E) (hC : CfgOK P C) (hQ : ∀ t z, C.eqT t = some z → EqOK P t z) {all rest : List Oper} {o : Oper} {fid : Nat} {fr : List LV} {st : St} {K : Kont} {r : Res} (hw : Wants all o fr true) (h : runOp C E all rest o fid fr st K = some r) :
    ∃ fr' st', K .n fr' st' = some r ∧ OpsOK P all (o :: rest) fid fr st fr' st' := by
  unfold runOp at h
  split at h
  · rename_i f args ts ho
    split at h
    · cases h
    · rename_i hl
      obtain ⟨x, fr1, st1, h1, rfl, v, rfl, h2⟩ := hE _ _ _ _ _ _ h
      obtain ⟨x, fr', st', h3, rfl, h4⟩ := hE _ _ _ _ _ _ h1
      exact ⟨fr', st', h3, ops_call hw ho (by simpa using hl) h2 h4⟩
  · split at h
    · cases h
    · rename_i side v st1 hop
      cases side
      · cases h
      · obtain ⟨x, fr', st', h3, rfl, h4⟩ := hE _ _ _ _ _ _ h
        exact ⟨fr', st', h3, ops_run hC hQ hw hop h4⟩

theorem skipOp_ok (hE : EvOK P E) {all rest : List Oper} {o : Oper} {fid : Nat} {fr : List LV} {st : St} {K : Kont} {r : Res} (hw : Wants all o fr false) (h : skipOp E all rest o fid fr st K = some r) :
    ∃ fr' st', K .n fr' st' = some r ∧ OpsOK P all (o :: rest) fid fr st fr' st' := by
  obtain ⟨x, fr', st', h3, rfl, h4⟩ := hE _ _ _ _ _ _ h
  exact ⟨fr', st', h3, ops_skip hw h4⟩

theorem guard_b {all : List Oper} {o : Oper} {fr : List LV} {j d : Nat} {want t : Bool} (hg : o.guard = some (j, want)) (hd : (all[j]?).bind (·.dst) = some d) (hv : fr.getD d .u = .b t) : Wants all o fr (t == want) := by
  intro R w tm ops ha hf
  have hat : fr[d]? = some (.b t) := by
    rw [List.getD_eq_getElem?_getD] at hv
    cases hq : fr[d]? with
    | none => rw [hq] at hv; cases hv
    | some y => rw [hq] at hv; simp at hv; rw [hv]
  obtain ⟨v, h1, h2⟩ := VL.at_ hf hat
  have := h2.b_inv; subst this
  have h3 : (ops[j]?).bind (·.dst) = some d := by rw [← ha] at hd; simpa using hd
  have h4 : tm[d]? = some (.bool t) := by simpa using h1
  simp only [Region.wanted, hg, yielded, h3, Option.bind_some, h4]
  cases t <;> cases want <;> rfl

theorem guard_t {all : List Oper} {o : Oper} {fr : List LV} {j d : Nat} {want : Bool} (hg : o.guard = some (j, want)) (hd : (all[j]?).bind (·.dst) = some d) (hv : fr.getD d .u = .tu []) : Wants all o fr false := by
  intro R w tm ops ha hf
  have hat : fr[d]? = some (.tu []) := by
    rw [List.getD_eq_getElem?_getD] at hv
    cases hq : fr[d]? with
    | none => rw [hq] at hv; cases hv
    | some y => rw [hq] at hv; simp at hv; rw [hv]
  obtain ⟨v, h1, h2⟩ := VL.at_ hf hat
  obtain ⟨cs, rfl, _⟩ := V.tu_inv h2
  have h3 : (ops[j]?).bind (·.dst) = some d := by rw [← ha] at hd; simpa using hd
  have h4 : tm[d]? = some (.tuple cs) := by simpa using h1
  simp only [Region.wanted, hg, yielded, h3, Option.bind_some, h4]
  cases want <;> rfl

theorem stepOps_ok (hE : EvOK P E) (hC : CfgOK P C) (hQ : ∀ t z, C.eqT t = some z → EqOK P t z) {all rest : List Oper} {o : Oper} {fid : Nat} {fr : List LV} {st : St} {K : Kont} {r : Res} (h : stepOps C E all rest o fid fr st K = some r) :
    ∃ fr' st', K .n fr' st' = some r ∧ OpsOK P all (o :: rest) fid fr st fr' st' := by
  unfold stepOps at h
  split at h
  · rename_i hg
    exact runOp_ok hE hC hQ (fun R w tm ops _ _ => by simp [Region.wanted, hg]) h
  · rename_i j want hg
    split at h
    · cases h
    · rename_i d hd
      split at h
      · rename_i t ht
        have hset : fr.set d (.b t) = fr := set_known ht (by simp)
        have hw := guard_b hg hd ht
        cases t <;> cases want <;> simp only [cond_true, cond_false, hset] at h
        · exact runOp_ok hE hC hQ hw h
        · exact skipOp_ok hE hw h
        · exact skipOp_ok hE hw h
        · exact runOp_ok hE hC hQ hw h
      · rename_i ht
        exact skipOp_ok hE (guard_t hg hd ht) h
      · cases h

/-! Regions that are run in any order. -/
theorem evOp_PL {fr : List LV} {st st' : St} {o : Oper} {side : Bool} {v : LV} (hp : isPL o.op = true) (h : evOp C fr st o = some (side, v, st')) : st' = st := by
  unfold evOp at h
  generalize o.op = op at hp h
  cases op
  case call c =>
    obtain ⟨cal, args, ts⟩ := c
    cases cal <;> simp only [isPL, Bool.false_eq_true] at hp
    rename_i bi
    cases bi <;> simp only [Bool.false_eq_true] at hp
    all_goals
      simp only [evBuiltin] at h
      repeat' (first | (cases h; rfl) | (cases h; done) | split at h | (rw [Option.bind_eq_some_iff] at h; obtain ⟨_, _, h⟩ := h))
  all_goals first
    | (simp only [isPL, Bool.false_eq_true] at hp; done)
    | (simp only [reduceCtorEq] at h; done)
    | (repeat' (first | contradiction | (cases h; rfl) | (cases h; done) | split at h | (rw [Option.bind_eq_some_iff] at h; obtain ⟨_, _, h⟩ := h)))

theorem getD_maskF {ins : List Nat} {fr : List LV} {s : Nat} (h : s ∈ ins) : (maskF ins 0 fr).getD s .u = fr.getD s .u := by
  rw [List.getD_eq_getElem?_getD, maskF_at, List.getD_eq_getElem?_getD]
  cases fr[s]? with
  | none => rfl
  | some x => simp [List.contains_eq_mem, h]

theorem sound_op (hC : CfgOK P C) (hQ : ∀ t z, C.eqT t = some z → EqOK P t z) {all : List Oper} {o : Oper} {fid : Nat} {frm : List LV} {stm st1 : St} {v : LV} (hw : Wants all o frm true) (hop : evOp C frm stm o = some (true, v, st1)) : OpSound P fid all o frm stm v st1 := by
  intro R w tm b df k cs ops i rest ho h1 hb hs hf
  obtain ⟨nx, w1, R1, u, e1, e2, e3, e4, e5, e6, e7⟩ := evOp_good hC hQ hs hf hop
  have hnd : ∀ c, o.op ≠ .defer c := by
    intro c hc
    unfold evOp at hop
    simp only [hc, reduceCtorEq] at hop
  exact ⟨R1, w1, u, .one (st_op h1 (hw R w tm ops ho hf) hnd e1 e2), e3, e4, e5, e6, e7⟩

theorem sound_skip {all : List Oper} {o : Oper} {fid : Nat} {frm : List LV} {stm : St} (hw : Wants all o frm false) : OpSound P fid all o frm stm (.tu []) stm := by
  intro R w tm b df k cs ops i rest ho h1 hb hs hf
  have hu : VR R w (.tu []) undef := .tu (cs := #[]) rfl (fun j lv v hj => by simp at hj)
  exact ⟨R, w, undef, .one (st_op_skip h1 (hw R w tm ops ho hf)), hu, hs, Ext.refl R w, Wm.refl R stm w, rfl⟩

theorem sound_call {all : List Oper} {o : Oper} {fid : Nat} {frm : List LV} {stm st1 : St} {v : LV} {f : Operand} {args : Array Operand} {ts : Array Nat} (hw : Wants all o frm true)
    (ho : o.op = .call { callee := .value f, args := args, argTypes := ts }) (hl : args.size = ts.size) (hc : CallOK P (val C frm f) ((args.toList.zip ts.toList).map fun (x, t) => valT C frm t x) stm v st1) : OpSound P fid all o frm stm v st1 := by
  intro R w tm b df k cs ops i rest hall h1 hb hs hf
  have hargs : VLR R w ((args.toList.zip ts.toList).map fun (x, t) => valT C frm t x) (args.map (evalT tm)).toList := by
    have : (args.map (evalT tm)).toList = (args.toList.zip ts.toList).map fun (x, t) => evalT tm x := by
      rw [Array.toList_map]
      have : args.toList = (args.toList.zip ts.toList).map Prod.fst := by rw [List.map_fst_zip]; simpa using Nat.le_of_eq hl
      conv => lhs; rw [this]
      rw [List.map_map]; rfl
    rw [this]
    exact VL.map2 _ _ _ (fun p _ => valT_V hf p.2 p.1)
  obtain ⟨nx, f0, e1, e2, R1, w1, u, e3, e4, e5, e6, e7, e8⟩ := hc R w (evalT tm f) (args.map (evalT tm)) (fa b tm df (.inRegion ops (i :: rest) :: k)) cs hs (val_V hf f) hargs
  have hrun : (execOp (evalT tm) o).run P w = .ok nx w := by
    rw [← e1]; simp only [execOp, ho, resolve, callV]
  rw [fa_finish h1] at e3
  exact ⟨R1, w1, u, .head (st_op_call h1 (hw R w tm ops hall hf) (fun c hc => by rw [ho] at hc; cases hc) hrun e2) e3, e4, e5, e6, e7, e8⟩

theorem doneOp_ok (hE : EvOK P E) {all rest : List Oper} {rs : List Rec} {r : Rec} {fid : Nat} {fr : List LV} {st : St} {K : Kont} {res : Res} (h : doneOp E all rest rs r fid fr st K = some res) :
    chkR 0 rs r = true ∧ r.a ≤ r.b ∧ ∃ fr' st' l, K .n fr' st' = some res ∧ Chain P fid all (rs ++ [r]) rest fr st l fr' st' := by
  unfold doneOp at h
  cases hc : (chkR 0 rs r && decide (r.a ≤ r.b)) with
  | false => rw [hc] at h; cases h
  | true =>
    rw [hc] at h
    rw [Bool.and_eq_true, decide_eq_true_eq] at hc
    obtain ⟨x, fr', st', h1, rfl, l, h2⟩ := hE _ _ _ _ _ _ h
    exact ⟨hc.1, hc.2, fr', st', l, h1, h2⟩

theorem merge_new {tch : List Nat} {L M : List LO} (hle : L.length ≤ M.length) (o : Nat) : (o < L.length ∧ o ∉ tch ∧ (mergeL tch 0 L M)[o]? = L[o]?) ∨ (o < L.length ∧ o ∈ tch ∧ (mergeL tch 0 L M)[o]? = M[o]?) ∨ (L.length ≤ o ∧ (mergeL tch 0 L M)[o]? = M[o]?) := by
  have h := mergeL_at tch 0 L M o hle
  rw [Nat.zero_add] at h
  by_cases ho : o < L.length
  · rw [if_pos ho] at h
    by_cases ht : o ∈ tch
    · exact .inr (.inl ⟨ho, ht, by rw [h]; simp [List.contains_eq_mem, ht]⟩)
    · exact .inl ⟨ho, ht, by rw [h]; simp [List.contains_eq_mem, ht]⟩
  · rw [if_neg ho] at h
    exact .inr (.inr ⟨by omega, h⟩)

theorem skipDop_ok (hE : EvOK P E) {all rest : List Oper} {rs : List Rec} {o : Oper} {ins : List Nat} {fid : Nat} {fr : List LV} {st : St} {K : Kont} {res : Res} (hlo : st.lo ≤ st.L.length) (hed : ∀ e, e ∈ o.after → Region.binds .any e = true → e.on < rs.length) (hw : Wants all o (maskF ins 0 fr) false)
    (hins : ∀ s, s ∈ ins → ltV st.L.length (fr.getD s .u) = true) (h : skipDop E all rest rs o ins fid fr st K = some res) : ∃ fr' st' l, K .n fr' st' = some res ∧ Chain P fid all rs (o :: rest) fr st l fr' st' := by
  obtain ⟨h1, _, fr', st', l, h2, h3⟩ := doneOp_ok hE h
  refine ⟨fr', st', _, h2, .cons (v := .tu []) (st1 := ⟨maskL [] 0 st.L, st.lo⟩) (lo := st.lo) ⟨rfl, rfl, rfl, rfl, hed, h1, hins, fun o ho => (by cases ho), fun o ho => ho, Nat.le_refl _, hlo, fun o ho => (by cases ho), rfl, maskL_length _ _ _, Nat.le_refl _, sound_skip hw, fun _ _ _ _ _ o _ _ ho => (by cases ho), fun o => ?_⟩ h3⟩
  by_cases ho : o < st.L.length
  · exact .inl ⟨ho, by simp, rfl⟩
  · refine .inr (.inr ⟨by omega, ?_⟩)
    rw [List.getElem?_eq_none (by omega), List.getElem?_eq_none (by show (maskL [] 0 st.L).length ≤ o; rw [maskL_length]; omega)]

theorem all_mem {l : List LV} {n : Nat} {fr : List LV} {ins : List Nat} (h : ((ins.map fun s => fr.getD s .u).all (ltV n)) = true) : ∀ s, s ∈ ins → ltV n (fr.getD s .u) = true := fun s hs => List.all_eq_true.1 h _ (List.mem_map_of_mem hs)

theorem runDop_ok (hE : EvOK P E) (hC : CfgOK P C) (hQ : ∀ t z, C.eqT t = some z → EqOK P t z) {all rest : List Oper} {rs : List Rec} {o : Oper} {ins : List Nat} {fid : Nat} {fr : List LV} {st : St} {K : Kont} {res : Res} (hlo : st.lo ≤ st.L.length) (hed : ∀ e, e ∈ o.after → Region.binds .any e = true → e.on < rs.length) (hw : Wants all o (maskF ins 0 fr) true)
    (h : runDop C E all rest rs o ins fid fr st K = some res) : ∃ fr' st' l, K .n fr' st' = some res ∧ Chain P fid all rs (o :: rest) fr st l fr' st' := by
  unfold runDop at h
  simp only at h
  cases hins : (ins.map fun s => fr.getD s .u).all (ltV st.L.length) with
  | false => rw [hins] at h; cases h
  | true =>
    rw [hins] at h
    have hins' := all_mem (l := []) hins
    simp only [cond_true] at h
    split at h
    · rename_i f args ts ho
      split at h
      · cases h
      · rename_i hl
        have hl : args.size = ts.size := by simpa using hl
        generalize hpu : isPureV C (val C (maskF ins 0 fr) f) = pu at h
        generalize hfoot : (bif pu then (ins.map fun s => fr.getD s .u).flatMap refs else reach st 200 ((ins.map fun s => fr.getD s .u).flatMap refs) []) = foot at h
        cases hf : foot.all fun o => decide (o < st.L.length) && ltOb st.L.length (st.L.getD o .dead) with
        | false => rw [hf] at h; cases h
        | true =>
          rw [hf] at h
          simp only [cond_true] at h
          have hf' : ∀ x, x ∈ foot → x < st.L.length ∧ ltOb st.L.length (st.L.getD x .dead) = true := fun x hx => by
            have := List.all_eq_true.1 hf x hx
            rw [Bool.and_eq_true, decide_eq_true_eq] at this; exact this
          obtain ⟨x, fr1, st1, h1, _, v, rfl, hc⟩ := hE _ _ _ _ _ _ h
          simp only at h1
          obtain ⟨c1, c2, fr', st', l, c3, c4⟩ := doneOp_ok hE h1
          have hlen : (mergeL (bif pu then foot.filter (fun o => !sameO ((maskL foot 0 st.L).getD o .dead) (st1.L.getD o .dead)) else foot) 0 st.L st1.L).length = st1.L.length := mergeL_length _ _ _ _ c2
          refine ⟨fr', st', _, c3, .cons (st' := ⟨mergeL (bif pu then foot.filter (fun o => !sameO ((maskL foot 0 st.L).getD o .dead) (st1.L.getD o .dead)) else foot) 0 st.L st1.L, st.lo⟩) (v := v) (st1 := st1) (lo := bif pu then st.L.length else st.lo) ⟨rfl, rfl, hlen.symm, rfl, hed, c1, hins', fun x hx => (hf' x hx).2, ?_, ?_, ?_, fun x hx => (hf' x hx).1, rfl, hlen.symm, by rw [hlen]; exact c2, sound_call hw ho hl hc, ?_, fun x => merge_new c2 x⟩ c4⟩
          · intro x hx
            cases pu
            · exact hx
            · exact (List.mem_filter.1 hx).1
          · cases pu
            · exact Nat.le_refl _
            · exact hlo
          · cases pu
            · exact hlo
            · exact Nat.le_refl _
          · intro R R' w w' hW x hx hnt hxf
            cases pu
            · exact absurd hxf hnt
            · have hm : (maskL foot 0 st.L)[x]? = st.L[x]? := by
                rw [maskL_at, List.getElem?_eq_getElem hx]; simp [List.contains_eq_mem, hxf]
              rcases hW.old x hx (by show x < (maskL foot 0 st.L).length; rw [maskL_length]; exact hx) with h5 | ⟨t, e, h5, h6⟩
              · exact h5.trans hm
              · exfalso
                apply hnt
                have h5 : (maskL foot 0 st.L)[x]? = _ := h5
                refine List.mem_filter.2 ⟨hxf, ?_⟩
                rw [List.getD_eq_getElem?_getD, h5, List.getD_eq_getElem?_getD, h6]; rfl
    · generalize hfoot : (bif usesSt o.op then (ins.map fun s => fr.getD s .u).flatMap refs else []) = foot at h
      cases hf : foot.all fun o => decide (o < st.L.length) && ltOb st.L.length (st.L.getD o .dead) with
      | false => rw [hf] at h; cases h
      | true =>
        rw [hf] at h
        simp only [cond_true] at h
        have hf' : ∀ x, x ∈ foot → x < st.L.length ∧ ltOb st.L.length (st.L.getD x .dead) = true := fun x hx => by
          have := List.all_eq_true.1 hf x hx
          rw [Bool.and_eq_true, decide_eq_true_eq] at this; exact this
        split at h
        · cases h
        · rename_i side v st1 hop
          cases side with
          | false => cases h
          | true =>
            simp only [cond_true] at h
            cases hpl : isPL o.op with
            | true =>
              rw [hpl] at h
              simp only [cond_true] at h
              have hst1 := evOp_PL hpl hop
              subst hst1
              obtain ⟨c1, c2, fr', st', l, c3, c4⟩ := doneOp_ok hE h
              refine ⟨fr', st', _, c3, .cons (st' := st) (v := v) (st1 := ⟨maskL foot 0 st.L, st.lo⟩) (lo := st.lo) ⟨rfl, rfl, rfl, rfl, hed, c1, hins', fun x hx => (hf' x hx).2, fun x hx => (by cases hx), Nat.le_refl _, hlo, fun x hx => (hf' x hx).1, rfl, maskL_length _ _ _, Nat.le_refl _, sound_op hC hQ hw hop, fun _ _ _ _ _ x hx _ hxf => ?_, fun x => ?_⟩ c4⟩
              · show (maskL foot 0 st.L)[x]? = _
                rw [maskL_at, List.getElem?_eq_getElem hx]; simp [List.contains_eq_mem, hxf]
              · by_cases hx : x < st.L.length
                · exact .inl ⟨hx, by simp, rfl⟩
                · refine .inr (.inr ⟨by omega, ?_⟩)
                  rw [List.getElem?_eq_none (by omega), List.getElem?_eq_none (by show (maskL foot 0 st.L).length ≤ x; rw [maskL_length]; omega)]
            | false =>
              rw [hpl] at h
              simp only [cond_false] at h
              obtain ⟨c1, c2, fr', st', l, c3, c4⟩ := doneOp_ok hE h
              have hlen : (mergeL foot 0 st.L st1.L).length = st1.L.length := mergeL_length _ _ _ _ c2
              exact ⟨fr', st', _, c3, .cons (st' := ⟨mergeL foot 0 st.L st1.L, st.lo⟩) (v := v) (st1 := st1) (lo := st.lo) ⟨rfl, rfl, hlen.symm, rfl, hed, c1, hins', fun x hx => (hf' x hx).2, fun x hx => hx, Nat.le_refl _, hlo, fun x hx => (hf' x hx).1, rfl, hlen.symm, by rw [hlen]; exact c2, sound_op hC hQ hw hop, fun _ _ _ _ _ x hx hnt hxf => absurd hxf hnt, fun x => merge_new c2 x⟩ c4⟩

theorem guard_in {all : List Oper} {o : Oper} {j d : Nat} {want : Bool} (hg : o.guard = some (j, want)) (hd : (all[j]?).bind (·.dst) = some d) : d ∈ opSlots all o := by
  unfold opSlots
  rw [hg]
  simp only [hd, Option.toList_some]
  exact List.mem_append_right _ List.mem_cons_self

theorem stepDop_ok (hE : EvOK P E) (hC : CfgOK P C) (hQ : ∀ t z, C.eqT t = some z → EqOK P t z) {all rest : List Oper} {rs : List Rec} {o : Oper} {fid : Nat} {fr : List LV} {st : St} {K : Kont} {res : Res}
    (h : stepDop C E all rest rs o fid fr st K = some res) : ∃ fr' st' l, K .n fr' st' = some res ∧ Chain P fid all rs (o :: rest) fr st l fr' st' := by
  unfold stepDop at h
  simp only at h
  split at h
  · cases h
  · rename_i hck
    rw [Bool.not_eq_true, Bool.or_eq_false_iff, decide_eq_false_iff_not, Bool.not_eq_false'] at hck
    have hlo : st.lo ≤ st.L.length := by omega
    have hed : ∀ e, e ∈ o.after → Region.binds .any e = true → e.on < rs.length := fun e he hbd => by
      have := Array.all_eq_true_iff_forall_mem.1 hck.2 e he
      simpa [hbd] using this
    split at h
    · rename_i hg
      exact runDop_ok hE hC hQ hlo hed (fun R w tm ops _ _ => by simp [Region.wanted, hg]) h
    · rename_i j want hg
      split at h
      · cases h
      · rename_i d hd
        have hin := guard_in hg hd
        split at h
        · rename_i t ht
          have hset : fr.set d (.b t) = fr := set_known ht (by simp)
          have hw := guard_b hg hd (fr := maskF (opSlots all o) 0 fr) (by rw [getD_maskF hin]; exact ht)
          have hw1 := guard_b hg hd (fr := maskF [d] 0 fr) (by rw [getD_maskF (by simp)]; exact ht)
          have hlt : ∀ s, s ∈ [d] → ltV st.L.length (fr.getD s .u) = true := fun s hs => by
            rw [List.mem_singleton.1 hs, ht]; rfl
          cases t <;> cases want <;> simp only [cond_true, cond_false, hset] at h
          · exact runDop_ok hE hC hQ hlo hed hw h
          · exact skipDop_ok hE hlo hed hw1 hlt h
          · exact skipDop_ok hE hlo hed hw1 hlt h
          · exact runDop_ok hE hC hQ hlo hed hw h
        · rename_i ht
          exact skipDop_ok hE hlo hed (guard_t hg hd (fr := maskF [d] 0 fr) (by rw [getD_maskF (by simp)]; exact ht)) (fun s hs => by rw [List.mem_singleton.1 hs, ht]; rfl) h
        · cases h

/-! Calls. -/
theorem stepCall_ok (hE : EvOK P E) (hC : CfgOK P C) (hP : PrimOK P C) (hS : SpecOK P C) {fv : LV} {args : List LV} {fid : Nat} {fr : List LV} {st : St} {K : Kont} {r : Res} (h : stepCall C E fv args fid fr st K = some r) :
    ∃ v st', K (.v v) fr st' = some r ∧ CallOK P fv args st v st' := by
  unfold stepCall at h
  split at h
  · rename_i k caps
    split at h
    · rename_i v hv
      exact ⟨v, st, h, hP k caps args v hv st⟩
    · split at h
      · cases h
      · rename_i f hf
        split at h
        · cases h
        · rename_i body hb
          rw [Option.bind_eq_some_iff] at h
          obtain ⟨vals, hva, h⟩ := h
          cases hp : C.pure_ k
          · rw [hp] at h
            simp only [cond_false] at h
            obtain ⟨x, fr1, st1, h1, h2⟩ := hE _ _ _ _ _ _ h
            have fin : (x = .r ∨ x = .n) → ((resVals C f fr1 st1).bind fun v => K (.v v) fr st1) = some r → ∃ v st', K (.v v) fr st' = some r ∧ CallOK P (.fn k caps) args st v st' := by
              intro hx h3
              rw [Option.bind_eq_some_iff] at h3
              obtain ⟨v, hv, h3⟩ := h3
              exact ⟨v, st1, h3, call_ok hC hf hb hva h2 hx hv⟩
            cases x with
            | n => exact fin (.inr rfl) h1
            | r => exact fin (.inl rfl) h1
            | e _ => cases h1
            | v _ => cases h1
          · rw [hp] at h
            simp only [cond_true] at h
            split at h
            · cases h
            · rename_i hclo
              have hclo : (frzVs st vals).1.all clo = true := by simpa using hclo
              split at h
              · rename_i c hc
                obtain ⟨⟨v, ts⟩, h1, h2⟩ := hS _ _ _ _ _ hc h
                exact ⟨_, _, h1, pure_spec hC hf hva hclo h2⟩
              rw [Option.bind_eq_some_iff] at h
              obtain ⟨⟨v, ts⟩, h1, h⟩ := h
              obtain ⟨x, fr1, st1, h2, h3⟩ := hE _ _ _ _ _ _ h1
              have fin : (x = .r ∨ x = .n) → ((resVals C f fr1 st1).bind fun v => some (out C st1 v)) = some (v, ts) → ∃ v st', K (.v v) fr st' = some r ∧ CallOK P (.fn k caps) args st v st' := by
                intro hx h4
                rw [Option.bind_eq_some_iff] at h4
                obtain ⟨v0, hv, h4⟩ := h4
                have h5 := pure_ok hC hf hb hva hclo h3 hx hv
                injection h4 with h4
                rw [h4] at h5
                exact ⟨_, _, h, h5⟩
              cases x with
              | n => exact fin (.inr rfl) h2
              | r => exact fin (.inl rfl) h2
              | e _ => cases h2
              | v _ => cases h2
  · rename_i l
    split at h
    · rename_i fr0 ps asg body fid0 hl
      have hl' := getD_some hl (by simp)
      split at h
      · cases h
      · rename_i hlo
        split at h
        · cases h
        · rename_i hn
          obtain ⟨x, fr1, st1, h1, h2⟩ := hE _ _ _ _ _ _ h
          cases x with
          | n =>
            simp only at h1
            split at h1
            · rename_i g0 g1 g2 g3 g4 hl1
              have hl1' := getD_some hl1 (by simp)
              obtain ⟨x, fr2, st2, h3, h4⟩ := hE _ _ _ _ _ _ h1
              have hln : ps.length = args.length := by simpa using hn
              cases x with
              | n => exact ⟨_, _, h3, yield_ok hl' (Nat.not_lt.1 hlo) hln h2 ⟨_, _, _, _, _, hl1'⟩ h4 (.inl ⟨rfl, rfl, rfl, rfl⟩)⟩
              | e id => exact ⟨_, _, h3, yield_ok hl' (Nat.not_lt.1 hlo) hln h2 ⟨_, _, _, _, _, hl1'⟩ h4 (.inr (.inl ⟨id, rfl, rfl, rfl, rfl⟩))⟩
              | r => exact ⟨_, _, h3, yield_ok hl' (Nat.not_lt.1 hlo) hln h2 ⟨_, _, _, _, _, hl1'⟩ h4 (.inr (.inr ⟨rfl, rfl, rfl, rfl⟩))⟩
              | v _ => cases h3
            · cases h1
          | e _ => cases h1
          | r => cases h1
          | v _ => cases h1
    · cases h
  · cases h

/-- The evaluator says what the machine does. -/
theorem ev_sound (hm : P.follows .mixedOrders = true) (hC : CfgOK P C) (hQ : ∀ t z, C.eqT t = some z → EqOK P t z) (hP : PrimOK P C) (hS : SpecOK P C) (hI : ItOK P C) : ∀ g, EvOK P (ev C g)
  | 0 => fun t fid fr st K r h => by cases t <;> simp [ev] at h
  | g + 1 => fun t fid fr st K r h => by
    have ih := ev_sound hm hC hQ hP hS hI g
    cases t with
    | code c =>
      obtain ⟨x, fr', st', h1, h2⟩ := stepCode_ok (C := C) ih hI h
      exact ⟨x, fr', st', h1, h2⟩
    | lp c =>
      obtain ⟨x, fr1, st1, h1, h2⟩ := ih _ _ _ _ _ _ h
      cases x with
      | n =>
        obtain ⟨x, fr', st', h3, h4⟩ := ih _ _ _ _ _ _ h1
        exact ⟨x, fr', st', h3, lp_round h2 h4⟩
      | e id => exact ⟨_, _, _, h1, lp_leave (by simp) h2⟩
      | r => exact ⟨_, _, _, h1, lp_leave (by simp) h2⟩
      | v y => exact ⟨_, _, _, h1, lp_leave (by simp) h2⟩
    | ops all rest =>
      cases rest with
      | nil => exact ⟨.n, fr, st, h, rfl, ops_nil⟩
      | cons o rest =>
        obtain ⟨fr', st', h1, h2⟩ := stepOps_ok ih hC hQ h
        exact ⟨.n, fr', st', h1, rfl, h2⟩
    | dop all rest rs =>
      cases rest with
      | nil => exact ⟨.n, fr, st, h, rfl, [], .nil⟩
      | cons o rest =>
        obtain ⟨fr', st', l, h1, h2⟩ := stepDop_ok ih hC hQ h
        exact ⟨.n, fr', st', h1, rfl, l, h2⟩
    | dops ops =>
      obtain ⟨x, fr', st', h1, rfl, l, h2⟩ := ih _ _ _ _ _ _ h
      refine ⟨.n, fr', st', h1, rfl, fun id => ?_⟩
      obtain ⟨frs, sts, vs, e1, e2, e3, e4, e5, e6⟩ := h2.run
      have hr : Run P fid ops.toList l ops.toList.length frs sts vs := ⟨e5, rfl, fun i hi => by simpa using e6 i hi⟩
      have := hr.draw hm id
      rw [e1, e2, e3, e4] at this
      exact this
    | call f args =>
      obtain ⟨v, st', h1, h2⟩ := stepCall_ok (fid := fid) ih hC hP hS h
      exact ⟨.v v, fr, st', h1, rfl, v, rfl, h2⟩
end
end Gz
