/- Pieces that are told: functions by themselves, loops, conditions. -/
import Derived.Test.YtpdomjkgdlineaaBXSame
import Derived.KernelRfl
set_option linter.unusedVariables false
set_option linter.unusedSimpArgs false
set_option linter.unnecessarySimpa false
set_option linter.deprecated false
namespace Gz
open Go

/-! What a value looks like, its numbers and lists left open. -/
inductive Pat0
  | u | b | i (k : IntKind) | s | p (o e off : Nat) | pnil | sl (o : Nat) | slv (g : Tag) | slnil (g : Tag) | av (g : Tag) | yl (l : Nat) | fnil | mp (o : Nat) | an (g : Tag) (n : Nat)
inductive Pat
  | o (p : Pat0)
  | fn (f : Nat) (ps : List Pat0)
  | ag (ps : List Pat0)
inductive PatO
  | cells (ps : List Pat) | arr (g : Tag) (e : Nat) | ro (g : Tag) | dead
  | loop (fr : List Pat) (params : List Nat) (assign body : Code) (fid : Nat) (s : LoopState)

def castTL (g : Tag) (t : TL) : List (El g) := if h : t.g = g then h ▸ t.l else []
def exB : LV → Bool | .b t => t | _ => false
def exI : LV → Int | .i _ n => n | _ => 0
def exS : LV → ByteArray | .s x => x | _ => ByteArray.empty
def exT (g : Tag) : LV → List (El g) | .slv t => castTL g t | .av t => castTL g t | _ => []
def exA (g : Tag) : LO → List (El g) | .arr t _ => castTL g t | .ro t => castTL g t | _ => []
def exC : LV → List LV | .ag cs => cs | .fn _ cs => cs | _ => []
def exF : LO → List LV | .cells cs => cs | .loop fr _ _ _ _ _ _ => fr | _ => []

theorem castTL_eq {t : TL} {g : Tag} (h : t.g = g) : (⟨g, castTL g t⟩ : TL) = t := by subst h; simp [castTL]

/-- The first n elements, one by one. -/
def firstN (g : Tag) : Nat → Nat → List (El g) → List (El g)
  | _, 0, _ => []
  | i, n + 1, l => l.getD i (dfl g) :: firstN g (i + 1) n l
theorem firstNxeq (g : Tag) : ∀ (l pre : List (El g)), firstN g pre.length l.length (pre ++ l) = l
  | [], pre => rfl
  | x :: l, pre => by
    have h := firstNxeq g l (pre ++ [x])
    simp only [List.length_append, List.length_cons, List.length_nil, List.append_assoc, List.singleton_append] at h
    simp only [List.length_cons, firstN]
    rw [h]
    congr 1
    simp

def nor0 : Pat0 → LV → LV
  | .u, _ => .u
  | .b, v => .b (exB v)
  | .i k, v => .i k (exI v)
  | .s, v => .s (exS v)
  | .p o e f, _ => .p o e f
  | .pnil, _ => .pnil
  | .sl o, _ => .sl o
  | .slv g, v => .slv ⟨g, exT g v⟩
  | .slnil g, _ => .slnil g
  | .av g, v => .av ⟨g, exT g v⟩
  | .yl l, _ => .yl l
  | .fnil, _ => .fnil
  | .mp o, _ => .mp o
  | .an g n, v => .av ⟨g, firstN g 0 n (exT g v)⟩
def chk0 : Pat0 → LV → Bool
  | .u, .u => true
  | .b, .b _ => true
  | .i k, .i k' _ => decide (k = k')
  | .s, .s _ => true
  | .p o e f, .p o' e' f' => Nat.beq o o' && (Nat.beq e e' && Nat.beq f f')
  | .pnil, .pnil => true
  | .sl o, .sl o' => Nat.beq o o'
  | .slv g, .slv t => decide (t.g = g)
  | .slnil g, .slnil g' => decide (g = g')
  | .av g, .av t => decide (t.g = g)
  | .yl l, .yl l' => Nat.beq l l'
  | .fnil, .fnil => true
  | .mp o, .mp o' => Nat.beq o o'
  | .an g n, .av t => decide (t.g = g) && Nat.beq t.l.length n
  | _, _ => false
theorem chk0xok {p : Pat0} {v : LV} (h : chk0 p v = true) : nor0 p v = v := by
  unfold chk0 at h
  split at h
  · rfl
  · rfl
  · rename_i k k' n
    have : k = k' := by simpa using h
    subst this; rfl
  · rfl
  · rename_i o e f o' e' f'
    have h1 := and_b h
    have h2 := and_b h1.2
    rw [Nat.eq_of_beq_eq_true h1.1, Nat.eq_of_beq_eq_true h2.1, Nat.eq_of_beq_eq_true h2.2]; rfl
  · rfl
  · rw [Nat.eq_of_beq_eq_true h]; rfl
  · rename_i g t
    have : t.g = g := by simpa using h
    simp only [nor0, exT]; rw [castTL_eq this]
  · rename_i g g'
    have : g = g' := by simpa using h
    subst this; rfl
  · rename_i g t
    have : t.g = g := by simpa using h
    simp only [nor0, exT]; rw [castTL_eq this]
  · rw [Nat.eq_of_beq_eq_true h]; rfl
  · rfl
  · rw [Nat.eq_of_beq_eq_true h]; rfl
  · rename_i g n t
    have h := and_b h
    obtain ⟨g', l⟩ := t
    obtain rfl : g' = g := by simpa using h.1
    have h2 : l.length = n := Nat.eq_of_beq_eq_true h.2
    subst h2
    simp only [nor0, exT, castTL, dif_pos]
    have := firstNxeq g' l []
    simp only [List.nil_append, List.length_nil] at this
    rw [this]
  · cases h

def norL0 : Nat → List Pat0 → List LV → List LV
  | _, [], _ => []
  | i, p :: ps, l => nor0 p (l.getD i .u) :: norL0 (i + 1) ps l
def chkL0 : List Pat0 → List LV → Bool
  | [], [] => true
  | p :: ps, v :: l => chk0 p v && chkL0 ps l
  | _, _ => false
theorem chkL0xok : ∀ {ps : List Pat0} {l : List LV} (pre : List LV), chkL0 ps l = true → norL0 pre.length ps (pre ++ l) = l
  | [], [], pre, _ => rfl
  | [], _ :: _, _, h => by simp [chkL0] at h
  | _ :: _, [], _, h => by simp [chkL0] at h
  | p :: ps, v :: l, pre, h => by
    have h := and_b h
    have h2 := chkL0xok (pre ++ [v]) h.2
    simp only [List.length_append, List.length_cons, List.length_nil, List.append_assoc, List.singleton_append] at h2
    simp only [norL0]
    rw [h2]
    congr 1
    simp [chk0xok h.1]

theorem chkL0xok0 {ps : List Pat0} {l : List LV} (h : chkL0 ps l = true) : norL0 0 ps l = l := chkL0xok [] h

def nor : Pat → LV → LV
  | .o p, v => nor0 p v
  | .fn f ps, v => .fn f (norL0 0 ps (exC v))
  | .ag ps, v => .ag (norL0 0 ps (exC v))
def chk : Pat → LV → Bool
  | .o p, v => chk0 p v
  | .fn f ps, .fn f' cs => Nat.beq f f' && chkL0 ps cs
  | .ag ps, .ag cs => chkL0 ps cs
  | _, _ => false
theorem chk_ok {p : Pat} {v : LV} (h : chk p v = true) : nor p v = v := by
  unfold chk at h
  split at h
  · exact chk0xok h
  · have h := and_b h
    simp only [nor, exC]
    rw [Nat.eq_of_beq_eq_true h.1, chkL0xok0 h.2]
  · simp only [nor, exC]
    rw [chkL0xok0 h]
  · cases h
def norL : Nat → List Pat → List LV → List LV
  | _, [], _ => []
  | i, p :: ps, l => nor p (l.getD i .u) :: norL (i + 1) ps l
def chkL : List Pat → List LV → Bool
  | [], [] => true
  | p :: ps, v :: l => chk p v && chkL ps l
  | _, _ => false
theorem chkL_ok : ∀ {ps : List Pat} {l : List LV} (pre : List LV), chkL ps l = true → norL pre.length ps (pre ++ l) = l
  | [], [], pre, _ => rfl
  | [], _ :: _, _, h => by simp [chkL] at h
  | _ :: _, [], _, h => by simp [chkL] at h
  | p :: ps, v :: l, pre, h => by
    have h := and_b h
    have h2 := chkL_ok (pre ++ [v]) h.2
    simp only [List.length_append, List.length_cons, List.length_nil, List.append_assoc, List.singleton_append] at h2
    simp only [norL]
    rw [h2]
    congr 1
    simp [chk_ok h.1]
theorem chkL_ok0 {ps : List Pat} {l : List LV} (h : chkL ps l = true) : norL 0 ps l = l := chkL_ok [] h
theorem norL_length : ∀ (ps : List Pat) (i : Nat) (l : List LV), (norL i ps l).length = ps.length
  | [], _, _ => rfl
  | _ :: ps, i, l => by simp [norL, norL_length ps]

def norO : PatO → LO → LO
  | .cells ps, ob => .cells (norL 0 ps (exF ob))
  | .arr g e, ob => .arr ⟨g, exA g ob⟩ e
  | .ro g, ob => .ro ⟨g, exA g ob⟩
  | .dead, _ => .dead
  | .loop fr ps a b f s, ob => .loop (norL 0 fr (exF ob)) ps a b f none s
def chkO : PatO → LO → Bool
  | .cells ps, .cells cs => chkL ps cs
  | .arr g e, .arr t e' => decide (t.g = g) && Nat.beq e e'
  | .ro g, .ro t => decide (t.g = g)
  | .dead, .dead => true
  | .loop fr ps a b f s, .loop fr' ps' a' b' f' none s' => chkL fr fr' && (Same.s ps ps' && (sameCode a a' && (sameCode b b' && (Nat.beq f f' && decide (s = s')))))
  | _, _ => false
theorem chkO_ok {p : PatO} {v : LO} (h : chkO p v = true) : norO p v = v := by
  unfold chkO at h
  split at h
  · simp only [norO, exF]
    rw [chkL_ok0 h]
  · have h := and_b h
    simp only [norO, exA]
    rw [castTL_eq (by simpa using h.1), Nat.eq_of_beq_eq_true h.2]
  · simp only [norO, exA]
    rw [castTL_eq (by simpa using h)]
  · rfl
  · simp only [Bool.and_eq_true] at h
    obtain ⟨h1, h2, h3, h4, h5, h6⟩ := h
    simp only [norO, exF]
    rw [chkL_ok0 h1, Same.ok h2, sameCode_ok h3, sameCode_ok h4, Nat.eq_of_beq_eq_true h5, of_decide_eq_true h6]
  · cases h
def norOL : Nat → List PatO → List LO → List LO
  | _, [], _ => []
  | i, p :: ps, l => norO p (l.getD i .dead) :: norOL (i + 1) ps l
def chkOL : List PatO → List LO → Bool
  | [], [] => true
  | p :: ps, v :: l => chkO p v && chkOL ps l
  | _, _ => false
theorem chkOL_ok : ∀ {ps : List PatO} {l : List LO} (pre : List LO), chkOL ps l = true → norOL pre.length ps (pre ++ l) = l
  | [], [], pre, _ => rfl
  | [], _ :: _, _, h => by simp [chkOL] at h
  | _ :: _, [], _, h => by simp [chkOL] at h
  | p :: ps, v :: l, pre, h => by
    have h := and_b h
    have h2 := chkOL_ok (pre ++ [v]) h.2
    simp only [List.length_append, List.length_cons, List.length_nil, List.append_assoc, List.singleton_append] at h2
    simp only [norOL]
    rw [h2]
    congr 1
    simp [chkO_ok h.1]
def norS (ps : List PatO) (st : St) : St := ⟨norOL 0 ps st.L, 0⟩
def chkS (ps : List PatO) (st : St) : Bool := chkOL ps st.L && Nat.beq st.lo 0
theorem chkS_ok {ps : List PatO} {st : St} (h : chkS ps st = true) : norS ps st = st := by
  have h := and_b h
  obtain ⟨L, lo⟩ := st
  have h2 : lo = 0 := Nat.eq_of_beq_eq_true h.2
  subst h2
  simp only [norS]
  rw [show norOL 0 ps L = L from chkOL_ok [] h.1]

/-! The entries that a configuration has. -/
structure SpecE where
  k : Nat
  ps : List Pat
  F : List LV → (Res → Option Res) → Option Res
structure ItE where
  fid : Nat
  code : Code
  run : List LV → St → Option (Kont → Option Res)

def findS : List SpecE → Nat → List LV → Option ((Res → Option Res) → Option Res)
  | [], _, _ => none
  | e :: S, k, args => bif Nat.beq e.k k && chkL e.ps args then some (e.F args) else findS S k args
def findI : List ItE → Nat → Code → List LV → St → Option (Kont → Option Res)
  | [], _, _, _, _ => none
  | e :: I, fid, c, fr, st => bif Nat.beq e.fid fid && sameCode e.code c then (match e.run fr st with | some g => some g | none => findI I fid c fr st) else findI I fid c fr st

def SpecE.OK (P : Program) (B : Cfg) (e : SpecE) : Prop := ∀ args K r, chkL e.ps args = true → e.F args K = some r → ∃ res, K res = some r ∧ PureOK P B e.k args res
def ItE.OK (P : Program) (e : ItE) : Prop := ∀ fr st g K r, e.run fr st = some g → g K = some r → ∃ x fr' st', K x fr' st' = some r ∧ CodeOK P e.code e.fid fr st x fr' st'

def Cfg.with_ (B : Cfg) (S : List SpecE) (I : List ItE) : Cfg := { B with spec := findS S, it := findI I }

section
variable {P : Program} {B C : Cfg}

theorem findS_ok {S : List SpecE} (h : ∀ e ∈ S, e.OK P B) : ∀ k args c F r, findS S k args = some c → c F = some r → ∃ res, F res = some r ∧ PureOK P B k args res := by
  induction S with
  | nil => intro k args c F r h1; simp [findS] at h1
  | cons e S ih =>
    intro k args c F r h1 h2
    simp only [findS] at h1
    cases hq : (Nat.beq e.k k && chkL e.ps args) with
    | false => rw [hq] at h1; exact ih (fun x hx => h x (List.mem_cons_of_mem _ hx)) k args c F r h1 h2
    | true =>
      rw [hq] at h1
      cases h1
      have hq := and_b hq
      obtain rfl := Nat.eq_of_beq_eq_true hq.1
      exact h e (List.mem_cons_self) args F r hq.2 h2
theorem findI_ok {I : List ItE} (h : ∀ e ∈ I, e.OK P) : ∀ fid c fr st g K r, findI I fid c fr st = some g → g K = some r → ∃ x fr' st', K x fr' st' = some r ∧ CodeOK P c fid fr st x fr' st' := by
  induction I with
  | nil => intro fid c fr st g K r h1; simp [findI] at h1
  | cons e I ih =>
    intro fid c fr st g K r h1 h2
    simp only [findI] at h1
    cases hq : (Nat.beq e.fid fid && sameCode e.code c) with
    | false => rw [hq] at h1; exact ih (fun x hx => h x (List.mem_cons_of_mem _ hx)) fid c fr st g K r h1 h2
    | true =>
      rw [hq] at h1
      have hq := and_b hq
      obtain rfl := Nat.eq_of_beq_eq_true hq.1
      obtain rfl := sameCode_ok hq.2
      simp only [cond_true] at h1
      split at h1
      · rename_i g' hg
        cases h1
        exact h e (List.mem_cons_self) fr st g K r hg h2
      · exact ih (fun x hx => h x (List.mem_cons_of_mem _ hx)) _ _ fr st g K r h1 h2

/-- What is known of a program's tables, whatever is told. -/
structure Base (P : Program) (B : Cfg) : Prop where
  mo : P.follows .mixedOrders = true
  ok : CfgOK P B
  eq : ∀ t z, B.eqT t = some z → EqOK P t z
  prim : PrimOK P B

theorem resVals_with (B : Cfg) (S : List SpecE) (I : List ItE) : resVals (B.with_ S I) = resVals B := by kernel_rfl
theorem out_with (B : Cfg) (S : List SpecE) (I : List ItE) : out (B.with_ S I) = out B := by kernel_rfl
theorem PureOK.with_ {k : Nat} {args : List LV} {res : Res} (S : List SpecE) (I : List ItE) (h : PureOK P B k args res) : PureOK P (B.with_ S I) k args res := by
  obtain ⟨f, body, x, fr1, st1, v0, h1, h2, h3, h4, h5, h6⟩ := h
  exact ⟨f, body, x, fr1, st1, v0, h1, h2, h3, h4, by rw [resVals_with]; exact h5, by rw [out_with]; exact h6⟩

theorem Base.with_ (h : Base P B) (S : List SpecE) (I : List ItE) : CfgOK P (B.with_ S I) ∧ (∀ t z, (B.with_ S I).eqT t = some z → EqOK P t z) ∧ PrimOK P (B.with_ S I) :=
  ⟨⟨fun t => ⟨fun hk => (h.ok.ty t).out hk⟩, fun k f hf => h.ok.fn k f hf⟩, fun t z ht => h.eq t z ht, fun k caps args v hv st => h.prim k caps args v hv st⟩

theorem Base.sound (h : Base P B) {S : List SpecE} {I : List ItE} (hS : ∀ e ∈ S, e.OK P B) (hI : ∀ e ∈ I, e.OK P) (g : Nat) : EvOK P (ev (B.with_ S I) g) := by
  obtain ⟨h1, h2, h3⟩ := h.with_ S I
  refine ev_sound h.mo h1 h2 h3 (fun k args c F r a b => ?_) (fun fid c fr st g K r a b => ?_) g
  · obtain ⟨res, h4, h5⟩ := findS_ok hS k args c F r a b
    exact ⟨res, h4, PureOK.with_ S I h5⟩
  · exact findI_ok hI fid c fr st g K r a b

/-- A function by itself. -/
def endK (C : Cfg) (f : Func) (K : Res → Option Res) : Kont := fun x fr1 st1 => match x with
  | .r | .n => (resVals C f fr1 st1).bind fun v => K (out C st1 v)
  | _ => none

theorem fun_item (h : Base P B) {S : List SpecE} {I : List ItE} (hS : ∀ e ∈ S, e.OK P B) (hI : ∀ e ∈ I, e.OK P) (g : Nat) (e : SpecE) {f : Func} {body : Code} (hf : B.fn e.k = some f) (hb : f.body = some body)
    (hF : ∀ args K, e.F args K = ev (B.with_ S I) g (.code body) e.k (norL 0 e.ps args ++ List.replicate (f.ntmps - (norL 0 e.ps args).length) .u) ⟨[], 0⟩ (endK B f K)) : e.OK P B := by
  intro args K r hc hr
  rw [hF, chkL_ok0 hc] at hr
  obtain ⟨x, fr1, st1, h1, h2⟩ := h.sound hS hI g _ _ _ _ _ _ hr
  have h2 : CodeOK P body e.k (args ++ List.replicate (f.ntmps - args.length) .u) ⟨[], 0⟩ x fr1 st1 := h2
  have fin : (x = .r ∨ x = .n) → ((resVals B f fr1 st1).bind fun v => K (out B st1 v)) = some r → ∃ res, K res = some r ∧ PureOK P B e.k args res := by
    intro hx h3
    rw [Option.bind_eq_some_iff] at h3
    obtain ⟨v, hv, h3⟩ := h3
    exact ⟨_, h3, f, body, x, fr1, st1, v, hf, hb, h2, hx, hv, rfl⟩
  cases x with
  | n => exact fin (.inr rfl) h1
  | r => exact fin (.inl rfl) h1
  | e _ => cases h1
  | v _ => cases h1

/-! Loops. -/
/-- Slices that are written no more. -/
def prep : List Nat → List LV → St → List LV × St
  | [], fr, st => (fr, st)
  | k :: fz, fr, st => let q := frz st (fr.getD k .u); prep fz (fr.set k (nrm1 q.1)) q.2
def canF (C : Cfg) (fz keep : List Nat) (n0 : Nat) (fr : List LV) (st : St) : Option (List LV × St) := let q := prep fz fr st; canon C keep n0 q.1 q.2

theorem prep_sound : ∀ {fz : List Nat} {R : Rl} {fr : List LV} {st : St} {w : World} {us : List Value}, Sim R st w → VLR R w fr us →
    ∃ R', Sim R' (prep fz fr st).2 w ∧ VLR R' w (prep fz fr st).1 us ∧ Ext R R' w w ∧ Wm R R' st (prep fz fr st).2 w w ∧ R'.D = R.D
  | [], R, fr, st, w, us, hs, hf => ⟨R, hs, hf, Ext.refl R w, Wm.refl R st w, rfl⟩
  | k :: fz, R, fr, st, w, us, hs, hf => by
    obtain ⟨R1, a1, a2, a3, a4, a5, a6⟩ := frz_sound hs (hf.getD k)
    have h1 : VLR R1 w (fr.set k (nrm1 (frz st (fr.getD k .u)).1)) us := by
      have h2 := (VL.ext hf a2).set k (nrm1xV a4)
      by_cases hk : k < us.length
      · have : us.getD k undef = us[k] := by simp [List.getD, List.getElem?_eq_getElem hk]
        rw [this, List.set_getElem_self] at h2
        exact h2
      · rw [List.set_eq_of_length_le (l := us) (by omega)] at h2
        exact h2
    obtain ⟨R2, b1, b2, b3, b4, b5⟩ := prep_sound (fz := fz) a1 h1
    exact ⟨R2, b1, b2, a2.trans b3, a3.trans (Nat.le_refl _) b4, b5.trans a5⟩

theorem head_body {c : Code} {fid n0 : Nat} {fr1 fr2 fr' : List LV} {st1 st2 st' : St} {x : X} (h : CodeOK P c fid fr1 st1 .n fr2 st2) (h' : HeadOK P c fid n0 fr2 st2 x fr' st') : HeadOK P c fid n0 fr1 st1 x fr' st' := by
  intro R0 st0 w0 R1 w tm b df k cs ds hb hs0 hn hlo hin a1 a2 e1 m1 hD hds1 hds2
  obtain ⟨R2, w2, tm2, ds2, b1, b2, b3, b4, b5, b6, b7, b8⟩ := (h R1 w tm b (ds.map mark ++ df) (.inLoop c :: k) cs hb a1 a2 (hin.step e1 m1)).out
  have := h' R0 st0 w0 R2 w2 tm2 b df k cs (ds2 ++ ds) hb hs0 hn hlo hin b2 b3 (e1.trans b4) (m1.trans e1.size b5) (by rw [b6, hD, List.append_assoc]) (fun hr => by rw [b7 hr, hds1 hr]; rfl) (fun d hd => by
    rcases List.mem_append.1 hd with hd | hd
    · exact Nat.le_trans e1.size (b8 d hd)
    · exact hds2 d hd)
  refine .of_steps (Steps.trans b1 (.one st_inLoop)) ?_
  rwa [List.map_append, List.append_assoc] at this

theorem head_can {c : Code} {fid n0 : Nat} {fz keep : List Nat} {fr fr1 fr' : List LV} {st st1 st' : St} {x : X} (hcan : canF C fz keep n0 fr st = some (fr1, st1)) (h : HeadOK P c fid n0 fr1 st1 x fr' st') : HeadOK P c fid n0 fr st x fr' st' := by
  intro R0 st0 w0 R w tm b df k cs ds hb hs0 hn hlo hin hs hf e m hD hds1 hds2
  obtain ⟨Rp, p1, p2, p3, p4, p5⟩ := prep_sound (fz := fz) hs hf
  have m' := m.trans e.size p4
  obtain ⟨R1, a1, a2, a3⟩ := canon_sound p1 p2 (by rw [← hn]; exact m'.len) hcan
  exact h R0 st0 w0 R1 w tm b df k cs ds hb hs0 hn hlo hin a1 a2 (a3.ext hs0 hn (e.trans p3)) (a3.wm hn hlo m') (by rw [a3.D, p5, hD]) hds1 hds2

theorem head_exit {c : Code} {fid n0 : Nat} {keep : List Nat} {fr1 fr2 fr' : List LV} {st1 st2 st' : St} {x : X} (hx : x ≠ .n) (h : CodeOK P c fid fr1 st1 x fr2 st2) (hcan : canon C keep n0 fr2 st2 = some (fr', st')) : HeadOK P c fid n0 fr1 st1 x fr' st' := by
  intro R0 st0 w0 R1 w tm b df k cs ds hb hs0 hn hlo hin a1 a2 e1 m1 hD hds1 hds2
  obtain ⟨R2, w2, tm2, ds2, b1, b2, b3, b4, b5, b6, b7, b8⟩ := (h R1 w tm b (ds.map mark ++ df) (.inLoop c :: k) cs hb a1 a2 (hin.step e1 m1)).out
  have e2 := e1.trans b4
  have m2 := m1.trans e1.size b5
  obtain ⟨R3, d1, d2, d3⟩ := canon_sound b2 b3 (by rw [← hn]; exact m2.len) hcan
  refine ⟨R3, w2, tm2, ds2 ++ ds, ?_, d1, d2, d3.ext hs0 hn e2, d3.wm hn hlo m2, by rw [d3.D, b6, hD, List.append_assoc], fun hr => by rw [b7 hr, hds1 hr]; rfl, fun d hd => ?_⟩
  · rw [List.map_append, List.append_assoc]
    exact Arr.pass (k' := .inLoop c :: k) hx (fun _ _ => rfl) b1
  · rcases List.mem_append.1 hd with hd | hd
    · exact Nat.le_trans e1.size (b8 d hd)
    · exact hds2 d hd

def headK (C : Cfg) (fz keep keepX : List Nat) (n0 : Nat) (pf : List Pat) (ps : List PatO) (R : List LV → St → Option Res) (K : Kont) : Kont := fun x fr st => match x with
  | .n => match canF C fz keep n0 fr st with
    | none => none
    | some q => bif chkL pf q.1 && chkS ps q.2 then R q.1 q.2 else none
  | x => match canon C keepX n0 fr st with
    | none => none
    | some q => K x q.1 q.2

theorem loop_go (h : Base P B) {S : List SpecE} {I : List ItE} (hS : ∀ e ∈ S, e.OK P B) (hI : ∀ e ∈ I, e.OK P) {g fid : Nat} {b : Code} {n0 : Nat} {fz keep keepX : List Nat} {pf : List Pat} {ps : List PatO} {L : Kont → Nat → List LV → St → Option Res}
    (h0 : ∀ K fr st, L K 0 fr st = none)
    (hL : ∀ K n fr st, L K (n + 1) fr st = ev (B.with_ S I) g (.code b) fid (norL 0 pf fr) (norS ps st) (headK B fz keep keepX n0 pf ps (L K n) K)) :
    ∀ (n : Nat) (fr : List LV) (st : St) (K : Kont) (r : Res), chkL pf fr = true → chkS ps st = true → L K n fr st = some r → ∃ x fr' st', K x fr' st' = some r ∧ HeadOK P b fid n0 fr st x fr' st'
  | 0, fr, st, K, r, _, _, hr => by rw [h0] at hr; cases hr
  | n + 1, fr, st, K, r, hf, hs, hr => by
    rw [hL, chkL_ok0 hf, chkS_ok hs] at hr
    obtain ⟨x, fr2, st2, h1, h2⟩ := h.sound hS hI g _ _ _ _ _ _ hr
    have h2 : CodeOK P b fid fr st x fr2 st2 := h2
    have fin : x ≠ .n → (match canon B keepX n0 fr2 st2 with | none => none | some q => K x q.1 q.2) = some r → ∃ x fr' st', K x fr' st' = some r ∧ HeadOK P b fid n0 fr st x fr' st' := by
      intro hx h3
      split at h3
      · cases h3
      · rename_i q hq
        exact ⟨x, _, _, h3, head_exit hx h2 hq⟩
    cases x with
    | n =>
      simp only [headK] at h1
      split at h1
      · cases h1
      · rename_i q hq
        cases hc : (chkL pf q.1 && chkS ps q.2) with
        | false => rw [hc] at h1; cases h1
        | true =>
          rw [hc] at h1
          have hc := and_b hc
          obtain ⟨x, fr', st', h3, h4⟩ := loop_go h hS hI h0 hL n q.1 q.2 K r hc.1 hc.2 h1
          exact ⟨x, fr', st', h3, head_body h2 (head_can hq h4)⟩
    | e id => exact fin (by simp) h1
    | r => exact fin (by simp) h1
    | v y => exact fin (by simp) h1

/-- A loop's entry. -/
def loopE (B : Cfg) (fid : Nat) (b : Code) (fz keep : List Nat) (pf : List Pat) (ps : List PatO) (n0 N : Nat) (L : Kont → Nat → List LV → St → Option Res) : ItE :=
  { fid := fid, code := .loop b, run := fun fr st => bif Nat.beq st.L.length n0 && Nat.beq st.lo 0 then (match canF B fz keep n0 fr st with
    | none => none
    | some q => bif chkL pf q.1 && chkS ps q.2 then some (fun K => L K N q.1 q.2) else none) else none }

theorem loop_item (h : Base P B) {S : List SpecE} {I : List ItE} (hS : ∀ e ∈ S, e.OK P B) (hI : ∀ e ∈ I, e.OK P) (g : Nat) {fid : Nat} {b : Code} {n0 N : Nat} {fz keep : List Nat} (keepX : List Nat) {pf : List Pat} {ps : List PatO} {L : Kont → Nat → List LV → St → Option Res}
    (h0 : ∀ K fr st, L K 0 fr st = none)
    (hL : ∀ K n fr st, L K (n + 1) fr st = ev (B.with_ S I) g (.code b) fid (norL 0 pf fr) (norS ps st) (headK B fz keep keepX n0 pf ps (L K n) K)) :
    (loopE B fid b fz keep pf ps n0 N L).OK P := by
  intro fr st gg K r h1 h2
  simp only [loopE] at h1
  cases hc : (Nat.beq st.L.length n0 && Nat.beq st.lo 0) with
  | false => rw [hc] at h1; cases h1
  | true =>
    rw [hc] at h1
    have hc := and_b hc
    have hn := Nat.eq_of_beq_eq_true hc.1
    have hlo := Nat.eq_of_beq_eq_true hc.2
    simp only [cond_true] at h1
    split at h1
    · cases h1
    · rename_i q hq
      cases hd : (chkL pf q.1 && chkS ps q.2) with
      | false => rw [hd] at h1; cases h1
      | true =>
        rw [hd] at h1
        cases h1
        have hd := and_b hd
        obtain ⟨x, fr', st', h3, h4⟩ := loop_go h hS hI h0 hL N q.1 q.2 K r hd.1 hd.2 h2
        refine ⟨x, fr', st', h3, head_loop hlo ?_⟩
        rw [hn]
        exact head_can hq h4

/-! Conditions whose ways meet again. -/
theorem code_can {c : Code} {fid n0 : Nat} {fz keep keepX : List Nat} {fr fr1 fr2 fr' : List LV} {st st1 st2 st' : St} {x : X} (hn : st.L.length = n0) (hlo : st.lo = 0) (hcan : canF C fz keep n0 fr st = some (fr1, st1)) (h : CodeOK P c fid fr1 st1 x fr2 st2)
    (hcan' : canon C keepX n0 fr2 st2 = some (fr', st')) : CodeOK P c fid fr st x fr' st' := by
  intro R w tm b df k cs hb hs hf hin
  obtain ⟨Rp, p1, p2, p3, p4, p5⟩ := prep_sound (fz := fz) hs hf
  obtain ⟨R1, a1, a2, a3⟩ := canon_sound p1 p2 (by rw [← hn]; exact p4.len) hcan
  have e1 := a3.ext hs hn p3
  have m1 := a3.wm hn hlo p4
  obtain ⟨R2, w2, tm2, ds2, b1, b2, b3, b4, b5, b6, b7, b8⟩ := (h R1 w tm b df k cs hb a1 a2 (hin.step e1 m1)).out
  have e2 := e1.trans b4
  have m2 := m1.trans e1.size b5
  obtain ⟨R3, d1, d2, d3⟩ := canon_sound b2 b3 (by rw [← hn]; exact m2.len) hcan'
  exact ⟨R3, w2, tm2, ds2, b1, d1, d2, d3.ext hs hn e2, d3.wm hn hlo m2, by rw [d3.D, b6, a3.D, p5], b7, fun d hd => b8 d hd⟩

def meetK (C : Cfg) (keepX : List Nat) (n0 : Nat) (K : Kont) : Kont := fun x fr st => match canon C keepX n0 fr st with
  | none => none
  | some q => K x q.1 q.2

def codeE (B : Cfg) (fid : Nat) (c : Code) (fz keep : List Nat) (pf : List Pat) (ps : List PatO) (n0 : Nat) (L : Kont → List LV → St → Option Res) : ItE :=
  { fid := fid, code := c, run := fun fr st => bif Nat.beq st.L.length n0 && Nat.beq st.lo 0 then (match canF B fz keep n0 fr st with
    | none => none
    | some q => bif chkL pf q.1 && chkS ps q.2 then some (fun K => L K q.1 q.2) else none) else none }

/-- `hL`: by the evaluator without this entry. -/
theorem code_item (h : Base P B) {S : List SpecE} {I : List ItE} (hS : ∀ e ∈ S, e.OK P B) (hI : ∀ e ∈ I, e.OK P) (g : Nat) {fid : Nat} {c : Code} {n0 : Nat} {fz keep : List Nat} (keepX : List Nat) {pf : List Pat} {ps : List PatO} {L : Kont → List LV → St → Option Res}
    (hL : ∀ K fr st, L K fr st = ev (B.with_ S I) g (.code c) fid (norL 0 pf fr) (norS ps st) (meetK B keepX n0 K)) :
    (codeE B fid c fz keep pf ps n0 L).OK P := by
  intro fr st gg K r h1 h2
  simp only [codeE] at h1
  cases hc : (Nat.beq st.L.length n0 && Nat.beq st.lo 0) with
  | false => rw [hc] at h1; cases h1
  | true =>
    rw [hc] at h1
    have hc := and_b hc
    have hn := Nat.eq_of_beq_eq_true hc.1
    have hlo := Nat.eq_of_beq_eq_true hc.2
    simp only [cond_true] at h1
    split at h1
    · cases h1
    · rename_i q hq
      cases hd : (chkL pf q.1 && chkS ps q.2) with
      | false => rw [hd] at h1; cases h1
      | true =>
        rw [hd] at h1
        cases h1
        have hd := and_b hd
        have h2 : L K q.1 q.2 = some r := h2
        rw [hL, chkL_ok0 hd.1, chkS_ok hd.2] at h2
        obtain ⟨x, fr2, st2, h3, h4⟩ := h.sound hS hI g _ _ _ _ _ _ h2
        have h4 : CodeOK P c fid q.1 q.2 x fr2 st2 := h4
        simp only [meetK] at h3
        split at h3
        · cases h3
        · rename_i q' hq'
          exact ⟨x, _, _, h3, code_can hn hlo hq h4 hq'⟩

/-- What is told of a function, as the kit's Calls. -/
theorem SpecE.calls (h : Base P B) {e : SpecE} (he : e.OK P B) {args : List LV} {K : Res → Option Res} {r : Res} (hc : chkL e.ps args = true) (hr : e.F args K = some r) {w : World} {av : Array Value} (ro : Nat → Prop)
    (hro : ∀ b, ro b → b < w.heap.size) (hV : VL (fun _ => none) ro w args av.toList) :
    ∃ res, K res = some r ∧ Calls P e.k av w fun e w' => ∃ u, e = .returned u ∧ Kept w w' ∧ ∃ (ls : List Loc) (ro' : Nat → Prop), ∀ ρ, At 0 ls ρ → V ρ ro' w' (shift 0 res.1) u := by
  obtain ⟨res, h1, h2⟩ := he args K r hc hr
  exact ⟨res, h1, pure_calls h.ok h2 ro hro hV⟩
end

/-! Short words for what is printed. -/
abbrev pu : Pat := .o .u
def cAt : List Nat → Code → Code
  | [], c => c
  | 0 :: p, .seq a _ => cAt p a
  | 1 :: p, .seq _ b => cAt p b
  | 0 :: p, .cond _ a _ => cAt p a
  | 1 :: p, .cond _ _ b => cAt p b
  | 0 :: p, .block _ b => cAt p b
  | 0 :: p, .loop b => cAt p b
  | 0 :: p, .scope b => cAt p b
  | 0 :: p, .rangeFunc _ _ a _ => cAt p a
  | 1 :: p, .rangeFunc _ _ _ b => cAt p b
  | _, c => c
def bodyOf (f : Func) : Code := match f.body with | some c => c | none => .skip
theorem all_nil {α : Type} {p : α → Prop} : ∀ e ∈ ([] : List α), p e := fun _ h => by cases h
theorem all_cons {α : Type} {p : α → Prop} {a : α} {l : List α} (h : p a) (hl : ∀ e ∈ l, p e) : ∀ e ∈ a :: l, p e := fun e he => by
  rcases List.mem_cons.1 he with rfl | he
  · exact h
  · exact hl e he

def wi64 (n : Int) : Int := IntKind.wrap .i64 n
def wi32 (n : Int) : Int := IntKind.wrap .i32 n
def wu8 (n : Int) : Int := IntKind.wrap .u8 n
def wu16 (n : Int) : Int := IntKind.wrap .u16 n
def wu32 (n : Int) : Int := IntKind.wrap .u32 n
def wu64 (n : Int) : Int := IntKind.wrap .u64 n
def band (k : IntKind) (x y : Int) : Int := k.wrap (BitVec.ofInt k.bits x &&& BitVec.ofInt k.bits y).toNat
def bor (k : IntKind) (x y : Int) : Int := k.wrap (BitVec.ofInt k.bits x ||| BitVec.ofInt k.bits y).toNat
def bxor (k : IntKind) (x y : Int) : Int := k.wrap (BitVec.ofInt k.bits x ^^^ BitVec.ofInt k.bits y).toNat
def bandNot (k : IntKind) (x y : Int) : Int := k.wrap (BitVec.ofInt k.bits x &&& ~~~BitVec.ofInt k.bits y).toNat
def bcpl (k : IntKind) (n : Int) : Int := k.wrap (BitVec.ofInt k.bits (if k.signed then -1 else k.max) ^^^ BitVec.ofInt k.bits n).toNat
def ishl (k : IntKind) (a b : Int) : Int := k.wrap (a * 2 ^ (min b.toNat k.bits))
def ishr (k : IntKind) (a b : Int) : Int := a.fdiv (2 ^ (min b.toNat k.bits))
def mn (x y : Int) : Int := if y < x then y else x
def mx (x y : Int) : Int := if y > x then y else x
def ln {α : Type} (l : List α) : Int := (l.length : Nat)
def room {α : Type} (l m : List α) : Bool := decide (l.length + m.length < maxList)
def room1 {α : Type} (m : List α) : Bool := decide (m.length < maxList)
def inb {α : Type} (i : Int) (l : List α) : Bool := decide (0 ≤ i) && decide (i < (l.length : Int))
def inm (m : Int) : Bool := decide (0 ≤ m) && decide (m ≤ 16777216)
def inn (i : Int) (n : Nat) : Bool := decide (0 ≤ i) && decide (i < (n : Int))
def rd (g : Tag) (l : List (El g)) (i : Int) : El g := l.getD i.toNat (dfl g)
def stL {α : Type} (l : List α) (i : Int) (x : α) : List α := l.set i.toNat x
def insl {α : Type} (a b : Int) (l : List α) : Bool := decide (0 ≤ a) && decide (a ≤ b) && decide (b ≤ (l.length : Int))
def insE {α : Type} (a : Int) (l : List α) : Bool := insl a (l.length : Int) l
def subL {α : Type} (l : List α) (a b : Int) : List α := (l.take b.toNat).drop a.toNat
def subE {α : Type} (l : List α) (a : Int) : List α := subL l a (l.length : Int)
def seqS (a b : ByteArray) : Bool := a.toList == b.toList
def inS (i : Int) (s : ByteArray) : Bool := decide (0 ≤ i) && decide (i < (s.size : Int))
def bt (s : ByteArray) (i : Int) : Int := ((s.data.toList.getD i.toNat 0).toNat : Int)
end Gz
