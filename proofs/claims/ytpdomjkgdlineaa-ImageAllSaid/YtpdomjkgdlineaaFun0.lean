/- Functions of the program as plain ones, printed by a program. -/
import Derived.Test.YtpdomjkgdlineaaTab
set_option linter.unusedVariables false
set_option linter.unusedSimpArgs false
set_option linter.unnecessarySimpa false
set_option linter.deprecated false
set_option maxRecDepth 100000
namespace Gz
open Go Go.Proofs
-- glazier/wire.Put, a loop
noncomputable def cL22x6 : Code := cAt [1, 1, 0, 1, 0, 0, 1, 1, 0, 0, 1, 1, 0, 0, 0] (bodyOf Try.f22)
noncomputable def fL22x6 : List Pat := List.replicate 3 pu ++ ([.o (.sl 1), pu, pu, .o (.i .u64), .o (.slv .int), .o (.i .i64), .o (.i .i64)] : List Pat) ++ List.replicate 27 pu
noncomputable def oL22x6 : List PatO := [.dead, .arr .u8 5]
noncomputable def L22x6g {α : Type}  (k0 : Int → List Int → Int → Int → List Int → Option α) (rec : Int → List Int → Int → Int → List Int → Option α) (x14 : Int) (l15 : List Int) (x16 : Int) (x17 : Int) (l18 : List Int) : Option α :=
    bif decide (x14 ≥ 128) then
      let v0 := ([bor .u8 (wu8 x14) 128] : List Int)
      bif room l18 v0 then
        rec (ishr .u64 x14 7) l15 x16 x17 (l18 ++ v0)
      else none
    else
      k0 x14 l15 x16 x17 l18
noncomputable def L22x6 {α : Type} (k0 : Int → List Int → Int → Int → List Int → Option α) : Nat → Int → List Int → Int → Int → List Int → Option α
  | 0, _, _, _, _, _ => none
  | n + 1, x14, l15, x16, x17, l18 => L22x6g  k0 (L22x6 k0 n) x14 l15 x16 x17 l18
noncomputable def EL22x6 (N : Nat) (φ : (Int → List Int → Int → Int → List Int → Option Res) → Nat → Int → List Int → Int → Int → List Int → Option Res) : ItE := loopE base 22 cL22x6 [] [3, 6, 7, 8, 9] fL22x6 oL22x6 1 N (fun K n fr st => φ (fun (x19 : Int) (l20 : List Int) (x21 : Int) (x22 : Int) (l23 : List Int) => K (.e 2) (List.replicate 3 LV.u ++ ([.sl 1, .u, .u, .i .u64 x19, .slv ⟨.int, l20⟩, .i .i64 x21, .i .i64 x22] : List LV) ++ List.replicate 27 LV.u) ⟨[.dead, .arr ⟨.u8, l23⟩ 5], 0⟩) n (exI (fr.getD 6 .u)) (exT .int (fr.getD 7 .u)) (exI (fr.getD 8 .u)) (exI (fr.getD 9 .u)) (exA .u8 (st.L.getD 1 .dead)))
theorem L22x6Key (N : Nat)  (K : Kont) (rec : Int → List Int → Int → Int → List Int → Option Res) (fr : List LV) (st : St) : L22x6g  (fun (x19 : Int) (l20 : List Int) (x21 : Int) (x22 : Int) (l23 : List Int) => K (.e 2) (List.replicate 3 LV.u ++ ([.sl 1, .u, .u, .i .u64 x19, .slv ⟨.int, l20⟩, .i .i64 x21, .i .i64 x22] : List LV) ++ List.replicate 27 LV.u) ⟨[.dead, .arr ⟨.u8, l23⟩ 5], 0⟩) rec (exI (fr.getD 6 .u)) (exT .int (fr.getD 7 .u)) (exI (fr.getD 8 .u)) (exI (fr.getD 9 .u)) (exA .u8 (st.L.getD 1 .dead)) = ev (base.with_ [] []) 400 (.code cL22x6) 22 (norL 0 fL22x6 fr) (norS oL22x6 st) (headK base [] [3, 6, 7, 8, 9] [2, 3, 6, 7, 8, 9] 1 fL22x6 oL22x6 (fun fr st => rec (exI (fr.getD 6 .u)) (exT .int (fr.getD 7 .u)) (exI (fr.getD 8 .u)) (exI (fr.getD 9 .u)) (exA .u8 (st.L.getD 1 .dead))) K) := by kernel_rfl
theorem EL22x6Ok (N : Nat) : (EL22x6 N L22x6).OK Try.prog :=
  loop_item base_ok (S := []) (I := []) all_nil all_nil 400 [2, 3, 6, 7, 8, 9] (by intro K fr st; kernel_rfl) (fun K n fr st => Eq.trans (by kernel_rfl) (Eq.trans (L22x6Key N  K (L22x6 (fun (x19 : Int) (l20 : List Int) (x21 : Int) (x22 : Int) (l23 : List Int) => K (.e 2) (List.replicate 3 LV.u ++ ([.sl 1, .u, .u, .i .u64 x19, .slv ⟨.int, l20⟩, .i .i64 x21, .i .i64 x22] : List LV) ++ List.replicate 27 LV.u) ⟨[.dead, .arr ⟨.u8, l23⟩ 5], 0⟩) n) fr st) (by kernel_rfl)))

-- glazier/wire.Put, a loop
noncomputable def cL22x3 : Code := cAt [1, 1, 0, 1, 0, 0] (bodyOf Try.f22)
noncomputable def fL22x3 : List Pat := List.replicate 3 pu ++ ([.o (.sl 0)] : List Pat) ++ List.replicate 3 pu ++ ([.o (.slv .int), .o (.i .i64), .o (.i .i64)] : List Pat) ++ List.replicate 27 pu
noncomputable def oL22x3 : List PatO := [.arr .u8 5]
noncomputable def L22x3g {α : Type} (N : Nat) (l22x6 : (Int → List Int → Int → Int → List Int → Option α) → Nat → Int → List Int → Int → Int → List Int → Option α) (k0 : List Int → Option α) (rec : List Int → Int → Int → List Int → Option α) (l10 : List Int) (x11 : Int) (x12 : Int) (l13 : List Int) : Option α :=
    bif decide (x12 < x11) then
      bif inb x12 l10 then
        let v0 := rd .int l10 x12
        l22x6 (fun (x24 : Int) (l25 : List Int) (x26 : Int) (x27 : Int) (l28 : List Int) =>
            let v1 := ([wu8 x24] : List Int)
            bif room l28 v1 then
              rec l25 x26 (wi64 (x27 + 1)) (l28 ++ v1)
            else none) N (bxor .u64 (ishl .u64 (wu64 v0) 1) (wu64 (ishr .i64 v0 63))) l10 x11 x12 l13
      else none
    else
      k0 l13
noncomputable def L22x3 {α : Type} (N : Nat) (k0 : List Int → Option α) : Nat → List Int → Int → Int → List Int → Option α
  | 0, _, _, _, _ => none
  | n + 1, l10, x11, x12, l13 => L22x3g N L22x6 k0 (L22x3 N k0 n) l10 x11 x12 l13
noncomputable def EL22x3 (N : Nat) (φ : (List Int → Option Res) → Nat → List Int → Int → Int → List Int → Option Res) : ItE := loopE base 22 cL22x3 [] [3, 7, 8, 9] fL22x3 oL22x3 0 N (fun K n fr st => φ (fun (l29 : List Int) => K (.e 0) (List.replicate 3 LV.u ++ ([.sl 0] : List LV) ++ List.replicate 33 LV.u) ⟨[.arr ⟨.u8, l29⟩ 5], 0⟩) n (exT .int (fr.getD 7 .u)) (exI (fr.getD 8 .u)) (exI (fr.getD 9 .u)) (exA .u8 (st.L.getD 0 .dead)))
theorem L22x3Key (N : Nat) (l22x6 : (Int → List Int → Int → Int → List Int → Option Res) → Nat → Int → List Int → Int → Int → List Int → Option Res) (K : Kont) (rec : List Int → Int → Int → List Int → Option Res) (fr : List LV) (st : St) : L22x3g N l22x6 (fun (l29 : List Int) => K (.e 0) (List.replicate 3 LV.u ++ ([.sl 0] : List LV) ++ List.replicate 33 LV.u) ⟨[.arr ⟨.u8, l29⟩ 5], 0⟩) rec (exT .int (fr.getD 7 .u)) (exI (fr.getD 8 .u)) (exI (fr.getD 9 .u)) (exA .u8 (st.L.getD 0 .dead)) = ev (base.with_ [] [EL22x6 N l22x6]) 400 (.code cL22x3) 22 (norL 0 fL22x3 fr) (norS oL22x3 st) (headK base [] [3, 7, 8, 9] [2, 3] 0 fL22x3 oL22x3 (fun fr st => rec (exT .int (fr.getD 7 .u)) (exI (fr.getD 8 .u)) (exI (fr.getD 9 .u)) (exA .u8 (st.L.getD 0 .dead))) K) := by kernel_rfl
theorem EL22x3Ok (N : Nat) : (EL22x3 N (L22x3 N)).OK Try.prog :=
  loop_item base_ok (S := []) (I := [EL22x6 N L22x6]) all_nil (all_cons (EL22x6Ok N) all_nil) 400 [2, 3] (by intro K fr st; kernel_rfl) (fun K n fr st => Eq.trans (by kernel_rfl) (Eq.trans (L22x3Key N L22x6 K (L22x3 N (fun (l29 : List Int) => K (.e 0) (List.replicate 3 LV.u ++ ([.sl 0] : List LV) ++ List.replicate 33 LV.u) ⟨[.arr ⟨.u8, l29⟩ 5], 0⟩) n) fr st) (by kernel_rfl)))

-- glazier/wire.Put
noncomputable def F22g {α : Type} (N : Nat) (l22x3 : (List Int → Option α) → Nat → List Int → Int → Int → List Int → Option α) (k0 : List Int → Option α) (l9 : List Int) : Option α :=
    l22x3 (fun (l30 : List Int) =>
        k0 l30) N l9 (ln l9) 0 ([] : List Int)
noncomputable def F22 {α : Type} (N : Nat) (k0 : List Int → Option α) (l9 : List Int) : Option α := F22g N (L22x3 N) k0 l9
noncomputable def EF22 (φ : (List Int → Option Res) → List Int → Option Res) : SpecE := ⟨22, [.o (.slv .int)], fun args K => φ (fun (l31 : List Int) => K (.sl 0, [(⟨.u8, l31⟩, 5)])) (exT .int (args.getD 0 .u))⟩
theorem F22Key (N : Nat) (l22x3 : (List Int → Option Res) → Nat → List Int → Int → Int → List Int → Option Res) (args : List LV) (K : Res → Option Res) : (EF22 (F22g N l22x3)).F args K = ev (base.with_ [] [EL22x3 N l22x3]) 400 (.code (bodyOf Try.f22)) 22 (norL 0 (EF22 (F22g N l22x3)).ps args ++ List.replicate (Try.f22.ntmps - (norL 0 (EF22 (F22g N l22x3)).ps args).length) .u) ⟨[], 0⟩ (endK base Try.f22 K) := by kernel_rfl
theorem EF22Ok (N : Nat) : (EF22 (F22 N)).OK Try.prog base :=
  fun_item base_ok (S := []) (I := [EL22x3 N (L22x3 N)]) all_nil (all_cons (EL22x3Ok N) all_nil) 400 (EF22 (F22 N)) (f := Try.f22) (body := bodyOf Try.f22) (by kernel_rfl) (by kernel_rfl) (fun args K => Eq.trans (by kernel_rfl) (Eq.trans (F22Key N (L22x3 N) args K) (by kernel_rfl)))

-- glazier/image.Runs$1, a loop
noncomputable def cL34x3 : Code := cAt [1, 0, 0, 1, 0, 0, 0, 0, 0] (bodyOf Try.f34)
noncomputable def fL34x3 : List Pat := ([.o (.yl 6), .o (.p 4 0 0), pu, .o (.i .i64), .o (.i .i64)] : List Pat) ++ List.replicate 32 pu
noncomputable def oL34x3 : List PatO := [.cells [.o (.i .i64), .o (.i .i64), .o (.slv .col)], .arr .int 3, .dead, .cells [.o (.sl 8)], .cells [.o (.slv .col)], .dead, .loop (List.replicate 4 pu ++ ([.o (.p 3 0 0)] : List Pat) ++ List.replicate 35 pu ++ ([.fn 34 [.p 4 0 0]] : List Pat) ++ List.replicate 20 pu) [41, 42] (cAt [1, 1, 1, 0, 1, 0, 0] (bodyOf Try.f6)) (cAt [1, 1, 1, 0, 1, 0, 1] (bodyOf Try.f6)) 6 .ready, .dead, .arr .u8 5]
noncomputable def L34x3g {α : Type}  (k0 : Int → Int → Int → Int → List Col → List Int → List Col → List Int → Option α) (rec : Int → Int → Int → Int → List Col → List Int → List Col → List Int → Option α) (x47 : Int) (x48 : Int) (x49 : Int) (x50 : Int) (l51 : List Col) (l52 : List Int) (l53 : List Col) (l54 : List Int) : Option α :=
    bif decide (x48 < (ln l53)) then
      bif inb x48 l53 then
        bif inb x47 l53 then
          let v0 := rd .col l53 x48
          let v1 := rd .col l53 x47
          bif (v0.r == v1.r) && ((v0.g == v1.g) && ((v0.b == v1.b) && ((v0.a == v1.a) && true))) then
            rec x47 (wi64 (x48 + 1)) x49 x50 l51 l52 l53 l54
          else
            k0 x47 x48 x49 x50 l51 l52 l53 l54
        else none
      else none
    else
      k0 x47 x48 x49 x50 l51 l52 l53 l54
noncomputable def L34x3 {α : Type} (k0 : Int → Int → Int → Int → List Col → List Int → List Col → List Int → Option α) : Nat → Int → Int → Int → Int → List Col → List Int → List Col → List Int → Option α
  | 0, _, _, _, _, _, _, _, _ => none
  | n + 1, x47, x48, x49, x50, l51, l52, l53, l54 => L34x3g  k0 (L34x3 k0 n) x47 x48 x49 x50 l51 l52 l53 l54
noncomputable def EL34x3 (N : Nat) (φ : (Int → Int → Int → Int → List Col → List Int → List Col → List Int → Option Res) → Nat → Int → Int → Int → Int → List Col → List Int → List Col → List Int → Option Res) : ItE := loopE base 34 cL34x3 [] [0, 1, 3, 4] fL34x3 oL34x3 8 N (fun K n fr st => φ (fun (x55 : Int) (x56 : Int) (x57 : Int) (x58 : Int) (l59 : List Col) (l60 : List Int) (l61 : List Col) (l62 : List Int) => K (.e 2) (([.yl 6, .p 4 0 0, .u, .i .i64 x55, .i .i64 x56] : List LV) ++ List.replicate 32 LV.u) ⟨[.cells [.i .i64 x57, .i .i64 x58, .slv ⟨.col, l59⟩], .arr ⟨.int, l60⟩ 3, .dead, .cells [.sl 8], .cells [.slv ⟨.col, l61⟩], .dead, .loop (List.replicate 4 LV.u ++ ([.p 3 0 0] : List LV) ++ List.replicate 35 LV.u ++ ([.fn 34 [.p 4 0 0]] : List LV) ++ List.replicate 20 LV.u) [41, 42] (cAt [1, 1, 1, 0, 1, 0, 0] (bodyOf Try.f6)) (cAt [1, 1, 1, 0, 1, 0, 1] (bodyOf Try.f6)) 6 none .ready, .dead, .arr ⟨.u8, l62⟩ 5], 0⟩) n (exI (fr.getD 3 .u)) (exI (fr.getD 4 .u)) (exI ((exF (st.L.getD 0 .dead)).getD 0 .u)) (exI ((exF (st.L.getD 0 .dead)).getD 1 .u)) (exT .col ((exF (st.L.getD 0 .dead)).getD 2 .u)) (exA .int (st.L.getD 1 .dead)) (exT .col ((exF (st.L.getD 4 .dead)).getD 0 .u)) (exA .u8 (st.L.getD 8 .dead)))
theorem L34x3Key (N : Nat)  (K : Kont) (rec : Int → Int → Int → Int → List Col → List Int → List Col → List Int → Option Res) (fr : List LV) (st : St) : L34x3g  (fun (x55 : Int) (x56 : Int) (x57 : Int) (x58 : Int) (l59 : List Col) (l60 : List Int) (l61 : List Col) (l62 : List Int) => K (.e 2) (([.yl 6, .p 4 0 0, .u, .i .i64 x55, .i .i64 x56] : List LV) ++ List.replicate 32 LV.u) ⟨[.cells [.i .i64 x57, .i .i64 x58, .slv ⟨.col, l59⟩], .arr ⟨.int, l60⟩ 3, .dead, .cells [.sl 8], .cells [.slv ⟨.col, l61⟩], .dead, .loop (List.replicate 4 LV.u ++ ([.p 3 0 0] : List LV) ++ List.replicate 35 LV.u ++ ([.fn 34 [.p 4 0 0]] : List LV) ++ List.replicate 20 LV.u) [41, 42] (cAt [1, 1, 1, 0, 1, 0, 0] (bodyOf Try.f6)) (cAt [1, 1, 1, 0, 1, 0, 1] (bodyOf Try.f6)) 6 none .ready, .dead, .arr ⟨.u8, l62⟩ 5], 0⟩) rec (exI (fr.getD 3 .u)) (exI (fr.getD 4 .u)) (exI ((exF (st.L.getD 0 .dead)).getD 0 .u)) (exI ((exF (st.L.getD 0 .dead)).getD 1 .u)) (exT .col ((exF (st.L.getD 0 .dead)).getD 2 .u)) (exA .int (st.L.getD 1 .dead)) (exT .col ((exF (st.L.getD 4 .dead)).getD 0 .u)) (exA .u8 (st.L.getD 8 .dead)) = ev (base.with_ [] []) 400 (.code cL34x3) 34 (norL 0 fL34x3 fr) (norS oL34x3 st) (headK base [] [0, 1, 3, 4] [0, 1, 3, 4] 8 fL34x3 oL34x3 (fun fr st => rec (exI (fr.getD 3 .u)) (exI (fr.getD 4 .u)) (exI ((exF (st.L.getD 0 .dead)).getD 0 .u)) (exI ((exF (st.L.getD 0 .dead)).getD 1 .u)) (exT .col ((exF (st.L.getD 0 .dead)).getD 2 .u)) (exA .int (st.L.getD 1 .dead)) (exT .col ((exF (st.L.getD 4 .dead)).getD 0 .u)) (exA .u8 (st.L.getD 8 .dead))) K) := by kernel_rfl
theorem EL34x3Ok (N : Nat) : (EL34x3 N L34x3).OK Try.prog :=
  loop_item base_ok (S := []) (I := []) all_nil all_nil 400 [0, 1, 3, 4] (by intro K fr st; kernel_rfl) (fun K n fr st => Eq.trans (by kernel_rfl) (Eq.trans (L34x3Key N  K (L34x3 (fun (x55 : Int) (x56 : Int) (x57 : Int) (x58 : Int) (l59 : List Col) (l60 : List Int) (l61 : List Col) (l62 : List Int) => K (.e 2) (([.yl 6, .p 4 0 0, .u, .i .i64 x55, .i .i64 x56] : List LV) ++ List.replicate 32 LV.u) ⟨[.cells [.i .i64 x57, .i .i64 x58, .slv ⟨.col, l59⟩], .arr ⟨.int, l60⟩ 3, .dead, .cells [.sl 8], .cells [.slv ⟨.col, l61⟩], .dead, .loop (List.replicate 4 LV.u ++ ([.p 3 0 0] : List LV) ++ List.replicate 35 LV.u ++ ([.fn 34 [.p 4 0 0]] : List LV) ++ List.replicate 20 LV.u) [41, 42] (cAt [1, 1, 1, 0, 1, 0, 0] (bodyOf Try.f6)) (cAt [1, 1, 1, 0, 1, 0, 1] (bodyOf Try.f6)) 6 none .ready, .dead, .arr ⟨.u8, l62⟩ 5], 0⟩) n) fr st) (by kernel_rfl)))

-- glazier/image.Runs$1, a loop
noncomputable def cL34x1 : Code := cAt [1, 0, 0] (bodyOf Try.f34)
noncomputable def fL34x1 : List Pat := ([.o (.yl 6), .o (.p 4 0 0), pu, .o (.i .i64), .o (.i .i64)] : List Pat) ++ List.replicate 32 pu
noncomputable def oL34x1 : List PatO := [.cells [.o (.i .i64), .o (.i .i64), .o (.slv .col)], .arr .int 3, .dead, .cells [.o (.sl 7)], .cells [.o (.slv .col)], .dead, .loop (List.replicate 4 pu ++ ([.o (.p 3 0 0)] : List Pat) ++ List.replicate 35 pu ++ ([.fn 34 [.p 4 0 0]] : List Pat) ++ List.replicate 20 pu) [41, 42] (cAt [1, 1, 1, 0, 1, 0, 0] (bodyOf Try.f6)) (cAt [1, 1, 1, 0, 1, 0, 1] (bodyOf Try.f6)) 6 .ready, .arr .u8 5]
noncomputable def L34x1g {α : Type} (N : Nat) (f22 : (List Int → Option α) → List Int → Option α) (l34x3 : (Int → Int → Int → Int → List Col → List Int → List Col → List Int → Option α) → Nat → Int → Int → Int → Int → List Col → List Int → List Col → List Int → Option α) (k0 : Int → Int → List Col → List Int → List Col → List Int → Option α) (rec : Int → Int → Int → Int → List Col → List Int → List Col → List Int → Option α) (x39 : Int) (x40 : Int) (x41 : Int) (x42 : Int) (l43 : List Col) (l44 : List Int) (l45 : List Col) (l46 : List Int) : Option α :=
    bif decide (x39 < (ln l45)) then
      l34x3 (fun (x63 : Int) (x64 : Int) (x65 : Int) (x66 : Int) (l67 : List Col) (l68 : List Int) (l69 : List Col) (l70 : List Int) =>
          bif inb x63 l69 then
            let v0 := rd .col l69 x63
            f22 (fun (l71 : List Int) =>
                bif room l70 l71 then
                  rec x64 x64 x65 x66 l67 l68 l69 (l70 ++ l71)
                else none) ([wi64 (x64 - x63), wi64 v0.r, wi64 v0.g, wi64 v0.b, wi64 v0.a] : List Int)
          else none) N x39 x40 x41 x42 l43 l44 l45 l46
    else
      k0 x41 x42 l43 l44 l45 l46
noncomputable def L34x1 {α : Type} (N : Nat) (k0 : Int → Int → List Col → List Int → List Col → List Int → Option α) : Nat → Int → Int → Int → Int → List Col → List Int → List Col → List Int → Option α
  | 0, _, _, _, _, _, _, _, _ => none
  | n + 1, x39, x40, x41, x42, l43, l44, l45, l46 => L34x1g N (F22 N) L34x3 k0 (L34x1 N k0 n) x39 x40 x41 x42 l43 l44 l45 l46
noncomputable def EL34x1 (N : Nat) (φ : (Int → Int → List Col → List Int → List Col → List Int → Option Res) → Nat → Int → Int → Int → Int → List Col → List Int → List Col → List Int → Option Res) : ItE := loopE base 34 cL34x1 [] [0, 1, 3, 4] fL34x1 oL34x1 7 N (fun K n fr st => φ (fun (x72 : Int) (x73 : Int) (l74 : List Col) (l75 : List Int) (l76 : List Col) (l77 : List Int) => K (.e 0) (List.replicate 37 LV.u) ⟨[.cells [.i .i64 x72, .i .i64 x73, .slv ⟨.col, l74⟩], .arr ⟨.int, l75⟩ 3, .dead, .cells [.sl 7], .cells [.slv ⟨.col, l76⟩], .dead, .loop (List.replicate 4 LV.u ++ ([.p 3 0 0] : List LV) ++ List.replicate 35 LV.u ++ ([.fn 34 [.p 4 0 0]] : List LV) ++ List.replicate 20 LV.u) [41, 42] (cAt [1, 1, 1, 0, 1, 0, 0] (bodyOf Try.f6)) (cAt [1, 1, 1, 0, 1, 0, 1] (bodyOf Try.f6)) 6 none .ready, .arr ⟨.u8, l77⟩ 5], 0⟩) n (exI (fr.getD 3 .u)) (exI (fr.getD 4 .u)) (exI ((exF (st.L.getD 0 .dead)).getD 0 .u)) (exI ((exF (st.L.getD 0 .dead)).getD 1 .u)) (exT .col ((exF (st.L.getD 0 .dead)).getD 2 .u)) (exA .int (st.L.getD 1 .dead)) (exT .col ((exF (st.L.getD 4 .dead)).getD 0 .u)) (exA .u8 (st.L.getD 7 .dead)))
theorem L34x1Key (N : Nat) (f22 : (List Int → Option Res) → List Int → Option Res) (l34x3 : (Int → Int → Int → Int → List Col → List Int → List Col → List Int → Option Res) → Nat → Int → Int → Int → Int → List Col → List Int → List Col → List Int → Option Res) (K : Kont) (rec : Int → Int → Int → Int → List Col → List Int → List Col → List Int → Option Res) (fr : List LV) (st : St) : L34x1g N f22 l34x3 (fun (x72 : Int) (x73 : Int) (l74 : List Col) (l75 : List Int) (l76 : List Col) (l77 : List Int) => K (.e 0) (List.replicate 37 LV.u) ⟨[.cells [.i .i64 x72, .i .i64 x73, .slv ⟨.col, l74⟩], .arr ⟨.int, l75⟩ 3, .dead, .cells [.sl 7], .cells [.slv ⟨.col, l76⟩], .dead, .loop (List.replicate 4 LV.u ++ ([.p 3 0 0] : List LV) ++ List.replicate 35 LV.u ++ ([.fn 34 [.p 4 0 0]] : List LV) ++ List.replicate 20 LV.u) [41, 42] (cAt [1, 1, 1, 0, 1, 0, 0] (bodyOf Try.f6)) (cAt [1, 1, 1, 0, 1, 0, 1] (bodyOf Try.f6)) 6 none .ready, .arr ⟨.u8, l77⟩ 5], 0⟩) rec (exI (fr.getD 3 .u)) (exI (fr.getD 4 .u)) (exI ((exF (st.L.getD 0 .dead)).getD 0 .u)) (exI ((exF (st.L.getD 0 .dead)).getD 1 .u)) (exT .col ((exF (st.L.getD 0 .dead)).getD 2 .u)) (exA .int (st.L.getD 1 .dead)) (exT .col ((exF (st.L.getD 4 .dead)).getD 0 .u)) (exA .u8 (st.L.getD 7 .dead)) = ev (base.with_ [EF22 f22] [EL34x3 N l34x3]) 400 (.code cL34x1) 34 (norL 0 fL34x1 fr) (norS oL34x1 st) (headK base [] [0, 1, 3, 4] [] 7 fL34x1 oL34x1 (fun fr st => rec (exI (fr.getD 3 .u)) (exI (fr.getD 4 .u)) (exI ((exF (st.L.getD 0 .dead)).getD 0 .u)) (exI ((exF (st.L.getD 0 .dead)).getD 1 .u)) (exT .col ((exF (st.L.getD 0 .dead)).getD 2 .u)) (exA .int (st.L.getD 1 .dead)) (exT .col ((exF (st.L.getD 4 .dead)).getD 0 .u)) (exA .u8 (st.L.getD 7 .dead))) K) := by kernel_rfl
theorem EL34x1Ok (N : Nat) : (EL34x1 N (L34x1 N)).OK Try.prog :=
  loop_item base_ok (S := [EF22 (F22 N)]) (I := [EL34x3 N L34x3]) (all_cons (EF22Ok N) all_nil) (all_cons (EL34x3Ok N) all_nil) 400 [] (by intro K fr st; kernel_rfl) (fun K n fr st => Eq.trans (by kernel_rfl) (Eq.trans (L34x1Key N (F22 N) L34x3 K (L34x1 N (fun (x72 : Int) (x73 : Int) (l74 : List Col) (l75 : List Int) (l76 : List Col) (l77 : List Int) => K (.e 0) (List.replicate 37 LV.u) ⟨[.cells [.i .i64 x72, .i .i64 x73, .slv ⟨.col, l74⟩], .arr ⟨.int, l75⟩ 3, .dead, .cells [.sl 7], .cells [.slv ⟨.col, l76⟩], .dead, .loop (List.replicate 4 LV.u ++ ([.p 3 0 0] : List LV) ++ List.replicate 35 LV.u ++ ([.fn 34 [.p 4 0 0]] : List LV) ++ List.replicate 20 LV.u) [41, 42] (cAt [1, 1, 1, 0, 1, 0, 0] (bodyOf Try.f6)) (cAt [1, 1, 1, 0, 1, 0, 1] (bodyOf Try.f6)) 6 none .ready, .arr ⟨.u8, l77⟩ 5], 0⟩) n) fr st) (by kernel_rfl)))

-- glazier/image.Put, an if
noncomputable def cG6x40 : Code := cAt [1, 1, 1, 0, 1, 0] (bodyOf Try.f6)
noncomputable def fG6x40 : List Pat := List.replicate 4 pu ++ ([.o (.p 3 0 0)] : List Pat) ++ List.replicate 35 pu ++ ([.fn 34 [.p 4 0 0]] : List Pat) ++ List.replicate 20 pu
noncomputable def oG6x40 : List PatO := [.cells [.o (.i .i64), .o (.i .i64), .o (.slv .col)], .arr .int 3, .dead, .cells [.o (.sl 5)], .cells [.o (.slv .col)], .arr .u8 5]
noncomputable def G6x40g {α : Type} (N : Nat) (l34x1 : (Int → Int → List Col → List Int → List Col → List Int → Option α) → Nat → Int → Int → Int → Int → List Col → List Int → List Col → List Int → Option α) (k0 : Int → Int → List Col → List Int → List Col → List Int → Option α) (x33 : Int) (x34 : Int) (l35 : List Col) (l36 : List Int) (l37 : List Col) (l38 : List Int) : Option α :=
    l34x1 (fun (x78 : Int) (x79 : Int) (l80 : List Col) (l81 : List Int) (l82 : List Col) (l83 : List Int) =>
        k0 x78 x79 l80 l81 l82 l83) N 0 0 x33 x34 l35 l36 l37 l38
noncomputable def G6x40 {α : Type} (N : Nat) (k0 : Int → Int → List Col → List Int → List Col → List Int → Option α) (x33 : Int) (x34 : Int) (l35 : List Col) (l36 : List Int) (l37 : List Col) (l38 : List Int) : Option α := G6x40g N (L34x1 N) k0 x33 x34 l35 l36 l37 l38
noncomputable def EG6x40 (φ : (Int → Int → List Col → List Int → List Col → List Int → Option Res) → Int → Int → List Col → List Int → List Col → List Int → Option Res) : ItE := codeE base 6 cG6x40 [] [4, 40] fG6x40 oG6x40 5 (fun K fr st => φ (fun (x84 : Int) (x85 : Int) (l86 : List Col) (l87 : List Int) (l88 : List Col) (l89 : List Int) => K .n (List.replicate 4 LV.u ++ ([.p 3 0 0] : List LV) ++ List.replicate 56 LV.u) ⟨[.cells [.i .i64 x84, .i .i64 x85, .slv ⟨.col, l86⟩], .arr ⟨.int, l87⟩ 3, .dead, .cells [.sl 5], .cells [.slv ⟨.col, l88⟩], .arr ⟨.u8, l89⟩ 5], 0⟩) (exI ((exF (st.L.getD 0 .dead)).getD 0 .u)) (exI ((exF (st.L.getD 0 .dead)).getD 1 .u)) (exT .col ((exF (st.L.getD 0 .dead)).getD 2 .u)) (exA .int (st.L.getD 1 .dead)) (exT .col ((exF (st.L.getD 4 .dead)).getD 0 .u)) (exA .u8 (st.L.getD 5 .dead)))
theorem G6x40Key (N : Nat) (l34x1 : (Int → Int → List Col → List Int → List Col → List Int → Option Res) → Nat → Int → Int → Int → Int → List Col → List Int → List Col → List Int → Option Res) (K : Kont) (fr : List LV) (st : St) : G6x40g N l34x1 (fun (x84 : Int) (x85 : Int) (l86 : List Col) (l87 : List Int) (l88 : List Col) (l89 : List Int) => K .n (List.replicate 4 LV.u ++ ([.p 3 0 0] : List LV) ++ List.replicate 56 LV.u) ⟨[.cells [.i .i64 x84, .i .i64 x85, .slv ⟨.col, l86⟩], .arr ⟨.int, l87⟩ 3, .dead, .cells [.sl 5], .cells [.slv ⟨.col, l88⟩], .arr ⟨.u8, l89⟩ 5], 0⟩) (exI ((exF (st.L.getD 0 .dead)).getD 0 .u)) (exI ((exF (st.L.getD 0 .dead)).getD 1 .u)) (exT .col ((exF (st.L.getD 0 .dead)).getD 2 .u)) (exA .int (st.L.getD 1 .dead)) (exT .col ((exF (st.L.getD 4 .dead)).getD 0 .u)) (exA .u8 (st.L.getD 5 .dead)) = ev (base.with_ [] [EL34x1 N l34x1]) 400 (.code cG6x40) 6 (norL 0 fG6x40 fr) (norS oG6x40 st) (meetK base [2, 3, 4] 5 K) := by kernel_rfl
theorem EG6x40Ok (N : Nat) : (EG6x40 (G6x40 N)).OK Try.prog :=
  code_item base_ok (S := []) (I := [EL34x1 N (L34x1 N)]) all_nil (all_cons (EL34x1Ok N) all_nil) 400 [2, 3, 4] (fun K fr st => Eq.trans (by kernel_rfl) (Eq.trans (G6x40Key N (L34x1 N) K fr st) (by kernel_rfl)))

-- glazier/image.Put
noncomputable def F6g {α : Type} (f22 : (List Int → Option α) → List Int → Option α) (g6x40 : (Int → Int → List Col → List Int → List Col → List Int → Option α) → Int → Int → List Col → List Int → List Col → List Int → Option α) (k0 : Int → List Int → Option α) (x4 : Int) (x5 : Int) (l6 : List Col) : Option α :=
    bif decide ((mn x4 x5) < 1) then
      k0 1 ([] : List Int)
    else
      bif decide ((mx x4 x5) > 64) then
        k0 1 ([] : List Int)
      else
        bif (ln l6) != (wi64 (x4 * x5)) then
          k0 1 ([] : List Int)
        else
          let v0 := ([x4, x5] : List Int)
          f22 (fun (l32 : List Int) =>
              g6x40 (fun (x90 : Int) (x91 : Int) (l92 : List Col) (l93 : List Int) (l94 : List Col) (l95 : List Int) =>
                  k0 0 l95) x4 x5 l6 v0 l6 l32) v0
noncomputable def F6 {α : Type} (N : Nat) (k0 : Int → List Int → Option α) (x4 : Int) (x5 : Int) (l6 : List Col) : Option α := F6g (F22 N) (G6x40 N) k0 x4 x5 l6
noncomputable def EF6 (φ : (Int → List Int → Option Res) → Int → Int → List Col → Option Res) : SpecE := ⟨6, [.ag [.i .i64, .i .i64, .slv .col]], fun args K => φ (fun (x7 : Int) (l8 : List Int) => K (.tu [.sl 0, .i .i64 x7], [(⟨.u8, l8⟩, 5)])) (exI ((exC (args.getD 0 .u)).getD 0 .u)) (exI ((exC (args.getD 0 .u)).getD 1 .u)) (exT .col ((exC (args.getD 0 .u)).getD 2 .u))⟩
theorem F6Key (N : Nat) (f22 : (List Int → Option Res) → List Int → Option Res) (g6x40 : (Int → Int → List Col → List Int → List Col → List Int → Option Res) → Int → Int → List Col → List Int → List Col → List Int → Option Res) (args : List LV) (K : Res → Option Res) : (EF6 (F6g f22 g6x40)).F args K = ev (base.with_ [EF22 f22] [EG6x40 g6x40]) 400 (.code (bodyOf Try.f6)) 6 (norL 0 (EF6 (F6g f22 g6x40)).ps args ++ List.replicate (Try.f6.ntmps - (norL 0 (EF6 (F6g f22 g6x40)).ps args).length) .u) ⟨[], 0⟩ (endK base Try.f6 K) := by kernel_rfl
theorem EF6Ok (N : Nat) : (EF6 (F6 N)).OK Try.prog base :=
  fun_item base_ok (S := [EF22 (F22 N)]) (I := [EG6x40 (G6x40 N)]) (all_cons (EF22Ok N) all_nil) (all_cons (EG6x40Ok N) all_nil) 400 (EF6 (F6 N)) (f := Try.f6) (body := bodyOf Try.f6) (by kernel_rfl) (by kernel_rfl) (fun args K => Eq.trans (by kernel_rfl) (Eq.trans (F6Key N (F22 N) (G6x40 N) args K) (by kernel_rfl)))

-- glazier/glazierlaw24.shown
noncomputable def F5g {α : Type} (f6 : (Int → List Int → Option α) → Int → Int → List Col → Option α) (k0 : Bool → Option α)  : Option α :=
    let v0 := (⟨0, 0, 0, 0⟩ : Col)
    f6 (fun (x96 : Int) (l97 : List Int) =>
        bif x96 == 0 then
          bif seqS (bytesOf l97) csv0 then
            k0 true
          else
            k0 false
        else
          k0 false) 2 1 ([v0, v0] : List Col)
noncomputable def F5 {α : Type} (N : Nat) (k0 : Bool → Option α)  : Option α := F5g (F6 N) k0 
noncomputable def EF5 (φ : (Bool → Option Res) → Option Res) : SpecE := ⟨5, [], fun args K => φ (fun (b98 : Bool) => K (.b b98, [])) ⟩
theorem F5Key (N : Nat) (f6 : (Int → List Int → Option Res) → Int → Int → List Col → Option Res) (args : List LV) (K : Res → Option Res) : (EF5 (F5g f6)).F args K = ev (base.with_ [EF6 f6] []) 400 (.code (bodyOf Try.f5)) 5 (norL 0 (EF5 (F5g f6)).ps args ++ List.replicate (Try.f5.ntmps - (norL 0 (EF5 (F5g f6)).ps args).length) .u) ⟨[], 0⟩ (endK base Try.f5 K) := by kernel_rfl
theorem EF5Ok (N : Nat) : (EF5 (F5 N)).OK Try.prog base :=
  fun_item base_ok (S := [EF6 (F6 N)]) (I := []) (all_cons (EF6Ok N) all_nil) all_nil 400 (EF5 (F5 N)) (f := Try.f5) (body := bodyOf Try.f5) (by kernel_rfl) (by kernel_rfl) (fun args K => Eq.trans (by kernel_rfl) (Eq.trans (F5Key N (F6 N) args K) (by kernel_rfl)))

-- glazier/glazierlaw24.ImageAll, an if
noncomputable def cM3x26 : Code := cAt [1, 1, 0, 1] (bodyOf Try.f3)
noncomputable def fM3x26 : List Pat := ([pu, .o (.slv .u8), .o (.p 0 0 0), pu, pu, .o (.b)] : List Pat) ++ List.replicate 20 pu ++ ([.o (.b)] : List Pat) ++ List.replicate 97 pu
noncomputable def oM3x26 : List PatO := [.cells [.o (.i .i64), .o (.i .i64), .o (.slv .col)]]
noncomputable def M3x26g {α : Type}  (k0 : List Int → Bool → Int → Int → List Col → Option α) (l100 : List Int) (b101 : Bool) (b102 : Bool) (x103 : Int) (x104 : Int) (l105 : List Col) : Option α :=
    bif b102 then
      bif insl 0 400 l105 then
        k0 l100 b101 x103 x104 (subL l105 0 400)
      else none
    else
      k0 l100 b101 x103 x104 l105
noncomputable def M3x26 {α : Type} (k0 : List Int → Bool → Int → Int → List Col → Option α) (l100 : List Int) (b101 : Bool) (b102 : Bool) (x103 : Int) (x104 : Int) (l105 : List Col) : Option α := M3x26g  k0 l100 b101 b102 x103 x104 l105
noncomputable def EM3x26 (φ : (List Int → Bool → Int → Int → List Col → Option Res) → List Int → Bool → Bool → Int → Int → List Col → Option Res) : ItE := codeE base 3 cM3x26 [] [1, 2, 5, 26] fM3x26 oM3x26 1 (fun K fr st => φ (fun (l106 : List Int) (b107 : Bool) (x108 : Int) (x109 : Int) (l110 : List Col) => K .n (([.u, .slv ⟨.u8, l106⟩, .p 0 0 0, .u, .u, .b b107] : List LV) ++ List.replicate 118 LV.u) ⟨[.cells [.i .i64 x108, .i .i64 x109, .slv ⟨.col, l110⟩]], 0⟩) (exT .u8 (fr.getD 1 .u)) (exB (fr.getD 5 .u)) (exB (fr.getD 26 .u)) (exI ((exF (st.L.getD 0 .dead)).getD 0 .u)) (exI ((exF (st.L.getD 0 .dead)).getD 1 .u)) (exT .col ((exF (st.L.getD 0 .dead)).getD 2 .u)))
theorem M3x26Key (N : Nat)  (K : Kont) (fr : List LV) (st : St) : M3x26g  (fun (l106 : List Int) (b107 : Bool) (x108 : Int) (x109 : Int) (l110 : List Col) => K .n (([.u, .slv ⟨.u8, l106⟩, .p 0 0 0, .u, .u, .b b107] : List LV) ++ List.replicate 118 LV.u) ⟨[.cells [.i .i64 x108, .i .i64 x109, .slv ⟨.col, l110⟩]], 0⟩) (exT .u8 (fr.getD 1 .u)) (exB (fr.getD 5 .u)) (exB (fr.getD 26 .u)) (exI ((exF (st.L.getD 0 .dead)).getD 0 .u)) (exI ((exF (st.L.getD 0 .dead)).getD 1 .u)) (exT .col ((exF (st.L.getD 0 .dead)).getD 2 .u)) = ev (base.with_ [] []) 400 (.code cM3x26) 3 (norL 0 fM3x26 fr) (norS oM3x26 st) (meetK base [1, 2, 4, 5] 1 K) := by kernel_rfl
theorem EM3x26Ok (N : Nat) : (EM3x26 M3x26).OK Try.prog :=
  code_item base_ok (S := []) (I := []) all_nil all_nil 400 [1, 2, 4, 5] (fun K fr st => Eq.trans (by kernel_rfl) (Eq.trans (M3x26Key N  K fr st) (by kernel_rfl)))

-- glazier/glazierlaw24.ImageAll, an if
noncomputable def cM3x33 : Code := cAt [1, 1, 1, 0, 1] (bodyOf Try.f3)
noncomputable def fM3x33 : List Pat := ([pu, .o (.slv .u8), .o (.p 0 0 0), pu, pu, .o (.b)] : List Pat) ++ List.replicate 27 pu ++ ([.o (.b)] : List Pat) ++ List.replicate 90 pu
noncomputable def oM3x33 : List PatO := [.cells [.o (.i .i64), .o (.i .i64), .o (.slv .col)]]
noncomputable def M3x33g {α : Type}  (k0 : List Int → Bool → Int → Int → List Col → Option α) (l116 : List Int) (b117 : Bool) (b118 : Bool) (x119 : Int) (x120 : Int) (l121 : List Col) : Option α :=
    bif b118 then
      bif insl 0 600 l116 then
        k0 (subL l116 0 600) b117 x119 x120 l121
      else none
    else
      k0 l116 b117 x119 x120 l121
noncomputable def M3x33 {α : Type} (k0 : List Int → Bool → Int → Int → List Col → Option α) (l116 : List Int) (b117 : Bool) (b118 : Bool) (x119 : Int) (x120 : Int) (l121 : List Col) : Option α := M3x33g  k0 l116 b117 b118 x119 x120 l121
noncomputable def EM3x33 (φ : (List Int → Bool → Int → Int → List Col → Option Res) → List Int → Bool → Bool → Int → Int → List Col → Option Res) : ItE := codeE base 3 cM3x33 [] [1, 2, 5, 33] fM3x33 oM3x33 1 (fun K fr st => φ (fun (l122 : List Int) (b123 : Bool) (x124 : Int) (x125 : Int) (l126 : List Col) => K .n (([.u, .slv ⟨.u8, l122⟩, .p 0 0 0, .u, .u, .b b123] : List LV) ++ List.replicate 118 LV.u) ⟨[.cells [.i .i64 x124, .i .i64 x125, .slv ⟨.col, l126⟩]], 0⟩) (exT .u8 (fr.getD 1 .u)) (exB (fr.getD 5 .u)) (exB (fr.getD 33 .u)) (exI ((exF (st.L.getD 0 .dead)).getD 0 .u)) (exI ((exF (st.L.getD 0 .dead)).getD 1 .u)) (exT .col ((exF (st.L.getD 0 .dead)).getD 2 .u)))
theorem M3x33Key (N : Nat)  (K : Kont) (fr : List LV) (st : St) : M3x33g  (fun (l122 : List Int) (b123 : Bool) (x124 : Int) (x125 : Int) (l126 : List Col) => K .n (([.u, .slv ⟨.u8, l122⟩, .p 0 0 0, .u, .u, .b b123] : List LV) ++ List.replicate 118 LV.u) ⟨[.cells [.i .i64 x124, .i .i64 x125, .slv ⟨.col, l126⟩]], 0⟩) (exT .u8 (fr.getD 1 .u)) (exB (fr.getD 5 .u)) (exB (fr.getD 33 .u)) (exI ((exF (st.L.getD 0 .dead)).getD 0 .u)) (exI ((exF (st.L.getD 0 .dead)).getD 1 .u)) (exT .col ((exF (st.L.getD 0 .dead)).getD 2 .u)) = ev (base.with_ [] []) 400 (.code cM3x33) 3 (norL 0 fM3x33 fr) (norS oM3x33 st) (meetK base [1, 2, 4, 5] 1 K) := by kernel_rfl
theorem EM3x33Ok (N : Nat) : (EM3x33 M3x33).OK Try.prog :=
  code_item base_ok (S := []) (I := []) all_nil all_nil 400 [1, 2, 4, 5] (fun K fr st => Eq.trans (by kernel_rfl) (Eq.trans (M3x33Key N  K fr st) (by kernel_rfl)))

-- glazier/glazierref24.Runs, a loop
noncomputable def cL12x4 : Code := cAt [1, 1, 1, 0, 1, 0, 0] (bodyOf Try.f12)
noncomputable def fL12x4 : List Pat := ([.o (.slv .col)] : List Pat) ++ List.replicate 3 pu ++ ([.o (.sl 2), .o (.sl 3), .o (.i .i64)] : List Pat) ++ List.replicate 47 pu
noncomputable def oL12x4 : List PatO := [.dead, .dead, .arr .int 3, .arr .col 45]
noncomputable def L12x4g {α : Type}  (k0 : List Int → List Col → Option α) (rec : List Col → Int → List Int → List Col → Option α) (l140 : List Col) (x141 : Int) (l142 : List Int) (l143 : List Col) : Option α :=
    bif decide (x141 < (ln l140)) then
      let v0 := ln l143
      bif decide (v0 > 0) then
        let v1 := wi64 (v0 - 1)
        bif inb v1 l143 then
          let v2 := inb x141 l140
          bif v2 then
            let v3 := rd .col l143 v1
            let v4 := rd .col l140 x141
            bif (v3.r == v4.r) && ((v3.g == v4.g) && ((v3.b == v4.b) && ((v3.a == v4.a) && true))) then
              let v5 := inb v1 l142
              bif v5 then
                bif v5 then
                  rec l140 (wi64 (x141 + 1)) (stL l142 v1 (wi64 ((rd .int l142 v1) + 1))) l143
                else none
              else none
            else
              let v6 := ([1] : List Int)
              bif room l142 v6 then
                bif v2 then
                  let v7 := ([v4] : List Col)
                  bif room l143 v7 then
                    rec l140 (wi64 (x141 + 1)) (l142 ++ v6) (l143 ++ v7)
                  else none
                else none
              else none
          else none
        else none
      else
        let v8 := ([1] : List Int)
        bif room l142 v8 then
          bif inb x141 l140 then
            let v9 := ([rd .col l140 x141] : List Col)
            bif room l143 v9 then
              rec l140 (wi64 (x141 + 1)) (l142 ++ v8) (l143 ++ v9)
            else none
          else none
        else none
    else
      k0 l142 l143
noncomputable def L12x4 {α : Type} (k0 : List Int → List Col → Option α) : Nat → List Col → Int → List Int → List Col → Option α
  | 0, _, _, _, _ => none
  | n + 1, l140, x141, l142, l143 => L12x4g  k0 (L12x4 k0 n) l140 x141 l142 l143
noncomputable def EL12x4 (N : Nat) (φ : (List Int → List Col → Option Res) → Nat → List Col → Int → List Int → List Col → Option Res) : ItE := loopE base 12 cL12x4 [] [0, 4, 5, 6] fL12x4 oL12x4 2 N (fun K n fr st => φ (fun (l144 : List Int) (l145 : List Col) => K (.e 0) (List.replicate 4 LV.u ++ ([.sl 2, .sl 3] : List LV) ++ List.replicate 48 LV.u) ⟨[.dead, .dead, .arr ⟨.int, l144⟩ 3, .arr ⟨.col, l145⟩ 45], 0⟩) n (exT .col (fr.getD 0 .u)) (exI (fr.getD 6 .u)) (exA .int (st.L.getD 2 .dead)) (exA .col (st.L.getD 3 .dead)))
theorem L12x4Key (N : Nat)  (K : Kont) (rec : List Col → Int → List Int → List Col → Option Res) (fr : List LV) (st : St) : L12x4g  (fun (l144 : List Int) (l145 : List Col) => K (.e 0) (List.replicate 4 LV.u ++ ([.sl 2, .sl 3] : List LV) ++ List.replicate 48 LV.u) ⟨[.dead, .dead, .arr ⟨.int, l144⟩ 3, .arr ⟨.col, l145⟩ 45], 0⟩) rec (exT .col (fr.getD 0 .u)) (exI (fr.getD 6 .u)) (exA .int (st.L.getD 2 .dead)) (exA .col (st.L.getD 3 .dead)) = ev (base.with_ [] []) 400 (.code cL12x4) 12 (norL 0 fL12x4 fr) (norS oL12x4 st) (headK base [] [0, 4, 5, 6] [2, 3, 4, 5] 2 fL12x4 oL12x4 (fun fr st => rec (exT .col (fr.getD 0 .u)) (exI (fr.getD 6 .u)) (exA .int (st.L.getD 2 .dead)) (exA .col (st.L.getD 3 .dead))) K) := by kernel_rfl
theorem EL12x4Ok (N : Nat) : (EL12x4 N L12x4).OK Try.prog :=
  loop_item base_ok (S := []) (I := []) all_nil all_nil 400 [2, 3, 4, 5] (by intro K fr st; kernel_rfl) (fun K n fr st => Eq.trans (by kernel_rfl) (Eq.trans (L12x4Key N  K (L12x4 (fun (l144 : List Int) (l145 : List Col) => K (.e 0) (List.replicate 4 LV.u ++ ([.sl 2, .sl 3] : List LV) ++ List.replicate 48 LV.u) ⟨[.dead, .dead, .arr ⟨.int, l144⟩ 3, .arr ⟨.col, l145⟩ 45], 0⟩) n) fr st) (by kernel_rfl)))

-- glazier/glazierref24.Runs
noncomputable def F12g {α : Type} (N : Nat) (l12x4 : (List Int → List Col → Option α) → Nat → List Col → Int → List Int → List Col → Option α) (k0 : List Int → List Col → Option α) (l139 : List Col) : Option α :=
    l12x4 (fun (l146 : List Int) (l147 : List Col) =>
        k0 l146 l147) N l139 0 ([] : List Int) ([] : List Col)
noncomputable def F12 {α : Type} (N : Nat) (k0 : List Int → List Col → Option α) (l139 : List Col) : Option α := F12g N L12x4 k0 l139
noncomputable def EF12 (φ : (List Int → List Col → Option Res) → List Col → Option Res) : SpecE := ⟨12, [.o (.slv .col)], fun args K => φ (fun (l148 : List Int) (l149 : List Col) => K (.tu [.sl 0, .sl 1], [(⟨.int, l148⟩, 3), (⟨.col, l149⟩, 45)])) (exT .col (args.getD 0 .u))⟩
theorem F12Key (N : Nat) (l12x4 : (List Int → List Col → Option Res) → Nat → List Col → Int → List Int → List Col → Option Res) (args : List LV) (K : Res → Option Res) : (EF12 (F12g N l12x4)).F args K = ev (base.with_ [] [EL12x4 N l12x4]) 400 (.code (bodyOf Try.f12)) 12 (norL 0 (EF12 (F12g N l12x4)).ps args ++ List.replicate (Try.f12.ntmps - (norL 0 (EF12 (F12g N l12x4)).ps args).length) .u) ⟨[], 0⟩ (endK base Try.f12 K) := by kernel_rfl
theorem EF12Ok (N : Nat) : (EF12 (F12 N)).OK Try.prog base :=
  fun_item base_ok (S := []) (I := [EL12x4 N L12x4]) all_nil (all_cons (EL12x4Ok N) all_nil) 400 (EF12 (F12 N)) (f := Try.f12) (body := bodyOf Try.f12) (by kernel_rfl) (by kernel_rfl) (fun args K => Eq.trans (by kernel_rfl) (Eq.trans (F12Key N L12x4 args K) (by kernel_rfl)))

-- glazier/glazierref24.Put, a loop
noncomputable def cL7x6 : Code := cAt [1, 1, 1, 1, 0, 1, 0, 0] (bodyOf Try.f7)
noncomputable def fL7x6 : List Pat := List.replicate 4 pu ++ ([.o (.sl 4), .o (.sl 5), .o (.sl 6), .o (.i .i64)] : List Pat) ++ List.replicate 79 pu
noncomputable def oL7x6 : List PatO := [.cells [.o (.i .i64), .o (.i .i64), .o (.slv .col)], .dead, .dead, .dead, .arr .int 3, .arr .int 3, .arr .col 45]
noncomputable def L7x6g {α : Type}  (k0 : Int → Int → List Col → List Int → Option α) (rec : Int → Int → Int → List Col → List Int → List Int → List Col → Option α) (x152 : Int) (x153 : Int) (x154 : Int) (l155 : List Col) (l156 : List Int) (l157 : List Int) (l158 : List Col) : Option α :=
    bif decide (x152 < (ln l158)) then
      bif inb x152 l157 then
        let v0 := inb x152 l158
        bif v0 then
          bif v0 then
            bif v0 then
              bif v0 then
                let v1 := rd .col l158 x152
                let v2 := ([rd .int l157 x152, wi64 v1.r, wi64 v1.g, wi64 v1.b, wi64 v1.a] : List Int)
                bif room l156 v2 then
                  rec (wi64 (x152 + 1)) x153 x154 l155 (l156 ++ v2) l157 l158
                else none
              else none
            else none
          else none
        else none
      else none
    else
      k0 x153 x154 l155 l156
noncomputable def L7x6 {α : Type} (k0 : Int → Int → List Col → List Int → Option α) : Nat → Int → Int → Int → List Col → List Int → List Int → List Col → Option α
  | 0, _, _, _, _, _, _, _ => none
  | n + 1, x152, x153, x154, l155, l156, l157, l158 => L7x6g  k0 (L7x6 k0 n) x152 x153 x154 l155 l156 l157 l158
noncomputable def EL7x6 (N : Nat) (φ : (Int → Int → List Col → List Int → Option Res) → Nat → Int → Int → Int → List Col → List Int → List Int → List Col → Option Res) : ItE := loopE base 7 cL7x6 [] [4, 5, 6, 7] fL7x6 oL7x6 4 N (fun K n fr st => φ (fun (x159 : Int) (x160 : Int) (l161 : List Col) (l162 : List Int) => K (.e 0) (List.replicate 4 LV.u ++ ([.sl 4] : List LV) ++ List.replicate 82 LV.u) ⟨[.cells [.i .i64 x159, .i .i64 x160, .slv ⟨.col, l161⟩], .dead, .dead, .dead, .arr ⟨.int, l162⟩ 3], 0⟩) n (exI (fr.getD 7 .u)) (exI ((exF (st.L.getD 0 .dead)).getD 0 .u)) (exI ((exF (st.L.getD 0 .dead)).getD 1 .u)) (exT .col ((exF (st.L.getD 0 .dead)).getD 2 .u)) (exA .int (st.L.getD 4 .dead)) (exA .int (st.L.getD 5 .dead)) (exA .col (st.L.getD 6 .dead)))
theorem L7x6Key (N : Nat)  (K : Kont) (rec : Int → Int → Int → List Col → List Int → List Int → List Col → Option Res) (fr : List LV) (st : St) : L7x6g  (fun (x159 : Int) (x160 : Int) (l161 : List Col) (l162 : List Int) => K (.e 0) (List.replicate 4 LV.u ++ ([.sl 4] : List LV) ++ List.replicate 82 LV.u) ⟨[.cells [.i .i64 x159, .i .i64 x160, .slv ⟨.col, l161⟩], .dead, .dead, .dead, .arr ⟨.int, l162⟩ 3], 0⟩) rec (exI (fr.getD 7 .u)) (exI ((exF (st.L.getD 0 .dead)).getD 0 .u)) (exI ((exF (st.L.getD 0 .dead)).getD 1 .u)) (exT .col ((exF (st.L.getD 0 .dead)).getD 2 .u)) (exA .int (st.L.getD 4 .dead)) (exA .int (st.L.getD 5 .dead)) (exA .col (st.L.getD 6 .dead)) = ev (base.with_ [] []) 400 (.code cL7x6) 7 (norL 0 fL7x6 fr) (norS oL7x6 st) (headK base [] [4, 5, 6, 7] [2, 3, 4] 4 fL7x6 oL7x6 (fun fr st => rec (exI (fr.getD 7 .u)) (exI ((exF (st.L.getD 0 .dead)).getD 0 .u)) (exI ((exF (st.L.getD 0 .dead)).getD 1 .u)) (exT .col ((exF (st.L.getD 0 .dead)).getD 2 .u)) (exA .int (st.L.getD 4 .dead)) (exA .int (st.L.getD 5 .dead)) (exA .col (st.L.getD 6 .dead))) K) := by kernel_rfl
theorem EL7x6Ok (N : Nat) : (EL7x6 N L7x6).OK Try.prog :=
  loop_item base_ok (S := []) (I := []) all_nil all_nil 400 [2, 3, 4] (by intro K fr st; kernel_rfl) (fun K n fr st => Eq.trans (by kernel_rfl) (Eq.trans (L7x6Key N  K (L7x6 (fun (x159 : Int) (x160 : Int) (l161 : List Col) (l162 : List Int) => K (.e 0) (List.replicate 4 LV.u ++ ([.sl 4] : List LV) ++ List.replicate 82 LV.u) ⟨[.cells [.i .i64 x159, .i .i64 x160, .slv ⟨.col, l161⟩], .dead, .dead, .dead, .arr ⟨.int, l162⟩ 3], 0⟩) n) fr st) (by kernel_rfl)))

-- glazier/glazierref03.one, a loop
noncomputable def cL35x5 : Code := cAt [1, 1, 1, 1, 0, 0, 0] (bodyOf Try.f35)
noncomputable def fL35x5 : List Pat := List.replicate 3 pu ++ ([.o (.i .u64), .o (.sl 1)] : List Pat) ++ List.replicate 28 pu
noncomputable def oL35x5 : List PatO := [.dead, .arr .u8 5]
noncomputable def L35x5g {α : Type}  (k0 : Int → List Int → Option α) (rec : Int → List Int → Option α) (x172 : Int) (l173 : List Int) : Option α :=
    bif decide (x172 ≥ 128) then
      let v0 := ([wu8 ((wu8 (Int.tmod x172 128)) + 128)] : List Int)
      bif room l173 v0 then
        rec (wu64 (Int.tdiv x172 128)) (l173 ++ v0)
      else none
    else
      k0 x172 l173
noncomputable def L35x5 {α : Type} (k0 : Int → List Int → Option α) : Nat → Int → List Int → Option α
  | 0, _, _ => none
  | n + 1, x172, l173 => L35x5g  k0 (L35x5 k0 n) x172 l173
noncomputable def EL35x5 (N : Nat) (φ : (Int → List Int → Option Res) → Nat → Int → List Int → Option Res) : ItE := loopE base 35 cL35x5 [] [3, 4] fL35x5 oL35x5 1 N (fun K n fr st => φ (fun (x174 : Int) (l175 : List Int) => K (.e 0) (List.replicate 3 LV.u ++ ([.i .u64 x174, .sl 1] : List LV) ++ List.replicate 28 LV.u) ⟨[.dead, .arr ⟨.u8, l175⟩ 5], 0⟩) n (exI (fr.getD 3 .u)) (exA .u8 (st.L.getD 1 .dead)))
theorem L35x5Key (N : Nat)  (K : Kont) (rec : Int → List Int → Option Res) (fr : List LV) (st : St) : L35x5g  (fun (x174 : Int) (l175 : List Int) => K (.e 0) (List.replicate 3 LV.u ++ ([.i .u64 x174, .sl 1] : List LV) ++ List.replicate 28 LV.u) ⟨[.dead, .arr ⟨.u8, l175⟩ 5], 0⟩) rec (exI (fr.getD 3 .u)) (exA .u8 (st.L.getD 1 .dead)) = ev (base.with_ [] []) 400 (.code cL35x5) 35 (norL 0 fL35x5 fr) (norS oL35x5 st) (headK base [] [3, 4] [2, 3, 4] 1 fL35x5 oL35x5 (fun fr st => rec (exI (fr.getD 3 .u)) (exA .u8 (st.L.getD 1 .dead))) K) := by kernel_rfl
theorem EL35x5Ok (N : Nat) : (EL35x5 N L35x5).OK Try.prog :=
  loop_item base_ok (S := []) (I := []) all_nil all_nil 400 [2, 3, 4] (by intro K fr st; kernel_rfl) (fun K n fr st => Eq.trans (by kernel_rfl) (Eq.trans (L35x5Key N  K (L35x5 (fun (x174 : Int) (l175 : List Int) => K (.e 0) (List.replicate 3 LV.u ++ ([.i .u64 x174, .sl 1] : List LV) ++ List.replicate 28 LV.u) ⟨[.dead, .arr ⟨.u8, l175⟩ 5], 0⟩) n) fr st) (by kernel_rfl)))

-- glazier/glazierref03.one
noncomputable def F35g {α : Type} (N : Nat) (l35x5 : (Int → List Int → Option α) → Nat → Int → List Int → Option α) (k0 : List Int → Option α) (x171 : Int) : Option α :=
    bif decide (x171 < 0) then
      l35x5 (fun (x176 : Int) (l177 : List Int) =>
          let v0 := ([wu8 x176] : List Int)
          bif room l177 v0 then
            k0 (l177 ++ v0)
          else none) N (wu64 ((wu64 ((wu64 (wi64 (0 - (wi64 (x171 + 1))))) * 2)) + 1)) ([] : List Int)
    else
      l35x5 (fun (x179 : Int) (l180 : List Int) =>
          let v1 := ([wu8 x179] : List Int)
          bif room l180 v1 then
            k0 (l180 ++ v1)
          else none) N (wu64 ((wu64 x171) * 2)) ([] : List Int)
noncomputable def F35 {α : Type} (N : Nat) (k0 : List Int → Option α) (x171 : Int) : Option α := F35g N L35x5 k0 x171
noncomputable def EF35 (φ : (List Int → Option Res) → Int → Option Res) : SpecE := ⟨35, [.o (.i .i64)], fun args K => φ (fun (l178 : List Int) => K (.sl 0, [(⟨.u8, l178⟩, 5)])) (exI (args.getD 0 .u))⟩
theorem F35Key (N : Nat) (l35x5 : (Int → List Int → Option Res) → Nat → Int → List Int → Option Res) (args : List LV) (K : Res → Option Res) : (EF35 (F35g N l35x5)).F args K = ev (base.with_ [] [EL35x5 N l35x5]) 400 (.code (bodyOf Try.f35)) 35 (norL 0 (EF35 (F35g N l35x5)).ps args ++ List.replicate (Try.f35.ntmps - (norL 0 (EF35 (F35g N l35x5)).ps args).length) .u) ⟨[], 0⟩ (endK base Try.f35 K) := by kernel_rfl
theorem EF35Ok (N : Nat) : (EF35 (F35 N)).OK Try.prog base :=
  fun_item base_ok (S := []) (I := [EL35x5 N L35x5]) all_nil (all_cons (EL35x5Ok N) all_nil) 400 (EF35 (F35 N)) (f := Try.f35) (body := bodyOf Try.f35) (by kernel_rfl) (by kernel_rfl) (fun args K => Eq.trans (by kernel_rfl) (Eq.trans (F35Key N L35x5 args K) (by kernel_rfl)))

-- glazier/glazierref03.Put, a loop
noncomputable def cL23x3 : Code := cAt [1, 1, 0, 1, 0, 0] (bodyOf Try.f23)
noncomputable def fL23x3 : List Pat := ([.o (.slv .int), pu, pu, .o (.sl 1), .o (.i .i64)] : List Pat) ++ List.replicate 15 pu
noncomputable def oL23x3 : List PatO := [.dead, .arr .u8 5]
noncomputable def L23x3g {α : Type} (f35 : (List Int → Option α) → Int → Option α) (k0 : List Int → Option α) (rec : List Int → Int → List Int → Option α) (l168 : List Int) (x169 : Int) (l170 : List Int) : Option α :=
    bif decide (x169 < (ln l168)) then
      bif inb x169 l168 then
        f35 (fun (l181 : List Int) =>
            bif room l170 l181 then
              rec l168 (wi64 (x169 + 1)) (l170 ++ l181)
            else none) (rd .int l168 x169)
      else none
    else
      k0 l170
noncomputable def L23x3 {α : Type} (N : Nat) (k0 : List Int → Option α) : Nat → List Int → Int → List Int → Option α
  | 0, _, _, _ => none
  | n + 1, l168, x169, l170 => L23x3g (F35 N) k0 (L23x3 N k0 n) l168 x169 l170
noncomputable def EL23x3 (N : Nat) (φ : (List Int → Option Res) → Nat → List Int → Int → List Int → Option Res) : ItE := loopE base 23 cL23x3 [] [0, 3, 4] fL23x3 oL23x3 1 N (fun K n fr st => φ (fun (l182 : List Int) => K (.e 0) (List.replicate 3 LV.u ++ ([.sl 1] : List LV) ++ List.replicate 16 LV.u) ⟨[.dead, .arr ⟨.u8, l182⟩ 5], 0⟩) n (exT .int (fr.getD 0 .u)) (exI (fr.getD 4 .u)) (exA .u8 (st.L.getD 1 .dead)))
theorem L23x3Key (N : Nat) (f35 : (List Int → Option Res) → Int → Option Res) (K : Kont) (rec : List Int → Int → List Int → Option Res) (fr : List LV) (st : St) : L23x3g f35 (fun (l182 : List Int) => K (.e 0) (List.replicate 3 LV.u ++ ([.sl 1] : List LV) ++ List.replicate 16 LV.u) ⟨[.dead, .arr ⟨.u8, l182⟩ 5], 0⟩) rec (exT .int (fr.getD 0 .u)) (exI (fr.getD 4 .u)) (exA .u8 (st.L.getD 1 .dead)) = ev (base.with_ [EF35 f35] []) 400 (.code cL23x3) 23 (norL 0 fL23x3 fr) (norS oL23x3 st) (headK base [] [0, 3, 4] [2, 3] 1 fL23x3 oL23x3 (fun fr st => rec (exT .int (fr.getD 0 .u)) (exI (fr.getD 4 .u)) (exA .u8 (st.L.getD 1 .dead))) K) := by kernel_rfl
theorem EL23x3Ok (N : Nat) : (EL23x3 N (L23x3 N)).OK Try.prog :=
  loop_item base_ok (S := [EF35 (F35 N)]) (I := []) (all_cons (EF35Ok N) all_nil) all_nil 400 [2, 3] (by intro K fr st; kernel_rfl) (fun K n fr st => Eq.trans (by kernel_rfl) (Eq.trans (L23x3Key N (F35 N) K (L23x3 N (fun (l182 : List Int) => K (.e 0) (List.replicate 3 LV.u ++ ([.sl 1] : List LV) ++ List.replicate 16 LV.u) ⟨[.dead, .arr ⟨.u8, l182⟩ 5], 0⟩) n) fr st) (by kernel_rfl)))

-- glazier/glazierref03.Put
noncomputable def F23g {α : Type} (N : Nat) (l23x3 : (List Int → Option α) → Nat → List Int → Int → List Int → Option α) (k0 : List Int → Option α) (l167 : List Int) : Option α :=
    l23x3 (fun (l183 : List Int) =>
        k0 l183) N l167 0 ([] : List Int)
noncomputable def F23 {α : Type} (N : Nat) (k0 : List Int → Option α) (l167 : List Int) : Option α := F23g N (L23x3 N) k0 l167
noncomputable def EF23 (φ : (List Int → Option Res) → List Int → Option Res) : SpecE := ⟨23, [.o (.slv .int)], fun args K => φ (fun (l184 : List Int) => K (.sl 0, [(⟨.u8, l184⟩, 5)])) (exT .int (args.getD 0 .u))⟩
theorem F23Key (N : Nat) (l23x3 : (List Int → Option Res) → Nat → List Int → Int → List Int → Option Res) (args : List LV) (K : Res → Option Res) : (EF23 (F23g N l23x3)).F args K = ev (base.with_ [] [EL23x3 N l23x3]) 400 (.code (bodyOf Try.f23)) 23 (norL 0 (EF23 (F23g N l23x3)).ps args ++ List.replicate (Try.f23.ntmps - (norL 0 (EF23 (F23g N l23x3)).ps args).length) .u) ⟨[], 0⟩ (endK base Try.f23 K) := by kernel_rfl
theorem EF23Ok (N : Nat) : (EF23 (F23 N)).OK Try.prog base :=
  fun_item base_ok (S := []) (I := [EL23x3 N (L23x3 N)]) all_nil (all_cons (EL23x3Ok N) all_nil) 400 (EF23 (F23 N)) (f := Try.f23) (body := bodyOf Try.f23) (by kernel_rfl) (by kernel_rfl) (fun args K => Eq.trans (by kernel_rfl) (Eq.trans (F23Key N (L23x3 N) args K) (by kernel_rfl)))

-- glazier/glazierref24.Put
noncomputable def F7g {α : Type} (N : Nat) (f12 : (List Int → List Col → Option α) → List Col → Option α) (f23 : (List Int → Option α) → List Int → Option α) (l7x6 : (Int → Int → List Col → List Int → Option α) → Nat → Int → Int → Int → List Col → List Int → List Int → List Col → Option α) (k0 : Int → List Int → Option α) (x134 : Int) (x135 : Int) (l136 : List Col) : Option α :=
    bif decide (x134 < 1) then
      k0 1 ([] : List Int)
    else
      bif decide (x134 > 64) then
        k0 1 ([] : List Int)
      else
        bif decide (x135 < 1) then
          k0 1 ([] : List Int)
        else
          bif decide (x135 > 64) then
            k0 1 ([] : List Int)
          else
            bif (ln l136) != (wi64 (x134 * x135)) then
              k0 1 ([] : List Int)
            else
              f12 (fun (l150 : List Int) (l151 : List Col) =>
                  l7x6 (fun (x163 : Int) (x164 : Int) (l165 : List Col) (l166 : List Int) =>
                      f23 (fun (l185 : List Int) =>
                          k0 0 l185) l166) N 0 x134 x135 l136 ([x134, x135] : List Int) l150 l151) l136
noncomputable def F7 {α : Type} (N : Nat) (k0 : Int → List Int → Option α) (x134 : Int) (x135 : Int) (l136 : List Col) : Option α := F7g N (F12 N) (F23 N) L7x6 k0 x134 x135 l136
noncomputable def EF7 (φ : (Int → List Int → Option Res) → Int → Int → List Col → Option Res) : SpecE := ⟨7, [.ag [.i .i64, .i .i64, .slv .col]], fun args K => φ (fun (x137 : Int) (l138 : List Int) => K (.tu [.sl 0, .i .i64 x137], [(⟨.u8, l138⟩, 5)])) (exI ((exC (args.getD 0 .u)).getD 0 .u)) (exI ((exC (args.getD 0 .u)).getD 1 .u)) (exT .col ((exC (args.getD 0 .u)).getD 2 .u))⟩
theorem F7Key (N : Nat) (f12 : (List Int → List Col → Option Res) → List Col → Option Res) (f23 : (List Int → Option Res) → List Int → Option Res) (l7x6 : (Int → Int → List Col → List Int → Option Res) → Nat → Int → Int → Int → List Col → List Int → List Int → List Col → Option Res) (args : List LV) (K : Res → Option Res) : (EF7 (F7g N f12 f23 l7x6)).F args K = ev (base.with_ [EF12 f12, EF23 f23] [EL7x6 N l7x6]) 400 (.code (bodyOf Try.f7)) 7 (norL 0 (EF7 (F7g N f12 f23 l7x6)).ps args ++ List.replicate (Try.f7.ntmps - (norL 0 (EF7 (F7g N f12 f23 l7x6)).ps args).length) .u) ⟨[], 0⟩ (endK base Try.f7 K) := by kernel_rfl
theorem EF7Ok (N : Nat) : (EF7 (F7 N)).OK Try.prog base :=
  fun_item base_ok (S := [EF12 (F12 N), EF23 (F23 N)]) (I := [EL7x6 N L7x6]) (all_cons (EF12Ok N) (all_cons (EF23Ok N) all_nil)) (all_cons (EL7x6Ok N) all_nil) 400 (EF7 (F7 N)) (f := Try.f7) (body := bodyOf Try.f7) (by kernel_rfl) (by kernel_rfl) (fun args K => Eq.trans (by kernel_rfl) (Eq.trans (F7Key N (F12 N) (F23 N) L7x6 args K) (by kernel_rfl)))

-- slices.Clone[[]byte,byte]
noncomputable def C42 {α : Type} (k0 : List Int → Option α) (l : List Int) : Option α := bif room ([] : List Int) l then k0 l else none
noncomputable def EC42 (φ : (List Int → Option Res) → List Int → Option Res) : SpecE := ⟨42, [.o (.slv .u8)], fun args K => φ (fun l => K (.slv ⟨.u8, l⟩, [])) (exT .u8 (args.getD 0 .u))⟩
theorem EC42Ok (N : Nat) : (EC42 C42).OK Try.prog base := clone_ok base_ok (g := .u8) (f := Try.f42) (e := 5) (by kernel_rfl) rfl ⟨rfl, rfl, rfl⟩ ⟨rfl, rfl, rfl⟩ ⟨rfl, rfl, rfl⟩ (by kernel_rfl) rfl rfl (code_tell base_ok 60 (by kernel_rfl)) (fun l hl => code_tell base_ok 60 (Eq.trans (b := bif room ([] : List Int) l then some (.tu [.u, .u, .slv ⟨.u8, l⟩, .u, .u, .u, .u, .u], []) else none) (by kernel_rfl) (by rw [hl]; rfl)))

-- math/bits.Len64
noncomputable def F48g {α : Type}  (k0 : Int → Option α) (x206 : Int) : Option α :=
    bif decide (x206 ≥ 4294967296) then
      let v0 := ishr .u64 x206 32
      bif decide (v0 ≥ 65536) then
        let v1 := ishr .u64 v0 16
        bif decide (v1 ≥ 256) then
          let v2 := wu8 (ishr .u64 v1 8)
          bif inS v2 csv1 then
            k0 (wi64 (56 + (wi64 (bt csv1 v2))))
          else none
        else
          let v3 := wu8 v1
          bif inS v3 csv1 then
            k0 (wi64 (48 + (wi64 (bt csv1 v3))))
          else none
      else
        bif decide (v0 ≥ 256) then
          let v4 := wu8 (ishr .u64 v0 8)
          bif inS v4 csv1 then
            k0 (wi64 (40 + (wi64 (bt csv1 v4))))
          else none
        else
          let v5 := wu8 v0
          bif inS v5 csv1 then
            k0 (wi64 (32 + (wi64 (bt csv1 v5))))
          else none
    else
      bif decide (x206 ≥ 65536) then
        let v6 := ishr .u64 x206 16
        bif decide (v6 ≥ 256) then
          let v7 := wu8 (ishr .u64 v6 8)
          bif inS v7 csv1 then
            k0 (wi64 (24 + (wi64 (bt csv1 v7))))
          else none
        else
          let v8 := wu8 v6
          bif inS v8 csv1 then
            k0 (wi64 (16 + (wi64 (bt csv1 v8))))
          else none
      else
        bif decide (x206 ≥ 256) then
          let v9 := wu8 (ishr .u64 x206 8)
          bif inS v9 csv1 then
            k0 (wi64 (8 + (wi64 (bt csv1 v9))))
          else none
        else
          let v10 := wu8 x206
          bif inS v10 csv1 then
            k0 (wi64 (0 + (wi64 (bt csv1 v10))))
          else none
noncomputable def F48 {α : Type} (k0 : Int → Option α) (x206 : Int) : Option α := F48g  k0 x206
noncomputable def EF48 (φ : (Int → Option Res) → Int → Option Res) : SpecE := ⟨48, [.o (.i .u64)], fun args K => φ (fun (x207 : Int) => K (.i .i64 x207, [])) (exI (args.getD 0 .u))⟩
theorem F48Key (N : Nat)  (args : List LV) (K : Res → Option Res) : (EF48 (F48g )).F args K = ev (base.with_ [] []) 400 (.code (bodyOf Try.f48)) 48 (norL 0 (EF48 (F48g )).ps args ++ List.replicate (Try.f48.ntmps - (norL 0 (EF48 (F48g )).ps args).length) .u) ⟨[], 0⟩ (endK base Try.f48 K) := by kernel_rfl
theorem EF48Ok (N : Nat) : (EF48 F48).OK Try.prog base :=
  fun_item base_ok (S := []) (I := []) all_nil all_nil 400 (EF48 F48) (f := Try.f48) (body := bodyOf Try.f48) (by kernel_rfl) (by kernel_rfl) (fun args K => Eq.trans (by kernel_rfl) (Eq.trans (F48Key N  args K) (by kernel_rfl)))

-- glazier/wire.read, a loop
noncomputable def cL44x3 : Code := cAt [1, 1, 0, 1, 0, 0] (bodyOf Try.f44)
noncomputable def fL44x3 : List Pat := List.replicate 4 pu ++ ([.o (.i .u64), .o (.i .i64)] : List Pat) ++ List.replicate 3 pu ++ ([.o (.slv .u8), .o (.i .i64), .o (.i .i64)] : List Pat) ++ List.replicate 40 pu
noncomputable def oL44x3 : List PatO := []
noncomputable def L44x3g {α : Type} (f48 : (Int → Option α) → Int → Option α) (k0 : Int → Int → Option α) (k1 : Option α) (rec : Int → Int → List Int → Int → Int → Option α) (x201 : Int) (x202 : Int) (l203 : List Int) (x204 : Int) (x205 : Int) : Option α :=
    bif decide (x205 < x204) then
      bif inb x205 l203 then
        let v0 := rd .u8 l203 x205
        let v1 := wu64 (bandNot .u8 v0 128)
        f48 (fun (x208 : Int) =>
            bif decide ((wi64 (x202 + x208)) > 64) then
              k0 0 0
            else
              bif v0 == 0 then
                bif decide (x205 > 0) then
                  k0 0 0
                else
                  bif decide (0 ≤ x202) then
                    bif decide (v0 < 128) then
                      let v2 := bor .u64 x201 (ishl .u64 v1 x202)
                      k0 (bxor .i64 (wi64 (ishr .u64 v2 1)) (wi64 (0 - (wi64 (band .u64 v2 1))))) (wi64 (x205 + 1))
                    else
                      rec (bor .u64 x201 (ishl .u64 v1 x202)) (wi64 (x202 + 7)) l203 x204 (wi64 (x205 + 1))
                  else none
              else
                bif decide (0 ≤ x202) then
                  bif decide (v0 < 128) then
                    let v3 := bor .u64 x201 (ishl .u64 v1 x202)
                    k0 (bxor .i64 (wi64 (ishr .u64 v3 1)) (wi64 (0 - (wi64 (band .u64 v3 1))))) (wi64 (x205 + 1))
                  else
                    rec (bor .u64 x201 (ishl .u64 v1 x202)) (wi64 (x202 + 7)) l203 x204 (wi64 (x205 + 1))
                else none) v1
      else none
    else
      k1
noncomputable def L44x3 {α : Type} (k0 : Int → Int → Option α) (k1 : Option α) : Nat → Int → Int → List Int → Int → Int → Option α
  | 0, _, _, _, _, _ => none
  | n + 1, x201, x202, l203, x204, x205 => L44x3g F48 k0 k1 (L44x3 k0 k1 n) x201 x202 l203 x204 x205
noncomputable def EL44x3 (N : Nat) (φ : (Int → Int → Option Res) → (Option Res) → Nat → Int → Int → List Int → Int → Int → Option Res) : ItE := loopE base 44 cL44x3 [] [4, 5, 9, 10, 11] fL44x3 oL44x3 0 N (fun K n fr st => φ (fun (x209 : Int) (x210 : Int) => K .r (([.u, .u, .i .i64 x209, .i .i64 x210] : List LV) ++ List.replicate 48 LV.u) ⟨[], 0⟩) (K (.e 0) (List.replicate 52 LV.u) ⟨[], 0⟩) n (exI (fr.getD 4 .u)) (exI (fr.getD 5 .u)) (exT .u8 (fr.getD 9 .u)) (exI (fr.getD 10 .u)) (exI (fr.getD 11 .u)))
theorem L44x3Key (N : Nat) (f48 : (Int → Option Res) → Int → Option Res) (K : Kont) (rec : Int → Int → List Int → Int → Int → Option Res) (fr : List LV) (st : St) : L44x3g f48 (fun (x209 : Int) (x210 : Int) => K .r (([.u, .u, .i .i64 x209, .i .i64 x210] : List LV) ++ List.replicate 48 LV.u) ⟨[], 0⟩) (K (.e 0) (List.replicate 52 LV.u) ⟨[], 0⟩) rec (exI (fr.getD 4 .u)) (exI (fr.getD 5 .u)) (exT .u8 (fr.getD 9 .u)) (exI (fr.getD 10 .u)) (exI (fr.getD 11 .u)) = ev (base.with_ [EF48 f48] []) 400 (.code cL44x3) 44 (norL 0 fL44x3 fr) (norS oL44x3 st) (headK base [] [4, 5, 9, 10, 11] [2, 3] 0 fL44x3 oL44x3 (fun fr st => rec (exI (fr.getD 4 .u)) (exI (fr.getD 5 .u)) (exT .u8 (fr.getD 9 .u)) (exI (fr.getD 10 .u)) (exI (fr.getD 11 .u))) K) := by kernel_rfl
theorem EL44x3Ok (N : Nat) : (EL44x3 N L44x3).OK Try.prog :=
  loop_item base_ok (S := [EF48 F48]) (I := []) (all_cons (EF48Ok N) all_nil) all_nil 400 [2, 3] (by intro K fr st; kernel_rfl) (fun K n fr st => Eq.trans (by kernel_rfl) (Eq.trans (L44x3Key N F48 K (L44x3 (fun (x209 : Int) (x210 : Int) => K .r (([.u, .u, .i .i64 x209, .i .i64 x210] : List LV) ++ List.replicate 48 LV.u) ⟨[], 0⟩) (K (.e 0) (List.replicate 52 LV.u) ⟨[], 0⟩) n) fr st) (by kernel_rfl)))

-- glazier/wire.read
noncomputable def F44g {α : Type} (N : Nat) (l44x3 : (Int → Int → Option α) → (Option α) → Nat → Int → Int → List Int → Int → Int → Option α) (k0 : Int → Int → Option α) (l200 : List Int) : Option α :=
    l44x3 (fun (x211 : Int) (x212 : Int) =>
        k0 x211 x212) (
        k0 0 0) N 0 0 l200 (ln l200) 0
noncomputable def F44 {α : Type} (N : Nat) (k0 : Int → Int → Option α) (l200 : List Int) : Option α := F44g N L44x3 k0 l200
noncomputable def EF44 (φ : (Int → Int → Option Res) → List Int → Option Res) : SpecE := ⟨44, [.o (.slv .u8)], fun args K => φ (fun (x213 : Int) (x214 : Int) => K (.tu [.i .i64 x213, .i .i64 x214], [])) (exT .u8 (args.getD 0 .u))⟩
theorem F44Key (N : Nat) (l44x3 : (Int → Int → Option Res) → (Option Res) → Nat → Int → Int → List Int → Int → Int → Option Res) (args : List LV) (K : Res → Option Res) : (EF44 (F44g N l44x3)).F args K = ev (base.with_ [] [EL44x3 N l44x3]) 400 (.code (bodyOf Try.f44)) 44 (norL 0 (EF44 (F44g N l44x3)).ps args ++ List.replicate (Try.f44.ntmps - (norL 0 (EF44 (F44g N l44x3)).ps args).length) .u) ⟨[], 0⟩ (endK base Try.f44 K) := by kernel_rfl
theorem EF44Ok (N : Nat) : (EF44 (F44 N)).OK Try.prog base :=
  fun_item base_ok (S := []) (I := [EL44x3 N L44x3]) all_nil (all_cons (EL44x3Ok N) all_nil) 400 (EF44 (F44 N)) (f := Try.f44) (body := bodyOf Try.f44) (by kernel_rfl) (by kernel_rfl) (fun args K => Eq.trans (by kernel_rfl) (Eq.trans (F44Key N L44x3 args K) (by kernel_rfl)))

-- glazier/wire.All$1, a loop
noncomputable def cL43x1 : Code := cAt [1, 0, 0] (bodyOf Try.f43)
noncomputable def fL43x1 : List Pat := ([.o (.yl 5), .o (.p 2 0 0), pu, .o (.i .i64)] : List Pat) ++ List.replicate 26 pu
noncomputable def oL43x1 : List PatO := [.cells [.o (.sl 6)], .cells [.o (.sl 7)], .cells [.o (.slv .u8)], .dead, .dead, .loop (([pu, pu, .o (.p 0 0 0), .o (.p 1 0 0)] : List Pat) ++ List.replicate 3 pu ++ ([.fn 43 [.p 2 0 0]] : List Pat) ++ List.replicate 9 pu) [8, 9] (cAt [1, 1, 0, 1, 0, 0] (bodyOf Try.f24)) (cAt [1, 1, 0, 1, 0, 1] (bodyOf Try.f24)) 24 .ready, .arr .int 3, .arr .int 3]
noncomputable def L43x1g {α : Type} (f44 : (Int → Int → Option α) → List Int → Option α) (k0 : List Int → List Int → List Int → Option α) (k1 : List Int → List Int → List Int → Option α) (k2 : List Int → List Int → List Int → Option α) (rec : Int → List Int → List Int → List Int → Option α) (x196 : Int) (l197 : List Int) (l198 : List Int) (l199 : List Int) : Option α :=
    bif decide (x196 < (ln l197)) then
      bif insE x196 l197 then
        f44 (fun (x215 : Int) (x216 : Int) =>
            bif !(decide (x216 > 0)) then
              k0 l197 ([] : List Int) l199
            else
              let v0 := ([x215] : List Int)
              bif room l199 v0 then
                bif x216 == 0 then
                  k1 l197 l198 (l199 ++ v0)
                else
                  rec (wi64 (x196 + x216)) l197 l198 (l199 ++ v0)
              else none) (subE l197 x196)
      else none
    else
      k2 l197 l198 l199
noncomputable def L43x1 {α : Type} (N : Nat) (k0 : List Int → List Int → List Int → Option α) (k1 : List Int → List Int → List Int → Option α) (k2 : List Int → List Int → List Int → Option α) : Nat → Int → List Int → List Int → List Int → Option α
  | 0, _, _, _, _ => none
  | n + 1, x196, l197, l198, l199 => L43x1g (F44 N) k0 k1 k2 (L43x1 N k0 k1 k2 n) x196 l197 l198 l199
noncomputable def EL43x1 (N : Nat) (φ : (List Int → List Int → List Int → Option Res) → (List Int → List Int → List Int → Option Res) → (List Int → List Int → List Int → Option Res) → Nat → Int → List Int → List Int → List Int → Option Res) : ItE := loopE base 43 cL43x1 [] [0, 1, 3] fL43x1 oL43x1 6 N (fun K n fr st => φ (fun (l217 : List Int) (l218 : List Int) (l219 : List Int) => K .r (List.replicate 30 LV.u) ⟨[.cells [.sl 6], .cells [.sl 7], .cells [.slv ⟨.u8, l217⟩], .dead, .dead, .loop (([.u, .u, .p 0 0 0, .p 1 0 0] : List LV) ++ List.replicate 3 LV.u ++ ([.fn 43 [.p 2 0 0]] : List LV) ++ List.replicate 9 LV.u) [8, 9] (cAt [1, 1, 0, 1, 0, 0] (bodyOf Try.f24)) (cAt [1, 1, 0, 1, 0, 1] (bodyOf Try.f24)) 24 (some .ret) .done, .arr ⟨.int, l218⟩ 3, .arr ⟨.int, l219⟩ 3], 0⟩) (fun (l220 : List Int) (l221 : List Int) (l222 : List Int) => K .r (List.replicate 30 LV.u) ⟨[.cells [.sl 6], .cells [.sl 7], .cells [.slv ⟨.u8, l220⟩], .dead, .dead, .loop (([.u, .u, .p 0 0 0, .p 1 0 0] : List LV) ++ List.replicate 3 LV.u ++ ([.fn 43 [.p 2 0 0]] : List LV) ++ List.replicate 9 LV.u) [8, 9] (cAt [1, 1, 0, 1, 0, 0] (bodyOf Try.f24)) (cAt [1, 1, 0, 1, 0, 1] (bodyOf Try.f24)) 24 none .ready, .arr ⟨.int, l221⟩ 3, .arr ⟨.int, l222⟩ 3], 0⟩) (fun (l223 : List Int) (l224 : List Int) (l225 : List Int) => K (.e 0) (List.replicate 30 LV.u) ⟨[.cells [.sl 6], .cells [.sl 7], .cells [.slv ⟨.u8, l223⟩], .dead, .dead, .loop (([.u, .u, .p 0 0 0, .p 1 0 0] : List LV) ++ List.replicate 3 LV.u ++ ([.fn 43 [.p 2 0 0]] : List LV) ++ List.replicate 9 LV.u) [8, 9] (cAt [1, 1, 0, 1, 0, 0] (bodyOf Try.f24)) (cAt [1, 1, 0, 1, 0, 1] (bodyOf Try.f24)) 24 none .ready, .arr ⟨.int, l224⟩ 3, .arr ⟨.int, l225⟩ 3], 0⟩) n (exI (fr.getD 3 .u)) (exT .u8 ((exF (st.L.getD 2 .dead)).getD 0 .u)) (exA .int (st.L.getD 6 .dead)) (exA .int (st.L.getD 7 .dead)))
theorem L43x1Key (N : Nat) (f44 : (Int → Int → Option Res) → List Int → Option Res) (K : Kont) (rec : Int → List Int → List Int → List Int → Option Res) (fr : List LV) (st : St) : L43x1g f44 (fun (l217 : List Int) (l218 : List Int) (l219 : List Int) => K .r (List.replicate 30 LV.u) ⟨[.cells [.sl 6], .cells [.sl 7], .cells [.slv ⟨.u8, l217⟩], .dead, .dead, .loop (([.u, .u, .p 0 0 0, .p 1 0 0] : List LV) ++ List.replicate 3 LV.u ++ ([.fn 43 [.p 2 0 0]] : List LV) ++ List.replicate 9 LV.u) [8, 9] (cAt [1, 1, 0, 1, 0, 0] (bodyOf Try.f24)) (cAt [1, 1, 0, 1, 0, 1] (bodyOf Try.f24)) 24 (some .ret) .done, .arr ⟨.int, l218⟩ 3, .arr ⟨.int, l219⟩ 3], 0⟩) (fun (l220 : List Int) (l221 : List Int) (l222 : List Int) => K .r (List.replicate 30 LV.u) ⟨[.cells [.sl 6], .cells [.sl 7], .cells [.slv ⟨.u8, l220⟩], .dead, .dead, .loop (([.u, .u, .p 0 0 0, .p 1 0 0] : List LV) ++ List.replicate 3 LV.u ++ ([.fn 43 [.p 2 0 0]] : List LV) ++ List.replicate 9 LV.u) [8, 9] (cAt [1, 1, 0, 1, 0, 0] (bodyOf Try.f24)) (cAt [1, 1, 0, 1, 0, 1] (bodyOf Try.f24)) 24 none .ready, .arr ⟨.int, l221⟩ 3, .arr ⟨.int, l222⟩ 3], 0⟩) (fun (l223 : List Int) (l224 : List Int) (l225 : List Int) => K (.e 0) (List.replicate 30 LV.u) ⟨[.cells [.sl 6], .cells [.sl 7], .cells [.slv ⟨.u8, l223⟩], .dead, .dead, .loop (([.u, .u, .p 0 0 0, .p 1 0 0] : List LV) ++ List.replicate 3 LV.u ++ ([.fn 43 [.p 2 0 0]] : List LV) ++ List.replicate 9 LV.u) [8, 9] (cAt [1, 1, 0, 1, 0, 0] (bodyOf Try.f24)) (cAt [1, 1, 0, 1, 0, 1] (bodyOf Try.f24)) 24 none .ready, .arr ⟨.int, l224⟩ 3, .arr ⟨.int, l225⟩ 3], 0⟩) rec (exI (fr.getD 3 .u)) (exT .u8 ((exF (st.L.getD 2 .dead)).getD 0 .u)) (exA .int (st.L.getD 6 .dead)) (exA .int (st.L.getD 7 .dead)) = ev (base.with_ [EF44 f44] []) 400 (.code cL43x1) 43 (norL 0 fL43x1 fr) (norS oL43x1 st) (headK base [] [0, 1, 3] [] 6 fL43x1 oL43x1 (fun fr st => rec (exI (fr.getD 3 .u)) (exT .u8 ((exF (st.L.getD 2 .dead)).getD 0 .u)) (exA .int (st.L.getD 6 .dead)) (exA .int (st.L.getD 7 .dead))) K) := by kernel_rfl
theorem EL43x1Ok (N : Nat) : (EL43x1 N (L43x1 N)).OK Try.prog :=
  loop_item base_ok (S := [EF44 (F44 N)]) (I := []) (all_cons (EF44Ok N) all_nil) all_nil 400 [] (by intro K fr st; kernel_rfl) (fun K n fr st => Eq.trans (by kernel_rfl) (Eq.trans (L43x1Key N (F44 N) K (L43x1 N (fun (l217 : List Int) (l218 : List Int) (l219 : List Int) => K .r (List.replicate 30 LV.u) ⟨[.cells [.sl 6], .cells [.sl 7], .cells [.slv ⟨.u8, l217⟩], .dead, .dead, .loop (([.u, .u, .p 0 0 0, .p 1 0 0] : List LV) ++ List.replicate 3 LV.u ++ ([.fn 43 [.p 2 0 0]] : List LV) ++ List.replicate 9 LV.u) [8, 9] (cAt [1, 1, 0, 1, 0, 0] (bodyOf Try.f24)) (cAt [1, 1, 0, 1, 0, 1] (bodyOf Try.f24)) 24 (some .ret) .done, .arr ⟨.int, l218⟩ 3, .arr ⟨.int, l219⟩ 3], 0⟩) (fun (l220 : List Int) (l221 : List Int) (l222 : List Int) => K .r (List.replicate 30 LV.u) ⟨[.cells [.sl 6], .cells [.sl 7], .cells [.slv ⟨.u8, l220⟩], .dead, .dead, .loop (([.u, .u, .p 0 0 0, .p 1 0 0] : List LV) ++ List.replicate 3 LV.u ++ ([.fn 43 [.p 2 0 0]] : List LV) ++ List.replicate 9 LV.u) [8, 9] (cAt [1, 1, 0, 1, 0, 0] (bodyOf Try.f24)) (cAt [1, 1, 0, 1, 0, 1] (bodyOf Try.f24)) 24 none .ready, .arr ⟨.int, l221⟩ 3, .arr ⟨.int, l222⟩ 3], 0⟩) (fun (l223 : List Int) (l224 : List Int) (l225 : List Int) => K (.e 0) (List.replicate 30 LV.u) ⟨[.cells [.sl 6], .cells [.sl 7], .cells [.slv ⟨.u8, l223⟩], .dead, .dead, .loop (([.u, .u, .p 0 0 0, .p 1 0 0] : List LV) ++ List.replicate 3 LV.u ++ ([.fn 43 [.p 2 0 0]] : List LV) ++ List.replicate 9 LV.u) [8, 9] (cAt [1, 1, 0, 1, 0, 0] (bodyOf Try.f24)) (cAt [1, 1, 0, 1, 0, 1] (bodyOf Try.f24)) 24 none .ready, .arr ⟨.int, l224⟩ 3, .arr ⟨.int, l225⟩ 3], 0⟩) n) fr st) (by kernel_rfl)))
end Gz
