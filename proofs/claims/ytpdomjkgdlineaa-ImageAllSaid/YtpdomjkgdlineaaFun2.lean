/- Functions of the program as plain ones, printed by a program. -/
import Derived.Test.YtpdomjkgdlineaaTab
import Derived.Test.YtpdomjkgdlineaaFun1
set_option linter.unusedVariables false
set_option linter.unusedSimpArgs false
set_option linter.unnecessarySimpa false
set_option linter.deprecated false
set_option maxRecDepth 100000
namespace Gz
open Go Go.Proofs
-- glazier/glazierlaw24.gone, an if
noncomputable def cG11x18 : Code := cAt [1, 1, 1, 1, 1, 0, 1, 0] (bodyOf Try.f11)
noncomputable def fG11x18 : List Pat := ([pu, pu, .o (.p 0 0 0), .o (.p 1 0 0), .o (.p 2 0 0), .o (.p 3 0 0), .o (.p 4 0 0), .o (.p 6 0 0), .o (.p 8 0 0)] : List Pat) ++ List.replicate 9 pu ++ ([.fn 34 [.p 9 0 0]] : List Pat) ++ List.replicate 21 pu
noncomputable def oG11x18 : List PatO := [.cells [.o (.slv .col)], .cells [.o (.i .i64)], .cells [.o (.sl 10)], .cells [.o (.sl 11)], .cells [.o (.b)], .dead, .cells [.o (.sl 12)], .dead, .cells [.o (.sl 13)], .cells [.o (.slv .col)], .arr .int 3, .arr .col 45, .arr .int 3, .arr .col 45]
noncomputable def G11x18g {α : Type} (N : Nat) (l34x1b : (List Col → Int → Bool → List Col → List Int → List Col → List Int → List Col → Option α) → (List Col → Int → Bool → List Col → List Int → List Col → List Int → List Col → Option α) → (List Col → Int → Bool → List Col → List Int → List Col → List Int → List Col → Option α) → Nat → Int → Int → List Col → Int → Bool → List Col → List Int → List Col → List Int → List Col → Option α) (k0 : List Col → Int → Bool → List Col → List Int → List Col → List Int → List Col → Option α) (k1 : List Col → Int → Bool → List Col → List Int → List Col → List Int → List Col → Option α) (k2 : List Col → Int → Bool → List Col → List Int → List Col → List Int → List Col → Option α) (l441 : List Col) (x442 : Int) (b443 : Bool) (l444 : List Col) (l445 : List Int) (l446 : List Col) (l447 : List Int) (l448 : List Col) : Option α :=
    l34x1b (fun (l513 : List Col) (x514 : Int) (b515 : Bool) (l516 : List Col) (l517 : List Int) (l518 : List Col) (l519 : List Int) (l520 : List Col) =>
        k0 l513 x514 b515 l516 l517 l518 l519 l520) (fun (l529 : List Col) (x530 : Int) (b531 : Bool) (l532 : List Col) (l533 : List Int) (l534 : List Col) (l535 : List Int) (l536 : List Col) =>
        k1 l529 x530 b531 l532 l533 l534 l535 l536) (fun (l545 : List Col) (x546 : Int) (b547 : Bool) (l548 : List Col) (l549 : List Int) (l550 : List Col) (l551 : List Int) (l552 : List Col) =>
        k2 l545 x546 b547 l548 l549 l550 l551 l552) N 0 0 l441 x442 b443 l444 l445 l446 l447 l448
noncomputable def G11x18 {α : Type} (N : Nat) (k0 : List Col → Int → Bool → List Col → List Int → List Col → List Int → List Col → Option α) (k1 : List Col → Int → Bool → List Col → List Int → List Col → List Int → List Col → Option α) (k2 : List Col → Int → Bool → List Col → List Int → List Col → List Int → List Col → Option α) (l441 : List Col) (x442 : Int) (b443 : Bool) (l444 : List Col) (l445 : List Int) (l446 : List Col) (l447 : List Int) (l448 : List Col) : Option α := G11x18g N (L34x1b N) k0 k1 k2 l441 x442 b443 l444 l445 l446 l447 l448
noncomputable def EG11x18 (φ : (List Col → Int → Bool → List Col → List Int → List Col → List Int → List Col → Option Res) → (List Col → Int → Bool → List Col → List Int → List Col → List Int → List Col → Option Res) → (List Col → Int → Bool → List Col → List Int → List Col → List Int → List Col → Option Res) → List Col → Int → Bool → List Col → List Int → List Col → List Int → List Col → Option Res) : ItE := codeE base 11 cG11x18 [] [2, 3, 4, 5, 6, 7, 8, 18] fG11x18 oG11x18 10 (fun K fr st => φ (fun (l521 : List Col) (x522 : Int) (b523 : Bool) (l524 : List Col) (l525 : List Int) (l526 : List Col) (l527 : List Int) (l528 : List Col) => K (.e 0) (List.replicate 4 LV.u ++ ([.p 2 0 0, .p 3 0 0, .p 4 0 0, .p 6 0 0, .p 8 0 0] : List LV) ++ List.replicate 31 LV.u) ⟨[.cells [.slv ⟨.col, l521⟩], .cells [.i .i64 x522], .cells [.sl 10], .cells [.sl 11], .cells [.b b523], .dead, .cells [.sl 12], .dead, .cells [.sl 13], .cells [.slv ⟨.col, l524⟩], .arr ⟨.int, l525⟩ 3, .arr ⟨.col, l526⟩ 45, .arr ⟨.int, l527⟩ 3, .arr ⟨.col, l528⟩ 45], 0⟩) (fun (l537 : List Col) (x538 : Int) (b539 : Bool) (l540 : List Col) (l541 : List Int) (l542 : List Col) (l543 : List Int) (l544 : List Col) => K .r (List.replicate 4 LV.u ++ ([.p 2 0 0, .p 3 0 0, .p 4 0 0, .p 6 0 0, .p 8 0 0] : List LV) ++ List.replicate 31 LV.u) ⟨[.cells [.slv ⟨.col, l537⟩], .cells [.i .i64 x538], .cells [.sl 10], .cells [.sl 11], .cells [.b b539], .dead, .cells [.sl 12], .dead, .cells [.sl 13], .cells [.slv ⟨.col, l540⟩], .arr ⟨.int, l541⟩ 3, .arr ⟨.col, l542⟩ 45, .arr ⟨.int, l543⟩ 3, .arr ⟨.col, l544⟩ 45], 0⟩) (fun (l553 : List Col) (x554 : Int) (b555 : Bool) (l556 : List Col) (l557 : List Int) (l558 : List Col) (l559 : List Int) (l560 : List Col) => K .n (List.replicate 4 LV.u ++ ([.p 2 0 0, .p 3 0 0, .p 4 0 0, .p 6 0 0, .p 8 0 0] : List LV) ++ List.replicate 31 LV.u) ⟨[.cells [.slv ⟨.col, l553⟩], .cells [.i .i64 x554], .cells [.sl 10], .cells [.sl 11], .cells [.b b555], .dead, .cells [.sl 12], .dead, .cells [.sl 13], .cells [.slv ⟨.col, l556⟩], .arr ⟨.int, l557⟩ 3, .arr ⟨.col, l558⟩ 45, .arr ⟨.int, l559⟩ 3, .arr ⟨.col, l560⟩ 45], 0⟩) (exT .col ((exF (st.L.getD 0 .dead)).getD 0 .u)) (exI ((exF (st.L.getD 1 .dead)).getD 0 .u)) (exB ((exF (st.L.getD 4 .dead)).getD 0 .u)) (exT .col ((exF (st.L.getD 9 .dead)).getD 0 .u)) (exA .int (st.L.getD 10 .dead)) (exA .col (st.L.getD 11 .dead)) (exA .int (st.L.getD 12 .dead)) (exA .col (st.L.getD 13 .dead)))
theorem G11x18Key (N : Nat) (l34x1b : (List Col → Int → Bool → List Col → List Int → List Col → List Int → List Col → Option Res) → (List Col → Int → Bool → List Col → List Int → List Col → List Int → List Col → Option Res) → (List Col → Int → Bool → List Col → List Int → List Col → List Int → List Col → Option Res) → Nat → Int → Int → List Col → Int → Bool → List Col → List Int → List Col → List Int → List Col → Option Res) (K : Kont) (fr : List LV) (st : St) : G11x18g N l34x1b (fun (l521 : List Col) (x522 : Int) (b523 : Bool) (l524 : List Col) (l525 : List Int) (l526 : List Col) (l527 : List Int) (l528 : List Col) => K (.e 0) (List.replicate 4 LV.u ++ ([.p 2 0 0, .p 3 0 0, .p 4 0 0, .p 6 0 0, .p 8 0 0] : List LV) ++ List.replicate 31 LV.u) ⟨[.cells [.slv ⟨.col, l521⟩], .cells [.i .i64 x522], .cells [.sl 10], .cells [.sl 11], .cells [.b b523], .dead, .cells [.sl 12], .dead, .cells [.sl 13], .cells [.slv ⟨.col, l524⟩], .arr ⟨.int, l525⟩ 3, .arr ⟨.col, l526⟩ 45, .arr ⟨.int, l527⟩ 3, .arr ⟨.col, l528⟩ 45], 0⟩) (fun (l537 : List Col) (x538 : Int) (b539 : Bool) (l540 : List Col) (l541 : List Int) (l542 : List Col) (l543 : List Int) (l544 : List Col) => K .r (List.replicate 4 LV.u ++ ([.p 2 0 0, .p 3 0 0, .p 4 0 0, .p 6 0 0, .p 8 0 0] : List LV) ++ List.replicate 31 LV.u) ⟨[.cells [.slv ⟨.col, l537⟩], .cells [.i .i64 x538], .cells [.sl 10], .cells [.sl 11], .cells [.b b539], .dead, .cells [.sl 12], .dead, .cells [.sl 13], .cells [.slv ⟨.col, l540⟩], .arr ⟨.int, l541⟩ 3, .arr ⟨.col, l542⟩ 45, .arr ⟨.int, l543⟩ 3, .arr ⟨.col, l544⟩ 45], 0⟩) (fun (l553 : List Col) (x554 : Int) (b555 : Bool) (l556 : List Col) (l557 : List Int) (l558 : List Col) (l559 : List Int) (l560 : List Col) => K .n (List.replicate 4 LV.u ++ ([.p 2 0 0, .p 3 0 0, .p 4 0 0, .p 6 0 0, .p 8 0 0] : List LV) ++ List.replicate 31 LV.u) ⟨[.cells [.slv ⟨.col, l553⟩], .cells [.i .i64 x554], .cells [.sl 10], .cells [.sl 11], .cells [.b b555], .dead, .cells [.sl 12], .dead, .cells [.sl 13], .cells [.slv ⟨.col, l556⟩], .arr ⟨.int, l557⟩ 3, .arr ⟨.col, l558⟩ 45, .arr ⟨.int, l559⟩ 3, .arr ⟨.col, l560⟩ 45], 0⟩) (exT .col ((exF (st.L.getD 0 .dead)).getD 0 .u)) (exI ((exF (st.L.getD 1 .dead)).getD 0 .u)) (exB ((exF (st.L.getD 4 .dead)).getD 0 .u)) (exT .col ((exF (st.L.getD 9 .dead)).getD 0 .u)) (exA .int (st.L.getD 10 .dead)) (exA .col (st.L.getD 11 .dead)) (exA .int (st.L.getD 12 .dead)) (exA .col (st.L.getD 13 .dead)) = ev (base.with_ [] [EL34x1b N l34x1b]) 400 (.code cG11x18) 11 (norL 0 fG11x18 fr) (norS oG11x18 st) (meetK base [4, 5, 6, 7, 8] 10 K) := by kernel_rfl
theorem EG11x18Ok (N : Nat) : (EG11x18 (G11x18 N)).OK Try.prog :=
  code_item base_ok (S := []) (I := [EL34x1b N (L34x1b N)]) all_nil (all_cons (EL34x1bOk N) all_nil) 400 [4, 5, 6, 7, 8] (fun K fr st => Eq.trans (by kernel_rfl) (Eq.trans (G11x18Key N (L34x1b N) K fr st) (by kernel_rfl)))

-- glazier/glazierlaw24.gone
noncomputable def F11g {α : Type} (g11x18 : (List Col → Int → Bool → List Col → List Int → List Col → List Int → List Col → Option α) → (List Col → Int → Bool → List Col → List Int → List Col → List Int → List Col → Option α) → (List Col → Int → Bool → List Col → List Int → List Col → List Int → List Col → Option α) → List Col → Int → Bool → List Col → List Int → List Col → List Int → List Col → Option α) (k0 : Bool → List Int → List Col → Option α) (l439 : List Col) (x440 : Int) : Option α :=
    let v0 := ([] : List Int)
    let v1 := ([] : List Col)
    g11x18 (fun (l561 : List Col) (x562 : Int) (b563 : Bool) (l564 : List Col) (l565 : List Int) (l566 : List Col) (l567 : List Int) (l568 : List Col) =>
        k0 true l567 l568) (fun (l572 : List Col) (x573 : Int) (b574 : Bool) (l575 : List Col) (l576 : List Int) (l577 : List Col) (l578 : List Int) (l579 : List Col) =>
        k0 b574 l576 l577) (fun (l580 : List Col) (x581 : Int) (b582 : Bool) (l583 : List Col) (l584 : List Int) (l585 : List Col) (l586 : List Int) (l587 : List Col) =>
        k0 true l586 l587) l439 x440 false l439 v0 v1 v0 v1
noncomputable def F11 {α : Type} (N : Nat) (k0 : Bool → List Int → List Col → Option α) (l439 : List Col) (x440 : Int) : Option α := F11g (G11x18 N) k0 l439 x440
noncomputable def EF11 (φ : (Bool → List Int → List Col → Option Res) → List Col → Int → Option Res) : SpecE := ⟨11, [.o (.slv .col), .o (.i .i64)], fun args K => φ (fun (b569 : Bool) (l570 : List Int) (l571 : List Col) => K (.tu [.sl 0, .sl 1, .b b569], [(⟨.int, l570⟩, 3), (⟨.col, l571⟩, 45)])) (exT .col (args.getD 0 .u)) (exI (args.getD 1 .u))⟩
theorem F11Key (N : Nat) (g11x18 : (List Col → Int → Bool → List Col → List Int → List Col → List Int → List Col → Option Res) → (List Col → Int → Bool → List Col → List Int → List Col → List Int → List Col → Option Res) → (List Col → Int → Bool → List Col → List Int → List Col → List Int → List Col → Option Res) → List Col → Int → Bool → List Col → List Int → List Col → List Int → List Col → Option Res) (args : List LV) (K : Res → Option Res) : (EF11 (F11g g11x18)).F args K = ev (base.with_ [] [EG11x18 g11x18]) 400 (.code (bodyOf Try.f11)) 11 (norL 0 (EF11 (F11g g11x18)).ps args ++ List.replicate (Try.f11.ntmps - (norL 0 (EF11 (F11g g11x18)).ps args).length) .u) ⟨[], 0⟩ (endK base Try.f11 K) := by kernel_rfl
theorem EF11Ok (N : Nat) : (EF11 (F11 N)).OK Try.prog base :=
  fun_item base_ok (S := []) (I := [EG11x18 (G11x18 N)]) all_nil (all_cons (EG11x18Ok N) all_nil) 400 (EF11 (F11 N)) (f := Try.f11) (body := bodyOf Try.f11) (by kernel_rfl) (by kernel_rfl) (fun args K => Eq.trans (by kernel_rfl) (Eq.trans (F11Key N (G11x18 N) args K) (by kernel_rfl)))

-- glazier/glazierref03.Same, a loop
noncomputable def cL13x4 : Code := cAt [1, 1, 0, 1, 0, 0] (bodyOf Try.f13)
noncomputable def fL13x4 : List Pat := ([.o (.slv .int), .o (.slv .int)] : List Pat) ++ List.replicate 3 pu ++ ([.o (.i .i64)] : List Pat) ++ List.replicate 20 pu
noncomputable def oL13x4 : List PatO := []
noncomputable def L13x4g {α : Type}  (k0 : Bool → Option α) (k1 : Option α) (rec : List Int → List Int → Int → Option α) (l596 : List Int) (l597 : List Int) (x598 : Int) : Option α :=
    bif decide (x598 < (ln l596)) then
      bif inb x598 l596 then
        bif inb x598 l597 then
          bif (rd .int l596 x598) != (rd .int l597 x598) then
            k0 false
          else
            rec l596 l597 (wi64 (x598 + 1))
        else none
      else none
    else
      k1
noncomputable def L13x4 {α : Type} (k0 : Bool → Option α) (k1 : Option α) : Nat → List Int → List Int → Int → Option α
  | 0, _, _, _ => none
  | n + 1, l596, l597, x598 => L13x4g  k0 k1 (L13x4 k0 k1 n) l596 l597 x598
noncomputable def EL13x4 (N : Nat) (φ : (Bool → Option Res) → (Option Res) → Nat → List Int → List Int → Int → Option Res) : ItE := loopE base 13 cL13x4 [] [0, 1, 5] fL13x4 oL13x4 0 N (fun K n fr st => φ (fun (b599 : Bool) => K .r (List.replicate 4 LV.u ++ ([.b b599] : List LV) ++ List.replicate 21 LV.u) ⟨[], 0⟩) (K (.e 0) (List.replicate 26 LV.u) ⟨[], 0⟩) n (exT .int (fr.getD 0 .u)) (exT .int (fr.getD 1 .u)) (exI (fr.getD 5 .u)))
theorem L13x4Key (N : Nat)  (K : Kont) (rec : List Int → List Int → Int → Option Res) (fr : List LV) (st : St) : L13x4g  (fun (b599 : Bool) => K .r (List.replicate 4 LV.u ++ ([.b b599] : List LV) ++ List.replicate 21 LV.u) ⟨[], 0⟩) (K (.e 0) (List.replicate 26 LV.u) ⟨[], 0⟩) rec (exT .int (fr.getD 0 .u)) (exT .int (fr.getD 1 .u)) (exI (fr.getD 5 .u)) = ev (base.with_ [] []) 400 (.code cL13x4) 13 (norL 0 fL13x4 fr) (norS oL13x4 st) (headK base [] [0, 1, 5] [4] 0 fL13x4 oL13x4 (fun fr st => rec (exT .int (fr.getD 0 .u)) (exT .int (fr.getD 1 .u)) (exI (fr.getD 5 .u))) K) := by kernel_rfl
theorem EL13x4Ok (N : Nat) : (EL13x4 N L13x4).OK Try.prog :=
  loop_item base_ok (S := []) (I := []) all_nil all_nil 400 [4] (by intro K fr st; kernel_rfl) (fun K n fr st => Eq.trans (by kernel_rfl) (Eq.trans (L13x4Key N  K (L13x4 (fun (b599 : Bool) => K .r (List.replicate 4 LV.u ++ ([.b b599] : List LV) ++ List.replicate 21 LV.u) ⟨[], 0⟩) (K (.e 0) (List.replicate 26 LV.u) ⟨[], 0⟩) n) fr st) (by kernel_rfl)))

-- glazier/glazierref03.Same
noncomputable def F13g {α : Type} (N : Nat) (l13x4 : (Bool → Option α) → (Option α) → Nat → List Int → List Int → Int → Option α) (k0 : Bool → Option α) (l593 : List Int) (l594 : List Int) : Option α :=
    bif (ln l593) != (ln l594) then
      k0 false
    else
      l13x4 (fun (b600 : Bool) =>
          k0 b600) (
          k0 true) N l593 l594 0
noncomputable def F13 {α : Type} (N : Nat) (k0 : Bool → Option α) (l593 : List Int) (l594 : List Int) : Option α := F13g N L13x4 k0 l593 l594
noncomputable def EF13 (φ : (Bool → Option Res) → List Int → List Int → Option Res) : SpecE := ⟨13, [.o (.slv .int), .o (.slv .int)], fun args K => φ (fun (b595 : Bool) => K (.b b595, [])) (exT .int (args.getD 0 .u)) (exT .int (args.getD 1 .u))⟩
theorem F13Key (N : Nat) (l13x4 : (Bool → Option Res) → (Option Res) → Nat → List Int → List Int → Int → Option Res) (args : List LV) (K : Res → Option Res) : (EF13 (F13g N l13x4)).F args K = ev (base.with_ [] [EL13x4 N l13x4]) 400 (.code (bodyOf Try.f13)) 13 (norL 0 (EF13 (F13g N l13x4)).ps args ++ List.replicate (Try.f13.ntmps - (norL 0 (EF13 (F13g N l13x4)).ps args).length) .u) ⟨[], 0⟩ (endK base Try.f13 K) := by kernel_rfl
theorem EF13Ok (N : Nat) : (EF13 (F13 N)).OK Try.prog base :=
  fun_item base_ok (S := []) (I := [EL13x4 N L13x4]) all_nil (all_cons (EL13x4Ok N) all_nil) 400 (EF13 (F13 N)) (f := Try.f13) (body := bodyOf Try.f13) (by kernel_rfl) (by kernel_rfl) (fun args K => Eq.trans (by kernel_rfl) (Eq.trans (F13Key N L13x4 args K) (by kernel_rfl)))

-- glazier/glazierlaw24.ImageAll
noncomputable def F3g {α : Type} (f5 : (Bool → Option α) → Option α) (f6 : (Int → List Int → Option α) → Int → Int → List Col → Option α) (f7 : (Int → List Int → Option α) → Int → Int → List Col → Option α) (f8 : (Int → Int → Int → List Col → Option α) → List Int → Option α) (f9 : (Int → Int → Int → List Col → Option α) → List Int → Option α) (f10 : (Bool → Option α) → List Col → List Col → Option α) (f11 : (Bool → List Int → List Col → Option α) → List Col → Int → Option α) (f12 : (List Int → List Col → Option α) → List Col → Option α) (f13 : (Bool → Option α) → List Int → List Int → Option α) (m3x26 : (List Int → Bool → Int → Int → List Col → Option α) → List Int → Bool → Bool → Int → Int → List Col → Option α) (m3x33 : (List Int → Bool → Int → Int → List Col → Option α) → List Int → Bool → Bool → Int → Int → List Col → Option α) (k0 : Bool → Option α) (x0 : Int) (x1 : Int) (l2 : List Col) (l3 : List Int) : Option α :=
    f5 (fun (b99 : Bool) =>
        m3x26 (fun (l111 : List Int) (b112 : Bool) (x113 : Int) (x114 : Int) (l115 : List Col) =>
            m3x33 (fun (l127 : List Int) (b128 : Bool) (x129 : Int) (x130 : Int) (l131 : List Col) =>
                f6 (fun (x132 : Int) (l133 : List Int) =>
                    f7 (fun (x186 : Int) (l187 : List Int) =>
                        f8 (fun (x325 : Int) (x326 : Int) (x327 : Int) (l328 : List Col) =>
                            f9 (fun (x426 : Int) (x427 : Int) (x428 : Int) (l429 : List Col) =>
                                f10 (fun (b438 : Bool) =>
                                    f11 (fun (b588 : Bool) (l589 : List Int) (l590 : List Col) =>
                                        f12 (fun (l591 : List Int) (l592 : List Col) =>
                                            f13 (fun (b601 : Bool) =>
                                                f10 (fun (b602 : Bool) =>
                                                    bif b128 then
                                                      bif seqS (bytesOf l133) (bytesOf l187) then
                                                        bif x132 == x186 then
                                                          bif b438 then
                                                            bif x325 == x426 then
                                                              bif x326 == x427 then
                                                                bif x327 == x428 then
                                                                  bif b588 then
                                                                    bif b601 then
                                                                      k0 b602
                                                                    else
                                                                      k0 false
                                                                  else
                                                                    k0 false
                                                                else
                                                                  k0 false
                                                              else
                                                                k0 false
                                                            else
                                                              k0 false
                                                          else
                                                            k0 false
                                                        else
                                                          k0 false
                                                      else
                                                        k0 false
                                                    else
                                                      k0 false) l590 l592) l589 l591) l131) l131 10000) l328 l429) l127) l127) x129 x130 l131) x129 x130 l131) l111 b112 (decide ((ln l111) > 600)) x113 x114 l115) l3 b99 (decide ((ln l2) > 400)) x0 x1 l2)
noncomputable def F3 {α : Type} (N : Nat) (k0 : Bool → Option α) (x0 : Int) (x1 : Int) (l2 : List Col) (l3 : List Int) : Option α := F3g (F5 N) (F6 N) (F7 N) (F8 N) (F9 N) (F10 N) (F11 N) (F12 N) (F13 N) M3x26 M3x33 k0 x0 x1 l2 l3
noncomputable def EF3 (φ : (Bool → Option Res) → Int → Int → List Col → List Int → Option Res) : SpecE := ⟨3, [.ag [.i .i64, .i .i64, .slv .col], .o (.slv .u8)], fun args K => φ (fun (b603 : Bool) => K (.b b603, [])) (exI ((exC (args.getD 0 .u)).getD 0 .u)) (exI ((exC (args.getD 0 .u)).getD 1 .u)) (exT .col ((exC (args.getD 0 .u)).getD 2 .u)) (exT .u8 (args.getD 1 .u))⟩
theorem F3Key (N : Nat) (f5 : (Bool → Option Res) → Option Res) (f6 : (Int → List Int → Option Res) → Int → Int → List Col → Option Res) (f7 : (Int → List Int → Option Res) → Int → Int → List Col → Option Res) (f8 : (Int → Int → Int → List Col → Option Res) → List Int → Option Res) (f9 : (Int → Int → Int → List Col → Option Res) → List Int → Option Res) (f10 : (Bool → Option Res) → List Col → List Col → Option Res) (f11 : (Bool → List Int → List Col → Option Res) → List Col → Int → Option Res) (f12 : (List Int → List Col → Option Res) → List Col → Option Res) (f13 : (Bool → Option Res) → List Int → List Int → Option Res) (m3x26 : (List Int → Bool → Int → Int → List Col → Option Res) → List Int → Bool → Bool → Int → Int → List Col → Option Res) (m3x33 : (List Int → Bool → Int → Int → List Col → Option Res) → List Int → Bool → Bool → Int → Int → List Col → Option Res) (args : List LV) (K : Res → Option Res) : (EF3 (F3g f5 f6 f7 f8 f9 f10 f11 f12 f13 m3x26 m3x33)).F args K = ev (base.with_ [EF5 f5, EF6 f6, EF7 f7, EF8 f8, EF9 f9, EF10 f10, EF11 f11, EF12 f12, EF13 f13] [EM3x26 m3x26, EM3x33 m3x33]) 400 (.code (bodyOf Try.f3)) 3 (norL 0 (EF3 (F3g f5 f6 f7 f8 f9 f10 f11 f12 f13 m3x26 m3x33)).ps args ++ List.replicate (Try.f3.ntmps - (norL 0 (EF3 (F3g f5 f6 f7 f8 f9 f10 f11 f12 f13 m3x26 m3x33)).ps args).length) .u) ⟨[], 0⟩ (endK base Try.f3 K) := by kernel_rfl
theorem EF3Ok (N : Nat) : (EF3 (F3 N)).OK Try.prog base :=
  fun_item base_ok (S := [EF5 (F5 N), EF6 (F6 N), EF7 (F7 N), EF8 (F8 N), EF9 (F9 N), EF10 (F10 N), EF11 (F11 N), EF12 (F12 N), EF13 (F13 N)]) (I := [EM3x26 M3x26, EM3x33 M3x33]) (all_cons (EF5Ok N) (all_cons (EF6Ok N) (all_cons (EF7Ok N) (all_cons (EF8Ok N) (all_cons (EF9Ok N) (all_cons (EF10Ok N) (all_cons (EF11Ok N) (all_cons (EF12Ok N) (all_cons (EF13Ok N) all_nil))))))))) (all_cons (EM3x26Ok N) (all_cons (EM3x33Ok N) all_nil)) 400 (EF3 (F3 N)) (f := Try.f3) (body := bodyOf Try.f3) (by kernel_rfl) (by kernel_rfl) (fun args K => Eq.trans (by kernel_rfl) (Eq.trans (F3Key N (F5 N) (F6 N) (F7 N) (F8 N) (F9 N) (F10 N) (F11 N) (F12 N) (F13 N) M3x26 M3x33 args K) (by kernel_rfl)))
end Gz
