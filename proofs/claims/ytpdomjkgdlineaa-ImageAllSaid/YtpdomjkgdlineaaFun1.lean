/- Functions of the program as plain ones, printed by a program. -/
import Derived.Test.YtpdomjkgdlineaaTab
import Derived.Test.YtpdomjkgdlineaaFun0
set_option linter.unusedVariables false
set_option linter.unusedSimpArgs false
set_option linter.unnecessarySimpa false
set_option linter.deprecated false
set_option maxRecDepth 100000
namespace Gz
open Go Go.Proofs
-- glazier/image.numbers, an if
noncomputable def cG24x7 : Code := cAt [1, 1, 0, 1, 0] (bodyOf Try.f24)
noncomputable def fG24x7 : List Pat := ([pu, pu, .o (.p 0 0 0), .o (.p 1 0 0)] : List Pat) ++ List.replicate 3 pu ++ ([.fn 43 [.p 2 0 0]] : List Pat) ++ List.replicate 9 pu
noncomputable def oG24x7 : List PatO := [.cells [.o (.sl 3)], .cells [.o (.sl 4)], .cells [.o (.slv .u8)], .arr .int 3, .arr .int 3]
noncomputable def G24x7g {α : Type} (N : Nat) (l43x1 : (List Int → List Int → List Int → Option α) → (List Int → List Int → List Int → Option α) → (List Int → List Int → List Int → Option α) → Nat → Int → List Int → List Int → List Int → Option α) (k0 : List Int → List Int → List Int → Option α) (k1 : List Int → List Int → List Int → Option α) (l193 : List Int) (l194 : List Int) (l195 : List Int) : Option α :=
    l43x1 (fun (l226 : List Int) (l227 : List Int) (l228 : List Int) =>
        k0 l226 l227 l228) (fun (l232 : List Int) (l233 : List Int) (l234 : List Int) =>
        k1 l232 l233 l234) (fun (l238 : List Int) (l239 : List Int) (l240 : List Int) =>
        k1 l238 l239 l240) N 0 l193 l194 l195
noncomputable def G24x7 {α : Type} (N : Nat) (k0 : List Int → List Int → List Int → Option α) (k1 : List Int → List Int → List Int → Option α) (l193 : List Int) (l194 : List Int) (l195 : List Int) : Option α := G24x7g N (L43x1 N) k0 k1 l193 l194 l195
noncomputable def EG24x7 (φ : (List Int → List Int → List Int → Option Res) → (List Int → List Int → List Int → Option Res) → List Int → List Int → List Int → Option Res) : ItE := codeE base 24 cG24x7 [] [2, 3, 7] fG24x7 oG24x7 3 (fun K fr st => φ (fun (l229 : List Int) (l230 : List Int) (l231 : List Int) => K .r (([.u, .u, .p 0 0 0, .p 1 0 0] : List LV) ++ List.replicate 13 LV.u) ⟨[.cells [.sl 3], .cells [.sl 4], .cells [.slv ⟨.u8, l229⟩], .arr ⟨.int, l230⟩ 3, .arr ⟨.int, l231⟩ 3], 0⟩) (fun (l235 : List Int) (l236 : List Int) (l237 : List Int) => K .n (([.u, .u, .p 0 0 0, .p 1 0 0] : List LV) ++ List.replicate 13 LV.u) ⟨[.cells [.sl 3], .cells [.sl 4], .cells [.slv ⟨.u8, l235⟩], .arr ⟨.int, l236⟩ 3, .arr ⟨.int, l237⟩ 3], 0⟩) (exT .u8 ((exF (st.L.getD 2 .dead)).getD 0 .u)) (exA .int (st.L.getD 3 .dead)) (exA .int (st.L.getD 4 .dead)))
theorem G24x7Key (N : Nat) (l43x1 : (List Int → List Int → List Int → Option Res) → (List Int → List Int → List Int → Option Res) → (List Int → List Int → List Int → Option Res) → Nat → Int → List Int → List Int → List Int → Option Res) (K : Kont) (fr : List LV) (st : St) : G24x7g N l43x1 (fun (l229 : List Int) (l230 : List Int) (l231 : List Int) => K .r (([.u, .u, .p 0 0 0, .p 1 0 0] : List LV) ++ List.replicate 13 LV.u) ⟨[.cells [.sl 3], .cells [.sl 4], .cells [.slv ⟨.u8, l229⟩], .arr ⟨.int, l230⟩ 3, .arr ⟨.int, l231⟩ 3], 0⟩) (fun (l235 : List Int) (l236 : List Int) (l237 : List Int) => K .n (([.u, .u, .p 0 0 0, .p 1 0 0] : List LV) ++ List.replicate 13 LV.u) ⟨[.cells [.sl 3], .cells [.sl 4], .cells [.slv ⟨.u8, l235⟩], .arr ⟨.int, l236⟩ 3, .arr ⟨.int, l237⟩ 3], 0⟩) (exT .u8 ((exF (st.L.getD 2 .dead)).getD 0 .u)) (exA .int (st.L.getD 3 .dead)) (exA .int (st.L.getD 4 .dead)) = ev (base.with_ [] [EL43x1 N l43x1]) 400 (.code cG24x7) 24 (norL 0 fG24x7 fr) (norS oG24x7 st) (meetK base [2, 3] 3 K) := by kernel_rfl
theorem EG24x7Ok (N : Nat) : (EG24x7 (G24x7 N)).OK Try.prog :=
  code_item base_ok (S := []) (I := [EL43x1 N (L43x1 N)]) all_nil (all_cons (EL43x1Ok N) all_nil) 400 [2, 3] (fun K fr st => Eq.trans (by kernel_rfl) (Eq.trans (G24x7Key N (L43x1 N) K fr st) (by kernel_rfl)))

-- glazier/image.numbers
noncomputable def F24g {α : Type} (c42 : (List Int → Option α) → List Int → Option α) (g24x7 : (List Int → List Int → List Int → Option α) → (List Int → List Int → List Int → Option α) → List Int → List Int → List Int → Option α) (k0 : List Int → Option α) (l189 : List Int) : Option α :=
    c42 (fun (l192 : List Int) =>
        let v0 := ([] : List Int)
        g24x7 (fun (l241 : List Int) (l242 : List Int) (l243 : List Int) =>
            k0 l242) (fun (l245 : List Int) (l246 : List Int) (l247 : List Int) =>
            k0 l247) l192 v0 v0) l189
noncomputable def F24 {α : Type} (N : Nat) (k0 : List Int → Option α) (l189 : List Int) : Option α := F24g C42 (G24x7 N) k0 l189
noncomputable def EF24 (φ : (List Int → Option Res) → List Int → Option Res) : SpecE := ⟨24, [.o (.slv .u8)], fun args K => φ (fun (l244 : List Int) => K (.sl 0, [(⟨.int, l244⟩, 3)])) (exT .u8 (args.getD 0 .u))⟩
theorem F24Key (N : Nat) (c42 : (List Int → Option Res) → List Int → Option Res) (g24x7 : (List Int → List Int → List Int → Option Res) → (List Int → List Int → List Int → Option Res) → List Int → List Int → List Int → Option Res) (args : List LV) (K : Res → Option Res) : (EF24 (F24g c42 g24x7)).F args K = ev (base.with_ [EC42 c42] [EG24x7 g24x7]) 400 (.code (bodyOf Try.f24)) 24 (norL 0 (EF24 (F24g c42 g24x7)).ps args ++ List.replicate (Try.f24.ntmps - (norL 0 (EF24 (F24g c42 g24x7)).ps args).length) .u) ⟨[], 0⟩ (endK base Try.f24 K) := by kernel_rfl
theorem EF24Ok (N : Nat) : (EF24 (F24 N)).OK Try.prog base :=
  fun_item base_ok (S := [EC42 C42]) (I := [EG24x7 (G24x7 N)]) (all_cons (EC42Ok N) all_nil) (all_cons (EG24x7Ok N) all_nil) 400 (EF24 (F24 N)) (f := Try.f24) (body := bodyOf Try.f24) (by kernel_rfl) (by kernel_rfl) (fun args K => Eq.trans (by kernel_rfl) (Eq.trans (F24Key N C42 (G24x7 N) args K) (by kernel_rfl)))

-- glazier/image.Take, a loop
noncomputable def cL8x10 : Code := cAt [1, 1, 1, 1, 0, 1, 0, 0, 1, 0, 0, 1, 1, 0, 0] (bodyOf Try.f8)
noncomputable def fL8x10 : List Pat := ([.o (.slv .u8), pu, .o (.p 0 0 0), pu, .o (.slv .int), .o (.p 2 0 0), .o (.p 5 0 0)] : List Pat) ++ List.replicate 48 pu ++ ([.o (.i .i64), .o (.i .i64)] : List Pat) ++ List.replicate 23 pu
noncomputable def oL8x10 : List PatO := [.cells [.o (.i .i64), .o (.i .i64), .o (.sl 6)], .ro .int, .cells [.o (.i .i64), .o (.i .i64), .o (.sl 7)], .dead, .dead, .cells [.o (.i .u8), .o (.i .u8), .o (.i .u8), .o (.i .u8)], .arr .col 45, .arr .col 45]
noncomputable def L8x10g {α : Type}  (k0 : List Int → List Int → Int → Int → List Int → Int → Int → Int → Int → Int → Int → List Col → List Col → Option α) (rec : List Int → List Int → Int → Int → Int → Int → List Int → Int → Int → Int → Int → Int → Int → List Col → List Col → Option α) (l262 : List Int) (l263 : List Int) (x264 : Int) (x265 : Int) (x266 : Int) (x267 : Int) (l268 : List Int) (x269 : Int) (x270 : Int) (x271 : Int) (x272 : Int) (x273 : Int) (x274 : Int) (l275 : List Col) (l276 : List Col) : Option α :=
    bif decide (x265 < x264) then
      let v0 := ([(⟨x271, x272, x273, x274⟩ : Col)] : List Col)
      bif room l276 v0 then
        rec l262 l263 x264 (wi64 (x265 + 1)) x266 x267 l268 x269 x270 x271 x272 x273 x274 l275 (l276 ++ v0)
      else none
    else
      k0 l262 l263 x266 x267 l268 x269 x270 x271 x272 x273 x274 l275 l276
noncomputable def L8x10 {α : Type} (k0 : List Int → List Int → Int → Int → List Int → Int → Int → Int → Int → Int → Int → List Col → List Col → Option α) : Nat → List Int → List Int → Int → Int → Int → Int → List Int → Int → Int → Int → Int → Int → Int → List Col → List Col → Option α
  | 0, _, _, _, _, _, _, _, _, _, _, _, _, _, _, _ => none
  | n + 1, l262, l263, x264, x265, x266, x267, l268, x269, x270, x271, x272, x273, x274, l275, l276 => L8x10g  k0 (L8x10 k0 n) l262 l263 x264 x265 x266 x267 l268 x269 x270 x271 x272 x273 x274 l275 l276
noncomputable def EL8x10 (N : Nat) (φ : (List Int → List Int → Int → Int → List Int → Int → Int → Int → Int → Int → Int → List Col → List Col → Option Res) → Nat → List Int → List Int → Int → Int → Int → Int → List Int → Int → Int → Int → Int → Int → Int → List Col → List Col → Option Res) : ItE := loopE base 8 cL8x10 [] [0, 2, 4, 5, 6, 55, 56] fL8x10 oL8x10 6 N (fun K n fr st => φ (fun (l277 : List Int) (l278 : List Int) (x279 : Int) (x280 : Int) (l281 : List Int) (x282 : Int) (x283 : Int) (x284 : Int) (x285 : Int) (x286 : Int) (x287 : Int) (l288 : List Col) (l289 : List Col) => K (.e 2) (([.slv ⟨.u8, l277⟩, .u, .p 0 0 0, .u, .slv ⟨.int, l278⟩, .p 2 0 0] : List LV) ++ List.replicate 74 LV.u) ⟨[.cells [.i .i64 x279, .i .i64 x280, .sl 6], .ro ⟨.int, l281⟩, .cells [.i .i64 x282, .i .i64 x283, .sl 7], .dead, .dead, .cells [.i .u8 x284, .i .u8 x285, .i .u8 x286, .i .u8 x287], .arr ⟨.col, l288⟩ 45, .arr ⟨.col, l289⟩ 45], 0⟩) n (exT .u8 (fr.getD 0 .u)) (exT .int (fr.getD 4 .u)) (exI (fr.getD 55 .u)) (exI (fr.getD 56 .u)) (exI ((exF (st.L.getD 0 .dead)).getD 0 .u)) (exI ((exF (st.L.getD 0 .dead)).getD 1 .u)) (exA .int (st.L.getD 1 .dead)) (exI ((exF (st.L.getD 2 .dead)).getD 0 .u)) (exI ((exF (st.L.getD 2 .dead)).getD 1 .u)) (exI ((exF (st.L.getD 5 .dead)).getD 0 .u)) (exI ((exF (st.L.getD 5 .dead)).getD 1 .u)) (exI ((exF (st.L.getD 5 .dead)).getD 2 .u)) (exI ((exF (st.L.getD 5 .dead)).getD 3 .u)) (exA .col (st.L.getD 6 .dead)) (exA .col (st.L.getD 7 .dead)))
theorem L8x10Key (N : Nat)  (K : Kont) (rec : List Int → List Int → Int → Int → Int → Int → List Int → Int → Int → Int → Int → Int → Int → List Col → List Col → Option Res) (fr : List LV) (st : St) : L8x10g  (fun (l277 : List Int) (l278 : List Int) (x279 : Int) (x280 : Int) (l281 : List Int) (x282 : Int) (x283 : Int) (x284 : Int) (x285 : Int) (x286 : Int) (x287 : Int) (l288 : List Col) (l289 : List Col) => K (.e 2) (([.slv ⟨.u8, l277⟩, .u, .p 0 0 0, .u, .slv ⟨.int, l278⟩, .p 2 0 0] : List LV) ++ List.replicate 74 LV.u) ⟨[.cells [.i .i64 x279, .i .i64 x280, .sl 6], .ro ⟨.int, l281⟩, .cells [.i .i64 x282, .i .i64 x283, .sl 7], .dead, .dead, .cells [.i .u8 x284, .i .u8 x285, .i .u8 x286, .i .u8 x287], .arr ⟨.col, l288⟩ 45, .arr ⟨.col, l289⟩ 45], 0⟩) rec (exT .u8 (fr.getD 0 .u)) (exT .int (fr.getD 4 .u)) (exI (fr.getD 55 .u)) (exI (fr.getD 56 .u)) (exI ((exF (st.L.getD 0 .dead)).getD 0 .u)) (exI ((exF (st.L.getD 0 .dead)).getD 1 .u)) (exA .int (st.L.getD 1 .dead)) (exI ((exF (st.L.getD 2 .dead)).getD 0 .u)) (exI ((exF (st.L.getD 2 .dead)).getD 1 .u)) (exI ((exF (st.L.getD 5 .dead)).getD 0 .u)) (exI ((exF (st.L.getD 5 .dead)).getD 1 .u)) (exI ((exF (st.L.getD 5 .dead)).getD 2 .u)) (exI ((exF (st.L.getD 5 .dead)).getD 3 .u)) (exA .col (st.L.getD 6 .dead)) (exA .col (st.L.getD 7 .dead)) = ev (base.with_ [] []) 400 (.code cL8x10) 8 (norL 0 fL8x10 fr) (norS oL8x10 st) (headK base [] [0, 2, 4, 5, 6, 55, 56] [0, 2, 3, 4, 5] 6 fL8x10 oL8x10 (fun fr st => rec (exT .u8 (fr.getD 0 .u)) (exT .int (fr.getD 4 .u)) (exI (fr.getD 55 .u)) (exI (fr.getD 56 .u)) (exI ((exF (st.L.getD 0 .dead)).getD 0 .u)) (exI ((exF (st.L.getD 0 .dead)).getD 1 .u)) (exA .int (st.L.getD 1 .dead)) (exI ((exF (st.L.getD 2 .dead)).getD 0 .u)) (exI ((exF (st.L.getD 2 .dead)).getD 1 .u)) (exI ((exF (st.L.getD 5 .dead)).getD 0 .u)) (exI ((exF (st.L.getD 5 .dead)).getD 1 .u)) (exI ((exF (st.L.getD 5 .dead)).getD 2 .u)) (exI ((exF (st.L.getD 5 .dead)).getD 3 .u)) (exA .col (st.L.getD 6 .dead)) (exA .col (st.L.getD 7 .dead))) K) := by kernel_rfl
theorem EL8x10Ok (N : Nat) : (EL8x10 N L8x10).OK Try.prog :=
  loop_item base_ok (S := []) (I := []) all_nil all_nil 400 [0, 2, 3, 4, 5] (by intro K fr st; kernel_rfl) (fun K n fr st => Eq.trans (by kernel_rfl) (Eq.trans (L8x10Key N  K (L8x10 (fun (l277 : List Int) (l278 : List Int) (x279 : Int) (x280 : Int) (l281 : List Int) (x282 : Int) (x283 : Int) (x284 : Int) (x285 : Int) (x286 : Int) (x287 : Int) (l288 : List Col) (l289 : List Col) => K (.e 2) (([.slv ⟨.u8, l277⟩, .u, .p 0 0 0, .u, .slv ⟨.int, l278⟩, .p 2 0 0] : List LV) ++ List.replicate 74 LV.u) ⟨[.cells [.i .i64 x279, .i .i64 x280, .sl 6], .ro ⟨.int, l281⟩, .cells [.i .i64 x282, .i .i64 x283, .sl 7], .dead, .dead, .cells [.i .u8 x284, .i .u8 x285, .i .u8 x286, .i .u8 x287], .arr ⟨.col, l288⟩ 45, .arr ⟨.col, l289⟩ 45], 0⟩) n) fr st) (by kernel_rfl)))

-- glazier/image.Take, a loop
noncomputable def cL8x6 : Code := cAt [1, 1, 1, 1, 0, 1, 0, 0] (bodyOf Try.f8)
noncomputable def fL8x6 : List Pat := ([.o (.slv .u8), pu, .o (.p 0 0 0), pu, .o (.slv .int), .o (.p 2 0 0)] : List Pat) ++ List.replicate 74 pu
noncomputable def oL8x6 : List PatO := [.cells [.o (.i .i64), .o (.i .i64), .o (.sl 3)], .ro .int, .cells [.o (.i .i64), .o (.i .i64), .o (.sl 4)], .arr .col 45, .arr .col 45]
noncomputable def L8x6g {α : Type} (N : Nat) (l8x10 : (List Int → List Int → Int → Int → List Int → Int → Int → Int → Int → Int → Int → List Col → List Col → Option α) → Nat → List Int → List Int → Int → Int → Int → Int → List Int → Int → Int → Int → Int → Int → Int → List Col → List Col → Option α) (k0 : List Int → Int → Int → List Int → Int → Int → List Col → List Col → Option α) (rec : List Int → List Int → Int → Int → List Int → Int → Int → List Col → List Col → Option α) (l253 : List Int) (l254 : List Int) (x255 : Int) (x256 : Int) (l257 : List Int) (x258 : Int) (x259 : Int) (l260 : List Col) (l261 : List Col) : Option α :=
    bif decide ((ln l254) ≥ 5) then
      bif inb 1 l254 then
        bif inb 2 l254 then
          bif inb 3 l254 then
            bif inb 4 l254 then
              bif inb 0 l254 then
                l8x10 (fun (l290 : List Int) (l291 : List Int) (x292 : Int) (x293 : Int) (l294 : List Int) (x295 : Int) (x296 : Int) (x297 : Int) (x298 : Int) (x299 : Int) (x300 : Int) (l301 : List Col) (l302 : List Col) =>
                    bif insE 5 l291 then
                      rec l290 (subE l291 5) x292 x293 l294 x295 x296 l301 l302
                    else none) N l253 l254 (mn (mx (rd .int l254 0) 0) (wi64 (4097 - (mn (ln l261) 4097)))) 0 x255 x256 l257 x258 x259 (wu8 (rd .int l254 1)) (wu8 (rd .int l254 2)) (wu8 (rd .int l254 3)) (wu8 (rd .int l254 4)) l260 l261
              else none
            else none
          else none
        else none
      else none
    else
      k0 l253 x255 x256 l257 x258 x259 l260 l261
noncomputable def L8x6 {α : Type} (N : Nat) (k0 : List Int → Int → Int → List Int → Int → Int → List Col → List Col → Option α) : Nat → List Int → List Int → Int → Int → List Int → Int → Int → List Col → List Col → Option α
  | 0, _, _, _, _, _, _, _, _, _ => none
  | n + 1, l253, l254, x255, x256, l257, x258, x259, l260, l261 => L8x6g N L8x10 k0 (L8x6 N k0 n) l253 l254 x255 x256 l257 x258 x259 l260 l261
noncomputable def EL8x6 (N : Nat) (φ : (List Int → Int → Int → List Int → Int → Int → List Col → List Col → Option Res) → Nat → List Int → List Int → Int → Int → List Int → Int → Int → List Col → List Col → Option Res) : ItE := loopE base 8 cL8x6 [] [0, 2, 4, 5] fL8x6 oL8x6 3 N (fun K n fr st => φ (fun (l303 : List Int) (x304 : Int) (x305 : Int) (l306 : List Int) (x307 : Int) (x308 : Int) (l309 : List Col) (l310 : List Col) => K (.e 0) (([.slv ⟨.u8, l303⟩, .u, .p 0 0 0, .u, .u, .p 2 0 0] : List LV) ++ List.replicate 74 LV.u) ⟨[.cells [.i .i64 x304, .i .i64 x305, .sl 3], .ro ⟨.int, l306⟩, .cells [.i .i64 x307, .i .i64 x308, .sl 4], .arr ⟨.col, l309⟩ 45, .arr ⟨.col, l310⟩ 45], 0⟩) n (exT .u8 (fr.getD 0 .u)) (exT .int (fr.getD 4 .u)) (exI ((exF (st.L.getD 0 .dead)).getD 0 .u)) (exI ((exF (st.L.getD 0 .dead)).getD 1 .u)) (exA .int (st.L.getD 1 .dead)) (exI ((exF (st.L.getD 2 .dead)).getD 0 .u)) (exI ((exF (st.L.getD 2 .dead)).getD 1 .u)) (exA .col (st.L.getD 3 .dead)) (exA .col (st.L.getD 4 .dead)))
theorem L8x6Key (N : Nat) (l8x10 : (List Int → List Int → Int → Int → List Int → Int → Int → Int → Int → Int → Int → List Col → List Col → Option Res) → Nat → List Int → List Int → Int → Int → Int → Int → List Int → Int → Int → Int → Int → Int → Int → List Col → List Col → Option Res) (K : Kont) (rec : List Int → List Int → Int → Int → List Int → Int → Int → List Col → List Col → Option Res) (fr : List LV) (st : St) : L8x6g N l8x10 (fun (l303 : List Int) (x304 : Int) (x305 : Int) (l306 : List Int) (x307 : Int) (x308 : Int) (l309 : List Col) (l310 : List Col) => K (.e 0) (([.slv ⟨.u8, l303⟩, .u, .p 0 0 0, .u, .u, .p 2 0 0] : List LV) ++ List.replicate 74 LV.u) ⟨[.cells [.i .i64 x304, .i .i64 x305, .sl 3], .ro ⟨.int, l306⟩, .cells [.i .i64 x307, .i .i64 x308, .sl 4], .arr ⟨.col, l309⟩ 45, .arr ⟨.col, l310⟩ 45], 0⟩) rec (exT .u8 (fr.getD 0 .u)) (exT .int (fr.getD 4 .u)) (exI ((exF (st.L.getD 0 .dead)).getD 0 .u)) (exI ((exF (st.L.getD 0 .dead)).getD 1 .u)) (exA .int (st.L.getD 1 .dead)) (exI ((exF (st.L.getD 2 .dead)).getD 0 .u)) (exI ((exF (st.L.getD 2 .dead)).getD 1 .u)) (exA .col (st.L.getD 3 .dead)) (exA .col (st.L.getD 4 .dead)) = ev (base.with_ [] [EL8x10 N l8x10]) 400 (.code cL8x6) 8 (norL 0 fL8x6 fr) (norS oL8x6 st) (headK base [] [0, 2, 4, 5] [0, 2, 3, 5] 3 fL8x6 oL8x6 (fun fr st => rec (exT .u8 (fr.getD 0 .u)) (exT .int (fr.getD 4 .u)) (exI ((exF (st.L.getD 0 .dead)).getD 0 .u)) (exI ((exF (st.L.getD 0 .dead)).getD 1 .u)) (exA .int (st.L.getD 1 .dead)) (exI ((exF (st.L.getD 2 .dead)).getD 0 .u)) (exI ((exF (st.L.getD 2 .dead)).getD 1 .u)) (exA .col (st.L.getD 3 .dead)) (exA .col (st.L.getD 4 .dead))) K) := by kernel_rfl
theorem EL8x6Ok (N : Nat) : (EL8x6 N (L8x6 N)).OK Try.prog :=
  loop_item base_ok (S := []) (I := [EL8x10 N L8x10]) all_nil (all_cons (EL8x10Ok N) all_nil) 400 [0, 2, 3, 5] (by intro K fr st; kernel_rfl) (fun K n fr st => Eq.trans (by kernel_rfl) (Eq.trans (L8x6Key N L8x10 K (L8x6 N (fun (l303 : List Int) (x304 : Int) (x305 : Int) (l306 : List Int) (x307 : Int) (x308 : Int) (l309 : List Col) (l310 : List Col) => K (.e 0) (([.slv ⟨.u8, l303⟩, .u, .p 0 0 0, .u, .u, .p 2 0 0] : List LV) ++ List.replicate 74 LV.u) ⟨[.cells [.i .i64 x304, .i .i64 x305, .sl 3], .ro ⟨.int, l306⟩, .cells [.i .i64 x307, .i .i64 x308, .sl 4], .arr ⟨.col, l309⟩ 45, .arr ⟨.col, l310⟩ 45], 0⟩) n) fr st) (by kernel_rfl)))

-- bytes.Equal
noncomputable def F25g {α : Type}  (k0 : Bool → Option α) (l321 : List Int) (l322 : List Int) : Option α :=
    k0 (seqS (bytesOf l321) (bytesOf l322))
noncomputable def F25 {α : Type} (k0 : Bool → Option α) (l321 : List Int) (l322 : List Int) : Option α := F25g  k0 l321 l322
noncomputable def EF25 (φ : (Bool → Option Res) → List Int → List Int → Option Res) : SpecE := ⟨25, [.o (.slv .u8), .o (.slv .u8)], fun args K => φ (fun (b323 : Bool) => K (.b b323, [])) (exT .u8 (args.getD 0 .u)) (exT .u8 (args.getD 1 .u))⟩
theorem F25Key (N : Nat)  (args : List LV) (K : Res → Option Res) : (EF25 (F25g )).F args K = ev (base.with_ [] []) 400 (.code (bodyOf Try.f25)) 25 (norL 0 (EF25 (F25g )).ps args ++ List.replicate (Try.f25.ntmps - (norL 0 (EF25 (F25g )).ps args).length) .u) ⟨[], 0⟩ (endK base Try.f25 K) := by kernel_rfl
theorem EF25Ok (N : Nat) : (EF25 F25).OK Try.prog base :=
  fun_item base_ok (S := []) (I := []) all_nil all_nil 400 (EF25 F25) (f := Try.f25) (body := bodyOf Try.f25) (by kernel_rfl) (by kernel_rfl) (fun args K => Eq.trans (by kernel_rfl) (Eq.trans (F25Key N  args K) (by kernel_rfl)))

-- glazier/image.Take
noncomputable def F8g {α : Type} (N : Nat) (f24 : (List Int → Option α) → List Int → Option α) (f6 : (Int → List Int → Option α) → Int → Int → List Col → Option α) (f25 : (Bool → Option α) → List Int → List Int → Option α) (l8x6 : (List Int → Int → Int → List Int → Int → Int → List Col → List Col → Option α) → Nat → List Int → List Int → Int → Int → List Int → Int → Int → List Col → List Col → Option α) (k0 : Int → Int → Int → List Col → Option α) (l188 : List Int) : Option α :=
    f24 (fun (l248 : List Int) =>
        bif decide ((ln l248) < 2) then
          k0 0 0 10 ([] : List Col)
        else
          bif inb 0 l248 then
            bif inb 1 l248 then
              bif insE 2 l248 then
                let v0 := ([] : List Col)
                l8x6 (fun (l311 : List Int) (x312 : Int) (x313 : Int) (l314 : List Int) (x315 : Int) (x316 : Int) (l317 : List Col) (l318 : List Col) =>
                    f6 (fun (x319 : Int) (l320 : List Int) =>
                        bif x319 != 0 then
                          k0 0 0 10 v0
                        else
                          f25 (fun (b324 : Bool) =>
                              bif !b324 then
                                k0 0 0 10 v0
                              else
                                k0 x315 x316 0 l318) l320 l311) x315 x316 l318) N l188 (subE l248 2) 0 0 l248 (rd .int l248 0) (rd .int l248 1) v0 v0
              else none
            else none
          else none) l188
noncomputable def F8 {α : Type} (N : Nat) (k0 : Int → Int → Int → List Col → Option α) (l188 : List Int) : Option α := F8g N (F24 N) (F6 N) F25 (L8x6 N) k0 l188
noncomputable def EF8 (φ : (Int → Int → Int → List Col → Option Res) → List Int → Option Res) : SpecE := ⟨8, [.o (.slv .u8)], fun args K => φ (fun (x249 : Int) (x250 : Int) (x251 : Int) (l252 : List Col) => K (.tu [.ag [.i .i64 x249, .i .i64 x250, .sl 0], .i .i64 x251], [(⟨.col, l252⟩, 45)])) (exT .u8 (args.getD 0 .u))⟩
theorem F8Key (N : Nat) (f24 : (List Int → Option Res) → List Int → Option Res) (f6 : (Int → List Int → Option Res) → Int → Int → List Col → Option Res) (f25 : (Bool → Option Res) → List Int → List Int → Option Res) (l8x6 : (List Int → Int → Int → List Int → Int → Int → List Col → List Col → Option Res) → Nat → List Int → List Int → Int → Int → List Int → Int → Int → List Col → List Col → Option Res) (args : List LV) (K : Res → Option Res) : (EF8 (F8g N f24 f6 f25 l8x6)).F args K = ev (base.with_ [EF24 f24, EF6 f6, EF25 f25] [EL8x6 N l8x6]) 400 (.code (bodyOf Try.f8)) 8 (norL 0 (EF8 (F8g N f24 f6 f25 l8x6)).ps args ++ List.replicate (Try.f8.ntmps - (norL 0 (EF8 (F8g N f24 f6 f25 l8x6)).ps args).length) .u) ⟨[], 0⟩ (endK base Try.f8 K) := by kernel_rfl
theorem EF8Ok (N : Nat) : (EF8 (F8 N)).OK Try.prog base :=
  fun_item base_ok (S := [EF24 (F24 N), EF6 (F6 N), EF25 F25]) (I := [EL8x6 N (L8x6 N)]) (all_cons (EF24Ok N) (all_cons (EF6Ok N) (all_cons (EF25Ok N) all_nil))) (all_cons (EL8x6Ok N) all_nil) 400 (EF8 (F8 N)) (f := Try.f8) (body := bodyOf Try.f8) (by kernel_rfl) (by kernel_rfl) (fun args K => Eq.trans (by kernel_rfl) (Eq.trans (F8Key N (F24 N) (F6 N) F25 (L8x6 N) args K) (by kernel_rfl)))

-- glazier/glazierref03.Take, a loop
noncomputable def cL37x4 : Code := cAt [1, 1, 1, 0, 1, 0, 0] (bodyOf Try.f37)
noncomputable def fL37x4 : List Pat := ([.o (.slv .u8)] : List Pat) ++ List.replicate 4 pu ++ ([.o (.i .u64), .o (.i .u64), .o (.i .i64)] : List Pat) ++ List.replicate 53 pu
noncomputable def oL37x4 : List PatO := []
noncomputable def L37x4g {α : Type} (f35 : (List Int → Option α) → Int → Option α) (k0 : Int → Bool → List Int → Option α) (k1 : Option α) (rec : List Int → Int → Int → Int → Option α) (l334 : List Int) (x335 : Int) (x336 : Int) (x337 : Int) : Option α :=
    bif decide (x337 < (ln l334)) then
      bif decide (x337 < 10) then
        let v0 := inb x337 l334
        bif v0 then
          bif v0 then
            let v1 := rd .u8 l334 x337
            bif decide (v1 < 128) then
              let v2 := wu64 (x335 + (wu64 ((wu64 (Int.tmod v1 128)) * x336)))
              bif (Int.tmod v2 2) == 1 then
                let v3 := wi64 ((wi64 (0 - (wi64 (wu64 (Int.tdiv v2 2))))) - 1)
                f35 (fun (l338 : List Int) =>
                    let v4 := wi64 (x337 + 1)
                    bif insl 0 v4 l334 then
                      bif !(seqS (bytesOf l338) (bytesOf (subL l334 0 v4))) then
                        k0 0 false ([] : List Int)
                      else
                        bif insE v4 l334 then
                          let v5 := subE l334 v4
                          bif room ([] : List Int) v5 then
                            k0 v3 true v5
                          else none
                        else none
                    else none) v3
              else
                let v6 := wi64 (wu64 (Int.tdiv v2 2))
                f35 (fun (l342 : List Int) =>
                    let v7 := wi64 (x337 + 1)
                    bif insl 0 v7 l334 then
                      bif !(seqS (bytesOf l342) (bytesOf (subL l334 0 v7))) then
                        k0 0 false ([] : List Int)
                      else
                        bif insE v7 l334 then
                          let v8 := subE l334 v7
                          bif room ([] : List Int) v8 then
                            k0 v6 true v8
                          else none
                        else none
                    else none) v6
            else
              rec l334 (wu64 (x335 + (wu64 ((wu64 (Int.tmod v1 128)) * x336)))) (wu64 (x336 * 128)) (wi64 (x337 + 1))
          else none
        else none
      else
        k1
    else
      k1
noncomputable def L37x4 {α : Type} (N : Nat) (k0 : Int → Bool → List Int → Option α) (k1 : Option α) : Nat → List Int → Int → Int → Int → Option α
  | 0, _, _, _, _ => none
  | n + 1, l334, x335, x336, x337 => L37x4g (F35 N) k0 k1 (L37x4 N k0 k1 n) l334 x335 x336 x337
noncomputable def EL37x4 (N : Nat) (φ : (Int → Bool → List Int → Option Res) → (Option Res) → Nat → List Int → Int → Int → Int → Option Res) : ItE := loopE base 37 cL37x4 [] [0, 5, 6, 7] fL37x4 oL37x4 0 N (fun K n fr st => φ (fun (x339 : Int) (b340 : Bool) (l341 : List Int) => K .r (([.u, .u, .i .i64 x339, .sl 0, .b b340] : List LV) ++ List.replicate 56 LV.u) ⟨[.arr ⟨.u8, l341⟩ 5], 0⟩) (K (.e 0) (List.replicate 61 LV.u) ⟨[], 0⟩) n (exT .u8 (fr.getD 0 .u)) (exI (fr.getD 5 .u)) (exI (fr.getD 6 .u)) (exI (fr.getD 7 .u)))
theorem L37x4Key (N : Nat) (f35 : (List Int → Option Res) → Int → Option Res) (K : Kont) (rec : List Int → Int → Int → Int → Option Res) (fr : List LV) (st : St) : L37x4g f35 (fun (x339 : Int) (b340 : Bool) (l341 : List Int) => K .r (([.u, .u, .i .i64 x339, .sl 0, .b b340] : List LV) ++ List.replicate 56 LV.u) ⟨[.arr ⟨.u8, l341⟩ 5], 0⟩) (K (.e 0) (List.replicate 61 LV.u) ⟨[], 0⟩) rec (exT .u8 (fr.getD 0 .u)) (exI (fr.getD 5 .u)) (exI (fr.getD 6 .u)) (exI (fr.getD 7 .u)) = ev (base.with_ [EF35 f35] []) 400 (.code cL37x4) 37 (norL 0 fL37x4 fr) (norS oL37x4 st) (headK base [] [0, 5, 6, 7] [2, 3, 4] 0 fL37x4 oL37x4 (fun fr st => rec (exT .u8 (fr.getD 0 .u)) (exI (fr.getD 5 .u)) (exI (fr.getD 6 .u)) (exI (fr.getD 7 .u))) K) := by kernel_rfl
theorem EL37x4Ok (N : Nat) : (EL37x4 N (L37x4 N)).OK Try.prog :=
  loop_item base_ok (S := [EF35 (F35 N)]) (I := []) (all_cons (EF35Ok N) all_nil) all_nil 400 [2, 3, 4] (by intro K fr st; kernel_rfl) (fun K n fr st => Eq.trans (by kernel_rfl) (Eq.trans (L37x4Key N (F35 N) K (L37x4 N (fun (x339 : Int) (b340 : Bool) (l341 : List Int) => K .r (([.u, .u, .i .i64 x339, .sl 0, .b b340] : List LV) ++ List.replicate 56 LV.u) ⟨[.arr ⟨.u8, l341⟩ 5], 0⟩) (K (.e 0) (List.replicate 61 LV.u) ⟨[], 0⟩) n) fr st) (by kernel_rfl)))

-- glazier/glazierref03.Take
noncomputable def F37g {α : Type} (N : Nat) (l37x4 : (Int → Bool → List Int → Option α) → (Option α) → Nat → List Int → Int → Int → Int → Option α) (k0 : Int → Bool → List Int → Option α) (l333 : List Int) : Option α :=
    l37x4 (fun (x343 : Int) (b344 : Bool) (l345 : List Int) =>
        k0 x343 b344 l345) (
        k0 0 false ([] : List Int)) N l333 0 1 0
noncomputable def F37 {α : Type} (N : Nat) (k0 : Int → Bool → List Int → Option α) (l333 : List Int) : Option α := F37g N (L37x4 N) k0 l333
noncomputable def EF37 (φ : (Int → Bool → List Int → Option Res) → List Int → Option Res) : SpecE := ⟨37, [.o (.slv .u8)], fun args K => φ (fun (x346 : Int) (b347 : Bool) (l348 : List Int) => K (.tu [.i .i64 x346, .sl 0, .b b347], [(⟨.u8, l348⟩, 5)])) (exT .u8 (args.getD 0 .u))⟩
theorem F37Key (N : Nat) (l37x4 : (Int → Bool → List Int → Option Res) → (Option Res) → Nat → List Int → Int → Int → Int → Option Res) (args : List LV) (K : Res → Option Res) : (EF37 (F37g N l37x4)).F args K = ev (base.with_ [] [EL37x4 N l37x4]) 400 (.code (bodyOf Try.f37)) 37 (norL 0 (EF37 (F37g N l37x4)).ps args ++ List.replicate (Try.f37.ntmps - (norL 0 (EF37 (F37g N l37x4)).ps args).length) .u) ⟨[], 0⟩ (endK base Try.f37 K) := by kernel_rfl
theorem EF37Ok (N : Nat) : (EF37 (F37 N)).OK Try.prog base :=
  fun_item base_ok (S := []) (I := [EL37x4 N (L37x4 N)]) all_nil (all_cons (EL37x4Ok N) all_nil) 400 (EF37 (F37 N)) (f := Try.f37) (body := bodyOf Try.f37) (by kernel_rfl) (by kernel_rfl) (fun args K => Eq.trans (by kernel_rfl) (Eq.trans (F37Key N (L37x4 N) args K) (by kernel_rfl)))

-- glazier/glazierref03.All, a loop
noncomputable def cL26x2 : Code := cAt [1, 1, 0, 0, 0] (bodyOf Try.f26)
noncomputable def fL26x2 : List Pat := ([.o (.slv .u8)] : List Pat) ++ List.replicate 3 pu ++ ([.o (.sl 1)] : List Pat) ++ List.replicate 22 pu
noncomputable def oL26x2 : List PatO := [.dead, .arr .int 3]
noncomputable def L26x2g {α : Type} (f37 : (Int → Bool → List Int → Option α) → List Int → Option α) (k0 : Bool → List Int → Option α) (k1 : List Int → Option α) (rec : List Int → List Int → Option α) (l354 : List Int) (l355 : List Int) : Option α :=
    bif decide ((ln l354) > 0) then
      f37 (fun (x356 : Int) (b357 : Bool) (l358 : List Int) =>
          bif !b357 then
            k0 true l355
          else
            let v0 := ([x356] : List Int)
            bif room l355 v0 then
              rec l358 (l355 ++ v0)
            else none) l354
    else
      k1 l355
noncomputable def L26x2 {α : Type} (N : Nat) (k0 : Bool → List Int → Option α) (k1 : List Int → Option α) : Nat → List Int → List Int → Option α
  | 0, _, _ => none
  | n + 1, l354, l355 => L26x2g (F37 N) k0 k1 (L26x2 N k0 k1 n) l354 l355
noncomputable def EL26x2 (N : Nat) (φ : (Bool → List Int → Option Res) → (List Int → Option Res) → Nat → List Int → List Int → Option Res) : ItE := loopE base 26 cL26x2 [0] [0, 4] fL26x2 oL26x2 1 N (fun K n fr st => φ (fun (b359 : Bool) (l360 : List Int) => K .r (([.u, .u, .sl 1, .b b359, .sl 1] : List LV) ++ List.replicate 22 LV.u) ⟨[.dead, .arr ⟨.int, l360⟩ 3], 0⟩) (fun (l361 : List Int) => K (.e 0) (List.replicate 4 LV.u ++ ([.sl 1] : List LV) ++ List.replicate 22 LV.u) ⟨[.dead, .arr ⟨.int, l361⟩ 3], 0⟩) n (exT .u8 (fr.getD 0 .u)) (exA .int (st.L.getD 1 .dead)))
theorem L26x2Key (N : Nat) (f37 : (Int → Bool → List Int → Option Res) → List Int → Option Res) (K : Kont) (rec : List Int → List Int → Option Res) (fr : List LV) (st : St) : L26x2g f37 (fun (b359 : Bool) (l360 : List Int) => K .r (([.u, .u, .sl 1, .b b359, .sl 1] : List LV) ++ List.replicate 22 LV.u) ⟨[.dead, .arr ⟨.int, l360⟩ 3], 0⟩) (fun (l361 : List Int) => K (.e 0) (List.replicate 4 LV.u ++ ([.sl 1] : List LV) ++ List.replicate 22 LV.u) ⟨[.dead, .arr ⟨.int, l361⟩ 3], 0⟩) rec (exT .u8 (fr.getD 0 .u)) (exA .int (st.L.getD 1 .dead)) = ev (base.with_ [EF37 f37] []) 400 (.code cL26x2) 26 (norL 0 fL26x2 fr) (norS oL26x2 st) (headK base [0] [0, 4] [2, 3, 4] 1 fL26x2 oL26x2 (fun fr st => rec (exT .u8 (fr.getD 0 .u)) (exA .int (st.L.getD 1 .dead))) K) := by kernel_rfl
theorem EL26x2Ok (N : Nat) : (EL26x2 N (L26x2 N)).OK Try.prog :=
  loop_item base_ok (S := [EF37 (F37 N)]) (I := []) (all_cons (EF37Ok N) all_nil) all_nil 400 [2, 3, 4] (by intro K fr st; kernel_rfl) (fun K n fr st => Eq.trans (by kernel_rfl) (Eq.trans (L26x2Key N (F37 N) K (L26x2 N (fun (b359 : Bool) (l360 : List Int) => K .r (([.u, .u, .sl 1, .b b359, .sl 1] : List LV) ++ List.replicate 22 LV.u) ⟨[.dead, .arr ⟨.int, l360⟩ 3], 0⟩) (fun (l361 : List Int) => K (.e 0) (List.replicate 4 LV.u ++ ([.sl 1] : List LV) ++ List.replicate 22 LV.u) ⟨[.dead, .arr ⟨.int, l361⟩ 3], 0⟩) n) fr st) (by kernel_rfl)))

-- glazier/glazierref03.All
noncomputable def F26g {α : Type} (N : Nat) (l26x2 : (Bool → List Int → Option α) → (List Int → Option α) → Nat → List Int → List Int → Option α) (k0 : Bool → List Int → Option α) (l330 : List Int) : Option α :=
    l26x2 (fun (b362 : Bool) (l363 : List Int) =>
        k0 b362 l363) (fun (l366 : List Int) =>
        k0 false l366) N l330 ([] : List Int)
noncomputable def F26 {α : Type} (N : Nat) (k0 : Bool → List Int → Option α) (l330 : List Int) : Option α := F26g N (L26x2 N) k0 l330
noncomputable def EF26 (φ : (Bool → List Int → Option Res) → List Int → Option Res) : SpecE := ⟨26, [.o (.slv .u8)], fun args K => φ (fun (b364 : Bool) (l365 : List Int) => K (.tu [.sl 0, .b b364], [(⟨.int, l365⟩, 3)])) (exT .u8 (args.getD 0 .u))⟩
theorem F26Key (N : Nat) (l26x2 : (Bool → List Int → Option Res) → (List Int → Option Res) → Nat → List Int → List Int → Option Res) (args : List LV) (K : Res → Option Res) : (EF26 (F26g N l26x2)).F args K = ev (base.with_ [] [EL26x2 N l26x2]) 400 (.code (bodyOf Try.f26)) 26 (norL 0 (EF26 (F26g N l26x2)).ps args ++ List.replicate (Try.f26.ntmps - (norL 0 (EF26 (F26g N l26x2)).ps args).length) .u) ⟨[], 0⟩ (endK base Try.f26 K) := by kernel_rfl
theorem EF26Ok (N : Nat) : (EF26 (F26 N)).OK Try.prog base :=
  fun_item base_ok (S := []) (I := [EL26x2 N (L26x2 N)]) all_nil (all_cons (EL26x2Ok N) all_nil) 400 (EF26 (F26 N)) (f := Try.f26) (body := bodyOf Try.f26) (by kernel_rfl) (by kernel_rfl) (fun args K => Eq.trans (by kernel_rfl) (Eq.trans (F26Key N (L26x2 N) args K) (by kernel_rfl)))

-- glazier/glazierref24.Take, a loop
noncomputable def cL9x9 : Code := cAt [1, 1, 1, 1, 0, 1, 0, 0, 1, 0, 0, 1, 0, 0] (bodyOf Try.f9)
noncomputable def fL9x9 : List Pat := ([.o (.slv .u8), pu, .o (.p 0 0 0), pu, .o (.sl 6), pu, .o (.p 2 0 0), .o (.i .i64), .o (.i .i64)] : List Pat) ++ List.replicate 85 pu
noncomputable def oL9x9 : List PatO := [.cells [.o (.i .i64), .o (.i .i64), .o (.sl 7)], .dead, .cells [.o (.i .i64), .o (.i .i64), .o (.sl 8)], .dead, .dead, .dead, .arr .int 3, .arr .col 45, .arr .col 45]
noncomputable def L9x9g {α : Type}  (k0 : List Int → Int → Int → Int → Int → Int → List Int → List Col → List Col → Option α) (rec : List Int → Int → Int → Int → Int → Int → Int → List Int → List Col → List Col → Option α) (l382 : List Int) (x383 : Int) (x384 : Int) (x385 : Int) (x386 : Int) (x387 : Int) (x388 : Int) (l389 : List Int) (l390 : List Col) (l391 : List Col) : Option α :=
    bif inb x383 l389 then
      bif decide (x384 < (rd .int l389 x383)) then
        bif decide ((ln l391) < 4097) then
          let v0 := wi64 (x383 + 1)
          bif inb v0 l389 then
            let v1 := wi64 (x383 + 2)
            bif inb v1 l389 then
              let v2 := wi64 (x383 + 3)
              bif inb v2 l389 then
                let v3 := wi64 (x383 + 4)
                bif inb v3 l389 then
                  let v4 := ([(⟨wu8 (rd .int l389 v0), wu8 (rd .int l389 v1), wu8 (rd .int l389 v2), wu8 (rd .int l389 v3)⟩ : Col)] : List Col)
                  bif room l391 v4 then
                    rec l382 x383 (wi64 (x384 + 1)) x385 x386 x387 x388 l389 l390 (l391 ++ v4)
                  else none
                else none
              else none
            else none
          else none
        else
          k0 l382 x383 x385 x386 x387 x388 l389 l390 l391
      else
        k0 l382 x383 x385 x386 x387 x388 l389 l390 l391
    else none
noncomputable def L9x9 {α : Type} (k0 : List Int → Int → Int → Int → Int → Int → List Int → List Col → List Col → Option α) : Nat → List Int → Int → Int → Int → Int → Int → Int → List Int → List Col → List Col → Option α
  | 0, _, _, _, _, _, _, _, _, _, _ => none
  | n + 1, l382, x383, x384, x385, x386, x387, x388, l389, l390, l391 => L9x9g  k0 (L9x9 k0 n) l382 x383 x384 x385 x386 x387 x388 l389 l390 l391
noncomputable def EL9x9 (N : Nat) (φ : (List Int → Int → Int → Int → Int → Int → List Int → List Col → List Col → Option Res) → Nat → List Int → Int → Int → Int → Int → Int → Int → List Int → List Col → List Col → Option Res) : ItE := loopE base 9 cL9x9 [] [0, 2, 4, 6, 7, 8] fL9x9 oL9x9 6 N (fun K n fr st => φ (fun (l392 : List Int) (x393 : Int) (x394 : Int) (x395 : Int) (x396 : Int) (x397 : Int) (l398 : List Int) (l399 : List Col) (l400 : List Col) => K (.e 2) (([.slv ⟨.u8, l392⟩, .u, .p 0 0 0, .u, .sl 6, .u, .p 2 0 0, .i .i64 x393] : List LV) ++ List.replicate 86 LV.u) ⟨[.cells [.i .i64 x394, .i .i64 x395, .sl 7], .dead, .cells [.i .i64 x396, .i .i64 x397, .sl 8], .dead, .dead, .dead, .arr ⟨.int, l398⟩ 3, .arr ⟨.col, l399⟩ 45, .arr ⟨.col, l400⟩ 45], 0⟩) n (exT .u8 (fr.getD 0 .u)) (exI (fr.getD 7 .u)) (exI (fr.getD 8 .u)) (exI ((exF (st.L.getD 0 .dead)).getD 0 .u)) (exI ((exF (st.L.getD 0 .dead)).getD 1 .u)) (exI ((exF (st.L.getD 2 .dead)).getD 0 .u)) (exI ((exF (st.L.getD 2 .dead)).getD 1 .u)) (exA .int (st.L.getD 6 .dead)) (exA .col (st.L.getD 7 .dead)) (exA .col (st.L.getD 8 .dead)))
theorem L9x9Key (N : Nat)  (K : Kont) (rec : List Int → Int → Int → Int → Int → Int → Int → List Int → List Col → List Col → Option Res) (fr : List LV) (st : St) : L9x9g  (fun (l392 : List Int) (x393 : Int) (x394 : Int) (x395 : Int) (x396 : Int) (x397 : Int) (l398 : List Int) (l399 : List Col) (l400 : List Col) => K (.e 2) (([.slv ⟨.u8, l392⟩, .u, .p 0 0 0, .u, .sl 6, .u, .p 2 0 0, .i .i64 x393] : List LV) ++ List.replicate 86 LV.u) ⟨[.cells [.i .i64 x394, .i .i64 x395, .sl 7], .dead, .cells [.i .i64 x396, .i .i64 x397, .sl 8], .dead, .dead, .dead, .arr ⟨.int, l398⟩ 3, .arr ⟨.col, l399⟩ 45, .arr ⟨.col, l400⟩ 45], 0⟩) rec (exT .u8 (fr.getD 0 .u)) (exI (fr.getD 7 .u)) (exI (fr.getD 8 .u)) (exI ((exF (st.L.getD 0 .dead)).getD 0 .u)) (exI ((exF (st.L.getD 0 .dead)).getD 1 .u)) (exI ((exF (st.L.getD 2 .dead)).getD 0 .u)) (exI ((exF (st.L.getD 2 .dead)).getD 1 .u)) (exA .int (st.L.getD 6 .dead)) (exA .col (st.L.getD 7 .dead)) (exA .col (st.L.getD 8 .dead)) = ev (base.with_ [] []) 400 (.code cL9x9) 9 (norL 0 fL9x9 fr) (norS oL9x9 st) (headK base [] [0, 2, 4, 6, 7, 8] [0, 2, 3, 4, 6, 7] 6 fL9x9 oL9x9 (fun fr st => rec (exT .u8 (fr.getD 0 .u)) (exI (fr.getD 7 .u)) (exI (fr.getD 8 .u)) (exI ((exF (st.L.getD 0 .dead)).getD 0 .u)) (exI ((exF (st.L.getD 0 .dead)).getD 1 .u)) (exI ((exF (st.L.getD 2 .dead)).getD 0 .u)) (exI ((exF (st.L.getD 2 .dead)).getD 1 .u)) (exA .int (st.L.getD 6 .dead)) (exA .col (st.L.getD 7 .dead)) (exA .col (st.L.getD 8 .dead))) K) := by kernel_rfl
theorem EL9x9Ok (N : Nat) : (EL9x9 N L9x9).OK Try.prog :=
  loop_item base_ok (S := []) (I := []) all_nil all_nil 400 [0, 2, 3, 4, 6, 7] (by intro K fr st; kernel_rfl) (fun K n fr st => Eq.trans (by kernel_rfl) (Eq.trans (L9x9Key N  K (L9x9 (fun (l392 : List Int) (x393 : Int) (x394 : Int) (x395 : Int) (x396 : Int) (x397 : Int) (l398 : List Int) (l399 : List Col) (l400 : List Col) => K (.e 2) (([.slv ⟨.u8, l392⟩, .u, .p 0 0 0, .u, .sl 6, .u, .p 2 0 0, .i .i64 x393] : List LV) ++ List.replicate 86 LV.u) ⟨[.cells [.i .i64 x394, .i .i64 x395, .sl 7], .dead, .cells [.i .i64 x396, .i .i64 x397, .sl 8], .dead, .dead, .dead, .arr ⟨.int, l398⟩ 3, .arr ⟨.col, l399⟩ 45, .arr ⟨.col, l400⟩ 45], 0⟩) n) fr st) (by kernel_rfl)))

-- glazier/glazierref24.Take, a loop
noncomputable def cL9x6 : Code := cAt [1, 1, 1, 1, 0, 1, 0, 0] (bodyOf Try.f9)
noncomputable def fL9x6 : List Pat := ([.o (.slv .u8), pu, .o (.p 0 0 0), pu, .o (.sl 3), pu, .o (.p 2 0 0), .o (.i .i64)] : List Pat) ++ List.replicate 86 pu
noncomputable def oL9x6 : List PatO := [.cells [.o (.i .i64), .o (.i .i64), .o (.sl 4)], .dead, .cells [.o (.i .i64), .o (.i .i64), .o (.sl 5)], .arr .int 3, .arr .col 45, .arr .col 45]
noncomputable def L9x6g {α : Type} (N : Nat) (l9x9 : (List Int → Int → Int → Int → Int → Int → List Int → List Col → List Col → Option α) → Nat → List Int → Int → Int → Int → Int → Int → Int → List Int → List Col → List Col → Option α) (k0 : List Int → Int → Int → Int → Int → List Col → List Col → Option α) (rec : List Int → Int → Int → Int → Int → Int → List Int → List Col → List Col → Option α) (l373 : List Int) (x374 : Int) (x375 : Int) (x376 : Int) (x377 : Int) (x378 : Int) (l379 : List Int) (l380 : List Col) (l381 : List Col) : Option α :=
    bif decide ((wi64 (x374 + 5)) ≤ (ln l379)) then
      l9x9 (fun (l401 : List Int) (x402 : Int) (x403 : Int) (x404 : Int) (x405 : Int) (x406 : Int) (l407 : List Int) (l408 : List Col) (l409 : List Col) =>
          rec l401 (wi64 (x402 + 5)) x403 x404 x405 x406 l407 l408 l409) N l373 x374 0 x375 x376 x377 x378 l379 l380 l381
    else
      k0 l373 x375 x376 x377 x378 l380 l381
noncomputable def L9x6 {α : Type} (N : Nat) (k0 : List Int → Int → Int → Int → Int → List Col → List Col → Option α) : Nat → List Int → Int → Int → Int → Int → Int → List Int → List Col → List Col → Option α
  | 0, _, _, _, _, _, _, _, _, _ => none
  | n + 1, l373, x374, x375, x376, x377, x378, l379, l380, l381 => L9x6g N L9x9 k0 (L9x6 N k0 n) l373 x374 x375 x376 x377 x378 l379 l380 l381
noncomputable def EL9x6 (N : Nat) (φ : (List Int → Int → Int → Int → Int → List Col → List Col → Option Res) → Nat → List Int → Int → Int → Int → Int → Int → List Int → List Col → List Col → Option Res) : ItE := loopE base 9 cL9x6 [] [0, 2, 4, 6, 7] fL9x6 oL9x6 3 N (fun K n fr st => φ (fun (l410 : List Int) (x411 : Int) (x412 : Int) (x413 : Int) (x414 : Int) (l415 : List Col) (l416 : List Col) => K (.e 0) (([.slv ⟨.u8, l410⟩, .u, .p 0 0 0] : List LV) ++ List.replicate 3 LV.u ++ ([.p 2 0 0] : List LV) ++ List.replicate 87 LV.u) ⟨[.cells [.i .i64 x411, .i .i64 x412, .sl 3], .dead, .cells [.i .i64 x413, .i .i64 x414, .sl 4], .arr ⟨.col, l415⟩ 45, .arr ⟨.col, l416⟩ 45], 0⟩) n (exT .u8 (fr.getD 0 .u)) (exI (fr.getD 7 .u)) (exI ((exF (st.L.getD 0 .dead)).getD 0 .u)) (exI ((exF (st.L.getD 0 .dead)).getD 1 .u)) (exI ((exF (st.L.getD 2 .dead)).getD 0 .u)) (exI ((exF (st.L.getD 2 .dead)).getD 1 .u)) (exA .int (st.L.getD 3 .dead)) (exA .col (st.L.getD 4 .dead)) (exA .col (st.L.getD 5 .dead)))
theorem L9x6Key (N : Nat) (l9x9 : (List Int → Int → Int → Int → Int → Int → List Int → List Col → List Col → Option Res) → Nat → List Int → Int → Int → Int → Int → Int → Int → List Int → List Col → List Col → Option Res) (K : Kont) (rec : List Int → Int → Int → Int → Int → Int → List Int → List Col → List Col → Option Res) (fr : List LV) (st : St) : L9x6g N l9x9 (fun (l410 : List Int) (x411 : Int) (x412 : Int) (x413 : Int) (x414 : Int) (l415 : List Col) (l416 : List Col) => K (.e 0) (([.slv ⟨.u8, l410⟩, .u, .p 0 0 0] : List LV) ++ List.replicate 3 LV.u ++ ([.p 2 0 0] : List LV) ++ List.replicate 87 LV.u) ⟨[.cells [.i .i64 x411, .i .i64 x412, .sl 3], .dead, .cells [.i .i64 x413, .i .i64 x414, .sl 4], .arr ⟨.col, l415⟩ 45, .arr ⟨.col, l416⟩ 45], 0⟩) rec (exT .u8 (fr.getD 0 .u)) (exI (fr.getD 7 .u)) (exI ((exF (st.L.getD 0 .dead)).getD 0 .u)) (exI ((exF (st.L.getD 0 .dead)).getD 1 .u)) (exI ((exF (st.L.getD 2 .dead)).getD 0 .u)) (exI ((exF (st.L.getD 2 .dead)).getD 1 .u)) (exA .int (st.L.getD 3 .dead)) (exA .col (st.L.getD 4 .dead)) (exA .col (st.L.getD 5 .dead)) = ev (base.with_ [] [EL9x9 N l9x9]) 400 (.code cL9x6) 9 (norL 0 fL9x6 fr) (norS oL9x6 st) (headK base [] [0, 2, 4, 6, 7] [0, 2, 3, 6] 3 fL9x6 oL9x6 (fun fr st => rec (exT .u8 (fr.getD 0 .u)) (exI (fr.getD 7 .u)) (exI ((exF (st.L.getD 0 .dead)).getD 0 .u)) (exI ((exF (st.L.getD 0 .dead)).getD 1 .u)) (exI ((exF (st.L.getD 2 .dead)).getD 0 .u)) (exI ((exF (st.L.getD 2 .dead)).getD 1 .u)) (exA .int (st.L.getD 3 .dead)) (exA .col (st.L.getD 4 .dead)) (exA .col (st.L.getD 5 .dead))) K) := by kernel_rfl
theorem EL9x6Ok (N : Nat) : (EL9x6 N (L9x6 N)).OK Try.prog :=
  loop_item base_ok (S := []) (I := [EL9x9 N L9x9]) all_nil (all_cons (EL9x9Ok N) all_nil) 400 [0, 2, 3, 6] (by intro K fr st; kernel_rfl) (fun K n fr st => Eq.trans (by kernel_rfl) (Eq.trans (L9x6Key N L9x9 K (L9x6 N (fun (l410 : List Int) (x411 : Int) (x412 : Int) (x413 : Int) (x414 : Int) (l415 : List Col) (l416 : List Col) => K (.e 0) (([.slv ⟨.u8, l410⟩, .u, .p 0 0 0] : List LV) ++ List.replicate 3 LV.u ++ ([.p 2 0 0] : List LV) ++ List.replicate 87 LV.u) ⟨[.cells [.i .i64 x411, .i .i64 x412, .sl 3], .dead, .cells [.i .i64 x413, .i .i64 x414, .sl 4], .arr ⟨.col, l415⟩ 45, .arr ⟨.col, l416⟩ 45], 0⟩) n) fr st) (by kernel_rfl)))

-- glazier/glazierref24.Take
noncomputable def F9g {α : Type} (N : Nat) (f26 : (Bool → List Int → Option α) → List Int → Option α) (f7 : (Int → List Int → Option α) → Int → Int → List Col → Option α) (l9x6 : (List Int → Int → Int → Int → Int → List Col → List Col → Option α) → Nat → List Int → Int → Int → Int → Int → Int → List Int → List Col → List Col → Option α) (k0 : Int → Int → Int → List Col → Option α) (l329 : List Int) : Option α :=
    f26 (fun (b367 : Bool) (l368 : List Int) =>
        bif decide ((ln l368) < 2) then
          k0 0 0 10 ([] : List Col)
        else
          bif inb 0 l368 then
            bif inb 1 l368 then
              let v0 := ([] : List Col)
              l9x6 (fun (l417 : List Int) (x418 : Int) (x419 : Int) (x420 : Int) (x421 : Int) (l422 : List Col) (l423 : List Col) =>
                  f7 (fun (x424 : Int) (l425 : List Int) =>
                      bif x424 != 0 then
                        k0 0 0 10 v0
                      else
                        bif !(seqS (bytesOf l425) (bytesOf l417)) then
                          k0 0 0 10 v0
                        else
                          k0 x420 x421 0 l423) x420 x421 l423) N l329 2 0 0 (rd .int l368 0) (rd .int l368 1) l368 v0 v0
            else none
          else none) l329
noncomputable def F9 {α : Type} (N : Nat) (k0 : Int → Int → Int → List Col → Option α) (l329 : List Int) : Option α := F9g N (F26 N) (F7 N) (L9x6 N) k0 l329
noncomputable def EF9 (φ : (Int → Int → Int → List Col → Option Res) → List Int → Option Res) : SpecE := ⟨9, [.o (.slv .u8)], fun args K => φ (fun (x369 : Int) (x370 : Int) (x371 : Int) (l372 : List Col) => K (.tu [.ag [.i .i64 x369, .i .i64 x370, .sl 0], .i .i64 x371], [(⟨.col, l372⟩, 45)])) (exT .u8 (args.getD 0 .u))⟩
theorem F9Key (N : Nat) (f26 : (Bool → List Int → Option Res) → List Int → Option Res) (f7 : (Int → List Int → Option Res) → Int → Int → List Col → Option Res) (l9x6 : (List Int → Int → Int → Int → Int → List Col → List Col → Option Res) → Nat → List Int → Int → Int → Int → Int → Int → List Int → List Col → List Col → Option Res) (args : List LV) (K : Res → Option Res) : (EF9 (F9g N f26 f7 l9x6)).F args K = ev (base.with_ [EF26 f26, EF7 f7] [EL9x6 N l9x6]) 400 (.code (bodyOf Try.f9)) 9 (norL 0 (EF9 (F9g N f26 f7 l9x6)).ps args ++ List.replicate (Try.f9.ntmps - (norL 0 (EF9 (F9g N f26 f7 l9x6)).ps args).length) .u) ⟨[], 0⟩ (endK base Try.f9 K) := by kernel_rfl
theorem EF9Ok (N : Nat) : (EF9 (F9 N)).OK Try.prog base :=
  fun_item base_ok (S := [EF26 (F26 N), EF7 (F7 N)]) (I := [EL9x6 N (L9x6 N)]) (all_cons (EF26Ok N) (all_cons (EF7Ok N) all_nil)) (all_cons (EL9x6Ok N) all_nil) 400 (EF9 (F9 N)) (f := Try.f9) (body := bodyOf Try.f9) (by kernel_rfl) (by kernel_rfl) (fun args K => Eq.trans (by kernel_rfl) (Eq.trans (F9Key N (F26 N) (F7 N) (L9x6 N) args K) (by kernel_rfl)))

-- glazier/glazierref02.Same, a loop
noncomputable def cL10x4 : Code := cAt [1, 1, 0, 1, 0, 0] (bodyOf Try.f10)
noncomputable def fL10x4 : List Pat := ([.o (.slv .col), .o (.slv .col)] : List Pat) ++ List.replicate 3 pu ++ ([.o (.i .i64)] : List Pat) ++ List.replicate 20 pu
noncomputable def oL10x4 : List PatO := []
noncomputable def L10x4g {α : Type}  (k0 : Bool → Option α) (k1 : Option α) (rec : List Col → List Col → Int → Option α) (l433 : List Col) (l434 : List Col) (x435 : Int) : Option α :=
    bif decide (x435 < (ln l433)) then
      bif inb x435 l433 then
        bif inb x435 l434 then
          let v0 := rd .col l433 x435
          let v1 := rd .col l434 x435
          bif !((v0.r == v1.r) && ((v0.g == v1.g) && ((v0.b == v1.b) && ((v0.a == v1.a) && true)))) then
            k0 false
          else
            rec l433 l434 (wi64 (x435 + 1))
        else none
      else none
    else
      k1
noncomputable def L10x4 {α : Type} (k0 : Bool → Option α) (k1 : Option α) : Nat → List Col → List Col → Int → Option α
  | 0, _, _, _ => none
  | n + 1, l433, l434, x435 => L10x4g  k0 k1 (L10x4 k0 k1 n) l433 l434 x435
noncomputable def EL10x4 (N : Nat) (φ : (Bool → Option Res) → (Option Res) → Nat → List Col → List Col → Int → Option Res) : ItE := loopE base 10 cL10x4 [] [0, 1, 5] fL10x4 oL10x4 0 N (fun K n fr st => φ (fun (b436 : Bool) => K .r (List.replicate 4 LV.u ++ ([.b b436] : List LV) ++ List.replicate 21 LV.u) ⟨[], 0⟩) (K (.e 0) (List.replicate 26 LV.u) ⟨[], 0⟩) n (exT .col (fr.getD 0 .u)) (exT .col (fr.getD 1 .u)) (exI (fr.getD 5 .u)))
theorem L10x4Key (N : Nat)  (K : Kont) (rec : List Col → List Col → Int → Option Res) (fr : List LV) (st : St) : L10x4g  (fun (b436 : Bool) => K .r (List.replicate 4 LV.u ++ ([.b b436] : List LV) ++ List.replicate 21 LV.u) ⟨[], 0⟩) (K (.e 0) (List.replicate 26 LV.u) ⟨[], 0⟩) rec (exT .col (fr.getD 0 .u)) (exT .col (fr.getD 1 .u)) (exI (fr.getD 5 .u)) = ev (base.with_ [] []) 400 (.code cL10x4) 10 (norL 0 fL10x4 fr) (norS oL10x4 st) (headK base [] [0, 1, 5] [4] 0 fL10x4 oL10x4 (fun fr st => rec (exT .col (fr.getD 0 .u)) (exT .col (fr.getD 1 .u)) (exI (fr.getD 5 .u))) K) := by kernel_rfl
theorem EL10x4Ok (N : Nat) : (EL10x4 N L10x4).OK Try.prog :=
  loop_item base_ok (S := []) (I := []) all_nil all_nil 400 [4] (by intro K fr st; kernel_rfl) (fun K n fr st => Eq.trans (by kernel_rfl) (Eq.trans (L10x4Key N  K (L10x4 (fun (b436 : Bool) => K .r (List.replicate 4 LV.u ++ ([.b b436] : List LV) ++ List.replicate 21 LV.u) ⟨[], 0⟩) (K (.e 0) (List.replicate 26 LV.u) ⟨[], 0⟩) n) fr st) (by kernel_rfl)))

-- glazier/glazierref02.Same
noncomputable def F10g {α : Type} (N : Nat) (l10x4 : (Bool → Option α) → (Option α) → Nat → List Col → List Col → Int → Option α) (k0 : Bool → Option α) (l430 : List Col) (l431 : List Col) : Option α :=
    bif (ln l430) != (ln l431) then
      k0 false
    else
      l10x4 (fun (b437 : Bool) =>
          k0 b437) (
          k0 true) N l430 l431 0
noncomputable def F10 {α : Type} (N : Nat) (k0 : Bool → Option α) (l430 : List Col) (l431 : List Col) : Option α := F10g N L10x4 k0 l430 l431
noncomputable def EF10 (φ : (Bool → Option Res) → List Col → List Col → Option Res) : SpecE := ⟨10, [.o (.slv .col), .o (.slv .col)], fun args K => φ (fun (b432 : Bool) => K (.b b432, [])) (exT .col (args.getD 0 .u)) (exT .col (args.getD 1 .u))⟩
theorem F10Key (N : Nat) (l10x4 : (Bool → Option Res) → (Option Res) → Nat → List Col → List Col → Int → Option Res) (args : List LV) (K : Res → Option Res) : (EF10 (F10g N l10x4)).F args K = ev (base.with_ [] [EL10x4 N l10x4]) 400 (.code (bodyOf Try.f10)) 10 (norL 0 (EF10 (F10g N l10x4)).ps args ++ List.replicate (Try.f10.ntmps - (norL 0 (EF10 (F10g N l10x4)).ps args).length) .u) ⟨[], 0⟩ (endK base Try.f10 K) := by kernel_rfl
theorem EF10Ok (N : Nat) : (EF10 (F10 N)).OK Try.prog base :=
  fun_item base_ok (S := []) (I := [EL10x4 N L10x4]) all_nil (all_cons (EL10x4Ok N) all_nil) 400 (EF10 (F10 N)) (f := Try.f10) (body := bodyOf Try.f10) (by kernel_rfl) (by kernel_rfl) (fun args K => Eq.trans (by kernel_rfl) (Eq.trans (F10Key N L10x4 args K) (by kernel_rfl)))

-- glazier/image.Runs$1, a loop
noncomputable def cL34x3b : Code := cAt [1, 0, 0, 1, 0, 0, 0, 0, 0] (bodyOf Try.f34)
noncomputable def fL34x3b : List Pat := ([.o (.yl 14), .o (.p 9 0 0), pu, .o (.i .i64), .o (.i .i64)] : List Pat) ++ List.replicate 32 pu
noncomputable def oL34x3b : List PatO := [.cells [.o (.slv .col)], .cells [.o (.i .i64)], .cells [.o (.sl 19)], .cells [.o (.sl 20)], .cells [.o (.b)], .dead, .cells [.o (.sl 21)], .dead, .cells [.o (.sl 22)], .cells [.o (.slv .col)], .dead, .dead, .dead, .dead, .loop (([pu, pu, .o (.p 0 0 0), .o (.p 1 0 0), .o (.p 2 0 0), .o (.p 3 0 0), .o (.p 4 0 0), .o (.p 6 0 0), .o (.p 8 0 0)] : List Pat) ++ List.replicate 9 pu ++ ([.fn 34 [.p 9 0 0]] : List Pat) ++ List.replicate 21 pu) [19, 20] (cAt [1, 1, 1, 1, 1, 0, 1, 0, 0] (bodyOf Try.f11)) (cAt [1, 1, 1, 1, 1, 0, 1, 0, 1] (bodyOf Try.f11)) 11 .ready, .dead, .dead, .dead, .dead, .arr .int 3, .arr .col 45, .arr .int 3, .arr .col 45]
noncomputable def L34x3bg {α : Type}  (k0 : Int → Int → List Col → Int → Bool → List Col → List Int → List Col → List Int → List Col → Option α) (rec : Int → Int → List Col → Int → Bool → List Col → List Int → List Col → List Int → List Col → Option α) (x459 : Int) (x460 : Int) (l461 : List Col) (x462 : Int) (b463 : Bool) (l464 : List Col) (l465 : List Int) (l466 : List Col) (l467 : List Int) (l468 : List Col) : Option α :=
    bif decide (x460 < (ln l464)) then
      bif inb x460 l464 then
        bif inb x459 l464 then
          let v0 := rd .col l464 x460
          let v1 := rd .col l464 x459
          bif (v0.r == v1.r) && ((v0.g == v1.g) && ((v0.b == v1.b) && ((v0.a == v1.a) && true))) then
            rec x459 (wi64 (x460 + 1)) l461 x462 b463 l464 l465 l466 l467 l468
          else
            k0 x459 x460 l461 x462 b463 l464 l465 l466 l467 l468
        else none
      else none
    else
      k0 x459 x460 l461 x462 b463 l464 l465 l466 l467 l468
noncomputable def L34x3b {α : Type} (k0 : Int → Int → List Col → Int → Bool → List Col → List Int → List Col → List Int → List Col → Option α) : Nat → Int → Int → List Col → Int → Bool → List Col → List Int → List Col → List Int → List Col → Option α
  | 0, _, _, _, _, _, _, _, _, _, _ => none
  | n + 1, x459, x460, l461, x462, b463, l464, l465, l466, l467, l468 => L34x3bg  k0 (L34x3b k0 n) x459 x460 l461 x462 b463 l464 l465 l466 l467 l468
noncomputable def EL34x3b (N : Nat) (φ : (Int → Int → List Col → Int → Bool → List Col → List Int → List Col → List Int → List Col → Option Res) → Nat → Int → Int → List Col → Int → Bool → List Col → List Int → List Col → List Int → List Col → Option Res) : ItE := loopE base 34 cL34x3b [] [0, 1, 3, 4] fL34x3b oL34x3b 19 N (fun K n fr st => φ (fun (x469 : Int) (x470 : Int) (l471 : List Col) (x472 : Int) (b473 : Bool) (l474 : List Col) (l475 : List Int) (l476 : List Col) (l477 : List Int) (l478 : List Col) => K (.e 2) (([.yl 14, .p 9 0 0, .u, .i .i64 x469, .i .i64 x470] : List LV) ++ List.replicate 32 LV.u) ⟨[.cells [.slv ⟨.col, l471⟩], .cells [.i .i64 x472], .cells [.sl 19], .cells [.sl 20], .cells [.b b473], .dead, .cells [.sl 21], .dead, .cells [.sl 22], .cells [.slv ⟨.col, l474⟩], .dead, .dead, .dead, .dead, .loop (([.u, .u, .p 0 0 0, .p 1 0 0, .p 2 0 0, .p 3 0 0, .p 4 0 0, .p 6 0 0, .p 8 0 0] : List LV) ++ List.replicate 9 LV.u ++ ([.fn 34 [.p 9 0 0]] : List LV) ++ List.replicate 21 LV.u) [19, 20] (cAt [1, 1, 1, 1, 1, 0, 1, 0, 0] (bodyOf Try.f11)) (cAt [1, 1, 1, 1, 1, 0, 1, 0, 1] (bodyOf Try.f11)) 11 none .ready, .dead, .dead, .dead, .dead, .arr ⟨.int, l475⟩ 3, .arr ⟨.col, l476⟩ 45, .arr ⟨.int, l477⟩ 3, .arr ⟨.col, l478⟩ 45], 0⟩) n (exI (fr.getD 3 .u)) (exI (fr.getD 4 .u)) (exT .col ((exF (st.L.getD 0 .dead)).getD 0 .u)) (exI ((exF (st.L.getD 1 .dead)).getD 0 .u)) (exB ((exF (st.L.getD 4 .dead)).getD 0 .u)) (exT .col ((exF (st.L.getD 9 .dead)).getD 0 .u)) (exA .int (st.L.getD 19 .dead)) (exA .col (st.L.getD 20 .dead)) (exA .int (st.L.getD 21 .dead)) (exA .col (st.L.getD 22 .dead)))
theorem L34x3bKey (N : Nat)  (K : Kont) (rec : Int → Int → List Col → Int → Bool → List Col → List Int → List Col → List Int → List Col → Option Res) (fr : List LV) (st : St) : L34x3bg  (fun (x469 : Int) (x470 : Int) (l471 : List Col) (x472 : Int) (b473 : Bool) (l474 : List Col) (l475 : List Int) (l476 : List Col) (l477 : List Int) (l478 : List Col) => K (.e 2) (([.yl 14, .p 9 0 0, .u, .i .i64 x469, .i .i64 x470] : List LV) ++ List.replicate 32 LV.u) ⟨[.cells [.slv ⟨.col, l471⟩], .cells [.i .i64 x472], .cells [.sl 19], .cells [.sl 20], .cells [.b b473], .dead, .cells [.sl 21], .dead, .cells [.sl 22], .cells [.slv ⟨.col, l474⟩], .dead, .dead, .dead, .dead, .loop (([.u, .u, .p 0 0 0, .p 1 0 0, .p 2 0 0, .p 3 0 0, .p 4 0 0, .p 6 0 0, .p 8 0 0] : List LV) ++ List.replicate 9 LV.u ++ ([.fn 34 [.p 9 0 0]] : List LV) ++ List.replicate 21 LV.u) [19, 20] (cAt [1, 1, 1, 1, 1, 0, 1, 0, 0] (bodyOf Try.f11)) (cAt [1, 1, 1, 1, 1, 0, 1, 0, 1] (bodyOf Try.f11)) 11 none .ready, .dead, .dead, .dead, .dead, .arr ⟨.int, l475⟩ 3, .arr ⟨.col, l476⟩ 45, .arr ⟨.int, l477⟩ 3, .arr ⟨.col, l478⟩ 45], 0⟩) rec (exI (fr.getD 3 .u)) (exI (fr.getD 4 .u)) (exT .col ((exF (st.L.getD 0 .dead)).getD 0 .u)) (exI ((exF (st.L.getD 1 .dead)).getD 0 .u)) (exB ((exF (st.L.getD 4 .dead)).getD 0 .u)) (exT .col ((exF (st.L.getD 9 .dead)).getD 0 .u)) (exA .int (st.L.getD 19 .dead)) (exA .col (st.L.getD 20 .dead)) (exA .int (st.L.getD 21 .dead)) (exA .col (st.L.getD 22 .dead)) = ev (base.with_ [] []) 400 (.code cL34x3b) 34 (norL 0 fL34x3b fr) (norS oL34x3b st) (headK base [] [0, 1, 3, 4] [0, 1, 3, 4] 19 fL34x3b oL34x3b (fun fr st => rec (exI (fr.getD 3 .u)) (exI (fr.getD 4 .u)) (exT .col ((exF (st.L.getD 0 .dead)).getD 0 .u)) (exI ((exF (st.L.getD 1 .dead)).getD 0 .u)) (exB ((exF (st.L.getD 4 .dead)).getD 0 .u)) (exT .col ((exF (st.L.getD 9 .dead)).getD 0 .u)) (exA .int (st.L.getD 19 .dead)) (exA .col (st.L.getD 20 .dead)) (exA .int (st.L.getD 21 .dead)) (exA .col (st.L.getD 22 .dead))) K) := by kernel_rfl
theorem EL34x3bOk (N : Nat) : (EL34x3b N L34x3b).OK Try.prog :=
  loop_item base_ok (S := []) (I := []) all_nil all_nil 400 [0, 1, 3, 4] (by intro K fr st; kernel_rfl) (fun K n fr st => Eq.trans (by kernel_rfl) (Eq.trans (L34x3bKey N  K (L34x3b (fun (x469 : Int) (x470 : Int) (l471 : List Col) (x472 : Int) (b473 : Bool) (l474 : List Col) (l475 : List Int) (l476 : List Col) (l477 : List Int) (l478 : List Col) => K (.e 2) (([.yl 14, .p 9 0 0, .u, .i .i64 x469, .i .i64 x470] : List LV) ++ List.replicate 32 LV.u) ⟨[.cells [.slv ⟨.col, l471⟩], .cells [.i .i64 x472], .cells [.sl 19], .cells [.sl 20], .cells [.b b473], .dead, .cells [.sl 21], .dead, .cells [.sl 22], .cells [.slv ⟨.col, l474⟩], .dead, .dead, .dead, .dead, .loop (([.u, .u, .p 0 0 0, .p 1 0 0, .p 2 0 0, .p 3 0 0, .p 4 0 0, .p 6 0 0, .p 8 0 0] : List LV) ++ List.replicate 9 LV.u ++ ([.fn 34 [.p 9 0 0]] : List LV) ++ List.replicate 21 LV.u) [19, 20] (cAt [1, 1, 1, 1, 1, 0, 1, 0, 0] (bodyOf Try.f11)) (cAt [1, 1, 1, 1, 1, 0, 1, 0, 1] (bodyOf Try.f11)) 11 none .ready, .dead, .dead, .dead, .dead, .arr ⟨.int, l475⟩ 3, .arr ⟨.col, l476⟩ 45, .arr ⟨.int, l477⟩ 3, .arr ⟨.col, l478⟩ 45], 0⟩) n) fr st) (by kernel_rfl)))

-- glazier/image.Runs$1, a loop
noncomputable def cL34x1b : Code := cAt [1, 0, 0] (bodyOf Try.f34)
noncomputable def fL34x1b : List Pat := ([.o (.yl 14), .o (.p 9 0 0), pu, .o (.i .i64), .o (.i .i64)] : List Pat) ++ List.replicate 32 pu
noncomputable def oL34x1b : List PatO := [.cells [.o (.slv .col)], .cells [.o (.i .i64)], .cells [.o (.sl 15)], .cells [.o (.sl 16)], .cells [.o (.b)], .dead, .cells [.o (.sl 17)], .dead, .cells [.o (.sl 18)], .cells [.o (.slv .col)], .dead, .dead, .dead, .dead, .loop (([pu, pu, .o (.p 0 0 0), .o (.p 1 0 0), .o (.p 2 0 0), .o (.p 3 0 0), .o (.p 4 0 0), .o (.p 6 0 0), .o (.p 8 0 0)] : List Pat) ++ List.replicate 9 pu ++ ([.fn 34 [.p 9 0 0]] : List Pat) ++ List.replicate 21 pu) [19, 20] (cAt [1, 1, 1, 1, 1, 0, 1, 0, 0] (bodyOf Try.f11)) (cAt [1, 1, 1, 1, 1, 0, 1, 0, 1] (bodyOf Try.f11)) 11 .ready, .arr .int 3, .arr .col 45, .arr .int 3, .arr .col 45]
noncomputable def L34x1bg {α : Type} (N : Nat) (l34x3b : (Int → Int → List Col → Int → Bool → List Col → List Int → List Col → List Int → List Col → Option α) → Nat → Int → Int → List Col → Int → Bool → List Col → List Int → List Col → List Int → List Col → Option α) (k0 : List Col → Int → Bool → List Col → List Int → List Col → List Int → List Col → Option α) (k1 : List Col → Int → Bool → List Col → List Int → List Col → List Int → List Col → Option α) (k2 : List Col → Int → Bool → List Col → List Int → List Col → List Int → List Col → Option α) (rec : Int → Int → List Col → Int → Bool → List Col → List Int → List Col → List Int → List Col → Option α) (x449 : Int) (x450 : Int) (l451 : List Col) (x452 : Int) (b453 : Bool) (l454 : List Col) (l455 : List Int) (l456 : List Col) (l457 : List Int) (l458 : List Col) : Option α :=
    bif decide (x449 < (ln l454)) then
      l34x3b (fun (x479 : Int) (x480 : Int) (l481 : List Col) (x482 : Int) (b483 : Bool) (l484 : List Col) (l485 : List Int) (l486 : List Col) (l487 : List Int) (l488 : List Col) =>
          bif inb x479 l484 then
            let v0 := ([wi64 (x480 - x479)] : List Int)
            bif room l487 v0 then
              let v1 := ([rd .col l484 x479] : List Col)
              bif room l488 v1 then
                let v2 := l488 ++ v1
                let v3 := ln v2
                bif decide (v3 ≥ x482) then
                  k0 l481 x482 b483 l484 l485 l486 (l487 ++ v0) v2
                else
                  bif decide (v3 > (ln l481)) then
                    k1 l481 x482 false l484 ([] : List Int) ([] : List Col) (l487 ++ v0) v2
                  else
                    rec x480 x480 l481 x482 b483 l484 l485 l486 (l487 ++ v0) v2
              else none
            else none
          else none) N x449 x450 l451 x452 b453 l454 l455 l456 l457 l458
    else
      k2 l451 x452 b453 l454 l455 l456 l457 l458
noncomputable def L34x1b {α : Type} (N : Nat) (k0 : List Col → Int → Bool → List Col → List Int → List Col → List Int → List Col → Option α) (k1 : List Col → Int → Bool → List Col → List Int → List Col → List Int → List Col → Option α) (k2 : List Col → Int → Bool → List Col → List Int → List Col → List Int → List Col → Option α) : Nat → Int → Int → List Col → Int → Bool → List Col → List Int → List Col → List Int → List Col → Option α
  | 0, _, _, _, _, _, _, _, _, _, _ => none
  | n + 1, x449, x450, l451, x452, b453, l454, l455, l456, l457, l458 => L34x1bg N L34x3b k0 k1 k2 (L34x1b N k0 k1 k2 n) x449 x450 l451 x452 b453 l454 l455 l456 l457 l458
noncomputable def EL34x1b (N : Nat) (φ : (List Col → Int → Bool → List Col → List Int → List Col → List Int → List Col → Option Res) → (List Col → Int → Bool → List Col → List Int → List Col → List Int → List Col → Option Res) → (List Col → Int → Bool → List Col → List Int → List Col → List Int → List Col → Option Res) → Nat → Int → Int → List Col → Int → Bool → List Col → List Int → List Col → List Int → List Col → Option Res) : ItE := loopE base 34 cL34x1b [] [0, 1, 3, 4] fL34x1b oL34x1b 15 N (fun K n fr st => φ (fun (l489 : List Col) (x490 : Int) (b491 : Bool) (l492 : List Col) (l493 : List Int) (l494 : List Col) (l495 : List Int) (l496 : List Col) => K .r (List.replicate 37 LV.u) ⟨[.cells [.slv ⟨.col, l489⟩], .cells [.i .i64 x490], .cells [.sl 15], .cells [.sl 16], .cells [.b b491], .dead, .cells [.sl 17], .dead, .cells [.sl 18], .cells [.slv ⟨.col, l492⟩], .dead, .dead, .dead, .dead, .loop (([.u, .u, .p 0 0 0, .p 1 0 0, .p 2 0 0, .p 3 0 0, .p 4 0 0, .p 6 0 0, .p 8 0 0] : List LV) ++ List.replicate 9 LV.u ++ ([.fn 34 [.p 9 0 0]] : List LV) ++ List.replicate 21 LV.u) [19, 20] (cAt [1, 1, 1, 1, 1, 0, 1, 0, 0] (bodyOf Try.f11)) (cAt [1, 1, 1, 1, 1, 0, 1, 0, 1] (bodyOf Try.f11)) 11 (some (.exit 0)) .done, .arr ⟨.int, l493⟩ 3, .arr ⟨.col, l494⟩ 45, .arr ⟨.int, l495⟩ 3, .arr ⟨.col, l496⟩ 45], 0⟩) (fun (l497 : List Col) (x498 : Int) (b499 : Bool) (l500 : List Col) (l501 : List Int) (l502 : List Col) (l503 : List Int) (l504 : List Col) => K .r (List.replicate 37 LV.u) ⟨[.cells [.slv ⟨.col, l497⟩], .cells [.i .i64 x498], .cells [.sl 15], .cells [.sl 16], .cells [.b b499], .dead, .cells [.sl 17], .dead, .cells [.sl 18], .cells [.slv ⟨.col, l500⟩], .dead, .dead, .dead, .dead, .loop (([.u, .u, .p 0 0 0, .p 1 0 0, .p 2 0 0, .p 3 0 0, .p 4 0 0, .p 6 0 0, .p 8 0 0] : List LV) ++ List.replicate 9 LV.u ++ ([.fn 34 [.p 9 0 0]] : List LV) ++ List.replicate 21 LV.u) [19, 20] (cAt [1, 1, 1, 1, 1, 0, 1, 0, 0] (bodyOf Try.f11)) (cAt [1, 1, 1, 1, 1, 0, 1, 0, 1] (bodyOf Try.f11)) 11 (some .ret) .done, .arr ⟨.int, l501⟩ 3, .arr ⟨.col, l502⟩ 45, .arr ⟨.int, l503⟩ 3, .arr ⟨.col, l504⟩ 45], 0⟩) (fun (l505 : List Col) (x506 : Int) (b507 : Bool) (l508 : List Col) (l509 : List Int) (l510 : List Col) (l511 : List Int) (l512 : List Col) => K (.e 0) (List.replicate 37 LV.u) ⟨[.cells [.slv ⟨.col, l505⟩], .cells [.i .i64 x506], .cells [.sl 15], .cells [.sl 16], .cells [.b b507], .dead, .cells [.sl 17], .dead, .cells [.sl 18], .cells [.slv ⟨.col, l508⟩], .dead, .dead, .dead, .dead, .loop (([.u, .u, .p 0 0 0, .p 1 0 0, .p 2 0 0, .p 3 0 0, .p 4 0 0, .p 6 0 0, .p 8 0 0] : List LV) ++ List.replicate 9 LV.u ++ ([.fn 34 [.p 9 0 0]] : List LV) ++ List.replicate 21 LV.u) [19, 20] (cAt [1, 1, 1, 1, 1, 0, 1, 0, 0] (bodyOf Try.f11)) (cAt [1, 1, 1, 1, 1, 0, 1, 0, 1] (bodyOf Try.f11)) 11 none .ready, .arr ⟨.int, l509⟩ 3, .arr ⟨.col, l510⟩ 45, .arr ⟨.int, l511⟩ 3, .arr ⟨.col, l512⟩ 45], 0⟩) n (exI (fr.getD 3 .u)) (exI (fr.getD 4 .u)) (exT .col ((exF (st.L.getD 0 .dead)).getD 0 .u)) (exI ((exF (st.L.getD 1 .dead)).getD 0 .u)) (exB ((exF (st.L.getD 4 .dead)).getD 0 .u)) (exT .col ((exF (st.L.getD 9 .dead)).getD 0 .u)) (exA .int (st.L.getD 15 .dead)) (exA .col (st.L.getD 16 .dead)) (exA .int (st.L.getD 17 .dead)) (exA .col (st.L.getD 18 .dead)))
theorem L34x1bKey (N : Nat) (l34x3b : (Int → Int → List Col → Int → Bool → List Col → List Int → List Col → List Int → List Col → Option Res) → Nat → Int → Int → List Col → Int → Bool → List Col → List Int → List Col → List Int → List Col → Option Res) (K : Kont) (rec : Int → Int → List Col → Int → Bool → List Col → List Int → List Col → List Int → List Col → Option Res) (fr : List LV) (st : St) : L34x1bg N l34x3b (fun (l489 : List Col) (x490 : Int) (b491 : Bool) (l492 : List Col) (l493 : List Int) (l494 : List Col) (l495 : List Int) (l496 : List Col) => K .r (List.replicate 37 LV.u) ⟨[.cells [.slv ⟨.col, l489⟩], .cells [.i .i64 x490], .cells [.sl 15], .cells [.sl 16], .cells [.b b491], .dead, .cells [.sl 17], .dead, .cells [.sl 18], .cells [.slv ⟨.col, l492⟩], .dead, .dead, .dead, .dead, .loop (([.u, .u, .p 0 0 0, .p 1 0 0, .p 2 0 0, .p 3 0 0, .p 4 0 0, .p 6 0 0, .p 8 0 0] : List LV) ++ List.replicate 9 LV.u ++ ([.fn 34 [.p 9 0 0]] : List LV) ++ List.replicate 21 LV.u) [19, 20] (cAt [1, 1, 1, 1, 1, 0, 1, 0, 0] (bodyOf Try.f11)) (cAt [1, 1, 1, 1, 1, 0, 1, 0, 1] (bodyOf Try.f11)) 11 (some (.exit 0)) .done, .arr ⟨.int, l493⟩ 3, .arr ⟨.col, l494⟩ 45, .arr ⟨.int, l495⟩ 3, .arr ⟨.col, l496⟩ 45], 0⟩) (fun (l497 : List Col) (x498 : Int) (b499 : Bool) (l500 : List Col) (l501 : List Int) (l502 : List Col) (l503 : List Int) (l504 : List Col) => K .r (List.replicate 37 LV.u) ⟨[.cells [.slv ⟨.col, l497⟩], .cells [.i .i64 x498], .cells [.sl 15], .cells [.sl 16], .cells [.b b499], .dead, .cells [.sl 17], .dead, .cells [.sl 18], .cells [.slv ⟨.col, l500⟩], .dead, .dead, .dead, .dead, .loop (([.u, .u, .p 0 0 0, .p 1 0 0, .p 2 0 0, .p 3 0 0, .p 4 0 0, .p 6 0 0, .p 8 0 0] : List LV) ++ List.replicate 9 LV.u ++ ([.fn 34 [.p 9 0 0]] : List LV) ++ List.replicate 21 LV.u) [19, 20] (cAt [1, 1, 1, 1, 1, 0, 1, 0, 0] (bodyOf Try.f11)) (cAt [1, 1, 1, 1, 1, 0, 1, 0, 1] (bodyOf Try.f11)) 11 (some .ret) .done, .arr ⟨.int, l501⟩ 3, .arr ⟨.col, l502⟩ 45, .arr ⟨.int, l503⟩ 3, .arr ⟨.col, l504⟩ 45], 0⟩) (fun (l505 : List Col) (x506 : Int) (b507 : Bool) (l508 : List Col) (l509 : List Int) (l510 : List Col) (l511 : List Int) (l512 : List Col) => K (.e 0) (List.replicate 37 LV.u) ⟨[.cells [.slv ⟨.col, l505⟩], .cells [.i .i64 x506], .cells [.sl 15], .cells [.sl 16], .cells [.b b507], .dead, .cells [.sl 17], .dead, .cells [.sl 18], .cells [.slv ⟨.col, l508⟩], .dead, .dead, .dead, .dead, .loop (([.u, .u, .p 0 0 0, .p 1 0 0, .p 2 0 0, .p 3 0 0, .p 4 0 0, .p 6 0 0, .p 8 0 0] : List LV) ++ List.replicate 9 LV.u ++ ([.fn 34 [.p 9 0 0]] : List LV) ++ List.replicate 21 LV.u) [19, 20] (cAt [1, 1, 1, 1, 1, 0, 1, 0, 0] (bodyOf Try.f11)) (cAt [1, 1, 1, 1, 1, 0, 1, 0, 1] (bodyOf Try.f11)) 11 none .ready, .arr ⟨.int, l509⟩ 3, .arr ⟨.col, l510⟩ 45, .arr ⟨.int, l511⟩ 3, .arr ⟨.col, l512⟩ 45], 0⟩) rec (exI (fr.getD 3 .u)) (exI (fr.getD 4 .u)) (exT .col ((exF (st.L.getD 0 .dead)).getD 0 .u)) (exI ((exF (st.L.getD 1 .dead)).getD 0 .u)) (exB ((exF (st.L.getD 4 .dead)).getD 0 .u)) (exT .col ((exF (st.L.getD 9 .dead)).getD 0 .u)) (exA .int (st.L.getD 15 .dead)) (exA .col (st.L.getD 16 .dead)) (exA .int (st.L.getD 17 .dead)) (exA .col (st.L.getD 18 .dead)) = ev (base.with_ [] [EL34x3b N l34x3b]) 400 (.code cL34x1b) 34 (norL 0 fL34x1b fr) (norS oL34x1b st) (headK base [] [0, 1, 3, 4] [] 15 fL34x1b oL34x1b (fun fr st => rec (exI (fr.getD 3 .u)) (exI (fr.getD 4 .u)) (exT .col ((exF (st.L.getD 0 .dead)).getD 0 .u)) (exI ((exF (st.L.getD 1 .dead)).getD 0 .u)) (exB ((exF (st.L.getD 4 .dead)).getD 0 .u)) (exT .col ((exF (st.L.getD 9 .dead)).getD 0 .u)) (exA .int (st.L.getD 15 .dead)) (exA .col (st.L.getD 16 .dead)) (exA .int (st.L.getD 17 .dead)) (exA .col (st.L.getD 18 .dead))) K) := by kernel_rfl
theorem EL34x1bOk (N : Nat) : (EL34x1b N (L34x1b N)).OK Try.prog :=
  loop_item base_ok (S := []) (I := [EL34x3b N L34x3b]) all_nil (all_cons (EL34x3bOk N) all_nil) 400 [] (by intro K fr st; kernel_rfl) (fun K n fr st => Eq.trans (by kernel_rfl) (Eq.trans (L34x1bKey N L34x3b K (L34x1b N (fun (l489 : List Col) (x490 : Int) (b491 : Bool) (l492 : List Col) (l493 : List Int) (l494 : List Col) (l495 : List Int) (l496 : List Col) => K .r (List.replicate 37 LV.u) ⟨[.cells [.slv ⟨.col, l489⟩], .cells [.i .i64 x490], .cells [.sl 15], .cells [.sl 16], .cells [.b b491], .dead, .cells [.sl 17], .dead, .cells [.sl 18], .cells [.slv ⟨.col, l492⟩], .dead, .dead, .dead, .dead, .loop (([.u, .u, .p 0 0 0, .p 1 0 0, .p 2 0 0, .p 3 0 0, .p 4 0 0, .p 6 0 0, .p 8 0 0] : List LV) ++ List.replicate 9 LV.u ++ ([.fn 34 [.p 9 0 0]] : List LV) ++ List.replicate 21 LV.u) [19, 20] (cAt [1, 1, 1, 1, 1, 0, 1, 0, 0] (bodyOf Try.f11)) (cAt [1, 1, 1, 1, 1, 0, 1, 0, 1] (bodyOf Try.f11)) 11 (some (.exit 0)) .done, .arr ⟨.int, l493⟩ 3, .arr ⟨.col, l494⟩ 45, .arr ⟨.int, l495⟩ 3, .arr ⟨.col, l496⟩ 45], 0⟩) (fun (l497 : List Col) (x498 : Int) (b499 : Bool) (l500 : List Col) (l501 : List Int) (l502 : List Col) (l503 : List Int) (l504 : List Col) => K .r (List.replicate 37 LV.u) ⟨[.cells [.slv ⟨.col, l497⟩], .cells [.i .i64 x498], .cells [.sl 15], .cells [.sl 16], .cells [.b b499], .dead, .cells [.sl 17], .dead, .cells [.sl 18], .cells [.slv ⟨.col, l500⟩], .dead, .dead, .dead, .dead, .loop (([.u, .u, .p 0 0 0, .p 1 0 0, .p 2 0 0, .p 3 0 0, .p 4 0 0, .p 6 0 0, .p 8 0 0] : List LV) ++ List.replicate 9 LV.u ++ ([.fn 34 [.p 9 0 0]] : List LV) ++ List.replicate 21 LV.u) [19, 20] (cAt [1, 1, 1, 1, 1, 0, 1, 0, 0] (bodyOf Try.f11)) (cAt [1, 1, 1, 1, 1, 0, 1, 0, 1] (bodyOf Try.f11)) 11 (some .ret) .done, .arr ⟨.int, l501⟩ 3, .arr ⟨.col, l502⟩ 45, .arr ⟨.int, l503⟩ 3, .arr ⟨.col, l504⟩ 45], 0⟩) (fun (l505 : List Col) (x506 : Int) (b507 : Bool) (l508 : List Col) (l509 : List Int) (l510 : List Col) (l511 : List Int) (l512 : List Col) => K (.e 0) (List.replicate 37 LV.u) ⟨[.cells [.slv ⟨.col, l505⟩], .cells [.i .i64 x506], .cells [.sl 15], .cells [.sl 16], .cells [.b b507], .dead, .cells [.sl 17], .dead, .cells [.sl 18], .cells [.slv ⟨.col, l508⟩], .dead, .dead, .dead, .dead, .loop (([.u, .u, .p 0 0 0, .p 1 0 0, .p 2 0 0, .p 3 0 0, .p 4 0 0, .p 6 0 0, .p 8 0 0] : List LV) ++ List.replicate 9 LV.u ++ ([.fn 34 [.p 9 0 0]] : List LV) ++ List.replicate 21 LV.u) [19, 20] (cAt [1, 1, 1, 1, 1, 0, 1, 0, 0] (bodyOf Try.f11)) (cAt [1, 1, 1, 1, 1, 0, 1, 0, 1] (bodyOf Try.f11)) 11 none .ready, .arr ⟨.int, l509⟩ 3, .arr ⟨.col, l510⟩ 45, .arr ⟨.int, l511⟩ 3, .arr ⟨.col, l512⟩ 45], 0⟩) n) fr st) (by kernel_rfl)))
end Gz
