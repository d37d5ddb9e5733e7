/- Functions of the program as plain ones, printed by a program. -/
import Derived.Test.YtpdomjkgdlineaaBTab
import Derived.Test.YtpdomjkgdlineaaBFun0
set_option linter.unusedVariables false
set_option linter.unusedSimpArgs false
set_option linter.unnecessarySimpa false
set_option linter.deprecated false
set_option maxRecDepth 100000
namespace Gz
open Go Go.Proofs
-- glazier/glazierlaw11.TextureRight, a loop
noncomputable def cL4x10 : Code := cAt [1, 1, 1, 1, 1, 1, 1, 1, 1, 0, 1, 0, 0] (bodyOf Try.f4)
noncomputable def fL4x10 : List Pat := ([pu, .o (.i .u16)] : List Pat) ++ List.replicate 5 pu ++ ([.o (.b), .o (.i .i64), .o (.i .i64), .o (.i .i64), .o (.p 3 0 0), .o (.p 5 0 0), .o (.b), .o (.p 7 0 0), .o (.i .i64)] : List Pat) ++ List.replicate 91 pu
noncomputable def oL4x10 : List PatO := [.arr .u8 40, .cells [.o (.i .i64), .o (.i .i64), .o (.slv .col)], .dead, .cells [.o (.i .i64), .o (.i .i64), .o (.sl 8)], .dead, .cells [.o (.i .i64), .o (.i .i64), .o (.sl 9)], .dead, .cells [.o (.i .i64), .o (.i .i64), .o (.sl 10)], .arr .col 45, .arr .col 45, .arr .col 45]
noncomputable def L4x10g {α : Type} (f17 : (Int → Int → Int → Int → Option α) → Int → Int → Int → Int → Option α) (k0 : Int → Bool → Int → Int → Int → Bool → List Int → Int → Int → List Col → Int → Int → Int → Int → Int → Int → List Col → List Col → List Col → Option α) (rec : Int → Bool → Int → Int → Int → Bool → Int → List Int → Int → Int → List Col → Int → Int → Int → Int → Int → Int → List Col → List Col → List Col → Option α) (x269 : Int) (b270 : Bool) (x271 : Int) (x272 : Int) (x273 : Int) (b274 : Bool) (x275 : Int) (l276 : List Int) (x277 : Int) (x278 : Int) (l279 : List Col) (x280 : Int) (x281 : Int) (x282 : Int) (x283 : Int) (x284 : Int) (x285 : Int) (l286 : List Col) (l287 : List Col) (l288 : List Col) : Option α :=
    bif decide (x275 < (ln l288)) then
      let v0 := inb x275 l288
      bif v0 then
        let v1 := rd .col l288 x275
        f17 (fun (x306 : Int) (x307 : Int) (x308 : Int) (x309 : Int) =>
            bif v0 then
              rec x269 b270 x271 x272 x273 b274 (wi64 (x275 + 1)) l276 x277 x278 l279 x280 x281 x282 x283 x284 x285 l286 l287 (stL l288 x275 (⟨x306, x307, x308, x309⟩ : Col))
            else none) v1.r v1.g v1.b v1.a
      else none
    else
      k0 x269 b270 x271 x272 x273 b274 l276 x277 x278 l279 x280 x281 x282 x283 x284 x285 l286 l287 l288
noncomputable def L4x10 {α : Type} (k0 : Int → Bool → Int → Int → Int → Bool → List Int → Int → Int → List Col → Int → Int → Int → Int → Int → Int → List Col → List Col → List Col → Option α) : Nat → Int → Bool → Int → Int → Int → Bool → Int → List Int → Int → Int → List Col → Int → Int → Int → Int → Int → Int → List Col → List Col → List Col → Option α
  | 0, _, _, _, _, _, _, _, _, _, _, _, _, _, _, _, _, _, _, _, _ => none
  | n + 1, x269, b270, x271, x272, x273, b274, x275, l276, x277, x278, l279, x280, x281, x282, x283, x284, x285, l286, l287, l288 => L4x10g F17 k0 (L4x10 k0 n) x269 b270 x271 x272 x273 b274 x275 l276 x277 x278 l279 x280 x281 x282 x283 x284 x285 l286 l287 l288
noncomputable def EL4x10 (N : Nat) (φ : (Int → Bool → Int → Int → Int → Bool → List Int → Int → Int → List Col → Int → Int → Int → Int → Int → Int → List Col → List Col → List Col → Option Res) → Nat → Int → Bool → Int → Int → Int → Bool → Int → List Int → Int → Int → List Col → Int → Int → Int → Int → Int → Int → List Col → List Col → List Col → Option Res) : ItE := loopE base 4 cL4x10 [] [1, 7, 8, 9, 10, 11, 12, 13, 14, 15] fL4x10 oL4x10 8 N (fun K n fr st => φ (fun (x310 : Int) (b311 : Bool) (x312 : Int) (x313 : Int) (x314 : Int) (b315 : Bool) (l316 : List Int) (x317 : Int) (x318 : Int) (l319 : List Col) (x320 : Int) (x321 : Int) (x322 : Int) (x323 : Int) (x324 : Int) (x325 : Int) (l326 : List Col) (l327 : List Col) (l328 : List Col) => K (.e 0) (([.u, .i .u16 x310] : List LV) ++ List.replicate 5 LV.u ++ ([.b b311, .i .i64 x312, .i .i64 x313, .i .i64 x314, .p 3 0 0, .p 5 0 0, .b b315, .p 7 0 0] : List LV) ++ List.replicate 92 LV.u) ⟨[.arr ⟨.u8, l316⟩ 40, .cells [.i .i64 x317, .i .i64 x318, .slv ⟨.col, l319⟩], .dead, .cells [.i .i64 x320, .i .i64 x321, .sl 8], .dead, .cells [.i .i64 x322, .i .i64 x323, .sl 9], .dead, .cells [.i .i64 x324, .i .i64 x325, .sl 10], .arr ⟨.col, l326⟩ 45, .arr ⟨.col, l327⟩ 45, .arr ⟨.col, l328⟩ 45], 0⟩) n (exI (fr.getD 1 .u)) (exB (fr.getD 7 .u)) (exI (fr.getD 8 .u)) (exI (fr.getD 9 .u)) (exI (fr.getD 10 .u)) (exB (fr.getD 13 .u)) (exI (fr.getD 15 .u)) (exA .u8 (st.L.getD 0 .dead)) (exI ((exF (st.L.getD 1 .dead)).getD 0 .u)) (exI ((exF (st.L.getD 1 .dead)).getD 1 .u)) (exT .col ((exF (st.L.getD 1 .dead)).getD 2 .u)) (exI ((exF (st.L.getD 3 .dead)).getD 0 .u)) (exI ((exF (st.L.getD 3 .dead)).getD 1 .u)) (exI ((exF (st.L.getD 5 .dead)).getD 0 .u)) (exI ((exF (st.L.getD 5 .dead)).getD 1 .u)) (exI ((exF (st.L.getD 7 .dead)).getD 0 .u)) (exI ((exF (st.L.getD 7 .dead)).getD 1 .u)) (exA .col (st.L.getD 8 .dead)) (exA .col (st.L.getD 9 .dead)) (exA .col (st.L.getD 10 .dead)))
theorem L4x10Key (N : Nat) (f17 : (Int → Int → Int → Int → Option Res) → Int → Int → Int → Int → Option Res) (K : Kont) (rec : Int → Bool → Int → Int → Int → Bool → Int → List Int → Int → Int → List Col → Int → Int → Int → Int → Int → Int → List Col → List Col → List Col → Option Res) (fr : List LV) (st : St) : L4x10g f17 (fun (x310 : Int) (b311 : Bool) (x312 : Int) (x313 : Int) (x314 : Int) (b315 : Bool) (l316 : List Int) (x317 : Int) (x318 : Int) (l319 : List Col) (x320 : Int) (x321 : Int) (x322 : Int) (x323 : Int) (x324 : Int) (x325 : Int) (l326 : List Col) (l327 : List Col) (l328 : List Col) => K (.e 0) (([.u, .i .u16 x310] : List LV) ++ List.replicate 5 LV.u ++ ([.b b311, .i .i64 x312, .i .i64 x313, .i .i64 x314, .p 3 0 0, .p 5 0 0, .b b315, .p 7 0 0] : List LV) ++ List.replicate 92 LV.u) ⟨[.arr ⟨.u8, l316⟩ 40, .cells [.i .i64 x317, .i .i64 x318, .slv ⟨.col, l319⟩], .dead, .cells [.i .i64 x320, .i .i64 x321, .sl 8], .dead, .cells [.i .i64 x322, .i .i64 x323, .sl 9], .dead, .cells [.i .i64 x324, .i .i64 x325, .sl 10], .arr ⟨.col, l326⟩ 45, .arr ⟨.col, l327⟩ 45, .arr ⟨.col, l328⟩ 45], 0⟩) rec (exI (fr.getD 1 .u)) (exB (fr.getD 7 .u)) (exI (fr.getD 8 .u)) (exI (fr.getD 9 .u)) (exI (fr.getD 10 .u)) (exB (fr.getD 13 .u)) (exI (fr.getD 15 .u)) (exA .u8 (st.L.getD 0 .dead)) (exI ((exF (st.L.getD 1 .dead)).getD 0 .u)) (exI ((exF (st.L.getD 1 .dead)).getD 1 .u)) (exT .col ((exF (st.L.getD 1 .dead)).getD 2 .u)) (exI ((exF (st.L.getD 3 .dead)).getD 0 .u)) (exI ((exF (st.L.getD 3 .dead)).getD 1 .u)) (exI ((exF (st.L.getD 5 .dead)).getD 0 .u)) (exI ((exF (st.L.getD 5 .dead)).getD 1 .u)) (exI ((exF (st.L.getD 7 .dead)).getD 0 .u)) (exI ((exF (st.L.getD 7 .dead)).getD 1 .u)) (exA .col (st.L.getD 8 .dead)) (exA .col (st.L.getD 9 .dead)) (exA .col (st.L.getD 10 .dead)) = ev (base.with_ [EF17 f17] []) 400 (.code cL4x10) 4 (norL 0 fL4x10 fr) (norS oL4x10 st) (headK base [] [1, 7, 8, 9, 10, 11, 12, 13, 14, 15] [1, 6, 7, 8, 9, 10, 11, 12, 13, 14] 8 fL4x10 oL4x10 (fun fr st => rec (exI (fr.getD 1 .u)) (exB (fr.getD 7 .u)) (exI (fr.getD 8 .u)) (exI (fr.getD 9 .u)) (exI (fr.getD 10 .u)) (exB (fr.getD 13 .u)) (exI (fr.getD 15 .u)) (exA .u8 (st.L.getD 0 .dead)) (exI ((exF (st.L.getD 1 .dead)).getD 0 .u)) (exI ((exF (st.L.getD 1 .dead)).getD 1 .u)) (exT .col ((exF (st.L.getD 1 .dead)).getD 2 .u)) (exI ((exF (st.L.getD 3 .dead)).getD 0 .u)) (exI ((exF (st.L.getD 3 .dead)).getD 1 .u)) (exI ((exF (st.L.getD 5 .dead)).getD 0 .u)) (exI ((exF (st.L.getD 5 .dead)).getD 1 .u)) (exI ((exF (st.L.getD 7 .dead)).getD 0 .u)) (exI ((exF (st.L.getD 7 .dead)).getD 1 .u)) (exA .col (st.L.getD 8 .dead)) (exA .col (st.L.getD 9 .dead)) (exA .col (st.L.getD 10 .dead))) K) := by kernel_rfl
theorem EL4x10Ok (N : Nat) : (EL4x10 N L4x10).OK Try.prog :=
  loop_item base_ok (S := [EF17 F17]) (I := []) (all_cons (EF17Ok N) all_nil) all_nil 400 [1, 6, 7, 8, 9, 10, 11, 12, 13, 14] (by intro K fr st; kernel_rfl) (fun K n fr st => Eq.trans (by kernel_rfl) (Eq.trans (L4x10Key N F17 K (L4x10 (fun (x310 : Int) (b311 : Bool) (x312 : Int) (x313 : Int) (x314 : Int) (b315 : Bool) (l316 : List Int) (x317 : Int) (x318 : Int) (l319 : List Col) (x320 : Int) (x321 : Int) (x322 : Int) (x323 : Int) (x324 : Int) (x325 : Int) (l326 : List Col) (l327 : List Col) (l328 : List Col) => K (.e 0) (([.u, .i .u16 x310] : List LV) ++ List.replicate 5 LV.u ++ ([.b b311, .i .i64 x312, .i .i64 x313, .i .i64 x314, .p 3 0 0, .p 5 0 0, .b b315, .p 7 0 0] : List LV) ++ List.replicate 92 LV.u) ⟨[.arr ⟨.u8, l316⟩ 40, .cells [.i .i64 x317, .i .i64 x318, .slv ⟨.col, l319⟩], .dead, .cells [.i .i64 x320, .i .i64 x321, .sl 8], .dead, .cells [.i .i64 x322, .i .i64 x323, .sl 9], .dead, .cells [.i .i64 x324, .i .i64 x325, .sl 10], .arr ⟨.col, l326⟩ 45, .arr ⟨.col, l327⟩ 45, .arr ⟨.col, l328⟩ 45], 0⟩) n) fr st) (by kernel_rfl)))

-- glazier/glazierref02.Right
noncomputable def F18g {α : Type}  (k0 : Bool → Option α) (x352 : Int) (x353 : Int) (x354 : Int) (x355 : Int) : Option α :=
    bif decide (x352 ≤ x355) then
      bif decide (x353 ≤ x355) then
        k0 (decide (x354 ≤ x355))
      else
        k0 false
    else
      k0 false
noncomputable def F18 {α : Type} (k0 : Bool → Option α) (x352 : Int) (x353 : Int) (x354 : Int) (x355 : Int) : Option α := F18g  k0 x352 x353 x354 x355
noncomputable def EF18 (φ : (Bool → Option Res) → Int → Int → Int → Int → Option Res) : SpecE := ⟨18, [.ag [.i .u8, .i .u8, .i .u8, .i .u8]], fun args K => φ (fun (b356 : Bool) => K (.b b356, [])) (exI ((exC (args.getD 0 .u)).getD 0 .u)) (exI ((exC (args.getD 0 .u)).getD 1 .u)) (exI ((exC (args.getD 0 .u)).getD 2 .u)) (exI ((exC (args.getD 0 .u)).getD 3 .u))⟩
theorem F18Key (N : Nat)  (args : List LV) (K : Res → Option Res) : (EF18 (F18g )).F args K = ev (base.with_ [] []) 400 (.code (bodyOf Try.f18)) 18 (norL 0 (EF18 (F18g )).ps args ++ List.replicate (Try.f18.ntmps - (norL 0 (EF18 (F18g )).ps args).length) .u) ⟨[], 0⟩ (endK base Try.f18 K) := by kernel_rfl
theorem EF18Ok (N : Nat) : (EF18 F18).OK Try.prog base :=
  fun_item base_ok (S := []) (I := []) all_nil all_nil 400 (EF18 F18) (f := Try.f18) (body := bodyOf Try.f18) (by kernel_rfl) (by kernel_rfl) (fun args K => Eq.trans (by kernel_rfl) (Eq.trans (F18Key N  args K) (by kernel_rfl)))

-- glazier/glazierlaw11.TextureRight
noncomputable def F4g {α : Type} (N : Nat) (f14 : (Bool → Option α) → Option α) (f16 : (Int → Int → List Col → Option α) → Int → Int → List Col → Option α) (f15 : (Int → Int → List Col → Option α) → Int → Int → List Col → Option α) (f19 : (Int → Int → Int → Int → Option α) → Int → Int → List Col → Int → Int → Option α) (f18 : (Bool → Option α) → Int → Int → Int → Int → Option α) (f20 : (Bool → Option α) → Int → Int → List Col → Option α) (l4x10 : (Int → Bool → Int → Int → Int → Bool → List Int → Int → Int → List Col → Int → Int → Int → Int → Int → Int → List Col → List Col → List Col → Option α) → Nat → Int → Bool → Int → Int → Int → Bool → Int → List Int → Int → Int → List Col → Int → Int → Int → Int → Int → Int → List Col → List Col → List Col → Option α) (k0 : Bool → Option α) (x0 : Int) (x1 : Int) (x2 : Int) (x3 : Int) (x4 : Int) (l5 : List Col) : Option α :=
    f14 (fun (b217 : Bool) =>
        let v0 := Int.tmod (wi64 x2) 401
        bif inm v0 then
          let v1 := Int.tmod (wi64 x0) 21
          let v2 := Int.tmod (wi64 x1) 21
          let v3 := wi64 (v1 * v2)
          bif inm v3 then
            bif decide (v1 ≥ 1) then
              bif decide (v1 ≤ 16) then
                bif decide (v2 ≥ 1) then
                  f16 (fun (x224 : Int) (x225 : Int) (l226 : List Col) =>
                      f15 (fun (x266 : Int) (x267 : Int) (l268 : List Col) =>
                          let v4 := (⟨0, 0, 0, 0⟩ : Col)
                          l4x10 (fun (x329 : Int) (b330 : Bool) (x331 : Int) (x332 : Int) (x333 : Int) (b334 : Bool) (l335 : List Int) (x336 : Int) (x337 : Int) (l338 : List Col) (x339 : Int) (x340 : Int) (x341 : Int) (x342 : Int) (x343 : Int) (x344 : Int) (l345 : List Col) (l346 : List Col) (l347 : List Col) =>
                              f19 (fun (x348 : Int) (x349 : Int) (x350 : Int) (x351 : Int) =>
                                  f18 (fun (b357 : Bool) =>
                                      bif b330 then
                                        f20 (fun (b358 : Bool) =>
                                            bif b334 then
                                              bif b358 == (x333 == (wi64 (x331 * x332))) then
                                                f20 (fun (b359 : Bool) =>
                                                    bif b359 == b334 then
                                                      k0 b357
                                                    else
                                                      k0 false) x341 x342 l346
                                              else
                                                k0 false
                                            else
                                              bif b358 == false then
                                                f20 (fun (b361 : Bool) =>
                                                    bif b361 == b334 then
                                                      k0 b357
                                                    else
                                                      k0 false) x341 x342 l346
                                              else
                                                k0 false) x339 x340 l345
                                      else
                                        k0 false) x348 x349 x350 x351) x343 x344 l347 (wi64 (5 * (wi64 x329))) (wi64 (x331 - x332))) N x2 b217 v1 v2 v0 (decide (v2 ≤ 16)) 0 ([x0, x1] : List Int) x3 x4 l5 v1 v2 v1 v2 x266 x267 (List.replicate (Int.toNat v0) v4) (List.replicate (Int.toNat v3) v4) l268) x224 x225 l226) x3 x4 l5
                else
                  f16 (fun (x362 : Int) (x363 : Int) (l364 : List Col) =>
                      f15 (fun (x365 : Int) (x366 : Int) (l367 : List Col) =>
                          let v5 := (⟨0, 0, 0, 0⟩ : Col)
                          l4x10 (fun (x368 : Int) (b369 : Bool) (x370 : Int) (x371 : Int) (x372 : Int) (b373 : Bool) (l374 : List Int) (x375 : Int) (x376 : Int) (l377 : List Col) (x378 : Int) (x379 : Int) (x380 : Int) (x381 : Int) (x382 : Int) (x383 : Int) (l384 : List Col) (l385 : List Col) (l386 : List Col) =>
                              f19 (fun (x387 : Int) (x388 : Int) (x389 : Int) (x390 : Int) =>
                                  f18 (fun (b391 : Bool) =>
                                      bif b369 then
                                        f20 (fun (b392 : Bool) =>
                                            bif b373 then
                                              bif b392 == (x372 == (wi64 (x370 * x371))) then
                                                f20 (fun (b393 : Bool) =>
                                                    bif b393 == b373 then
                                                      k0 b391
                                                    else
                                                      k0 false) x380 x381 l385
                                              else
                                                k0 false
                                            else
                                              bif b392 == false then
                                                f20 (fun (b394 : Bool) =>
                                                    bif b394 == b373 then
                                                      k0 b391
                                                    else
                                                      k0 false) x380 x381 l385
                                              else
                                                k0 false) x378 x379 l384
                                      else
                                        k0 false) x387 x388 x389 x390) x382 x383 l386 (wi64 (5 * (wi64 x368))) (wi64 (x370 - x371))) N x2 b217 v1 v2 v0 false 0 ([x0, x1] : List Int) x3 x4 l5 v1 v2 v1 v2 x365 x366 (List.replicate (Int.toNat v0) v5) (List.replicate (Int.toNat v3) v5) l367) x362 x363 l364) x3 x4 l5
              else
                f16 (fun (x395 : Int) (x396 : Int) (l397 : List Col) =>
                    f15 (fun (x398 : Int) (x399 : Int) (l400 : List Col) =>
                        let v6 := (⟨0, 0, 0, 0⟩ : Col)
                        l4x10 (fun (x401 : Int) (b402 : Bool) (x403 : Int) (x404 : Int) (x405 : Int) (b406 : Bool) (l407 : List Int) (x408 : Int) (x409 : Int) (l410 : List Col) (x411 : Int) (x412 : Int) (x413 : Int) (x414 : Int) (x415 : Int) (x416 : Int) (l417 : List Col) (l418 : List Col) (l419 : List Col) =>
                            f19 (fun (x420 : Int) (x421 : Int) (x422 : Int) (x423 : Int) =>
                                f18 (fun (b424 : Bool) =>
                                    bif b402 then
                                      f20 (fun (b425 : Bool) =>
                                          bif b406 then
                                            bif b425 == (x405 == (wi64 (x403 * x404))) then
                                              f20 (fun (b426 : Bool) =>
                                                  bif b426 == b406 then
                                                    k0 b424
                                                  else
                                                    k0 false) x413 x414 l418
                                            else
                                              k0 false
                                          else
                                            bif b425 == false then
                                              f20 (fun (b427 : Bool) =>
                                                  bif b427 == b406 then
                                                    k0 b424
                                                  else
                                                    k0 false) x413 x414 l418
                                            else
                                              k0 false) x411 x412 l417
                                    else
                                      k0 false) x420 x421 x422 x423) x415 x416 l419 (wi64 (5 * (wi64 x401))) (wi64 (x403 - x404))) N x2 b217 v1 v2 v0 false 0 ([x0, x1] : List Int) x3 x4 l5 v1 v2 v1 v2 x398 x399 (List.replicate (Int.toNat v0) v6) (List.replicate (Int.toNat v3) v6) l400) x395 x396 l397) x3 x4 l5
            else
              f16 (fun (x428 : Int) (x429 : Int) (l430 : List Col) =>
                  f15 (fun (x431 : Int) (x432 : Int) (l433 : List Col) =>
                      let v7 := (⟨0, 0, 0, 0⟩ : Col)
                      l4x10 (fun (x434 : Int) (b435 : Bool) (x436 : Int) (x437 : Int) (x438 : Int) (b439 : Bool) (l440 : List Int) (x441 : Int) (x442 : Int) (l443 : List Col) (x444 : Int) (x445 : Int) (x446 : Int) (x447 : Int) (x448 : Int) (x449 : Int) (l450 : List Col) (l451 : List Col) (l452 : List Col) =>
                          f19 (fun (x453 : Int) (x454 : Int) (x455 : Int) (x456 : Int) =>
                              f18 (fun (b457 : Bool) =>
                                  bif b435 then
                                    f20 (fun (b458 : Bool) =>
                                        bif b439 then
                                          bif b458 == (x438 == (wi64 (x436 * x437))) then
                                            f20 (fun (b459 : Bool) =>
                                                bif b459 == b439 then
                                                  k0 b457
                                                else
                                                  k0 false) x446 x447 l451
                                          else
                                            k0 false
                                        else
                                          bif b458 == false then
                                            f20 (fun (b460 : Bool) =>
                                                bif b460 == b439 then
                                                  k0 b457
                                                else
                                                  k0 false) x446 x447 l451
                                          else
                                            k0 false) x444 x445 l450
                                  else
                                    k0 false) x453 x454 x455 x456) x448 x449 l452 (wi64 (5 * (wi64 x434))) (wi64 (x436 - x437))) N x2 b217 v1 v2 v0 false 0 ([x0, x1] : List Int) x3 x4 l5 v1 v2 v1 v2 x431 x432 (List.replicate (Int.toNat v0) v7) (List.replicate (Int.toNat v3) v7) l433) x428 x429 l430) x3 x4 l5
          else none
        else none)
noncomputable def F4 {α : Type} (N : Nat) (k0 : Bool → Option α) (x0 : Int) (x1 : Int) (x2 : Int) (x3 : Int) (x4 : Int) (l5 : List Col) : Option α := F4g N (F14 N) F16 (F15 N) (F19 N) F18 (F20 N) L4x10 k0 x0 x1 x2 x3 x4 l5
noncomputable def EF4 (φ : (Bool → Option Res) → Int → Int → Int → Int → Int → List Col → Option Res) : SpecE := ⟨4, [.o (.an .u8 2), .o (.i .u16), .ag [.i .i64, .i .i64, .slv .col]], fun args K => φ (fun (b360 : Bool) => K (.b b360, [])) ((exT .u8 (args.getD 0 .u)).getD 0 (dfl .u8)) ((exT .u8 (args.getD 0 .u)).getD 1 (dfl .u8)) (exI (args.getD 1 .u)) (exI ((exC (args.getD 2 .u)).getD 0 .u)) (exI ((exC (args.getD 2 .u)).getD 1 .u)) (exT .col ((exC (args.getD 2 .u)).getD 2 .u))⟩
theorem F4Key (N : Nat) (f14 : (Bool → Option Res) → Option Res) (f16 : (Int → Int → List Col → Option Res) → Int → Int → List Col → Option Res) (f15 : (Int → Int → List Col → Option Res) → Int → Int → List Col → Option Res) (f19 : (Int → Int → Int → Int → Option Res) → Int → Int → List Col → Int → Int → Option Res) (f18 : (Bool → Option Res) → Int → Int → Int → Int → Option Res) (f20 : (Bool → Option Res) → Int → Int → List Col → Option Res) (l4x10 : (Int → Bool → Int → Int → Int → Bool → List Int → Int → Int → List Col → Int → Int → Int → Int → Int → Int → List Col → List Col → List Col → Option Res) → Nat → Int → Bool → Int → Int → Int → Bool → Int → List Int → Int → Int → List Col → Int → Int → Int → Int → Int → Int → List Col → List Col → List Col → Option Res) (args : List LV) (K : Res → Option Res) : (EF4 (F4g N f14 f16 f15 f19 f18 f20 l4x10)).F args K = ev (base.with_ [EF14 f14, EF16 f16, EF15 f15, EF19 f19, EF18 f18, EF20 f20] [EL4x10 N l4x10]) 400 (.code (bodyOf Try.f4)) 4 (norL 0 (EF4 (F4g N f14 f16 f15 f19 f18 f20 l4x10)).ps args ++ List.replicate (Try.f4.ntmps - (norL 0 (EF4 (F4g N f14 f16 f15 f19 f18 f20 l4x10)).ps args).length) .u) ⟨[], 0⟩ (endK base Try.f4 K) := by kernel_rfl
theorem EF4Ok (N : Nat) : (EF4 (F4 N)).OK Try.prog base :=
  fun_item base_ok (S := [EF14 (F14 N), EF16 F16, EF15 (F15 N), EF19 (F19 N), EF18 F18, EF20 (F20 N)]) (I := [EL4x10 N L4x10]) (all_cons (EF14Ok N) (all_cons (EF16Ok N) (all_cons (EF15Ok N) (all_cons (EF19Ok N) (all_cons (EF18Ok N) (all_cons (EF20Ok N) all_nil)))))) (all_cons (EL4x10Ok N) all_nil) 400 (EF4 (F4 N)) (f := Try.f4) (body := bodyOf Try.f4) (by kernel_rfl) (by kernel_rfl) (fun args K => Eq.trans (by kernel_rfl) (Eq.trans (F4Key N (F14 N) F16 (F15 N) (F19 N) F18 (F20 N) L4x10 args K) (by kernel_rfl)))
end Gz
