/- Functions of the program as plain ones, printed by a program. -/
import Derived.Test.YtpdomjkgdlineaaBTab
set_option linter.unusedVariables false
set_option linter.unusedSimpArgs false
set_option linter.unnecessarySimpa false
set_option linter.deprecated false
set_option maxRecDepth 100000
namespace Gz
open Go Go.Proofs
-- glazier/fixed.size
noncomputable def F50g {α : Type}  (k0 : Int → Option α) (x19 : Int) : Option α :=
    k0 (wu64 (mx x19 (wi64 (0 - x19))))
noncomputable def F50 {α : Type} (k0 : Int → Option α) (x19 : Int) : Option α := F50g  k0 x19
noncomputable def EF50 (φ : (Int → Option Res) → Int → Option Res) : SpecE := ⟨50, [.o (.i .i64)], fun args K => φ (fun (x20 : Int) => K (.i .u64 x20, [])) (exI (args.getD 0 .u))⟩
theorem F50Key (N : Nat)  (args : List LV) (K : Res → Option Res) : (EF50 (F50g )).F args K = ev (base.with_ [] []) 400 (.code (bodyOf Try.f50)) 50 (norL 0 (EF50 (F50g )).ps args ++ List.replicate (Try.f50.ntmps - (norL 0 (EF50 (F50g )).ps args).length) .u) ⟨[], 0⟩ (endK base Try.f50 K) := by kernel_rfl
theorem EF50Ok (N : Nat) : (EF50 F50).OK Try.prog base :=
  fun_item base_ok (S := []) (I := []) all_nil all_nil 400 (EF50 F50) (f := Try.f50) (body := bodyOf Try.f50) (by kernel_rfl) (by kernel_rfl) (fun args K => Eq.trans (by kernel_rfl) (Eq.trans (F50Key N  args K) (by kernel_rfl)))

-- math/bits.Mul64
noncomputable def F49g {α : Type}  (k0 : Int → Int → Option α) (x23 : Int) (x24 : Int) : Option α :=
    let v0 := ishr .u64 x23 32
    let v1 := ishr .u64 x24 32
    let v2 := band .u64 x24 4294967295
    let v3 := band .u64 x23 4294967295
    let v4 := wu64 ((wu64 (v0 * v2)) + (ishr .u64 (wu64 (v3 * v2)) 32))
    k0 (wu64 ((wu64 ((wu64 (v0 * v1)) + (ishr .u64 v4 32))) + (ishr .u64 (wu64 ((band .u64 v4 4294967295) + (wu64 (v3 * v1)))) 32))) (wu64 (x23 * x24))
noncomputable def F49 {α : Type} (k0 : Int → Int → Option α) (x23 : Int) (x24 : Int) : Option α := F49g  k0 x23 x24
noncomputable def EF49 (φ : (Int → Int → Option Res) → Int → Int → Option Res) : SpecE := ⟨49, [.o (.i .u64), .o (.i .u64)], fun args K => φ (fun (x25 : Int) (x26 : Int) => K (.tu [.i .u64 x25, .i .u64 x26], [])) (exI (args.getD 0 .u)) (exI (args.getD 1 .u))⟩
theorem F49Key (N : Nat)  (args : List LV) (K : Res → Option Res) : (EF49 (F49g )).F args K = ev (base.with_ [] []) 400 (.code (bodyOf Try.f49)) 49 (norL 0 (EF49 (F49g )).ps args ++ List.replicate (Try.f49.ntmps - (norL 0 (EF49 (F49g )).ps args).length) .u) ⟨[], 0⟩ (endK base Try.f49 K) := by kernel_rfl
theorem EF49Ok (N : Nat) : (EF49 F49).OK Try.prog base :=
  fun_item base_ok (S := []) (I := []) all_nil all_nil 400 (EF49 F49) (f := Try.f49) (body := bodyOf Try.f49) (by kernel_rfl) (by kernel_rfl) (fun args K => Eq.trans (by kernel_rfl) (Eq.trans (F49Key N  args K) (by kernel_rfl)))

-- math/bits.Div64, an if
noncomputable def cM51x20 : Code := cAt [1, 0, 1] (bodyOf Try.f51)
noncomputable def fM51x20 : List Pat := ([.o (.i .u64), .o (.i .u64), .o (.i .u64)] : List Pat) ++ List.replicate 17 pu ++ ([.o (.b)] : List Pat) ++ List.replicate 114 pu
noncomputable def oM51x20 : List PatO := []
noncomputable def M51x20g {α : Type}  (k0 : Int → Int → Int → Option α) (x33 : Int) (x34 : Int) (x35 : Int) (b36 : Bool) : Option α :=
    bif b36 then
      none
    else
      k0 x33 x34 x35
noncomputable def M51x20 {α : Type} (k0 : Int → Int → Int → Option α) (x33 : Int) (x34 : Int) (x35 : Int) (b36 : Bool) : Option α := M51x20g  k0 x33 x34 x35 b36
noncomputable def EM51x20 (φ : (Int → Int → Int → Option Res) → Int → Int → Int → Bool → Option Res) : ItE := codeE base 51 cM51x20 [] [0, 1, 2, 20] fM51x20 oM51x20 0 (fun K fr st => φ (fun (x37 : Int) (x38 : Int) (x39 : Int) => K .n (([.i .u64 x37, .i .u64 x38, .i .u64 x39] : List LV) ++ List.replicate 132 LV.u) ⟨[], 0⟩) (exI (fr.getD 0 .u)) (exI (fr.getD 1 .u)) (exI (fr.getD 2 .u)) (exB (fr.getD 20 .u)))
theorem M51x20Key (N : Nat)  (K : Kont) (fr : List LV) (st : St) : M51x20g  (fun (x37 : Int) (x38 : Int) (x39 : Int) => K .n (([.i .u64 x37, .i .u64 x38, .i .u64 x39] : List LV) ++ List.replicate 132 LV.u) ⟨[], 0⟩) (exI (fr.getD 0 .u)) (exI (fr.getD 1 .u)) (exI (fr.getD 2 .u)) (exB (fr.getD 20 .u)) = ev (base.with_ [] []) 400 (.code cM51x20) 51 (norL 0 fM51x20 fr) (norS oM51x20 st) (meetK base [0, 1, 2, 6, 7] 0 K) := by kernel_rfl
theorem EM51x20Ok (N : Nat) : (EM51x20 M51x20).OK Try.prog :=
  code_item base_ok (S := []) (I := []) all_nil all_nil 400 [0, 1, 2, 6, 7] (fun K fr st => Eq.trans (by kernel_rfl) (Eq.trans (M51x20Key N  K fr st) (by kernel_rfl)))

-- math/bits.Div64, an if
noncomputable def cM51x24 : Code := cAt [1, 1, 0, 1] (bodyOf Try.f51)
noncomputable def fM51x24 : List Pat := ([.o (.i .u64), .o (.i .u64), .o (.i .u64)] : List Pat) ++ List.replicate 21 pu ++ ([.o (.b)] : List Pat) ++ List.replicate 110 pu
noncomputable def oM51x24 : List PatO := []
noncomputable def M51x24g {α : Type}  (k0 : Int → Int → Int → Option α) (x43 : Int) (x44 : Int) (x45 : Int) (b46 : Bool) : Option α :=
    bif b46 then
      none
    else
      k0 x43 x44 x45
noncomputable def M51x24 {α : Type} (k0 : Int → Int → Int → Option α) (x43 : Int) (x44 : Int) (x45 : Int) (b46 : Bool) : Option α := M51x24g  k0 x43 x44 x45 b46
noncomputable def EM51x24 (φ : (Int → Int → Int → Option Res) → Int → Int → Int → Bool → Option Res) : ItE := codeE base 51 cM51x24 [] [0, 1, 2, 24] fM51x24 oM51x24 0 (fun K fr st => φ (fun (x47 : Int) (x48 : Int) (x49 : Int) => K .n (([.i .u64 x47, .i .u64 x48, .i .u64 x49] : List LV) ++ List.replicate 132 LV.u) ⟨[], 0⟩) (exI (fr.getD 0 .u)) (exI (fr.getD 1 .u)) (exI (fr.getD 2 .u)) (exB (fr.getD 24 .u)))
theorem M51x24Key (N : Nat)  (K : Kont) (fr : List LV) (st : St) : M51x24g  (fun (x47 : Int) (x48 : Int) (x49 : Int) => K .n (([.i .u64 x47, .i .u64 x48, .i .u64 x49] : List LV) ++ List.replicate 132 LV.u) ⟨[], 0⟩) (exI (fr.getD 0 .u)) (exI (fr.getD 1 .u)) (exI (fr.getD 2 .u)) (exB (fr.getD 24 .u)) = ev (base.with_ [] []) 400 (.code cM51x24) 51 (norL 0 fM51x24 fr) (norS oM51x24 st) (meetK base [0, 1, 2, 6, 7] 0 K) := by kernel_rfl
theorem EM51x24Ok (N : Nat) : (EM51x24 M51x24).OK Try.prog :=
  code_item base_ok (S := []) (I := []) all_nil all_nil 400 [0, 1, 2, 6, 7] (fun K fr st => Eq.trans (by kernel_rfl) (Eq.trans (M51x24Key N  K fr st) (by kernel_rfl)))

-- math/bits.Len64
noncomputable def F48g {α : Type}  (k0 : Int → Option α) (x56 : Int) : Option α :=
    bif decide (x56 ≥ 4294967296) then
      let v0 := ishr .u64 x56 32
      bif decide (v0 ≥ 65536) then
        let v1 := ishr .u64 v0 16
        bif decide (v1 ≥ 256) then
          let v2 := wu8 (ishr .u64 v1 8)
          bif inS v2 csv0 then
            k0 (wi64 (56 + (wi64 (bt csv0 v2))))
          else none
        else
          let v3 := wu8 v1
          bif inS v3 csv0 then
            k0 (wi64 (48 + (wi64 (bt csv0 v3))))
          else none
      else
        bif decide (v0 ≥ 256) then
          let v4 := wu8 (ishr .u64 v0 8)
          bif inS v4 csv0 then
            k0 (wi64 (40 + (wi64 (bt csv0 v4))))
          else none
        else
          let v5 := wu8 v0
          bif inS v5 csv0 then
            k0 (wi64 (32 + (wi64 (bt csv0 v5))))
          else none
    else
      bif decide (x56 ≥ 65536) then
        let v6 := ishr .u64 x56 16
        bif decide (v6 ≥ 256) then
          let v7 := wu8 (ishr .u64 v6 8)
          bif inS v7 csv0 then
            k0 (wi64 (24 + (wi64 (bt csv0 v7))))
          else none
        else
          let v8 := wu8 v6
          bif inS v8 csv0 then
            k0 (wi64 (16 + (wi64 (bt csv0 v8))))
          else none
      else
        bif decide (x56 ≥ 256) then
          let v9 := wu8 (ishr .u64 x56 8)
          bif inS v9 csv0 then
            k0 (wi64 (8 + (wi64 (bt csv0 v9))))
          else none
        else
          let v10 := wu8 x56
          bif inS v10 csv0 then
            k0 (wi64 (0 + (wi64 (bt csv0 v10))))
          else none
noncomputable def F48 {α : Type} (k0 : Int → Option α) (x56 : Int) : Option α := F48g  k0 x56
noncomputable def EF48 (φ : (Int → Option Res) → Int → Option Res) : SpecE := ⟨48, [.o (.i .u64)], fun args K => φ (fun (x57 : Int) => K (.i .i64 x57, [])) (exI (args.getD 0 .u))⟩
theorem F48Key (N : Nat)  (args : List LV) (K : Res → Option Res) : (EF48 (F48g )).F args K = ev (base.with_ [] []) 400 (.code (bodyOf Try.f48)) 48 (norL 0 (EF48 (F48g )).ps args ++ List.replicate (Try.f48.ntmps - (norL 0 (EF48 (F48g )).ps args).length) .u) ⟨[], 0⟩ (endK base Try.f48 K) := by kernel_rfl
theorem EF48Ok (N : Nat) : (EF48 F48).OK Try.prog base :=
  fun_item base_ok (S := []) (I := []) all_nil all_nil 400 (EF48 F48) (f := Try.f48) (body := bodyOf Try.f48) (by kernel_rfl) (by kernel_rfl) (fun args K => Eq.trans (by kernel_rfl) (Eq.trans (F48Key N  args K) (by kernel_rfl)))

-- math/bits.LeadingZeros64
noncomputable def F53g {α : Type} (f48 : (Int → Option α) → Int → Option α) (k0 : Int → Option α) (x55 : Int) : Option α :=
    f48 (fun (x58 : Int) =>
        k0 (wi64 (64 - x58))) x55
noncomputable def F53 {α : Type} (k0 : Int → Option α) (x55 : Int) : Option α := F53g F48 k0 x55
noncomputable def EF53 (φ : (Int → Option Res) → Int → Option Res) : SpecE := ⟨53, [.o (.i .u64)], fun args K => φ (fun (x59 : Int) => K (.i .i64 x59, [])) (exI (args.getD 0 .u))⟩
theorem F53Key (N : Nat) (f48 : (Int → Option Res) → Int → Option Res) (args : List LV) (K : Res → Option Res) : (EF53 (F53g f48)).F args K = ev (base.with_ [EF48 f48] []) 400 (.code (bodyOf Try.f53)) 53 (norL 0 (EF53 (F53g f48)).ps args ++ List.replicate (Try.f53.ntmps - (norL 0 (EF53 (F53g f48)).ps args).length) .u) ⟨[], 0⟩ (endK base Try.f53 K) := by kernel_rfl
theorem EF53Ok (N : Nat) : (EF53 F53).OK Try.prog base :=
  fun_item base_ok (S := [EF48 F48]) (I := []) (all_cons (EF48Ok N) all_nil) all_nil 400 (EF53 F53) (f := Try.f53) (body := bodyOf Try.f53) (by kernel_rfl) (by kernel_rfl) (fun args K => Eq.trans (by kernel_rfl) (Eq.trans (F53Key N F48 args K) (by kernel_rfl)))

-- math/bits.Div64, a loop
noncomputable def cL51x17 : Code := cAt [1, 1, 1, 1, 1, 1, 1, 1, 1, 1, 1, 1, 1, 1, 0, 0, 0] (bodyOf Try.f51)
noncomputable def fL51x17 : List Pat := ([pu, pu, .o (.i .u64)] : List Pat) ++ List.replicate 5 pu ++ ([.o (.i .u64), .o (.i .u64), .o (.i .u64), .o (.i .u64), pu, .o (.i .u64), .o (.i .u64), .o (.i .u64), .o (.i .u64)] : List Pat) ++ List.replicate 118 pu
noncomputable def oL51x17 : List PatO := []
noncomputable def L51x17g {α : Type}  (k0 : Int → Int → Int → Int → Int → Int → Int → Int → Option α) (rec : Int → Int → Int → Int → Int → Int → Int → Int → Int → Option α) (x61 : Int) (x62 : Int) (x63 : Int) (x64 : Int) (x65 : Int) (x66 : Int) (x67 : Int) (x68 : Int) (x69 : Int) : Option α :=
    bif decide (x68 ≥ 4294967296) then
      let v0 := wu64 (x69 + x63)
      bif decide (v0 ≥ 4294967296) then
        k0 x61 x62 x63 x64 x65 x66 x67 (wu64 (x68 - 1))
      else
        rec x61 x62 x63 x64 x65 x66 x67 (wu64 (x68 - 1)) v0
    else
      bif decide ((wu64 (x68 * x64)) > (wu64 ((wu64 (4294967296 * x69)) + x66))) then
        let v1 := wu64 (x69 + x63)
        bif decide (v1 ≥ 4294967296) then
          k0 x61 x62 x63 x64 x65 x66 x67 (wu64 (x68 - 1))
        else
          rec x61 x62 x63 x64 x65 x66 x67 (wu64 (x68 - 1)) v1
      else
        k0 x61 x62 x63 x64 x65 x66 x67 x68
noncomputable def L51x17 {α : Type} (k0 : Int → Int → Int → Int → Int → Int → Int → Int → Option α) : Nat → Int → Int → Int → Int → Int → Int → Int → Int → Int → Option α
  | 0, _, _, _, _, _, _, _, _, _ => none
  | n + 1, x61, x62, x63, x64, x65, x66, x67, x68, x69 => L51x17g  k0 (L51x17 k0 n) x61 x62 x63 x64 x65 x66 x67 x68 x69
noncomputable def EL51x17 (N : Nat) (φ : (Int → Int → Int → Int → Int → Int → Int → Int → Option Res) → Nat → Int → Int → Int → Int → Int → Int → Int → Int → Int → Option Res) : ItE := loopE base 51 cL51x17 [] [2, 8, 9, 10, 11, 13, 14, 15, 16] fL51x17 oL51x17 0 N (fun K n fr st => φ (fun (x70 : Int) (x71 : Int) (x72 : Int) (x73 : Int) (x74 : Int) (x75 : Int) (x76 : Int) (x77 : Int) => K (.e 0) (([.u, .u, .i .u64 x70] : List LV) ++ List.replicate 5 LV.u ++ ([.i .u64 x71, .i .u64 x72, .i .u64 x73, .i .u64 x74, .u, .i .u64 x75, .i .u64 x76, .i .u64 x77] : List LV) ++ List.replicate 119 LV.u) ⟨[], 0⟩) n (exI (fr.getD 2 .u)) (exI (fr.getD 8 .u)) (exI (fr.getD 9 .u)) (exI (fr.getD 10 .u)) (exI (fr.getD 11 .u)) (exI (fr.getD 13 .u)) (exI (fr.getD 14 .u)) (exI (fr.getD 15 .u)) (exI (fr.getD 16 .u)))
theorem L51x17Key (N : Nat)  (K : Kont) (rec : Int → Int → Int → Int → Int → Int → Int → Int → Int → Option Res) (fr : List LV) (st : St) : L51x17g  (fun (x70 : Int) (x71 : Int) (x72 : Int) (x73 : Int) (x74 : Int) (x75 : Int) (x76 : Int) (x77 : Int) => K (.e 0) (([.u, .u, .i .u64 x70] : List LV) ++ List.replicate 5 LV.u ++ ([.i .u64 x71, .i .u64 x72, .i .u64 x73, .i .u64 x74, .u, .i .u64 x75, .i .u64 x76, .i .u64 x77] : List LV) ++ List.replicate 119 LV.u) ⟨[], 0⟩) rec (exI (fr.getD 2 .u)) (exI (fr.getD 8 .u)) (exI (fr.getD 9 .u)) (exI (fr.getD 10 .u)) (exI (fr.getD 11 .u)) (exI (fr.getD 13 .u)) (exI (fr.getD 14 .u)) (exI (fr.getD 15 .u)) (exI (fr.getD 16 .u)) = ev (base.with_ [] []) 400 (.code cL51x17) 51 (norL 0 fL51x17 fr) (norS oL51x17 st) (headK base [] [2, 8, 9, 10, 11, 13, 14, 15, 16] [2, 6, 7, 8, 9, 10, 11, 13, 14, 15] 0 fL51x17 oL51x17 (fun fr st => rec (exI (fr.getD 2 .u)) (exI (fr.getD 8 .u)) (exI (fr.getD 9 .u)) (exI (fr.getD 10 .u)) (exI (fr.getD 11 .u)) (exI (fr.getD 13 .u)) (exI (fr.getD 14 .u)) (exI (fr.getD 15 .u)) (exI (fr.getD 16 .u))) K) := by kernel_rfl
theorem EL51x17Ok (N : Nat) : (EL51x17 N L51x17).OK Try.prog :=
  loop_item base_ok (S := []) (I := []) all_nil all_nil 400 [2, 6, 7, 8, 9, 10, 11, 13, 14, 15] (by intro K fr st; kernel_rfl) (fun K n fr st => Eq.trans (by kernel_rfl) (Eq.trans (L51x17Key N  K (L51x17 (fun (x70 : Int) (x71 : Int) (x72 : Int) (x73 : Int) (x74 : Int) (x75 : Int) (x76 : Int) (x77 : Int) => K (.e 0) (([.u, .u, .i .u64 x70] : List LV) ++ List.replicate 5 LV.u ++ ([.i .u64 x71, .i .u64 x72, .i .u64 x73, .i .u64 x74, .u, .i .u64 x75, .i .u64 x76, .i .u64 x77] : List LV) ++ List.replicate 119 LV.u) ⟨[], 0⟩) n) fr st) (by kernel_rfl)))

-- math/bits.Div64, a loop
noncomputable def cL51x24 : Code := cAt [1, 1, 1, 1, 1, 1, 1, 1, 1, 1, 1, 1, 1, 1, 1, 1, 1, 1, 0, 0, 0] (bodyOf Try.f51)
noncomputable def fL51x24 : List Pat := ([pu, pu, .o (.i .u64)] : List Pat) ++ List.replicate 5 pu ++ ([.o (.i .u64), .o (.i .u64), .o (.i .u64)] : List Pat) ++ List.replicate 3 pu ++ ([.o (.i .u64), .o (.i .u64), .o (.i .u64), .o (.i .u64), .o (.i .u64)] : List Pat) ++ List.replicate 116 pu
noncomputable def oL51x24 : List PatO := []
noncomputable def L51x24g {α : Type}  (k0 : Int → Int → Int → Int → Int → Int → Option α) (rec : Int → Int → Int → Int → Int → Int → Int → Int → Int → Option α) (x86 : Int) (x87 : Int) (x88 : Int) (x89 : Int) (x90 : Int) (x91 : Int) (x92 : Int) (x93 : Int) (x94 : Int) : Option α :=
    bif decide (x94 ≥ 4294967296) then
      let v0 := wu64 (x92 + x88)
      bif decide (v0 ≥ 4294967296) then
        k0 x86 x87 x90 x91 x93 (wu64 (x94 - 1))
      else
        rec x86 x87 x88 x89 x90 x91 v0 x93 (wu64 (x94 - 1))
    else
      bif decide ((wu64 (x94 * x89)) > (wu64 ((wu64 (4294967296 * x92)) + x90))) then
        let v1 := wu64 (x92 + x88)
        bif decide (v1 ≥ 4294967296) then
          k0 x86 x87 x90 x91 x93 (wu64 (x94 - 1))
        else
          rec x86 x87 x88 x89 x90 x91 v1 x93 (wu64 (x94 - 1))
      else
        k0 x86 x87 x90 x91 x93 x94
noncomputable def L51x24 {α : Type} (k0 : Int → Int → Int → Int → Int → Int → Option α) : Nat → Int → Int → Int → Int → Int → Int → Int → Int → Int → Option α
  | 0, _, _, _, _, _, _, _, _, _ => none
  | n + 1, x86, x87, x88, x89, x90, x91, x92, x93, x94 => L51x24g  k0 (L51x24 k0 n) x86 x87 x88 x89 x90 x91 x92 x93 x94
noncomputable def EL51x24 (N : Nat) (φ : (Int → Int → Int → Int → Int → Int → Option Res) → Nat → Int → Int → Int → Int → Int → Int → Int → Int → Int → Option Res) : ItE := loopE base 51 cL51x24 [] [2, 8, 9, 10, 14, 15, 16, 17, 18] fL51x24 oL51x24 0 N (fun K n fr st => φ (fun (x95 : Int) (x96 : Int) (x97 : Int) (x98 : Int) (x99 : Int) (x100 : Int) => K (.e 2) (([.u, .u, .i .u64 x95] : List LV) ++ List.replicate 5 LV.u ++ ([.i .u64 x96] : List LV) ++ List.replicate 5 LV.u ++ ([.i .u64 x97, .i .u64 x98, .u, .i .u64 x99, .i .u64 x100] : List LV) ++ List.replicate 116 LV.u) ⟨[], 0⟩) n (exI (fr.getD 2 .u)) (exI (fr.getD 8 .u)) (exI (fr.getD 9 .u)) (exI (fr.getD 10 .u)) (exI (fr.getD 14 .u)) (exI (fr.getD 15 .u)) (exI (fr.getD 16 .u)) (exI (fr.getD 17 .u)) (exI (fr.getD 18 .u)))
theorem L51x24Key (N : Nat)  (K : Kont) (rec : Int → Int → Int → Int → Int → Int → Int → Int → Int → Option Res) (fr : List LV) (st : St) : L51x24g  (fun (x95 : Int) (x96 : Int) (x97 : Int) (x98 : Int) (x99 : Int) (x100 : Int) => K (.e 2) (([.u, .u, .i .u64 x95] : List LV) ++ List.replicate 5 LV.u ++ ([.i .u64 x96] : List LV) ++ List.replicate 5 LV.u ++ ([.i .u64 x97, .i .u64 x98, .u, .i .u64 x99, .i .u64 x100] : List LV) ++ List.replicate 116 LV.u) ⟨[], 0⟩) rec (exI (fr.getD 2 .u)) (exI (fr.getD 8 .u)) (exI (fr.getD 9 .u)) (exI (fr.getD 10 .u)) (exI (fr.getD 14 .u)) (exI (fr.getD 15 .u)) (exI (fr.getD 16 .u)) (exI (fr.getD 17 .u)) (exI (fr.getD 18 .u)) = ev (base.with_ [] []) 400 (.code cL51x24) 51 (norL 0 fL51x24 fr) (norS oL51x24 st) (headK base [] [2, 8, 9, 10, 14, 15, 16, 17, 18] [2, 6, 7, 8, 14, 15, 17, 18] 0 fL51x24 oL51x24 (fun fr st => rec (exI (fr.getD 2 .u)) (exI (fr.getD 8 .u)) (exI (fr.getD 9 .u)) (exI (fr.getD 10 .u)) (exI (fr.getD 14 .u)) (exI (fr.getD 15 .u)) (exI (fr.getD 16 .u)) (exI (fr.getD 17 .u)) (exI (fr.getD 18 .u))) K) := by kernel_rfl
theorem EL51x24Ok (N : Nat) : (EL51x24 N L51x24).OK Try.prog :=
  loop_item base_ok (S := []) (I := []) all_nil all_nil 400 [2, 6, 7, 8, 14, 15, 17, 18] (by intro K fr st; kernel_rfl) (fun K n fr st => Eq.trans (by kernel_rfl) (Eq.trans (L51x24Key N  K (L51x24 (fun (x95 : Int) (x96 : Int) (x97 : Int) (x98 : Int) (x99 : Int) (x100 : Int) => K (.e 2) (([.u, .u, .i .u64 x95] : List LV) ++ List.replicate 5 LV.u ++ ([.i .u64 x96] : List LV) ++ List.replicate 5 LV.u ++ ([.i .u64 x97, .i .u64 x98, .u, .i .u64 x99, .i .u64 x100] : List LV) ++ List.replicate 116 LV.u) ⟨[], 0⟩) n) fr st) (by kernel_rfl)))

-- math/bits.Div64
noncomputable def F51g {α : Type} (N : Nat) (f53 : (Int → Option α) → Int → Option α) (m51x20 : (Int → Int → Int → Option α) → Int → Int → Int → Bool → Option α) (m51x24 : (Int → Int → Int → Option α) → Int → Int → Int → Bool → Option α) (l51x17 : (Int → Int → Int → Int → Int → Int → Int → Int → Option α) → Nat → Int → Int → Int → Int → Int → Int → Int → Int → Int → Option α) (l51x24 : (Int → Int → Int → Int → Int → Int → Option α) → Nat → Int → Int → Int → Int → Int → Int → Int → Int → Int → Option α) (k0 : Int → Int → Option α) (x30 : Int) (x31 : Int) (x32 : Int) : Option α :=
    m51x20 (fun (x40 : Int) (x41 : Int) (x42 : Int) =>
        m51x24 (fun (x50 : Int) (x51 : Int) (x52 : Int) =>
            bif x50 == 0 then
              let v0 := !(x52 == 0)
              bif v0 then
                bif v0 then
                  k0 (wu64 (Int.tdiv x51 x52)) (Int.tmod x51 x52)
                else none
              else none
            else
              f53 (fun (x60 : Int) =>
                  let v1 := wu64 x60
                  let v2 := decide (0 ≤ v1)
                  bif v2 then
                    bif v2 then
                      let v3 := wu64 (64 - v1)
                      bif decide (0 ≤ v3) then
                        bif v2 then
                          let v4 := ishl .u64 x52 v1
                          let v5 := ishr .u64 v4 32
                          bif !(v5 == 0) then
                            let v6 := bor .u64 (ishl .u64 x50 v1) (ishr .u64 x51 v3)
                            let v7 := ishl .u64 x51 v1
                            let v8 := wu64 (Int.tdiv v6 v5)
                            l51x17 (fun (x78 : Int) (x79 : Int) (x80 : Int) (x81 : Int) (x82 : Int) (x83 : Int) (x84 : Int) (x85 : Int) =>
                                bif !(x80 == 0) then
                                  let v9 := wu64 ((wu64 ((wu64 (x82 * 4294967296)) + x83)) - (wu64 (x85 * x78)))
                                  let v10 := wu64 (Int.tdiv v9 x80)
                                  l51x24 (fun (x101 : Int) (x102 : Int) (x103 : Int) (x104 : Int) (x105 : Int) (x106 : Int) =>
                                      bif decide (0 ≤ x102) then
                                        k0 (wu64 ((wu64 (x104 * 4294967296)) + x106)) (ishr .u64 (wu64 ((wu64 ((wu64 (x105 * 4294967296)) + x103)) - (wu64 (x106 * x101)))) x102)
                                      else none) N x78 x79 x80 x81 x84 x85 (wu64 (v9 - (wu64 (v10 * x80)))) v9 v10
                                else none) N v4 v1 v5 (band .u64 v4 4294967295) v6 (ishr .u64 v7 32) (band .u64 v7 4294967295) v8 (wu64 (v6 - (wu64 (v8 * v5))))
                          else none
                        else none
                      else none
                    else none
                  else none) x52) x40 x41 x42 (decide (x42 ≤ x40))) x30 x31 x32 (x32 == 0)
noncomputable def F51 {α : Type} (N : Nat) (k0 : Int → Int → Option α) (x30 : Int) (x31 : Int) (x32 : Int) : Option α := F51g N F53 M51x20 M51x24 L51x17 L51x24 k0 x30 x31 x32
noncomputable def EF51 (φ : (Int → Int → Option Res) → Int → Int → Int → Option Res) : SpecE := ⟨51, [.o (.i .u64), .o (.i .u64), .o (.i .u64)], fun args K => φ (fun (x53 : Int) (x54 : Int) => K (.tu [.i .u64 x53, .i .u64 x54], [])) (exI (args.getD 0 .u)) (exI (args.getD 1 .u)) (exI (args.getD 2 .u))⟩
theorem F51Key (N : Nat) (f53 : (Int → Option Res) → Int → Option Res) (m51x20 : (Int → Int → Int → Option Res) → Int → Int → Int → Bool → Option Res) (m51x24 : (Int → Int → Int → Option Res) → Int → Int → Int → Bool → Option Res) (l51x17 : (Int → Int → Int → Int → Int → Int → Int → Int → Option Res) → Nat → Int → Int → Int → Int → Int → Int → Int → Int → Int → Option Res) (l51x24 : (Int → Int → Int → Int → Int → Int → Option Res) → Nat → Int → Int → Int → Int → Int → Int → Int → Int → Int → Option Res) (args : List LV) (K : Res → Option Res) : (EF51 (F51g N f53 m51x20 m51x24 l51x17 l51x24)).F args K = ev (base.with_ [EF53 f53] [EM51x20 m51x20, EM51x24 m51x24, EL51x17 N l51x17, EL51x24 N l51x24]) 400 (.code (bodyOf Try.f51)) 51 (norL 0 (EF51 (F51g N f53 m51x20 m51x24 l51x17 l51x24)).ps args ++ List.replicate (Try.f51.ntmps - (norL 0 (EF51 (F51g N f53 m51x20 m51x24 l51x17 l51x24)).ps args).length) .u) ⟨[], 0⟩ (endK base Try.f51 K) := by kernel_rfl
theorem EF51Ok (N : Nat) : (EF51 (F51 N)).OK Try.prog base :=
  fun_item base_ok (S := [EF53 F53]) (I := [EM51x20 M51x20, EM51x24 M51x24, EL51x17 N L51x17, EL51x24 N L51x24]) (all_cons (EF53Ok N) all_nil) (all_cons (EM51x20Ok N) (all_cons (EM51x24Ok N) (all_cons (EL51x17Ok N) (all_cons (EL51x24Ok N) all_nil)))) 400 (EF51 (F51 N)) (f := Try.f51) (body := bodyOf Try.f51) (by kernel_rfl) (by kernel_rfl) (fun args K => Eq.trans (by kernel_rfl) (Eq.trans (F51Key N F53 M51x20 M51x24 L51x17 L51x24 args K) (by kernel_rfl)))

-- glazier/fixed.checked
noncomputable def F54g {α : Type}  (k0 : Int → Int → Option α) (x111 : Int) (b112 : Bool) : Option α :=
    bif !b112 then
      k0 0 2
    else
      k0 x111 0
noncomputable def F54 {α : Type} (k0 : Int → Int → Option α) (x111 : Int) (b112 : Bool) : Option α := F54g  k0 x111 b112
noncomputable def EF54 (φ : (Int → Int → Option Res) → Int → Bool → Option Res) : SpecE := ⟨54, [.o (.i .i64), .o (.b)], fun args K => φ (fun (x113 : Int) (x114 : Int) => K (.tu [.i .i64 x113, .i .i64 x114], [])) (exI (args.getD 0 .u)) (exB (args.getD 1 .u))⟩
theorem F54Key (N : Nat)  (args : List LV) (K : Res → Option Res) : (EF54 (F54g )).F args K = ev (base.with_ [] []) 400 (.code (bodyOf Try.f54)) 54 (norL 0 (EF54 (F54g )).ps args ++ List.replicate (Try.f54.ntmps - (norL 0 (EF54 (F54g )).ps args).length) .u) ⟨[], 0⟩ (endK base Try.f54 K) := by kernel_rfl
theorem EF54Ok (N : Nat) : (EF54 F54).OK Try.prog base :=
  fun_item base_ok (S := []) (I := []) all_nil all_nil 400 (EF54 F54) (f := Try.f54) (body := bodyOf Try.f54) (by kernel_rfl) (by kernel_rfl) (fun args K => Eq.trans (by kernel_rfl) (Eq.trans (F54Key N  args K) (by kernel_rfl)))

-- glazier/fixed.signed
noncomputable def F52g {α : Type} (f54 : (Int → Int → Option α) → Int → Bool → Option α) (k0 : Int → Int → Option α) (x109 : Int) (b110 : Bool) : Option α :=
    bif b110 then
      f54 (fun (x115 : Int) (x116 : Int) =>
          k0 x115 x116) (wi64 (wu64 (0 - x109))) (decide (x109 ≤ 9223372036854775808))
    else
      f54 (fun (x119 : Int) (x120 : Int) =>
          k0 x119 x120) (wi64 x109) (decide (x109 ≤ 9223372036854775807))
noncomputable def F52 {α : Type} (k0 : Int → Int → Option α) (x109 : Int) (b110 : Bool) : Option α := F52g F54 k0 x109 b110
noncomputable def EF52 (φ : (Int → Int → Option Res) → Int → Bool → Option Res) : SpecE := ⟨52, [.o (.i .u64), .o (.b)], fun args K => φ (fun (x117 : Int) (x118 : Int) => K (.tu [.i .i64 x117, .i .i64 x118], [])) (exI (args.getD 0 .u)) (exB (args.getD 1 .u))⟩
theorem F52Key (N : Nat) (f54 : (Int → Int → Option Res) → Int → Bool → Option Res) (args : List LV) (K : Res → Option Res) : (EF52 (F52g f54)).F args K = ev (base.with_ [EF54 f54] []) 400 (.code (bodyOf Try.f52)) 52 (norL 0 (EF52 (F52g f54)).ps args ++ List.replicate (Try.f52.ntmps - (norL 0 (EF52 (F52g f54)).ps args).length) .u) ⟨[], 0⟩ (endK base Try.f52 K) := by kernel_rfl
theorem EF52Ok (N : Nat) : (EF52 F52).OK Try.prog base :=
  fun_item base_ok (S := [EF54 F54]) (I := []) (all_cons (EF54Ok N) all_nil) all_nil 400 (EF52 F52) (f := Try.f52) (body := bodyOf Try.f52) (by kernel_rfl) (by kernel_rfl) (fun args K => Eq.trans (by kernel_rfl) (Eq.trans (F52Key N F54 args K) (by kernel_rfl)))

-- glazier/fixed.MulDiv
noncomputable def F45g {α : Type} (f50 : (Int → Option α) → Int → Option α) (f49 : (Int → Int → Option α) → Int → Int → Option α) (f51 : (Int → Int → Option α) → Int → Int → Int → Option α) (f52 : (Int → Int → Option α) → Int → Bool → Option α) (k0 : Int → Int → Option α) (x14 : Int) (x15 : Int) (x16 : Int) : Option α :=
    bif x16 == 0 then
      k0 0 3
    else
      f50 (fun (x21 : Int) =>
          f50 (fun (x22 : Int) =>
              f49 (fun (x27 : Int) (x28 : Int) =>
                  f50 (fun (x29 : Int) =>
                      bif decide (x27 ≥ x29) then
                        k0 0 2
                      else
                        f51 (fun (x107 : Int) (x108 : Int) =>
                            let v0 := !((!((decide (x14 < 0)) == (decide (x15 < 0)))) == (decide (x16 < 0)))
                            bif v0 then
                              bif decide (x108 > 0) then
                                let v1 := wu64 (x107 + 1)
                                bif v1 == 0 then
                                  k0 0 2
                                else
                                  f52 (fun (x121 : Int) (x122 : Int) =>
                                      k0 x121 x122) v1 v0
                              else
                                f52 (fun (x123 : Int) (x124 : Int) =>
                                    k0 x123 x124) x107 v0
                            else
                              f52 (fun (x125 : Int) (x126 : Int) =>
                                  k0 x125 x126) x107 v0) x27 x28 x29) x16) x21 x22) x15) x14
noncomputable def F45 {α : Type} (N : Nat) (k0 : Int → Int → Option α) (x14 : Int) (x15 : Int) (x16 : Int) : Option α := F45g F50 F49 (F51 N) F52 k0 x14 x15 x16
noncomputable def EF45 (φ : (Int → Int → Option Res) → Int → Int → Int → Option Res) : SpecE := ⟨45, [.o (.i .i64), .o (.i .i64), .o (.i .i64)], fun args K => φ (fun (x17 : Int) (x18 : Int) => K (.tu [.i .i64 x17, .i .i64 x18], [])) (exI (args.getD 0 .u)) (exI (args.getD 1 .u)) (exI (args.getD 2 .u))⟩
theorem F45Key (N : Nat) (f50 : (Int → Option Res) → Int → Option Res) (f49 : (Int → Int → Option Res) → Int → Int → Option Res) (f51 : (Int → Int → Option Res) → Int → Int → Int → Option Res) (f52 : (Int → Int → Option Res) → Int → Bool → Option Res) (args : List LV) (K : Res → Option Res) : (EF45 (F45g f50 f49 f51 f52)).F args K = ev (base.with_ [EF50 f50, EF49 f49, EF51 f51, EF52 f52] []) 400 (.code (bodyOf Try.f45)) 45 (norL 0 (EF45 (F45g f50 f49 f51 f52)).ps args ++ List.replicate (Try.f45.ntmps - (norL 0 (EF45 (F45g f50 f49 f51 f52)).ps args).length) .u) ⟨[], 0⟩ (endK base Try.f45 K) := by kernel_rfl
theorem EF45Ok (N : Nat) : (EF45 (F45 N)).OK Try.prog base :=
  fun_item base_ok (S := [EF50 F50, EF49 F49, EF51 (F51 N), EF52 F52]) (I := []) (all_cons (EF50Ok N) (all_cons (EF49Ok N) (all_cons (EF51Ok N) (all_cons (EF52Ok N) all_nil)))) all_nil 400 (EF45 (F45 N)) (f := Try.f45) (body := bodyOf Try.f45) (by kernel_rfl) (by kernel_rfl) (fun args K => Eq.trans (by kernel_rfl) (Eq.trans (F45Key N F50 F49 (F51 N) F52 args K) (by kernel_rfl)))

-- glazier/fixed.Floor
noncomputable def F39g {α : Type} (f45 : (Int → Int → Option α) → Int → Int → Int → Option α) (k0 : Int → Int → Option α) (x12 : Int) (x13 : Int) : Option α :=
    f45 (fun (x127 : Int) (x128 : Int) =>
        k0 x127 x128) x12 1 x13
noncomputable def F39 {α : Type} (N : Nat) (k0 : Int → Int → Option α) (x12 : Int) (x13 : Int) : Option α := F39g (F45 N) k0 x12 x13
noncomputable def EF39 (φ : (Int → Int → Option Res) → Int → Int → Option Res) : SpecE := ⟨39, [.o (.i .i64), .o (.i .i64)], fun args K => φ (fun (x129 : Int) (x130 : Int) => K (.tu [.i .i64 x129, .i .i64 x130], [])) (exI (args.getD 0 .u)) (exI (args.getD 1 .u))⟩
theorem F39Key (N : Nat) (f45 : (Int → Int → Option Res) → Int → Int → Int → Option Res) (args : List LV) (K : Res → Option Res) : (EF39 (F39g f45)).F args K = ev (base.with_ [EF45 f45] []) 400 (.code (bodyOf Try.f39)) 39 (norL 0 (EF39 (F39g f45)).ps args ++ List.replicate (Try.f39.ntmps - (norL 0 (EF39 (F39g f45)).ps args).length) .u) ⟨[], 0⟩ (endK base Try.f39 K) := by kernel_rfl
theorem EF39Ok (N : Nat) : (EF39 (F39 N)).OK Try.prog base :=
  fun_item base_ok (S := [EF45 (F45 N)]) (I := []) (all_cons (EF45Ok N) all_nil) all_nil 400 (EF39 (F39 N)) (f := Try.f39) (body := bodyOf Try.f39) (by kernel_rfl) (by kernel_rfl) (fun args K => Eq.trans (by kernel_rfl) (Eq.trans (F39Key N (F45 N) args K) (by kernel_rfl)))

-- glazier/texture.cut
noncomputable def F29g {α : Type} (f39 : (Int → Int → Option α) → Int → Int → Option α) (k0 : Int → Int → Option α) (x11 : Int) : Option α :=
    f39 (fun (x131 : Int) (x132 : Int) =>
        k0 x131 (wi64 (x11 - (wi64 (16 * x131))))) x11 16
noncomputable def F29 {α : Type} (N : Nat) (k0 : Int → Int → Option α) (x11 : Int) : Option α := F29g (F39 N) k0 x11
noncomputable def EF29 (φ : (Int → Int → Option Res) → Int → Option Res) : SpecE := ⟨29, [.o (.i .i64)], fun args K => φ (fun (x133 : Int) (x134 : Int) => K (.tu [.i .i64 x133, .i .i64 x134], [])) (exI (args.getD 0 .u))⟩
theorem F29Key (N : Nat) (f39 : (Int → Int → Option Res) → Int → Int → Option Res) (args : List LV) (K : Res → Option Res) : (EF29 (F29g f39)).F args K = ev (base.with_ [EF39 f39] []) 400 (.code (bodyOf Try.f29)) 29 (norL 0 (EF29 (F29g f39)).ps args ++ List.replicate (Try.f29.ntmps - (norL 0 (EF29 (F29g f39)).ps args).length) .u) ⟨[], 0⟩ (endK base Try.f29 K) := by kernel_rfl
theorem EF29Ok (N : Nat) : (EF29 (F29 N)).OK Try.prog base :=
  fun_item base_ok (S := [EF39 (F39 N)]) (I := []) (all_cons (EF39Ok N) all_nil) all_nil 400 (EF29 (F29 N)) (f := Try.f29) (body := bodyOf Try.f29) (by kernel_rfl) (by kernel_rfl) (fun args K => Eq.trans (by kernel_rfl) (Eq.trans (F29Key N (F39 N) args K) (by kernel_rfl)))

-- glazier/texture.sides, a loop
noncomputable def cL33x2 : Code := cAt [1, 0, 1, 0, 0] (bodyOf Try.f33)
noncomputable def fL33x2 : List Pat := List.replicate 5 pu ++ ([.o (.slv .int), .o (.i .i64), .o (.i .i64)] : List Pat) ++ List.replicate 10 pu
noncomputable def oL33x2 : List PatO := []
noncomputable def L33x2g {α : Type}  (k0 : Bool → Option α) (k1 : Option α) (rec : List Int → Int → Int → Option α) (l148 : List Int) (x149 : Int) (x150 : Int) : Option α :=
    bif decide (x150 < x149) then
      bif inb x150 l148 then
        let v0 := rd .int l148 x150
        bif decide (v0 < 1) then
          k0 false
        else
          bif decide (v0 > 16) then
            k0 false
          else
            rec l148 x149 (wi64 (x150 + 1))
      else none
    else
      k1
noncomputable def L33x2 {α : Type} (k0 : Bool → Option α) (k1 : Option α) : Nat → List Int → Int → Int → Option α
  | 0, _, _, _ => none
  | n + 1, l148, x149, x150 => L33x2g  k0 k1 (L33x2 k0 k1 n) l148 x149 x150
noncomputable def EL33x2 (N : Nat) (φ : (Bool → Option Res) → (Option Res) → Nat → List Int → Int → Int → Option Res) : ItE := loopE base 33 cL33x2 [] [5, 6, 7] fL33x2 oL33x2 0 N (fun K n fr st => φ (fun (b151 : Bool) => K .r (([.u, .u, .b b151] : List LV) ++ List.replicate 15 LV.u) ⟨[], 0⟩) (K (.e 0) (List.replicate 18 LV.u) ⟨[], 0⟩) n (exT .int (fr.getD 5 .u)) (exI (fr.getD 6 .u)) (exI (fr.getD 7 .u)))
theorem L33x2Key (N : Nat)  (K : Kont) (rec : List Int → Int → Int → Option Res) (fr : List LV) (st : St) : L33x2g  (fun (b151 : Bool) => K .r (([.u, .u, .b b151] : List LV) ++ List.replicate 15 LV.u) ⟨[], 0⟩) (K (.e 0) (List.replicate 18 LV.u) ⟨[], 0⟩) rec (exT .int (fr.getD 5 .u)) (exI (fr.getD 6 .u)) (exI (fr.getD 7 .u)) = ev (base.with_ [] []) 400 (.code cL33x2) 33 (norL 0 fL33x2 fr) (norS oL33x2 st) (headK base [] [5, 6, 7] [2] 0 fL33x2 oL33x2 (fun fr st => rec (exT .int (fr.getD 5 .u)) (exI (fr.getD 6 .u)) (exI (fr.getD 7 .u))) K) := by kernel_rfl
theorem EL33x2Ok (N : Nat) : (EL33x2 N L33x2).OK Try.prog :=
  loop_item base_ok (S := []) (I := []) all_nil all_nil 400 [2] (by intro K fr st; kernel_rfl) (fun K n fr st => Eq.trans (by kernel_rfl) (Eq.trans (L33x2Key N  K (L33x2 (fun (b151 : Bool) => K .r (([.u, .u, .b b151] : List LV) ++ List.replicate 15 LV.u) ⟨[], 0⟩) (K (.e 0) (List.replicate 18 LV.u) ⟨[], 0⟩) n) fr st) (by kernel_rfl)))

-- glazier/texture.sides
noncomputable def F33g {α : Type} (N : Nat) (l33x2 : (Bool → Option α) → (Option α) → Nat → List Int → Int → Int → Option α) (k0 : Bool → Option α) (l147 : List Int) : Option α :=
    l33x2 (fun (b152 : Bool) =>
        k0 b152) (
        k0 true) N l147 (ln l147) 0
noncomputable def F33 {α : Type} (N : Nat) (k0 : Bool → Option α) (l147 : List Int) : Option α := F33g N L33x2 k0 l147
noncomputable def EF33 (φ : (Bool → Option Res) → List Int → Option Res) : SpecE := ⟨33, [.o (.slv .int)], fun args K => φ (fun (b153 : Bool) => K (.b b153, [])) (exT .int (args.getD 0 .u))⟩
theorem F33Key (N : Nat) (l33x2 : (Bool → Option Res) → (Option Res) → Nat → List Int → Int → Int → Option Res) (args : List LV) (K : Res → Option Res) : (EF33 (F33g N l33x2)).F args K = ev (base.with_ [] [EL33x2 N l33x2]) 400 (.code (bodyOf Try.f33)) 33 (norL 0 (EF33 (F33g N l33x2)).ps args ++ List.replicate (Try.f33.ntmps - (norL 0 (EF33 (F33g N l33x2)).ps args).length) .u) ⟨[], 0⟩ (endK base Try.f33 K) := by kernel_rfl
theorem EF33Ok (N : Nat) : (EF33 (F33 N)).OK Try.prog base :=
  fun_item base_ok (S := []) (I := [EL33x2 N L33x2]) all_nil (all_cons (EL33x2Ok N) all_nil) 400 (EF33 (F33 N)) (f := Try.f33) (body := bodyOf Try.f33) (by kernel_rfl) (by kernel_rfl) (fun args K => Eq.trans (by kernel_rfl) (Eq.trans (F33Key N L33x2 args K) (by kernel_rfl)))

-- glazier/texture.Right
noncomputable def F20g {α : Type} (f33 : (Bool → Option α) → List Int → Option α) (k0 : Bool → Option α) (x144 : Int) (x145 : Int) (l146 : List Col) : Option α :=
    f33 (fun (b154 : Bool) =>
        bif b154 then
          k0 ((ln l146) == (wi64 (x144 * x145)))
        else
          k0 false) ([x144, x145] : List Int)
noncomputable def F20 {α : Type} (N : Nat) (k0 : Bool → Option α) (x144 : Int) (x145 : Int) (l146 : List Col) : Option α := F20g (F33 N) k0 x144 x145 l146
noncomputable def EF20 (φ : (Bool → Option Res) → Int → Int → List Col → Option Res) : SpecE := ⟨20, [.ag [.i .i64, .i .i64, .slv .col]], fun args K => φ (fun (b155 : Bool) => K (.b b155, [])) (exI ((exC (args.getD 0 .u)).getD 0 .u)) (exI ((exC (args.getD 0 .u)).getD 1 .u)) (exT .col ((exC (args.getD 0 .u)).getD 2 .u))⟩
theorem F20Key (N : Nat) (f33 : (Bool → Option Res) → List Int → Option Res) (args : List LV) (K : Res → Option Res) : (EF20 (F20g f33)).F args K = ev (base.with_ [EF33 f33] []) 400 (.code (bodyOf Try.f20)) 20 (norL 0 (EF20 (F20g f33)).ps args ++ List.replicate (Try.f20.ntmps - (norL 0 (EF20 (F20g f33)).ps args).length) .u) ⟨[], 0⟩ (endK base Try.f20 K) := by kernel_rfl
theorem EF20Ok (N : Nat) : (EF20 (F20 N)).OK Try.prog base :=
  fun_item base_ok (S := [EF33 (F33 N)]) (I := []) (all_cons (EF33Ok N) all_nil) all_nil 400 (EF20 (F20 N)) (f := Try.f20) (body := bodyOf Try.f20) (by kernel_rfl) (by kernel_rfl) (fun args K => Eq.trans (by kernel_rfl) (Eq.trans (F20Key N (F33 N) args K) (by kernel_rfl)))

-- glazier/texture.Texel
noncomputable def F32g {α : Type} (f20 : (Bool → Option α) → Int → Int → List Col → Option α) (k0 : Int → Int → Int → Int → Option α) (x139 : Int) (x140 : Int) (l141 : List Col) (x142 : Int) (x143 : Int) : Option α :=
    f20 (fun (b156 : Bool) =>
        bif !b156 then
          k0 0 0 0 0
        else
          let v0 := !(x139 == 0)
          bif v0 then
            bif v0 then
              let v1 := !(x140 == 0)
              bif v1 then
                bif v1 then
                  let v2 := wi64 ((wi64 ((Int.tmod (wi64 ((Int.tmod x143 x140) + x140)) x140) * x139)) + (Int.tmod (wi64 ((Int.tmod x142 x139) + x139)) x139))
                  bif inb v2 l141 then
                    let v3 := rd .col l141 v2
                    k0 v3.r v3.g v3.b v3.a
                  else none
                else none
              else none
            else none
          else none) x139 x140 l141
noncomputable def F32 {α : Type} (N : Nat) (k0 : Int → Int → Int → Int → Option α) (x139 : Int) (x140 : Int) (l141 : List Col) (x142 : Int) (x143 : Int) : Option α := F32g (F20 N) k0 x139 x140 l141 x142 x143
noncomputable def EF32 (φ : (Int → Int → Int → Int → Option Res) → Int → Int → List Col → Int → Int → Option Res) : SpecE := ⟨32, [.ag [.i .i64, .i .i64, .slv .col], .o (.i .i64), .o (.i .i64)], fun args K => φ (fun (x157 : Int) (x158 : Int) (x159 : Int) (x160 : Int) => K (.ag [.i .u8 x157, .i .u8 x158, .i .u8 x159, .i .u8 x160], [])) (exI ((exC (args.getD 0 .u)).getD 0 .u)) (exI ((exC (args.getD 0 .u)).getD 1 .u)) (exT .col ((exC (args.getD 0 .u)).getD 2 .u)) (exI (args.getD 1 .u)) (exI (args.getD 2 .u))⟩
theorem F32Key (N : Nat) (f20 : (Bool → Option Res) → Int → Int → List Col → Option Res) (args : List LV) (K : Res → Option Res) : (EF32 (F32g f20)).F args K = ev (base.with_ [EF20 f20] []) 400 (.code (bodyOf Try.f32)) 32 (norL 0 (EF32 (F32g f20)).ps args ++ List.replicate (Try.f32.ntmps - (norL 0 (EF32 (F32g f20)).ps args).length) .u) ⟨[], 0⟩ (endK base Try.f32 K) := by kernel_rfl
theorem EF32Ok (N : Nat) : (EF32 (F32 N)).OK Try.prog base :=
  fun_item base_ok (S := [EF20 (F20 N)]) (I := []) (all_cons (EF20Ok N) all_nil) all_nil 400 (EF32 (F32 N)) (f := Try.f32) (body := bodyOf Try.f32) (by kernel_rfl) (by kernel_rfl) (fun args K => Eq.trans (by kernel_rfl) (Eq.trans (F32Key N (F20 N) args K) (by kernel_rfl)))

-- glazier/fixed.Sat
noncomputable def F47g {α : Type}  (k0 : Int → Option α) (x178 : Int) : Option α :=
    k0 (wu8 (mn (mx x178 0) 255))
noncomputable def F47 {α : Type} (k0 : Int → Option α) (x178 : Int) : Option α := F47g  k0 x178
noncomputable def EF47 (φ : (Int → Option Res) → Int → Option Res) : SpecE := ⟨47, [.o (.i .i64)], fun args K => φ (fun (x179 : Int) => K (.i .u8 x179, [])) (exI (args.getD 0 .u))⟩
theorem F47Key (N : Nat)  (args : List LV) (K : Res → Option Res) : (EF47 (F47g )).F args K = ev (base.with_ [] []) 400 (.code (bodyOf Try.f47)) 47 (norL 0 (EF47 (F47g )).ps args ++ List.replicate (Try.f47.ntmps - (norL 0 (EF47 (F47g )).ps args).length) .u) ⟨[], 0⟩ (endK base Try.f47 K) := by kernel_rfl
theorem EF47Ok (N : Nat) : (EF47 F47).OK Try.prog base :=
  fun_item base_ok (S := []) (I := []) all_nil all_nil 400 (EF47 F47) (f := Try.f47) (body := bodyOf Try.f47) (by kernel_rfl) (by kernel_rfl) (fun args K => Eq.trans (by kernel_rfl) (Eq.trans (F47Key N  args K) (by kernel_rfl)))

-- glazier/colour.Mix
noncomputable def F31g {α : Type} (f47 : (Int → Option α) → Int → Option α) (k0 : Int → Int → Int → Int → Option α) (x169 : Int) (x170 : Int) (x171 : Int) (x172 : Int) (x173 : Int) (x174 : Int) (x175 : Int) (x176 : Int) (x177 : Int) : Option α :=
    let v0 := mn (mx x177 0) 256
    let v1 := wi64 (256 - v0)
    f47 (fun (x180 : Int) =>
        f47 (fun (x181 : Int) =>
            f47 (fun (x182 : Int) =>
                f47 (fun (x183 : Int) =>
                    k0 x180 x181 x182 x183) (wi64 (Int.tdiv (wi64 ((wi64 ((wi64 ((wi64 x172) * v1)) + (wi64 ((wi64 x176) * v0)))) + 128)) 256))) (wi64 (Int.tdiv (wi64 ((wi64 ((wi64 ((wi64 x171) * v1)) + (wi64 ((wi64 x175) * v0)))) + 128)) 256))) (wi64 (Int.tdiv (wi64 ((wi64 ((wi64 ((wi64 x170) * v1)) + (wi64 ((wi64 x174) * v0)))) + 128)) 256))) (wi64 (Int.tdiv (wi64 ((wi64 ((wi64 ((wi64 x169) * v1)) + (wi64 ((wi64 x173) * v0)))) + 128)) 256))
noncomputable def F31 {α : Type} (k0 : Int → Int → Int → Int → Option α) (x169 : Int) (x170 : Int) (x171 : Int) (x172 : Int) (x173 : Int) (x174 : Int) (x175 : Int) (x176 : Int) (x177 : Int) : Option α := F31g F47 k0 x169 x170 x171 x172 x173 x174 x175 x176 x177
noncomputable def EF31 (φ : (Int → Int → Int → Int → Option Res) → Int → Int → Int → Int → Int → Int → Int → Int → Int → Option Res) : SpecE := ⟨31, [.ag [.i .u8, .i .u8, .i .u8, .i .u8], .ag [.i .u8, .i .u8, .i .u8, .i .u8], .o (.i .i64)], fun args K => φ (fun (x184 : Int) (x185 : Int) (x186 : Int) (x187 : Int) => K (.ag [.i .u8 x184, .i .u8 x185, .i .u8 x186, .i .u8 x187], [])) (exI ((exC (args.getD 0 .u)).getD 0 .u)) (exI ((exC (args.getD 0 .u)).getD 1 .u)) (exI ((exC (args.getD 0 .u)).getD 2 .u)) (exI ((exC (args.getD 0 .u)).getD 3 .u)) (exI ((exC (args.getD 1 .u)).getD 0 .u)) (exI ((exC (args.getD 1 .u)).getD 1 .u)) (exI ((exC (args.getD 1 .u)).getD 2 .u)) (exI ((exC (args.getD 1 .u)).getD 3 .u)) (exI (args.getD 2 .u))⟩
theorem F31Key (N : Nat) (f47 : (Int → Option Res) → Int → Option Res) (args : List LV) (K : Res → Option Res) : (EF31 (F31g f47)).F args K = ev (base.with_ [EF47 f47] []) 400 (.code (bodyOf Try.f31)) 31 (norL 0 (EF31 (F31g f47)).ps args ++ List.replicate (Try.f31.ntmps - (norL 0 (EF31 (F31g f47)).ps args).length) .u) ⟨[], 0⟩ (endK base Try.f31 K) := by kernel_rfl
theorem EF31Ok (N : Nat) : (EF31 F31).OK Try.prog base :=
  fun_item base_ok (S := [EF47 F47]) (I := []) (all_cons (EF47Ok N) all_nil) all_nil 400 (EF31 F31) (f := Try.f31) (body := bodyOf Try.f31) (by kernel_rfl) (by kernel_rfl) (fun args K => Eq.trans (by kernel_rfl) (Eq.trans (F31Key N F47 args K) (by kernel_rfl)))

-- glazier/texture.Smooth
noncomputable def F19g {α : Type} (f29 : (Int → Int → Option α) → Int → Option α) (f32 : (Int → Int → Int → Int → Option α) → Int → Int → List Col → Int → Int → Option α) (f31 : (Int → Int → Int → Int → Option α) → Int → Int → Int → Int → Int → Int → Int → Int → Int → Option α) (k0 : Int → Int → Int → Int → Option α) (x6 : Int) (x7 : Int) (l8 : List Col) (x9 : Int) (x10 : Int) : Option α :=
    f29 (fun (x135 : Int) (x136 : Int) =>
        f29 (fun (x137 : Int) (x138 : Int) =>
            f32 (fun (x161 : Int) (x162 : Int) (x163 : Int) (x164 : Int) =>
                let v0 := wi64 (x135 + 1)
                f32 (fun (x165 : Int) (x166 : Int) (x167 : Int) (x168 : Int) =>
                    let v1 := wi64 (16 * x136)
                    f31 (fun (x188 : Int) (x189 : Int) (x190 : Int) (x191 : Int) =>
                        let v2 := wi64 (x137 + 1)
                        f32 (fun (x192 : Int) (x193 : Int) (x194 : Int) (x195 : Int) =>
                            f32 (fun (x196 : Int) (x197 : Int) (x198 : Int) (x199 : Int) =>
                                f31 (fun (x200 : Int) (x201 : Int) (x202 : Int) (x203 : Int) =>
                                    f31 (fun (x204 : Int) (x205 : Int) (x206 : Int) (x207 : Int) =>
                                        k0 x204 x205 x206 x207) x188 x189 x190 x191 x200 x201 x202 x203 (wi64 (16 * x138))) x192 x193 x194 x195 x196 x197 x198 x199 v1) x6 x7 l8 v0 v2) x6 x7 l8 x135 v2) x161 x162 x163 x164 x165 x166 x167 x168 v1) x6 x7 l8 v0 x137) x6 x7 l8 x135 x137) (wi64 (x10 - 8))) (wi64 (x9 - 8))
noncomputable def F19 {α : Type} (N : Nat) (k0 : Int → Int → Int → Int → Option α) (x6 : Int) (x7 : Int) (l8 : List Col) (x9 : Int) (x10 : Int) : Option α := F19g (F29 N) (F32 N) F31 k0 x6 x7 l8 x9 x10
noncomputable def EF19 (φ : (Int → Int → Int → Int → Option Res) → Int → Int → List Col → Int → Int → Option Res) : SpecE := ⟨19, [.ag [.i .i64, .i .i64, .slv .col], .o (.i .i64), .o (.i .i64)], fun args K => φ (fun (x208 : Int) (x209 : Int) (x210 : Int) (x211 : Int) => K (.ag [.i .u8 x208, .i .u8 x209, .i .u8 x210, .i .u8 x211], [])) (exI ((exC (args.getD 0 .u)).getD 0 .u)) (exI ((exC (args.getD 0 .u)).getD 1 .u)) (exT .col ((exC (args.getD 0 .u)).getD 2 .u)) (exI (args.getD 1 .u)) (exI (args.getD 2 .u))⟩
theorem F19Key (N : Nat) (f29 : (Int → Int → Option Res) → Int → Option Res) (f32 : (Int → Int → Int → Int → Option Res) → Int → Int → List Col → Int → Int → Option Res) (f31 : (Int → Int → Int → Int → Option Res) → Int → Int → Int → Int → Int → Int → Int → Int → Int → Option Res) (args : List LV) (K : Res → Option Res) : (EF19 (F19g f29 f32 f31)).F args K = ev (base.with_ [EF29 f29, EF32 f32, EF31 f31] []) 400 (.code (bodyOf Try.f19)) 19 (norL 0 (EF19 (F19g f29 f32 f31)).ps args ++ List.replicate (Try.f19.ntmps - (norL 0 (EF19 (F19g f29 f32 f31)).ps args).length) .u) ⟨[], 0⟩ (endK base Try.f19 K) := by kernel_rfl
theorem EF19Ok (N : Nat) : (EF19 (F19 N)).OK Try.prog base :=
  fun_item base_ok (S := [EF29 (F29 N), EF32 (F32 N), EF31 F31]) (I := []) (all_cons (EF29Ok N) (all_cons (EF32Ok N) (all_cons (EF31Ok N) all_nil))) all_nil 400 (EF19 (F19 N)) (f := Try.f19) (body := bodyOf Try.f19) (by kernel_rfl) (by kernel_rfl) (fun args K => Eq.trans (by kernel_rfl) (Eq.trans (F19Key N (F29 N) (F32 N) F31 args K) (by kernel_rfl)))

-- glazier/glazierlaw11.shown
noncomputable def F14g {α : Type} (f19 : (Int → Int → Int → Int → Option α) → Int → Int → List Col → Int → Int → Option α) (k0 : Bool → Option α)  : Option α :=
    f19 (fun (x212 : Int) (x213 : Int) (x214 : Int) (x215 : Int) =>
        k0 ((x212 == 128) && ((x213 == 128) && ((x214 == 128) && ((x215 == 128) && true))))) 2 1 ([(⟨0, 0, 0, 0⟩ : Col), (⟨255, 255, 255, 255⟩ : Col)] : List Col) 16 0
noncomputable def F14 {α : Type} (N : Nat) (k0 : Bool → Option α)  : Option α := F14g (F19 N) k0 
noncomputable def EF14 (φ : (Bool → Option Res) → Option Res) : SpecE := ⟨14, [], fun args K => φ (fun (b216 : Bool) => K (.b b216, [])) ⟩
theorem F14Key (N : Nat) (f19 : (Int → Int → Int → Int → Option Res) → Int → Int → List Col → Int → Int → Option Res) (args : List LV) (K : Res → Option Res) : (EF14 (F14g f19)).F args K = ev (base.with_ [EF19 f19] []) 400 (.code (bodyOf Try.f14)) 14 (norL 0 (EF14 (F14g f19)).ps args ++ List.replicate (Try.f14.ntmps - (norL 0 (EF14 (F14g f19)).ps args).length) .u) ⟨[], 0⟩ (endK base Try.f14 K) := by kernel_rfl
theorem EF14Ok (N : Nat) : (EF14 (F14 N)).OK Try.prog base :=
  fun_item base_ok (S := [EF19 (F19 N)]) (I := []) (all_cons (EF19Ok N) all_nil) all_nil 400 (EF14 (F14 N)) (f := Try.f14) (body := bodyOf Try.f14) (by kernel_rfl) (by kernel_rfl) (fun args K => Eq.trans (by kernel_rfl) (Eq.trans (F14Key N (F19 N) args K) (by kernel_rfl)))

-- glazier/glazierlaw11.few
noncomputable def F16g {α : Type}  (k0 : Int → Int → List Col → Option α) (x218 : Int) (x219 : Int) (l220 : List Col) : Option α :=
    bif decide ((ln l220) > 300) then
      bif insl 0 300 l220 then
        k0 x218 x219 (subL l220 0 300)
      else none
    else
      k0 x218 x219 l220
noncomputable def F16 {α : Type} (k0 : Int → Int → List Col → Option α) (x218 : Int) (x219 : Int) (l220 : List Col) : Option α := F16g  k0 x218 x219 l220
noncomputable def EF16 (φ : (Int → Int → List Col → Option Res) → Int → Int → List Col → Option Res) : SpecE := ⟨16, [.ag [.i .i64, .i .i64, .slv .col]], fun args K => φ (fun (x221 : Int) (x222 : Int) (l223 : List Col) => K (.ag [.i .i64 x221, .i .i64 x222, .slv ⟨.col, l223⟩], [])) (exI ((exC (args.getD 0 .u)).getD 0 .u)) (exI ((exC (args.getD 0 .u)).getD 1 .u)) (exT .col ((exC (args.getD 0 .u)).getD 2 .u))⟩
theorem F16Key (N : Nat)  (args : List LV) (K : Res → Option Res) : (EF16 (F16g )).F args K = ev (base.with_ [] []) 400 (.code (bodyOf Try.f16)) 16 (norL 0 (EF16 (F16g )).ps args ++ List.replicate (Try.f16.ntmps - (norL 0 (EF16 (F16g )).ps args).length) .u) ⟨[], 0⟩ (endK base Try.f16 K) := by kernel_rfl
theorem EF16Ok (N : Nat) : (EF16 F16).OK Try.prog base :=
  fun_item base_ok (S := []) (I := []) all_nil all_nil 400 (EF16 F16) (f := Try.f16) (body := bodyOf Try.f16) (by kernel_rfl) (by kernel_rfl) (fun args K => Eq.trans (by kernel_rfl) (Eq.trans (F16Key N  args K) (by kernel_rfl)))

-- glazier/glazierref11.wrap
noncomputable def F27g {α : Type}  (k0 : Int → Option α) (x230 : Int) (x231 : Int) : Option α :=
    bif !(x231 == 0) then
      let v0 := Int.tmod x230 x231
      bif decide (v0 < 0) then
        k0 (wi64 (v0 + x231))
      else
        k0 v0
    else none
noncomputable def F27 {α : Type} (k0 : Int → Option α) (x230 : Int) (x231 : Int) : Option α := F27g  k0 x230 x231
noncomputable def EF27 (φ : (Int → Option Res) → Int → Int → Option Res) : SpecE := ⟨27, [.o (.i .i64), .o (.i .i64)], fun args K => φ (fun (x232 : Int) => K (.i .i64 x232, [])) (exI (args.getD 0 .u)) (exI (args.getD 1 .u))⟩
theorem F27Key (N : Nat)  (args : List LV) (K : Res → Option Res) : (EF27 (F27g )).F args K = ev (base.with_ [] []) 400 (.code (bodyOf Try.f27)) 27 (norL 0 (EF27 (F27g )).ps args ++ List.replicate (Try.f27.ntmps - (norL 0 (EF27 (F27g )).ps args).length) .u) ⟨[], 0⟩ (endK base Try.f27 K) := by kernel_rfl
theorem EF27Ok (N : Nat) : (EF27 F27).OK Try.prog base :=
  fun_item base_ok (S := []) (I := []) all_nil all_nil 400 (EF27 F27) (f := Try.f27) (body := bodyOf Try.f27) (by kernel_rfl) (by kernel_rfl) (fun args K => Eq.trans (by kernel_rfl) (Eq.trans (F27Key N  args K) (by kernel_rfl)))

-- glazier/glazierref11.Fit, a loop
noncomputable def cL15x3 : Code := cAt [1, 1, 0, 1, 0, 0] (bodyOf Try.f15)
noncomputable def fL15x3 : List Pat := ([pu, .o (.p 0 0 0), .o (.p 1 0 0), .o (.p 2 0 0), .o (.i .i64)] : List Pat) ++ List.replicate 42 pu
noncomputable def oL15x3 : List PatO := [.cells [.o (.i .i64), .o (.i .i64), .o (.slv .col)], .cells [.o (.i .i64), .o (.i .i64), .o (.sl 3)], .cells [.o (.i .i64), .o (.i .i64), .o (.sl 4)], .arr .col 45, .arr .col 45]
noncomputable def L15x3g {α : Type}  (k0 : Int → Int → List Col → Int → Int → Int → Int → List Col → List Col → Option α) (rec : Int → Int → Int → List Col → Int → Int → Int → Int → List Col → List Col → Option α) (x235 : Int) (x236 : Int) (x237 : Int) (l238 : List Col) (x239 : Int) (x240 : Int) (x241 : Int) (x242 : Int) (l243 : List Col) (l244 : List Col) : Option α :=
    bif decide (x235 < (wi64 (x241 * x242))) then
      bif decide (x235 < (ln l238)) then
        bif inb x235 l238 then
          let v0 := ([rd .col l238 x235] : List Col)
          bif room l244 v0 then
            rec (wi64 (x235 + 1)) x236 x237 l238 x239 x240 x241 x242 l243 (l244 ++ v0)
          else none
        else none
      else
        let v1 := ([(⟨wu8 (wi64 (x235 * 16)), wu8 x235, 7, 255⟩ : Col)] : List Col)
        bif room l244 v1 then
          rec (wi64 (x235 + 1)) x236 x237 l238 x239 x240 x241 x242 l243 (l244 ++ v1)
        else none
    else
      k0 x236 x237 l238 x239 x240 x241 x242 l243 l244
noncomputable def L15x3 {α : Type} (k0 : Int → Int → List Col → Int → Int → Int → Int → List Col → List Col → Option α) : Nat → Int → Int → Int → List Col → Int → Int → Int → Int → List Col → List Col → Option α
  | 0, _, _, _, _, _, _, _, _, _, _ => none
  | n + 1, x235, x236, x237, l238, x239, x240, x241, x242, l243, l244 => L15x3g  k0 (L15x3 k0 n) x235 x236 x237 l238 x239 x240 x241 x242 l243 l244
noncomputable def EL15x3 (N : Nat) (φ : (Int → Int → List Col → Int → Int → Int → Int → List Col → List Col → Option Res) → Nat → Int → Int → Int → List Col → Int → Int → Int → Int → List Col → List Col → Option Res) : ItE := loopE base 15 cL15x3 [] [1, 2, 3, 4] fL15x3 oL15x3 3 N (fun K n fr st => φ (fun (x245 : Int) (x246 : Int) (l247 : List Col) (x248 : Int) (x249 : Int) (x250 : Int) (x251 : Int) (l252 : List Col) (l253 : List Col) => K (.e 0) (([.u, .u, .p 1 0 0, .p 2 0 0] : List LV) ++ List.replicate 43 LV.u) ⟨[.cells [.i .i64 x245, .i .i64 x246, .slv ⟨.col, l247⟩], .cells [.i .i64 x248, .i .i64 x249, .sl 3], .cells [.i .i64 x250, .i .i64 x251, .sl 4], .arr ⟨.col, l252⟩ 45, .arr ⟨.col, l253⟩ 45], 0⟩) n (exI (fr.getD 4 .u)) (exI ((exF (st.L.getD 0 .dead)).getD 0 .u)) (exI ((exF (st.L.getD 0 .dead)).getD 1 .u)) (exT .col ((exF (st.L.getD 0 .dead)).getD 2 .u)) (exI ((exF (st.L.getD 1 .dead)).getD 0 .u)) (exI ((exF (st.L.getD 1 .dead)).getD 1 .u)) (exI ((exF (st.L.getD 2 .dead)).getD 0 .u)) (exI ((exF (st.L.getD 2 .dead)).getD 1 .u)) (exA .col (st.L.getD 3 .dead)) (exA .col (st.L.getD 4 .dead)))
theorem L15x3Key (N : Nat)  (K : Kont) (rec : Int → Int → Int → List Col → Int → Int → Int → Int → List Col → List Col → Option Res) (fr : List LV) (st : St) : L15x3g  (fun (x245 : Int) (x246 : Int) (l247 : List Col) (x248 : Int) (x249 : Int) (x250 : Int) (x251 : Int) (l252 : List Col) (l253 : List Col) => K (.e 0) (([.u, .u, .p 1 0 0, .p 2 0 0] : List LV) ++ List.replicate 43 LV.u) ⟨[.cells [.i .i64 x245, .i .i64 x246, .slv ⟨.col, l247⟩], .cells [.i .i64 x248, .i .i64 x249, .sl 3], .cells [.i .i64 x250, .i .i64 x251, .sl 4], .arr ⟨.col, l252⟩ 45, .arr ⟨.col, l253⟩ 45], 0⟩) rec (exI (fr.getD 4 .u)) (exI ((exF (st.L.getD 0 .dead)).getD 0 .u)) (exI ((exF (st.L.getD 0 .dead)).getD 1 .u)) (exT .col ((exF (st.L.getD 0 .dead)).getD 2 .u)) (exI ((exF (st.L.getD 1 .dead)).getD 0 .u)) (exI ((exF (st.L.getD 1 .dead)).getD 1 .u)) (exI ((exF (st.L.getD 2 .dead)).getD 0 .u)) (exI ((exF (st.L.getD 2 .dead)).getD 1 .u)) (exA .col (st.L.getD 3 .dead)) (exA .col (st.L.getD 4 .dead)) = ev (base.with_ [] []) 400 (.code cL15x3) 15 (norL 0 fL15x3 fr) (norS oL15x3 st) (headK base [] [1, 2, 3, 4] [2, 3] 3 fL15x3 oL15x3 (fun fr st => rec (exI (fr.getD 4 .u)) (exI ((exF (st.L.getD 0 .dead)).getD 0 .u)) (exI ((exF (st.L.getD 0 .dead)).getD 1 .u)) (exT .col ((exF (st.L.getD 0 .dead)).getD 2 .u)) (exI ((exF (st.L.getD 1 .dead)).getD 0 .u)) (exI ((exF (st.L.getD 1 .dead)).getD 1 .u)) (exI ((exF (st.L.getD 2 .dead)).getD 0 .u)) (exI ((exF (st.L.getD 2 .dead)).getD 1 .u)) (exA .col (st.L.getD 3 .dead)) (exA .col (st.L.getD 4 .dead))) K) := by kernel_rfl
theorem EL15x3Ok (N : Nat) : (EL15x3 N L15x3).OK Try.prog :=
  loop_item base_ok (S := []) (I := []) all_nil all_nil 400 [2, 3] (by intro K fr st; kernel_rfl) (fun K n fr st => Eq.trans (by kernel_rfl) (Eq.trans (L15x3Key N  K (L15x3 (fun (x245 : Int) (x246 : Int) (l247 : List Col) (x248 : Int) (x249 : Int) (x250 : Int) (x251 : Int) (l252 : List Col) (l253 : List Col) => K (.e 0) (([.u, .u, .p 1 0 0, .p 2 0 0] : List LV) ++ List.replicate 43 LV.u) ⟨[.cells [.i .i64 x245, .i .i64 x246, .slv ⟨.col, l247⟩], .cells [.i .i64 x248, .i .i64 x249, .sl 3], .cells [.i .i64 x250, .i .i64 x251, .sl 4], .arr ⟨.col, l252⟩ 45, .arr ⟨.col, l253⟩ 45], 0⟩) n) fr st) (by kernel_rfl)))

-- glazier/glazierref11.Fit
noncomputable def F15g {α : Type} (N : Nat) (f27 : (Int → Option α) → Int → Int → Option α) (l15x3 : (Int → Int → List Col → Int → Int → Int → Int → List Col → List Col → Option α) → Nat → Int → Int → Int → List Col → Int → Int → Int → Int → List Col → List Col → Option α) (k0 : Int → Int → List Col → Option α) (x227 : Int) (x228 : Int) (l229 : List Col) : Option α :=
    f27 (fun (x233 : Int) =>
        f27 (fun (x234 : Int) =>
            let v0 := ([] : List Col)
            l15x3 (fun (x254 : Int) (x255 : Int) (l256 : List Col) (x257 : Int) (x258 : Int) (x259 : Int) (x260 : Int) (l261 : List Col) (l262 : List Col) =>
                k0 x259 x260 l262) N 0 x227 x228 l229 0 0 (wi64 (1 + x233)) (wi64 (1 + x234)) v0 v0) x228 16) x227 16
noncomputable def F15 {α : Type} (N : Nat) (k0 : Int → Int → List Col → Option α) (x227 : Int) (x228 : Int) (l229 : List Col) : Option α := F15g N F27 L15x3 k0 x227 x228 l229
noncomputable def EF15 (φ : (Int → Int → List Col → Option Res) → Int → Int → List Col → Option Res) : SpecE := ⟨15, [.ag [.i .i64, .i .i64, .slv .col]], fun args K => φ (fun (x263 : Int) (x264 : Int) (l265 : List Col) => K (.ag [.i .i64 x263, .i .i64 x264, .sl 0], [(⟨.col, l265⟩, 45)])) (exI ((exC (args.getD 0 .u)).getD 0 .u)) (exI ((exC (args.getD 0 .u)).getD 1 .u)) (exT .col ((exC (args.getD 0 .u)).getD 2 .u))⟩
theorem F15Key (N : Nat) (f27 : (Int → Option Res) → Int → Int → Option Res) (l15x3 : (Int → Int → List Col → Int → Int → Int → Int → List Col → List Col → Option Res) → Nat → Int → Int → Int → List Col → Int → Int → Int → Int → List Col → List Col → Option Res) (args : List LV) (K : Res → Option Res) : (EF15 (F15g N f27 l15x3)).F args K = ev (base.with_ [EF27 f27] [EL15x3 N l15x3]) 400 (.code (bodyOf Try.f15)) 15 (norL 0 (EF15 (F15g N f27 l15x3)).ps args ++ List.replicate (Try.f15.ntmps - (norL 0 (EF15 (F15g N f27 l15x3)).ps args).length) .u) ⟨[], 0⟩ (endK base Try.f15 K) := by kernel_rfl
theorem EF15Ok (N : Nat) : (EF15 (F15 N)).OK Try.prog base :=
  fun_item base_ok (S := [EF27 F27]) (I := [EL15x3 N L15x3]) (all_cons (EF27Ok N) all_nil) (all_cons (EL15x3Ok N) all_nil) 400 (EF15 (F15 N)) (f := Try.f15) (body := bodyOf Try.f15) (by kernel_rfl) (by kernel_rfl) (fun args K => Eq.trans (by kernel_rfl) (Eq.trans (F15Key N F27 L15x3 args K) (by kernel_rfl)))

-- glazier/glazierref01.Div255
noncomputable def F38g {α : Type}  (k0 : Int → Option α) (x295 : Int) : Option α :=
    bif decide (x295 < 0) then
      k0 0
    else
      bif decide (x295 > 65025) then
        k0 255
      else
        k0 (wi64 (Int.tdiv (wi64 ((wi64 (2 * x295)) + 255)) 510))
noncomputable def F38 {α : Type} (k0 : Int → Option α) (x295 : Int) : Option α := F38g  k0 x295
noncomputable def EF38 (φ : (Int → Option Res) → Int → Option Res) : SpecE := ⟨38, [.o (.i .i64)], fun args K => φ (fun (x296 : Int) => K (.i .i64 x296, [])) (exI (args.getD 0 .u))⟩
theorem F38Key (N : Nat)  (args : List LV) (K : Res → Option Res) : (EF38 (F38g )).F args K = ev (base.with_ [] []) 400 (.code (bodyOf Try.f38)) 38 (norL 0 (EF38 (F38g )).ps args ++ List.replicate (Try.f38.ntmps - (norL 0 (EF38 (F38g )).ps args).length) .u) ⟨[], 0⟩ (endK base Try.f38 K) := by kernel_rfl
theorem EF38Ok (N : Nat) : (EF38 F38).OK Try.prog base :=
  fun_item base_ok (S := []) (I := []) all_nil all_nil 400 (EF38 F38) (f := Try.f38) (body := bodyOf Try.f38) (by kernel_rfl) (by kernel_rfl) (fun args K => Eq.trans (by kernel_rfl) (Eq.trans (F38Key N  args K) (by kernel_rfl)))

-- glazier/glazierref02.part
noncomputable def F28g {α : Type} (f38 : (Int → Option α) → Int → Option α) (k0 : Int → Option α) (x293 : Int) (x294 : Int) : Option α :=
    f38 (fun (x297 : Int) =>
        k0 (wu8 x297)) (wi64 ((wi64 x293) * (wi64 x294)))
noncomputable def F28 {α : Type} (k0 : Int → Option α) (x293 : Int) (x294 : Int) : Option α := F28g F38 k0 x293 x294
noncomputable def EF28 (φ : (Int → Option Res) → Int → Int → Option Res) : SpecE := ⟨28, [.o (.i .u8), .o (.i .u8)], fun args K => φ (fun (x298 : Int) => K (.i .u8 x298, [])) (exI (args.getD 0 .u)) (exI (args.getD 1 .u))⟩
theorem F28Key (N : Nat) (f38 : (Int → Option Res) → Int → Option Res) (args : List LV) (K : Res → Option Res) : (EF28 (F28g f38)).F args K = ev (base.with_ [EF38 f38] []) 400 (.code (bodyOf Try.f28)) 28 (norL 0 (EF28 (F28g f38)).ps args ++ List.replicate (Try.f28.ntmps - (norL 0 (EF28 (F28g f38)).ps args).length) .u) ⟨[], 0⟩ (endK base Try.f28 K) := by kernel_rfl
theorem EF28Ok (N : Nat) : (EF28 F28).OK Try.prog base :=
  fun_item base_ok (S := [EF38 F38]) (I := []) (all_cons (EF38Ok N) all_nil) all_nil 400 (EF28 F28) (f := Try.f28) (body := bodyOf Try.f28) (by kernel_rfl) (by kernel_rfl) (fun args K => Eq.trans (by kernel_rfl) (Eq.trans (F28Key N F38 args K) (by kernel_rfl)))

-- glazier/glazierref02.Pre
noncomputable def F17g {α : Type} (f28 : (Int → Option α) → Int → Int → Option α) (k0 : Int → Int → Int → Int → Option α) (x289 : Int) (x290 : Int) (x291 : Int) (x292 : Int) : Option α :=
    f28 (fun (x299 : Int) =>
        f28 (fun (x300 : Int) =>
            f28 (fun (x301 : Int) =>
                k0 x299 x300 x301 x292) x291 x292) x290 x292) x289 x292
noncomputable def F17 {α : Type} (k0 : Int → Int → Int → Int → Option α) (x289 : Int) (x290 : Int) (x291 : Int) (x292 : Int) : Option α := F17g F28 k0 x289 x290 x291 x292
noncomputable def EF17 (φ : (Int → Int → Int → Int → Option Res) → Int → Int → Int → Int → Option Res) : SpecE := ⟨17, [.ag [.i .u8, .i .u8, .i .u8, .i .u8]], fun args K => φ (fun (x302 : Int) (x303 : Int) (x304 : Int) (x305 : Int) => K (.ag [.i .u8 x302, .i .u8 x303, .i .u8 x304, .i .u8 x305], [])) (exI ((exC (args.getD 0 .u)).getD 0 .u)) (exI ((exC (args.getD 0 .u)).getD 1 .u)) (exI ((exC (args.getD 0 .u)).getD 2 .u)) (exI ((exC (args.getD 0 .u)).getD 3 .u))⟩
theorem F17Key (N : Nat) (f28 : (Int → Option Res) → Int → Int → Option Res) (args : List LV) (K : Res → Option Res) : (EF17 (F17g f28)).F args K = ev (base.with_ [EF28 f28] []) 400 (.code (bodyOf Try.f17)) 17 (norL 0 (EF17 (F17g f28)).ps args ++ List.replicate (Try.f17.ntmps - (norL 0 (EF17 (F17g f28)).ps args).length) .u) ⟨[], 0⟩ (endK base Try.f17 K) := by kernel_rfl
theorem EF17Ok (N : Nat) : (EF17 F17).OK Try.prog base :=
  fun_item base_ok (S := [EF28 F28]) (I := []) (all_cons (EF28Ok N) all_nil) all_nil 400 (EF17 F17) (f := Try.f17) (body := bodyOf Try.f17) (by kernel_rfl) (by kernel_rfl) (fun args K => Eq.trans (by kernel_rfl) (Eq.trans (F17Key N F28 args K) (by kernel_rfl)))
end Gz
