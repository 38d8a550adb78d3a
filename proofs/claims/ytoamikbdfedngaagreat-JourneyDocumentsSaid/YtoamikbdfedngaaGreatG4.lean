import Derived.Test.YtoamikbdfedngaaGreatG3
import Derived.Shelf.SlSortCmp.NoneTotal
import Derived.Test.YtoamikbdfedngaaGreatProg
set_option linter.unusedSectionVars false
set_option linter.unusedVariables false
set_option linter.unusedSimpArgs false
set_option linter.constructorNameAsVariable false
namespace Go.AM
open Go.Proofs
set_option linter.unusedVariables false
set_option maxRecDepth 100000
noncomputable def f_proportion_product (P : Program) (T : Tab) (D : DTab) (N : Nat) {β : Type} (K : AV → Hp → Option β) (a0 : AV) (a1 : AV) (h : Hp) : Option β :=
effK (boxE 2 (.agg [.s (.int .u64 0), .s (.int .u64 0)]) (List.length h)) h fun x1 h2 =>
convK P 3 115 a0 fun x3 =>
convK P 3 115 a1 fun x4 =>
callK (T 122) [x3, x4] h2 fun x5 h6 =>
exK x5 0 fun x7 =>
exK x5 1 fun x8 =>
buildK [.s (.int .u64 0), .s (.int .u64 0)] [(some (0, 1), x7), (some (1, 1), x8)] fun x9 =>
effK (stE 2 x1 x9 h6) h6 fun x10 h11 =>
ldK 2 true x1 h11 fun r12 =>
K r12 h11
theorem f_proportion_product_run (T : Tab) (D : DTab) (N : Nat) {β : Type} (K : AV → Hp → Option β) (a0 : AV) (a1 : AV) (h : Hp) : runK Tryz.prog T D N [0, 1, 4, 5, 6] Tryz.f96 K [a0, a1] h = f_proportion_product Tryz.prog T D N K a0 a1 h := by kernel_rfl
noncomputable def o_bits_Div64_j4 (P : Program) (T : Tab) (D : DTab) (N : Nat) {β : Type} (K : AV → Hp → Option β) (t : Tm) (h : Hp) : Option β :=
arithK .mul (t 15) (.s (.int .u64 4294967296)) fun x27 =>
arithK .add x27 (t 18) fun x28 =>
arithK .mul (t 17) (.s (.int .u64 4294967296)) fun x29 =>
arithK .add x29 (t 14) fun x30 =>
arithK .mul (t 18) (t 2) fun x31 =>
arithK .sub x30 x31 fun x32 =>
reckK P .shr 115 x32 (t 8) fun x33 =>
K (.tup [x28, x33]) h
noncomputable def o_bits_Div64_j5 (P : Program) (T : Tab) (D : DTab) (N : Nat) {β : Type} (K : AV → Hp → Option β) (t : Tm) (h : Hp) : Option β :=
(o_bits_Div64_j4 P T D N K t h)
noncomputable def o_bits_Div64_L6 (P : Program) (T : Tab) (D : DTab) (N : Nat) {β : Type} (t : Tm) (h : Hp) (k : Ex → St → Option β) : Option β :=
arithK .geq (t 18) (.s (.int .u64 4294967296)) fun x34 =>
grpK false x34 h (fun k35 =>
arithK .mul (t 18) (t 10) fun x36 =>
arithK .mul (.s (.int .u64 4294967296)) (t 16) fun x37 =>
arithK .add x37 (t 14) fun x38 =>
arithK .gtr x36 x38 fun x39 =>
k35 x39 h) fun x40 h41 =>
condK x40 (
arithK .sub (t 18) (.s (.int .u64 1)) fun x42 =>
arithK .add (t 16) (t 9) fun x43 =>
arithK .geq x43 (.s (.int .u64 4294967296)) fun x44 =>
condK x44 (
k (.exit 2) ((upd (upd (upd (upd t 113 x40) 18 x42) 16 x43) 120 x44), h41)) (
k .normal ((upd (upd (upd (upd t 113 x40) 18 x42) 16 x43) 120 x44), h41))) (
k (.exit 2) ((upd t 113 x40), h41))
noncomputable def o_bits_Div64_aL6 (P : Program) (T : Tab) (D : DTab) (N : Nat) {β : Type} (K : AV → Hp → Option β) (e : Ex) (s : St) : Option β :=
  e.on ((o_bits_Div64_j5 P T D N K s.1 s.2))
  (fun i => bif i == 2 then ((o_bits_Div64_j5 P T D N K s.1 s.2)) else (none))
  (K (.tup [(s.1 6), (s.1 7)]) s.2)
noncomputable def o_bits_Div64_j3_G (P : Program) (T : Tab) (D : DTab) (N : Nat) {β : Type} (cL6 : St → Option β) (K : AV → Hp → Option β) (t : Tm) (h : Hp) :  Option β :=
arithK .mul (t 11) (.s (.int .u64 4294967296)) fun x20 =>
arithK .add x20 (t 13) fun x21 =>
arithK .mul (t 15) (t 2) fun x22 =>
arithK .sub x21 x22 fun x23 =>
reckK P .quo 115 x23 (t 9) fun x24 =>
arithK .mul x24 (t 9) fun x25 =>
arithK .sub x23 x25 fun x26 =>
cL6 ((upd (upd (upd t 17 x23) 18 x24) 16 x26), h)
noncomputable def o_bits_Div64_j3 (P : Program) (T : Tab) (D : DTab) (N : Nat) {β : Type} (K : AV → Hp → Option β) (t : Tm) (h : Hp) : Option β := o_bits_Div64_j3_G P T D N (fun s => iterK (fun s k => o_bits_Div64_L6 P T D N s.1 s.2 k) N s (o_bits_Div64_aL6 P T D N K)) K t h
noncomputable def o_bits_Div64_j7_G (P : Program) (T : Tab) (D : DTab) (N : Nat) {β : Type} (cj3 : St → Option β) (K : AV → Hp → Option β) (t : Tm) (h : Hp) :  Option β :=
cj3 (t, h)
noncomputable def o_bits_Div64_j7 (P : Program) (T : Tab) (D : DTab) (N : Nat) {β : Type} (K : AV → Hp → Option β) (t : Tm) (h : Hp) : Option β := o_bits_Div64_j7_G P T D N (fun s => (o_bits_Div64_j3 P T D N K s.1 s.2)) K t h
noncomputable def o_bits_Div64_L8 (P : Program) (T : Tab) (D : DTab) (N : Nat) {β : Type} (t : Tm) (h : Hp) (k : Ex → St → Option β) : Option β :=
arithK .geq (t 15) (.s (.int .u64 4294967296)) fun x45 =>
grpK false x45 h (fun k46 =>
arithK .mul (t 15) (t 10) fun x47 =>
arithK .mul (.s (.int .u64 4294967296)) (t 16) fun x48 =>
arithK .add x48 (t 13) fun x49 =>
arithK .gtr x47 x49 fun x50 =>
k46 x50 h) fun x51 h52 =>
condK x51 (
arithK .sub (t 15) (.s (.int .u64 1)) fun x53 =>
arithK .add (t 16) (t 9) fun x54 =>
arithK .geq x54 (.s (.int .u64 4294967296)) fun x55 =>
condK x55 (
k (.exit 0) ((upd (upd (upd (upd t 78 x51) 15 x53) 16 x54) 85 x55), h52)) (
k .normal ((upd (upd (upd (upd t 78 x51) 15 x53) 16 x54) 85 x55), h52))) (
k (.exit 0) ((upd t 78 x51), h52))
noncomputable def o_bits_Div64_aL8 (P : Program) (T : Tab) (D : DTab) (N : Nat) {β : Type} (K : AV → Hp → Option β) (e : Ex) (s : St) : Option β :=
  e.on ((o_bits_Div64_j7 P T D N K s.1 s.2))
  (fun i => bif i == 0 then ((o_bits_Div64_j7 P T D N K s.1 s.2)) else (none))
  (K (.tup [(s.1 6), (s.1 7)]) s.2)
noncomputable def o_bits_Div64_j2_G (P : Program) (T : Tab) (D : DTab) (N : Nat) {β : Type} (cL8 : St → Option β) (K : AV → Hp → Option β) (t : Tm) (h : Hp) :  Option β :=
eqK P false 115 (t 0) (.s (.int .u64 0)) h fun x1 =>
condK x1 (
reckK P .quo 115 (t 1) (t 2) fun x2 =>
reckK P .rem 115 (t 1) (t 2) fun x3 =>
K (.tup [x2, x3]) h) (
callK (T 123) [(t 2)] h fun x4 h5 =>
convK P 3 111 x4 fun x6 =>
reckK P .shl 115 (t 2) x6 fun x7 =>
reckK P .shr 115 x7 (.s (.int .u64 32)) fun x8 =>
reckK P .and 115 x7 (.s (.int .u64 4294967295)) fun x9 =>
reckK P .shl 115 (t 0) x6 fun x10 =>
arithK .sub (.s (.int .u64 64)) x6 fun x11 =>
reckK P .shr 115 (t 1) x11 fun x12 =>
reckK P .or 115 x10 x12 fun x13 =>
reckK P .shl 115 (t 1) x6 fun x14 =>
reckK P .shr 115 x14 (.s (.int .u64 32)) fun x15 =>
reckK P .and 115 x14 (.s (.int .u64 4294967295)) fun x16 =>
reckK P .quo 115 x13 x8 fun x17 =>
arithK .mul x17 x8 fun x18 =>
arithK .sub x13 x18 fun x19 =>
cL8 ((upd (upd (upd (upd (upd (upd (upd (upd (upd (upd (upd t 27 x1) 8 x6) 2 x7) 9 x8) 10 x9) 11 x13) 12 x14) 13 x15) 14 x16) 15 x17) 16 x19), h5))
noncomputable def o_bits_Div64_j2 (P : Program) (T : Tab) (D : DTab) (N : Nat) {β : Type} (K : AV → Hp → Option β) (t : Tm) (h : Hp) : Option β := o_bits_Div64_j2_G P T D N (fun s => iterK (fun s k => o_bits_Div64_L8 P T D N s.1 s.2 k) N s (o_bits_Div64_aL8 P T D N K)) K t h
noncomputable def o_bits_Div64_j1_G (P : Program) (T : Tab) (D : DTab) (N : Nat) {β : Type} (cj2 : St → Option β) (K : AV → Hp → Option β) (t : Tm) (h : Hp) :  Option β :=
arithK .leq (t 2) (t 0) fun x56 =>
condK x56 (
ldK 1 false AV.u h fun x57 =>
none) (
cj2 ((upd t 24 x56), h))
noncomputable def o_bits_Div64_j1 (P : Program) (T : Tab) (D : DTab) (N : Nat) {β : Type} (K : AV → Hp → Option β) (t : Tm) (h : Hp) : Option β := o_bits_Div64_j1_G P T D N (fun s => (o_bits_Div64_j2 P T D N K s.1 s.2)) K t h
noncomputable def o_bits_Div64_G (P : Program) (T : Tab) (D : DTab) (N : Nat) {β : Type} (cj1 : St → Option β) (K : AV → Hp → Option β) (a0 : AV) (a1 : AV) (a2 : AV) (h : Hp) :  Option β :=
eqK P false 115 a2 (.s (.int .u64 0)) h fun x58 =>
condK x58 (
ldK 1 false AV.u h fun x59 =>
none) (
cj1 ((upd (upd (upd (tm0 [a0, a1, a2]) 6 (.s (.int .u64 0))) 7 (.s (.int .u64 0))) 20 x58), h))
noncomputable def o_bits_Div64 (P : Program) (T : Tab) (D : DTab) (N : Nat) {β : Type} (K : AV → Hp → Option β) (a0 : AV) (a1 : AV) (a2 : AV) (h : Hp) : Option β := o_bits_Div64_G P T D N (fun s => (o_bits_Div64_j1 P T D N K s.1 s.2)) K a0 a1 a2 h
noncomputable def f_bits_Div64_j4 (P : Program) (T : Tab) (D : DTab) (N : Nat) {β : Type} (K : AV → Hp → Option β) (v2 : AV) (v8 : AV) (v14 : AV) (v15 : AV) (v17 : AV) (v18 : AV) (h : Hp) : Option β :=
arithK .mul v15 (.s (.int .u64 4294967296)) fun x27 =>
arithK .add x27 v18 fun x28 =>
arithK .mul v17 (.s (.int .u64 4294967296)) fun x29 =>
arithK .add x29 v14 fun x30 =>
arithK .mul v18 v2 fun x31 =>
arithK .sub x30 x31 fun x32 =>
reckK P .shr 115 x32 v8 fun x33 =>
K (.tup [x28, x33]) h
noncomputable def f_bits_Div64_j5 (P : Program) (T : Tab) (D : DTab) (N : Nat) {β : Type} (K : AV → Hp → Option β) (v2 : AV) (v8 : AV) (v14 : AV) (v15 : AV) (v17 : AV) (v18 : AV) (h : Hp) : Option β :=
f_bits_Div64_j4 P T D N K v2 v8 v14 v15 v17 v18 h
noncomputable def f_bits_Div64_b6 (P : Program) (T : Tab) (D : DTab) (N : Nat) {β : Type} (xn : AV → AV → AV → AV → AV → AV → AV → AV → AV → Hp → Option β) (x2 : AV → AV → AV → AV → AV → AV → Hp → Option β) (v2 : AV) (v8 : AV) (v9 : AV) (v10 : AV) (v14 : AV) (v15 : AV) (v16 : AV) (v17 : AV) (v18 : AV) (h : Hp) : Option β :=
arithK .geq v18 (.s (.int .u64 4294967296)) fun x34 =>
grpK false x34 h (fun k35 =>
arithK .mul v18 v10 fun x36 =>
arithK .mul (.s (.int .u64 4294967296)) v16 fun x37 =>
arithK .add x37 v14 fun x38 =>
arithK .gtr x36 x38 fun x39 =>
k35 x39 h) fun x40 h41 =>
condK x40 (
arithK .sub v18 (.s (.int .u64 1)) fun x42 =>
arithK .add v16 v9 fun x43 =>
arithK .geq x43 (.s (.int .u64 4294967296)) fun x44 =>
condK x44 (
x2 v2 v8 v14 v15 v17 x42 h41) (
xn v2 v8 v9 v10 v14 v15 x43 v17 x42 h41)) (
x2 v2 v8 v14 v15 v17 v18 h41)
noncomputable def f_bits_Div64_L6 (P : Program) (T : Tab) (D : DTab) (N : Nat) {β : Type} (x2 : AV → AV → AV → AV → AV → AV → Hp → Option β) : Nat → AV → AV → AV → AV → AV → AV → AV → AV → AV → Hp → Option β
  | 0 => fun _ _ _ _ _ _ _ _ _ _ => none
  | n + 1 => fun v2 v8 v9 v10 v14 v15 v16 v17 v18 h => f_bits_Div64_b6 P T D N (f_bits_Div64_L6 P T D N x2 n) x2 v2 v8 v9 v10 v14 v15 v16 v17 v18 h
noncomputable def f_bits_Div64_j3 (P : Program) (T : Tab) (D : DTab) (N : Nat) {β : Type} (K : AV → Hp → Option β) (v2 : AV) (v8 : AV) (v9 : AV) (v10 : AV) (v11 : AV) (v13 : AV) (v14 : AV) (v15 : AV) (h : Hp) : Option β :=
arithK .mul v11 (.s (.int .u64 4294967296)) fun x20 =>
arithK .add x20 v13 fun x21 =>
arithK .mul v15 v2 fun x22 =>
arithK .sub x21 x22 fun x23 =>
reckK P .quo 115 x23 v9 fun x24 =>
arithK .mul x24 v9 fun x25 =>
arithK .sub x23 x25 fun x26 =>
f_bits_Div64_L6 P T D N (fun w45_2 w45_8 w45_14 w45_15 w45_17 w45_18 h => f_bits_Div64_j5 P T D N K w45_2 w45_8 w45_14 w45_15 w45_17 w45_18 h) N v2 v8 v9 v10 v14 v15 x26 x23 x24 h
noncomputable def f_bits_Div64_j7 (P : Program) (T : Tab) (D : DTab) (N : Nat) {β : Type} (K : AV → Hp → Option β) (v2 : AV) (v8 : AV) (v9 : AV) (v10 : AV) (v11 : AV) (v13 : AV) (v14 : AV) (v15 : AV) (h : Hp) : Option β :=
f_bits_Div64_j3 P T D N K v2 v8 v9 v10 v11 v13 v14 v15 h
noncomputable def f_bits_Div64_b8 (P : Program) (T : Tab) (D : DTab) (N : Nat) {β : Type} (xn : AV → AV → AV → AV → AV → AV → AV → AV → AV → Hp → Option β) (x0 : AV → AV → AV → AV → AV → AV → AV → AV → Hp → Option β) (v2 : AV) (v8 : AV) (v9 : AV) (v10 : AV) (v11 : AV) (v13 : AV) (v14 : AV) (v15 : AV) (v16 : AV) (h : Hp) : Option β :=
arithK .geq v15 (.s (.int .u64 4294967296)) fun x46 =>
grpK false x46 h (fun k47 =>
arithK .mul v15 v10 fun x48 =>
arithK .mul (.s (.int .u64 4294967296)) v16 fun x49 =>
arithK .add x49 v13 fun x50 =>
arithK .gtr x48 x50 fun x51 =>
k47 x51 h) fun x52 h53 =>
condK x52 (
arithK .sub v15 (.s (.int .u64 1)) fun x54 =>
arithK .add v16 v9 fun x55 =>
arithK .geq x55 (.s (.int .u64 4294967296)) fun x56 =>
condK x56 (
x0 v2 v8 v9 v10 v11 v13 v14 x54 h53) (
xn v2 v8 v9 v10 v11 v13 v14 x54 x55 h53)) (
x0 v2 v8 v9 v10 v11 v13 v14 v15 h53)
noncomputable def f_bits_Div64_L8 (P : Program) (T : Tab) (D : DTab) (N : Nat) {β : Type} (x0 : AV → AV → AV → AV → AV → AV → AV → AV → Hp → Option β) : Nat → AV → AV → AV → AV → AV → AV → AV → AV → AV → Hp → Option β
  | 0 => fun _ _ _ _ _ _ _ _ _ _ => none
  | n + 1 => fun v2 v8 v9 v10 v11 v13 v14 v15 v16 h => f_bits_Div64_b8 P T D N (f_bits_Div64_L8 P T D N x0 n) x0 v2 v8 v9 v10 v11 v13 v14 v15 v16 h
noncomputable def f_bits_Div64_j2 (P : Program) (T : Tab) (D : DTab) (N : Nat) {β : Type} (K : AV → Hp → Option β) (v0 : AV) (v1 : AV) (v2 : AV) (h : Hp) : Option β :=
eqK P false 115 v0 (.s (.int .u64 0)) h fun x1 =>
condK x1 (
reckK P .quo 115 v1 v2 fun x2 =>
reckK P .rem 115 v1 v2 fun x3 =>
K (.tup [x2, x3]) h) (
callK (T 123) [v2] h fun x4 h5 =>
convK P 3 111 x4 fun x6 =>
reckK P .shl 115 v2 x6 fun x7 =>
reckK P .shr 115 x7 (.s (.int .u64 32)) fun x8 =>
reckK P .and 115 x7 (.s (.int .u64 4294967295)) fun x9 =>
reckK P .shl 115 v0 x6 fun x10 =>
arithK .sub (.s (.int .u64 64)) x6 fun x11 =>
reckK P .shr 115 v1 x11 fun x12 =>
reckK P .or 115 x10 x12 fun x13 =>
reckK P .shl 115 v1 x6 fun x14 =>
reckK P .shr 115 x14 (.s (.int .u64 32)) fun x15 =>
reckK P .and 115 x14 (.s (.int .u64 4294967295)) fun x16 =>
reckK P .quo 115 x13 x8 fun x17 =>
arithK .mul x17 x8 fun x18 =>
arithK .sub x13 x18 fun x19 =>
f_bits_Div64_L8 P T D N (fun w57_2 w57_8 w57_9 w57_10 w57_11 w57_13 w57_14 w57_15 h => f_bits_Div64_j7 P T D N K w57_2 w57_8 w57_9 w57_10 w57_11 w57_13 w57_14 w57_15 h) N x7 x6 x8 x9 x13 x15 x16 x17 x19 h5)
noncomputable def f_bits_Div64_j1 (P : Program) (T : Tab) (D : DTab) (N : Nat) {β : Type} (K : AV → Hp → Option β) (v0 : AV) (v1 : AV) (v2 : AV) (h : Hp) : Option β :=
arithK .leq v2 v0 fun x58 =>
condK x58 (
ldK 1 false AV.u h fun x59 =>
none) (
f_bits_Div64_j2 P T D N K v0 v1 v2 h)
noncomputable def f_bits_Div64 (P : Program) (T : Tab) (D : DTab) (N : Nat) {β : Type} (K : AV → Hp → Option β) (a0 : AV) (a1 : AV) (a2 : AV) (h : Hp) : Option β :=
eqK P false 115 a2 (.s (.int .u64 0)) h fun x60 =>
condK x60 (
ldK 1 false AV.u h fun x61 =>
none) (
f_bits_Div64_j1 P T D N K a0 a1 a2 h)
theorem f_bits_Div64_b6_eq (P : Program) (T : Tab) (D : DTab) (N : Nat) {β : Type} (xn : AV → AV → AV → AV → AV → AV → AV → AV → AV → Hp → Option β) (x2 : AV → AV → AV → AV → AV → AV → Hp → Option β) (xd : Nat → St → Option β) (xq : St → Option β) (t : Tm) (h : Hp) : o_bits_Div64_L6 P T D N t h (fun (e : Ex) (s : St) => e.on (xn (s.1 2) (s.1 8) (s.1 9) (s.1 10) (s.1 14) (s.1 15) (s.1 16) (s.1 17) (s.1 18) s.2) (fun i => (bif i == 2 then x2 (s.1 2) (s.1 8) (s.1 14) (s.1 15) (s.1 17) (s.1 18) s.2 else (xd i s))) (xq s)) = f_bits_Div64_b6 P T D N xn x2 (t 2) (t 8) (t 9) (t 10) (t 14) (t 15) (t 16) (t 17) (t 18) h := by kernel_rfl
theorem f_bits_Div64_L6_eq (P : Program) (T : Tab) (D : DTab) (N : Nat) {β : Type} (A : Ex → St → Option β) (x2 : AV → AV → AV → AV → AV → AV → Hp → Option β) (q2 : ∀ s, A (.exit 2) s = x2 (s.1 2) (s.1 8) (s.1 14) (s.1 15) (s.1 17) (s.1 18) s.2) : ∀ (n : Nat) (s : St), iterK (fun s k => o_bits_Div64_L6 P T D N s.1 s.2 k) n s A = f_bits_Div64_L6 P T D N x2 n (s.1 2) (s.1 8) (s.1 9) (s.1 10) (s.1 14) (s.1 15) (s.1 16) (s.1 17) (s.1 18) s.2 := by
  intro n
  induction n with
  | zero => intro s; rfl
  | succ n ih =>
    intro s
    have hk : (fun (e : Ex) (s' : St) => Ex.on e (iterK (fun s k => o_bits_Div64_L6 P T D N s.1 s.2 k) n s' A) (fun i => A (.exit i) s') (A .ret s')) = (fun (e : Ex) (s : St) => e.on ((f_bits_Div64_L6 P T D N x2 n) (s.1 2) (s.1 8) (s.1 9) (s.1 10) (s.1 14) (s.1 15) (s.1 16) (s.1 17) (s.1 18) s.2) (fun i => (bif i == 2 then x2 (s.1 2) (s.1 8) (s.1 14) (s.1 15) (s.1 17) (s.1 18) s.2 else (A (.exit i) s))) (A .ret s)) := by
      funext e s'
      cases e with
      | normal => exact ih s'
      | ret => exact rfl
      | exit i =>
        by_cases r2 : i = 2
        · subst r2; exact q2 s'
        simp only [Ex.on, beq_false_of_ne r2, cond_false]
    show o_bits_Div64_L6 P T D N s.1 s.2 (fun (e : Ex) (s' : St) => Ex.on e (iterK (fun s k => o_bits_Div64_L6 P T D N s.1 s.2 k) n s' A) (fun i => A (.exit i) s') (A .ret s')) = _
    rw [hk]
    exact f_bits_Div64_b6_eq P T D N (f_bits_Div64_L6 P T D N x2 n) x2 (fun i s => A (.exit i) s) (fun s => A .ret s) s.1 s.2
theorem f_bits_Div64_j3_eq (P : Program) (T : Tab) (D : DTab) (N : Nat) {β : Type} (K : AV → Hp → Option β) (t : Tm) (h : Hp) : o_bits_Div64_j3 P T D N K t h = f_bits_Div64_j3 P T D N K (t 2) (t 8) (t 9) (t 10) (t 11) (t 13) (t 14) (t 15) h := by
  have eL6 : (fun s : St => iterK (fun s k => o_bits_Div64_L6 P T D N s.1 s.2 k) N s (o_bits_Div64_aL6 P T D N K)) = (fun s : St => f_bits_Div64_L6 P T D N (fun w45_2 w45_8 w45_14 w45_15 w45_17 w45_18 h => f_bits_Div64_j5 P T D N K w45_2 w45_8 w45_14 w45_15 w45_17 w45_18 h) N (s.1 2) (s.1 8) (s.1 9) (s.1 10) (s.1 14) (s.1 15) (s.1 16) (s.1 17) (s.1 18) s.2) := funext fun s => f_bits_Div64_L6_eq P T D N (o_bits_Div64_aL6 P T D N K) (fun w45_2 w45_8 w45_14 w45_15 w45_17 w45_18 h => f_bits_Div64_j5 P T D N K w45_2 w45_8 w45_14 w45_15 w45_17 w45_18 h) (fun s => rfl) N s
  show o_bits_Div64_j3_G P T D N (fun s => iterK (fun s k => o_bits_Div64_L6 P T D N s.1 s.2 k) N s (o_bits_Div64_aL6 P T D N K)) K t h = _
  rw [eL6]
  kernel_rfl
theorem f_bits_Div64_j7_eq (P : Program) (T : Tab) (D : DTab) (N : Nat) {β : Type} (K : AV → Hp → Option β) (t : Tm) (h : Hp) : o_bits_Div64_j7 P T D N K t h = f_bits_Div64_j7 P T D N K (t 2) (t 8) (t 9) (t 10) (t 11) (t 13) (t 14) (t 15) h := by
  have ej3 : (fun s : St => o_bits_Div64_j3 P T D N K s.1 s.2) = (fun s : St => f_bits_Div64_j3 P T D N K (s.1 2) (s.1 8) (s.1 9) (s.1 10) (s.1 11) (s.1 13) (s.1 14) (s.1 15) s.2) := funext fun s => f_bits_Div64_j3_eq P T D N K s.1 s.2
  show o_bits_Div64_j7_G P T D N (fun s => o_bits_Div64_j3 P T D N K s.1 s.2) K t h = _
  rw [ej3]
  kernel_rfl
theorem f_bits_Div64_b8_eq (P : Program) (T : Tab) (D : DTab) (N : Nat) {β : Type} (xn : AV → AV → AV → AV → AV → AV → AV → AV → AV → Hp → Option β) (x0 : AV → AV → AV → AV → AV → AV → AV → AV → Hp → Option β) (xd : Nat → St → Option β) (xq : St → Option β) (t : Tm) (h : Hp) : o_bits_Div64_L8 P T D N t h (fun (e : Ex) (s : St) => e.on (xn (s.1 2) (s.1 8) (s.1 9) (s.1 10) (s.1 11) (s.1 13) (s.1 14) (s.1 15) (s.1 16) s.2) (fun i => (bif i == 0 then x0 (s.1 2) (s.1 8) (s.1 9) (s.1 10) (s.1 11) (s.1 13) (s.1 14) (s.1 15) s.2 else (xd i s))) (xq s)) = f_bits_Div64_b8 P T D N xn x0 (t 2) (t 8) (t 9) (t 10) (t 11) (t 13) (t 14) (t 15) (t 16) h := by kernel_rfl
theorem f_bits_Div64_L8_eq (P : Program) (T : Tab) (D : DTab) (N : Nat) {β : Type} (A : Ex → St → Option β) (x0 : AV → AV → AV → AV → AV → AV → AV → AV → Hp → Option β) (q0 : ∀ s, A (.exit 0) s = x0 (s.1 2) (s.1 8) (s.1 9) (s.1 10) (s.1 11) (s.1 13) (s.1 14) (s.1 15) s.2) : ∀ (n : Nat) (s : St), iterK (fun s k => o_bits_Div64_L8 P T D N s.1 s.2 k) n s A = f_bits_Div64_L8 P T D N x0 n (s.1 2) (s.1 8) (s.1 9) (s.1 10) (s.1 11) (s.1 13) (s.1 14) (s.1 15) (s.1 16) s.2 := by
  intro n
  induction n with
  | zero => intro s; rfl
  | succ n ih =>
    intro s
    have hk : (fun (e : Ex) (s' : St) => Ex.on e (iterK (fun s k => o_bits_Div64_L8 P T D N s.1 s.2 k) n s' A) (fun i => A (.exit i) s') (A .ret s')) = (fun (e : Ex) (s : St) => e.on ((f_bits_Div64_L8 P T D N x0 n) (s.1 2) (s.1 8) (s.1 9) (s.1 10) (s.1 11) (s.1 13) (s.1 14) (s.1 15) (s.1 16) s.2) (fun i => (bif i == 0 then x0 (s.1 2) (s.1 8) (s.1 9) (s.1 10) (s.1 11) (s.1 13) (s.1 14) (s.1 15) s.2 else (A (.exit i) s))) (A .ret s)) := by
      funext e s'
      cases e with
      | normal => exact ih s'
      | ret => exact rfl
      | exit i =>
        by_cases r0 : i = 0
        · subst r0; exact q0 s'
        simp only [Ex.on, beq_false_of_ne r0, cond_false]
    show o_bits_Div64_L8 P T D N s.1 s.2 (fun (e : Ex) (s' : St) => Ex.on e (iterK (fun s k => o_bits_Div64_L8 P T D N s.1 s.2 k) n s' A) (fun i => A (.exit i) s') (A .ret s')) = _
    rw [hk]
    exact f_bits_Div64_b8_eq P T D N (f_bits_Div64_L8 P T D N x0 n) x0 (fun i s => A (.exit i) s) (fun s => A .ret s) s.1 s.2
theorem f_bits_Div64_j2_eq (P : Program) (T : Tab) (D : DTab) (N : Nat) {β : Type} (K : AV → Hp → Option β) (t : Tm) (h : Hp) : o_bits_Div64_j2 P T D N K t h = f_bits_Div64_j2 P T D N K (t 0) (t 1) (t 2) h := by
  have eL8 : (fun s : St => iterK (fun s k => o_bits_Div64_L8 P T D N s.1 s.2 k) N s (o_bits_Div64_aL8 P T D N K)) = (fun s : St => f_bits_Div64_L8 P T D N (fun w57_2 w57_8 w57_9 w57_10 w57_11 w57_13 w57_14 w57_15 h => f_bits_Div64_j7 P T D N K w57_2 w57_8 w57_9 w57_10 w57_11 w57_13 w57_14 w57_15 h) N (s.1 2) (s.1 8) (s.1 9) (s.1 10) (s.1 11) (s.1 13) (s.1 14) (s.1 15) (s.1 16) s.2) := funext fun s => f_bits_Div64_L8_eq P T D N (o_bits_Div64_aL8 P T D N K) (fun w57_2 w57_8 w57_9 w57_10 w57_11 w57_13 w57_14 w57_15 h => f_bits_Div64_j7 P T D N K w57_2 w57_8 w57_9 w57_10 w57_11 w57_13 w57_14 w57_15 h) (fun s => f_bits_Div64_j7_eq P T D N K s.1 s.2) N s
  show o_bits_Div64_j2_G P T D N (fun s => iterK (fun s k => o_bits_Div64_L8 P T D N s.1 s.2 k) N s (o_bits_Div64_aL8 P T D N K)) K t h = _
  rw [eL8]
  kernel_rfl
theorem f_bits_Div64_j1_eq (P : Program) (T : Tab) (D : DTab) (N : Nat) {β : Type} (K : AV → Hp → Option β) (t : Tm) (h : Hp) : o_bits_Div64_j1 P T D N K t h = f_bits_Div64_j1 P T D N K (t 0) (t 1) (t 2) h := by
  have ej2 : (fun s : St => o_bits_Div64_j2 P T D N K s.1 s.2) = (fun s : St => f_bits_Div64_j2 P T D N K (s.1 0) (s.1 1) (s.1 2) s.2) := funext fun s => f_bits_Div64_j2_eq P T D N K s.1 s.2
  show o_bits_Div64_j1_G P T D N (fun s => o_bits_Div64_j2 P T D N K s.1 s.2) K t h = _
  rw [ej2]
  kernel_rfl
theorem f_bits_Div64_old_eq (P : Program) (T : Tab) (D : DTab) (N : Nat) {β : Type} (K : AV → Hp → Option β) (a0 : AV) (a1 : AV) (a2 : AV) (h : Hp) : o_bits_Div64 P T D N K a0 a1 a2 h = f_bits_Div64 P T D N K a0 a1 a2 h := by
  have ej1 : (fun s : St => o_bits_Div64_j1 P T D N K s.1 s.2) = (fun s : St => f_bits_Div64_j1 P T D N K (s.1 0) (s.1 1) (s.1 2) s.2) := funext fun s => f_bits_Div64_j1_eq P T D N K s.1 s.2
  show o_bits_Div64_G P T D N (fun s => o_bits_Div64_j1 P T D N K s.1 s.2) K a0 a1 a2 h = _
  rw [ej1]
  kernel_rfl
theorem o_bits_Div64_run (T : Tab) (D : DTab) (N : Nat) {β : Type} (K : AV → Hp → Option β) (a0 : AV) (a1 : AV) (a2 : AV) (h : Hp) : runK Tryz.prog T D N [0, 1, 2, 6, 7, 8, 9, 10, 11, 12, 13, 14, 15, 16, 17, 18, 20, 24, 27, 78, 85, 113, 120] Tryz.f97 K [a0, a1, a2] h = o_bits_Div64 Tryz.prog T D N K a0 a1 a2 h := by kernel_rfl
theorem f_bits_Div64_run (T : Tab) (D : DTab) (N : Nat) {β : Type} (K : AV → Hp → Option β) (a0 : AV) (a1 : AV) (a2 : AV) (h : Hp) : runK Tryz.prog T D N [0, 1, 2, 6, 7, 8, 9, 10, 11, 12, 13, 14, 15, 16, 17, 18, 20, 24, 27, 78, 85, 113, 120] Tryz.f97 K [a0, a1, a2] h = f_bits_Div64 Tryz.prog T D N K a0 a1 a2 h := (o_bits_Div64_run T D N K a0 a1 a2 h).trans (f_bits_Div64_old_eq Tryz.prog T D N K a0 a1 a2 h)
noncomputable def f_calendar_Date (P : Program) (T : Tab) (D : DTab) (N : Nat) {β : Type} (K : AV → Hp → Option β) (a0 : AV) (h : Hp) : Option β :=
effK (boxE 3 (.agg [.s (.int .i64 0), .s (.int .i64 0), .s (.int .i64 0)]) (List.length h)) h fun x1 h2 =>
callK (T 124) [a0] h2 fun x3 h4 =>
notK x3 fun x5 =>
condK x5 (
buildK [.s (.int .i64 0), .s (.int .i64 0), .s (.int .i64 0)] [] fun x6 =>
effK (stE 3 x1 x6 h4) h4 fun x7 h8 =>
ldK 3 true x1 h8 fun r9 =>
K (.tup [r9, (.s (.int .i64 2))]) h8) (
callK (T 125) [a0] h4 fun x10 h11 =>
effK (stE 3 x1 x10 h11) h11 fun x12 h13 =>
ldK 3 true x1 h13 fun r14 =>
K (.tup [r14, (.s (.int .i64 0))]) h13)
theorem f_calendar_Date_run (T : Tab) (D : DTab) (N : Nat) {β : Type} (K : AV → Hp → Option β) (a0 : AV) (h : Hp) : runK Tryz.prog T D N [0, 2, 3, 6] Tryz.f98 K [a0] h = f_calendar_Date Tryz.prog T D N K a0 h := by kernel_rfl
noncomputable def f_calendar_Day (P : Program) (T : Tab) (D : DTab) (N : Nat) {β : Type} (K : AV → Hp → Option β) (a0 : AV) (h : Hp) : Option β :=
effK (boxE 3 a0 (List.length h)) h fun x1 h2 =>
faK 0 x1 fun x3 =>
ldK 1 false x3 h2 fun x4 =>
arithK .lss x4 (.s (.int .i64 1900)) fun x5 =>
gopD (wB x5 false) h2 (fun k => faK 0 x1 fun v => k v h2 ([], [])) fun x6 h7 e8 =>
gopD (wB x5 false) h7 (fun k => ldK 1 false x6 h7 fun v => k v h7 ((idsOf x6), [])) fun x9 h10 e11 =>
gopD (wB x5 false) h10 (fun k => arithK .gtr x9 (.s (.int .i64 2200)) fun v => k v h10 ([], [])) fun x12 h13 e14 =>
pickK x5 (.s (.bool true)) x12 fun x15 =>
gopD (wB x15 false) h13 (fun k => faK 1 x1 fun v => k v h13 ([], [])) fun x16 h17 e18 =>
gopD (wB x15 false) h17 (fun k => ldK 1 false x16 h17 fun v => k v h17 ((idsOf x16), [])) fun x19 h20 e21 =>
gopD (wB x15 false) h20 (fun k => arithK .lss x19 (.s (.int .i64 1)) fun v => k v h20 ([], [])) fun x22 h23 e24 =>
pickK x15 (.s (.bool true)) x22 fun x25 =>
gopD (wB x25 false) h23 (fun k => faK 1 x1 fun v => k v h23 ([], [])) fun x26 h27 e28 =>
gopD (wB x25 false) h27 (fun k => ldK 1 false x26 h27 fun v => k v h27 ((idsOf x26), [])) fun x29 h30 e31 =>
gopD (wB x25 false) h30 (fun k => arithK .gtr x29 (.s (.int .i64 12)) fun v => k v h30 ([], [])) fun x32 h33 e34 =>
pickK x25 (.s (.bool true)) x32 fun x35 =>
gopD (wB x35 false) h33 (fun k => faK 2 x1 fun v => k v h33 ([], [])) fun x36 h37 e38 =>
gopD (wB x35 false) h37 (fun k => ldK 1 false x36 h37 fun v => k v h37 ((idsOf x36), [])) fun x39 h40 e41 =>
gopD (wB x35 false) h40 (fun k => arithK .lss x39 (.s (.int .i64 1)) fun v => k v h40 ([], [])) fun x42 h43 e44 =>
pickK x35 (.s (.bool true)) x42 fun x45 =>
gopD (wB x45 false) h43 (fun k => faK 2 x1 fun v => k v h43 ([], [])) fun x46 h47 e48 =>
gopD (wB x45 false) h47 (fun k => ldK 1 false x46 h47 fun v => k v h47 ((idsOf x46), [])) fun x49 h50 e51 =>
gopD (wB x45 false) h50 (fun k => faK 0 x1 fun v => k v h50 ([], [])) fun x52 h53 e54 =>
gopD (wB x45 false) h53 (fun k => ldK 1 false x52 h53 fun v => k v h53 ((idsOf x52), [])) fun x55 h56 e57 =>
gopD (wB x45 false) h56 (fun k => faK 1 x1 fun v => k v h56 ([], [])) fun x58 h59 e60 =>
gopD (wB x45 false) h59 (fun k => ldK 1 false x58 h59 fun v => k v h59 ((idsOf x58), [])) fun x61 h62 e63 =>
gopD (wB x45 false) h62 (fun k => effD (callE (D 126) [x55, x61] h62 (List.length h62)) h62 k) fun x64 h65 e66 =>
gopD (wB x45 false) h65 (fun k => arithK .gtr x49 x64 fun v => k v h65 ([], [])) fun x67 h68 e69 =>
pickK x45 (.s (.bool true)) x67 fun x70 =>
bif disjAll [(25, 30)] [([], []), ((idsOf x3), []), ([], []), ([], []), e8, e11, e14, ([], []), ([], []), e18, e21, e24, ([], []), ([], []), e28, e31, e34, ([], []), ([], []), e38, e41, e44, ([], []), ([], []), e48, e51, e54, e57, e60, e63, e66, e69, ([], [])] then (
condK x70 (
K (.tup [(.s (.int .i64 0)), (.s (.int .i64 1))]) h68) (
ldK 3 true x1 h68 fun x71 =>
callK (T 127) [x71] h68 fun x72 h73 =>
effD (callE (D 124) [x72] h73 (List.length h73)) h73 fun x74 h75 e76 =>
notK x74 fun x77 =>
gopD (wB x77 false) h75 (fun k => k x72 h75 ([], [])) fun x78 h79 e80 =>
gopD (wB x77 false) h79 (fun k => effD (callE (D 125) [x78] h79 (List.length h79)) h79 k) fun x81 h82 e83 =>
gopD (wB x77 false) h82 (fun k => ldK 3 true x1 h82 fun v => k v h82 ((idsOf x1), [])) fun x84 h85 e86 =>
gopD (wB x77 false) h85 (fun k => eqK P true 122 x81 x84 h85 fun v => k v h85 ([], [])) fun x87 h88 e89 =>
pickK x77 (.s (.bool true)) x87 fun x90 =>
bif disjAll [(5, 6)] [([], []), e76, ([], []), ([], []), e80, e83, e86, e89, ([], [])] then (
condK x90 (
K (.tup [(.s (.int .i64 0)), (.s (.int .i64 1))]) h88) (
K (.tup [x72, (.s (.int .i64 0))]) h88)) else none)) else none
theorem f_calendar_Day_run (T : Tab) (D : DTab) (N : Nat) {β : Type} (K : AV → Hp → Option β) (a0 : AV) (h : Hp) : runK Tryz.prog T D N [0, 1, 2, 3, 4, 37, 48] Tryz.f99 K [a0] h = f_calendar_Day Tryz.prog T D N K a0 h := by kernel_rfl
noncomputable def o_sort_Search_j1 (P : Program) (T : Tab) (D : DTab) (N : Nat) {β : Type} (K : AV → Hp → Option β) (t : Tm) (h : Hp) : Option β :=
K (t 5) h
noncomputable def o_sort_Search_j3 (P : Program) (T : Tab) (D : DTab) (N : Nat) {β : Type} (k : Ex → St → Option β) (t : Tm) (h : Hp) : Option β :=
k .normal (t, h)
noncomputable def o_sort_Search_L2 (P : Program) (T : Tab) (D : DTab) (N : Nat) {β : Type} (t : Tm) (h : Hp) (k : Ex → St → Option β) : Option β :=
arithK .lss (t 5) (t 6) fun x1 =>
condK x1 (
arithK .add (t 5) (t 6) fun x2 =>
convK P 3 111 x2 fun x3 =>
reckK P .shr 111 x3 (.s (.int .u64 1)) fun x4 =>
convK P 111 3 x4 fun x5 =>
callVK T (t 1) [x5] h fun x6 h7 =>
notK x6 fun x8 =>
condK x8 (
arithK .add x5 (.s (.int .i64 1)) fun x9 =>
(o_sort_Search_j3 P T D N k (upd (upd (upd (upd t 11 x1) 7 x5) 21 x8) 5 x9) h7)) (
(o_sort_Search_j3 P T D N k (upd (upd (upd (upd t 11 x1) 7 x5) 21 x8) 6 x5) h7))) (
k (.exit 0) ((upd t 11 x1), h))
noncomputable def o_sort_Search_aL2 (P : Program) (T : Tab) (D : DTab) (N : Nat) {β : Type} (K : AV → Hp → Option β) (e : Ex) (s : St) : Option β :=
  e.on ((o_sort_Search_j1 P T D N K s.1 s.2))
  (fun i => bif i == 0 then ((o_sort_Search_j1 P T D N K s.1 s.2)) else (none))
  (K (s.1 4) s.2)
noncomputable def o_sort_Search_G (P : Program) (T : Tab) (D : DTab) (N : Nat) {β : Type} (cL2 : St → Option β) (K : AV → Hp → Option β) (a0 : AV) (a1 : AV) (h : Hp) :  Option β :=
cL2 ((upd (upd (upd (tm0 [a0, a1]) 4 (.s (.int .i64 0))) 5 (.s (.int .i64 0))) 6 a0), h)
noncomputable def o_sort_Search (P : Program) (T : Tab) (D : DTab) (N : Nat) {β : Type} (K : AV → Hp → Option β) (a0 : AV) (a1 : AV) (h : Hp) : Option β := o_sort_Search_G P T D N (fun s => iterK (fun s k => o_sort_Search_L2 P T D N s.1 s.2 k) N s (o_sort_Search_aL2 P T D N K)) K a0 a1 h
noncomputable def f_sort_Search_j1 (P : Program) (T : Tab) (D : DTab) (N : Nat) {β : Type} (K : AV → Hp → Option β) (v5 : AV) (h : Hp) : Option β :=
K v5 h
noncomputable def f_sort_Search_j3 (P : Program) (T : Tab) (D : DTab) (N : Nat) {β : Type} (xn : AV → AV → AV → Hp → Option β) (x0 : AV → Hp → Option β) (v1 : AV) (v5 : AV) (v6 : AV) (h : Hp) : Option β :=
xn v1 v5 v6 h
noncomputable def f_sort_Search_b2 (P : Program) (T : Tab) (D : DTab) (N : Nat) {β : Type} (xn : AV → AV → AV → Hp → Option β) (x0 : AV → Hp → Option β) (v1 : AV) (v5 : AV) (v6 : AV) (h : Hp) : Option β :=
arithK .lss v5 v6 fun x1 =>
condK x1 (
arithK .add v5 v6 fun x2 =>
convK P 3 111 x2 fun x3 =>
reckK P .shr 111 x3 (.s (.int .u64 1)) fun x4 =>
convK P 111 3 x4 fun x5 =>
callVK T v1 [x5] h fun x6 h7 =>
notK x6 fun x8 =>
condK x8 (
arithK .add x5 (.s (.int .i64 1)) fun x9 =>
f_sort_Search_j3 P T D N xn x0 v1 x9 v6 h7) (
f_sort_Search_j3 P T D N xn x0 v1 v5 x5 h7)) (
x0 v5 h)
noncomputable def f_sort_Search_L2 (P : Program) (T : Tab) (D : DTab) (N : Nat) {β : Type} (x0 : AV → Hp → Option β) : Nat → AV → AV → AV → Hp → Option β
  | 0 => fun _ _ _ _ => none
  | n + 1 => fun v1 v5 v6 h => f_sort_Search_b2 P T D N (f_sort_Search_L2 P T D N x0 n) x0 v1 v5 v6 h
noncomputable def f_sort_Search (P : Program) (T : Tab) (D : DTab) (N : Nat) {β : Type} (K : AV → Hp → Option β) (a0 : AV) (a1 : AV) (h : Hp) : Option β :=
f_sort_Search_L2 P T D N (fun w10_5 h => f_sort_Search_j1 P T D N K w10_5 h) N a1 (.s (.int .i64 0)) a0 h
theorem f_sort_Search_b2_eq (P : Program) (T : Tab) (D : DTab) (N : Nat) {β : Type} (xn : AV → AV → AV → Hp → Option β) (x0 : AV → Hp → Option β) (xd : Nat → St → Option β) (xq : St → Option β) (t : Tm) (h : Hp) : o_sort_Search_L2 P T D N t h (fun (e : Ex) (s : St) => e.on (xn (s.1 1) (s.1 5) (s.1 6) s.2) (fun i => (bif i == 0 then x0 (s.1 5) s.2 else (xd i s))) (xq s)) = f_sort_Search_b2 P T D N xn x0 (t 1) (t 5) (t 6) h := by kernel_rfl
theorem f_sort_Search_L2_eq (P : Program) (T : Tab) (D : DTab) (N : Nat) {β : Type} (A : Ex → St → Option β) (x0 : AV → Hp → Option β) (q0 : ∀ s, A (.exit 0) s = x0 (s.1 5) s.2) : ∀ (n : Nat) (s : St), iterK (fun s k => o_sort_Search_L2 P T D N s.1 s.2 k) n s A = f_sort_Search_L2 P T D N x0 n (s.1 1) (s.1 5) (s.1 6) s.2 := by
  intro n
  induction n with
  | zero => intro s; rfl
  | succ n ih =>
    intro s
    have hk : (fun (e : Ex) (s' : St) => Ex.on e (iterK (fun s k => o_sort_Search_L2 P T D N s.1 s.2 k) n s' A) (fun i => A (.exit i) s') (A .ret s')) = (fun (e : Ex) (s : St) => e.on ((f_sort_Search_L2 P T D N x0 n) (s.1 1) (s.1 5) (s.1 6) s.2) (fun i => (bif i == 0 then x0 (s.1 5) s.2 else (A (.exit i) s))) (A .ret s)) := by
      funext e s'
      cases e with
      | normal => exact ih s'
      | ret => exact rfl
      | exit i =>
        by_cases r0 : i = 0
        · subst r0; exact q0 s'
        simp only [Ex.on, beq_false_of_ne r0, cond_false]
    show o_sort_Search_L2 P T D N s.1 s.2 (fun (e : Ex) (s' : St) => Ex.on e (iterK (fun s k => o_sort_Search_L2 P T D N s.1 s.2 k) n s' A) (fun i => A (.exit i) s') (A .ret s')) = _
    rw [hk]
    exact f_sort_Search_b2_eq P T D N (f_sort_Search_L2 P T D N x0 n) x0 (fun i s => A (.exit i) s) (fun s => A .ret s) s.1 s.2
theorem f_sort_Search_old_eq (P : Program) (T : Tab) (D : DTab) (N : Nat) {β : Type} (K : AV → Hp → Option β) (a0 : AV) (a1 : AV) (h : Hp) : o_sort_Search P T D N K a0 a1 h = f_sort_Search P T D N K a0 a1 h := by
  have eL2 : (fun s : St => iterK (fun s k => o_sort_Search_L2 P T D N s.1 s.2 k) N s (o_sort_Search_aL2 P T D N K)) = (fun s : St => f_sort_Search_L2 P T D N (fun w10_5 h => f_sort_Search_j1 P T D N K w10_5 h) N (s.1 1) (s.1 5) (s.1 6) s.2) := funext fun s => f_sort_Search_L2_eq P T D N (o_sort_Search_aL2 P T D N K) (fun w10_5 h => f_sort_Search_j1 P T D N K w10_5 h) (fun s => rfl) N s
  show o_sort_Search_G P T D N (fun s => iterK (fun s k => o_sort_Search_L2 P T D N s.1 s.2 k) N s (o_sort_Search_aL2 P T D N K)) K a0 a1 h = _
  rw [eL2]
  kernel_rfl
theorem o_sort_Search_run (T : Tab) (D : DTab) (N : Nat) {β : Type} (K : AV → Hp → Option β) (a0 : AV) (a1 : AV) (h : Hp) : runK Tryz.prog T D N [0, 1, 4, 5, 6, 7, 11, 21] Tryz.f100 K [a0, a1] h = o_sort_Search Tryz.prog T D N K a0 a1 h := by kernel_rfl
theorem f_sort_Search_run (T : Tab) (D : DTab) (N : Nat) {β : Type} (K : AV → Hp → Option β) (a0 : AV) (a1 : AV) (h : Hp) : runK Tryz.prog T D N [0, 1, 4, 5, 6, 7, 11, 21] Tryz.f100 K [a0, a1] h = f_sort_Search Tryz.prog T D N K a0 a1 h := (o_sort_Search_run T D N K a0 a1 h).trans (f_sort_Search_old_eq Tryz.prog T D N K a0 a1 h)
noncomputable def f_season_on_1 (P : Program) (T : Tab) (D : DTab) (N : Nat) {β : Type} (K : AV → Hp → Option β) (a0 : AV) (a1 : AV) (a2 : AV) (h : Hp) : Option β :=
ldK 1 false a1 h fun x1 =>
iaK 4 x1 a0 fun x2 =>
faK 0 x2 fun x3 =>
ldK 1 false x3 h fun x4 =>
ldK 1 false a2 h fun x5 =>
arithK .gtr x4 x5 fun x6 =>
K x6 h
theorem f_season_on_1_run (T : Tab) (D : DTab) (N : Nat) {β : Type} (K : AV → Hp → Option β) (a0 : AV) (a1 : AV) (a2 : AV) (h : Hp) : runK Tryz.prog T D N [0, 1, 2, 4] Tryz.f101 K [a0, a1, a2] h = f_season_on_1 Tryz.prog T D N K a0 a1 a2 h := by kernel_rfl
noncomputable def f_season_version (P : Program) (T : Tab) (D : DTab) (N : Nat) {β : Type} (K : AV → Hp → Option β) (a0 : AV) (a1 : AV) (h : Hp) : Option β :=
effK (boxE 1 a0 (List.length h)) h fun x1 h2 =>
effK (boxE 1 a1 (List.length h2)) h2 fun x3 h4 =>
ldK 1 false x1 h4 fun x5 =>
lenK x5 fun x6 =>
callK (T 100) [x6, (.fn 128 [x1, x3])] h4 fun x7 h8 =>
eqK P false 3 x7 (.s (.int .i64 0)) h8 fun x9 =>
condK x9 (
K (.tup [(.s (.int .i64 0)), (.s (.bool false))]) h8) (
ldK 1 false x1 h8 fun x10 =>
arithK .sub x7 (.s (.int .i64 1)) fun x11 =>
iaK 4 x10 x11 fun x12 =>
faK 0 x12 fun x13 =>
ldK 1 false x13 h8 fun x14 =>
K (.tup [x14, (.s (.bool true))]) h8)
theorem f_season_version_run (T : Tab) (D : DTab) (N : Nat) {β : Type} (K : AV → Hp → Option β) (a0 : AV) (a1 : AV) (h : Hp) : runK Tryz.prog T D N [0, 1, 2, 3, 4, 5, 6, 12] Tryz.f102 K [a0, a1] h = f_season_version Tryz.prog T D N K a0 a1 h := by kernel_rfl
noncomputable def f_season_rate (P : Program) (T : Tab) (D : DTab) (N : Nat) {β : Type} (K : AV → Hp → Option β) (a0 : AV) (a1 : AV) (a2 : AV) (a3 : AV) (h : Hp) : Option β :=
effK (boxE 1 a0 (List.length h)) h fun x1 h2 =>
buildK [.s (.int .i64 0), .s (.int .i64 0), .s (.int .i64 0), .s (.int .i64 0)] [(some (0, 1), a1), (some (1, 1), a2), (some (2, 1), a3)] fun x3 =>
effK (boxE 4 (.agg [.s (.int .i64 0), .s (.int .i64 0), .s (.int .i64 0), .s (.int .i64 0)]) (List.length h2)) h2 fun x4 h5 =>
effK (stE 4 x4 x3 h5) h5 fun x6 h7 =>
ldK 1 false x1 h7 fun x8 =>
lenK x8 fun x9 =>
callK (T 100) [x9, (.fn 129 [x1, x4])] h7 fun x10 h11 =>
ldK 1 false x1 h11 fun x12 =>
lenK x12 fun x13 =>
arithK .lss x10 x13 fun x14 =>
grpK true x14 h11 (fun k15 =>
ldK 1 false x1 h11 fun x16 =>
iaK 4 x16 x10 fun x17 =>
faK 0 x17 fun x18 =>
ldK 1 false x18 h11 fun x19 =>
eqK P false 3 x19 a1 h11 fun x20 =>
k15 x20 h11) fun x21 h22 =>
grpK true x21 h22 (fun k23 =>
ldK 1 false x1 h22 fun x24 =>
iaK 4 x24 x10 fun x25 =>
faK 1 x25 fun x26 =>
ldK 1 false x26 h22 fun x27 =>
eqK P false 3 x27 a2 h22 fun x28 =>
k23 x28 h22) fun x29 h30 =>
grpK true x29 h30 (fun k31 =>
ldK 1 false x1 h30 fun x32 =>
iaK 4 x32 x10 fun x33 =>
faK 2 x33 fun x34 =>
ldK 1 false x34 h30 fun x35 =>
eqK P false 3 x35 a3 h30 fun x36 =>
k31 x36 h30) fun x37 h38 =>
condK x37 (
ldK 1 false x1 h38 fun x39 =>
iaK 4 x39 x10 fun x40 =>
faK 3 x40 fun x41 =>
ldK 1 false x41 h38 fun x42 =>
K x42 h38) (
K (.s (.int .i64 0)) h38)
theorem f_season_rate_run (T : Tab) (D : DTab) (N : Nat) {β : Type} (K : AV → Hp → Option β) (a0 : AV) (a1 : AV) (a2 : AV) (a3 : AV) (h : Hp) : runK Tryz.prog T D N [0, 1, 2, 3, 4, 8, 9, 10, 49] Tryz.f103 K [a0, a1, a2, a3] h = f_season_rate Tryz.prog T D N K a0 a1 a2 a3 h := by kernel_rfl
noncomputable def f_bits_Len64_j3 (P : Program) (T : Tab) (D : DTab) (N : Nat) {β : Type} (K : AV → Hp → Option β) (v0 : AV) (v2 : AV) (h : Hp) : Option β :=
convK P 115 5 v0 fun x1 =>
chK (.s (.string ⟨([0, 1, 2, 2, 3, 3, 3, 3, 4, 4, 4, 4, 4, 4, 4, 4, 5, 5, 5, 5, 5, 5, 5, 5, 5, 5, 5, 5, 5, 5, 5, 5, 6, 6, 6, 6, 6, 6, 6, 6, 6, 6, 6, 6, 6, 6, 6, 6, 6, 6, 6, 6, 6, 6, 6, 6, 6, 6, 6, 6, 6, 6, 6, 6] ++ [7, 7, 7, 7, 7, 7, 7, 7, 7, 7, 7, 7, 7, 7, 7, 7, 7, 7, 7, 7, 7, 7, 7, 7, 7, 7, 7, 7, 7, 7, 7, 7, 7, 7, 7, 7, 7, 7, 7, 7, 7, 7, 7, 7, 7, 7, 7, 7, 7, 7, 7, 7, 7, 7, 7, 7, 7, 7, 7, 7, 7, 7, 7, 7] ++ [8, 8, 8, 8, 8, 8, 8, 8, 8, 8, 8, 8, 8, 8, 8, 8, 8, 8, 8, 8, 8, 8, 8, 8, 8, 8, 8, 8, 8, 8, 8, 8, 8, 8, 8, 8, 8, 8, 8, 8, 8, 8, 8, 8, 8, 8, 8, 8, 8, 8, 8, 8, 8, 8, 8, 8, 8, 8, 8, 8, 8, 8, 8, 8] ++ [8, 8, 8, 8, 8, 8, 8, 8, 8, 8, 8, 8, 8, 8, 8, 8, 8, 8, 8, 8, 8, 8, 8, 8, 8, 8, 8, 8, 8, 8, 8, 8, 8, 8, 8, 8, 8, 8, 8, 8, 8, 8, 8, 8, 8, 8, 8, 8, 8, 8, 8, 8, 8, 8, 8, 8, 8, 8, 8, 8, 8, 8, 8, 8] : List UInt8).toArray⟩)) x1 fun x2 =>
convK P 5 3 x2 fun x3 =>
arithK .add v2 x3 fun x4 =>
K x4 h
noncomputable def f_bits_Len64_j2 (P : Program) (T : Tab) (D : DTab) (N : Nat) {β : Type} (K : AV → Hp → Option β) (v0 : AV) (v2 : AV) (h : Hp) : Option β :=
arithK .geq v0 (.s (.int .u64 256)) fun x5 =>
condK x5 (
reckK P .shr 115 v0 (.s (.int .u64 8)) fun x6 =>
arithK .add v2 (.s (.int .i64 8)) fun x7 =>
f_bits_Len64_j3 P T D N K x6 x7 h) (
f_bits_Len64_j3 P T D N K v0 v2 h)
noncomputable def f_bits_Len64_j1 (P : Program) (T : Tab) (D : DTab) (N : Nat) {β : Type} (K : AV → Hp → Option β) (v0 : AV) (v2 : AV) (h : Hp) : Option β :=
arithK .geq v0 (.s (.int .u64 65536)) fun x8 =>
condK x8 (
reckK P .shr 115 v0 (.s (.int .u64 16)) fun x9 =>
arithK .add v2 (.s (.int .i64 16)) fun x10 =>
f_bits_Len64_j2 P T D N K x9 x10 h) (
f_bits_Len64_j2 P T D N K v0 v2 h)
noncomputable def f_bits_Len64 (P : Program) (T : Tab) (D : DTab) (N : Nat) {β : Type} (K : AV → Hp → Option β) (a0 : AV) (h : Hp) : Option β :=
arithK .geq a0 (.s (.int .u64 4294967296)) fun x11 =>
condK x11 (
reckK P .shr 115 a0 (.s (.int .u64 32)) fun x12 =>
f_bits_Len64_j1 P T D N K x12 (.s (.int .i64 32)) h) (
f_bits_Len64_j1 P T D N K a0 (.s (.int .i64 0)) h)
theorem f_bits_Len64_run (T : Tab) (D : DTab) (N : Nat) {β : Type} (K : AV → Hp → Option β) (a0 : AV) (h : Hp) : runK Tryz.prog T D N [0, 2, 4, 8, 14] Tryz.f119 K [a0] h = f_bits_Len64 Tryz.prog T D N K a0 h := by kernel_rfl
noncomputable def f_cmp_isNaN_int (P : Program) (T : Tab) (D : DTab) (N : Nat) {β : Type} (K : AV → Hp → Option β) (a0 : AV) (h : Hp) : Option β :=
eqK P true 3 a0 a0 h fun x1 =>
K x1 h
theorem f_cmp_isNaN_int_run (T : Tab) (D : DTab) (N : Nat) {β : Type} (K : AV → Hp → Option β) (a0 : AV) (h : Hp) : runK Tryz.prog T D N [0, 2] Tryz.f120 K [a0] h = f_cmp_isNaN_int Tryz.prog T D N K a0 h := by kernel_rfl
noncomputable def o_slices_IndexFunc_int_j1 (P : Program) (T : Tab) (D : DTab) (N : Nat) {β : Type} (K : AV → Hp → Option β) (t : Tm) (h : Hp) : Option β :=
K (.s (.int .i64 (-1))) h
noncomputable def o_slices_IndexFunc_int_L2 (P : Program) (T : Tab) (D : DTab) (N : Nat) {β : Type} (t : Tm) (h : Hp) (k : Ex → St → Option β) : Option β :=
arithK .lss (t 8) (t 7) fun x2 =>
condK x2 (
iaK 1 (t 0) (t 8) fun x3 =>
ldK 1 false x3 h fun x4 =>
callVK T (t 1) [x4] h fun x5 h6 =>
condK x5 (
k .ret ((upd (upd (upd (upd t 9 x2) 5 (t 8)) 16 x5) 4 (t 8)), h6)) (
arithK .add (t 8) (.s (.int .i64 1)) fun x7 =>
k .normal ((upd (upd (upd (upd t 9 x2) 5 (t 8)) 16 x5) 8 x7), h6))) (
k (.exit 0) ((upd t 9 x2), h))
noncomputable def o_slices_IndexFunc_int_aL2 (P : Program) (T : Tab) (D : DTab) (N : Nat) {β : Type} (K : AV → Hp → Option β) (e : Ex) (s : St) : Option β :=
  e.on ((o_slices_IndexFunc_int_j1 P T D N K s.1 s.2))
  (fun i => bif i == 0 then ((o_slices_IndexFunc_int_j1 P T D N K s.1 s.2)) else (none))
  (K (s.1 4) s.2)
noncomputable def o_slices_IndexFunc_int_G (P : Program) (T : Tab) (D : DTab) (N : Nat) {β : Type} (cL2 : St → Option β) (K : AV → Hp → Option β) (a0 : AV) (a1 : AV) (h : Hp) :  Option β :=
lenK a0 fun x1 =>
cL2 ((upd (upd (upd (tm0 [a0, a1]) 4 (.s (.int .i64 0))) 7 x1) 8 (.s (.int .i64 0))), h)
noncomputable def o_slices_IndexFunc_int (P : Program) (T : Tab) (D : DTab) (N : Nat) {β : Type} (K : AV → Hp → Option β) (a0 : AV) (a1 : AV) (h : Hp) : Option β := o_slices_IndexFunc_int_G P T D N (fun s => iterK (fun s k => o_slices_IndexFunc_int_L2 P T D N s.1 s.2 k) N s (o_slices_IndexFunc_int_aL2 P T D N K)) K a0 a1 h
noncomputable def f_slices_IndexFunc_int_j1 (P : Program) (T : Tab) (D : DTab) (N : Nat) {β : Type} (K : AV → Hp → Option β) (h : Hp) : Option β :=
K (.s (.int .i64 (-1))) h
noncomputable def f_slices_IndexFunc_int_b2 (P : Program) (T : Tab) (D : DTab) (N : Nat) {β : Type} (xn : AV → AV → AV → AV → Hp → Option β) (x0 : Hp → Option β) (xr : AV → Hp → Option β) (v0 : AV) (v1 : AV) (v7 : AV) (v8 : AV) (h : Hp) : Option β :=
arithK .lss v8 v7 fun x2 =>
condK x2 (
iaK 1 v0 v8 fun x3 =>
ldK 1 false x3 h fun x4 =>
callVK T v1 [x4] h fun x5 h6 =>
condK x5 (
xr v8 h6) (
arithK .add v8 (.s (.int .i64 1)) fun x7 =>
xn v0 v1 v7 x7 h6)) (
x0 h)
noncomputable def f_slices_IndexFunc_int_L2 (P : Program) (T : Tab) (D : DTab) (N : Nat) {β : Type} (x0 : Hp → Option β) (xr : AV → Hp → Option β) : Nat → AV → AV → AV → AV → Hp → Option β
  | 0 => fun _ _ _ _ _ => none
  | n + 1 => fun v0 v1 v7 v8 h => f_slices_IndexFunc_int_b2 P T D N (f_slices_IndexFunc_int_L2 P T D N x0 xr n) x0 xr v0 v1 v7 v8 h
noncomputable def f_slices_IndexFunc_int (P : Program) (T : Tab) (D : DTab) (N : Nat) {β : Type} (K : AV → Hp → Option β) (a0 : AV) (a1 : AV) (h : Hp) : Option β :=
lenK a0 fun x1 =>
f_slices_IndexFunc_int_L2 P T D N (fun h => f_slices_IndexFunc_int_j1 P T D N K h) (fun w9_4 h => K w9_4 h) N a0 a1 x1 (.s (.int .i64 0)) h
theorem f_slices_IndexFunc_int_b2_eq (P : Program) (T : Tab) (D : DTab) (N : Nat) {β : Type} (xn : AV → AV → AV → AV → Hp → Option β) (x0 : Hp → Option β) (xr : AV → Hp → Option β) (xd : Nat → St → Option β) (xq : St → Option β) (t : Tm) (h : Hp) : o_slices_IndexFunc_int_L2 P T D N t h (fun (e : Ex) (s : St) => e.on (xn (s.1 0) (s.1 1) (s.1 7) (s.1 8) s.2) (fun i => (bif i == 0 then x0 s.2 else (xd i s))) (xr (s.1 4) s.2)) = f_slices_IndexFunc_int_b2 P T D N xn x0 xr (t 0) (t 1) (t 7) (t 8) h := by kernel_rfl
theorem f_slices_IndexFunc_int_L2_eq (P : Program) (T : Tab) (D : DTab) (N : Nat) {β : Type} (A : Ex → St → Option β) (x0 : Hp → Option β) (xr : AV → Hp → Option β) (q0 : ∀ s, A (.exit 0) s = x0 s.2) (qr : ∀ s, A .ret s = xr (s.1 4) s.2) : ∀ (n : Nat) (s : St), iterK (fun s k => o_slices_IndexFunc_int_L2 P T D N s.1 s.2 k) n s A = f_slices_IndexFunc_int_L2 P T D N x0 xr n (s.1 0) (s.1 1) (s.1 7) (s.1 8) s.2 := by
  intro n
  induction n with
  | zero => intro s; rfl
  | succ n ih =>
    intro s
    have hk : (fun (e : Ex) (s' : St) => Ex.on e (iterK (fun s k => o_slices_IndexFunc_int_L2 P T D N s.1 s.2 k) n s' A) (fun i => A (.exit i) s') (A .ret s')) = (fun (e : Ex) (s : St) => e.on ((f_slices_IndexFunc_int_L2 P T D N x0 xr n) (s.1 0) (s.1 1) (s.1 7) (s.1 8) s.2) (fun i => (bif i == 0 then x0 s.2 else (A (.exit i) s))) (xr (s.1 4) s.2)) := by
      funext e s'
      cases e with
      | normal => exact ih s'
      | ret => exact qr s'
      | exit i =>
        by_cases r0 : i = 0
        · subst r0; exact q0 s'
        simp only [Ex.on, beq_false_of_ne r0, cond_false]
    show o_slices_IndexFunc_int_L2 P T D N s.1 s.2 (fun (e : Ex) (s' : St) => Ex.on e (iterK (fun s k => o_slices_IndexFunc_int_L2 P T D N s.1 s.2 k) n s' A) (fun i => A (.exit i) s') (A .ret s')) = _
    rw [hk]
    exact f_slices_IndexFunc_int_b2_eq P T D N (f_slices_IndexFunc_int_L2 P T D N x0 xr n) x0 xr (fun i s => A (.exit i) s) (fun s => A .ret s) s.1 s.2
theorem f_slices_IndexFunc_int_old_eq (P : Program) (T : Tab) (D : DTab) (N : Nat) {β : Type} (K : AV → Hp → Option β) (a0 : AV) (a1 : AV) (h : Hp) : o_slices_IndexFunc_int P T D N K a0 a1 h = f_slices_IndexFunc_int P T D N K a0 a1 h := by
  have eL2 : (fun s : St => iterK (fun s k => o_slices_IndexFunc_int_L2 P T D N s.1 s.2 k) N s (o_slices_IndexFunc_int_aL2 P T D N K)) = (fun s : St => f_slices_IndexFunc_int_L2 P T D N (fun h => f_slices_IndexFunc_int_j1 P T D N K h) (fun w9_4 h => K w9_4 h) N (s.1 0) (s.1 1) (s.1 7) (s.1 8) s.2) := funext fun s => f_slices_IndexFunc_int_L2_eq P T D N (o_slices_IndexFunc_int_aL2 P T D N K) (fun h => f_slices_IndexFunc_int_j1 P T D N K h) (fun w9_4 h => K w9_4 h) (fun s => rfl) (fun s => rfl) N s
  show o_slices_IndexFunc_int_G P T D N (fun s => iterK (fun s k => o_slices_IndexFunc_int_L2 P T D N s.1 s.2 k) N s (o_slices_IndexFunc_int_aL2 P T D N K)) K a0 a1 h = _
  rw [eL2]
  kernel_rfl
theorem o_slices_IndexFunc_int_run (T : Tab) (D : DTab) (N : Nat) {β : Type} (K : AV → Hp → Option β) (a0 : AV) (a1 : AV) (h : Hp) : runK Tryz.prog T D N [0, 1, 4, 5, 7, 8, 9, 16] Tryz.f121 K [a0, a1] h = o_slices_IndexFunc_int Tryz.prog T D N K a0 a1 h := by kernel_rfl
theorem f_slices_IndexFunc_int_run (T : Tab) (D : DTab) (N : Nat) {β : Type} (K : AV → Hp → Option β) (a0 : AV) (a1 : AV) (h : Hp) : runK Tryz.prog T D N [0, 1, 4, 5, 7, 8, 9, 16] Tryz.f121 K [a0, a1] h = f_slices_IndexFunc_int Tryz.prog T D N K a0 a1 h := (o_slices_IndexFunc_int_run T D N K a0 a1 h).trans (f_slices_IndexFunc_int_old_eq Tryz.prog T D N K a0 a1 h)
noncomputable def f_bits_Mul64 (P : Program) (T : Tab) (D : DTab) (N : Nat) {β : Type} (K : AV → Hp → Option β) (a0 : AV) (a1 : AV) (h : Hp) : Option β :=
reckK P .and 115 a0 (.s (.int .u64 4294967295)) fun x1 =>
reckK P .shr 115 a0 (.s (.int .u64 32)) fun x2 =>
reckK P .and 115 a1 (.s (.int .u64 4294967295)) fun x3 =>
reckK P .shr 115 a1 (.s (.int .u64 32)) fun x4 =>
arithK .mul x1 x3 fun x5 =>
arithK .mul x2 x3 fun x6 =>
reckK P .shr 115 x5 (.s (.int .u64 32)) fun x7 =>
arithK .add x6 x7 fun x8 =>
reckK P .and 115 x8 (.s (.int .u64 4294967295)) fun x9 =>
reckK P .shr 115 x8 (.s (.int .u64 32)) fun x10 =>
arithK .mul x1 x4 fun x11 =>
arithK .add x9 x11 fun x12 =>
arithK .mul x2 x4 fun x13 =>
arithK .add x13 x10 fun x14 =>
reckK P .shr 115 x12 (.s (.int .u64 32)) fun x15 =>
arithK .add x14 x15 fun x16 =>
arithK .mul a0 a1 fun x17 =>
K (.tup [x16, x17]) h
theorem f_bits_Mul64_run (T : Tab) (D : DTab) (N : Nat) {β : Type} (K : AV → Hp → Option β) (a0 : AV) (a1 : AV) (h : Hp) : runK Tryz.prog T D N [0, 1, 4, 5, 6, 7, 8, 9, 10, 11, 12, 13] Tryz.f122 K [a0, a1] h = f_bits_Mul64 Tryz.prog T D N K a0 a1 h := by kernel_rfl
noncomputable def f_bits_LeadingZeros64 (P : Program) (T : Tab) (D : DTab) (N : Nat) {β : Type} (K : AV → Hp → Option β) (a0 : AV) (h : Hp) : Option β :=
callK (T 119) [a0] h fun x1 h2 =>
arithK .sub (.s (.int .i64 64)) x1 fun x3 =>
K x3 h2
theorem f_bits_LeadingZeros64_run (T : Tab) (D : DTab) (N : Nat) {β : Type} (K : AV → Hp → Option β) (a0 : AV) (h : Hp) : runK Tryz.prog T D N [0, 2] Tryz.f123 K [a0] h = f_bits_LeadingZeros64 Tryz.prog T D N K a0 h := by kernel_rfl
noncomputable def f_calendar_is (P : Program) (T : Tab) (D : DTab) (N : Nat) {β : Type} (K : AV → Hp → Option β) (a0 : AV) (h : Hp) : Option β :=
arithK .geq a0 (.s (.int .i64 0)) fun x1 =>
grpK true x1 h (fun k2 =>
arithK .leq a0 (.s (.int .i64 100000)) fun x3 =>
k2 x3 h) fun x4 h5 =>
K x4 h5
theorem f_calendar_is_run (T : Tab) (D : DTab) (N : Nat) {β : Type} (K : AV → Hp → Option β) (a0 : AV) (h : Hp) : runK Tryz.prog T D N [0, 2] Tryz.f124 K [a0] h = f_calendar_is Tryz.prog T D N K a0 h := by kernel_rfl
noncomputable def o_calendar_date_j2 (P : Program) (T : Tab) (D : DTab) (N : Nat) {β : Type} (K : AV → Hp → Option β) (t : Tm) (h : Hp) : Option β :=
faK 2 (t 3) fun x15 =>
ldK 1 false x15 h fun x16 =>
arithK .add x16 (t 0) fun x17 =>
faK 2 (t 3) fun x18 =>
effK (stE 1 x18 x17 h) h fun x19 h20 =>
ldK 3 true (t 3) h20 fun x21 =>
effK (stE 3 (t 2) x21 h20) h20 fun x22 h23 =>
ldK 3 true (t 2) h23 fun r24 =>
K r24 h23
noncomputable def o_calendar_date_L3 (P : Program) (T : Tab) (D : DTab) (N : Nat) {β : Type} (t : Tm) (h : Hp) (k : Ex → St → Option β) : Option β :=
faK 0 (t 3) fun x25 =>
ldK 1 false x25 h fun x26 =>
faK 1 (t 3) fun x27 =>
ldK 1 false x27 h fun x28 =>
callK (T 126) [x26, x28] h fun x29 h30 =>
arithK .geq (t 0) x29 fun x31 =>
condK x31 (
faK 0 (t 3) fun x32 =>
ldK 1 false x32 h30 fun x33 =>
faK 1 (t 3) fun x34 =>
ldK 1 false x34 h30 fun x35 =>
callK (T 126) [x33, x35] h30 fun x36 h37 =>
arithK .sub (t 0) x36 fun x38 =>
faK 1 (t 3) fun x39 =>
ldK 1 false x39 h37 fun x40 =>
arithK .add x40 (.s (.int .i64 1)) fun x41 =>
faK 1 (t 3) fun x42 =>
effK (stE 1 x42 x41 h37) h37 fun x43 h44 =>
k .normal ((upd (upd t 29 x31) 0 x38), h44)) (
k (.exit 2) ((upd t 29 x31), h30))
noncomputable def o_calendar_date_aL3 (P : Program) (T : Tab) (D : DTab) (N : Nat) {β : Type} (K : AV → Hp → Option β) (e : Ex) (s : St) : Option β :=
  e.on ((o_calendar_date_j2 P T D N K s.1 s.2))
  (fun i => bif i == 2 then ((o_calendar_date_j2 P T D N K s.1 s.2)) else (none))
  (ldK 3 true (s.1 2) s.2 fun r45 =>
K r45 s.2)
noncomputable def o_calendar_date_j1_G (P : Program) (T : Tab) (D : DTab) (N : Nat) {β : Type} (cL3 : St → Option β) (K : AV → Hp → Option β) (t : Tm) (h : Hp) :  Option β :=
faK 0 (t 3) fun x10 =>
ldK 1 false x10 h fun x11 =>
callK (T 135) [x11] h fun x12 h13 =>
arithK .sub (t 0) x12 fun x14 =>
cL3 ((upd t 0 x14), h13)
noncomputable def o_calendar_date_j1 (P : Program) (T : Tab) (D : DTab) (N : Nat) {β : Type} (K : AV → Hp → Option β) (t : Tm) (h : Hp) : Option β := o_calendar_date_j1_G P T D N (fun s => iterK (fun s k => o_calendar_date_L3 P T D N s.1 s.2 k) N s (o_calendar_date_aL3 P T D N K)) K t h
noncomputable def o_calendar_date_L4 (P : Program) (T : Tab) (D : DTab) (N : Nat) {β : Type} (t : Tm) (h : Hp) (k : Ex → St → Option β) : Option β :=
faK 0 (t 3) fun x46 =>
ldK 1 false x46 h fun x47 =>
arithK .add x47 (.s (.int .i64 1)) fun x48 =>
callK (T 135) [x48] h fun x49 h50 =>
arithK .leq x49 (t 0) fun x51 =>
condK x51 (
faK 0 (t 3) fun x52 =>
ldK 1 false x52 h50 fun x53 =>
arithK .add x53 (.s (.int .i64 1)) fun x54 =>
faK 0 (t 3) fun x55 =>
effK (stE 1 x55 x54 h50) h50 fun x56 h57 =>
k .normal ((upd t 13 x51), h57)) (
k (.exit 0) ((upd t 13 x51), h50))
noncomputable def o_calendar_date_aL4 (P : Program) (T : Tab) (D : DTab) (N : Nat) {β : Type} (K : AV → Hp → Option β) (e : Ex) (s : St) : Option β :=
  e.on ((o_calendar_date_j1 P T D N K s.1 s.2))
  (fun i => bif i == 0 then ((o_calendar_date_j1 P T D N K s.1 s.2)) else (none))
  (ldK 3 true (s.1 2) s.2 fun r58 =>
K r58 s.2)
noncomputable def o_calendar_date_G (P : Program) (T : Tab) (D : DTab) (N : Nat) {β : Type} (cL4 : St → Option β) (K : AV → Hp → Option β) (a0 : AV) (h : Hp) :  Option β :=
effK (boxE 3 (.agg [.s (.int .i64 0), .s (.int .i64 0), .s (.int .i64 0)]) (List.length h)) h fun x1 h2 =>
reckK P .quo 3 a0 (.s (.int .i64 366)) fun x3 =>
arithK .add (.s (.int .i64 1900)) x3 fun x4 =>
buildK [.s (.int .i64 0), .s (.int .i64 0), .s (.int .i64 0)] [(some (0, 1), x4), (some (1, 1), (.s (.int .i64 1))), (some (2, 1), (.s (.int .i64 1)))] fun x5 =>
effK (boxE 3 (.agg [.s (.int .i64 0), .s (.int .i64 0), .s (.int .i64 0)]) (List.length h2)) h2 fun x6 h7 =>
effK (stE 3 x6 x5 h7) h7 fun x8 h9 =>
cL4 ((upd (upd (tm0 [a0]) 2 x1) 3 x6), h9)
noncomputable def o_calendar_date (P : Program) (T : Tab) (D : DTab) (N : Nat) {β : Type} (K : AV → Hp → Option β) (a0 : AV) (h : Hp) : Option β := o_calendar_date_G P T D N (fun s => iterK (fun s k => o_calendar_date_L4 P T D N s.1 s.2 k) N s (o_calendar_date_aL4 P T D N K)) K a0 h
noncomputable def f_calendar_date_j2 (P : Program) (T : Tab) (D : DTab) (N : Nat) {β : Type} (K : AV → Hp → Option β) (v0 : AV) (v2 : AV) (v3 : AV) (h : Hp) : Option β :=
faK 2 v3 fun x15 =>
ldK 1 false x15 h fun x16 =>
arithK .add x16 v0 fun x17 =>
faK 2 v3 fun x18 =>
effK (stE 1 x18 x17 h) h fun x19 h20 =>
ldK 3 true v3 h20 fun x21 =>
effK (stE 3 v2 x21 h20) h20 fun x22 h23 =>
ldK 3 true v2 h23 fun r24 =>
K r24 h23
noncomputable def f_calendar_date_b3 (P : Program) (T : Tab) (D : DTab) (N : Nat) {β : Type} (xn : AV → AV → AV → Hp → Option β) (x2 : AV → AV → AV → Hp → Option β) (v0 : AV) (v2 : AV) (v3 : AV) (h : Hp) : Option β :=
faK 0 v3 fun x25 =>
ldK 1 false x25 h fun x26 =>
faK 1 v3 fun x27 =>
ldK 1 false x27 h fun x28 =>
callK (T 126) [x26, x28] h fun x29 h30 =>
arithK .geq v0 x29 fun x31 =>
condK x31 (
faK 0 v3 fun x32 =>
ldK 1 false x32 h30 fun x33 =>
faK 1 v3 fun x34 =>
ldK 1 false x34 h30 fun x35 =>
callK (T 126) [x33, x35] h30 fun x36 h37 =>
arithK .sub v0 x36 fun x38 =>
faK 1 v3 fun x39 =>
ldK 1 false x39 h37 fun x40 =>
arithK .add x40 (.s (.int .i64 1)) fun x41 =>
faK 1 v3 fun x42 =>
effK (stE 1 x42 x41 h37) h37 fun x43 h44 =>
xn x38 v2 v3 h44) (
x2 v0 v2 v3 h30)
noncomputable def f_calendar_date_L3 (P : Program) (T : Tab) (D : DTab) (N : Nat) {β : Type} (x2 : AV → AV → AV → Hp → Option β) : Nat → AV → AV → AV → Hp → Option β
  | 0 => fun _ _ _ _ => none
  | n + 1 => fun v0 v2 v3 h => f_calendar_date_b3 P T D N (f_calendar_date_L3 P T D N x2 n) x2 v0 v2 v3 h
noncomputable def f_calendar_date_j1 (P : Program) (T : Tab) (D : DTab) (N : Nat) {β : Type} (K : AV → Hp → Option β) (v0 : AV) (v2 : AV) (v3 : AV) (h : Hp) : Option β :=
faK 0 v3 fun x10 =>
ldK 1 false x10 h fun x11 =>
callK (T 135) [x11] h fun x12 h13 =>
arithK .sub v0 x12 fun x14 =>
f_calendar_date_L3 P T D N (fun w45_0 w45_2 w45_3 h => f_calendar_date_j2 P T D N K w45_0 w45_2 w45_3 h) N x14 v2 v3 h13
noncomputable def f_calendar_date_b4 (P : Program) (T : Tab) (D : DTab) (N : Nat) {β : Type} (xn : AV → AV → AV → Hp → Option β) (x0 : AV → AV → AV → Hp → Option β) (v0 : AV) (v2 : AV) (v3 : AV) (h : Hp) : Option β :=
faK 0 v3 fun x46 =>
ldK 1 false x46 h fun x47 =>
arithK .add x47 (.s (.int .i64 1)) fun x48 =>
callK (T 135) [x48] h fun x49 h50 =>
arithK .leq x49 v0 fun x51 =>
condK x51 (
faK 0 v3 fun x52 =>
ldK 1 false x52 h50 fun x53 =>
arithK .add x53 (.s (.int .i64 1)) fun x54 =>
faK 0 v3 fun x55 =>
effK (stE 1 x55 x54 h50) h50 fun x56 h57 =>
xn v0 v2 v3 h57) (
x0 v0 v2 v3 h50)
noncomputable def f_calendar_date_L4 (P : Program) (T : Tab) (D : DTab) (N : Nat) {β : Type} (x0 : AV → AV → AV → Hp → Option β) : Nat → AV → AV → AV → Hp → Option β
  | 0 => fun _ _ _ _ => none
  | n + 1 => fun v0 v2 v3 h => f_calendar_date_b4 P T D N (f_calendar_date_L4 P T D N x0 n) x0 v0 v2 v3 h
noncomputable def f_calendar_date (P : Program) (T : Tab) (D : DTab) (N : Nat) {β : Type} (K : AV → Hp → Option β) (a0 : AV) (h : Hp) : Option β :=
effK (boxE 3 (.agg [.s (.int .i64 0), .s (.int .i64 0), .s (.int .i64 0)]) (List.length h)) h fun x1 h2 =>
reckK P .quo 3 a0 (.s (.int .i64 366)) fun x3 =>
arithK .add (.s (.int .i64 1900)) x3 fun x4 =>
buildK [.s (.int .i64 0), .s (.int .i64 0), .s (.int .i64 0)] [(some (0, 1), x4), (some (1, 1), (.s (.int .i64 1))), (some (2, 1), (.s (.int .i64 1)))] fun x5 =>
effK (boxE 3 (.agg [.s (.int .i64 0), .s (.int .i64 0), .s (.int .i64 0)]) (List.length h2)) h2 fun x6 h7 =>
effK (stE 3 x6 x5 h7) h7 fun x8 h9 =>
f_calendar_date_L4 P T D N (fun w58_0 w58_2 w58_3 h => f_calendar_date_j1 P T D N K w58_0 w58_2 w58_3 h) N a0 x1 x6 h9
theorem f_calendar_date_b3_eq (P : Program) (T : Tab) (D : DTab) (N : Nat) {β : Type} (xn : AV → AV → AV → Hp → Option β) (x2 : AV → AV → AV → Hp → Option β) (xd : Nat → St → Option β) (xq : St → Option β) (t : Tm) (h : Hp) : o_calendar_date_L3 P T D N t h (fun (e : Ex) (s : St) => e.on (xn (s.1 0) (s.1 2) (s.1 3) s.2) (fun i => (bif i == 2 then x2 (s.1 0) (s.1 2) (s.1 3) s.2 else (xd i s))) (xq s)) = f_calendar_date_b3 P T D N xn x2 (t 0) (t 2) (t 3) h := by kernel_rfl
theorem f_calendar_date_L3_eq (P : Program) (T : Tab) (D : DTab) (N : Nat) {β : Type} (A : Ex → St → Option β) (x2 : AV → AV → AV → Hp → Option β) (q2 : ∀ s, A (.exit 2) s = x2 (s.1 0) (s.1 2) (s.1 3) s.2) : ∀ (n : Nat) (s : St), iterK (fun s k => o_calendar_date_L3 P T D N s.1 s.2 k) n s A = f_calendar_date_L3 P T D N x2 n (s.1 0) (s.1 2) (s.1 3) s.2 := by
  intro n
  induction n with
  | zero => intro s; rfl
  | succ n ih =>
    intro s
    have hk : (fun (e : Ex) (s' : St) => Ex.on e (iterK (fun s k => o_calendar_date_L3 P T D N s.1 s.2 k) n s' A) (fun i => A (.exit i) s') (A .ret s')) = (fun (e : Ex) (s : St) => e.on ((f_calendar_date_L3 P T D N x2 n) (s.1 0) (s.1 2) (s.1 3) s.2) (fun i => (bif i == 2 then x2 (s.1 0) (s.1 2) (s.1 3) s.2 else (A (.exit i) s))) (A .ret s)) := by
      funext e s'
      cases e with
      | normal => exact ih s'
      | ret => exact rfl
      | exit i =>
        by_cases r2 : i = 2
        · subst r2; exact q2 s'
        simp only [Ex.on, beq_false_of_ne r2, cond_false]
    show o_calendar_date_L3 P T D N s.1 s.2 (fun (e : Ex) (s' : St) => Ex.on e (iterK (fun s k => o_calendar_date_L3 P T D N s.1 s.2 k) n s' A) (fun i => A (.exit i) s') (A .ret s')) = _
    rw [hk]
    exact f_calendar_date_b3_eq P T D N (f_calendar_date_L3 P T D N x2 n) x2 (fun i s => A (.exit i) s) (fun s => A .ret s) s.1 s.2
theorem f_calendar_date_j1_eq (P : Program) (T : Tab) (D : DTab) (N : Nat) {β : Type} (K : AV → Hp → Option β) (t : Tm) (h : Hp) : o_calendar_date_j1 P T D N K t h = f_calendar_date_j1 P T D N K (t 0) (t 2) (t 3) h := by
  have eL3 : (fun s : St => iterK (fun s k => o_calendar_date_L3 P T D N s.1 s.2 k) N s (o_calendar_date_aL3 P T D N K)) = (fun s : St => f_calendar_date_L3 P T D N (fun w45_0 w45_2 w45_3 h => f_calendar_date_j2 P T D N K w45_0 w45_2 w45_3 h) N (s.1 0) (s.1 2) (s.1 3) s.2) := funext fun s => f_calendar_date_L3_eq P T D N (o_calendar_date_aL3 P T D N K) (fun w45_0 w45_2 w45_3 h => f_calendar_date_j2 P T D N K w45_0 w45_2 w45_3 h) (fun s => rfl) N s
  show o_calendar_date_j1_G P T D N (fun s => iterK (fun s k => o_calendar_date_L3 P T D N s.1 s.2 k) N s (o_calendar_date_aL3 P T D N K)) K t h = _
  rw [eL3]
  kernel_rfl
theorem f_calendar_date_b4_eq (P : Program) (T : Tab) (D : DTab) (N : Nat) {β : Type} (xn : AV → AV → AV → Hp → Option β) (x0 : AV → AV → AV → Hp → Option β) (xd : Nat → St → Option β) (xq : St → Option β) (t : Tm) (h : Hp) : o_calendar_date_L4 P T D N t h (fun (e : Ex) (s : St) => e.on (xn (s.1 0) (s.1 2) (s.1 3) s.2) (fun i => (bif i == 0 then x0 (s.1 0) (s.1 2) (s.1 3) s.2 else (xd i s))) (xq s)) = f_calendar_date_b4 P T D N xn x0 (t 0) (t 2) (t 3) h := by kernel_rfl
theorem f_calendar_date_L4_eq (P : Program) (T : Tab) (D : DTab) (N : Nat) {β : Type} (A : Ex → St → Option β) (x0 : AV → AV → AV → Hp → Option β) (q0 : ∀ s, A (.exit 0) s = x0 (s.1 0) (s.1 2) (s.1 3) s.2) : ∀ (n : Nat) (s : St), iterK (fun s k => o_calendar_date_L4 P T D N s.1 s.2 k) n s A = f_calendar_date_L4 P T D N x0 n (s.1 0) (s.1 2) (s.1 3) s.2 := by
  intro n
  induction n with
  | zero => intro s; rfl
  | succ n ih =>
    intro s
    have hk : (fun (e : Ex) (s' : St) => Ex.on e (iterK (fun s k => o_calendar_date_L4 P T D N s.1 s.2 k) n s' A) (fun i => A (.exit i) s') (A .ret s')) = (fun (e : Ex) (s : St) => e.on ((f_calendar_date_L4 P T D N x0 n) (s.1 0) (s.1 2) (s.1 3) s.2) (fun i => (bif i == 0 then x0 (s.1 0) (s.1 2) (s.1 3) s.2 else (A (.exit i) s))) (A .ret s)) := by
      funext e s'
      cases e with
      | normal => exact ih s'
      | ret => exact rfl
      | exit i =>
        by_cases r0 : i = 0
        · subst r0; exact q0 s'
        simp only [Ex.on, beq_false_of_ne r0, cond_false]
    show o_calendar_date_L4 P T D N s.1 s.2 (fun (e : Ex) (s' : St) => Ex.on e (iterK (fun s k => o_calendar_date_L4 P T D N s.1 s.2 k) n s' A) (fun i => A (.exit i) s') (A .ret s')) = _
    rw [hk]
    exact f_calendar_date_b4_eq P T D N (f_calendar_date_L4 P T D N x0 n) x0 (fun i s => A (.exit i) s) (fun s => A .ret s) s.1 s.2
theorem f_calendar_date_old_eq (P : Program) (T : Tab) (D : DTab) (N : Nat) {β : Type} (K : AV → Hp → Option β) (a0 : AV) (h : Hp) : o_calendar_date P T D N K a0 h = f_calendar_date P T D N K a0 h := by
  have eL4 : (fun s : St => iterK (fun s k => o_calendar_date_L4 P T D N s.1 s.2 k) N s (o_calendar_date_aL4 P T D N K)) = (fun s : St => f_calendar_date_L4 P T D N (fun w58_0 w58_2 w58_3 h => f_calendar_date_j1 P T D N K w58_0 w58_2 w58_3 h) N (s.1 0) (s.1 2) (s.1 3) s.2) := funext fun s => f_calendar_date_L4_eq P T D N (o_calendar_date_aL4 P T D N K) (fun w58_0 w58_2 w58_3 h => f_calendar_date_j1 P T D N K w58_0 w58_2 w58_3 h) (fun s => f_calendar_date_j1_eq P T D N K s.1 s.2) N s
  show o_calendar_date_G P T D N (fun s => iterK (fun s k => o_calendar_date_L4 P T D N s.1 s.2 k) N s (o_calendar_date_aL4 P T D N K)) K a0 h = _
  rw [eL4]
  kernel_rfl
theorem o_calendar_date_run (T : Tab) (D : DTab) (N : Nat) {β : Type} (K : AV → Hp → Option β) (a0 : AV) (h : Hp) : runK Tryz.prog T D N [0, 2, 3, 13, 29] Tryz.f125 K [a0] h = o_calendar_date Tryz.prog T D N K a0 h := by kernel_rfl
theorem f_calendar_date_run (T : Tab) (D : DTab) (N : Nat) {β : Type} (K : AV → Hp → Option β) (a0 : AV) (h : Hp) : runK Tryz.prog T D N [0, 2, 3, 13, 29] Tryz.f125 K [a0] h = f_calendar_date Tryz.prog T D N K a0 h := (o_calendar_date_run T D N K a0 h).trans (f_calendar_date_old_eq Tryz.prog T D N K a0 h)
noncomputable def f_calendar_length (P : Program) (T : Tab) (D : DTab) (N : Nat) {β : Type} (K : AV → Hp → Option β) (a0 : AV) (a1 : AV) (h : Hp) : Option β :=
buildK [.s (.int .i64 0), .s (.int .i64 0), .s (.int .i64 0), .s (.int .i64 0), .s (.int .i64 0), .s (.int .i64 0), .s (.int .i64 0), .s (.int .i64 0), .s (.int .i64 0), .s (.int .i64 0), .s (.int .i64 0), .s (.int .i64 0), .s (.int .i64 0)] [(some (0, 1), (.s (.int .i64 0))), (some (1, 1), (.s (.int .i64 31))), (some (2, 1), (.s (.int .i64 28))), (some (3, 1), (.s (.int .i64 31))), (some (4, 1), (.s (.int .i64 30))), (some (5, 1), (.s (.int .i64 31))), (some (6, 1), (.s (.int .i64 30))), (some (7, 1), (.s (.int .i64 31))), (some (8, 1), (.s (.int .i64 31))), (some (9, 1), (.s (.int .i64 30))), (some (10, 1), (.s (.int .i64 31))), (some (11, 1), (.s (.int .i64 30))), (some (12, 1), (.s (.int .i64 31)))] fun x1 =>
effK (boxE 13 (.agg [.s (.int .i64 0), .s (.int .i64 0), .s (.int .i64 0), .s (.int .i64 0), .s (.int .i64 0), .s (.int .i64 0), .s (.int .i64 0), .s (.int .i64 0), .s (.int .i64 0), .s (.int .i64 0), .s (.int .i64 0), .s (.int .i64 0), .s (.int .i64 0)]) (List.length h)) h fun x2 h3 =>
effK (stE 13 x2 x1 h3) h3 fun x4 h5 =>
eqK P false 3 a1 (.s (.int .i64 2)) h5 fun x6 =>
grpK true x6 h5 (fun k7 =>
callK (T 136) [a0] h5 fun x8 h9 =>
k7 x8 h9) fun x10 h11 =>
condK x10 (
K (.s (.int .i64 29)) h11) (
iaA 1 13 x2 a1 fun x12 =>
ldK 1 false x12 h11 fun x13 =>
K x13 h11)
theorem f_calendar_length_run (T : Tab) (D : DTab) (N : Nat) {β : Type} (K : AV → Hp → Option β) (a0 : AV) (a1 : AV) (h : Hp) : runK Tryz.prog T D N [0, 1, 4, 5, 12] Tryz.f126 K [a0, a1] h = f_calendar_length Tryz.prog T D N K a0 a1 h := by kernel_rfl
noncomputable def o_calendar_number_j1 (P : Program) (T : Tab) (D : DTab) (N : Nat) {β : Type} (K : AV → Hp → Option β) (t : Tm) (h : Hp) : Option β :=
K (t 3) h
noncomputable def o_calendar_number_L2 (P : Program) (T : Tab) (D : DTab) (N : Nat) {β : Type} (t : Tm) (h : Hp) (k : Ex → St → Option β) : Option β :=
faK 1 (t 1) fun x12 =>
ldK 1 false x12 h fun x13 =>
arithK .lss (t 4) x13 fun x14 =>
condK x14 (
faK 0 (t 1) fun x15 =>
ldK 1 false x15 h fun x16 =>
callK (T 126) [x16, (t 4)] h fun x17 h18 =>
arithK .add (t 3) x17 fun x19 =>
arithK .add (t 4) (.s (.int .i64 1)) fun x20 =>
k .normal ((upd (upd (upd t 15 x14) 3 x19) 4 x20), h18)) (
k (.exit 0) ((upd t 15 x14), h))
noncomputable def o_calendar_number_aL2 (P : Program) (T : Tab) (D : DTab) (N : Nat) {β : Type} (K : AV → Hp → Option β) (e : Ex) (s : St) : Option β :=
  e.on ((o_calendar_number_j1 P T D N K s.1 s.2))
  (fun i => bif i == 0 then ((o_calendar_number_j1 P T D N K s.1 s.2)) else (none))
  (K (s.1 2) s.2)
noncomputable def o_calendar_number_G (P : Program) (T : Tab) (D : DTab) (N : Nat) {β : Type} (cL2 : St → Option β) (K : AV → Hp → Option β) (a0 : AV) (h : Hp) :  Option β :=
effK (boxE 3 a0 (List.length h)) h fun x1 h2 =>
faK 0 x1 fun x3 =>
ldK 1 false x3 h2 fun x4 =>
effD (callE (D 135) [x4] h2 (List.length h2)) h2 fun x5 h6 e7 =>
faK 2 x1 fun x8 =>
ldK 1 false x8 h6 fun x9 =>
arithK .add x5 x9 fun x10 =>
arithK .sub x10 (.s (.int .i64 1)) fun x11 =>
bif disjAll [(2, 4)] [([], []), ((idsOf x3), []), e7, ([], []), ((idsOf x8), []), ([], []), ([], []), ([], [])] then (
cL2 ((upd (upd (upd (upd (tm0 [a0]) 1 x1) 2 (.s (.int .i64 0))) 3 x11) 4 (.s (.int .i64 1))), h6)) else none
noncomputable def o_calendar_number (P : Program) (T : Tab) (D : DTab) (N : Nat) {β : Type} (K : AV → Hp → Option β) (a0 : AV) (h : Hp) : Option β := o_calendar_number_G P T D N (fun s => iterK (fun s k => o_calendar_number_L2 P T D N s.1 s.2 k) N s (o_calendar_number_aL2 P T D N K)) K a0 h
noncomputable def f_calendar_number_j1 (P : Program) (T : Tab) (D : DTab) (N : Nat) {β : Type} (K : AV → Hp → Option β) (v3 : AV) (h : Hp) : Option β :=
K v3 h
noncomputable def f_calendar_number_b2 (P : Program) (T : Tab) (D : DTab) (N : Nat) {β : Type} (xn : AV → AV → AV → Hp → Option β) (x0 : AV → Hp → Option β) (v1 : AV) (v3 : AV) (v4 : AV) (h : Hp) : Option β :=
faK 1 v1 fun x12 =>
ldK 1 false x12 h fun x13 =>
arithK .lss v4 x13 fun x14 =>
condK x14 (
faK 0 v1 fun x15 =>
ldK 1 false x15 h fun x16 =>
callK (T 126) [x16, v4] h fun x17 h18 =>
arithK .add v3 x17 fun x19 =>
arithK .add v4 (.s (.int .i64 1)) fun x20 =>
xn v1 x19 x20 h18) (
x0 v3 h)
noncomputable def f_calendar_number_L2 (P : Program) (T : Tab) (D : DTab) (N : Nat) {β : Type} (x0 : AV → Hp → Option β) : Nat → AV → AV → AV → Hp → Option β
  | 0 => fun _ _ _ _ => none
  | n + 1 => fun v1 v3 v4 h => f_calendar_number_b2 P T D N (f_calendar_number_L2 P T D N x0 n) x0 v1 v3 v4 h
noncomputable def f_calendar_number (P : Program) (T : Tab) (D : DTab) (N : Nat) {β : Type} (K : AV → Hp → Option β) (a0 : AV) (h : Hp) : Option β :=
effK (boxE 3 a0 (List.length h)) h fun x1 h2 =>
faK 0 x1 fun x3 =>
ldK 1 false x3 h2 fun x4 =>
effD (callE (D 135) [x4] h2 (List.length h2)) h2 fun x5 h6 e7 =>
faK 2 x1 fun x8 =>
ldK 1 false x8 h6 fun x9 =>
arithK .add x5 x9 fun x10 =>
arithK .sub x10 (.s (.int .i64 1)) fun x11 =>
bif disjAll [(2, 4)] [([], []), ((idsOf x3), []), e7, ([], []), ((idsOf x8), []), ([], []), ([], []), ([], [])] then (
f_calendar_number_L2 P T D N (fun w21_3 h => f_calendar_number_j1 P T D N K w21_3 h) N x1 x11 (.s (.int .i64 1)) h6) else none
theorem f_calendar_number_b2_eq (P : Program) (T : Tab) (D : DTab) (N : Nat) {β : Type} (xn : AV → AV → AV → Hp → Option β) (x0 : AV → Hp → Option β) (xd : Nat → St → Option β) (xq : St → Option β) (t : Tm) (h : Hp) : o_calendar_number_L2 P T D N t h (fun (e : Ex) (s : St) => e.on (xn (s.1 1) (s.1 3) (s.1 4) s.2) (fun i => (bif i == 0 then x0 (s.1 3) s.2 else (xd i s))) (xq s)) = f_calendar_number_b2 P T D N xn x0 (t 1) (t 3) (t 4) h := by kernel_rfl
theorem f_calendar_number_L2_eq (P : Program) (T : Tab) (D : DTab) (N : Nat) {β : Type} (A : Ex → St → Option β) (x0 : AV → Hp → Option β) (q0 : ∀ s, A (.exit 0) s = x0 (s.1 3) s.2) : ∀ (n : Nat) (s : St), iterK (fun s k => o_calendar_number_L2 P T D N s.1 s.2 k) n s A = f_calendar_number_L2 P T D N x0 n (s.1 1) (s.1 3) (s.1 4) s.2 := by
  intro n
  induction n with
  | zero => intro s; rfl
  | succ n ih =>
    intro s
    have hk : (fun (e : Ex) (s' : St) => Ex.on e (iterK (fun s k => o_calendar_number_L2 P T D N s.1 s.2 k) n s' A) (fun i => A (.exit i) s') (A .ret s')) = (fun (e : Ex) (s : St) => e.on ((f_calendar_number_L2 P T D N x0 n) (s.1 1) (s.1 3) (s.1 4) s.2) (fun i => (bif i == 0 then x0 (s.1 3) s.2 else (A (.exit i) s))) (A .ret s)) := by
      funext e s'
      cases e with
      | normal => exact ih s'
      | ret => exact rfl
      | exit i =>
        by_cases r0 : i = 0
        · subst r0; exact q0 s'
        simp only [Ex.on, beq_false_of_ne r0, cond_false]
    show o_calendar_number_L2 P T D N s.1 s.2 (fun (e : Ex) (s' : St) => Ex.on e (iterK (fun s k => o_calendar_number_L2 P T D N s.1 s.2 k) n s' A) (fun i => A (.exit i) s') (A .ret s')) = _
    rw [hk]
    exact f_calendar_number_b2_eq P T D N (f_calendar_number_L2 P T D N x0 n) x0 (fun i s => A (.exit i) s) (fun s => A .ret s) s.1 s.2
theorem f_calendar_number_old_eq (P : Program) (T : Tab) (D : DTab) (N : Nat) {β : Type} (K : AV → Hp → Option β) (a0 : AV) (h : Hp) : o_calendar_number P T D N K a0 h = f_calendar_number P T D N K a0 h := by
  have eL2 : (fun s : St => iterK (fun s k => o_calendar_number_L2 P T D N s.1 s.2 k) N s (o_calendar_number_aL2 P T D N K)) = (fun s : St => f_calendar_number_L2 P T D N (fun w21_3 h => f_calendar_number_j1 P T D N K w21_3 h) N (s.1 1) (s.1 3) (s.1 4) s.2) := funext fun s => f_calendar_number_L2_eq P T D N (o_calendar_number_aL2 P T D N K) (fun w21_3 h => f_calendar_number_j1 P T D N K w21_3 h) (fun s => rfl) N s
  show o_calendar_number_G P T D N (fun s => iterK (fun s k => o_calendar_number_L2 P T D N s.1 s.2 k) N s (o_calendar_number_aL2 P T D N K)) K a0 h = _
  rw [eL2]
  kernel_rfl
theorem o_calendar_number_run (T : Tab) (D : DTab) (N : Nat) {β : Type} (K : AV → Hp → Option β) (a0 : AV) (h : Hp) : runK Tryz.prog T D N [0, 1, 2, 3, 4, 15] Tryz.f127 K [a0] h = o_calendar_number Tryz.prog T D N K a0 h := by kernel_rfl
theorem f_calendar_number_run (T : Tab) (D : DTab) (N : Nat) {β : Type} (K : AV → Hp → Option β) (a0 : AV) (h : Hp) : runK Tryz.prog T D N [0, 1, 2, 3, 4, 15] Tryz.f127 K [a0] h = f_calendar_number Tryz.prog T D N K a0 h := (o_calendar_number_run T D N K a0 h).trans (f_calendar_number_old_eq Tryz.prog T D N K a0 h)
noncomputable def f_season_version_1 (P : Program) (T : Tab) (D : DTab) (N : Nat) {β : Type} (K : AV → Hp → Option β) (a0 : AV) (a1 : AV) (a2 : AV) (h : Hp) : Option β :=
ldK 1 false a1 h fun x1 =>
iaK 4 x1 a0 fun x2 =>
faK 0 x2 fun x3 =>
ldK 1 false x3 h fun x4 =>
ldK 1 false a2 h fun x5 =>
arithK .gtr x4 x5 fun x6 =>
K x6 h
theorem f_season_version_1_run (T : Tab) (D : DTab) (N : Nat) {β : Type} (K : AV → Hp → Option β) (a0 : AV) (a1 : AV) (a2 : AV) (h : Hp) : runK Tryz.prog T D N [0, 1, 2, 4] Tryz.f128 K [a0, a1, a2] h = f_season_version_1 Tryz.prog T D N K a0 a1 a2 h := by kernel_rfl
noncomputable def f_season_rate_1 (P : Program) (T : Tab) (D : DTab) (N : Nat) {β : Type} (K : AV → Hp → Option β) (a0 : AV) (a1 : AV) (a2 : AV) (h : Hp) : Option β :=
ldK 1 false a1 h fun x1 =>
iaK 4 x1 a0 fun x2 =>
ldK 4 true x2 h fun x3 =>
ldK 4 true a2 h fun x4 =>
callK (T 42) [x3, x4] h fun x5 h6 =>
notK x5 fun x7 =>
K x7 h6
theorem f_season_rate_1_run (T : Tab) (D : DTab) (N : Nat) {β : Type} (K : AV → Hp → Option β) (a0 : AV) (a1 : AV) (a2 : AV) (h : Hp) : runK Tryz.prog T D N [0, 1, 2, 4] Tryz.f129 K [a0, a1, a2] h = f_season_rate_1 Tryz.prog T D N K a0 a1 a2 h := by kernel_rfl
noncomputable def f_calendar_before (P : Program) (T : Tab) (D : DTab) (N : Nat) {β : Type} (K : AV → Hp → Option β) (a0 : AV) (h : Hp) : Option β :=
arithK .sub a0 (.s (.int .i64 1900)) fun x1 =>
arithK .mul (.s (.int .i64 365)) x1 fun x2 =>
arithK .sub a0 (.s (.int .i64 1)) fun x3 =>
callVK T (.fn 138 []) [x3] h fun x4 h5 =>
arithK .add x2 x4 fun x6 =>
callVK T (.fn 138 []) [(.s (.int .i64 1899))] h5 fun x7 h8 =>
arithK .sub x6 x7 fun x9 =>
K x9 h8
theorem f_calendar_before_run (T : Tab) (D : DTab) (N : Nat) {β : Type} (K : AV → Hp → Option β) (a0 : AV) (h : Hp) : runK Tryz.prog T D N [0, 2, 3] Tryz.f135 K [a0] h = f_calendar_before Tryz.prog T D N K a0 h := by kernel_rfl
noncomputable def f_calendar_leap (P : Program) (T : Tab) (D : DTab) (N : Nat) {β : Type} (K : AV → Hp → Option β) (a0 : AV) (h : Hp) : Option β :=
reckK P .rem 3 a0 (.s (.int .i64 4)) fun x1 =>
eqK P false 3 x1 (.s (.int .i64 0)) h fun x2 =>
grpK true x2 h (fun k3 =>
reckK P .rem 3 a0 (.s (.int .i64 100)) fun x4 =>
eqK P true 3 x4 (.s (.int .i64 0)) h fun x5 =>
grpK false x5 h (fun k6 =>
reckK P .rem 3 a0 (.s (.int .i64 400)) fun x7 =>
eqK P false 3 x7 (.s (.int .i64 0)) h fun x8 =>
k6 x8 h) fun x9 h10 =>
k3 x9 h10) fun x11 h12 =>
K x11 h12
theorem f_calendar_leap_run (T : Tab) (D : DTab) (N : Nat) {β : Type} (K : AV → Hp → Option β) (a0 : AV) (h : Hp) : runK Tryz.prog T D N [0, 2] Tryz.f136 K [a0] h = f_calendar_leap Tryz.prog T D N K a0 h := by kernel_rfl
noncomputable def f_calendar_before_1 (P : Program) (T : Tab) (D : DTab) (N : Nat) {β : Type} (K : AV → Hp → Option β) (a0 : AV) (h : Hp) : Option β :=
reckK P .quo 3 a0 (.s (.int .i64 4)) fun x1 =>
reckK P .quo 3 a0 (.s (.int .i64 100)) fun x2 =>
arithK .sub x1 x2 fun x3 =>
reckK P .quo 3 a0 (.s (.int .i64 400)) fun x4 =>
arithK .add x3 x4 fun x5 =>
K x5 h
theorem f_calendar_before_1_run (T : Tab) (D : DTab) (N : Nat) {β : Type} (K : AV → Hp → Option β) (a0 : AV) (h : Hp) : runK Tryz.prog T D N [0, 2] Tryz.f138 K [a0] h = f_calendar_before_1 Tryz.prog T D N K a0 h := by kernel_rfl
end Go.AM



namespace Go.AM
open Go.RowKit
set_option linter.unusedVariables false
set_option linter.unusedSimpArgs false
set_option linter.constructorNameAsVariable false
variable {P : Program} {μ μ' : Mu} {h h' h1 : Hp} {w w' : World}
def Near (h h1 : Hp) : Prop := h1.length = h.length ∧ ∀ (id : Nat) (o : AObj), h[id]? = some o → h1[id]? = some o ∨ ∃ sz es es' own nil, o = .arr sz es own nil ∧ h1[id]? = some (.arr sz es' own nil) ∧ es'.length = es.length ∧ ∀ e ∈ es', ∀ c ∈ e, plain c = true
theorem Near.back (n : Near h h1) {id : Nat} {o : AObj} (ho : h1[id]? = some o) : h[id]? = some o ∨ ∃ sz es es' own nil, o = .arr sz es' own nil ∧ h[id]? = some (.arr sz es own nil) ∧ es'.length = es.length ∧ ∀ e ∈ es', ∀ c ∈ e, plain c = true := by
  have hl : id < h.length := by rw [← n.1]; exact (List.getElem?_eq_some_iff.1 ho).1
  have hh : h[id]? = some h[id] := List.getElem?_eq_getElem hl
  rcases n.2 id _ hh with h2 | ⟨sz, es, es', own, nil, h2, h3, h4, h5⟩
  · left
    rw [h2] at ho
    rw [hh]; exact ho
  · right
    rw [h3] at ho
    injection ho with ho
    exact ⟨sz, es, es', own, nil, ho.symm, by rw [hh, h2], h4, h5⟩
theorem Step.forget2 {g : List AObj} (R : Rel μ h w) (n : Near h h1) (S : Step μ h w μ' (h1 ++ g) w') : Step μ h w (μ.mix μ') h1 w' ∧ Ext (μ.mix μ') h1 μ' (h1 ++ g) := by
  have hin : ∀ i o, h1[i]? = some o → (h1 ++ g)[i]? = some o := fun i o hi => by
    rw [List.getElem?_append_left (List.getElem?_eq_some_iff.1 hi).1]; exact hi
  have hloc : ∀ (id : Nat) (o : AObj), h[id]? = some o → o ≠ .dead → μ' id = μ id := by
    intro id o ho hd
    have := S.evo.obj id o ho
    cases o with
    | dead => exact absurd rfl hd
    | loop m ps asg body ts st pend => obtain ⟨_, _, _, h2⟩ := this; exact h2
    | iter m n seen => obtain ⟨_, _, h2⟩ := this; exact h2
    | map kvs => obtain ⟨_, _, h2⟩ := this; exact h2
    | arr sz es own nil =>
      obtain ⟨es', nil', q1, q2, q3⟩ := this
      rcases n.2 id _ ho with h2 | ⟨sz2, es2, es3, own2, nil2, h2, h3, h4, h5⟩
      · rw [hin _ _ h2] at q1
        injection q1 with q1
        injection q1 with e1 e2 e3 e4
        exact q3 (by rw [e2])
      · rw [hin _ _ h3] at q1
        injection q1 with q1
        injection q1 with e1 e2 e3 e4
        injection h2 with f1 f2 f3 f4
        exact q3 (by rw [← e2, h4, f2])
  have hloc1 : ∀ (id : Nat) (o : AObj), h1[id]? = some o → o ≠ .dead → μ' id = μ id := by
    intro id o ho hd
    rcases n.back ho with h2 | ⟨sz, es, es', own, nil, h2, h3, h4, h5⟩
    · exact hloc id o h2 hd
    · exact hloc id _ h3 (by simp)
  have he : Ext (μ.mix μ') h1 μ' (h1 ++ g) := ⟨fun k hk => ⟨hk, rfl⟩, fun id o ho => ⟨hin _ _ ho, fun hd => hloc1 id o ho hd⟩⟩
  have hE : Evo μ h (μ.mix μ') h1 := by
    refine ⟨S.evo.imm, fun id o ho => ?_⟩
    rcases n.2 id _ ho with h2 | ⟨sz2, es2, es3, own2, nil2, rfl, h3, h4, h5⟩
    · cases o with
      | dead => trivial
      | loop m ps asg body ts st pend => exact ⟨st, pend, h2, rfl⟩
      | iter m n seen => exact ⟨seen, h2, rfl⟩
      | map kvs => exact ⟨kvs, h2, rfl⟩
      | arr sz es own nil => exact ⟨es, nil, h2, Nat.le_refl _, fun _ => rfl⟩
    · exact ⟨es3, nil2, h3, by omega, fun _ => rfl⟩
  have hmu : ∀ i o b x c, h1[i]? = some o → isOwn o = true → (μ.mix μ') i = .real b x c → μ' i = .real b x c := fun i o b x c p1 p2 p3 => by
    rw [hloc1 i o p1 (by rintro rfl; simp [isOwn] at p2)]; exact p3
  have hown : ∀ b, Own (μ.mix μ') h1 b → Own μ' (h1 ++ g) b := by
    rintro b ⟨id, o, x, c, p1, p2, p3⟩
    exact ⟨id, o, x, c, hin _ _ p1, p2, hmu _ _ _ _ _ p1 p2 p3⟩
  have hown0 : ∀ b, Own (μ.mix μ') h1 b → Own μ h b := by
    rintro b ⟨id, o, x, c, p1, p2, p3⟩
    rcases n.back p1 with h2 | ⟨sz, es, es', own, nil, rfl, h3, h4, h5⟩
    · exact ⟨id, o, x, c, h2, p2, p3⟩
    · exact ⟨id, _, x, c, h3, p2, p3⟩
  refine ⟨⟨⟨fun id o ho => ?_, ?_, ?_, ?_⟩, hE, S.frame, fun b hb => .inl (hown0 b hb), S.fresh⟩, he⟩
  · have H := S.rel.obj id o (hin _ _ ho)
    rcases n.back ho with h2 | ⟨sz, es, es', own, nil, rfl, h3, h4, h5⟩
    · exact ORel.back he ho (w := w) (ORel.mono hE rfl (fun _ _ _ _ => rfl) (Nat.le_refl _) (R.obj id o h2)) H
    · refine ⟨H.1, ?_⟩
      have H2 := H.2
      have hm : μ' id = (μ.mix μ') id := hloc1 id _ ho (by simp)
      rw [← hm]
      cases hmu2 : μ' id with
      | virt A => rw [hmu2] at H2; exact H2
      | real blk x c =>
        rw [hmu2] at H2
        obtain ⟨q1, q2, q3, q4, q5, q6⟩ := H2
        refine ⟨q1, q2, q3, q4, fun i e j a p q => ?_, q6⟩
        obtain ⟨v, r1, r2, r3⟩ := q5 i e j a p q
        exact ⟨v, r1, r2, plain_VR he.imm (h5 e (List.mem_of_getElem? p) a (List.mem_of_getElem? q)) r3⟩
  · intro i j o p b x c y d hi hj hoi hpj hmi hmj
    exact S.rel.sep i j o p b x c y d (hin _ _ hi) (hin _ _ hj) hoi hpj (hmu _ _ _ _ _ hi hoi hmi) (hmu _ _ _ _ _ hj hpj hmj)
  · intro i sz es nil b x c hi hmi hO
    rcases n.back hi with h2 | ⟨sz2, es2, es3, own2, nil2, h2, h3, h4, h5⟩
    · exact R.apart i sz es nil b x c h2 hmi (hown0 b hO)
    · injection h2 with f1 f2 f3 f4
      subst f1 f3 f4
      exact R.apart i _ es2 _ b x c h3 hmi (hown0 b hO)
  · intro k hk
    obtain ⟨p1, p2, p3⟩ := S.rel.imm k hk
    exact ⟨p1, p2, fun hO => p3 (hown k hO)⟩
def Writes (F : Fun) (id : Nat) (x : AV) (sz : Nat) (xs zs : List AV) : Prop :=
  (∀ c ∈ zs, plain c = true) ∧ ∀ H : Hp, H[id]? = some (.arr sz [xs] true false) → ∃ g, F [.ptr id 0 0 1, x] H = some (.tup [], H.set id (.arr sz [zs] true false) ++ g)
open Classical in
noncomputable def wrD (F : Fun) : DFun := fun args h base => match args with
  | [.ptr id 0 0 1, x] => match h[id]? with
    | some (.arr sz [xs] true false) => if hx : ∃ zs, Writes F id x sz xs zs then some (.tup [], ⟨[(id, .arr sz [hx.choose] true false)], [], [id]⟩) else none
    | _ => none
  | _ => none
theorem Writes.unique {F : Fun} {id : Nat} {x : AV} {sz : Nat} {xs zs ys : List AV} {h : Hp} (hid : h[id]? = some (.arr sz [xs] true false)) (h1 : Writes F id x sz xs zs) (h2 : Writes F id x sz xs ys) : zs = ys := by
  obtain ⟨g1, e1⟩ := h1.2 h hid
  obtain ⟨g2, e2⟩ := h2.2 h hid
  rw [e1] at e2
  injection e2 with e2
  injection e2 with _ e2
  have hl := (List.getElem?_eq_some_iff.1 hid).1
  have := congrArg (fun l : Hp => l[id]?) e2
  rw [List.getElem?_append_left (by simpa using hl), List.getElem?_append_left (by simpa using hl), List.getElem?_set_self hl, List.getElem?_set_self hl] at this
  injection this with this
  injection this with _ this
  injection this
theorem wrD_val {F : Fun} {id : Nat} {x : AV} {sz : Nat} {xs zs : List AV} {h : Hp} (hid : h[id]? = some (.arr sz [xs] true false)) (hw : Writes F id x sz xs zs) (base : Nat) : wrD F [.ptr id 0 0 1, x] h base = some (.tup [], ⟨[(id, .arr sz [zs] true false)], [], [id]⟩) := by
  have hx : ∃ zs, Writes F id x sz xs zs := ⟨zs, hw⟩
  simp only [wrD, hid]
  rw [dif_pos hx, Writes.unique hid hx.choose_spec hw]
theorem wrD_inv {F : Fun} {args : List AV} {h : Hp} {base : Nat} {v : AV} {e : Eff} (hk : wrD F args h base = some (v, e)) : ∃ id x sz xs zs, args = [.ptr id 0 0 1, x] ∧ h[id]? = some (.arr sz [xs] true false) ∧ Writes F id x sz xs zs ∧ v = .tup [] ∧ e = ⟨[(id, .arr sz [zs] true false)], [], [id]⟩ := by
  unfold wrD at hk
  split at hk <;> try (simp at hk; done)
  rename_i id x
  split at hk <;> try (simp at hk; done)
  rename_i sz xs hid
  split at hk <;> try (simp at hk; done)
  rename_i hx
  simp only [Option.some.injEq, Prod.mk.injEq] at hk
  exact ⟨id, x, sz, xs, hx.choose, rfl, hid, hx.choose_spec, hk.1.symm, hk.2.symm⟩
theorem wrD_loc (F : Fun) : DLoc (wrD F) := by
  refine ⟨fun args h base v e hk H hag => ?_, fun args h base v e hk p hp => ?_⟩
  · obtain ⟨id, x, sz, xs, zs, rfl, hid, hw, rfl, rfl⟩ := wrD_inv hk
    exact wrD_val (hag id (by simp) _ hid) hw base
  · obtain ⟨id, x, sz, xs, zs, rfl, hid, hw, rfl, rfl⟩ := wrD_inv hk
    simp only [List.mem_singleton] at hp
    subst hp
    exact ⟨_, hid, by simp⟩
theorem wrD_calls {F : Fun} {f : FuncId} (hc : CSound P f F) : DCalls P f (wrD F) := by
  intro args h base v e hk hd μ w cargs R hargs
  obtain ⟨id, x, sz, xs, zs, rfl, hid, hw, rfl, rfl⟩ := wrD_inv hk
  obtain ⟨g, hg⟩ := hw.2 h hid
  obtain ⟨hgo, hcall⟩ := hc _ _ _ _ hg μ w cargs R hargs
  refine ⟨hgo, Calls.mono hcall ?_⟩
  rintro en w' ⟨cv, μ', rfl, hst, hv⟩
  have hl := (List.getElem?_eq_some_iff.1 hid).1
  have hn : Near h (h.set id (.arr sz [zs] true false)) := by
    refine ⟨by simp, fun j o ho => ?_⟩
    by_cases hj : id = j
    · subst hj
      rw [hid] at ho
      injection ho with ho
      subst ho
      right
      refine ⟨sz, [xs], [zs], true, false, rfl, by rw [List.getElem?_set_self hl], rfl, ?_⟩
      intro e he c hc
      simp only [List.mem_singleton] at he
      subst he
      exact hw.1 c hc
    · left
      rw [List.getElem?_set_ne hj]
      exact ho
  obtain ⟨h1, h2⟩ := Step.forget2 R hn hst
  exact ⟨cv, _, rfl, by simpa [apAt] using h1, plain_VR h2.imm rfl hv⟩
theorem DSound.wr {D : DTab} (DS : DSound P D) {f : Nat} {F : Fun} (hc : CSound P f F) : DSound P (updD D f (wrD F)) := DS.upd (wrD_loc F) (wrD_calls hc)
end Go.AM


namespace Go.AM
open Go.RowKit
open Classical in
set_option linter.unusedVariables false
variable {P : Program} {μ μ' : Mu} {h h' : Hp} {w w' : World} {β : Type} {ks : List Nat} {np nt : Nat} {ds : List Deferred} {ρ : Option Nat}
def CSoundK (P : Program) (f : FuncId) (RK : {β : Type} → (AV → Hp → Option β) → List AV → Hp → Option β) : Prop := ∀ {β : Type} (K : AV → Hp → Option β) (args : List AV) (h : Hp) (res : β), RK K args h = some res → ∀ μ w (cargs : Array Value), Rel μ h w → VRs μ h args cargs.toList →
  Goes P f ∧ Calls P f cargs w fun e w' => ∃ v h' cv μ', K v h' = some res ∧ e = .returned cv ∧ Step μ h w μ' h' w' ∧ VR μ' h' v cv
theorem leavesK_sound (R0 : Rel μ h w) {h1 : Hp} {a : Act} {t : Tm} {fn : Func} {v : AV} {h' : Hp} (hx : outsK P t h1 fn.results.toList (fun vs => some (pack vs, h1)) = some (v, h')) {Q : Ending → World → Prop} (hQ : ∀ cv μ' w', Step μ h w μ' h' w' → VR μ' h' v cv → Q (.returned cv) w') : ∀ (rs : List Nat) (μ1 : Mu) (w1 : World), Step μ h w μ1 h1 w1 → rs.Nodup →
    (∀ r ∈ rs, w.heap.size ≤ r ∧ μ1.imm r ∧ μ1.base.heap[r]? = some (.deferred (some []))) → (∀ i, VR μ1 h1 (t i) (a.eval (.tmp i))) →
    LeavesInM (FW none) 0 P fn a.tmps Q (rs.map (fun r => { target := .collected r, args := #[] })) .returning w1
  | [], μ1, w1, S, _, _, hv => by
    obtain ⟨xs, u, e, r1, r2⟩ := results_sound S.rel hv hx
    simp only [Option.some.injEq, Prod.mk.injEq] at e
    obtain ⟨rfl, rfl⟩ := e
    exact ⟨u, r1, hQ u μ1 _ S r2⟩
  | r :: rs, μ1, w1, S, hn, hr, hv => by
    obtain ⟨p1, p2, p3⟩ := hr r (by simp)
    obtain ⟨q1, μ2, q2, q3, q4⟩ := Step.take (P := P) R0 S p1 p2 p3
    rw [List.nodup_cons] at hn
    refine ⟨by simp, .inl ⟨r, _, rfl, q1, ?_⟩⟩
    exact leavesK_sound R0 hx hQ rs μ2 _ q2 hn.2 (fun r' hr' => by
      obtain ⟨s1, s2, s3⟩ := hr r' (by simp [hr'])
      have hne : r' ≠ r := fun e => hn.1 (e ▸ hr')
      exact ⟨s1, (q4 r' hne s2).1, (q4 r' hne s2).2.trans s3⟩) fun i => q3 _ _ (hv i)
theorem runK_sound {T : Tab} {D : DTab} (TS : TSound P T) (DS : DSound P D) (hm : P.follows .mixedOrders = true) {f : FuncId} {fn : Func} (hf : P.funcs[f]? = some fn) (hok : fnOk ks np fn = true) (N : Nat) : CSoundK P f (fun {β} K args h => if args.length = np then runK P T D N ks fn K args h else none) := by
  intro β K args h res hk μ w cargs R hargs
  simp only [fnOk, Bool.and_eq_true, decide_eq_true_eq, Bool.not_eq_true'] at hok
  obtain ⟨⟨hnt, hname⟩, hc⟩ := hok
  cases hb : fn.body with
  | none => rw [hb] at hc; cases hc
  | some c =>
    rw [hb] at hc
    refine ⟨⟨fn, hf, hname, by rw [hb]; rfl⟩, ?_⟩
    dsimp only at hk
    split at hk <;> try (simp at hk; done)
    rename_i hlen
    unfold runK at hk
    rw [hb] at hk
    simp only at hk
    have hsz : cargs.size = np := by rw [← hlen, hargs.length]; simp
    have hfit : Fit ks np fn.ntmps [] μ h (tm0 args) { tmps := cargs ++ Array.replicate (fn.ntmps - cargs.size) undef, defers := [] } := by
      refine ⟨by simp; omega, rfl, fun i => ?_, fun i _ => rfl, fun i _ hi => ?_⟩
      · rw [look_nil, tm0_get]
        cases ha : args[i]? with
        | none => simp [VR]
        | some x =>
          obtain ⟨u, h1, h2⟩ := hargs.get i x ha
          have hlt : i < cargs.size := by
            rw [← Array.length_toList]; exact (List.getElem?_eq_some_iff.1 h1).1
          have : (Act.mk (cargs ++ Array.replicate (fn.ntmps - cargs.size) undef) []).eval (.tmp i) = u := by
            simp only [Act.eval, Array.getD_eq_getD_getElem?, Array.getElem?_append_left hlt]
            have : cargs[i]? = some u := by simpa using h1
            rw [this]; rfl
          rw [this]
          exact h2
      · rw [tm0_get, List.getElem?_eq_none (by omega)]; rfl
    refine callsIn_wide.1 (callsIn_of_wp_marks (n := 0) (F := FW none) hf hb trivial ?_)
    refine exec_sound (ρ := none) (b0 := w.heap.size) TS DS hm c hc (.inl rfl) [] _ _ _ _ _ _ _ _ hk hfit ⟨[], rfl, List.nodup_nil, fun r hr => by cases hr⟩ (Nat.le_refl _) R ?_
    intro e t' h1 a' w' μ' ds' q1 q2 qm q3
    have key : outsK P t' h1 fn.results.toList (fun vs => K (pack vs) h1) = some res → LeavesInM (FW none) 0 P fn a'.tmps (fun e w' => ∃ v h' cv μ', K v h' = some res ∧ e = .returned cv ∧ Step μ h w μ' h' w' ∧ VR μ' h' v cv) a'.defers .returning w' := by
      intro hx
      obtain ⟨rs, m1, m2, m3⟩ := qm
      rw [outsK_eq] at hx
      obtain ⟨vs, hvs, hKv⟩ := Option.bind_eq_some_iff.1 hx
      have hx2 : outsK P t' h1 fn.results.toList (fun vs => some (pack vs, h1)) = some (pack vs, h1) := by rw [outsK_eq, hvs]; rfl
      rw [q2.defers, m1]
      exact leavesK_sound R hx2 (fun cv μ' w' s1 s2 => ⟨_, _, cv, μ', hKv, rfl, s1, s2⟩) rs μ' w' q3 m2 m3 q2.val
    cases e with
    | normal => exact key q1
    | exit i => simp [finK, Ex.on] at q1
    | ret => exact key q1
noncomputable def closedXK (shp shr : List Sh) (RK : {β : Type} → (AV → Hp → Option β) → List AV → Hp → Option β) : Fun := fun args h =>
  match cvts false h args with
  | some asl => match RK (fun v g => cvt (!plains args) g v) (nrms shp asl) [] with
    | some v' => some (nrmR shr v', h)
    | none => none
  | none => none
theorem closedXK_sound {f : FuncId} {RK : {β : Type} → (AV → Hp → Option β) → List AV → Hp → Option β} (shp shr : List Sh) (hc : CSoundK P f RK) : CSound P f (closedXK shp shr RK) := by
  intro args h v h' hk μ w cargs R hargs
  unfold closedXK at hk
  split at hk <;> try (simp at hk; done)
  rename_i asl hcv
  split at hk <;> try (simp at hk; done)
  rename_i u' hF
  simp only [Option.some.injEq, Prod.mk.injEq] at hk
  obtain ⟨rfl, rfl⟩ := hk
  cases hpl : plains args with
  | true =>
    rw [cvts_plain hpl] at hcv
    injection hcv with hcv
    subst hcv
    have R1 : Rel μ [] w := Rel.nil fun k hk => ⟨(R.imm k hk).1, (R.imm k hk).2.1⟩
    obtain ⟨hg, hcall⟩ := hc _ _ _ _ hF μ w cargs R1 (nrms_VRs shp (plain_VRs (ImmLe.refl _) hpl hargs))
    refine ⟨hg, Calls.mono hcall ?_⟩
    rintro e w' ⟨u, g, cv, μ2, hu, rfl, S, hv⟩
    rw [hpl] at hu
    have hnew : ∀ k, Own μ2 g k → w.heap.size ≤ k := fun k hk => (S.own k hk).elim (fun q => (Own.nil q).elim) id
    have him : ∀ k, μ2.imm k → μ.imm k ∨ w.heap.size ≤ k := fun k hk => (S.fresh k hk).elim .inl fun q => q.elim (fun q => (Own.nil q).elim) .inr
    obtain ⟨ξ, hξ⟩ : ∃ ξ : Mu, ξ = { loc := μ.loc, base := w', imm := fun k => μ2.imm k ∨ Own μ2 g k } := ⟨_, rfl⟩
    have hle : ImmLe μ ξ := fun k hk => by
      subst hξ
      refine ⟨.inl (S.evo.imm k hk).1, ?_⟩
      exact ((S.rel.imm k (S.evo.imm k hk).1).2.1).trans (S.evo.imm k hk).2
    obtain ⟨r1, r2, r3⟩ := Rel.over (g := g) R S.frame (ξ := ξ) (by rw [hξ]) hle (fun k hk => by
      subst hξ
      rcases hk with hk | hk
      · exact ⟨(S.rel.imm k hk).1, rfl, fun hO => by
          have := R.own_lt hO
          rcases him k hk with q | q
          · exact (R.imm k q).2.2 hO
          · omega⟩
      · exact ⟨S.rel.own_lt hk, rfl, fun hO => by have := R.own_lt hO; have := hnew k hk; omega⟩)
    have hfin := cvt_sound (ν := ξ) S.rel (fun k hk => by subst hξ; rfl) (fun k hk => by subst hξ; exact .inr hk) (fun _ k hk => by subst hξ; exact .inl hk) hv hu
    refine ⟨cv, ξ, rfl, ⟨r1, r2, r3, fun b hb => .inl ?_, fun k hk => ?_⟩, nrmR_VR (VR.lift h hfin)⟩
    · subst hξ; exact hb
    · subst hξ
      rcases hk with hk | hk
      · exact (him k hk).elim .inl fun q => .inr (.inr q)
      · exact .inr (.inr (hnew k hk))
  | false =>
    obtain ⟨μ1, hμ1⟩ : ∃ μ1 : Mu, μ1 = { loc := μ.loc, base := w, imm := fun k => μ.imm k ∨ Own μ h k } := ⟨_, rfl⟩
    have R1 : Rel μ1 [] w := Rel.nil fun k hk => by
      subst hμ1
      rcases hk with hk | hk
      · exact ⟨(R.imm k hk).1, rfl⟩
      · exact ⟨R.own_lt hk, rfl⟩
    have hargs1 : VRs μ1 [] asl cargs.toList := cvts_sound R (fun k hk => by subst hμ1; rfl) (fun k hk => by subst hμ1; exact .inr hk) (fun _ k hk => by subst hμ1; exact .inl hk) hargs hcv
    obtain ⟨hg, hcall⟩ := hc _ _ _ _ hF μ1 w cargs R1 (nrms_VRs shp hargs1)
    refine ⟨hg, Calls.mono hcall ?_⟩
    rintro e w' ⟨u, g, cv, μ2, hu, rfl, S, hv⟩
    rw [hpl] at hu
    have hnew : ∀ k, Own μ2 g k → w.heap.size ≤ k := fun k hk => (S.own k hk).elim (fun q => (Own.nil q).elim) id
    have hbl : ∀ k, k < w.heap.size → w'.heap[k]? = w.heap[k]? := fun k hk => S.frame.block k hk Own.nil
    obtain ⟨ξ, hξ⟩ : ∃ ξ : Mu, ξ = { loc := μ.loc, base := w', imm := fun k => μ.imm k ∨ Own μ2 g k } := ⟨_, rfl⟩
    have hle : ImmLe μ ξ := fun k hk => by
      subst hξ
      exact ⟨.inl hk, (hbl k (R.imm k hk).1).trans (R.imm k hk).2.1⟩
    obtain ⟨r1, r2, r3⟩ := Rel.over (g := g) R S.frame (ξ := ξ) (by rw [hξ]) hle (fun k hk => by
      subst hξ
      rcases hk with hk | hk
      · exact ⟨Nat.lt_of_lt_of_le (R.imm k hk).1 S.frame.size, rfl, (R.imm k hk).2.2⟩
      · exact ⟨S.rel.own_lt hk, rfl, fun hO => by have := R.own_lt hO; have := hnew k hk; omega⟩)
    have hfin := cvt_sound (ν := ξ) S.rel (fun k hk => by subst hξ; rfl) (fun k hk => by subst hξ; exact .inr hk) (fun hst => by simp at hst) hv hu
    refine ⟨cv, ξ, rfl, ⟨r1, r2, r3, fun b hb => .inl ?_, fun k hk => ?_⟩, nrmR_VR (VR.lift h hfin)⟩
    · subst hξ; exact hb
    · subst hξ
      rcases hk with hk | hk
      · exact .inl hk
      · exact .inr (.inr (hnew k hk))

theorem closedXK_val {shp shr : List Sh} {RK : {β : Type} → (AV → Hp → Option β) → List AV → Hp → Option β} {args : List AV} {v : AV} (ha : plains args = true) (hv : RK (fun v g => cvt false g v) (nrms shp args) [] = some v) (h : Hp) : closedXK shp shr RK args h = some (nrmR shr v, h) := by
  unfold closedXK
  rw [cvts_plain ha]
  simp only [ha, Bool.not_true]
  rw [hv]
end Go.AM


namespace Go.AM
open Go.RowKit Go.Sort Go.Proofs
set_option linter.unusedVariables false
set_option linter.unusedSimpArgs false
variable {P : Program} {μ μ' : Mu} {h h' : Hp} {w w' : World}
abbrev RowE (k : Nat) (ok : List Value → Bool) := { e : List Value // e.length = k ∧ (∀ v ∈ e, gv v = true) ∧ ok e = true }
def encE (e : List Value) : List AV := e.map .s
def decE (k : Nat) (ok : List Value → Bool) (e : List AV) : Option (List Value) := match e.mapM cellV with | some l => if l.length = k ∧ ok l = true then some l else none | none => none
def ltF (Fc : Fun) (x y : List Value) : Bool := match Fc [.agg (encE x), .agg (encE y)] [] with | some (.s (.int .i64 n), _) => decide (n < 0) | _ => false
def SortOk (k : Nat) (ok : List Value → Bool) (Fc : Fun) : Prop := ∃ cf : RowE k ok → RowE k ok → Int, (∀ x y, Fc [.agg (encE x.1), .agg (encE y.1)] [] = some (.s (.int .i64 (cf x y)), [])) ∧ SWO (ltOf cf) ∧ ∀ x y, ltOf cf x y = false → ltOf cf y x = false → x = y
open Classical in
noncomputable def sortF (k : Nat) (ok : List Value → Bool) (g : Nat) (Fc : Fun) : Fun := fun args h =>
  match args with
  | [.sl sz id off len fr _, .fn g' []] =>
    match h[id]? with
    | some (.arr sz' es own nil) =>
      if g' = g ∧ sz = k ∧ sz' = k ∧ es.length = fr ∧ own = true ∧ off + len ≤ es.length ∧ len < 4611686018427387904 ∧ SortOk k ok Fc then
        match ((es.drop off).take len).mapM (decE k ok) with
        | some l => some (.tup [], h.set id (.arr k (es.take off ++ (l.mergeSort fun x y => !ltF Fc y x).map encE ++ es.drop (off + len)) true nil))
        | none => none
      else none
    | _ => none
  | [.s (.slice none 0 0), .fn _ _] => some (.tup [], h)
  | _ => none
theorem cellV_s {a : AV} {v : Value} (h : cellV a = some v) : a = .s v ∧ gv v = true := by
  unfold cellV at h
  split at h <;> try (simp at h; done)
  split at h <;> try (simp at h; done)
  rename_i hg
  simp only [Option.some.injEq] at h
  subst h
  exact ⟨rfl, hg⟩
theorem mapM_cellV : ∀ {e : List AV} {l : List Value}, e.mapM cellV = some l → e = encE l ∧ ∀ v ∈ l, gv v = true
  | [], l, h => by simp at h; subst h; exact ⟨rfl, by simp⟩
  | a :: e, l, h => by
    simp only [List.mapM_cons, Option.pure_def, Option.bind_eq_bind, Option.bind_eq_some_iff, Option.some.injEq] at h
    obtain ⟨v, hv, l', hl, rfl⟩ := h
    obtain ⟨rfl, hg⟩ := cellV_s hv
    obtain ⟨rfl, hgs⟩ := mapM_cellV hl
    exact ⟨rfl, fun u hu => (List.mem_cons.1 hu).elim (fun e => e ▸ hg) (hgs u)⟩
theorem decE_some {k : Nat} {ok : List Value → Bool} {e : List AV} {l : List Value} (h : decE k ok e = some l) : e = encE l ∧ l.length = k ∧ (∀ v ∈ l, gv v = true) ∧ ok l = true := by
  unfold decE at h
  split at h <;> try (simp at h; done)
  rename_i l' hl
  split at h <;> try (simp at h; done)
  rename_i hk
  simp only [Option.some.injEq] at h
  subst h
  obtain ⟨h1, h2⟩ := mapM_cellV hl
  exact ⟨h1, hk.1, h2, hk.2⟩
theorem mapM_decE {k : Nat} {ok : List Value → Bool} : ∀ {es : List (List AV)} {l : List (List Value)}, es.mapM (decE k ok) = some l → ∃ d : List (RowE k ok), l = d.map (·.1) ∧ es = d.map fun x => encE x.1
  | [], l, h => by simp at h; subst h; exact ⟨[], rfl, rfl⟩
  | e :: es, l, h => by
    simp only [List.mapM_cons, Option.pure_def, Option.bind_eq_bind, Option.bind_eq_some_iff, Option.some.injEq] at h
    obtain ⟨x, hx, l', hl, rfl⟩ := h
    obtain ⟨rfl, h1⟩ := decE_some hx
    obtain ⟨d, rfl, rfl⟩ := mapM_decE hl
    exact ⟨⟨x, h1⟩ :: d, rfl, rfl⟩
theorem VRs.encE : ∀ {e : List Value}, (∀ v ∈ e, gv v = true) → VRs μ h (encE e) e
  | [], _ => by simp [Go.AM.encE, VRs]
  | v :: e, hg => by
    simp only [Go.AM.encE, List.map_cons, VRs]
    exact ⟨v, e, rfl, by unfold VR; exact ⟨hg v (by simp), rfl⟩, VRs.encE fun u hu => hg u (by simp [hu])⟩
theorem VRs.encE_eq : ∀ {e vs : List Value}, VRs μ h (Go.AM.encE e) vs → vs = e
  | [], vs, hv => by simpa [Go.AM.encE, VRs] using hv
  | v :: e, vs, hv => by
    simp only [Go.AM.encE, List.map_cons, VRs] at hv
    obtain ⟨u, us, rfl, h1, h2⟩ := hv
    simp only [VR] at h1
    rw [h1.2, VRs.encE_eq h2]
theorem flat_val {k : Nat} : ∀ {l : List (List Value)}, (∀ e ∈ l, e.length = k) → l.flatten.length = l.length * k ∧ ∀ t, t < l.length * k → l.flatten[t]? = (l[t / k]!)[t % k]?
  | [], _ => ⟨by simp, fun t ht => by simp at ht⟩
  | e :: l, hl => by
    have he := hl e (by simp)
    obtain ⟨i1, i2⟩ := flat_val (l := l) fun x hx => hl x (by simp [hx])
    refine ⟨by simp [he, i1, Nat.add_mul]; omega, fun t ht => ?_⟩
    rw [List.flatten_cons]
    by_cases hk : t < k
    · rw [List.getElem?_append_left (by omega), Nat.div_eq_of_lt hk, Nat.mod_eq_of_lt hk]
      rfl
    · have hk0 : 0 < k := by rcases Nat.eq_zero_or_pos k with e0 | e0; · subst e0; simp at ht
                             · exact e0
      rw [List.getElem?_append_right (by omega), he, i2 (t - k) (by simp [Nat.add_mul] at ht; omega)]
      have h1 : t / k = (t - k) / k + 1 := by
        have := Nat.add_div_right (t - k) hk0
        rw [show t - k + k = t by omega] at this
        exact this
      have h2 : t % k = (t - k) % k := by
        have := Nat.add_mod_right (t - k) k
        rw [show t - k + k = t by omega] at this
        exact this
      rw [h1, h2]
      rfl
theorem flatK_list {α : Type} [Inhabited α] (enc : α → List Value) (k : Nat) (hk : ∀ x, (enc x).length = k) (d : List α) : (flatK enc k d.toArray).toList = (d.map enc).flatten := by
  obtain ⟨h1, h2⟩ := flat_val (l := d.map enc) (k := k) (by simp [hk])
  apply List.ext_getElem?
  intro t
  by_cases ht : t < d.length * k
  · rw [h2 t (by simpa using ht)]
    have hk0 : 0 < k := by rcases Nat.eq_zero_or_pos k with e0 | e0; · subst e0; simp at ht
                           · exact e0
    have hd : t / k < d.length := (Nat.div_lt_iff_lt_mul hk0).2 ht
    have hm : t % k < k := Nat.mod_lt _ hk0
    have e1 : (d.map enc)[t / k]! = enc d[t / k] := by
      rw [getElem!_pos _ _ (by simpa using hd)]; simp
    rw [e1]
    have hm' : t % k < (enc d[t / k]).length := by rw [hk]; exact hm
    rw [List.getElem?_eq_getElem hm']
    unfold flatK
    simp only [List.size_toArray, Array.toList_map, Array.toList_range, List.getElem?_map, List.getElem?_range ht, Option.map_some]
    congr 1
    rw [getElem!_pos d.toArray _ (by simpa using hd)]
    simp only [List.getElem_toArray]
    rw [getElem!_pos (enc d[t / k]) (t % k) hm']
  · rw [List.getElem?_eq_none (by rw [Array.length_toList, size_flatK]; simpa using ht), List.getElem?_eq_none (by rw [h1, List.length_map]; omega)]
theorem Step.draws (R : Rel μ h w) : ∀ n, Step μ h w μ h (Sort.ahead w n)
  | 0 => by rw [ahead_zero]; exact Step.refl R
  | n + 1 => by
    have S := Step.draws R n
    rw [← ahead_drew]
    exact S.trans (Step.drew S.rel)
theorem Step.grown : ∀ {w : World} {μ : Mu} (os : List Obj), Rel μ h w → ∃ μ', Step μ h w μ' h (grow w os.toArray)
  | w, μ, [], R => by rw [grow_empty]; exact ⟨μ, Step.refl R⟩
  | w, μ, o :: os, R => by
    obtain ⟨μ1, S1, -⟩ := Step.allocImm R o
    obtain ⟨μ2, S2⟩ := Step.grown os S1.rel
    refine ⟨μ2, ?_⟩
    have : grow w (o :: os).toArray = grow (w.alloc o) os.toArray := by
      rw [alloc_eq_grow, grow_grow]; congr 1; simp
    rw [this]
    exact S1.trans S2
theorem setRow_put {blk off k : Nat} {cur F row : Array Value} {T : TypeId} {fr : Nat × Nat} (hb : w.heap[blk]? = some (.cells cur T fr)) (hfit : off + F.size ≤ cur.size) (hrow : row = (cur.toList.take off ++ F.toList ++ cur.toList.drop (off + F.size)).toArray) : putRow id w blk off F = w.setRow blk row := by
  have hc : putCells id off F cur = row := by
    subst hrow
    apply Array.ext_getElem?
    intro i
    unfold putCells
    simp only [Array.getElem?_mapIdx, List.getElem?_toArray]
    by_cases hi : i < cur.size
    · rw [Array.getElem?_eq_getElem hi]
      simp only [Option.map_some, id]
      by_cases h1 : off ≤ i ∧ i < off + F.size
      · rw [if_pos h1, List.append_assoc, List.getElem?_append_right (by simp; omega), List.getElem?_append_left (by simp; omega)]
        simp only [List.length_take, Array.length_toList]
        rw [show i - min off cur.size = i - off by omega, Array.getElem?_toList, getElem!_pos F _ (by omega), Array.getElem?_eq_getElem (by omega)]
      · rw [if_neg h1]
        by_cases h2 : i < off
        · rw [List.append_assoc, List.getElem?_append_left (by simp; omega), List.getElem?_take, if_pos h2, Array.getElem?_toList, Array.getElem?_eq_getElem hi]
        · rw [List.getElem?_append_right (by simp; omega), List.getElem?_drop]
          simp only [List.length_append, List.length_take, Array.length_toList]
          rw [show off + F.size + (i - (min off cur.size + F.size)) = i by omega, Array.getElem?_toList, Array.getElem?_eq_getElem hi]
    · rw [Array.getElem?_eq_none (by omega), List.getElem?_eq_none (by simp; omega)]
      rfl
  unfold putRow
  rw [mapBlock_congr w blk _ (fun _ => row) fun c e f he => by
    rw [hb] at he
    injection he with he
    injection he with e1
    subst e1
    exact hc]
  unfold mapBlock World.setRow
  congr 1
theorem frame_grow {S : Nat → Prop} (F : Frame S w w') (hS : ∀ k, ¬ S k) : ∃ q os, w' = grow (w.drewN q) os := by
  refine ⟨w'.drawn - w.drawn, w'.heap.extract w.heap.size w'.heap.size, ?_⟩
  obtain ⟨f1, f2, f3, f4, f5, f6⟩ := F
  cases w with
  | mk hp tp dr os out =>
    cases w' with
    | mk hp' tp' dr' os' out' =>
      simp only [grow, World.drewN] at *
      subst f1 f2 f3
      congr 1
      · apply Array.ext_getElem?
        intro i
        by_cases hi : i < hp.size
        · rw [f6 i hi (hS i), Array.getElem?_append_left hi]
        · rw [Array.getElem?_append_right (by omega), Array.getElem?_extract]
          split
          · congr 1; omega
          · rw [Array.getElem?_eq_none (by omega)]
      · omega
theorem cmp_lays {k g : Nat} {ok : List Value → Bool} {Fc : Fun} (hc : CSound P g Fc) {cf : RowE k ok → RowE k ok → Int} (hcf : ∀ x y, Fc [.agg (encE x.1), .agg (encE y.1)] [] = some (.s (.int .i64 (cf x y)), [])) [Inhabited (RowE k ok)] (blk off size : Nat) (w : World) : CmpLays P g #[] (fun x : RowE k ok => x.1) k cf blk off size w := by
  intro m os dk hs x y
  obtain ⟨W, hW⟩ : ∃ W, W = sortWorldK (fun x : RowE k ok => x.1) k w blk off m dk os := ⟨_, rfl⟩
  rw [← hW]
  have R : Rel { loc := fun _ => .real 0 0 0, base := W, imm := fun _ => False } [] W := Rel.nil fun k hk => hk.elim
  obtain ⟨-, hcall⟩ := hc _ _ _ _ (hcf x y) _ W (#[.agg x.1.toArray, .agg y.1.toArray] ++ #[]) R (by
    simp only [VRs, VR]
    exact ⟨_, _, rfl, ⟨_, rfl, VRs.encE x.2.2.1⟩, _, _, rfl, ⟨_, rfl, VRs.encE y.2.2.1⟩, rfl⟩)
  refine hcall.mono ?_
  rintro e w' ⟨cv, μ2, rfl, S, hv⟩
  simp only [VR] at hv
  obtain ⟨-, rfl⟩ := hv
  exact ⟨rfl, frame_grow S.frame fun k hk => Own.nil hk⟩
theorem sortF_sound {ρ : Go.Shelf.Ren} {k g : Nat} {ok : List Value → Bool} {Fc : Fun} (L : SlLaysF0.n6 P ρ) (aE : ∀ w, (isAgg (ρ.t 24)).run P w = .ok true w) (zE : ∀ w, (Go.sizeOf (ρ.t 24)).run P w = .ok k w) (hgo : Goes P (ρ.f 6)) (hk0 : 0 < k) (hc : CSound P g Fc) (hg : Goes P g) : CSound P (ρ.f 6) (sortF k ok g Fc) := by
  intro args h v h' hk μ w cargs R hargs
  refine ⟨hgo, ?_⟩
  unfold sortF at hk
  split at hk <;> try (simp at hk; done)
  · rename_i sz id off len fr full g'
    split at hk <;> try (simp at hk; done)
    rename_i sz' es own nil ho
    split at hk <;> try (simp at hk; done)
    rename_i hcond
    obtain ⟨rfl, rfl, rfl, hfr, rfl, hle, hlen, cf, hcf, hswo, hanti⟩ := hcond
    split at hk <;> try (simp at hk; done)
    rename_i l hl
    simp only [Option.some.injEq, Prod.mk.injEq] at hk
    obtain ⟨rfl, rfl⟩ := hk
    obtain ⟨d, rfl, hd⟩ := mapM_decE hl
    have hdl : d.length = len := by
      have := congrArg List.length hd
      rw [List.length_map, List.length_take, List.length_drop] at this
      omega
    have elt : ∀ x y : RowE sz' ok, ltF Fc x.1 y.1 = ltOf cf x y := fun x y => by
      unfold ltF ltOf
      rw [hcf x y]
    have esort : (d.map (·.1)).mergeSort (fun x y => !ltF Fc y x) = (d.mergeSort fun x y => !ltOf cf y x).map (·.1) := by
      rw [List.map_mergeSort]
      intro a _ b _
      rw [elt]
    rw [esort, List.map_map]
    obtain ⟨d2, hd2⟩ : ∃ d2, d2 = d.mergeSort fun x y => !ltOf cf y x := ⟨_, rfl⟩
    have hd2l : d2.length = len := by rw [hd2, List.length_mergeSort]; exact hdl
    rw [← hd2]
    have e0 : cargs.toList = cargs.toList := rfl
    simp only [VRs] at hargs
    obtain ⟨v1, vs1, hq1, hv1, v2, vs2, rfl, hv2, rfl⟩ := hargs
    have hcargs : cargs = #[v1, v2] := by apply Array.ext'; simpa using hq1
    subst hcargs
    simp only [VR] at hv1 hv2
    obtain ⟨caps, rfl, hcaps⟩ := hv2
    have hcaps' : caps = #[] := by
      simp only [VRs] at hcaps
      apply Array.ext'; simpa using hcaps
    subst hcaps'
    obtain ⟨A, c, rfl, hlc, hA, -, es2, own', nil', ho', -, hq⟩ := hv1
    rw [ho] at ho'
    injection ho' with ho'
    injection ho' with e1 e2 e3 e4
    subst e2 e3 e4
    have hsl := hq hfr.symm
    by_cases h0 : len = 0
    · subst h0
      have hd0 : d2 = [] := List.eq_nil_of_length_eq_zero hd2l
      have e5 : h.set id (.arr sz' (es.take off ++ d2.map ((encE ·) ∘ (·.1)) ++ es.drop (off + 0)) true nil) = h := by
        rw [hd0]
        simp only [List.map_nil, List.append_nil, Nat.add_zero, List.take_append_drop]
        exact set_same ho
      rw [e5]
      refine (AnyF.slices_SortFunc_none L A c _ w).mono ?_
      rintro e w' ⟨rfl, rfl⟩
      exact ⟨_, μ, rfl, Step.refl R, by simp [VR, VRs]⟩
    · unfold SlOk at hsl
      split at hsl
      · rename_i blk o cap hmu
        obtain ⟨a', rfl, hcap, hne⟩ := hsl
        have ha' := hne (by omega)
        have hO := R.obj _ _ ho
        obtain ⟨cur, T, hbk, hcur, rfl, hlec, hcapm, h1, hr⟩ := ORel.own_flat hO hmu
        rw [Nat.zero_add] at ha'
        subst ha'
        obtain ⟨vs, g1, g2, g3, g4⟩ := arr_cells R ho hmu off len hle
        rw [Nat.zero_add] at g4
        haveI : Inhabited (RowE sz' ok) := ⟨d[0]'(by omega)⟩
        have hlenE : ∀ x : RowE sz' ok, x.1.length = sz' := fun x => x.2.1
        have hflat : ((es.drop off).take len).flatten = encE (d.map (·.1)).flatten := by
          rw [hd]
          unfold encE
          rw [List.map_flatten, List.map_map]
          rfl
        rw [hflat] at g1
        have hvs := VRs.encE_eq g1
        subst hvs
        have hfk := flatK_list (fun x : RowE sz' ok => x.1) sz' hlenE d
        have hH : HoldsK (fun x : RowE sz' ok => x.1) sz' w blk (off * sz') d.toArray := by
          intro j hj
          have hj2 : j < (flatK (fun x : RowE sz' ok => x.1) sz' d.toArray).toList.length := by simpa using hj
          refine ⟨g4 j _ ?_, ?_⟩
          · rw [← hfk, List.getElem?_eq_getElem hj2, getElem!_pos (flatK (fun x : RowE sz' ok => x.1) sz' d.toArray) j hj]
            rfl
          · simp only [World.frozen?, hbk]
            simp
        have hblk : blk < w.heap.size := (Array.getElem?_eq_some_iff.1 hbk).1
        have key := AnyQ.slices_SortFunc_total L sz' aE zE (fun x : RowE sz' ok => x.1) hlenE (fun x v hv => oneCell_gv (x.2.2.1 v hv)) cf hswo g' #[] blk (off * sz') c d.toArray w (fun a W => hg.run a W) (cmp_lays hc hcf blk (off * sz') _ w) hH hblk (by simp; omega) hanti
        have hds : d.toArray.size = len := by simpa using hdl
        rw [hds] at key
        refine key.mono ?_
        rintro e w' ⟨rfl, n, os, rfl⟩
        simp only []
        rw [← hd2]
        have S1 := Step.draws R n
        have hS : Sized sz' (d2.map ((encE ·) ∘ (·.1))) := by
          intro y hy
          obtain ⟨x, -, rfl⟩ := List.mem_map.1 hy
          refine ⟨by simp [encE, hlenE], fun c hc => ?_⟩
          simp only [Function.comp, encE, List.mem_map] at hc
          obtain ⟨u, hu, rfl⟩ := hc
          exact x.2.2.1 u hu
        have hgv : ∀ v ∈ (d2.map (·.1)).flatten, gv v = true := by
          intro v hv
          obtain ⟨l, hl, hvl⟩ := List.mem_flatten.1 hv
          obtain ⟨x, -, rfl⟩ := List.mem_map.1 hl
          exact x.2.2.1 v hvl
        have hfl2 : (d2.map ((encE ·) ∘ (·.1))).flatten = encE (d2.map (·.1)).flatten := by
          unfold encE
          rw [List.map_flatten, List.map_map]
        have hvr : VRs μ h (d2.map ((encE ·) ∘ (·.1))).flatten (d2.map (·.1)).flatten := by rw [hfl2]; exact VRs.encE hgv
        obtain ⟨cur', T', row, q1, q2, q3, q4⟩ := seg_put (P := P) (off := off) S1.rel ho hmu hS hvr (fun v hv => oneCell_gv (hgv v hv)) (by simpa [hd2l] using hle)
        rw [List.length_map, hd2l] at q4
        have hfk2 := flatK_list (fun x : RowE sz' ok => x.1) sz' hlenE d2
        have hF : (flatK (fun x : RowE sz' ok => x.1) sz' d2.toArray).size = (d2.map (·.1)).flatten.length := by
          rw [← hfk2]; simp
        have hcc : cur' = cur := by
          have : (Sort.ahead w n).heap[blk]? = w.heap[blk]? := rfl
          rw [this, hbk] at q1
          injection q1 with q1
          injection q1 with q1
          exact q1.symm
        subst hcc
        have hput : putRowK (fun x : RowE sz' ok => x.1) sz' (Sort.ahead w n) blk (off * sz') d2.toArray = (Sort.ahead w n).setRow blk row := by
          unfold putRowK
          refine setRow_put (k := sz') q1 ?_ (by rw [q2, hF, hfk2])
          rw [hF, (flat_val (l := d2.map (·.1)) (k := sz') (fun e he => by obtain ⟨x, -, rfl⟩ := List.mem_map.1 he; exact hlenE x)).1, List.length_map, hd2l, hcur, ← Nat.add_mul]
          exact Nat.le_trans (Nat.mul_le_mul_right _ hle) (Nat.mul_le_mul_right _ hlec)
        unfold sortWorldK
        rw [hput]
        obtain ⟨μ3, S3⟩ := Step.grown os.toList q4.rel
        exact ⟨_, μ3, rfl, (S1.trans q4).trans (by simpa using S3), by simp [VR, VRs]⟩
      · rename_i A' hmu
        obtain ⟨rfl, rfl, -⟩ := hsl
        have hz := (R.obj _ _ ho).2
        rw [hmu] at hz
        have := hz.1
        subst this
        simp at hle
        omega
  · rename_i f caps
    simp only [Option.some.injEq, Prod.mk.injEq] at hk
    obtain ⟨rfl, rfl⟩ := hk
    simp only [VRs] at hargs
    obtain ⟨v1, vs1, hq1, hv1, v2, vs2, rfl, hv2, rfl⟩ := hargs
    have hcargs : cargs = #[v1, v2] := by apply Array.ext'; simpa using hq1
    subst hcargs
    simp only [VR] at hv1
    obtain ⟨-, rfl⟩ := hv1
    refine (AnyF.slices_SortFunc_none L none 0 v2 w).mono ?_
    rintro e w' ⟨rfl, rfl⟩
    exact ⟨_, μ, rfl, Step.refl R, by simp [VR, VRs]⟩
theorem sortF_val {k g : Nat} {ok : List Value → Bool} {Fc : Fun} (hok : SortOk k ok Fc) {id off len fr : Nat} {full : Bool} {h : Hp} {es : List (List AV)} {nil : Bool} {l : List (List Value)} (ho : h[id]? = some (.arr k es true nil)) (hfr : es.length = fr) (hle : off + len ≤ es.length) (hlen : len < 4611686018427387904) (hl : ((es.drop off).take len).mapM (decE k ok) = some l) :
    sortF k ok g Fc [.sl k id off len fr full, .fn g []] h = some (.tup [], h.set id (.arr k (es.take off ++ (l.mergeSort fun x y => !ltF Fc y x).map encE ++ es.drop (off + len)) true nil)) := by
  unfold sortF
  simp only [ho]
  rw [if_pos ⟨rfl, rfl, rfl, hfr, rfl, hle, hlen, hok⟩, hl]
end Go.AM
namespace Go.AM
open Go.RowKit Go.Sort Go.Proofs
def isI : Value → Bool
  | .int .i64 _ => true
  | _ => false
def okI (e : List Value) : Bool := e.all isI
def unI : Value → Int
  | .int _ n => n
  | _ => 0
def encZ (l : List Int) : List AV := l.map fun n => .s (.int .i64 n)
def valZ (l : List Int) : List Value := l.map fun n => .int .i64 n
theorem encE_valZ (l : List Int) : encE (valZ l) = encZ l := by simp [encE, valZ, encZ]
theorem okI_val : ∀ {e : List Value}, okI e = true → e = valZ (e.map unI)
  | [], _ => rfl
  | v :: e, h => by
    simp only [okI, List.all_cons, Bool.and_eq_true] at h
    have ih := okI_val (e := e) h.2
    cases v <;> simp [isI] at h
    rename_i kd n
    cases kd <;> simp at h
    simp only [List.map_cons, valZ, unI] at ih ⊢
    rw [← ih]
theorem okI_valZ (l : List Int) : okI (valZ l) = true := by simp [okI, valZ, isI]
def lexZ : List Int → List Int → Int
  | a :: as_, b :: bs => if a < b then -1 else if b < a then 1 else lexZ as_ bs
  | _, _ => 0
def ltZ (a b : List Int) : Bool := decide (lexZ a b < 0)
theorem lexZ_self : ∀ a, lexZ a a = 0
  | [] => rfl
  | a :: l => by simp [lexZ, lexZ_self l]
theorem ltZ_cons (a b : Int) (l r : List Int) : ltZ (a :: l) (b :: r) = (decide (a < b) || (decide (a = b) && ltZ l r)) := by
  unfold ltZ
  simp only [lexZ]
  by_cases h1 : a < b
  · simp [h1]
  · by_cases h2 : b < a
    · have : a ≠ b := by omega
      simp [h1, h2, this]
    · have : a = b := by omega
      simp [this]
theorem ltZ_irrefl (a : List Int) : ltZ a a = false := by simp [ltZ, lexZ_self]
theorem ltZ_trans : ∀ {n : Nat} {a b c : List Int}, a.length = n → b.length = n → c.length = n → ltZ a b = true → ltZ b c = true → ltZ a c = true
  | 0, a, b, c, ha, hb, hc, h1, h2 => by
    have : a = [] := List.eq_nil_of_length_eq_zero ha
    subst this
    cases b <;> simp [ltZ, lexZ] at h1
  | n + 1, [], b, c, ha, hb, hc, h1, h2 => by simp at ha
  | n + 1, a :: l, [], c, ha, hb, hc, h1, h2 => by simp at hb
  | n + 1, a :: l, b :: r, [], ha, hb, hc, h1, h2 => by simp at hc
  | n + 1, a :: l, b :: r, c :: s, ha, hb, hc, h1, h2 => by
    rw [ltZ_cons] at h1 h2 ⊢
    simp only [Bool.or_eq_true, Bool.and_eq_true, decide_eq_true_eq] at h1 h2 ⊢
    rcases h1 with h1 | ⟨h1, h1'⟩ <;> rcases h2 with h2 | ⟨h2, h2'⟩
    · exact .inl (by omega)
    · exact .inl (by omega)
    · exact .inl (by omega)
    · exact .inr ⟨by omega, ltZ_trans (n := n) (by simpa using ha) (by simpa using hb) (by simpa using hc) h1' h2'⟩
theorem ltZ_total : ∀ {n : Nat} {a b : List Int}, a.length = n → b.length = n → ltZ a b = false → ltZ b a = false → a = b
  | 0, a, b, ha, hb, _, _ => by rw [List.eq_nil_of_length_eq_zero ha, List.eq_nil_of_length_eq_zero hb]
  | n + 1, [], b, ha, hb, _, _ => by simp at ha
  | n + 1, a :: l, [], ha, hb, _, _ => by simp at hb
  | n + 1, a :: l, b :: r, ha, hb, h1, h2 => by
    rw [ltZ_cons] at h1 h2
    simp only [Bool.or_eq_false_iff, Bool.and_eq_false_iff, decide_eq_false_iff_not] at h1 h2
    have e : a = b := by omega
    subst e
    rw [ltZ_total (n := n) (a := l) (b := r) (by simpa using ha) (by simpa using hb) (by simpa using h1.2) (by simpa using h2.2)]
theorem sortOk_lex {k : Nat} {Fc : Fun} (hf : ∀ x y : List Int, x.length = k → y.length = k → Fc [.agg (encZ x), .agg (encZ y)] [] = some (.s (.int .i64 (lexZ x y)), [])) :
    SortOk k okI Fc ∧ ∀ x y : List Int, x.length = k → y.length = k → ltF Fc (valZ x) (valZ y) = ltZ x y := by
  constructor
  · refine ⟨fun x y => lexZ (x.1.map unI) (y.1.map unI), fun x y => ?_, ⟨fun x => ?_, fun x y z h1 h2 => ?_, fun x y z h1 h2 => ?_⟩, fun x y h1 h2 => ?_⟩
    · have := hf (x.1.map unI) (y.1.map unI) (by simp [x.2.1]) (by simp [y.2.1])
      rw [← encE_valZ, ← encE_valZ, ← okI_val (e := x.1) x.2.2.2, ← okI_val (e := y.1) y.2.2.2] at this
      exact this
    · show ltZ _ _ = false
      exact ltZ_irrefl _
    · exact ltZ_trans (n := k) (a := x.1.map unI) (b := y.1.map unI) (c := z.1.map unI) (by simp [x.2.1]) (by simp [y.2.1]) (by simp [z.2.1]) h1 h2
    · have hx : (x.1.map unI).length = k := by simp [x.2.1]
      have hy : (y.1.map unI).length = k := by simp [y.2.1]
      have hz : (z.1.map unI).length = k := by simp [z.2.1]
      change ltZ (x.1.map unI) (y.1.map unI) = false at h1
      change ltZ (y.1.map unI) (z.1.map unI) = false at h2
      show ltZ (x.1.map unI) (z.1.map unI) = false
      cases h3 : ltZ (x.1.map unI) (z.1.map unI) with
      | false => rfl
      | true =>
        cases h4 : ltZ (z.1.map unI) (y.1.map unI) with
        | true => rw [ltZ_trans hx hz hy h3 h4] at h1; cases h1
        | false =>
          have := ltZ_total hy hz h2 h4
          rw [this] at h1
          rw [h1] at h3
          cases h3
    · have := ltZ_total (n := k) (a := x.1.map unI) (b := y.1.map unI) (by simp [x.2.1]) (by simp [y.2.1]) h1 h2
      apply Subtype.ext
      exact (okI_val (e := x.1) x.2.2.2).trans ((congrArg valZ this).trans (okI_val (e := y.1) y.2.2.2).symm)
  · intro x y hx hy
    unfold ltF ltZ
    rw [encE_valZ, encE_valZ, hf x y hx hy]
theorem decE_encZ {k : Nat} {l : List Int} (hl : l.length = k) : decE k okI (encZ l) = some (valZ l) := by
  have h1 : (encZ l).mapM cellV = some (valZ l) := by
    clear hl
    induction l with
    | nil => rfl
    | cons n l ih =>
      simp only [encZ, valZ, List.map_cons, List.mapM_cons] at ih ⊢
      rw [ih]
      rfl
  unfold decE
  rw [h1]
  simp [valZ, hl]
  exact okI_valZ l
theorem mapM_decZ {k : Nat} : ∀ {l : List (List Int)}, (∀ x ∈ l, x.length = k) → (l.map encZ).mapM (decE k okI) = some (l.map valZ)
  | [], _ => rfl
  | x :: l, h => by
    simp only [List.map_cons, List.mapM_cons]
    rw [decE_encZ (h x (by simp)), mapM_decZ fun y hy => h y (by simp [hy])]
    rfl
theorem sortZ_val {k g : Nat} {Fc : Fun} (hf : ∀ x y : List Int, x.length = k → y.length = k → Fc [.agg (encZ x), .agg (encZ y)] [] = some (.s (.int .i64 (lexZ x y)), [])) {id off len fr : Nat} {full : Bool} {h : Hp} {es : List (List AV)} {nil : Bool} {l : List (List Int)}
    (ho : h[id]? = some (.arr k es true nil)) (hfr : es.length = fr) (hle : off + len ≤ es.length) (hlen : len < 4611686018427387904) (hs : ∀ x ∈ l, x.length = k) (hl : (es.drop off).take len = l.map encZ) :
    sortF k okI g Fc [.sl k id off len fr full, .fn g []] h = some (.tup [], h.set id (.arr k (es.take off ++ (l.mergeSort fun x y => !ltZ y x).map encZ ++ es.drop (off + len)) true nil)) := by
  obtain ⟨h1, h2⟩ := sortOk_lex hf
  rw [sortF_val (g := g) (l := l.map valZ) h1 ho hfr hle hlen (by rw [hl]; exact mapM_decZ hs)]
  have e : (l.map valZ).mergeSort (fun x y => !ltF Fc y x) = (l.mergeSort fun x y => !ltZ y x).map valZ := by
    rw [List.map_mergeSort]
    intro a ha b hb
    rw [h2 b a (hs b hb) (hs a ha)]
  rw [e, List.map_map]
  have : encE ∘ valZ = encZ := by funext x; exact encE_valZ x
  rw [this]
end Go.AM


namespace Go.Proofs
open Go.Shelf
def Tryz.sort75_ren : Go.Shelf.Ren := ⟨fun | 6 => 75 | 15 => 90 | 14 => 89 | 28 => 118 | 29 => 119 | 20 => 110 | 21 => 111 | 22 => 112 | 23 => 113 | 24 => 114 | 25 => 115 | 26 => 116 | 27 => 117 | 46 => 130 | 47 => 131 | 48 => 132 | 49 => 133 | 50 => 134 | 57 => 137 | n => n, fun | 22 => 41 | 24 => 67 | 25 => 95 | 3 => 3 | 39 => 111 | 0 => 0 | 53 => 143 | 55 => 115 | 4 => 4 | 46 => 137 | 45 => 136 | 50 => 127 | 5 => 5 | 9 => 9 | 66 => 151 | 70 => 155 | 76 => 158 | 77 => 88 | n => n, fun | n => n⟩
theorem Tryz.sort75 : Go.Proofs.SlLaysF0.n6 Tryz.prog Tryz.sort75_ren := {
  mixed := by kernel_rfl
  f6 := ⟨Tryz.f75.name, by decide, Tryz.func75.trans (congrArg some (by kernel_rfl))⟩
  f14 := ⟨Tryz.f89.name, by decide, Tryz.func89.trans (congrArg some (by kernel_rfl))⟩
  f15 := Tryz.func90.trans (congrArg some (by kernel_rfl))
  f20 := ⟨Tryz.f110.name, by decide, Tryz.func110.trans (congrArg some (by kernel_rfl))⟩
  f21 := ⟨Tryz.f111.name, by decide, Tryz.func111.trans (congrArg some (by kernel_rfl))⟩
  f22 := ⟨Tryz.f112.name, by decide, Tryz.func112.trans (congrArg some (by kernel_rfl))⟩
  f23 := ⟨Tryz.f113.name, by decide, Tryz.func113.trans (congrArg some (by kernel_rfl))⟩
  f24 := ⟨Tryz.f114.name, by decide, Tryz.func114.trans (congrArg some (by kernel_rfl))⟩
  f25 := ⟨Tryz.f115.name, by decide, Tryz.func115.trans (congrArg some (by kernel_rfl))⟩
  f26 := ⟨Tryz.f116.name, by decide, Tryz.func116.trans (congrArg some (by kernel_rfl))⟩
  f27 := ⟨Tryz.f117.name, by decide, Tryz.func117.trans (congrArg some (by kernel_rfl))⟩
  f28 := Tryz.func118.trans (congrArg some (by kernel_rfl))
  f29 := Tryz.func119.trans (congrArg some (by kernel_rfl))
  f46 := ⟨Tryz.f130.name, by decide, Tryz.func130.trans (congrArg some (by kernel_rfl))⟩
  f47 := Tryz.func131.trans (congrArg some (by kernel_rfl))
  f48 := Tryz.func132.trans (congrArg some (by kernel_rfl))
  f49 := ⟨Tryz.f133.name, by decide, Tryz.func133.trans (congrArg some (by kernel_rfl))⟩
  f50 := ⟨Tryz.f134.name, by decide, Tryz.func134.trans (congrArg some (by kernel_rfl))⟩
  f57 := ⟨Tryz.f137.name, by decide, Tryz.func137.trans (congrArg some (by kernel_rfl))⟩
  t0 := Tryz.underlying0
  a0 := Tryz.isAgg0
  z0 := Tryz.sizeOf0
  v0 := Tryz.zeroValue0
  t3 := Tryz.underlying3
  a3 := Tryz.isAgg3
  z3 := Tryz.sizeOf3
  v3 := Tryz.zeroValue3
  t4 := Tryz.underlying4
  a4 := Tryz.isAgg4
  z4 := Tryz.sizeOf4
  v4 := Tryz.zeroValue4
  t5 := Tryz.underlying5
  a5 := Tryz.isAgg5
  z5 := Tryz.sizeOf5
  v5 := Tryz.zeroValue5
  t9 := Tryz.underlying9
  a9 := Tryz.isAgg9
  z9 := Tryz.sizeOf9
  v9 := Tryz.zeroValue9
  t22 := Tryz.underlying41
  a22 := Tryz.isAgg41
  z22 := Tryz.sizeOf41
  v22 := Tryz.zeroValue41
  t25 := Tryz.underlying95
  a25 := Tryz.isAgg95
  z25 := Tryz.sizeOf95
  v25 := Tryz.zeroValue95
  t39 := Tryz.underlying111
  a39 := Tryz.isAgg111
  z39 := Tryz.sizeOf111
  v39 := Tryz.zeroValue111
  t45 := Tryz.underlying136
  a45 := Tryz.isAgg136
  z45 := Tryz.sizeOf136
  v45 := Tryz.zeroValue136
  t46 := Tryz.underlying137
  a46 := Tryz.isAgg137
  z46 := Tryz.sizeOf137
  v46 := Tryz.zeroValue137
  t50 := Tryz.underlying127
  a50 := Tryz.isAgg127
  z50 := Tryz.sizeOf127
  v50 := Tryz.zeroValue127
  t53 := Tryz.underlying143
  a53 := Tryz.isAgg143
  z53 := Tryz.sizeOf143
  v53 := Tryz.zeroValue143
  t55 := Tryz.underlying115
  a55 := Tryz.isAgg115
  z55 := Tryz.sizeOf115
  v55 := Tryz.zeroValue115
  t66 := Tryz.underlying151
  a66 := Tryz.isAgg151
  z66 := Tryz.sizeOf151
  v66 := Tryz.zeroValue151
  t70 := Tryz.underlying155
  a70 := Tryz.isAgg155
  z70 := Tryz.sizeOf155
  v70 := Tryz.zeroValue155
  t76 := Tryz.underlying158
  a76 := Tryz.isAgg158
  z76 := Tryz.sizeOf158
  v76 := Tryz.zeroValue158
  t77 := Tryz.underlying88
  a77 := Tryz.isAgg88
  z77 := Tryz.sizeOf88
  v77 := Tryz.zeroValue88 }
end Go.Proofs

