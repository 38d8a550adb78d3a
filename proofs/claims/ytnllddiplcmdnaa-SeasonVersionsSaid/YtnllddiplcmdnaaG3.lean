import Derived.Test.YtnllddiplcmdnaaG2
import Derived.Test.YtnllddiplcmdnaaProg
namespace Go.AM
open Go.Proofs
set_option linter.unusedVariables false
set_option maxRecDepth 100000
theorem un_3 : Try.prog.underlying 3 = some (.int .i64) := by kernel_rfl
theorem un_80 : Try.prog.underlying 80 = some (.int .u64) := by kernel_rfl
@[simp] theorem cv_3_80 {β : Type} (n : Int) (k : K β) : convK Try.prog 3 80 (.s (.int .i64 n)) k = k (.s (.int .u64 (IntKind.u64.wrap n))) := convK_int un_3 un_80 k
theorem un_94 : Try.prog.underlying 94 = some (.int .u64) := by kernel_rfl
@[simp] theorem cv_3_94 {β : Type} (n : Int) (k : K β) : convK Try.prog 3 94 (.s (.int .i64 n)) k = k (.s (.int .u64 (IntKind.u64.wrap n))) := convK_int un_3 un_94 k
theorem un_5 : Try.prog.underlying 5 = some (.int .u8) := by kernel_rfl
@[simp] theorem cv_5_3 {β : Type} (n : Int) (k : K β) : convK Try.prog 5 3 (.s (.int .u8 n)) k = k (.s (.int .i64 (IntKind.i64.wrap n))) := convK_int un_5 un_3 k
theorem un_38 : Try.prog.underlying 38 = some (.int .u16) := by kernel_rfl
@[simp] theorem cv_38_3 {β : Type} (n : Int) (k : K β) : convK Try.prog 38 3 (.s (.int .u16 n)) k = k (.s (.int .i64 (IntKind.i64.wrap n))) := convK_int un_38 un_3 k
@[simp] theorem cv_80_3 {β : Type} (n : Int) (k : K β) : convK Try.prog 80 3 (.s (.int .u64 n)) k = k (.s (.int .i64 (IntKind.i64.wrap n))) := convK_int un_80 un_3 k
@[simp] theorem cv_80_5 {β : Type} (n : Int) (k : K β) : convK Try.prog 80 5 (.s (.int .u64 n)) k = k (.s (.int .u8 (IntKind.u8.wrap n))) := convK_int un_80 un_5 k
@[simp] theorem cv_94_3 {β : Type} (n : Int) (k : K β) : convK Try.prog 94 3 (.s (.int .u64 n)) k = k (.s (.int .i64 (IntKind.i64.wrap n))) := convK_int un_94 un_3 k
@[simp] theorem el_22 : elemOf Try.prog 22 = some 33 := by kernel_rfl
@[simp] theorem eqn_22_false {β : Type} (h : Hp) (k : K β) : eqK Try.prog false 22 (.s (.slice none 0 0)) (.s (.slice none 0 0)) h k = k (.s (.bool true)) := by kernel_rfl
@[simp] theorem eqn_22_true {β : Type} (h : Hp) (k : K β) : eqK Try.prog true 22 (.s (.slice none 0 0)) (.s (.slice none 0 0)) h k = k (.s (.bool false)) := by kernel_rfl
@[simp] theorem eqs_33 {β : Type} (neq : Bool) (a0 : Int) (a1 : Int) (a2 : Int) (a3 : Int) (b0 : Int) (b1 : Int) (b2 : Int) (b3 : Int) (h : Hp) (k : K β) : eqK Try.prog neq 33 (.agg [.s (.int .i64 a0), .s (.int .i64 a1), .s (.int .i64 a2), .s (.int .i64 a3)]) (.agg [.s (.int .i64 b0), .s (.int .i64 b1), .s (.int .i64 b2), .s (.int .i64 b3)]) h k = k (.s (.bool (xor neq ((a0 == b0) && ((a1 == b1) && ((a2 == b2) && ((a3 == b3) && (true)))))))) := by
  have e1 : Try.prog.eqGuardType Try.prog.depth 33 = false := by kernel_rfl
  have e2 : aggT Try.prog 33 = true := by kernel_rfl
  have e3 : eqFlat Try.prog 8 33 [.s (.int .i64 a0), .s (.int .i64 a1), .s (.int .i64 a2), .s (.int .i64 a3)] [.s (.int .i64 b0), .s (.int .i64 b1), .s (.int .i64 b2), .s (.int .i64 b3)] = some ((a0 == b0) && ((a1 == b1) && ((a2 == b2) && ((a3 == b3) && (true))))) := by kernel_rfl
  simp only [eqK, e1, e2, e3]
@[simp] theorem eqs_71 {β : Type} (neq : Bool) (a0 : Int) (a1 : Int) (a2 : Int) (b0 : Int) (b1 : Int) (b2 : Int) (h : Hp) (k : K β) : eqK Try.prog neq 71 (.agg [.s (.int .i64 a0), .s (.int .i64 a1), .s (.int .i64 a2)]) (.agg [.s (.int .i64 b0), .s (.int .i64 b1), .s (.int .i64 b2)]) h k = k (.s (.bool (xor neq ((a0 == b0) && ((a1 == b1) && ((a2 == b2) && (true))))))) := by
  have e1 : Try.prog.eqGuardType Try.prog.depth 71 = false := by kernel_rfl
  have e2 : aggT Try.prog 71 = true := by kernel_rfl
  have e3 : eqFlat Try.prog 8 71 [.s (.int .i64 a0), .s (.int .i64 a1), .s (.int .i64 a2)] [.s (.int .i64 b0), .s (.int .i64 b1), .s (.int .i64 b2)] = some ((a0 == b0) && ((a1 == b1) && ((a2 == b2) && (true)))) := by kernel_rfl
  simp only [eqK, e1, e2, e3]
/-- spile/spilelaw31.SeasonAllows -/
def f_law31_SeasonAllows (P : Program) (T : Tab) (D : DTab) (N : Nat) {β : Type} (K : AV → Hp → Option β) (a0 : AV) (a1 : AV) (h : Hp) : Option β :=
effK (boxE 4 a1 (List.length h)) h fun x1 h2 =>
callK (T 10) [] h2 fun x3 h4 =>
notK x3 fun x5 =>
condK x5 (
K (.s (.bool false)) h4) (
callK (T 11) [a0] h4 fun x6 h7 =>
notK x6 fun x8 =>
grpK false x8 h7 (fun k9 =>
faK 2 x1 fun x10 =>
ldK 1 false x10 h7 fun x11 =>
faK 3 x1 fun x12 =>
ldK 1 false x12 h7 fun x13 =>
callK (T 12) [x11, x13] h7 fun x14 h15 =>
notK x14 fun x16 =>
k9 x16 h15) fun x17 h18 =>
condK x17 (
K (.s (.bool true)) h18) (
effD (callE (D 14) [a0] h18 (List.length h18)) h18 fun x19 h20 e21 =>
faK 0 x1 fun x22 =>
ldK 1 false x22 h20 fun x23 =>
faK 2 x1 fun x24 =>
ldK 1 false x24 h20 fun x25 =>
faK 3 x1 fun x26 =>
ldK 1 false x26 h20 fun x27 =>
effD (callE (D 13) [x19, x23, x25, x27] h20 (List.length h20)) h20 fun x28 h29 e30 =>
exK x28 0 fun x31 =>
exK x28 1 fun x32 =>
bif disjAll [(1, 3), (1, 5), (1, 7)] [([], []), e21, ([], []), ((idsOf x22), []), ([], []), ((idsOf x24), []), ([], []), ((idsOf x26), []), e30, ([], []), ([], []), ([], []), ([], []), ([], [])] then (
faK 0 x1 fun x33 =>
ldK 1 false x33 h29 fun x34 =>
faK 2 x1 fun x35 =>
ldK 1 false x35 h29 fun x36 =>
faK 3 x1 fun x37 =>
ldK 1 false x37 h29 fun x38 =>
callK (T 15) [a0, x34, x36, x38] h29 fun x39 h40 =>
exK x39 0 fun x41 =>
exK x39 1 fun x42 =>
effD (callE (D 14) [a0] h40 (List.length h40)) h40 fun x43 h44 e45 =>
faK 0 x1 fun x46 =>
ldK 1 false x46 h44 fun x47 =>
faK 1 x1 fun x48 =>
ldK 1 false x48 h44 fun x49 =>
faK 2 x1 fun x50 =>
ldK 1 false x50 h44 fun x51 =>
faK 3 x1 fun x52 =>
ldK 1 false x52 h44 fun x53 =>
effD (callE (D 16) [x43, x47, x49, x51, x53] h44 (List.length h44)) h44 fun x54 h55 e56 =>
exK x54 0 fun x57 =>
exK x54 1 fun x58 =>
bif disjAll [(1, 3), (1, 5), (1, 7), (1, 9)] [([], []), e45, ([], []), ((idsOf x46), []), ([], []), ((idsOf x48), []), ([], []), ((idsOf x50), []), ([], []), ((idsOf x52), []), e56, ([], []), ([], []), ([], []), ([], []), ([], [])] then (
faK 0 x1 fun x59 =>
ldK 1 false x59 h55 fun x60 =>
faK 1 x1 fun x61 =>
ldK 1 false x61 h55 fun x62 =>
faK 2 x1 fun x63 =>
ldK 1 false x63 h55 fun x64 =>
faK 3 x1 fun x65 =>
ldK 1 false x65 h55 fun x66 =>
callK (T 17) [a0, x60, x62, x64, x66] h55 fun x67 h68 =>
exK x67 0 fun x69 =>
exK x67 1 fun x70 =>
eqK P false 3 x31 x41 h68 fun x71 =>
grpK true x71 h68 (fun k72 =>
eqK P false 28 x32 x42 h68 fun x73 =>
k72 x73 h68) fun x74 h75 =>
grpK true x74 h75 (fun k76 =>
eqK P false 3 x57 x69 h75 fun x77 =>
k76 x77 h75) fun x78 h79 =>
grpK true x78 h79 (fun k80 =>
eqK P false 28 x58 x70 h79 fun x81 =>
k80 x81 h79) fun x82 h83 =>
K x82 h83) else none) else none))
theorem f_law31_SeasonAllows_run (T : Tab) (D : DTab) (N : Nat) {β : Type} (K : AV → Hp → Option β) (a0 : AV) (a1 : AV) (h : Hp) : runK Try.prog T D N [0, 1, 3, 4, 5, 6, 7, 8, 9, 10, 11, 12, 14, 25] Try.f3 K [a0, a1] h = f_law31_SeasonAllows Try.prog T D N K a0 a1 h := by kernel_rfl
/-- spile/spilelaw31.SeasonParts -/
def f_law31_SeasonParts (P : Program) (T : Tab) (D : DTab) (N : Nat) {β : Type} (K : AV → Hp → Option β) (a0 : AV) (a1 : AV) (a2 : AV) (h : Hp) : Option β :=
effK (boxE 4 a1 (List.length h)) h fun x1 h2 =>
callK (T 10) [] h2 fun x3 h4 =>
notK x3 fun x5 =>
condK x5 (
K (.s (.bool false)) h4) (
callK (T 11) [a0] h4 fun x6 h7 =>
notK x6 fun x8 =>
grpK false x8 h7 (fun k9 =>
faK 2 x1 fun x10 =>
ldK 1 false x10 h7 fun x11 =>
faK 3 x1 fun x12 =>
ldK 1 false x12 h7 fun x13 =>
callK (T 12) [x11, x13] h7 fun x14 h15 =>
notK x14 fun x16 =>
k9 x16 h15) fun x17 h18 =>
condK x17 (
K (.s (.bool true)) h18) (
effD (callE (D 14) [a0] h18 (List.length h18)) h18 fun x19 h20 e21 =>
faK 0 x1 fun x22 =>
ldK 1 false x22 h20 fun x23 =>
faK 2 x1 fun x24 =>
ldK 1 false x24 h20 fun x25 =>
faK 3 x1 fun x26 =>
ldK 1 false x26 h20 fun x27 =>
effD (callE (D 13) [x19, x23, x25, x27] h20 (List.length h20)) h20 fun x28 h29 e30 =>
exK x28 0 fun x31 =>
exK x28 1 fun x32 =>
bif disjAll [(1, 3), (1, 5), (1, 7)] [([], []), e21, ([], []), ((idsOf x22), []), ([], []), ((idsOf x24), []), ([], []), ((idsOf x26), []), e30, ([], []), ([], []), ([], []), ([], []), ([], [])] then (
eqK P true 28 x32 (.s (.int .i64 0)) h29 fun x33 =>
condK x33 (
eqK P false 3 x31 (.s (.int .i64 0)) h29 fun x34 =>
K x34 h29) (
faK 2 x1 fun x35 =>
ldK 1 false x35 h29 fun x36 =>
arithK .lss a2 x36 fun x37 =>
grpK false x37 h29 (fun k38 =>
faK 3 x1 fun x39 =>
ldK 1 false x39 h29 fun x40 =>
arithK .geq a2 x40 fun x41 =>
k38 x41 h29) fun x42 h43 =>
condK x42 (
K (.s (.bool true)) h43) (
effD (callE (D 14) [a0] h43 (List.length h43)) h43 fun x44 h45 e46 =>
faK 0 x1 fun x47 =>
ldK 1 false x47 h45 fun x48 =>
faK 2 x1 fun x49 =>
ldK 1 false x49 h45 fun x50 =>
effD (callE (D 13) [x44, x48, x50, a2] h45 (List.length h45)) h45 fun x51 h52 e53 =>
exK x51 0 fun x54 =>
exK x51 1 fun x55 =>
bif disjAll [(1, 3), (1, 5)] [([], []), e46, ([], []), ((idsOf x47), []), ([], []), ((idsOf x49), []), ([], []), e53, ([], []), ([], []), ([], []), ([], []), ([], [])] then (
effD (callE (D 14) [a0] h52 (List.length h52)) h52 fun x56 h57 e58 =>
faK 0 x1 fun x59 =>
ldK 1 false x59 h57 fun x60 =>
arithK .add a2 (.s (.int .i64 1)) fun x61 =>
faK 3 x1 fun x62 =>
ldK 1 false x62 h57 fun x63 =>
effD (callE (D 13) [x56, x60, x61, x63] h57 (List.length h57)) h57 fun x64 h65 e66 =>
exK x64 0 fun x67 =>
exK x64 1 fun x68 =>
bif disjAll [(1, 3), (1, 7)] [([], []), e58, ([], []), ((idsOf x59), []), ([], []), ([], []), ([], []), ((idsOf x62), []), e66, ([], []), ([], []), ([], []), ([], []), ([], [])] then (
effD (callE (D 14) [a0] h65 (List.length h65)) h65 fun x69 h70 e71 =>
faK 0 x1 fun x72 =>
ldK 1 false x72 h70 fun x73 =>
effD (callE (D 18) [x69, x73, a2] h70 (List.length h70)) h70 fun x74 h75 e76 =>
exK x74 0 fun x77 =>
exK x74 1 fun x78 =>
bif disjAll [(1, 3)] [([], []), e71, ([], []), ((idsOf x72), []), ([], []), e76, ([], []), ([], []), ([], []), ([], []), ([], [])] then (
eqK P false 28 x55 (.s (.int .i64 0)) h75 fun x79 =>
grpK true x79 h75 (fun k80 =>
eqK P false 28 x68 (.s (.int .i64 0)) h75 fun x81 =>
k80 x81 h75) fun x82 h83 =>
grpK true x82 h83 (fun k84 =>
eqK P false 28 x78 (.s (.int .i64 0)) h83 fun x85 =>
k84 x85 h83) fun x86 h87 =>
grpK true x86 h87 (fun k88 =>
arithK .add x54 x77 fun x89 =>
arithK .add x89 x67 fun x90 =>
eqK P false 3 x31 x90 h87 fun x91 =>
k88 x91 h87) fun x92 h93 =>
grpK true x92 h93 (fun k94 =>
arithK .geq x77 (.s (.int .i64 0)) fun x95 =>
k94 x95 h93) fun x96 h97 =>
grpK true x96 h97 (fun k98 =>
arithK .leq x77 (.s (.int .i64 10000)) fun x99 =>
k98 x99 h97) fun x100 h101 =>
K x100 h101) else none) else none) else none))) else none))
theorem f_law31_SeasonParts_run (T : Tab) (D : DTab) (N : Nat) {β : Type} (K : AV → Hp → Option β) (a0 : AV) (a1 : AV) (a2 : AV) (h : Hp) : runK Try.prog T D N [0, 1, 2, 4, 6, 7, 8, 9, 10, 11, 12, 13, 14, 16, 27, 41, 53] Try.f4 K [a0, a1, a2] h = f_law31_SeasonParts Try.prog T D N K a0 a1 a2 h := by kernel_rfl
/-- spile/spilelaw31.SeasonBounded -/
def f_law31_SeasonBounded (P : Program) (T : Tab) (D : DTab) (N : Nat) {β : Type} (K : AV → Hp → Option β) (a0 : AV) (a1 : AV) (a2 : AV) (h : Hp) : Option β :=
effK (boxE 4 a1 (List.length h)) h fun x1 h2 =>
callK (T 10) [] h2 fun x3 h4 =>
notK x3 fun x5 =>
condK x5 (
K (.s (.bool false)) h4) (
callK (T 11) [a0] h4 fun x6 h7 =>
notK x6 fun x8 =>
grpK false x8 h7 (fun k9 =>
faK 2 x1 fun x10 =>
ldK 1 false x10 h7 fun x11 =>
faK 3 x1 fun x12 =>
ldK 1 false x12 h7 fun x13 =>
callK (T 12) [x11, x13] h7 fun x14 h15 =>
notK x14 fun x16 =>
k9 x16 h15) fun x17 h18 =>
condK x17 (
K (.s (.bool true)) h18) (
effD (callE (D 14) [a0] h18 (List.length h18)) h18 fun x19 h20 e21 =>
faK 0 x1 fun x22 =>
ldK 1 false x22 h20 fun x23 =>
faK 1 x1 fun x24 =>
ldK 1 false x24 h20 fun x25 =>
faK 2 x1 fun x26 =>
ldK 1 false x26 h20 fun x27 =>
faK 3 x1 fun x28 =>
ldK 1 false x28 h20 fun x29 =>
effD (callE (D 16) [x19, x23, x25, x27, x29] h20 (List.length h20)) h20 fun x30 h31 e32 =>
exK x30 0 fun x33 =>
exK x30 1 fun x34 =>
bif disjAll [(1, 3), (1, 5), (1, 7), (1, 9)] [([], []), e21, ([], []), ((idsOf x22), []), ([], []), ((idsOf x24), []), ([], []), ((idsOf x26), []), ([], []), ((idsOf x28), []), e32, ([], []), ([], []), ([], []), ([], []), ([], [])] then (
eqK P true 28 x34 (.s (.int .i64 0)) h31 fun x35 =>
condK x35 (
eqK P false 3 x33 (.s (.int .i64 0)) h31 fun x36 =>
K x36 h31) (
faK 3 x1 fun x37 =>
ldK 1 false x37 h31 fun x38 =>
faK 2 x1 fun x39 =>
ldK 1 false x39 h31 fun x40 =>
arithK .lss x38 x40 fun x41 =>
condK x41 (
K (.s (.bool false)) h31) (
faK 1 x1 fun x42 =>
ldK 1 false x42 h31 fun x43 =>
convK P 38 3 a2 fun x44 =>
arithK .add (.s (.int .i64 1)) x44 fun x45 =>
reckK P .quo 3 x43 x45 fun x46 =>
effD (callE (D 14) [a0] h31 (List.length h31)) h31 fun x47 h48 e49 =>
faK 0 x1 fun x50 =>
ldK 1 false x50 h48 fun x51 =>
faK 2 x1 fun x52 =>
ldK 1 false x52 h48 fun x53 =>
faK 3 x1 fun x54 =>
ldK 1 false x54 h48 fun x55 =>
effD (callE (D 16) [x47, x51, x46, x53, x55] h48 (List.length h48)) h48 fun x56 h57 e58 =>
exK x56 0 fun x59 =>
exK x56 1 fun x60 =>
bif disjAll [(1, 3), (1, 6), (1, 8)] [([], []), e49, ([], []), ((idsOf x50), []), ([], []), ([], []), ((idsOf x52), []), ([], []), ((idsOf x54), []), e58, ([], []), ([], []), ([], []), ([], []), ([], [])] then (
effD (callE (D 14) [a0] h57 (List.length h57)) h57 fun x61 h62 e63 =>
faK 0 x1 fun x64 =>
ldK 1 false x64 h62 fun x65 =>
faK 1 x1 fun x66 =>
ldK 1 false x66 h62 fun x67 =>
arithK .sub x67 x46 fun x68 =>
faK 2 x1 fun x69 =>
ldK 1 false x69 h62 fun x70 =>
faK 3 x1 fun x71 =>
ldK 1 false x71 h62 fun x72 =>
effD (callE (D 16) [x61, x65, x68, x70, x72] h62 (List.length h62)) h62 fun x73 h74 e75 =>
exK x73 0 fun x76 =>
exK x73 1 fun x77 =>
bif disjAll [(1, 3), (1, 5), (1, 9), (1, 11)] [([], []), e63, ([], []), ((idsOf x64), []), ([], []), ((idsOf x66), []), ([], []), ([], []), ([], []), ((idsOf x69), []), ([], []), ((idsOf x71), []), e75, ([], []), ([], []), ([], []), ([], []), ([], [])] then (
eqK P true 28 x60 (.s (.int .i64 0)) h74 fun x78 =>
grpK false x78 h74 (fun k79 =>
eqK P true 28 x77 (.s (.int .i64 0)) h74 fun x80 =>
k79 x80 h74) fun x81 h82 =>
grpK false x81 h82 (fun k83 =>
arithK .lss x33 (.s (.int .i64 0)) fun x84 =>
k83 x84 h82) fun x85 h86 =>
grpK false x85 h86 (fun k87 =>
faK 1 x1 fun x88 =>
ldK 1 false x88 h86 fun x89 =>
arithK .gtr x33 x89 fun x90 =>
k87 x90 h86) fun x91 h92 =>
grpK false x91 h92 (fun k93 =>
arithK .lss x59 (.s (.int .i64 0)) fun x94 =>
k93 x94 h92) fun x95 h96 =>
grpK false x95 h96 (fun k97 =>
arithK .gtr x59 x33 fun x98 =>
k97 x98 h96) fun x99 h100 =>
grpK false x99 h100 (fun k101 =>
arithK .add x59 x76 fun x102 =>
arithK .gtr x102 x33 fun x103 =>
k101 x103 h100) fun x104 h105 =>
condK x104 (
K (.s (.bool false)) h105) (
faK 2 x1 fun x106 =>
ldK 1 false x106 h105 fun x107 =>
convK P 38 3 a2 fun x108 =>
faK 3 x1 fun x109 =>
ldK 1 false x109 h105 fun x110 =>
faK 2 x1 fun x111 =>
ldK 1 false x111 h105 fun x112 =>
arithK .sub x110 x112 fun x113 =>
arithK .add x113 (.s (.int .i64 1)) fun x114 =>
reckK P .rem 3 x108 x114 fun x115 =>
arithK .add x107 x115 fun x116 =>
effD (callE (D 14) [a0] h105 (List.length h105)) h105 fun x117 h118 e119 =>
faK 0 x1 fun x120 =>
ldK 1 false x120 h118 fun x121 =>
faK 1 x1 fun x122 =>
ldK 1 false x122 h118 fun x123 =>
faK 2 x1 fun x124 =>
ldK 1 false x124 h118 fun x125 =>
effD (callE (D 16) [x117, x121, x123, x125, x116] h118 (List.length h118)) h118 fun x126 h127 e128 =>
exK x126 0 fun x129 =>
exK x126 1 fun x130 =>
bif disjAll [(1, 3), (1, 5), (1, 7)] [([], []), e119, ([], []), ((idsOf x120), []), ([], []), ((idsOf x122), []), ([], []), ((idsOf x124), []), ([], []), e128, ([], []), ([], []), ([], []), ([], []), ([], [])] then (
eqK P false 28 x130 (.s (.int .i64 0)) h127 fun x131 =>
grpK true x131 h127 (fun k132 =>
arithK .leq x129 x33 fun x133 =>
k132 x133 h127) fun x134 h135 =>
K x134 h135) else none)) else none) else none))) else none))
theorem f_law31_SeasonBounded_run (T : Tab) (D : DTab) (N : Nat) {β : Type} (K : AV → Hp → Option β) (a0 : AV) (a1 : AV) (a2 : AV) (h : Hp) : runK Try.prog T D N [0, 1, 2, 4, 6, 7, 8, 9, 10, 11, 12, 13, 14, 15, 16, 18, 29, 45, 52, 119] Try.f5 K [a0, a1, a2] h = f_law31_SeasonBounded Try.prog T D N K a0 a1 a2 h := by kernel_rfl
/-- spile/spilelaw31.SeasonRates -/
def f_law31_SeasonRates (P : Program) (T : Tab) (D : DTab) (N : Nat) {β : Type} (K : AV → Hp → Option β) (a0 : AV) (a1 : AV) (a2 : AV) (h : Hp) : Option β :=
callK (T 10) [] h fun x1 h2 =>
notK x1 fun x3 =>
condK x3 (
K (.s (.bool false)) h2) (
callK (T 11) [a0] h2 fun x4 h5 =>
notK x4 fun x6 =>
condK x6 (
K (.s (.bool true)) h5) (
callK (T 14) [a0] h5 fun x7 h8 =>
callK (T 19) [x7] h8 fun x9 h10 =>
exK x9 0 fun x11 =>
exK x9 1 fun x12 =>
callK (T 20) [a0] h10 fun x13 h14 =>
exK x13 0 fun x15 =>
exK x13 1 fun x16 =>
callK (T 14) [a0] h14 fun x17 h18 =>
callK (T 21) [x17, a2] h18 fun x19 h20 =>
exK x19 0 fun x21 =>
exK x19 1 fun x22 =>
callK (T 22) [a0, a2] h20 fun x23 h24 =>
exK x23 0 fun x25 =>
exK x23 1 fun x26 =>
callK (T 14) [a0] h24 fun x27 h28 =>
callK (T 18) [x27, a1, a2] h28 fun x29 h30 =>
exK x29 0 fun x31 =>
exK x29 1 fun x32 =>
callK (T 23) [a0, a1, a2] h30 fun x33 h34 =>
exK x33 0 fun x35 =>
exK x33 1 fun x36 =>
eqK P false 3 x11 x15 h34 fun x37 =>
grpK true x37 h34 (fun k38 =>
eqK P false 28 x12 x16 h34 fun x39 =>
k38 x39 h34) fun x40 h41 =>
grpK true x40 h41 (fun k42 =>
eqK P false 3 x21 x25 h41 fun x43 =>
k42 x43 h41) fun x44 h45 =>
grpK true x44 h45 (fun k46 =>
eqK P false 28 x22 x26 h45 fun x47 =>
k46 x47 h45) fun x48 h49 =>
grpK true x48 h49 (fun k50 =>
eqK P false 3 x31 x35 h49 fun x51 =>
k50 x51 h49) fun x52 h53 =>
grpK true x52 h53 (fun k54 =>
eqK P false 28 x32 x36 h53 fun x55 =>
k54 x55 h53) fun x56 h57 =>
K x56 h57))
theorem f_law31_SeasonRates_run (T : Tab) (D : DTab) (N : Nat) {β : Type} (K : AV → Hp → Option β) (a0 : AV) (a1 : AV) (a2 : AV) (h : Hp) : runK Try.prog T D N [0, 1, 2, 6, 7, 8, 9, 10, 11, 12, 13, 14, 15, 16, 17, 18, 20, 23] Try.f6 K [a0, a1, a2] h = f_law31_SeasonRates Try.prog T D N K a0 a1 a2 h := by kernel_rfl
/-- spile/spilelaw31.SeasonFound -/
def f_law31_SeasonFound (P : Program) (T : Tab) (D : DTab) (N : Nat) {β : Type} (K : AV → Hp → Option β) (a0 : AV) (a1 : AV) (a2 : AV) (h : Hp) : Option β :=
effK (boxE 1 a1 (List.length h)) h fun x1 h2 =>
effK (boxE 1 a2 (List.length h2)) h2 fun x3 h4 =>
callK (T 10) [] h4 fun x5 h6 =>
notK x5 fun x7 =>
condK x7 (
K (.s (.bool false)) h6) (
callK (T 11) [a0] h6 fun x8 h9 =>
notK x8 fun x10 =>
condK x10 (
K (.s (.bool true)) h9) (
effD (callE (D 14) [a0] h9 (List.length h9)) h9 fun x11 h12 e13 =>
ldK 1 false x3 h12 fun x14 =>
effD (callE (D 21) [x11, x14] h12 (List.length h12)) h12 fun x15 h16 e17 =>
exK x15 0 fun x18 =>
exK x15 1 fun x19 =>
effD (boxE 1 (.s (.int .i64 0)) (List.length h16)) h16 fun x20 h21 e22 =>
effD (stE 1 x20 x18 h21) h21 fun x23 h24 e25 =>
bif disjAll [(1, 2), (1, 7), (2, 7), (3, 7)] [([], []), e13, ((idsOf x3), []), e17, ([], []), ([], []), ([], []), e22, e25, ([], [])] then (
effD (callE (D 14) [a0] h24 (List.length h24)) h24 fun x26 h27 e28 =>
ldK 1 false x1 h27 fun x29 =>
ldK 1 false x3 h27 fun x30 =>
effD (callE (D 18) [x26, x29, x30] h27 (List.length h27)) h27 fun x31 h32 e33 =>
exK x31 0 fun x34 =>
exK x31 1 fun x35 =>
effD (boxE 1 (.s (.int .i64 0)) (List.length h32)) h32 fun x36 h37 e38 =>
effD (stE 1 x36 x34 h37) h37 fun x39 h40 e41 =>
bif disjAll [(1, 2), (1, 3), (1, 8), (2, 8), (3, 8), (4, 8)] [([], []), e28, ((idsOf x1), []), ((idsOf x3), []), e33, ([], []), ([], []), ([], []), e38, e41, ([], [])] then (
eqK P false 28 x19 (.s (.int .i64 7)) h40 fun x42 =>
condK x42 (
ldK 1 false x36 h40 fun x43 =>
eqK P false 3 x43 (.s (.int .i64 0)) h40 fun x44 =>
grpK true x44 h40 (fun k45 =>
callK (T 24) [a0, (.fn 25 [x3])] h40 fun x46 h47 =>
notK x46 fun x48 =>
k45 x48 h47) fun x49 h50 =>
K x49 h50) (
eqK P true 28 x19 (.s (.int .i64 0)) h40 fun x51 =>
condK x51 (
ldK 1 false x20 h40 fun x52 =>
eqK P false 3 x52 (.s (.int .i64 0)) h40 fun x53 =>
grpK true x53 h40 (fun k54 =>
eqK P false 28 x35 x19 h40 fun x55 =>
k54 x55 h40) fun x56 h57 =>
grpK true x56 h57 (fun k58 =>
ldK 1 false x36 h57 fun x59 =>
eqK P false 3 x59 (.s (.int .i64 0)) h57 fun x60 =>
k58 x60 h57) fun x61 h62 =>
K x61 h62) (
ldK 1 false x20 h40 fun x63 =>
ldK 1 false x3 h40 fun x64 =>
arithK .gtr x63 x64 fun x65 =>
grpK false x65 h40 (fun k66 =>
callK (T 24) [a0, (.fn 26 [x20])] h40 fun x67 h68 =>
notK x67 fun x69 =>
k66 x69 h68) fun x70 h71 =>
grpK false x70 h71 (fun k72 =>
callK (T 24) [a0, (.fn 27 [x20, x3])] h71 fun x73 h74 =>
k72 x73 h74) fun x75 h76 =>
condK x75 (
K (.s (.bool false)) h76) (
ldK 1 false x36 h76 fun x77 =>
eqK P false 3 x77 (.s (.int .i64 0)) h76 fun x78 =>
grpK false x78 h76 (fun k79 =>
callK (T 24) [a0, (.fn 28 [x20, x1, x36])] h76 fun x80 h81 =>
k79 x80 h81) fun x82 h83 =>
K x82 h83)))) else none) else none))
theorem f_law31_SeasonFound_run (T : Tab) (D : DTab) (N : Nat) {β : Type} (K : AV → Hp → Option β) (a0 : AV) (a1 : AV) (a2 : AV) (h : Hp) : runK Try.prog T D N [0, 1, 2, 4, 5, 6, 7, 8, 9, 10, 12, 15, 32, 42, 67] Try.f7 K [a0, a1, a2] h = f_law31_SeasonFound Try.prog T D N K a0 a1 a2 h := by kernel_rfl
/-- spile/spilelaw31.SeasonAdds -/
def f_law31_SeasonAdds (P : Program) (T : Tab) (D : DTab) (N : Nat) {β : Type} (K : AV → Hp → Option β) (a0 : AV) (a1 : AV) (h : Hp) : Option β :=
callK (T 10) [] h fun x1 h2 =>
notK x1 fun x3 =>
condK x3 (
K (.s (.bool false)) h2) (
callK (T 11) [a0] h2 fun x4 h5 =>
notK x4 fun x6 =>
grpK false x6 h5 (fun k7 =>
callK (T 11) [a1] h5 fun x8 h9 =>
notK x8 fun x10 =>
k7 x10 h9) fun x11 h12 =>
condK x11 (
K (.s (.bool true)) h12) (
callK (T 14) [a0] h12 fun x13 h14 =>
callK (T 14) [a1] h14 fun x15 h16 =>
callK (T 29) [x13, x15] h16 fun x17 h18 =>
exK x17 0 fun x19 =>
exK x17 1 fun x20 =>
callK (T 30) [a0, a1] h18 fun x21 h22 =>
exK x21 0 fun x23 =>
exK x21 1 fun x24 =>
callK (T 31) [x19, x23] h22 fun x25 h26 =>
grpK true x25 h26 (fun k27 =>
eqK P false 28 x20 x24 h26 fun x28 =>
k27 x28 h26) fun x29 h30 =>
K x29 h30))
theorem f_law31_SeasonAdds_run (T : Tab) (D : DTab) (N : Nat) {β : Type} (K : AV → Hp → Option β) (a0 : AV) (a1 : AV) (h : Hp) : runK Try.prog T D N [0, 1, 4, 5, 6, 7, 8, 10, 18] Try.f8 K [a0, a1] h = f_law31_SeasonAdds Try.prog T D N K a0 a1 h := by kernel_rfl
/-- spile/spilelaw31.SeasonVersions -/
def f_law31_SeasonVersions (P : Program) (T : Tab) (D : DTab) (N : Nat) {β : Type} (K : AV → Hp → Option β) (a0 : AV) (a1 : AV) (a2 : AV) (h : Hp) : Option β :=
effK (boxE 4 a2 (List.length h)) h fun x1 h2 =>
callK (T 10) [] h2 fun x3 h4 =>
notK x3 fun x5 =>
condK x5 (
K (.s (.bool false)) h4) (
callK (T 11) [a0] h4 fun x6 h7 =>
notK x6 fun x8 =>
grpK false x8 h7 (fun k9 =>
callK (T 11) [a1] h7 fun x10 h11 =>
notK x10 fun x12 =>
k9 x12 h11) fun x13 h14 =>
condK x13 (
K (.s (.bool true)) h14) (
callK (T 14) [a0] h14 fun x15 h16 =>
callK (T 14) [a1] h16 fun x17 h18 =>
callK (T 29) [x15, x17] h18 fun x19 h20 =>
exK x19 0 fun x21 =>
exK x19 1 fun x22 =>
eqK P true 28 x22 (.s (.int .i64 0)) h20 fun x23 =>
condK x23 (
lenK x21 fun x24 =>
eqK P false 3 x24 (.s (.int .i64 0)) h20 fun x25 =>
K x25 h20) (
lenK a1 fun x26 =>
eqK P false 3 x26 (.s (.int .i64 0)) h20 fun x27 =>
condK x27 (
K (.s (.bool false)) h20) (
effD (callE (D 14) [x21] h20 (List.length h20)) h20 fun x28 h29 e30 =>
faK 0 x1 fun x31 =>
ldK 1 false x31 h29 fun x32 =>
faK 2 x1 fun x33 =>
ldK 1 false x33 h29 fun x34 =>
effD (callE (D 18) [x28, x32, x34] h29 (List.length h29)) h29 fun x35 h36 e37 =>
exK x35 0 fun x38 =>
exK x35 1 fun x39 =>
bif disjAll [(1, 3), (1, 5)] [([], []), e30, ([], []), ((idsOf x31), []), ([], []), ((idsOf x33), []), e37, ([], []), ([], []), ([], []), ([], []), ([], [])] then (
effD (callE (D 14) [a0] h36 (List.length h36)) h36 fun x40 h41 e42 =>
faK 0 x1 fun x43 =>
ldK 1 false x43 h41 fun x44 =>
faK 2 x1 fun x45 =>
ldK 1 false x45 h41 fun x46 =>
effD (callE (D 18) [x40, x44, x46] h41 (List.length h41)) h41 fun x47 h48 e49 =>
exK x47 0 fun x50 =>
exK x47 1 fun x51 =>
bif disjAll [(1, 3), (1, 5)] [([], []), e42, ([], []), ((idsOf x43), []), ([], []), ((idsOf x45), []), e49, ([], []), ([], []), ([], []), ([], []), ([], [])] then (
effD (callE (D 14) [a1] h48 (List.length h48)) h48 fun x52 h53 e54 =>
faK 0 x1 fun x55 =>
ldK 1 false x55 h53 fun x56 =>
faK 2 x1 fun x57 =>
ldK 1 false x57 h53 fun x58 =>
effD (callE (D 18) [x52, x56, x58] h53 (List.length h53)) h53 fun x59 h60 e61 =>
exK x59 0 fun x62 =>
exK x59 1 fun x63 =>
bif disjAll [(1, 3), (1, 5)] [([], []), e54, ([], []), ((idsOf x55), []), ([], []), ((idsOf x57), []), e61, ([], []), ([], []), ([], []), ([], []), ([], [])] then (
eqK P true 28 x39 (.s (.int .i64 0)) h60 fun x64 =>
grpK false x64 h60 (fun k65 =>
eqK P true 28 x51 (.s (.int .i64 0)) h60 fun x66 =>
k65 x66 h60) fun x67 h68 =>
grpK false x67 h68 (fun k69 =>
eqK P true 28 x63 (.s (.int .i64 0)) h68 fun x70 =>
k69 x70 h68) fun x71 h72 =>
condK x71 (
eqK P false 28 x39 x51 h72 fun x73 =>
grpK true x73 h72 (fun k74 =>
eqK P false 28 x51 x63 h72 fun x75 =>
k74 x75 h72) fun x76 h77 =>
grpK true x76 h77 (fun k78 =>
eqK P false 3 x38 (.s (.int .i64 0)) h77 fun x79 =>
k78 x79 h77) fun x80 h81 =>
K x80 h81) (
faK 2 x1 fun x82 =>
ldK 1 false x82 h72 fun x83 =>
iaK 4 a1 (.s (.int .i64 0)) fun x84 =>
faK 0 x84 fun x85 =>
ldK 1 false x85 h72 fun x86 =>
arithK .lss x83 x86 fun x87 =>
condK x87 (
eqK P false 3 x38 x50 h72 fun x88 =>
grpK true x88 h72 (fun k89 =>
eqK P false 3 x62 (.s (.int .i64 0)) h72 fun x90 =>
k89 x90 h72) fun x91 h92 =>
K x91 h92) (
faK 2 x1 fun x93 =>
ldK 1 false x93 h72 fun x94 =>
callK (T 21) [x21, x94] h72 fun x95 h96 =>
exK x95 0 fun x97 =>
exK x95 1 fun x98 =>
eqK P false 3 x38 x62 h96 fun x99 =>
grpK true x99 h96 (fun k100 =>
iaK 4 a1 (.s (.int .i64 0)) fun x101 =>
faK 0 x101 fun x102 =>
ldK 1 false x102 h96 fun x103 =>
eqK P false 3 x97 x103 h96 fun x104 =>
k100 x104 h96) fun x105 h106 =>
grpK true x105 h106 (fun k107 =>
eqK P false 28 x98 (.s (.int .i64 0)) h106 fun x108 =>
k107 x108 h106) fun x109 h110 =>
K x109 h110))) else none) else none) else none))))
theorem f_law31_SeasonVersions_run (T : Tab) (D : DTab) (N : Nat) {β : Type} (K : AV → Hp → Option β) (a0 : AV) (a1 : AV) (a2 : AV) (h : Hp) : runK Try.prog T D N [0, 1, 2, 5, 6, 7, 8, 9, 10, 11, 12, 13, 14, 15, 16, 18, 26, 36, 42, 82, 101] Try.f9 K [a0, a1, a2] h = f_law31_SeasonVersions Try.prog T D N K a0 a1 a2 h := by kernel_rfl
/-- spile/spilelaw31.awake -/
def f_law31_awake (P : Program) (T : Tab) (D : DTab) (N : Nat) {β : Type} (K : AV → Hp → Option β) (h : Hp) : Option β :=
callK (T 32) [] h fun x1 h2 =>
callK (T 18) [x1, (.s (.int .i64 1)), (.s (.int .i64 30))] h2 fun x3 h4 =>
exK x3 0 fun x5 =>
exK x3 1 fun x6 =>
callK (T 32) [] h4 fun x7 h8 =>
callK (T 18) [x7, (.s (.int .i64 1)), (.s (.int .i64 31))] h8 fun x9 h10 =>
exK x9 0 fun x11 =>
exK x9 1 fun x12 =>
callK (T 32) [] h10 fun x13 h14 =>
callK (T 13) [x13, (.s (.int .i64 1)), (.s (.int .i64 29)), (.s (.int .i64 33))] h14 fun x15 h16 =>
exK x15 0 fun x17 =>
exK x15 1 fun x18 =>
callK (T 32) [] h16 fun x19 h20 =>
callK (T 16) [x19, (.s (.int .i64 1)), (.s (.int .i64 1000000)), (.s (.int .i64 29)), (.s (.int .i64 33))] h20 fun x21 h22 =>
exK x21 0 fun x23 =>
exK x21 1 fun x24 =>
callK (T 32) [] h22 fun x25 h26 =>
callK (T 16) [x25, (.s (.int .i64 1)), (.s (.int .i64 10000)), (.s (.int .i64 29)), (.s (.int .i64 33))] h26 fun x27 h28 =>
exK x27 0 fun x29 =>
exK x27 1 fun x30 =>
eqK P false 3 x5 (.s (.int .i64 50)) h28 fun x31 =>
grpK true x31 h28 (fun k32 =>
eqK P false 3 x11 (.s (.int .i64 60)) h28 fun x33 =>
k32 x33 h28) fun x34 h35 =>
grpK true x34 h35 (fun k36 =>
eqK P false 3 x17 (.s (.int .i64 220)) h35 fun x37 =>
k36 x37 h35) fun x38 h39 =>
grpK true x38 h39 (fun k40 =>
eqK P false 3 x23 (.s (.int .i64 220)) h39 fun x41 =>
k40 x41 h39) fun x42 h43 =>
grpK true x42 h43 (fun k44 =>
eqK P false 3 x29 (.s (.int .i64 2)) h43 fun x45 =>
k44 x45 h43) fun x46 h47 =>
grpK true x46 h47 (fun k48 =>
arithK .add x6 x12 fun x49 =>
arithK .add x49 x18 fun x50 =>
arithK .add x50 x24 fun x51 =>
arithK .add x51 x30 fun x52 =>
eqK P false 28 x52 (.s (.int .i64 0)) h47 fun x53 =>
k48 x53 h47) fun x54 h55 =>
K x54 h55
theorem f_law31_awake_run (T : Tab) (D : DTab) (N : Nat) {β : Type} (K : AV → Hp → Option β) (h : Hp) : runK Try.prog T D N [0, 1, 2, 3, 4, 5, 6, 7, 8, 9, 10] Try.f10 K [] h = f_law31_awake Try.prog T D N K  h := by kernel_rfl
/-- spile/spileref31.Few -/
def f_ref31_Few (P : Program) (T : Tab) (D : DTab) (N : Nat) {β : Type} (K : AV → Hp → Option β) (a0 : AV) (h : Hp) : Option β :=
lenK a0 fun x1 =>
arithK .leq x1 (.s (.int .i64 20)) fun x2 =>
grpK false x2 h (fun k3 =>
lenK a0 fun x4 =>
eqK P false 3 x4 (.s (.int .i64 129)) h fun x5 =>
k3 x5 h) fun x6 h7 =>
K x6 h7
theorem f_ref31_Few_run (T : Tab) (D : DTab) (N : Nat) {β : Type} (K : AV → Hp → Option β) (a0 : AV) (h : Hp) : runK Try.prog T D N [0, 2] Try.f11 K [a0] h = f_ref31_Few Try.prog T D N K a0 h := by kernel_rfl
/-- spile/spilelaw31.short -/
def f_law31_short (P : Program) (T : Tab) (D : DTab) (N : Nat) {β : Type} (K : AV → Hp → Option β) (a0 : AV) (a1 : AV) (h : Hp) : Option β :=
arithK .leq a1 a0 fun x1 =>
grpK false x1 h (fun k2 =>
arithK .lss a0 (.s (.int .i64 0)) fun x3 =>
k2 x3 h) fun x4 h5 =>
grpK false x4 h5 (fun k6 =>
arithK .gtr a1 (.s (.int .i64 100000)) fun x7 =>
k6 x7 h5) fun x8 h9 =>
grpK false x8 h9 (fun k10 =>
arithK .sub a1 a0 fun x11 =>
arithK .leq x11 (.s (.int .i64 800)) fun x12 =>
k10 x12 h9) fun x13 h14 =>
K x13 h14
theorem f_law31_short_run (T : Tab) (D : DTab) (N : Nat) {β : Type} (K : AV → Hp → Option β) (a0 : AV) (a1 : AV) (h : Hp) : runK Try.prog T D N [0, 1, 4] Try.f12 K [a0, a1] h = f_law31_short Try.prog T D N K a0 a1 h := by kernel_rfl
/-- spile/season.Sum -/
def f_season_Sum (P : Program) (T : Tab) (D : DTab) (N : Nat) {β : Type} (K : AV → Hp → Option β) (a0 : AV) (a1 : AV) (a2 : AV) (a3 : AV) (h : Hp) : Option β :=
callK (T 33) [a0] h fun x1 h2 =>
notK x1 fun x3 =>
condK x3 (
K (.tup [(.s (.int .i64 0)), (.s (.int .i64 1))]) h2) (
callK (T 34) [a1, (.s (.int .i64 1)), (.s (.int .i64 9))] h2 fun x4 h5 =>
notK x4 fun x6 =>
grpK false x6 h5 (fun k7 =>
callK (T 34) [a2, (.s (.int .i64 0)), (.s (.int .i64 100000))] h5 fun x8 h9 =>
notK x8 fun x10 =>
k7 x10 h9) fun x11 h12 =>
grpK false x11 h12 (fun k13 =>
callK (T 34) [a3, (.s (.int .i64 0)), (.s (.int .i64 100000))] h12 fun x14 h15 =>
notK x14 fun x16 =>
k13 x16 h15) fun x17 h18 =>
condK x17 (
K (.tup [(.s (.int .i64 0)), (.s (.int .i64 2))]) h18) (
arithK .gtr a2 a3 fun x19 =>
condK x19 (
K (.tup [(.s (.int .i64 0)), (.s (.int .i64 5))]) h18) (
callK (T 35) [a0, a1, a2, a3] h18 fun x20 h21 =>
K (.tup [x20, (.s (.int .i64 0))]) h21)))
theorem f_season_Sum_run (T : Tab) (D : DTab) (N : Nat) {β : Type} (K : AV → Hp → Option β) (a0 : AV) (a1 : AV) (a2 : AV) (a3 : AV) (h : Hp) : runK Try.prog T D N [0, 1, 2, 3, 8, 9, 10, 14, 28] Try.f13 K [a0, a1, a2, a3] h = f_season_Sum Try.prog T D N K a0 a1 a2 a3 h := by kernel_rfl
/-- slices.Clone[[]spile/api.Allowance,spile/api.Allowance] -/
def f_slices_Clone_Allowance (P : Program) (T : Tab) (D : DTab) (N : Nat) {β : Type} (K : AV → Hp → Option β) (a0 : AV) (h : Hp) : Option β :=
eqK P false 22 a0 (.s (.slice none 0 0)) h fun x1 =>
condK x1 (
K (.s (.slice none 0 0)) h) (
effK (bsE 4 [.s (.int .i64 0), .s (.int .i64 0), .s (.int .i64 0), .s (.int .i64 0)] 0 [] (List.length h)) h fun x2 h3 =>
effK (appE 4 32 x2 a0 h3 (List.length h3)) h3 fun x4 h5 =>
K x4 h5)
theorem f_slices_Clone_Allowance_run (T : Tab) (D : DTab) (N : Nat) {β : Type} (K : AV → Hp → Option β) (a0 : AV) (h : Hp) : runK Try.prog T D N [0, 2, 4] Try.f14 K [a0] h = f_slices_Clone_Allowance Try.prog T D N K a0 h := by kernel_rfl
def o_ref31_Sum_j1 (P : Program) (T : Tab) (D : DTab) (N : Nat) {β : Type} (K : AV → Hp → Option β) (t : Tm) (h : Hp) : Option β :=
K (.tup [(t 10), (.s (.int .i64 0))]) h
def o_ref31_Sum_L2 (P : Program) (T : Tab) (D : DTab) (N : Nat) {β : Type} (t : Tm) (h : Hp) (k : Ex → St → Option β) : Option β :=
arithK .lss (t 11) (t 3) fun x20 =>
condK x20 (
callK (T 39) [(t 0), (t 1), (t 11)] h fun x21 h22 =>
arithK .add (t 10) x21 fun x23 =>
arithK .add (t 11) (.s (.int .i64 1)) fun x24 =>
k .normal ((upd (upd (upd t 34 x20) 10 x23) 11 x24), h22)) (
k (.exit 0) ((upd t 34 x20), h))
def o_ref31_Sum_aL2 (P : Program) (T : Tab) (D : DTab) (N : Nat) {β : Type} (K : AV → Hp → Option β) (e : Ex) (s : St) : Option β :=
  e.on ((o_ref31_Sum_j1 P T D N K s.1 s.2))
  (fun i => bif i == 0 then ((o_ref31_Sum_j1 P T D N K s.1 s.2)) else (none))
  (K (.tup [(s.1 8), (s.1 9)]) s.2)
def o_ref31_Sum_G (P : Program) (T : Tab) (D : DTab) (N : Nat) {β : Type} (cL2 : St → Option β) (K : AV → Hp → Option β) (a0 : AV) (a1 : AV) (a2 : AV) (a3 : AV) (h : Hp) :  Option β :=
callK (T 36) [a0] h fun x1 h2 =>
notK x1 fun x3 =>
condK x3 (
K (.tup [(.s (.int .i64 0)), (.s (.int .i64 1))]) h2) (
callK (T 37) [a1] h2 fun x4 h5 =>
notK x4 fun x6 =>
grpK false x6 h5 (fun k7 =>
callK (T 38) [a2] h5 fun x8 h9 =>
notK x8 fun x10 =>
k7 x10 h9) fun x11 h12 =>
grpK false x11 h12 (fun k13 =>
callK (T 38) [a3] h12 fun x14 h15 =>
notK x14 fun x16 =>
k13 x16 h15) fun x17 h18 =>
condK x17 (
K (.tup [(.s (.int .i64 0)), (.s (.int .i64 2))]) h18) (
arithK .gtr a2 a3 fun x19 =>
condK x19 (
K (.tup [(.s (.int .i64 0)), (.s (.int .i64 5))]) h18) (
cL2 ((upd (upd (upd (upd (upd (upd (upd (tm0 [a0, a1, a2, a3]) 8 (.s (.int .i64 0))) 9 (.s (.int .i64 0))) 14 x3) 27 x17) 30 x19) 10 (.s (.int .i64 0))) 11 a2), h18))))
def o_ref31_Sum (P : Program) (T : Tab) (D : DTab) (N : Nat) {β : Type} (K : AV → Hp → Option β) (a0 : AV) (a1 : AV) (a2 : AV) (a3 : AV) (h : Hp) : Option β := o_ref31_Sum_G P T D N (fun s => iterK (fun s k => o_ref31_Sum_L2 P T D N s.1 s.2 k) N s (o_ref31_Sum_aL2 P T D N K)) K a0 a1 a2 a3 h
def f_ref31_Sum_j1 (P : Program) (T : Tab) (D : DTab) (N : Nat) {β : Type} (K : AV → Hp → Option β) (v10 : AV) (h : Hp) : Option β :=
K (.tup [v10, (.s (.int .i64 0))]) h
def f_ref31_Sum_b2 (P : Program) (T : Tab) (D : DTab) (N : Nat) {β : Type} (xn : AV → AV → AV → AV → AV → Hp → Option β) (x0 : AV → Hp → Option β) (v0 : AV) (v1 : AV) (v3 : AV) (v10 : AV) (v11 : AV) (h : Hp) : Option β :=
arithK .lss v11 v3 fun x20 =>
condK x20 (
callK (T 39) [v0, v1, v11] h fun x21 h22 =>
arithK .add v10 x21 fun x23 =>
arithK .add v11 (.s (.int .i64 1)) fun x24 =>
xn v0 v1 v3 x23 x24 h22) (
x0 v10 h)
def f_ref31_Sum_L2 (P : Program) (T : Tab) (D : DTab) (N : Nat) {β : Type} (x0 : AV → Hp → Option β) : Nat → AV → AV → AV → AV → AV → Hp → Option β
  | 0 => fun _ _ _ _ _ _ => none
  | n + 1 => fun v0 v1 v3 v10 v11 h => f_ref31_Sum_b2 P T D N (f_ref31_Sum_L2 P T D N x0 n) x0 v0 v1 v3 v10 v11 h
/-- spile/spileref31.Sum -/
def f_ref31_Sum (P : Program) (T : Tab) (D : DTab) (N : Nat) {β : Type} (K : AV → Hp → Option β) (a0 : AV) (a1 : AV) (a2 : AV) (a3 : AV) (h : Hp) : Option β :=
callK (T 36) [a0] h fun x1 h2 =>
notK x1 fun x3 =>
condK x3 (
K (.tup [(.s (.int .i64 0)), (.s (.int .i64 1))]) h2) (
callK (T 37) [a1] h2 fun x4 h5 =>
notK x4 fun x6 =>
grpK false x6 h5 (fun k7 =>
callK (T 38) [a2] h5 fun x8 h9 =>
notK x8 fun x10 =>
k7 x10 h9) fun x11 h12 =>
grpK false x11 h12 (fun k13 =>
callK (T 38) [a3] h12 fun x14 h15 =>
notK x14 fun x16 =>
k13 x16 h15) fun x17 h18 =>
condK x17 (
K (.tup [(.s (.int .i64 0)), (.s (.int .i64 2))]) h18) (
arithK .gtr a2 a3 fun x19 =>
condK x19 (
K (.tup [(.s (.int .i64 0)), (.s (.int .i64 5))]) h18) (
f_ref31_Sum_L2 P T D N (fun w25_10 h => f_ref31_Sum_j1 P T D N K w25_10 h) N a0 a1 a3 (.s (.int .i64 0)) a2 h18)))
theorem f_ref31_Sum_j1_eq (P : Program) (T : Tab) (D : DTab) (N : Nat) {β : Type} (K : AV → Hp → Option β) (t : Tm) (h : Hp) : o_ref31_Sum_j1 P T D N K t h = f_ref31_Sum_j1 P T D N K (t 10) h := by kernel_rfl
theorem f_ref31_Sum_b2_eq (P : Program) (T : Tab) (D : DTab) (N : Nat) {β : Type} (xn : AV → AV → AV → AV → AV → Hp → Option β) (x0 : AV → Hp → Option β) (xd : Nat → St → Option β) (xq : St → Option β) (t : Tm) (h : Hp) : o_ref31_Sum_L2 P T D N t h (fun (e : Ex) (s : St) => e.on (xn (s.1 0) (s.1 1) (s.1 3) (s.1 10) (s.1 11) s.2) (fun i => (bif i == 0 then x0 (s.1 10) s.2 else (xd i s))) (xq s)) = f_ref31_Sum_b2 P T D N xn x0 (t 0) (t 1) (t 3) (t 10) (t 11) h := by kernel_rfl
theorem f_ref31_Sum_L2_eq (P : Program) (T : Tab) (D : DTab) (N : Nat) {β : Type} (A : Ex → St → Option β) (x0 : AV → Hp → Option β) (q0 : ∀ s, A (.exit 0) s = x0 (s.1 10) s.2) : ∀ (n : Nat) (s : St), iterK (fun s k => o_ref31_Sum_L2 P T D N s.1 s.2 k) n s A = f_ref31_Sum_L2 P T D N x0 n (s.1 0) (s.1 1) (s.1 3) (s.1 10) (s.1 11) s.2 := by
  intro n
  induction n with
  | zero => intro s; rfl
  | succ n ih =>
    intro s
    have hk : (fun (e : Ex) (s' : St) => Ex.on e (iterK (fun s k => o_ref31_Sum_L2 P T D N s.1 s.2 k) n s' A) (fun i => A (.exit i) s') (A .ret s')) = (fun (e : Ex) (s : St) => e.on ((f_ref31_Sum_L2 P T D N x0 n) (s.1 0) (s.1 1) (s.1 3) (s.1 10) (s.1 11) s.2) (fun i => (bif i == 0 then x0 (s.1 10) s.2 else (A (.exit i) s))) (A .ret s)) := by
      funext e s'
      cases e with
      | normal => exact ih s'
      | ret => exact rfl
      | exit i =>
        by_cases r0 : i = 0
        · subst r0; exact q0 s'
        simp only [Ex.on, beq_false_of_ne r0, cond_false]
    show o_ref31_Sum_L2 P T D N s.1 s.2 (fun (e : Ex) (s' : St) => Ex.on e (iterK (fun s k => o_ref31_Sum_L2 P T D N s.1 s.2 k) n s' A) (fun i => A (.exit i) s') (A .ret s')) = _
    rw [hk]
    exact f_ref31_Sum_b2_eq P T D N (f_ref31_Sum_L2 P T D N x0 n) x0 (fun i s => A (.exit i) s) (fun s => A .ret s) s.1 s.2
theorem f_ref31_Sum_old_eq (P : Program) (T : Tab) (D : DTab) (N : Nat) {β : Type} (K : AV → Hp → Option β) (a0 : AV) (a1 : AV) (a2 : AV) (a3 : AV) (h : Hp) : o_ref31_Sum P T D N K a0 a1 a2 a3 h = f_ref31_Sum P T D N K a0 a1 a2 a3 h := by
  have eL2 : (fun s : St => iterK (fun s k => o_ref31_Sum_L2 P T D N s.1 s.2 k) N s (o_ref31_Sum_aL2 P T D N K)) = (fun s : St => f_ref31_Sum_L2 P T D N (fun w25_10 h => f_ref31_Sum_j1 P T D N K w25_10 h) N (s.1 0) (s.1 1) (s.1 3) (s.1 10) (s.1 11) s.2) := funext fun s => f_ref31_Sum_L2_eq P T D N (o_ref31_Sum_aL2 P T D N K) (fun w25_10 h => f_ref31_Sum_j1 P T D N K w25_10 h) (fun s => rfl) N s
  show o_ref31_Sum_G P T D N (fun s => iterK (fun s k => o_ref31_Sum_L2 P T D N s.1 s.2 k) N s (o_ref31_Sum_aL2 P T D N K)) K a0 a1 a2 a3 h = _
  rw [eL2]
  kernel_rfl
theorem o_ref31_Sum_run (T : Tab) (D : DTab) (N : Nat) {β : Type} (K : AV → Hp → Option β) (a0 : AV) (a1 : AV) (a2 : AV) (a3 : AV) (h : Hp) : runK Try.prog T D N [0, 1, 2, 3, 8, 9, 10, 11, 14, 27, 30, 34] Try.f15 K [a0, a1, a2, a3] h = o_ref31_Sum Try.prog T D N K a0 a1 a2 a3 h := by kernel_rfl
theorem f_ref31_Sum_run (T : Tab) (D : DTab) (N : Nat) {β : Type} (K : AV → Hp → Option β) (a0 : AV) (a1 : AV) (a2 : AV) (a3 : AV) (h : Hp) : runK Try.prog T D N [0, 1, 2, 3, 8, 9, 10, 11, 14, 27, 30, 34] Try.f15 K [a0, a1, a2, a3] h = f_ref31_Sum Try.prog T D N K a0 a1 a2 a3 h := (o_ref31_Sum_run T D N K a0 a1 a2 a3 h).trans (f_ref31_Sum_old_eq Try.prog T D N K a0 a1 a2 a3 h)
/-- spile/season.Allowed -/
def f_season_Allowed (P : Program) (T : Tab) (D : DTab) (N : Nat) {β : Type} (K : AV → Hp → Option β) (a0 : AV) (a1 : AV) (a2 : AV) (a3 : AV) (a4 : AV) (h : Hp) : Option β :=
callK (T 33) [a0] h fun x1 h2 =>
notK x1 fun x3 =>
condK x3 (
K (.tup [(.s (.int .i64 0)), (.s (.int .i64 1))]) h2) (
callK (T 34) [a1, (.s (.int .i64 1)), (.s (.int .i64 9))] h2 fun x4 h5 =>
notK x4 fun x6 =>
grpK false x6 h5 (fun k7 =>
callK (T 34) [a3, (.s (.int .i64 0)), (.s (.int .i64 100000))] h5 fun x8 h9 =>
notK x8 fun x10 =>
k7 x10 h9) fun x11 h12 =>
grpK false x11 h12 (fun k13 =>
callK (T 34) [a4, (.s (.int .i64 0)), (.s (.int .i64 100000))] h12 fun x14 h15 =>
notK x14 fun x16 =>
k13 x16 h15) fun x17 h18 =>
grpK false x17 h18 (fun k19 =>
callK (T 34) [a2, (.s (.int .i64 0)), (.s (.int .i64 10737418240000))] h18 fun x20 h21 =>
notK x20 fun x22 =>
k19 x22 h21) fun x23 h24 =>
condK x23 (
K (.tup [(.s (.int .i64 0)), (.s (.int .i64 2))]) h24) (
arithK .gtr a3 a4 fun x25 =>
condK x25 (
K (.tup [(.s (.int .i64 0)), (.s (.int .i64 5))]) h24) (
callK (T 35) [a0, a1, a3, a4] h24 fun x26 h27 =>
callK (T 40) [a2, x26, (.s (.int .i64 1000000))] h27 fun x28 h29 =>
exK x28 0 fun x30 =>
exK x28 1 fun x31 =>
exK x28 2 fun x32 =>
eqK P true 28 x32 (.s (.int .i64 0)) h29 fun x33 =>
condK x33 (
K (.tup [a2, (.s (.int .i64 0))]) h29) (
minK x30 a2 fun x34 =>
K (.tup [x34, (.s (.int .i64 0))]) h29))))
theorem f_season_Allowed_run (T : Tab) (D : DTab) (N : Nat) {β : Type} (K : AV → Hp → Option β) (a0 : AV) (a1 : AV) (a2 : AV) (a3 : AV) (a4 : AV) (h : Hp) : runK Try.prog T D N [0, 1, 2, 3, 4, 10, 11, 12, 14, 15, 19, 38, 54] Try.f16 K [a0, a1, a2, a3, a4] h = f_season_Allowed Try.prog T D N K a0 a1 a2 a3 a4 h := by kernel_rfl
/-- spile/spileref31.Allowed -/
def f_ref31_Allowed (P : Program) (T : Tab) (D : DTab) (N : Nat) {β : Type} (K : AV → Hp → Option β) (a0 : AV) (a1 : AV) (a2 : AV) (a3 : AV) (a4 : AV) (h : Hp) : Option β :=
callK (T 36) [a0] h fun x1 h2 =>
notK x1 fun x3 =>
condK x3 (
K (.tup [(.s (.int .i64 0)), (.s (.int .i64 1))]) h2) (
callK (T 37) [a1] h2 fun x4 h5 =>
notK x4 fun x6 =>
grpK false x6 h5 (fun k7 =>
callK (T 38) [a3] h5 fun x8 h9 =>
notK x8 fun x10 =>
k7 x10 h9) fun x11 h12 =>
grpK false x11 h12 (fun k13 =>
callK (T 38) [a4] h12 fun x14 h15 =>
notK x14 fun x16 =>
k13 x16 h15) fun x17 h18 =>
grpK false x17 h18 (fun k19 =>
arithK .lss a2 (.s (.int .i64 0)) fun x20 =>
k19 x20 h18) fun x21 h22 =>
grpK false x21 h22 (fun k23 =>
arithK .gtr a2 (.s (.int .i64 10737418240000)) fun x24 =>
k23 x24 h22) fun x25 h26 =>
condK x25 (
K (.tup [(.s (.int .i64 0)), (.s (.int .i64 2))]) h26) (
callK (T 15) [a0, a1, a3, a4] h26 fun x27 h28 =>
exK x27 0 fun x29 =>
exK x27 1 fun x30 =>
eqK P true 28 x30 (.s (.int .i64 0)) h28 fun x31 =>
condK x31 (
K (.tup [(.s (.int .i64 0)), x30]) h28) (
arithK .geq x29 (.s (.int .i64 1000000)) fun x32 =>
condK x32 (
K (.tup [a2, (.s (.int .i64 0))]) h28) (
callK (T 41) [a2, x29, (.s (.int .i64 1000000))] h28 fun x33 h34 =>
exK x33 0 fun x35 =>
exK x33 1 fun x36 =>
K (.tup [x35, (.s (.int .i64 0))]) h34))))
theorem f_ref31_Allowed_run (T : Tab) (D : DTab) (N : Nat) {β : Type} (K : AV → Hp → Option β) (a0 : AV) (a1 : AV) (a2 : AV) (a3 : AV) (a4 : AV) (h : Hp) : runK Try.prog T D N [0, 1, 2, 3, 4, 10, 11, 12, 13, 14, 18, 39, 49, 52] Try.f17 K [a0, a1, a2, a3, a4] h = f_ref31_Allowed Try.prog T D N K a0 a1 a2 a3 a4 h := by kernel_rfl
/-- spile/season.Rate -/
def f_season_Rate (P : Program) (T : Tab) (D : DTab) (N : Nat) {β : Type} (K : AV → Hp → Option β) (a0 : AV) (a1 : AV) (a2 : AV) (h : Hp) : Option β :=
callK (T 33) [a0] h fun x1 h2 =>
notK x1 fun x3 =>
condK x3 (
K (.tup [(.s (.int .i64 0)), (.s (.int .i64 1))]) h2) (
callK (T 34) [a1, (.s (.int .i64 1)), (.s (.int .i64 9))] h2 fun x4 h5 =>
notK x4 fun x6 =>
grpK false x6 h5 (fun k7 =>
callK (T 34) [a2, (.s (.int .i64 0)), (.s (.int .i64 100000))] h5 fun x8 h9 =>
notK x8 fun x10 =>
k7 x10 h9) fun x11 h12 =>
condK x11 (
K (.tup [(.s (.int .i64 0)), (.s (.int .i64 2))]) h12) (
callK (T 42) [a0, a1, a2] h12 fun x13 h14 =>
exK x13 0 fun x15 =>
exK x13 1 fun x16 =>
K (.tup [x15, (.s (.int .i64 0))]) h14))
theorem f_season_Rate_run (T : Tab) (D : DTab) (N : Nat) {β : Type} (K : AV → Hp → Option β) (a0 : AV) (a1 : AV) (a2 : AV) (h : Hp) : runK Try.prog T D N [0, 1, 2, 6, 7, 8, 10, 14] Try.f18 K [a0, a1, a2] h = f_season_Rate Try.prog T D N K a0 a1 a2 h := by kernel_rfl
def o_season_Check_j1 (P : Program) (T : Tab) (D : DTab) (N : Nat) {β : Type} (K : AV → Hp → Option β) (t : Tm) (h : Hp) : Option β :=
K (.tup [(.s (.int .i64 (-1))), (.s (.int .i64 0))]) h
def o_season_Check_L2 (P : Program) (T : Tab) (D : DTab) (N : Nat) {β : Type} (t : Tm) (h : Hp) (k : Ex → St → Option β) : Option β :=
arithK .lss (t 11) (t 10) fun x4 =>
condK x4 (
iaK 4 (t 9) (t 11) fun x5 =>
ldK 4 true x5 h fun x6 =>
effK (boxE 4 (.agg [.s (.int .i64 0), .s (.int .i64 0), .s (.int .i64 0), .s (.int .i64 0)]) (List.length h)) h fun x7 h8 =>
effK (stE 4 x7 x6 h8) h8 fun x9 h10 =>
faK 0 x7 fun x11 =>
ldK 1 false x11 h10 fun x12 =>
callK (T 34) [x12, (.s (.int .i64 0)), (.s (.int .i64 100000))] h10 fun x13 h14 =>
notK x13 fun x15 =>
grpK false x15 h14 (fun k16 =>
faK 1 x7 fun x17 =>
ldK 1 false x17 h14 fun x18 =>
callK (T 34) [x18, (.s (.int .i64 1)), (.s (.int .i64 9))] h14 fun x19 h20 =>
notK x19 fun x21 =>
k16 x21 h20) fun x22 h23 =>
grpK false x22 h23 (fun k24 =>
faK 2 x7 fun x25 =>
ldK 1 false x25 h23 fun x26 =>
callK (T 34) [x26, (.s (.int .i64 1)), (.s (.int .i64 12))] h23 fun x27 h28 =>
notK x27 fun x29 =>
k24 x29 h28) fun x30 h31 =>
grpK false x30 h31 (fun k32 =>
faK 3 x7 fun x33 =>
ldK 1 false x33 h31 fun x34 =>
callK (T 34) [x34, (.s (.int .i64 0)), (.s (.int .i64 10000))] h31 fun x35 h36 =>
notK x35 fun x37 =>
k32 x37 h36) fun x38 h39 =>
condK x38 (
k .ret ((upd (upd (upd (upd (upd (upd t 12 x4) 5 x7) 4 (t 11)) 16 x38) 2 (t 11)) 3 (.s (.int .i64 2))), h39)) (
arithK .gtr (t 11) (.s (.int .i64 0)) fun x40 =>
grpK true x40 h39 (fun k41 =>
arithK .sub (t 11) (.s (.int .i64 1)) fun x42 =>
iaK 4 (t 0) x42 fun x43 =>
ldK 4 true x43 h39 fun x44 =>
ldK 4 true x7 h39 fun x45 =>
callK (T 43) [x44, x45] h39 fun x46 h47 =>
notK x46 fun x48 =>
k41 x48 h47) fun x49 h50 =>
condK x49 (
k .ret ((upd (upd (upd (upd (upd (upd (upd t 12 x4) 5 x7) 4 (t 11)) 16 x38) 40 x49) 2 (t 11)) 3 (.s (.int .i64 5))), h50)) (
arithK .add (t 11) (.s (.int .i64 1)) fun x51 =>
k .normal ((upd (upd (upd (upd (upd (upd t 12 x4) 5 x7) 4 (t 11)) 16 x38) 40 x49) 11 x51), h50)))) (
k (.exit 0) ((upd t 12 x4), h))
def o_season_Check_aL2 (P : Program) (T : Tab) (D : DTab) (N : Nat) {β : Type} (K : AV → Hp → Option β) (e : Ex) (s : St) : Option β :=
  e.on ((o_season_Check_j1 P T D N K s.1 s.2))
  (fun i => bif i == 0 then ((o_season_Check_j1 P T D N K s.1 s.2)) else (none))
  (K (.tup [(s.1 2), (s.1 3)]) s.2)
def o_season_Check_G (P : Program) (T : Tab) (D : DTab) (N : Nat) {β : Type} (cL2 : St → Option β) (K : AV → Hp → Option β) (a0 : AV) (h : Hp) :  Option β :=
lenK a0 fun x1 =>
arithK .gtr x1 (.s (.int .i64 128)) fun x2 =>
condK x2 (
K (.tup [(.s (.int .i64 (-1))), (.s (.int .i64 8))]) h) (
lenK a0 fun x3 =>
cL2 ((upd (upd (upd (upd (upd (upd (tm0 [a0]) 2 (.s (.int .i64 0))) 3 (.s (.int .i64 0))) 8 x2) 9 a0) 10 x3) 11 (.s (.int .i64 0))), h))
def o_season_Check (P : Program) (T : Tab) (D : DTab) (N : Nat) {β : Type} (K : AV → Hp → Option β) (a0 : AV) (h : Hp) : Option β := o_season_Check_G P T D N (fun s => iterK (fun s k => o_season_Check_L2 P T D N s.1 s.2 k) N s (o_season_Check_aL2 P T D N K)) K a0 h
def f_season_Check_j1 (P : Program) (T : Tab) (D : DTab) (N : Nat) {β : Type} (K : AV → Hp → Option β) (h : Hp) : Option β :=
K (.tup [(.s (.int .i64 (-1))), (.s (.int .i64 0))]) h
def f_season_Check_b2 (P : Program) (T : Tab) (D : DTab) (N : Nat) {β : Type} (xn : AV → AV → AV → AV → Hp → Option β) (x0 : Hp → Option β) (xr : AV → AV → Hp → Option β) (v0 : AV) (v9 : AV) (v10 : AV) (v11 : AV) (h : Hp) : Option β :=
arithK .lss v11 v10 fun x4 =>
condK x4 (
iaK 4 v9 v11 fun x5 =>
ldK 4 true x5 h fun x6 =>
effK (boxE 4 (.agg [.s (.int .i64 0), .s (.int .i64 0), .s (.int .i64 0), .s (.int .i64 0)]) (List.length h)) h fun x7 h8 =>
effK (stE 4 x7 x6 h8) h8 fun x9 h10 =>
faK 0 x7 fun x11 =>
ldK 1 false x11 h10 fun x12 =>
callK (T 34) [x12, (.s (.int .i64 0)), (.s (.int .i64 100000))] h10 fun x13 h14 =>
notK x13 fun x15 =>
grpK false x15 h14 (fun k16 =>
faK 1 x7 fun x17 =>
ldK 1 false x17 h14 fun x18 =>
callK (T 34) [x18, (.s (.int .i64 1)), (.s (.int .i64 9))] h14 fun x19 h20 =>
notK x19 fun x21 =>
k16 x21 h20) fun x22 h23 =>
grpK false x22 h23 (fun k24 =>
faK 2 x7 fun x25 =>
ldK 1 false x25 h23 fun x26 =>
callK (T 34) [x26, (.s (.int .i64 1)), (.s (.int .i64 12))] h23 fun x27 h28 =>
notK x27 fun x29 =>
k24 x29 h28) fun x30 h31 =>
grpK false x30 h31 (fun k32 =>
faK 3 x7 fun x33 =>
ldK 1 false x33 h31 fun x34 =>
callK (T 34) [x34, (.s (.int .i64 0)), (.s (.int .i64 10000))] h31 fun x35 h36 =>
notK x35 fun x37 =>
k32 x37 h36) fun x38 h39 =>
condK x38 (
xr v11 (.s (.int .i64 2)) h39) (
arithK .gtr v11 (.s (.int .i64 0)) fun x40 =>
grpK true x40 h39 (fun k41 =>
arithK .sub v11 (.s (.int .i64 1)) fun x42 =>
iaK 4 v0 x42 fun x43 =>
ldK 4 true x43 h39 fun x44 =>
ldK 4 true x7 h39 fun x45 =>
callK (T 43) [x44, x45] h39 fun x46 h47 =>
notK x46 fun x48 =>
k41 x48 h47) fun x49 h50 =>
condK x49 (
xr v11 (.s (.int .i64 5)) h50) (
arithK .add v11 (.s (.int .i64 1)) fun x51 =>
xn v0 v9 v10 x51 h50))) (
x0 h)
def f_season_Check_L2 (P : Program) (T : Tab) (D : DTab) (N : Nat) {β : Type} (x0 : Hp → Option β) (xr : AV → AV → Hp → Option β) : Nat → AV → AV → AV → AV → Hp → Option β
  | 0 => fun _ _ _ _ _ => none
  | n + 1 => fun v0 v9 v10 v11 h => f_season_Check_b2 P T D N (f_season_Check_L2 P T D N x0 xr n) x0 xr v0 v9 v10 v11 h
/-- spile/season.Check -/
def f_season_Check (P : Program) (T : Tab) (D : DTab) (N : Nat) {β : Type} (K : AV → Hp → Option β) (a0 : AV) (h : Hp) : Option β :=
lenK a0 fun x1 =>
arithK .gtr x1 (.s (.int .i64 128)) fun x2 =>
condK x2 (
K (.tup [(.s (.int .i64 (-1))), (.s (.int .i64 8))]) h) (
lenK a0 fun x3 =>
f_season_Check_L2 P T D N (fun h => f_season_Check_j1 P T D N K h) (fun w53_2 w53_3 h => K (.tup [w53_2, w53_3]) h) N a0 a0 x3 (.s (.int .i64 0)) h)
theorem f_season_Check_j1_eq (P : Program) (T : Tab) (D : DTab) (N : Nat) {β : Type} (K : AV → Hp → Option β) (t : Tm) (h : Hp) : o_season_Check_j1 P T D N K t h = f_season_Check_j1 P T D N K h := by kernel_rfl
theorem f_season_Check_b2_eq (P : Program) (T : Tab) (D : DTab) (N : Nat) {β : Type} (xn : AV → AV → AV → AV → Hp → Option β) (x0 : Hp → Option β) (xr : AV → AV → Hp → Option β) (xd : Nat → St → Option β) (xq : St → Option β) (t : Tm) (h : Hp) : o_season_Check_L2 P T D N t h (fun (e : Ex) (s : St) => e.on (xn (s.1 0) (s.1 9) (s.1 10) (s.1 11) s.2) (fun i => (bif i == 0 then x0 s.2 else (xd i s))) (xr (s.1 2) (s.1 3) s.2)) = f_season_Check_b2 P T D N xn x0 xr (t 0) (t 9) (t 10) (t 11) h := by kernel_rfl
theorem f_season_Check_L2_eq (P : Program) (T : Tab) (D : DTab) (N : Nat) {β : Type} (A : Ex → St → Option β) (x0 : Hp → Option β) (xr : AV → AV → Hp → Option β) (q0 : ∀ s, A (.exit 0) s = x0 s.2) (qr : ∀ s, A .ret s = xr (s.1 2) (s.1 3) s.2) : ∀ (n : Nat) (s : St), iterK (fun s k => o_season_Check_L2 P T D N s.1 s.2 k) n s A = f_season_Check_L2 P T D N x0 xr n (s.1 0) (s.1 9) (s.1 10) (s.1 11) s.2 := by
  intro n
  induction n with
  | zero => intro s; rfl
  | succ n ih =>
    intro s
    have hk : (fun (e : Ex) (s' : St) => Ex.on e (iterK (fun s k => o_season_Check_L2 P T D N s.1 s.2 k) n s' A) (fun i => A (.exit i) s') (A .ret s')) = (fun (e : Ex) (s : St) => e.on ((f_season_Check_L2 P T D N x0 xr n) (s.1 0) (s.1 9) (s.1 10) (s.1 11) s.2) (fun i => (bif i == 0 then x0 s.2 else (A (.exit i) s))) (xr (s.1 2) (s.1 3) s.2)) := by
      funext e s'
      cases e with
      | normal => exact ih s'
      | ret => exact qr s'
      | exit i =>
        by_cases r0 : i = 0
        · subst r0; exact q0 s'
        simp only [Ex.on, beq_false_of_ne r0, cond_false]
    show o_season_Check_L2 P T D N s.1 s.2 (fun (e : Ex) (s' : St) => Ex.on e (iterK (fun s k => o_season_Check_L2 P T D N s.1 s.2 k) n s' A) (fun i => A (.exit i) s') (A .ret s')) = _
    rw [hk]
    exact f_season_Check_b2_eq P T D N (f_season_Check_L2 P T D N x0 xr n) x0 xr (fun i s => A (.exit i) s) (fun s => A .ret s) s.1 s.2
theorem f_season_Check_old_eq (P : Program) (T : Tab) (D : DTab) (N : Nat) {β : Type} (K : AV → Hp → Option β) (a0 : AV) (h : Hp) : o_season_Check P T D N K a0 h = f_season_Check P T D N K a0 h := by
  have eL2 : (fun s : St => iterK (fun s k => o_season_Check_L2 P T D N s.1 s.2 k) N s (o_season_Check_aL2 P T D N K)) = (fun s : St => f_season_Check_L2 P T D N (fun h => f_season_Check_j1 P T D N K h) (fun w53_2 w53_3 h => K (.tup [w53_2, w53_3]) h) N (s.1 0) (s.1 9) (s.1 10) (s.1 11) s.2) := funext fun s => f_season_Check_L2_eq P T D N (o_season_Check_aL2 P T D N K) (fun h => f_season_Check_j1 P T D N K h) (fun w53_2 w53_3 h => K (.tup [w53_2, w53_3]) h) (fun s => rfl) (fun s => rfl) N s
  show o_season_Check_G P T D N (fun s => iterK (fun s k => o_season_Check_L2 P T D N s.1 s.2 k) N s (o_season_Check_aL2 P T D N K)) K a0 h = _
  rw [eL2]
  kernel_rfl
theorem o_season_Check_run (T : Tab) (D : DTab) (N : Nat) {β : Type} (K : AV → Hp → Option β) (a0 : AV) (h : Hp) : runK Try.prog T D N [0, 2, 3, 4, 5, 8, 9, 10, 11, 12, 16, 40] Try.f19 K [a0] h = o_season_Check Try.prog T D N K a0 h := by kernel_rfl
theorem f_season_Check_run (T : Tab) (D : DTab) (N : Nat) {β : Type} (K : AV → Hp → Option β) (a0 : AV) (h : Hp) : runK Try.prog T D N [0, 2, 3, 4, 5, 8, 9, 10, 11, 12, 16, 40] Try.f19 K [a0] h = f_season_Check Try.prog T D N K a0 h := (o_season_Check_run T D N K a0 h).trans (f_season_Check_old_eq Try.prog T D N K a0 h)
def o_ref31_Check_j1 (P : Program) (T : Tab) (D : DTab) (N : Nat) {β : Type} (K : AV → Hp → Option β) (t : Tm) (h : Hp) : Option β :=
K (.tup [(.s (.int .i64 (-1))), (.s (.int .i64 0))]) h
def o_ref31_Check_L2 (P : Program) (T : Tab) (D : DTab) (N : Nat) {β : Type} (t : Tm) (h : Hp) (k : Ex → St → Option β) : Option β :=
lenK (t 0) fun x3 =>
arithK .lss (t 4) x3 fun x4 =>
condK x4 (
iaK 4 (t 0) (t 4) fun x5 =>
ldK 4 true x5 h fun x6 =>
effK (boxE 4 (.agg [.s (.int .i64 0), .s (.int .i64 0), .s (.int .i64 0), .s (.int .i64 0)]) (List.length h)) h fun x7 h8 =>
effK (stE 4 x7 x6 h8) h8 fun x9 h10 =>
faK 0 x7 fun x11 =>
ldK 1 false x11 h10 fun x12 =>
arithK .lss x12 (.s (.int .i64 0)) fun x13 =>
grpK false x13 h10 (fun k14 =>
faK 0 x7 fun x15 =>
ldK 1 false x15 h10 fun x16 =>
arithK .gtr x16 (.s (.int .i64 100000)) fun x17 =>
k14 x17 h10) fun x18 h19 =>
grpK false x18 h19 (fun k20 =>
faK 1 x7 fun x21 =>
ldK 1 false x21 h19 fun x22 =>
callK (T 37) [x22] h19 fun x23 h24 =>
notK x23 fun x25 =>
k20 x25 h24) fun x26 h27 =>
grpK false x26 h27 (fun k28 =>
faK 2 x7 fun x29 =>
ldK 1 false x29 h27 fun x30 =>
arithK .lss x30 (.s (.int .i64 1)) fun x31 =>
k28 x31 h27) fun x32 h33 =>
grpK false x32 h33 (fun k34 =>
faK 2 x7 fun x35 =>
ldK 1 false x35 h33 fun x36 =>
arithK .gtr x36 (.s (.int .i64 12)) fun x37 =>
k34 x37 h33) fun x38 h39 =>
grpK false x38 h39 (fun k40 =>
faK 3 x7 fun x41 =>
ldK 1 false x41 h39 fun x42 =>
arithK .lss x42 (.s (.int .i64 0)) fun x43 =>
k40 x43 h39) fun x44 h45 =>
grpK false x44 h45 (fun k46 =>
faK 3 x7 fun x47 =>
ldK 1 false x47 h45 fun x48 =>
arithK .gtr x48 (.s (.int .i64 10000)) fun x49 =>
k46 x49 h45) fun x50 h51 =>
condK x50 (
k .ret ((upd (upd (upd (upd (upd t 12 x4) 5 x7) 52 x50) 2 (t 4)) 3 (.s (.int .i64 2))), h51)) (
arithK .gtr (t 4) (.s (.int .i64 0)) fun x52 =>
grpK true x52 h51 (fun k53 =>
ldK 4 true x7 h51 fun x54 =>
arithK .sub (t 4) (.s (.int .i64 1)) fun x55 =>
iaK 4 (t 0) x55 fun x56 =>
ldK 4 true x56 h51 fun x57 =>
callK (T 44) [x54, x57] h51 fun x58 h59 =>
notK x58 fun x60 =>
k53 x60 h59) fun x61 h62 =>
condK x61 (
k .ret ((upd (upd (upd (upd (upd (upd t 12 x4) 5 x7) 52 x50) 65 x61) 2 (t 4)) 3 (.s (.int .i64 5))), h62)) (
arithK .add (t 4) (.s (.int .i64 1)) fun x63 =>
k .normal ((upd (upd (upd (upd (upd t 12 x4) 5 x7) 52 x50) 65 x61) 4 x63), h62)))) (
k (.exit 0) ((upd t 12 x4), h))
def o_ref31_Check_aL2 (P : Program) (T : Tab) (D : DTab) (N : Nat) {β : Type} (K : AV → Hp → Option β) (e : Ex) (s : St) : Option β :=
  e.on ((o_ref31_Check_j1 P T D N K s.1 s.2))
  (fun i => bif i == 0 then ((o_ref31_Check_j1 P T D N K s.1 s.2)) else (none))
  (K (.tup [(s.1 2), (s.1 3)]) s.2)
def o_ref31_Check_G (P : Program) (T : Tab) (D : DTab) (N : Nat) {β : Type} (cL2 : St → Option β) (K : AV → Hp → Option β) (a0 : AV) (h : Hp) :  Option β :=
lenK a0 fun x1 =>
arithK .gtr x1 (.s (.int .i64 128)) fun x2 =>
condK x2 (
K (.tup [(.s (.int .i64 (-1))), (.s (.int .i64 8))]) h) (
cL2 ((upd (upd (upd (upd (tm0 [a0]) 2 (.s (.int .i64 0))) 3 (.s (.int .i64 0))) 8 x2) 4 (.s (.int .i64 0))), h))
def o_ref31_Check (P : Program) (T : Tab) (D : DTab) (N : Nat) {β : Type} (K : AV → Hp → Option β) (a0 : AV) (h : Hp) : Option β := o_ref31_Check_G P T D N (fun s => iterK (fun s k => o_ref31_Check_L2 P T D N s.1 s.2 k) N s (o_ref31_Check_aL2 P T D N K)) K a0 h
def f_ref31_Check_j1 (P : Program) (T : Tab) (D : DTab) (N : Nat) {β : Type} (K : AV → Hp → Option β) (h : Hp) : Option β :=
K (.tup [(.s (.int .i64 (-1))), (.s (.int .i64 0))]) h
def f_ref31_Check_b2 (P : Program) (T : Tab) (D : DTab) (N : Nat) {β : Type} (xn : AV → AV → Hp → Option β) (x0 : Hp → Option β) (xr : AV → AV → Hp → Option β) (v0 : AV) (v4 : AV) (h : Hp) : Option β :=
lenK v0 fun x3 =>
arithK .lss v4 x3 fun x4 =>
condK x4 (
iaK 4 v0 v4 fun x5 =>
ldK 4 true x5 h fun x6 =>
effK (boxE 4 (.agg [.s (.int .i64 0), .s (.int .i64 0), .s (.int .i64 0), .s (.int .i64 0)]) (List.length h)) h fun x7 h8 =>
effK (stE 4 x7 x6 h8) h8 fun x9 h10 =>
faK 0 x7 fun x11 =>
ldK 1 false x11 h10 fun x12 =>
arithK .lss x12 (.s (.int .i64 0)) fun x13 =>
grpK false x13 h10 (fun k14 =>
faK 0 x7 fun x15 =>
ldK 1 false x15 h10 fun x16 =>
arithK .gtr x16 (.s (.int .i64 100000)) fun x17 =>
k14 x17 h10) fun x18 h19 =>
grpK false x18 h19 (fun k20 =>
faK 1 x7 fun x21 =>
ldK 1 false x21 h19 fun x22 =>
callK (T 37) [x22] h19 fun x23 h24 =>
notK x23 fun x25 =>
k20 x25 h24) fun x26 h27 =>
grpK false x26 h27 (fun k28 =>
faK 2 x7 fun x29 =>
ldK 1 false x29 h27 fun x30 =>
arithK .lss x30 (.s (.int .i64 1)) fun x31 =>
k28 x31 h27) fun x32 h33 =>
grpK false x32 h33 (fun k34 =>
faK 2 x7 fun x35 =>
ldK 1 false x35 h33 fun x36 =>
arithK .gtr x36 (.s (.int .i64 12)) fun x37 =>
k34 x37 h33) fun x38 h39 =>
grpK false x38 h39 (fun k40 =>
faK 3 x7 fun x41 =>
ldK 1 false x41 h39 fun x42 =>
arithK .lss x42 (.s (.int .i64 0)) fun x43 =>
k40 x43 h39) fun x44 h45 =>
grpK false x44 h45 (fun k46 =>
faK 3 x7 fun x47 =>
ldK 1 false x47 h45 fun x48 =>
arithK .gtr x48 (.s (.int .i64 10000)) fun x49 =>
k46 x49 h45) fun x50 h51 =>
condK x50 (
xr v4 (.s (.int .i64 2)) h51) (
arithK .gtr v4 (.s (.int .i64 0)) fun x52 =>
grpK true x52 h51 (fun k53 =>
ldK 4 true x7 h51 fun x54 =>
arithK .sub v4 (.s (.int .i64 1)) fun x55 =>
iaK 4 v0 x55 fun x56 =>
ldK 4 true x56 h51 fun x57 =>
callK (T 44) [x54, x57] h51 fun x58 h59 =>
notK x58 fun x60 =>
k53 x60 h59) fun x61 h62 =>
condK x61 (
xr v4 (.s (.int .i64 5)) h62) (
arithK .add v4 (.s (.int .i64 1)) fun x63 =>
xn v0 x63 h62))) (
x0 h)
def f_ref31_Check_L2 (P : Program) (T : Tab) (D : DTab) (N : Nat) {β : Type} (x0 : Hp → Option β) (xr : AV → AV → Hp → Option β) : Nat → AV → AV → Hp → Option β
  | 0 => fun _ _ _ => none
  | n + 1 => fun v0 v4 h => f_ref31_Check_b2 P T D N (f_ref31_Check_L2 P T D N x0 xr n) x0 xr v0 v4 h
/-- spile/spileref31.Check -/
def f_ref31_Check (P : Program) (T : Tab) (D : DTab) (N : Nat) {β : Type} (K : AV → Hp → Option β) (a0 : AV) (h : Hp) : Option β :=
lenK a0 fun x1 =>
arithK .gtr x1 (.s (.int .i64 128)) fun x2 =>
condK x2 (
K (.tup [(.s (.int .i64 (-1))), (.s (.int .i64 8))]) h) (
f_ref31_Check_L2 P T D N (fun h => f_ref31_Check_j1 P T D N K h) (fun w65_2 w65_3 h => K (.tup [w65_2, w65_3]) h) N a0 (.s (.int .i64 0)) h)
theorem f_ref31_Check_j1_eq (P : Program) (T : Tab) (D : DTab) (N : Nat) {β : Type} (K : AV → Hp → Option β) (t : Tm) (h : Hp) : o_ref31_Check_j1 P T D N K t h = f_ref31_Check_j1 P T D N K h := by kernel_rfl
theorem f_ref31_Check_b2_eq (P : Program) (T : Tab) (D : DTab) (N : Nat) {β : Type} (xn : AV → AV → Hp → Option β) (x0 : Hp → Option β) (xr : AV → AV → Hp → Option β) (xd : Nat → St → Option β) (xq : St → Option β) (t : Tm) (h : Hp) : o_ref31_Check_L2 P T D N t h (fun (e : Ex) (s : St) => e.on (xn (s.1 0) (s.1 4) s.2) (fun i => (bif i == 0 then x0 s.2 else (xd i s))) (xr (s.1 2) (s.1 3) s.2)) = f_ref31_Check_b2 P T D N xn x0 xr (t 0) (t 4) h := by kernel_rfl
theorem f_ref31_Check_L2_eq (P : Program) (T : Tab) (D : DTab) (N : Nat) {β : Type} (A : Ex → St → Option β) (x0 : Hp → Option β) (xr : AV → AV → Hp → Option β) (q0 : ∀ s, A (.exit 0) s = x0 s.2) (qr : ∀ s, A .ret s = xr (s.1 2) (s.1 3) s.2) : ∀ (n : Nat) (s : St), iterK (fun s k => o_ref31_Check_L2 P T D N s.1 s.2 k) n s A = f_ref31_Check_L2 P T D N x0 xr n (s.1 0) (s.1 4) s.2 := by
  intro n
  induction n with
  | zero => intro s; rfl
  | succ n ih =>
    intro s
    have hk : (fun (e : Ex) (s' : St) => Ex.on e (iterK (fun s k => o_ref31_Check_L2 P T D N s.1 s.2 k) n s' A) (fun i => A (.exit i) s') (A .ret s')) = (fun (e : Ex) (s : St) => e.on ((f_ref31_Check_L2 P T D N x0 xr n) (s.1 0) (s.1 4) s.2) (fun i => (bif i == 0 then x0 s.2 else (A (.exit i) s))) (xr (s.1 2) (s.1 3) s.2)) := by
      funext e s'
      cases e with
      | normal => exact ih s'
      | ret => exact qr s'
      | exit i =>
        by_cases r0 : i = 0
        · subst r0; exact q0 s'
        simp only [Ex.on, beq_false_of_ne r0, cond_false]
    show o_ref31_Check_L2 P T D N s.1 s.2 (fun (e : Ex) (s' : St) => Ex.on e (iterK (fun s k => o_ref31_Check_L2 P T D N s.1 s.2 k) n s' A) (fun i => A (.exit i) s') (A .ret s')) = _
    rw [hk]
    exact f_ref31_Check_b2_eq P T D N (f_ref31_Check_L2 P T D N x0 xr n) x0 xr (fun i s => A (.exit i) s) (fun s => A .ret s) s.1 s.2
theorem f_ref31_Check_old_eq (P : Program) (T : Tab) (D : DTab) (N : Nat) {β : Type} (K : AV → Hp → Option β) (a0 : AV) (h : Hp) : o_ref31_Check P T D N K a0 h = f_ref31_Check P T D N K a0 h := by
  have eL2 : (fun s : St => iterK (fun s k => o_ref31_Check_L2 P T D N s.1 s.2 k) N s (o_ref31_Check_aL2 P T D N K)) = (fun s : St => f_ref31_Check_L2 P T D N (fun h => f_ref31_Check_j1 P T D N K h) (fun w65_2 w65_3 h => K (.tup [w65_2, w65_3]) h) N (s.1 0) (s.1 4) s.2) := funext fun s => f_ref31_Check_L2_eq P T D N (o_ref31_Check_aL2 P T D N K) (fun h => f_ref31_Check_j1 P T D N K h) (fun w65_2 w65_3 h => K (.tup [w65_2, w65_3]) h) (fun s => rfl) (fun s => rfl) N s
  show o_ref31_Check_G P T D N (fun s => iterK (fun s k => o_ref31_Check_L2 P T D N s.1 s.2 k) N s (o_ref31_Check_aL2 P T D N K)) K a0 h = _
  rw [eL2]
  kernel_rfl
theorem o_ref31_Check_run (T : Tab) (D : DTab) (N : Nat) {β : Type} (K : AV → Hp → Option β) (a0 : AV) (h : Hp) : runK Try.prog T D N [0, 2, 3, 4, 5, 8, 12, 52, 65] Try.f20 K [a0] h = o_ref31_Check Try.prog T D N K a0 h := by kernel_rfl
theorem f_ref31_Check_run (T : Tab) (D : DTab) (N : Nat) {β : Type} (K : AV → Hp → Option β) (a0 : AV) (h : Hp) : runK Try.prog T D N [0, 2, 3, 4, 5, 8, 12, 52, 65] Try.f20 K [a0] h = f_ref31_Check Try.prog T D N K a0 h := (o_ref31_Check_run T D N K a0 h).trans (f_ref31_Check_old_eq Try.prog T D N K a0 h)
/-- spile/season.Version -/
def f_season_Version (P : Program) (T : Tab) (D : DTab) (N : Nat) {β : Type} (K : AV → Hp → Option β) (a0 : AV) (a1 : AV) (h : Hp) : Option β :=
callK (T 33) [a0] h fun x1 h2 =>
notK x1 fun x3 =>
condK x3 (
K (.tup [(.s (.int .i64 0)), (.s (.int .i64 1))]) h2) (
callK (T 34) [a1, (.s (.int .i64 0)), (.s (.int .i64 100000))] h2 fun x4 h5 =>
notK x4 fun x6 =>
condK x6 (
K (.tup [(.s (.int .i64 0)), (.s (.int .i64 2))]) h5) (
callK (T 45) [a0, a1] h5 fun x7 h8 =>
exK x7 0 fun x9 =>
exK x7 1 fun x10 =>
notK x10 fun x11 =>
condK x11 (
K (.tup [(.s (.int .i64 0)), (.s (.int .i64 7))]) h8) (
K (.tup [x9, (.s (.int .i64 0))]) h8)))
theorem f_season_Version_run (T : Tab) (D : DTab) (N : Nat) {β : Type} (K : AV → Hp → Option β) (a0 : AV) (a1 : AV) (h : Hp) : runK Try.prog T D N [0, 1, 4, 5, 6, 7, 8, 12, 23] Try.f21 K [a0, a1] h = f_season_Version Try.prog T D N K a0 a1 h := by kernel_rfl
/-- spile/spileref31.VersionChecked -/
def f_ref31_VersionChecked (P : Program) (T : Tab) (D : DTab) (N : Nat) {β : Type} (K : AV → Hp → Option β) (a0 : AV) (a1 : AV) (h : Hp) : Option β :=
callK (T 36) [a0] h fun x1 h2 =>
notK x1 fun x3 =>
condK x3 (
K (.tup [(.s (.int .i64 0)), (.s (.int .i64 1))]) h2) (
callK (T 38) [a1] h2 fun x4 h5 =>
notK x4 fun x6 =>
condK x6 (
K (.tup [(.s (.int .i64 0)), (.s (.int .i64 2))]) h5) (
callK (T 46) [a0, a1] h5 fun x7 h8 =>
arithK .lss x7 (.s (.int .i64 0)) fun x9 =>
condK x9 (
K (.tup [(.s (.int .i64 0)), (.s (.int .i64 7))]) h8) (
K (.tup [x7, (.s (.int .i64 0))]) h8)))
theorem f_ref31_VersionChecked_run (T : Tab) (D : DTab) (N : Nat) {β : Type} (K : AV → Hp → Option β) (a0 : AV) (a1 : AV) (h : Hp) : runK Try.prog T D N [0, 1, 4, 5, 6, 9, 12, 17] Try.f22 K [a0, a1] h = f_ref31_VersionChecked Try.prog T D N K a0 a1 h := by kernel_rfl
/-- spile/spileref31.Rate -/
def f_ref31_Rate (P : Program) (T : Tab) (D : DTab) (N : Nat) {β : Type} (K : AV → Hp → Option β) (a0 : AV) (a1 : AV) (a2 : AV) (h : Hp) : Option β :=
callK (T 36) [a0] h fun x1 h2 =>
notK x1 fun x3 =>
condK x3 (
K (.tup [(.s (.int .i64 0)), (.s (.int .i64 1))]) h2) (
callK (T 37) [a1] h2 fun x4 h5 =>
notK x4 fun x6 =>
grpK false x6 h5 (fun k7 =>
callK (T 38) [a2] h5 fun x8 h9 =>
notK x8 fun x10 =>
k7 x10 h9) fun x11 h12 =>
condK x11 (
K (.tup [(.s (.int .i64 0)), (.s (.int .i64 2))]) h12) (
callK (T 39) [a0, a1, a2] h12 fun x13 h14 =>
K (.tup [x13, (.s (.int .i64 0))]) h14))
theorem f_ref31_Rate_run (T : Tab) (D : DTab) (N : Nat) {β : Type} (K : AV → Hp → Option β) (a0 : AV) (a1 : AV) (a2 : AV) (h : Hp) : runK Try.prog T D N [0, 1, 2, 6, 7, 10, 18] Try.f23 K [a0, a1, a2] h = f_ref31_Rate Try.prog T D N K a0 a1 a2 h := by kernel_rfl
/-- slices.ContainsFunc[[]spile/api.Allowance,spile/api.Allowance] -/
def f_slices_ContainsFunc_Allowance (P : Program) (T : Tab) (D : DTab) (N : Nat) {β : Type} (K : AV → Hp → Option β) (a0 : AV) (a1 : AV) (h : Hp) : Option β :=
callK (T 47) [a0, a1] h fun x1 h2 =>
arithK .geq x1 (.s (.int .i64 0)) fun x3 =>
K x3 h2
theorem f_slices_ContainsFunc_Allowance_run (T : Tab) (D : DTab) (N : Nat) {β : Type} (K : AV → Hp → Option β) (a0 : AV) (a1 : AV) (h : Hp) : runK Try.prog T D N [0, 1, 4] Try.f24 K [a0, a1] h = f_slices_ContainsFunc_Allowance Try.prog T D N K a0 a1 h := by kernel_rfl
/-- spile/spilelaw31.SeasonFound$1 -/
def f_law31_SeasonFound_1 (P : Program) (T : Tab) (D : DTab) (N : Nat) {β : Type} (K : AV → Hp → Option β) (a0 : AV) (a1 : AV) (h : Hp) : Option β :=
effK (boxE 4 a0 (List.length h)) h fun x1 h2 =>
faK 0 x1 fun x3 =>
ldK 1 false x3 h2 fun x4 =>
ldK 1 false a1 h2 fun x5 =>
arithK .leq x4 x5 fun x6 =>
K x6 h2
theorem f_law31_SeasonFound_1_run (T : Tab) (D : DTab) (N : Nat) {β : Type} (K : AV → Hp → Option β) (a0 : AV) (a1 : AV) (h : Hp) : runK Try.prog T D N [0, 1, 2, 3] Try.f25 K [a0, a1] h = f_law31_SeasonFound_1 Try.prog T D N K a0 a1 h := by kernel_rfl
/-- spile/spilelaw31.SeasonFound$2 -/
def f_law31_SeasonFound_2 (P : Program) (T : Tab) (D : DTab) (N : Nat) {β : Type} (K : AV → Hp → Option β) (a0 : AV) (a1 : AV) (h : Hp) : Option β :=
effK (boxE 4 a0 (List.length h)) h fun x1 h2 =>
faK 0 x1 fun x3 =>
ldK 1 false x3 h2 fun x4 =>
ldK 1 false a1 h2 fun x5 =>
eqK P false 3 x4 x5 h2 fun x6 =>
K x6 h2
theorem f_law31_SeasonFound_2_run (T : Tab) (D : DTab) (N : Nat) {β : Type} (K : AV → Hp → Option β) (a0 : AV) (a1 : AV) (h : Hp) : runK Try.prog T D N [0, 1, 2, 3] Try.f26 K [a0, a1] h = f_law31_SeasonFound_2 Try.prog T D N K a0 a1 h := by kernel_rfl
/-- spile/spilelaw31.SeasonFound$3 -/
def f_law31_SeasonFound_3 (P : Program) (T : Tab) (D : DTab) (N : Nat) {β : Type} (K : AV → Hp → Option β) (a0 : AV) (a1 : AV) (a2 : AV) (h : Hp) : Option β :=
effK (boxE 4 a0 (List.length h)) h fun x1 h2 =>
faK 0 x1 fun x3 =>
ldK 1 false x3 h2 fun x4 =>
ldK 1 false a1 h2 fun x5 =>
arithK .gtr x4 x5 fun x6 =>
grpK true x6 h2 (fun k7 =>
faK 0 x1 fun x8 =>
ldK 1 false x8 h2 fun x9 =>
ldK 1 false a2 h2 fun x10 =>
arithK .leq x9 x10 fun x11 =>
k7 x11 h2) fun x12 h13 =>
K x12 h13
theorem f_law31_SeasonFound_3_run (T : Tab) (D : DTab) (N : Nat) {β : Type} (K : AV → Hp → Option β) (a0 : AV) (a1 : AV) (a2 : AV) (h : Hp) : runK Try.prog T D N [0, 1, 2, 3, 4] Try.f27 K [a0, a1, a2] h = f_law31_SeasonFound_3 Try.prog T D N K a0 a1 a2 h := by kernel_rfl
/-- spile/spilelaw31.SeasonFound$4 -/
def f_law31_SeasonFound_4 (P : Program) (T : Tab) (D : DTab) (N : Nat) {β : Type} (K : AV → Hp → Option β) (a0 : AV) (a1 : AV) (a2 : AV) (a3 : AV) (h : Hp) : Option β :=
effK (boxE 4 a0 (List.length h)) h fun x1 h2 =>
faK 0 x1 fun x3 =>
ldK 1 false x3 h2 fun x4 =>
ldK 1 false a1 h2 fun x5 =>
eqK P false 3 x4 x5 h2 fun x6 =>
grpK true x6 h2 (fun k7 =>
faK 1 x1 fun x8 =>
ldK 1 false x8 h2 fun x9 =>
ldK 1 false a2 h2 fun x10 =>
eqK P false 3 x9 x10 h2 fun x11 =>
k7 x11 h2) fun x12 h13 =>
grpK true x12 h13 (fun k14 =>
faK 3 x1 fun x15 =>
ldK 1 false x15 h13 fun x16 =>
ldK 1 false a3 h13 fun x17 =>
eqK P false 3 x16 x17 h13 fun x18 =>
k14 x18 h13) fun x19 h20 =>
K x19 h20
theorem f_law31_SeasonFound_4_run (T : Tab) (D : DTab) (N : Nat) {β : Type} (K : AV → Hp → Option β) (a0 : AV) (a1 : AV) (a2 : AV) (a3 : AV) (h : Hp) : runK Try.prog T D N [0, 1, 2, 3, 4, 5] Try.f28 K [a0, a1, a2, a3] h = f_law31_SeasonFound_4 Try.prog T D N K a0 a1 a2 a3 h := by kernel_rfl
/-- spile/season.Add -/
def f_season_Add (P : Program) (T : Tab) (D : DTab) (N : Nat) {β : Type} (K : AV → Hp → Option β) (a0 : AV) (a1 : AV) (h : Hp) : Option β :=
callK (T 33) [a0] h fun x1 h2 =>
notK x1 fun x3 =>
grpK false x3 h2 (fun k4 =>
callK (T 33) [a1] h2 fun x5 h6 =>
notK x5 fun x7 =>
k4 x7 h6) fun x8 h9 =>
condK x8 (
K (.tup [(.s (.slice none 0 0)), (.s (.int .i64 1))]) h9) (
lenK a1 fun x10 =>
eqK P false 3 x10 (.s (.int .i64 0)) h9 fun x11 =>
condK x11 (
K (.tup [(.s (.slice none 0 0)), (.s (.int .i64 9))]) h9) (
lenK a1 fun x12 =>
arithK .sub x12 (.s (.int .i64 1)) fun x13 =>
iaK 4 a1 x13 fun x14 =>
faK 0 x14 fun x15 =>
ldK 1 false x15 h9 fun x16 =>
iaK 4 a1 (.s (.int .i64 0)) fun x17 =>
faK 0 x17 fun x18 =>
ldK 1 false x18 h9 fun x19 =>
eqK P true 3 x16 x19 h9 fun x20 =>
condK x20 (
K (.tup [(.s (.slice none 0 0)), (.s (.int .i64 10))]) h9) (
lenK a0 fun x21 =>
arithK .gtr x21 (.s (.int .i64 0)) fun x22 =>
grpK true x22 h9 (fun k23 =>
iaK 4 a1 (.s (.int .i64 0)) fun x24 =>
faK 0 x24 fun x25 =>
ldK 1 false x25 h9 fun x26 =>
lenK a0 fun x27 =>
arithK .sub x27 (.s (.int .i64 1)) fun x28 =>
iaK 4 a0 x28 fun x29 =>
faK 0 x29 fun x30 =>
ldK 1 false x30 h9 fun x31 =>
arithK .leq x26 x31 fun x32 =>
k23 x32 h9) fun x33 h34 =>
condK x33 (
K (.tup [(.s (.slice none 0 0)), (.s (.int .i64 5))]) h34) (
lenK a0 fun x35 =>
lenK a1 fun x36 =>
arithK .add x35 x36 fun x37 =>
arithK .gtr x37 (.s (.int .i64 128)) fun x38 =>
condK x38 (
K (.tup [(.s (.slice none 0 0)), (.s (.int .i64 8))]) h34) (
effK (bsE 1 [.s (.slice none 0 0)] 2 [(0, a0), (1, a1)] (List.length h34)) h34 fun x39 h40 =>
callK (T 48) [x39] h40 fun x41 h42 =>
K (.tup [x41, (.s (.int .i64 0))]) h42)))))
theorem f_season_Add_run (T : Tab) (D : DTab) (N : Nat) {β : Type} (K : AV → Hp → Option β) (a0 : AV) (a1 : AV) (h : Hp) : runK Try.prog T D N [0, 1, 4, 5, 6, 15, 19, 32, 50] Try.f29 K [a0, a1] h = f_season_Add Try.prog T D N K a0 a1 h := by kernel_rfl
def o_ref31_Add_j2 (P : Program) (T : Tab) (D : DTab) (N : Nat) {β : Type} (K : AV → Hp → Option β) (t : Tm) (h : Hp) : Option β :=
lenK (t 0) fun x12 =>
lenK (t 1) fun x13 =>
arithK .add x12 x13 fun x14 =>
arithK .gtr x14 (.s (.int .i64 128)) fun x15 =>
condK x15 (
K (.tup [(.s (.slice none 0 0)), (.s (.int .i64 8))]) h) (
effK (bsE 4 [.s (.int .i64 0), .s (.int .i64 0), .s (.int .i64 0), .s (.int .i64 0)] 0 [] (List.length h)) h fun x16 h17 =>
effK (appE 4 32 x16 (t 0) h17 (List.length h17)) h17 fun x18 h19 =>
effK (appE 4 32 x18 (t 1) h19 (List.length h19)) h19 fun x20 h21 =>
K (.tup [x20, (.s (.int .i64 0))]) h21)
def o_ref31_Add_L3 (P : Program) (T : Tab) (D : DTab) (N : Nat) {β : Type} (t : Tm) (h : Hp) (k : Ex → St → Option β) : Option β :=
lenK (t 0) fun x22 =>
arithK .lss (t 7) x22 fun x23 =>
condK x23 (
iaK 4 (t 0) (t 7) fun x24 =>
faK 0 x24 fun x25 =>
ldK 1 false x25 h fun x26 =>
iaK 4 (t 1) (.s (.int .i64 0)) fun x27 =>
faK 0 x27 fun x28 =>
ldK 1 false x28 h fun x29 =>
arithK .geq x26 x29 fun x30 =>
condK x30 (
k .ret ((upd (upd (upd (upd t 38 x23) 50 x30) 4 (.s (.slice none 0 0))) 5 (.s (.int .i64 5))), h)) (
arithK .add (t 7) (.s (.int .i64 1)) fun x31 =>
k .normal ((upd (upd (upd t 38 x23) 50 x30) 7 x31), h))) (
k (.exit 2) ((upd t 38 x23), h))
def o_ref31_Add_aL3 (P : Program) (T : Tab) (D : DTab) (N : Nat) {β : Type} (K : AV → Hp → Option β) (e : Ex) (s : St) : Option β :=
  e.on ((o_ref31_Add_j2 P T D N K s.1 s.2))
  (fun i => bif i == 2 then ((o_ref31_Add_j2 P T D N K s.1 s.2)) else (none))
  (K (.tup [(s.1 4), (s.1 5)]) s.2)
def o_ref31_Add_j1_G (P : Program) (T : Tab) (D : DTab) (N : Nat) {β : Type} (cL3 : St → Option β) (K : AV → Hp → Option β) (t : Tm) (h : Hp) :  Option β :=
cL3 ((upd t 7 (.s (.int .i64 0))), h)
def o_ref31_Add_j1 (P : Program) (T : Tab) (D : DTab) (N : Nat) {β : Type} (K : AV → Hp → Option β) (t : Tm) (h : Hp) : Option β := o_ref31_Add_j1_G P T D N (fun s => iterK (fun s k => o_ref31_Add_L3 P T D N s.1 s.2 k) N s (o_ref31_Add_aL3 P T D N K)) K t h
def o_ref31_Add_L4 (P : Program) (T : Tab) (D : DTab) (N : Nat) {β : Type} (t : Tm) (h : Hp) (k : Ex → St → Option β) : Option β :=
lenK (t 1) fun x32 =>
arithK .lss (t 6) x32 fun x33 =>
condK x33 (
iaK 4 (t 1) (t 6) fun x34 =>
faK 0 x34 fun x35 =>
ldK 1 false x35 h fun x36 =>
iaK 4 (t 1) (.s (.int .i64 0)) fun x37 =>
faK 0 x37 fun x38 =>
ldK 1 false x38 h fun x39 =>
eqK P true 3 x36 x39 h fun x40 =>
condK x40 (
k .ret ((upd (upd (upd (upd t 22 x33) 34 x40) 4 (.s (.slice none 0 0))) 5 (.s (.int .i64 10))), h)) (
arithK .add (t 6) (.s (.int .i64 1)) fun x41 =>
k .normal ((upd (upd (upd t 22 x33) 34 x40) 6 x41), h))) (
k (.exit 0) ((upd t 22 x33), h))
def o_ref31_Add_aL4 (P : Program) (T : Tab) (D : DTab) (N : Nat) {β : Type} (K : AV → Hp → Option β) (e : Ex) (s : St) : Option β :=
  e.on ((o_ref31_Add_j1 P T D N K s.1 s.2))
  (fun i => bif i == 0 then ((o_ref31_Add_j1 P T D N K s.1 s.2)) else (none))
  (K (.tup [(s.1 4), (s.1 5)]) s.2)
def o_ref31_Add_G (P : Program) (T : Tab) (D : DTab) (N : Nat) {β : Type} (cL4 : St → Option β) (K : AV → Hp → Option β) (a0 : AV) (a1 : AV) (h : Hp) :  Option β :=
callK (T 36) [a0] h fun x1 h2 =>
notK x1 fun x3 =>
grpK false x3 h2 (fun k4 =>
callK (T 36) [a1] h2 fun x5 h6 =>
notK x5 fun x7 =>
k4 x7 h6) fun x8 h9 =>
condK x8 (
K (.tup [(.s (.slice none 0 0)), (.s (.int .i64 1))]) h9) (
lenK a1 fun x10 =>
eqK P false 3 x10 (.s (.int .i64 0)) h9 fun x11 =>
condK x11 (
K (.tup [(.s (.slice none 0 0)), (.s (.int .i64 9))]) h9) (
cL4 ((upd (upd (upd (upd (upd (tm0 [a0, a1]) 4 (.s (.slice none 0 0))) 5 (.s (.int .i64 0))) 15 x8) 18 x11) 6 (.s (.int .i64 0))), h9)))
def o_ref31_Add (P : Program) (T : Tab) (D : DTab) (N : Nat) {β : Type} (K : AV → Hp → Option β) (a0 : AV) (a1 : AV) (h : Hp) : Option β := o_ref31_Add_G P T D N (fun s => iterK (fun s k => o_ref31_Add_L4 P T D N s.1 s.2 k) N s (o_ref31_Add_aL4 P T D N K)) K a0 a1 h
def f_ref31_Add_j2 (P : Program) (T : Tab) (D : DTab) (N : Nat) {β : Type} (K : AV → Hp → Option β) (v0 : AV) (v1 : AV) (h : Hp) : Option β :=
lenK v0 fun x12 =>
lenK v1 fun x13 =>
arithK .add x12 x13 fun x14 =>
arithK .gtr x14 (.s (.int .i64 128)) fun x15 =>
condK x15 (
K (.tup [(.s (.slice none 0 0)), (.s (.int .i64 8))]) h) (
effK (bsE 4 [.s (.int .i64 0), .s (.int .i64 0), .s (.int .i64 0), .s (.int .i64 0)] 0 [] (List.length h)) h fun x16 h17 =>
effK (appE 4 32 x16 v0 h17 (List.length h17)) h17 fun x18 h19 =>
effK (appE 4 32 x18 v1 h19 (List.length h19)) h19 fun x20 h21 =>
K (.tup [x20, (.s (.int .i64 0))]) h21)
def f_ref31_Add_b3 (P : Program) (T : Tab) (D : DTab) (N : Nat) {β : Type} (xn : AV → AV → AV → Hp → Option β) (x2 : AV → AV → Hp → Option β) (xr : AV → AV → Hp → Option β) (v0 : AV) (v1 : AV) (v7 : AV) (h : Hp) : Option β :=
lenK v0 fun x22 =>
arithK .lss v7 x22 fun x23 =>
condK x23 (
iaK 4 v0 v7 fun x24 =>
faK 0 x24 fun x25 =>
ldK 1 false x25 h fun x26 =>
iaK 4 v1 (.s (.int .i64 0)) fun x27 =>
faK 0 x27 fun x28 =>
ldK 1 false x28 h fun x29 =>
arithK .geq x26 x29 fun x30 =>
condK x30 (
xr (.s (.slice none 0 0)) (.s (.int .i64 5)) h) (
arithK .add v7 (.s (.int .i64 1)) fun x31 =>
xn v0 v1 x31 h)) (
x2 v0 v1 h)
def f_ref31_Add_L3 (P : Program) (T : Tab) (D : DTab) (N : Nat) {β : Type} (x2 : AV → AV → Hp → Option β) (xr : AV → AV → Hp → Option β) : Nat → AV → AV → AV → Hp → Option β
  | 0 => fun _ _ _ _ => none
  | n + 1 => fun v0 v1 v7 h => f_ref31_Add_b3 P T D N (f_ref31_Add_L3 P T D N x2 xr n) x2 xr v0 v1 v7 h
def f_ref31_Add_j1 (P : Program) (T : Tab) (D : DTab) (N : Nat) {β : Type} (K : AV → Hp → Option β) (v0 : AV) (v1 : AV) (h : Hp) : Option β :=
f_ref31_Add_L3 P T D N (fun w32_0 w32_1 h => f_ref31_Add_j2 P T D N K w32_0 w32_1 h) (fun w33_4 w33_5 h => K (.tup [w33_4, w33_5]) h) N v0 v1 (.s (.int .i64 0)) h
def f_ref31_Add_b4 (P : Program) (T : Tab) (D : DTab) (N : Nat) {β : Type} (xn : AV → AV → AV → Hp → Option β) (x0 : AV → AV → Hp → Option β) (xr : AV → AV → Hp → Option β) (v0 : AV) (v1 : AV) (v6 : AV) (h : Hp) : Option β :=
lenK v1 fun x34 =>
arithK .lss v6 x34 fun x35 =>
condK x35 (
iaK 4 v1 v6 fun x36 =>
faK 0 x36 fun x37 =>
ldK 1 false x37 h fun x38 =>
iaK 4 v1 (.s (.int .i64 0)) fun x39 =>
faK 0 x39 fun x40 =>
ldK 1 false x40 h fun x41 =>
eqK P true 3 x38 x41 h fun x42 =>
condK x42 (
xr (.s (.slice none 0 0)) (.s (.int .i64 10)) h) (
arithK .add v6 (.s (.int .i64 1)) fun x43 =>
xn v0 v1 x43 h)) (
x0 v0 v1 h)
def f_ref31_Add_L4 (P : Program) (T : Tab) (D : DTab) (N : Nat) {β : Type} (x0 : AV → AV → Hp → Option β) (xr : AV → AV → Hp → Option β) : Nat → AV → AV → AV → Hp → Option β
  | 0 => fun _ _ _ _ => none
  | n + 1 => fun v0 v1 v6 h => f_ref31_Add_b4 P T D N (f_ref31_Add_L4 P T D N x0 xr n) x0 xr v0 v1 v6 h
/-- spile/spileref31.Add -/
def f_ref31_Add (P : Program) (T : Tab) (D : DTab) (N : Nat) {β : Type} (K : AV → Hp → Option β) (a0 : AV) (a1 : AV) (h : Hp) : Option β :=
callK (T 36) [a0] h fun x1 h2 =>
notK x1 fun x3 =>
grpK false x3 h2 (fun k4 =>
callK (T 36) [a1] h2 fun x5 h6 =>
notK x5 fun x7 =>
k4 x7 h6) fun x8 h9 =>
condK x8 (
K (.tup [(.s (.slice none 0 0)), (.s (.int .i64 1))]) h9) (
lenK a1 fun x10 =>
eqK P false 3 x10 (.s (.int .i64 0)) h9 fun x11 =>
condK x11 (
K (.tup [(.s (.slice none 0 0)), (.s (.int .i64 9))]) h9) (
f_ref31_Add_L4 P T D N (fun w44_0 w44_1 h => f_ref31_Add_j1 P T D N K w44_0 w44_1 h) (fun w45_4 w45_5 h => K (.tup [w45_4, w45_5]) h) N a0 a1 (.s (.int .i64 0)) h9))
theorem f_ref31_Add_j2_eq (P : Program) (T : Tab) (D : DTab) (N : Nat) {β : Type} (K : AV → Hp → Option β) (t : Tm) (h : Hp) : o_ref31_Add_j2 P T D N K t h = f_ref31_Add_j2 P T D N K (t 0) (t 1) h := by kernel_rfl
theorem f_ref31_Add_b3_eq (P : Program) (T : Tab) (D : DTab) (N : Nat) {β : Type} (xn : AV → AV → AV → Hp → Option β) (x2 : AV → AV → Hp → Option β) (xr : AV → AV → Hp → Option β) (xd : Nat → St → Option β) (xq : St → Option β) (t : Tm) (h : Hp) : o_ref31_Add_L3 P T D N t h (fun (e : Ex) (s : St) => e.on (xn (s.1 0) (s.1 1) (s.1 7) s.2) (fun i => (bif i == 2 then x2 (s.1 0) (s.1 1) s.2 else (xd i s))) (xr (s.1 4) (s.1 5) s.2)) = f_ref31_Add_b3 P T D N xn x2 xr (t 0) (t 1) (t 7) h := by kernel_rfl
theorem f_ref31_Add_L3_eq (P : Program) (T : Tab) (D : DTab) (N : Nat) {β : Type} (A : Ex → St → Option β) (x2 : AV → AV → Hp → Option β) (xr : AV → AV → Hp → Option β) (q2 : ∀ s, A (.exit 2) s = x2 (s.1 0) (s.1 1) s.2) (qr : ∀ s, A .ret s = xr (s.1 4) (s.1 5) s.2) : ∀ (n : Nat) (s : St), iterK (fun s k => o_ref31_Add_L3 P T D N s.1 s.2 k) n s A = f_ref31_Add_L3 P T D N x2 xr n (s.1 0) (s.1 1) (s.1 7) s.2 := by
  intro n
  induction n with
  | zero => intro s; rfl
  | succ n ih =>
    intro s
    have hk : (fun (e : Ex) (s' : St) => Ex.on e (iterK (fun s k => o_ref31_Add_L3 P T D N s.1 s.2 k) n s' A) (fun i => A (.exit i) s') (A .ret s')) = (fun (e : Ex) (s : St) => e.on ((f_ref31_Add_L3 P T D N x2 xr n) (s.1 0) (s.1 1) (s.1 7) s.2) (fun i => (bif i == 2 then x2 (s.1 0) (s.1 1) s.2 else (A (.exit i) s))) (xr (s.1 4) (s.1 5) s.2)) := by
      funext e s'
      cases e with
      | normal => exact ih s'
      | ret => exact qr s'
      | exit i =>
        by_cases r2 : i = 2
        · subst r2; exact q2 s'
        simp only [Ex.on, beq_false_of_ne r2, cond_false]
    show o_ref31_Add_L3 P T D N s.1 s.2 (fun (e : Ex) (s' : St) => Ex.on e (iterK (fun s k => o_ref31_Add_L3 P T D N s.1 s.2 k) n s' A) (fun i => A (.exit i) s') (A .ret s')) = _
    rw [hk]
    exact f_ref31_Add_b3_eq P T D N (f_ref31_Add_L3 P T D N x2 xr n) x2 xr (fun i s => A (.exit i) s) (fun s => A .ret s) s.1 s.2
theorem f_ref31_Add_j1_eq (P : Program) (T : Tab) (D : DTab) (N : Nat) {β : Type} (K : AV → Hp → Option β) (t : Tm) (h : Hp) : o_ref31_Add_j1 P T D N K t h = f_ref31_Add_j1 P T D N K (t 0) (t 1) h := by
  have eL3 : (fun s : St => iterK (fun s k => o_ref31_Add_L3 P T D N s.1 s.2 k) N s (o_ref31_Add_aL3 P T D N K)) = (fun s : St => f_ref31_Add_L3 P T D N (fun w32_0 w32_1 h => f_ref31_Add_j2 P T D N K w32_0 w32_1 h) (fun w33_4 w33_5 h => K (.tup [w33_4, w33_5]) h) N (s.1 0) (s.1 1) (s.1 7) s.2) := funext fun s => f_ref31_Add_L3_eq P T D N (o_ref31_Add_aL3 P T D N K) (fun w32_0 w32_1 h => f_ref31_Add_j2 P T D N K w32_0 w32_1 h) (fun w33_4 w33_5 h => K (.tup [w33_4, w33_5]) h) (fun s => rfl) (fun s => rfl) N s
  show o_ref31_Add_j1_G P T D N (fun s => iterK (fun s k => o_ref31_Add_L3 P T D N s.1 s.2 k) N s (o_ref31_Add_aL3 P T D N K)) K t h = _
  rw [eL3]
  kernel_rfl
theorem f_ref31_Add_b4_eq (P : Program) (T : Tab) (D : DTab) (N : Nat) {β : Type} (xn : AV → AV → AV → Hp → Option β) (x0 : AV → AV → Hp → Option β) (xr : AV → AV → Hp → Option β) (xd : Nat → St → Option β) (xq : St → Option β) (t : Tm) (h : Hp) : o_ref31_Add_L4 P T D N t h (fun (e : Ex) (s : St) => e.on (xn (s.1 0) (s.1 1) (s.1 6) s.2) (fun i => (bif i == 0 then x0 (s.1 0) (s.1 1) s.2 else (xd i s))) (xr (s.1 4) (s.1 5) s.2)) = f_ref31_Add_b4 P T D N xn x0 xr (t 0) (t 1) (t 6) h := by kernel_rfl
theorem f_ref31_Add_L4_eq (P : Program) (T : Tab) (D : DTab) (N : Nat) {β : Type} (A : Ex → St → Option β) (x0 : AV → AV → Hp → Option β) (xr : AV → AV → Hp → Option β) (q0 : ∀ s, A (.exit 0) s = x0 (s.1 0) (s.1 1) s.2) (qr : ∀ s, A .ret s = xr (s.1 4) (s.1 5) s.2) : ∀ (n : Nat) (s : St), iterK (fun s k => o_ref31_Add_L4 P T D N s.1 s.2 k) n s A = f_ref31_Add_L4 P T D N x0 xr n (s.1 0) (s.1 1) (s.1 6) s.2 := by
  intro n
  induction n with
  | zero => intro s; rfl
  | succ n ih =>
    intro s
    have hk : (fun (e : Ex) (s' : St) => Ex.on e (iterK (fun s k => o_ref31_Add_L4 P T D N s.1 s.2 k) n s' A) (fun i => A (.exit i) s') (A .ret s')) = (fun (e : Ex) (s : St) => e.on ((f_ref31_Add_L4 P T D N x0 xr n) (s.1 0) (s.1 1) (s.1 6) s.2) (fun i => (bif i == 0 then x0 (s.1 0) (s.1 1) s.2 else (A (.exit i) s))) (xr (s.1 4) (s.1 5) s.2)) := by
      funext e s'
      cases e with
      | normal => exact ih s'
      | ret => exact qr s'
      | exit i =>
        by_cases r0 : i = 0
        · subst r0; exact q0 s'
        simp only [Ex.on, beq_false_of_ne r0, cond_false]
    show o_ref31_Add_L4 P T D N s.1 s.2 (fun (e : Ex) (s' : St) => Ex.on e (iterK (fun s k => o_ref31_Add_L4 P T D N s.1 s.2 k) n s' A) (fun i => A (.exit i) s') (A .ret s')) = _
    rw [hk]
    exact f_ref31_Add_b4_eq P T D N (f_ref31_Add_L4 P T D N x0 xr n) x0 xr (fun i s => A (.exit i) s) (fun s => A .ret s) s.1 s.2
theorem f_ref31_Add_old_eq (P : Program) (T : Tab) (D : DTab) (N : Nat) {β : Type} (K : AV → Hp → Option β) (a0 : AV) (a1 : AV) (h : Hp) : o_ref31_Add P T D N K a0 a1 h = f_ref31_Add P T D N K a0 a1 h := by
  have eL4 : (fun s : St => iterK (fun s k => o_ref31_Add_L4 P T D N s.1 s.2 k) N s (o_ref31_Add_aL4 P T D N K)) = (fun s : St => f_ref31_Add_L4 P T D N (fun w44_0 w44_1 h => f_ref31_Add_j1 P T D N K w44_0 w44_1 h) (fun w45_4 w45_5 h => K (.tup [w45_4, w45_5]) h) N (s.1 0) (s.1 1) (s.1 6) s.2) := funext fun s => f_ref31_Add_L4_eq P T D N (o_ref31_Add_aL4 P T D N K) (fun w44_0 w44_1 h => f_ref31_Add_j1 P T D N K w44_0 w44_1 h) (fun w45_4 w45_5 h => K (.tup [w45_4, w45_5]) h) (fun s => f_ref31_Add_j1_eq P T D N K s.1 s.2) (fun s => rfl) N s
  show o_ref31_Add_G P T D N (fun s => iterK (fun s k => o_ref31_Add_L4 P T D N s.1 s.2 k) N s (o_ref31_Add_aL4 P T D N K)) K a0 a1 h = _
  rw [eL4]
  kernel_rfl
theorem o_ref31_Add_run (T : Tab) (D : DTab) (N : Nat) {β : Type} (K : AV → Hp → Option β) (a0 : AV) (a1 : AV) (h : Hp) : runK Try.prog T D N [0, 1, 4, 5, 6, 7, 15, 18, 22, 34, 38, 50, 56] Try.f30 K [a0, a1] h = o_ref31_Add Try.prog T D N K a0 a1 h := by kernel_rfl
theorem f_ref31_Add_run (T : Tab) (D : DTab) (N : Nat) {β : Type} (K : AV → Hp → Option β) (a0 : AV) (a1 : AV) (h : Hp) : runK Try.prog T D N [0, 1, 4, 5, 6, 7, 15, 18, 22, 34, 38, 50, 56] Try.f30 K [a0, a1] h = f_ref31_Add Try.prog T D N K a0 a1 h := (o_ref31_Add_run T D N K a0 a1 h).trans (f_ref31_Add_old_eq Try.prog T D N K a0 a1 h)
def o_ref31_Same_j1 (P : Program) (T : Tab) (D : DTab) (N : Nat) {β : Type} (K : AV → Hp → Option β) (t : Tm) (h : Hp) : Option β :=
K (.s (.bool true)) h
def o_ref31_Same_L2 (P : Program) (T : Tab) (D : DTab) (N : Nat) {β : Type} (t : Tm) (h : Hp) (k : Ex → St → Option β) : Option β :=
lenK (t 0) fun x4 =>
arithK .lss (t 5) x4 fun x5 =>
condK x5 (
iaK 4 (t 0) (t 5) fun x6 =>
ldK 4 true x6 h fun x7 =>
iaK 4 (t 1) (t 5) fun x8 =>
ldK 4 true x8 h fun x9 =>
eqK P true 33 x7 x9 h fun x10 =>
condK x10 (
k .ret ((upd (upd (upd t 14 x5) 25 x10) 4 (.s (.bool false))), h)) (
arithK .add (t 5) (.s (.int .i64 1)) fun x11 =>
k .normal ((upd (upd (upd t 14 x5) 25 x10) 5 x11), h))) (
k (.exit 0) ((upd t 14 x5), h))
def o_ref31_Same_aL2 (P : Program) (T : Tab) (D : DTab) (N : Nat) {β : Type} (K : AV → Hp → Option β) (e : Ex) (s : St) : Option β :=
  e.on ((o_ref31_Same_j1 P T D N K s.1 s.2))
  (fun i => bif i == 0 then ((o_ref31_Same_j1 P T D N K s.1 s.2)) else (none))
  (K (s.1 4) s.2)
def o_ref31_Same_G (P : Program) (T : Tab) (D : DTab) (N : Nat) {β : Type} (cL2 : St → Option β) (K : AV → Hp → Option β) (a0 : AV) (a1 : AV) (h : Hp) :  Option β :=
lenK a0 fun x1 =>
lenK a1 fun x2 =>
eqK P true 3 x1 x2 h fun x3 =>
condK x3 (
K (.s (.bool false)) h) (
cL2 ((upd (upd (upd (tm0 [a0, a1]) 4 (.s (.bool false))) 10 x3) 5 (.s (.int .i64 0))), h))
def o_ref31_Same (P : Program) (T : Tab) (D : DTab) (N : Nat) {β : Type} (K : AV → Hp → Option β) (a0 : AV) (a1 : AV) (h : Hp) : Option β := o_ref31_Same_G P T D N (fun s => iterK (fun s k => o_ref31_Same_L2 P T D N s.1 s.2 k) N s (o_ref31_Same_aL2 P T D N K)) K a0 a1 h
def f_ref31_Same_j1 (P : Program) (T : Tab) (D : DTab) (N : Nat) {β : Type} (K : AV → Hp → Option β) (h : Hp) : Option β :=
K (.s (.bool true)) h
def f_ref31_Same_b2 (P : Program) (T : Tab) (D : DTab) (N : Nat) {β : Type} (xn : AV → AV → AV → Hp → Option β) (x0 : Hp → Option β) (xr : AV → Hp → Option β) (v0 : AV) (v1 : AV) (v5 : AV) (h : Hp) : Option β :=
lenK v0 fun x4 =>
arithK .lss v5 x4 fun x5 =>
condK x5 (
iaK 4 v0 v5 fun x6 =>
ldK 4 true x6 h fun x7 =>
iaK 4 v1 v5 fun x8 =>
ldK 4 true x8 h fun x9 =>
eqK P true 33 x7 x9 h fun x10 =>
condK x10 (
xr (.s (.bool false)) h) (
arithK .add v5 (.s (.int .i64 1)) fun x11 =>
xn v0 v1 x11 h)) (
x0 h)
def f_ref31_Same_L2 (P : Program) (T : Tab) (D : DTab) (N : Nat) {β : Type} (x0 : Hp → Option β) (xr : AV → Hp → Option β) : Nat → AV → AV → AV → Hp → Option β
  | 0 => fun _ _ _ _ => none
  | n + 1 => fun v0 v1 v5 h => f_ref31_Same_b2 P T D N (f_ref31_Same_L2 P T D N x0 xr n) x0 xr v0 v1 v5 h
/-- spile/spileref31.Same -/
def f_ref31_Same (P : Program) (T : Tab) (D : DTab) (N : Nat) {β : Type} (K : AV → Hp → Option β) (a0 : AV) (a1 : AV) (h : Hp) : Option β :=
lenK a0 fun x1 =>
lenK a1 fun x2 =>
eqK P true 3 x1 x2 h fun x3 =>
condK x3 (
K (.s (.bool false)) h) (
f_ref31_Same_L2 P T D N (fun h => f_ref31_Same_j1 P T D N K h) (fun w13_4 h => K w13_4 h) N a0 a1 (.s (.int .i64 0)) h)
theorem f_ref31_Same_j1_eq (P : Program) (T : Tab) (D : DTab) (N : Nat) {β : Type} (K : AV → Hp → Option β) (t : Tm) (h : Hp) : o_ref31_Same_j1 P T D N K t h = f_ref31_Same_j1 P T D N K h := by kernel_rfl
theorem f_ref31_Same_b2_eq (P : Program) (T : Tab) (D : DTab) (N : Nat) {β : Type} (xn : AV → AV → AV → Hp → Option β) (x0 : Hp → Option β) (xr : AV → Hp → Option β) (xd : Nat → St → Option β) (xq : St → Option β) (t : Tm) (h : Hp) : o_ref31_Same_L2 P T D N t h (fun (e : Ex) (s : St) => e.on (xn (s.1 0) (s.1 1) (s.1 5) s.2) (fun i => (bif i == 0 then x0 s.2 else (xd i s))) (xr (s.1 4) s.2)) = f_ref31_Same_b2 P T D N xn x0 xr (t 0) (t 1) (t 5) h := by kernel_rfl
theorem f_ref31_Same_L2_eq (P : Program) (T : Tab) (D : DTab) (N : Nat) {β : Type} (A : Ex → St → Option β) (x0 : Hp → Option β) (xr : AV → Hp → Option β) (q0 : ∀ s, A (.exit 0) s = x0 s.2) (qr : ∀ s, A .ret s = xr (s.1 4) s.2) : ∀ (n : Nat) (s : St), iterK (fun s k => o_ref31_Same_L2 P T D N s.1 s.2 k) n s A = f_ref31_Same_L2 P T D N x0 xr n (s.1 0) (s.1 1) (s.1 5) s.2 := by
  intro n
  induction n with
  | zero => intro s; rfl
  | succ n ih =>
    intro s
    have hk : (fun (e : Ex) (s' : St) => Ex.on e (iterK (fun s k => o_ref31_Same_L2 P T D N s.1 s.2 k) n s' A) (fun i => A (.exit i) s') (A .ret s')) = (fun (e : Ex) (s : St) => e.on ((f_ref31_Same_L2 P T D N x0 xr n) (s.1 0) (s.1 1) (s.1 5) s.2) (fun i => (bif i == 0 then x0 s.2 else (A (.exit i) s))) (xr (s.1 4) s.2)) := by
      funext e s'
      cases e with
      | normal => exact ih s'
      | ret => exact qr s'
      | exit i =>
        by_cases r0 : i = 0
        · subst r0; exact q0 s'
        simp only [Ex.on, beq_false_of_ne r0, cond_false]
    show o_ref31_Same_L2 P T D N s.1 s.2 (fun (e : Ex) (s' : St) => Ex.on e (iterK (fun s k => o_ref31_Same_L2 P T D N s.1 s.2 k) n s' A) (fun i => A (.exit i) s') (A .ret s')) = _
    rw [hk]
    exact f_ref31_Same_b2_eq P T D N (f_ref31_Same_L2 P T D N x0 xr n) x0 xr (fun i s => A (.exit i) s) (fun s => A .ret s) s.1 s.2
theorem f_ref31_Same_old_eq (P : Program) (T : Tab) (D : DTab) (N : Nat) {β : Type} (K : AV → Hp → Option β) (a0 : AV) (a1 : AV) (h : Hp) : o_ref31_Same P T D N K a0 a1 h = f_ref31_Same P T D N K a0 a1 h := by
  have eL2 : (fun s : St => iterK (fun s k => o_ref31_Same_L2 P T D N s.1 s.2 k) N s (o_ref31_Same_aL2 P T D N K)) = (fun s : St => f_ref31_Same_L2 P T D N (fun h => f_ref31_Same_j1 P T D N K h) (fun w13_4 h => K w13_4 h) N (s.1 0) (s.1 1) (s.1 5) s.2) := funext fun s => f_ref31_Same_L2_eq P T D N (o_ref31_Same_aL2 P T D N K) (fun h => f_ref31_Same_j1 P T D N K h) (fun w13_4 h => K w13_4 h) (fun s => rfl) (fun s => rfl) N s
  show o_ref31_Same_G P T D N (fun s => iterK (fun s k => o_ref31_Same_L2 P T D N s.1 s.2 k) N s (o_ref31_Same_aL2 P T D N K)) K a0 a1 h = _
  rw [eL2]
  kernel_rfl
theorem o_ref31_Same_run (T : Tab) (D : DTab) (N : Nat) {β : Type} (K : AV → Hp → Option β) (a0 : AV) (a1 : AV) (h : Hp) : runK Try.prog T D N [0, 1, 4, 5, 10, 14, 25] Try.f31 K [a0, a1] h = o_ref31_Same Try.prog T D N K a0 a1 h := by kernel_rfl
theorem f_ref31_Same_run (T : Tab) (D : DTab) (N : Nat) {β : Type} (K : AV → Hp → Option β) (a0 : AV) (a1 : AV) (h : Hp) : runK Try.prog T D N [0, 1, 4, 5, 10, 14, 25] Try.f31 K [a0, a1] h = f_ref31_Same Try.prog T D N K a0 a1 h := (o_ref31_Same_run T D N K a0 a1 h).trans (f_ref31_Same_old_eq Try.prog T D N K a0 a1 h)
/-- spile/spilelaw31.example -/
def f_law31_example (P : Program) (T : Tab) (D : DTab) (N : Nat) {β : Type} (K : AV → Hp → Option β) (h : Hp) : Option β :=
buildK [.s (.int .i64 0), .s (.int .i64 0), .s (.int .i64 0), .s (.int .i64 0)] [(some (0, 1), (.s (.int .i64 0))), (some (1, 1), (.s (.int .i64 1))), (some (2, 1), (.s (.int .i64 1))), (some (3, 1), (.s (.int .i64 50)))] fun x1 =>
buildK [.s (.int .i64 0), .s (.int .i64 0), .s (.int .i64 0), .s (.int .i64 0)] [(some (0, 1), (.s (.int .i64 31))), (some (1, 1), (.s (.int .i64 1))), (some (2, 1), (.s (.int .i64 2))), (some (3, 1), (.s (.int .i64 60)))] fun x2 =>
effK (bsE 4 [.s (.int .i64 0), .s (.int .i64 0), .s (.int .i64 0), .s (.int .i64 0)] 2 [(0, x1), (1, x2)] (List.length h)) h fun x3 h4 =>
K x3 h4
theorem f_law31_example_run (T : Tab) (D : DTab) (N : Nat) {β : Type} (K : AV → Hp → Option β) (h : Hp) : runK Try.prog T D N [0] Try.f32 K [] h = f_law31_example Try.prog T D N K  h := by kernel_rfl
/-- spile/season.right -/
def f_season_right (P : Program) (T : Tab) (D : DTab) (N : Nat) {β : Type} (K : AV → Hp → Option β) (a0 : AV) (h : Hp) : Option β :=
callK (T 19) [a0] h fun x1 h2 =>
exK x1 0 fun x3 =>
exK x1 1 fun x4 =>
eqK P false 28 x4 (.s (.int .i64 0)) h2 fun x5 =>
K x5 h2
theorem f_season_right_run (T : Tab) (D : DTab) (N : Nat) {β : Type} (K : AV → Hp → Option β) (a0 : AV) (h : Hp) : runK Try.prog T D N [0, 2, 4] Try.f33 K [a0] h = f_season_right Try.prog T D N K a0 h := by kernel_rfl
/-- spile/season.in -/
def f_season_in (P : Program) (T : Tab) (D : DTab) (N : Nat) {β : Type} (K : AV → Hp → Option β) (a0 : AV) (a1 : AV) (a2 : AV) (h : Hp) : Option β :=
arithK .geq a0 a1 fun x1 =>
grpK true x1 h (fun k2 =>
arithK .leq a0 a2 fun x3 =>
k2 x3 h) fun x4 h5 =>
K x4 h5
theorem f_season_in_run (T : Tab) (D : DTab) (N : Nat) {β : Type} (K : AV → Hp → Option β) (a0 : AV) (a1 : AV) (a2 : AV) (h : Hp) : runK Try.prog T D N [0, 1, 2, 6] Try.f34 K [a0, a1, a2] h = f_season_in Try.prog T D N K a0 a1 a2 h := by kernel_rfl
def o_season_sum_j1 (P : Program) (T : Tab) (D : DTab) (N : Nat) {β : Type} (K : AV → Hp → Option β) (t : Tm) (h : Hp) : Option β :=
K (t 9) h
def o_season_sum_j2 (P : Program) (T : Tab) (D : DTab) (N : Nat) {β : Type} (K : AV → Hp → Option β) (t : Tm) (h : Hp) : Option β :=
(o_season_sum_j1 P T D N K t h)
def o_season_sum_L3 (P : Program) (T : Tab) (D : DTab) (N : Nat) {β : Type} (t : Tm) (h : Hp) (k : Ex → St → Option β) : Option β :=
arithK .lss (t 15) (t 14) fun x2 =>
condK x2 (
arithK .geq (t 2) (t 3) fun x3 =>
condK x3 (
k (.exit 0) ((upd (upd t 16 x2) 19 x3), h)) (
callK (T 42) [(t 0), (t 1), (t 2)] h fun x4 h5 =>
exK x4 0 fun x6 =>
exK x4 1 fun x7 =>
minK x7 (t 3) fun x8 =>
arithK .sub x8 (t 2) fun x9 =>
arithK .mul x6 x9 fun x10 =>
arithK .add (t 9) x10 fun x11 =>
arithK .add (t 15) (.s (.int .i64 1)) fun x12 =>
k .normal ((upd (upd (upd (upd (upd (upd (upd (upd t 16 x2) 19 x3) 10 x6) 11 x7) 11 x8) 9 x11) 2 x8) 15 x12), h5))) (
k (.exit 0) ((upd t 16 x2), h))
def o_season_sum_aL3 (P : Program) (T : Tab) (D : DTab) (N : Nat) {β : Type} (K : AV → Hp → Option β) (e : Ex) (s : St) : Option β :=
  e.on ((o_season_sum_j2 P T D N K s.1 s.2))
  (fun i => bif i == 0 then ((o_season_sum_j2 P T D N K s.1 s.2)) else (none))
  (K (s.1 8) s.2)
def o_season_sum_G (P : Program) (T : Tab) (D : DTab) (N : Nat) {β : Type} (cL3 : St → Option β) (K : AV → Hp → Option β) (a0 : AV) (a1 : AV) (a2 : AV) (a3 : AV) (h : Hp) :  Option β :=
arithK .sub a3 a2 fun x1 =>
cL3 ((upd (upd (upd (upd (tm0 [a0, a1, a2, a3]) 8 (.s (.int .i64 0))) 9 (.s (.int .i64 0))) 14 x1) 15 (.s (.int .i64 0))), h)
def o_season_sum (P : Program) (T : Tab) (D : DTab) (N : Nat) {β : Type} (K : AV → Hp → Option β) (a0 : AV) (a1 : AV) (a2 : AV) (a3 : AV) (h : Hp) : Option β := o_season_sum_G P T D N (fun s => iterK (fun s k => o_season_sum_L3 P T D N s.1 s.2 k) N s (o_season_sum_aL3 P T D N K)) K a0 a1 a2 a3 h
def f_season_sum_j1 (P : Program) (T : Tab) (D : DTab) (N : Nat) {β : Type} (K : AV → Hp → Option β) (v9 : AV) (h : Hp) : Option β :=
K v9 h
def f_season_sum_j2 (P : Program) (T : Tab) (D : DTab) (N : Nat) {β : Type} (K : AV → Hp → Option β) (v9 : AV) (h : Hp) : Option β :=
f_season_sum_j1 P T D N K v9 h
def f_season_sum_b3 (P : Program) (T : Tab) (D : DTab) (N : Nat) {β : Type} (xn : AV → AV → AV → AV → AV → AV → AV → Hp → Option β) (x0 : AV → Hp → Option β) (v0 : AV) (v1 : AV) (v2 : AV) (v3 : AV) (v9 : AV) (v14 : AV) (v15 : AV) (h : Hp) : Option β :=
arithK .lss v15 v14 fun x2 =>
condK x2 (
arithK .geq v2 v3 fun x3 =>
condK x3 (
x0 v9 h) (
callK (T 42) [v0, v1, v2] h fun x4 h5 =>
exK x4 0 fun x6 =>
exK x4 1 fun x7 =>
minK x7 v3 fun x8 =>
arithK .sub x8 v2 fun x9 =>
arithK .mul x6 x9 fun x10 =>
arithK .add v9 x10 fun x11 =>
arithK .add v15 (.s (.int .i64 1)) fun x12 =>
xn v0 v1 x8 v3 x11 v14 x12 h5)) (
x0 v9 h)
def f_season_sum_L3 (P : Program) (T : Tab) (D : DTab) (N : Nat) {β : Type} (x0 : AV → Hp → Option β) : Nat → AV → AV → AV → AV → AV → AV → AV → Hp → Option β
  | 0 => fun _ _ _ _ _ _ _ _ => none
  | n + 1 => fun v0 v1 v2 v3 v9 v14 v15 h => f_season_sum_b3 P T D N (f_season_sum_L3 P T D N x0 n) x0 v0 v1 v2 v3 v9 v14 v15 h
/-- spile/season.sum -/
def f_season_sum (P : Program) (T : Tab) (D : DTab) (N : Nat) {β : Type} (K : AV → Hp → Option β) (a0 : AV) (a1 : AV) (a2 : AV) (a3 : AV) (h : Hp) : Option β :=
arithK .sub a3 a2 fun x1 =>
f_season_sum_L3 P T D N (fun w13_9 h => f_season_sum_j2 P T D N K w13_9 h) N a0 a1 a2 a3 (.s (.int .i64 0)) x1 (.s (.int .i64 0)) h
theorem f_season_sum_j1_eq (P : Program) (T : Tab) (D : DTab) (N : Nat) {β : Type} (K : AV → Hp → Option β) (t : Tm) (h : Hp) : o_season_sum_j1 P T D N K t h = f_season_sum_j1 P T D N K (t 9) h := by kernel_rfl
theorem f_season_sum_j2_eq (P : Program) (T : Tab) (D : DTab) (N : Nat) {β : Type} (K : AV → Hp → Option β) (t : Tm) (h : Hp) : o_season_sum_j2 P T D N K t h = f_season_sum_j2 P T D N K (t 9) h := by kernel_rfl
theorem f_season_sum_b3_eq (P : Program) (T : Tab) (D : DTab) (N : Nat) {β : Type} (xn : AV → AV → AV → AV → AV → AV → AV → Hp → Option β) (x0 : AV → Hp → Option β) (xd : Nat → St → Option β) (xq : St → Option β) (t : Tm) (h : Hp) : o_season_sum_L3 P T D N t h (fun (e : Ex) (s : St) => e.on (xn (s.1 0) (s.1 1) (s.1 2) (s.1 3) (s.1 9) (s.1 14) (s.1 15) s.2) (fun i => (bif i == 0 then x0 (s.1 9) s.2 else (xd i s))) (xq s)) = f_season_sum_b3 P T D N xn x0 (t 0) (t 1) (t 2) (t 3) (t 9) (t 14) (t 15) h := by kernel_rfl
theorem f_season_sum_L3_eq (P : Program) (T : Tab) (D : DTab) (N : Nat) {β : Type} (A : Ex → St → Option β) (x0 : AV → Hp → Option β) (q0 : ∀ s, A (.exit 0) s = x0 (s.1 9) s.2) : ∀ (n : Nat) (s : St), iterK (fun s k => o_season_sum_L3 P T D N s.1 s.2 k) n s A = f_season_sum_L3 P T D N x0 n (s.1 0) (s.1 1) (s.1 2) (s.1 3) (s.1 9) (s.1 14) (s.1 15) s.2 := by
  intro n
  induction n with
  | zero => intro s; rfl
  | succ n ih =>
    intro s
    have hk : (fun (e : Ex) (s' : St) => Ex.on e (iterK (fun s k => o_season_sum_L3 P T D N s.1 s.2 k) n s' A) (fun i => A (.exit i) s') (A .ret s')) = (fun (e : Ex) (s : St) => e.on ((f_season_sum_L3 P T D N x0 n) (s.1 0) (s.1 1) (s.1 2) (s.1 3) (s.1 9) (s.1 14) (s.1 15) s.2) (fun i => (bif i == 0 then x0 (s.1 9) s.2 else (A (.exit i) s))) (A .ret s)) := by
      funext e s'
      cases e with
      | normal => exact ih s'
      | ret => exact rfl
      | exit i =>
        by_cases r0 : i = 0
        · subst r0; exact q0 s'
        simp only [Ex.on, beq_false_of_ne r0, cond_false]
    show o_season_sum_L3 P T D N s.1 s.2 (fun (e : Ex) (s' : St) => Ex.on e (iterK (fun s k => o_season_sum_L3 P T D N s.1 s.2 k) n s' A) (fun i => A (.exit i) s') (A .ret s')) = _
    rw [hk]
    exact f_season_sum_b3_eq P T D N (f_season_sum_L3 P T D N x0 n) x0 (fun i s => A (.exit i) s) (fun s => A .ret s) s.1 s.2
theorem f_season_sum_old_eq (P : Program) (T : Tab) (D : DTab) (N : Nat) {β : Type} (K : AV → Hp → Option β) (a0 : AV) (a1 : AV) (a2 : AV) (a3 : AV) (h : Hp) : o_season_sum P T D N K a0 a1 a2 a3 h = f_season_sum P T D N K a0 a1 a2 a3 h := by
  have eL3 : (fun s : St => iterK (fun s k => o_season_sum_L3 P T D N s.1 s.2 k) N s (o_season_sum_aL3 P T D N K)) = (fun s : St => f_season_sum_L3 P T D N (fun w13_9 h => f_season_sum_j2 P T D N K w13_9 h) N (s.1 0) (s.1 1) (s.1 2) (s.1 3) (s.1 9) (s.1 14) (s.1 15) s.2) := funext fun s => f_season_sum_L3_eq P T D N (o_season_sum_aL3 P T D N K) (fun w13_9 h => f_season_sum_j2 P T D N K w13_9 h) (fun s => rfl) N s
  show o_season_sum_G P T D N (fun s => iterK (fun s k => o_season_sum_L3 P T D N s.1 s.2 k) N s (o_season_sum_aL3 P T D N K)) K a0 a1 a2 a3 h = _
  rw [eL3]
  kernel_rfl
theorem o_season_sum_run (T : Tab) (D : DTab) (N : Nat) {β : Type} (K : AV → Hp → Option β) (a0 : AV) (a1 : AV) (a2 : AV) (a3 : AV) (h : Hp) : runK Try.prog T D N [0, 1, 2, 3, 8, 9, 10, 11, 14, 15, 16, 19] Try.f35 K [a0, a1, a2, a3] h = o_season_sum Try.prog T D N K a0 a1 a2 a3 h := by kernel_rfl
theorem f_season_sum_run (T : Tab) (D : DTab) (N : Nat) {β : Type} (K : AV → Hp → Option β) (a0 : AV) (a1 : AV) (a2 : AV) (a3 : AV) (h : Hp) : runK Try.prog T D N [0, 1, 2, 3, 8, 9, 10, 11, 14, 15, 16, 19] Try.f35 K [a0, a1, a2, a3] h = f_season_sum Try.prog T D N K a0 a1 a2 a3 h := (o_season_sum_run T D N K a0 a1 a2 a3 h).trans (f_season_sum_old_eq Try.prog T D N K a0 a1 a2 a3 h)
/-- spile/spileref31.Right -/
def f_ref31_Right (P : Program) (T : Tab) (D : DTab) (N : Nat) {β : Type} (K : AV → Hp → Option β) (a0 : AV) (h : Hp) : Option β :=
callK (T 20) [a0] h fun x1 h2 =>
exK x1 0 fun x3 =>
exK x1 1 fun x4 =>
eqK P false 28 x4 (.s (.int .i64 0)) h2 fun x5 =>
K x5 h2
theorem f_ref31_Right_run (T : Tab) (D : DTab) (N : Nat) {β : Type} (K : AV → Hp → Option β) (a0 : AV) (h : Hp) : runK Try.prog T D N [0, 2, 4] Try.f36 K [a0] h = f_ref31_Right Try.prog T D N K a0 h := by kernel_rfl
/-- spile/spileref31.Class -/
def f_ref31_Class (P : Program) (T : Tab) (D : DTab) (N : Nat) {β : Type} (K : AV → Hp → Option β) (a0 : AV) (h : Hp) : Option β :=
arithK .geq a0 (.s (.int .i64 1)) fun x1 =>
grpK true x1 h (fun k2 =>
arithK .leq a0 (.s (.int .i64 9)) fun x3 =>
k2 x3 h) fun x4 h5 =>
K x4 h5
theorem f_ref31_Class_run (T : Tab) (D : DTab) (N : Nat) {β : Type} (K : AV → Hp → Option β) (a0 : AV) (h : Hp) : runK Try.prog T D N [0, 2] Try.f37 K [a0] h = f_ref31_Class Try.prog T D N K a0 h := by kernel_rfl
/-- spile/spileref31.Day -/
def f_ref31_Day (P : Program) (T : Tab) (D : DTab) (N : Nat) {β : Type} (K : AV → Hp → Option β) (a0 : AV) (h : Hp) : Option β :=
arithK .geq a0 (.s (.int .i64 0)) fun x1 =>
grpK true x1 h (fun k2 =>
arithK .leq a0 (.s (.int .i64 100000)) fun x3 =>
k2 x3 h) fun x4 h5 =>
K x4 h5
theorem f_ref31_Day_run (T : Tab) (D : DTab) (N : Nat) {β : Type} (K : AV → Hp → Option β) (a0 : AV) (h : Hp) : runK Try.prog T D N [0, 2] Try.f38 K [a0] h = f_ref31_Day Try.prog T D N K a0 h := by kernel_rfl
def o_ref31_rate_j1 (P : Program) (T : Tab) (D : DTab) (N : Nat) {β : Type} (K : AV → Hp → Option β) (t : Tm) (h : Hp) : Option β :=
K (.s (.int .i64 0)) h
def o_ref31_rate_L2 (P : Program) (T : Tab) (D : DTab) (N : Nat) {β : Type} (t : Tm) (h : Hp) (k : Ex → St → Option β) : Option β :=
lenK (t 0) fun x5 =>
arithK .lss (t 9) x5 fun x6 =>
condK x6 (
iaK 4 (t 0) (t 9) fun x7 =>
faK 0 x7 fun x8 =>
ldK 1 false x8 h fun x9 =>
eqK P false 3 x9 (t 7) h fun x10 =>
grpK true x10 h (fun k11 =>
iaK 4 (t 0) (t 9) fun x12 =>
faK 1 x12 fun x13 =>
ldK 1 false x13 h fun x14 =>
eqK P false 3 x14 (t 1) h fun x15 =>
k11 x15 h) fun x16 h17 =>
grpK true x16 h17 (fun k18 =>
iaK 4 (t 0) (t 9) fun x19 =>
faK 2 x19 fun x20 =>
ldK 1 false x20 h17 fun x21 =>
eqK P false 3 x21 (t 8) h17 fun x22 =>
k18 x22 h17) fun x23 h24 =>
condK x23 (
iaK 4 (t 0) (t 9) fun x25 =>
faK 3 x25 fun x26 =>
ldK 1 false x26 h24 fun x27 =>
k .ret ((upd (upd (upd t 18 x6) 45 x23) 6 x27), h24)) (
arithK .add (t 9) (.s (.int .i64 1)) fun x28 =>
k .normal ((upd (upd (upd t 18 x6) 45 x23) 9 x28), h24))) (
k (.exit 0) ((upd t 18 x6), h))
def o_ref31_rate_aL2 (P : Program) (T : Tab) (D : DTab) (N : Nat) {β : Type} (K : AV → Hp → Option β) (e : Ex) (s : St) : Option β :=
  e.on ((o_ref31_rate_j1 P T D N K s.1 s.2))
  (fun i => bif i == 0 then ((o_ref31_rate_j1 P T D N K s.1 s.2)) else (none))
  (K (s.1 6) s.2)
def o_ref31_rate_G (P : Program) (T : Tab) (D : DTab) (N : Nat) {β : Type} (cL2 : St → Option β) (K : AV → Hp → Option β) (a0 : AV) (a1 : AV) (a2 : AV) (h : Hp) :  Option β :=
callK (T 46) [a0, a2] h fun x1 h2 =>
callK (T 49) [a2] h2 fun x3 h4 =>
cL2 ((upd (upd (upd (upd (tm0 [a0, a1, a2]) 6 (.s (.int .i64 0))) 7 x1) 8 x3) 9 (.s (.int .i64 0))), h4)
def o_ref31_rate (P : Program) (T : Tab) (D : DTab) (N : Nat) {β : Type} (K : AV → Hp → Option β) (a0 : AV) (a1 : AV) (a2 : AV) (h : Hp) : Option β := o_ref31_rate_G P T D N (fun s => iterK (fun s k => o_ref31_rate_L2 P T D N s.1 s.2 k) N s (o_ref31_rate_aL2 P T D N K)) K a0 a1 a2 h
def f_ref31_rate_j1 (P : Program) (T : Tab) (D : DTab) (N : Nat) {β : Type} (K : AV → Hp → Option β) (h : Hp) : Option β :=
K (.s (.int .i64 0)) h
def f_ref31_rate_b2 (P : Program) (T : Tab) (D : DTab) (N : Nat) {β : Type} (xn : AV → AV → AV → AV → AV → Hp → Option β) (x0 : Hp → Option β) (xr : AV → Hp → Option β) (v0 : AV) (v1 : AV) (v7 : AV) (v8 : AV) (v9 : AV) (h : Hp) : Option β :=
lenK v0 fun x5 =>
arithK .lss v9 x5 fun x6 =>
condK x6 (
iaK 4 v0 v9 fun x7 =>
faK 0 x7 fun x8 =>
ldK 1 false x8 h fun x9 =>
eqK P false 3 x9 v7 h fun x10 =>
grpK true x10 h (fun k11 =>
iaK 4 v0 v9 fun x12 =>
faK 1 x12 fun x13 =>
ldK 1 false x13 h fun x14 =>
eqK P false 3 x14 v1 h fun x15 =>
k11 x15 h) fun x16 h17 =>
grpK true x16 h17 (fun k18 =>
iaK 4 v0 v9 fun x19 =>
faK 2 x19 fun x20 =>
ldK 1 false x20 h17 fun x21 =>
eqK P false 3 x21 v8 h17 fun x22 =>
k18 x22 h17) fun x23 h24 =>
condK x23 (
iaK 4 v0 v9 fun x25 =>
faK 3 x25 fun x26 =>
ldK 1 false x26 h24 fun x27 =>
xr x27 h24) (
arithK .add v9 (.s (.int .i64 1)) fun x28 =>
xn v0 v1 v7 v8 x28 h24)) (
x0 h)
def f_ref31_rate_L2 (P : Program) (T : Tab) (D : DTab) (N : Nat) {β : Type} (x0 : Hp → Option β) (xr : AV → Hp → Option β) : Nat → AV → AV → AV → AV → AV → Hp → Option β
  | 0 => fun _ _ _ _ _ _ => none
  | n + 1 => fun v0 v1 v7 v8 v9 h => f_ref31_rate_b2 P T D N (f_ref31_rate_L2 P T D N x0 xr n) x0 xr v0 v1 v7 v8 v9 h
/-- spile/spileref31.rate -/
def f_ref31_rate (P : Program) (T : Tab) (D : DTab) (N : Nat) {β : Type} (K : AV → Hp → Option β) (a0 : AV) (a1 : AV) (a2 : AV) (h : Hp) : Option β :=
callK (T 46) [a0, a2] h fun x1 h2 =>
callK (T 49) [a2] h2 fun x3 h4 =>
f_ref31_rate_L2 P T D N (fun h => f_ref31_rate_j1 P T D N K h) (fun w30_6 h => K w30_6 h) N a0 a1 x1 x3 (.s (.int .i64 0)) h4
theorem f_ref31_rate_j1_eq (P : Program) (T : Tab) (D : DTab) (N : Nat) {β : Type} (K : AV → Hp → Option β) (t : Tm) (h : Hp) : o_ref31_rate_j1 P T D N K t h = f_ref31_rate_j1 P T D N K h := by kernel_rfl
theorem f_ref31_rate_b2_eq (P : Program) (T : Tab) (D : DTab) (N : Nat) {β : Type} (xn : AV → AV → AV → AV → AV → Hp → Option β) (x0 : Hp → Option β) (xr : AV → Hp → Option β) (xd : Nat → St → Option β) (xq : St → Option β) (t : Tm) (h : Hp) : o_ref31_rate_L2 P T D N t h (fun (e : Ex) (s : St) => e.on (xn (s.1 0) (s.1 1) (s.1 7) (s.1 8) (s.1 9) s.2) (fun i => (bif i == 0 then x0 s.2 else (xd i s))) (xr (s.1 6) s.2)) = f_ref31_rate_b2 P T D N xn x0 xr (t 0) (t 1) (t 7) (t 8) (t 9) h := by kernel_rfl
theorem f_ref31_rate_L2_eq (P : Program) (T : Tab) (D : DTab) (N : Nat) {β : Type} (A : Ex → St → Option β) (x0 : Hp → Option β) (xr : AV → Hp → Option β) (q0 : ∀ s, A (.exit 0) s = x0 s.2) (qr : ∀ s, A .ret s = xr (s.1 6) s.2) : ∀ (n : Nat) (s : St), iterK (fun s k => o_ref31_rate_L2 P T D N s.1 s.2 k) n s A = f_ref31_rate_L2 P T D N x0 xr n (s.1 0) (s.1 1) (s.1 7) (s.1 8) (s.1 9) s.2 := by
  intro n
  induction n with
  | zero => intro s; rfl
  | succ n ih =>
    intro s
    have hk : (fun (e : Ex) (s' : St) => Ex.on e (iterK (fun s k => o_ref31_rate_L2 P T D N s.1 s.2 k) n s' A) (fun i => A (.exit i) s') (A .ret s')) = (fun (e : Ex) (s : St) => e.on ((f_ref31_rate_L2 P T D N x0 xr n) (s.1 0) (s.1 1) (s.1 7) (s.1 8) (s.1 9) s.2) (fun i => (bif i == 0 then x0 s.2 else (A (.exit i) s))) (xr (s.1 6) s.2)) := by
      funext e s'
      cases e with
      | normal => exact ih s'
      | ret => exact qr s'
      | exit i =>
        by_cases r0 : i = 0
        · subst r0; exact q0 s'
        simp only [Ex.on, beq_false_of_ne r0, cond_false]
    show o_ref31_rate_L2 P T D N s.1 s.2 (fun (e : Ex) (s' : St) => Ex.on e (iterK (fun s k => o_ref31_rate_L2 P T D N s.1 s.2 k) n s' A) (fun i => A (.exit i) s') (A .ret s')) = _
    rw [hk]
    exact f_ref31_rate_b2_eq P T D N (f_ref31_rate_L2 P T D N x0 xr n) x0 xr (fun i s => A (.exit i) s) (fun s => A .ret s) s.1 s.2
theorem f_ref31_rate_old_eq (P : Program) (T : Tab) (D : DTab) (N : Nat) {β : Type} (K : AV → Hp → Option β) (a0 : AV) (a1 : AV) (a2 : AV) (h : Hp) : o_ref31_rate P T D N K a0 a1 a2 h = f_ref31_rate P T D N K a0 a1 a2 h := by
  have eL2 : (fun s : St => iterK (fun s k => o_ref31_rate_L2 P T D N s.1 s.2 k) N s (o_ref31_rate_aL2 P T D N K)) = (fun s : St => f_ref31_rate_L2 P T D N (fun h => f_ref31_rate_j1 P T D N K h) (fun w30_6 h => K w30_6 h) N (s.1 0) (s.1 1) (s.1 7) (s.1 8) (s.1 9) s.2) := funext fun s => f_ref31_rate_L2_eq P T D N (o_ref31_rate_aL2 P T D N K) (fun h => f_ref31_rate_j1 P T D N K h) (fun w30_6 h => K w30_6 h) (fun s => rfl) (fun s => rfl) N s
  show o_ref31_rate_G P T D N (fun s => iterK (fun s k => o_ref31_rate_L2 P T D N s.1 s.2 k) N s (o_ref31_rate_aL2 P T D N K)) K a0 a1 a2 h = _
  rw [eL2]
  kernel_rfl
theorem o_ref31_rate_run (T : Tab) (D : DTab) (N : Nat) {β : Type} (K : AV → Hp → Option β) (a0 : AV) (a1 : AV) (a2 : AV) (h : Hp) : runK Try.prog T D N [0, 1, 2, 6, 7, 8, 9, 18, 45] Try.f39 K [a0, a1, a2] h = o_ref31_rate Try.prog T D N K a0 a1 a2 h := by kernel_rfl
theorem f_ref31_rate_run (T : Tab) (D : DTab) (N : Nat) {β : Type} (K : AV → Hp → Option β) (a0 : AV) (a1 : AV) (a2 : AV) (h : Hp) : runK Try.prog T D N [0, 1, 2, 6, 7, 8, 9, 18, 45] Try.f39 K [a0, a1, a2] h = f_ref31_rate Try.prog T D N K a0 a1 a2 h := (o_ref31_rate_run T D N K a0 a1 a2 h).trans (f_ref31_rate_old_eq Try.prog T D N K a0 a1 a2 h)
/-- spile/proportion.Of -/
def f_proportion_Of (P : Program) (T : Tab) (D : DTab) (N : Nat) {β : Type} (K : AV → Hp → Option β) (a0 : AV) (a1 : AV) (a2 : AV) (h : Hp) : Option β :=
effK (bsE 1 [.s (.int .i64 0)] 3 [(0, a0), (1, a1), (2, a2)] (List.length h)) h fun x1 h2 =>
callK (T 50) [x1] h2 fun x3 h4 =>
notK x3 fun x5 =>
condK x5 (
K (.tup [(.s (.int .i64 0)), (.s (.int .i64 0)), (.s (.int .i64 2))]) h4) (
eqK P false 3 a2 (.s (.int .i64 0)) h4 fun x6 =>
condK x6 (
K (.tup [(.s (.int .i64 0)), (.s (.int .i64 0)), (.s (.int .i64 16))]) h4) (
callK (T 51) [a0, a1, a2] h4 fun x7 h8 =>
exK x7 0 fun x9 =>
exK x7 1 fun x10 =>
exK x7 2 fun x11 =>
notK x11 fun x12 =>
condK x12 (
K (.tup [(.s (.int .i64 0)), (.s (.int .i64 0)), (.s (.int .i64 15))]) h8) (
K (.tup [x9, x10, (.s (.int .i64 0))]) h8)))
theorem f_proportion_Of_run (T : Tab) (D : DTab) (N : Nat) {β : Type} (K : AV → Hp → Option β) (a0 : AV) (a1 : AV) (a2 : AV) (h : Hp) : runK Try.prog T D N [0, 1, 2, 6, 7, 8, 9, 10, 11, 17, 19, 29] Try.f40 K [a0, a1, a2] h = f_proportion_Of Try.prog T D N K a0 a1 a2 h := by kernel_rfl
/-- spile/spileref01.Proportion -/
def f_ref01_Proportion (P : Program) (T : Tab) (D : DTab) (N : Nat) {β : Type} (K : AV → Hp → Option β) (a0 : AV) (a1 : AV) (a2 : AV) (h : Hp) : Option β :=
callK (T 52) [a0, a1, a2, (.s (.int .i64 128849018880000))] h fun x1 h2 =>
exK x1 0 fun x3 =>
exK x1 1 fun x4 =>
exK x1 2 fun x5 =>
K (.tup [x3, x4]) h2
theorem f_ref01_Proportion_run (T : Tab) (D : DTab) (N : Nat) {β : Type} (K : AV → Hp → Option β) (a0 : AV) (a1 : AV) (a2 : AV) (h : Hp) : runK Try.prog T D N [0, 1, 2, 6, 7, 8, 9] Try.f41 K [a0, a1, a2] h = f_ref01_Proportion Try.prog T D N K a0 a1 a2 h := by kernel_rfl
def f_season_on_j3 (P : Program) (T : Tab) (D : DTab) (N : Nat) {β : Type} (K : AV → Hp → Option β) (v1 : AV) (v3 : AV) (v5 : AV) (v8 : AV) (v11 : AV) (h : Hp) : Option β :=
ldK 1 false v3 h fun x29 =>
ldK 1 false v5 h fun x30 =>
callK (T 45) [x29, x30] h fun x31 h32 =>
exK x31 0 fun x33 =>
exK x31 1 fun x34 =>
notK x34 fun x35 =>
condK x35 (
K (.tup [(.s (.int .i64 0)), v11]) h32) (
ldK 1 false v3 h32 fun x36 =>
faK 1 v8 fun x37 =>
ldK 1 false x37 h32 fun x38 =>
callK (T 57) [x36, x33, v1, x38] h32 fun x39 h40 =>
K (.tup [x39, v11]) h40)
def f_season_on_j2 (P : Program) (T : Tab) (D : DTab) (N : Nat) {β : Type} (K : AV → Hp → Option β) (v1 : AV) (v3 : AV) (v5 : AV) (v8 : AV) (v11 : AV) (h : Hp) : Option β :=
ldK 1 false v3 h fun x41 =>
lenK x41 fun x42 =>
callK (T 55) [x42, (.fn 56 [v3, v5])] h fun x43 h44 =>
ldK 1 false v3 h44 fun x45 =>
lenK x45 fun x46 =>
arithK .lss x43 x46 fun x47 =>
condK x47 (
ldK 1 false v3 h44 fun x48 =>
iaK 4 x48 x43 fun x49 =>
faK 0 x49 fun x50 =>
ldK 1 false x50 h44 fun x51 =>
minK v11 x51 fun x52 =>
f_season_on_j3 P T D N K v1 v3 v5 v8 x52 h44) (
f_season_on_j3 P T D N K v1 v3 v5 v8 v11 h44)
def f_season_on_j1 (P : Program) (T : Tab) (D : DTab) (N : Nat) {β : Type} (K : AV → Hp → Option β) (v1 : AV) (v3 : AV) (v5 : AV) (v8 : AV) (v10 : AV) (h : Hp) : Option β :=
ldK 3 true v10 h fun x24 =>
callK (T 54) [x24] h fun x25 h26 =>
exK x25 0 fun x27 =>
exK x25 1 fun x28 =>
eqK P true 28 x28 (.s (.int .i64 0)) h26 fun x53 =>
condK x53 (
f_season_on_j2 P T D N K v1 v3 v5 v8 (.s (.int .i64 100001)) h26) (
f_season_on_j2 P T D N K v1 v3 v5 v8 x27 h26)
/-- spile/season.on -/
def f_season_on (P : Program) (T : Tab) (D : DTab) (N : Nat) {β : Type} (K : AV → Hp → Option β) (a0 : AV) (a1 : AV) (a2 : AV) (h : Hp) : Option β :=
effK (boxE 1 a0 (List.length h)) h fun x1 h2 =>
effK (boxE 1 a2 (List.length h2)) h2 fun x3 h4 =>
ldK 1 false x3 h4 fun x5 =>
callK (T 53) [x5] h4 fun x6 h7 =>
exK x6 0 fun x8 =>
exK x6 1 fun x9 =>
effK (boxE 3 (.agg [.s (.int .i64 0), .s (.int .i64 0), .s (.int .i64 0)]) (List.length h7)) h7 fun x10 h11 =>
effK (stE 3 x10 x8 h11) h11 fun x12 h13 =>
faK 0 x10 fun x14 =>
ldK 1 false x14 h13 fun x15 =>
faK 1 x10 fun x16 =>
ldK 1 false x16 h13 fun x17 =>
arithK .add x17 (.s (.int .i64 1)) fun x18 =>
buildK [.s (.int .i64 0), .s (.int .i64 0), .s (.int .i64 0)] [(some (0, 1), x15), (some (1, 1), x18), (some (2, 1), (.s (.int .i64 1)))] fun x19 =>
effK (boxE 3 (.agg [.s (.int .i64 0), .s (.int .i64 0), .s (.int .i64 0)]) (List.length h13)) h13 fun x20 h21 =>
effK (stE 3 x20 x19 h21) h21 fun x22 h23 =>
faK 1 x10 fun x54 =>
ldK 1 false x54 h23 fun x55 =>
eqK P false 3 x55 (.s (.int .i64 12)) h23 fun x56 =>
condK x56 (
faK 0 x10 fun x57 =>
ldK 1 false x57 h23 fun x58 =>
arithK .add x58 (.s (.int .i64 1)) fun x59 =>
faK 0 x20 fun x60 =>
effK (stE 1 x60 x59 h23) h23 fun x61 h62 =>
faK 1 x20 fun x63 =>
effK (stE 1 x63 (.s (.int .i64 1)) h62) h62 fun x64 h65 =>
f_season_on_j1 P T D N K a1 x1 x3 x10 x20 h65) (
f_season_on_j1 P T D N K a1 x1 x3 x10 x20 h23)
theorem f_season_on_run (T : Tab) (D : DTab) (N : Nat) {β : Type} (K : AV → Hp → Option β) (a0 : AV) (a1 : AV) (a2 : AV) (h : Hp) : runK Try.prog T D N [0, 1, 2, 3, 5, 6, 7, 8, 10, 11, 12, 13, 14, 15, 29, 41, 49, 64] Try.f42 K [a0, a1, a2] h = f_season_on Try.prog T D N K a0 a1 a2 h := by kernel_rfl
/-- spile/season.before -/
def f_season_before (P : Program) (T : Tab) (D : DTab) (N : Nat) {β : Type} (K : AV → Hp → Option β) (a0 : AV) (a1 : AV) (h : Hp) : Option β :=
effK (boxE 4 a0 (List.length h)) h fun x1 h2 =>
effK (boxE 4 a1 (List.length h2)) h2 fun x3 h4 =>
faK 0 x1 fun x5 =>
ldK 1 false x5 h4 fun x6 =>
faK 0 x3 fun x7 =>
ldK 1 false x7 h4 fun x8 =>
eqK P true 3 x6 x8 h4 fun x9 =>
condK x9 (
faK 0 x1 fun x10 =>
ldK 1 false x10 h4 fun x11 =>
faK 0 x3 fun x12 =>
ldK 1 false x12 h4 fun x13 =>
arithK .lss x11 x13 fun x14 =>
K x14 h4) (
faK 1 x1 fun x15 =>
ldK 1 false x15 h4 fun x16 =>
faK 1 x3 fun x17 =>
ldK 1 false x17 h4 fun x18 =>
eqK P true 3 x16 x18 h4 fun x19 =>
condK x19 (
faK 1 x1 fun x20 =>
ldK 1 false x20 h4 fun x21 =>
faK 1 x3 fun x22 =>
ldK 1 false x22 h4 fun x23 =>
arithK .lss x21 x23 fun x24 =>
K x24 h4) (
faK 2 x1 fun x25 =>
ldK 1 false x25 h4 fun x26 =>
faK 2 x3 fun x27 =>
ldK 1 false x27 h4 fun x28 =>
arithK .lss x26 x28 fun x29 =>
K x29 h4))
theorem f_season_before_run (T : Tab) (D : DTab) (N : Nat) {β : Type} (K : AV → Hp → Option β) (a0 : AV) (a1 : AV) (h : Hp) : runK Try.prog T D N [0, 1, 2, 3, 4, 9, 19] Try.f43 K [a0, a1] h = f_season_before Try.prog T D N K a0 a1 h := by kernel_rfl
/-- spile/spileref31.Behind -/
def f_ref31_Behind (P : Program) (T : Tab) (D : DTab) (N : Nat) {β : Type} (K : AV → Hp → Option β) (a0 : AV) (a1 : AV) (h : Hp) : Option β :=
effK (boxE 4 a0 (List.length h)) h fun x1 h2 =>
effK (boxE 4 a1 (List.length h2)) h2 fun x3 h4 =>
faK 0 x1 fun x5 =>
ldK 1 false x5 h4 fun x6 =>
faK 0 x3 fun x7 =>
ldK 1 false x7 h4 fun x8 =>
eqK P true 3 x6 x8 h4 fun x9 =>
condK x9 (
faK 0 x1 fun x10 =>
ldK 1 false x10 h4 fun x11 =>
faK 0 x3 fun x12 =>
ldK 1 false x12 h4 fun x13 =>
arithK .gtr x11 x13 fun x14 =>
K x14 h4) (
faK 1 x1 fun x15 =>
ldK 1 false x15 h4 fun x16 =>
faK 1 x3 fun x17 =>
ldK 1 false x17 h4 fun x18 =>
eqK P true 3 x16 x18 h4 fun x19 =>
condK x19 (
faK 1 x1 fun x20 =>
ldK 1 false x20 h4 fun x21 =>
faK 1 x3 fun x22 =>
ldK 1 false x22 h4 fun x23 =>
arithK .gtr x21 x23 fun x24 =>
K x24 h4) (
faK 2 x1 fun x25 =>
ldK 1 false x25 h4 fun x26 =>
faK 2 x3 fun x27 =>
ldK 1 false x27 h4 fun x28 =>
arithK .gtr x26 x28 fun x29 =>
K x29 h4))
theorem f_ref31_Behind_run (T : Tab) (D : DTab) (N : Nat) {β : Type} (K : AV → Hp → Option β) (a0 : AV) (a1 : AV) (h : Hp) : runK Try.prog T D N [0, 1, 2, 3, 4, 9, 19] Try.f44 K [a0, a1] h = f_ref31_Behind Try.prog T D N K a0 a1 h := by kernel_rfl
/-- spile/season.version -/
def f_season_version (P : Program) (T : Tab) (D : DTab) (N : Nat) {β : Type} (K : AV → Hp → Option β) (a0 : AV) (a1 : AV) (h : Hp) : Option β :=
effK (boxE 1 a0 (List.length h)) h fun x1 h2 =>
effK (boxE 1 a1 (List.length h2)) h2 fun x3 h4 =>
ldK 1 false x1 h4 fun x5 =>
lenK x5 fun x6 =>
callK (T 55) [x6, (.fn 58 [x1, x3])] h4 fun x7 h8 =>
eqK P false 3 x7 (.s (.int .i64 0)) h8 fun x9 =>
condK x9 (
K (.tup [(.s (.int .i64 0)), (.s (.bool false))]) h8) (
ldK 1 false x1 h8 fun x10 =>
arithK .sub x7 (.s (.int .i64 1)) fun x11 =>
iaK 4 x10 x11 fun x12 =>
faK 0 x12 fun x13 =>
ldK 1 false x13 h8 fun x14 =>
K (.tup [x14, (.s (.bool true))]) h8)
theorem f_season_version_run (T : Tab) (D : DTab) (N : Nat) {β : Type} (K : AV → Hp → Option β) (a0 : AV) (a1 : AV) (h : Hp) : runK Try.prog T D N [0, 1, 2, 3, 4, 5, 6, 12] Try.f45 K [a0, a1] h = f_season_version Try.prog T D N K a0 a1 h := by kernel_rfl
def o_ref31_Version_j1 (P : Program) (T : Tab) (D : DTab) (N : Nat) {β : Type} (K : AV → Hp → Option β) (t : Tm) (h : Hp) : Option β :=
K (t 5) h
def o_ref31_Version_j3 (P : Program) (T : Tab) (D : DTab) (N : Nat) {β : Type} (k : Ex → St → Option β) (t : Tm) (h : Hp) : Option β :=
arithK .add (t 6) (.s (.int .i64 1)) fun x3 =>
k .normal ((upd t 6 x3), h)
def o_ref31_Version_j4 (P : Program) (T : Tab) (D : DTab) (N : Nat) {β : Type} (k : Ex → St → Option β) (t : Tm) (h : Hp) : Option β :=
(o_ref31_Version_j3 P T D N k t h)
def o_ref31_Version_L2 (P : Program) (T : Tab) (D : DTab) (N : Nat) {β : Type} (t : Tm) (h : Hp) (k : Ex → St → Option β) : Option β :=
lenK (t 0) fun x1 =>
arithK .lss (t 6) x1 fun x2 =>
condK x2 (
iaK 4 (t 0) (t 6) fun x4 =>
faK 0 x4 fun x5 =>
ldK 1 false x5 h fun x6 =>
arithK .leq x6 (t 1) fun x7 =>
grpK true x7 h (fun k8 =>
iaK 4 (t 0) (t 6) fun x9 =>
faK 0 x9 fun x10 =>
ldK 1 false x10 h fun x11 =>
arithK .gtr x11 (t 5) fun x12 =>
k8 x12 h) fun x13 h14 =>
condK x13 (
iaK 4 (t 0) (t 6) fun x15 =>
faK 0 x15 fun x16 =>
ldK 1 false x16 h14 fun x17 =>
(o_ref31_Version_j4 P T D N k (upd (upd (upd t 10 x2) 28 x13) 5 x17) h14)) (
(o_ref31_Version_j4 P T D N k (upd (upd t 10 x2) 28 x13) h14))) (
k (.exit 0) ((upd t 10 x2), h))
def o_ref31_Version_aL2 (P : Program) (T : Tab) (D : DTab) (N : Nat) {β : Type} (K : AV → Hp → Option β) (e : Ex) (s : St) : Option β :=
  e.on ((o_ref31_Version_j1 P T D N K s.1 s.2))
  (fun i => bif i == 0 then ((o_ref31_Version_j1 P T D N K s.1 s.2)) else (none))
  (K (s.1 4) s.2)
def o_ref31_Version_G (P : Program) (T : Tab) (D : DTab) (N : Nat) {β : Type} (cL2 : St → Option β) (K : AV → Hp → Option β) (a0 : AV) (a1 : AV) (h : Hp) :  Option β :=
cL2 ((upd (upd (upd (tm0 [a0, a1]) 4 (.s (.int .i64 0))) 5 (.s (.int .i64 (-1)))) 6 (.s (.int .i64 0))), h)
def o_ref31_Version (P : Program) (T : Tab) (D : DTab) (N : Nat) {β : Type} (K : AV → Hp → Option β) (a0 : AV) (a1 : AV) (h : Hp) : Option β := o_ref31_Version_G P T D N (fun s => iterK (fun s k => o_ref31_Version_L2 P T D N s.1 s.2 k) N s (o_ref31_Version_aL2 P T D N K)) K a0 a1 h
def f_ref31_Version_j1 (P : Program) (T : Tab) (D : DTab) (N : Nat) {β : Type} (K : AV → Hp → Option β) (v5 : AV) (h : Hp) : Option β :=
K v5 h
def f_ref31_Version_j3 (P : Program) (T : Tab) (D : DTab) (N : Nat) {β : Type} (xn : AV → AV → AV → AV → Hp → Option β) (x0 : AV → Hp → Option β) (v0 : AV) (v1 : AV) (v5 : AV) (v6 : AV) (h : Hp) : Option β :=
arithK .add v6 (.s (.int .i64 1)) fun x3 =>
xn v0 v1 v5 x3 h
def f_ref31_Version_j4 (P : Program) (T : Tab) (D : DTab) (N : Nat) {β : Type} (xn : AV → AV → AV → AV → Hp → Option β) (x0 : AV → Hp → Option β) (v0 : AV) (v1 : AV) (v5 : AV) (v6 : AV) (h : Hp) : Option β :=
f_ref31_Version_j3 P T D N xn x0 v0 v1 v5 v6 h
def f_ref31_Version_b2 (P : Program) (T : Tab) (D : DTab) (N : Nat) {β : Type} (xn : AV → AV → AV → AV → Hp → Option β) (x0 : AV → Hp → Option β) (v0 : AV) (v1 : AV) (v5 : AV) (v6 : AV) (h : Hp) : Option β :=
lenK v0 fun x1 =>
arithK .lss v6 x1 fun x2 =>
condK x2 (
iaK 4 v0 v6 fun x4 =>
faK 0 x4 fun x5 =>
ldK 1 false x5 h fun x6 =>
arithK .leq x6 v1 fun x7 =>
grpK true x7 h (fun k8 =>
iaK 4 v0 v6 fun x9 =>
faK 0 x9 fun x10 =>
ldK 1 false x10 h fun x11 =>
arithK .gtr x11 v5 fun x12 =>
k8 x12 h) fun x13 h14 =>
condK x13 (
iaK 4 v0 v6 fun x15 =>
faK 0 x15 fun x16 =>
ldK 1 false x16 h14 fun x17 =>
f_ref31_Version_j4 P T D N xn x0 v0 v1 x17 v6 h14) (
f_ref31_Version_j4 P T D N xn x0 v0 v1 v5 v6 h14)) (
x0 v5 h)
def f_ref31_Version_L2 (P : Program) (T : Tab) (D : DTab) (N : Nat) {β : Type} (x0 : AV → Hp → Option β) : Nat → AV → AV → AV → AV → Hp → Option β
  | 0 => fun _ _ _ _ _ => none
  | n + 1 => fun v0 v1 v5 v6 h => f_ref31_Version_b2 P T D N (f_ref31_Version_L2 P T D N x0 n) x0 v0 v1 v5 v6 h
/-- spile/spileref31.Version -/
def f_ref31_Version (P : Program) (T : Tab) (D : DTab) (N : Nat) {β : Type} (K : AV → Hp → Option β) (a0 : AV) (a1 : AV) (h : Hp) : Option β :=
f_ref31_Version_L2 P T D N (fun w18_5 h => f_ref31_Version_j1 P T D N K w18_5 h) N a0 a1 (.s (.int .i64 (-1))) (.s (.int .i64 0)) h
theorem f_ref31_Version_j1_eq (P : Program) (T : Tab) (D : DTab) (N : Nat) {β : Type} (K : AV → Hp → Option β) (t : Tm) (h : Hp) : o_ref31_Version_j1 P T D N K t h = f_ref31_Version_j1 P T D N K (t 5) h := by kernel_rfl
theorem f_ref31_Version_j3_eq (P : Program) (T : Tab) (D : DTab) (N : Nat) {β : Type} (xn : AV → AV → AV → AV → Hp → Option β) (x0 : AV → Hp → Option β) (xd : Nat → St → Option β) (xq : St → Option β) (t : Tm) (h : Hp) : o_ref31_Version_j3 P T D N (fun (e : Ex) (s : St) => e.on (xn (s.1 0) (s.1 1) (s.1 5) (s.1 6) s.2) (fun i => (bif i == 0 then x0 (s.1 5) s.2 else (xd i s))) (xq s)) t h = f_ref31_Version_j3 P T D N xn x0 (t 0) (t 1) (t 5) (t 6) h := by kernel_rfl
theorem f_ref31_Version_j4_eq (P : Program) (T : Tab) (D : DTab) (N : Nat) {β : Type} (xn : AV → AV → AV → AV → Hp → Option β) (x0 : AV → Hp → Option β) (xd : Nat → St → Option β) (xq : St → Option β) (t : Tm) (h : Hp) : o_ref31_Version_j4 P T D N (fun (e : Ex) (s : St) => e.on (xn (s.1 0) (s.1 1) (s.1 5) (s.1 6) s.2) (fun i => (bif i == 0 then x0 (s.1 5) s.2 else (xd i s))) (xq s)) t h = f_ref31_Version_j4 P T D N xn x0 (t 0) (t 1) (t 5) (t 6) h := by kernel_rfl
theorem f_ref31_Version_b2_eq (P : Program) (T : Tab) (D : DTab) (N : Nat) {β : Type} (xn : AV → AV → AV → AV → Hp → Option β) (x0 : AV → Hp → Option β) (xd : Nat → St → Option β) (xq : St → Option β) (t : Tm) (h : Hp) : o_ref31_Version_L2 P T D N t h (fun (e : Ex) (s : St) => e.on (xn (s.1 0) (s.1 1) (s.1 5) (s.1 6) s.2) (fun i => (bif i == 0 then x0 (s.1 5) s.2 else (xd i s))) (xq s)) = f_ref31_Version_b2 P T D N xn x0 (t 0) (t 1) (t 5) (t 6) h := by kernel_rfl
theorem f_ref31_Version_L2_eq (P : Program) (T : Tab) (D : DTab) (N : Nat) {β : Type} (A : Ex → St → Option β) (x0 : AV → Hp → Option β) (q0 : ∀ s, A (.exit 0) s = x0 (s.1 5) s.2) : ∀ (n : Nat) (s : St), iterK (fun s k => o_ref31_Version_L2 P T D N s.1 s.2 k) n s A = f_ref31_Version_L2 P T D N x0 n (s.1 0) (s.1 1) (s.1 5) (s.1 6) s.2 := by
  intro n
  induction n with
  | zero => intro s; rfl
  | succ n ih =>
    intro s
    have hk : (fun (e : Ex) (s' : St) => Ex.on e (iterK (fun s k => o_ref31_Version_L2 P T D N s.1 s.2 k) n s' A) (fun i => A (.exit i) s') (A .ret s')) = (fun (e : Ex) (s : St) => e.on ((f_ref31_Version_L2 P T D N x0 n) (s.1 0) (s.1 1) (s.1 5) (s.1 6) s.2) (fun i => (bif i == 0 then x0 (s.1 5) s.2 else (A (.exit i) s))) (A .ret s)) := by
      funext e s'
      cases e with
      | normal => exact ih s'
      | ret => exact rfl
      | exit i =>
        by_cases r0 : i = 0
        · subst r0; exact q0 s'
        simp only [Ex.on, beq_false_of_ne r0, cond_false]
    show o_ref31_Version_L2 P T D N s.1 s.2 (fun (e : Ex) (s' : St) => Ex.on e (iterK (fun s k => o_ref31_Version_L2 P T D N s.1 s.2 k) n s' A) (fun i => A (.exit i) s') (A .ret s')) = _
    rw [hk]
    exact f_ref31_Version_b2_eq P T D N (f_ref31_Version_L2 P T D N x0 n) x0 (fun i s => A (.exit i) s) (fun s => A .ret s) s.1 s.2
theorem f_ref31_Version_old_eq (P : Program) (T : Tab) (D : DTab) (N : Nat) {β : Type} (K : AV → Hp → Option β) (a0 : AV) (a1 : AV) (h : Hp) : o_ref31_Version P T D N K a0 a1 h = f_ref31_Version P T D N K a0 a1 h := by
  have eL2 : (fun s : St => iterK (fun s k => o_ref31_Version_L2 P T D N s.1 s.2 k) N s (o_ref31_Version_aL2 P T D N K)) = (fun s : St => f_ref31_Version_L2 P T D N (fun w18_5 h => f_ref31_Version_j1 P T D N K w18_5 h) N (s.1 0) (s.1 1) (s.1 5) (s.1 6) s.2) := funext fun s => f_ref31_Version_L2_eq P T D N (o_ref31_Version_aL2 P T D N K) (fun w18_5 h => f_ref31_Version_j1 P T D N K w18_5 h) (fun s => rfl) N s
  show o_ref31_Version_G P T D N (fun s => iterK (fun s k => o_ref31_Version_L2 P T D N s.1 s.2 k) N s (o_ref31_Version_aL2 P T D N K)) K a0 a1 h = _
  rw [eL2]
  kernel_rfl
theorem o_ref31_Version_run (T : Tab) (D : DTab) (N : Nat) {β : Type} (K : AV → Hp → Option β) (a0 : AV) (a1 : AV) (h : Hp) : runK Try.prog T D N [0, 1, 4, 5, 6, 10, 28] Try.f46 K [a0, a1] h = o_ref31_Version Try.prog T D N K a0 a1 h := by kernel_rfl
theorem f_ref31_Version_run (T : Tab) (D : DTab) (N : Nat) {β : Type} (K : AV → Hp → Option β) (a0 : AV) (a1 : AV) (h : Hp) : runK Try.prog T D N [0, 1, 4, 5, 6, 10, 28] Try.f46 K [a0, a1] h = f_ref31_Version Try.prog T D N K a0 a1 h := (o_ref31_Version_run T D N K a0 a1 h).trans (f_ref31_Version_old_eq Try.prog T D N K a0 a1 h)
def o_slices_IndexFunc_Allowance_j1 (P : Program) (T : Tab) (D : DTab) (N : Nat) {β : Type} (K : AV → Hp → Option β) (t : Tm) (h : Hp) : Option β :=
K (.s (.int .i64 (-1))) h
def o_slices_IndexFunc_Allowance_L2 (P : Program) (T : Tab) (D : DTab) (N : Nat) {β : Type} (t : Tm) (h : Hp) (k : Ex → St → Option β) : Option β :=
arithK .lss (t 8) (t 7) fun x2 =>
condK x2 (
iaK 4 (t 0) (t 8) fun x3 =>
ldK 4 true x3 h fun x4 =>
callVK T (t 1) [x4] h fun x5 h6 =>
condK x5 (
k .ret ((upd (upd (upd (upd t 9 x2) 5 (t 8)) 16 x5) 4 (t 8)), h6)) (
arithK .add (t 8) (.s (.int .i64 1)) fun x7 =>
k .normal ((upd (upd (upd (upd t 9 x2) 5 (t 8)) 16 x5) 8 x7), h6))) (
k (.exit 0) ((upd t 9 x2), h))
def o_slices_IndexFunc_Allowance_aL2 (P : Program) (T : Tab) (D : DTab) (N : Nat) {β : Type} (K : AV → Hp → Option β) (e : Ex) (s : St) : Option β :=
  e.on ((o_slices_IndexFunc_Allowance_j1 P T D N K s.1 s.2))
  (fun i => bif i == 0 then ((o_slices_IndexFunc_Allowance_j1 P T D N K s.1 s.2)) else (none))
  (K (s.1 4) s.2)
def o_slices_IndexFunc_Allowance_G (P : Program) (T : Tab) (D : DTab) (N : Nat) {β : Type} (cL2 : St → Option β) (K : AV → Hp → Option β) (a0 : AV) (a1 : AV) (h : Hp) :  Option β :=
lenK a0 fun x1 =>
cL2 ((upd (upd (upd (tm0 [a0, a1]) 4 (.s (.int .i64 0))) 7 x1) 8 (.s (.int .i64 0))), h)
def o_slices_IndexFunc_Allowance (P : Program) (T : Tab) (D : DTab) (N : Nat) {β : Type} (K : AV → Hp → Option β) (a0 : AV) (a1 : AV) (h : Hp) : Option β := o_slices_IndexFunc_Allowance_G P T D N (fun s => iterK (fun s k => o_slices_IndexFunc_Allowance_L2 P T D N s.1 s.2 k) N s (o_slices_IndexFunc_Allowance_aL2 P T D N K)) K a0 a1 h
def f_slices_IndexFunc_Allowance_j1 (P : Program) (T : Tab) (D : DTab) (N : Nat) {β : Type} (K : AV → Hp → Option β) (h : Hp) : Option β :=
K (.s (.int .i64 (-1))) h
def f_slices_IndexFunc_Allowance_b2 (P : Program) (T : Tab) (D : DTab) (N : Nat) {β : Type} (xn : AV → AV → AV → AV → Hp → Option β) (x0 : Hp → Option β) (xr : AV → Hp → Option β) (v0 : AV) (v1 : AV) (v7 : AV) (v8 : AV) (h : Hp) : Option β :=
arithK .lss v8 v7 fun x2 =>
condK x2 (
iaK 4 v0 v8 fun x3 =>
ldK 4 true x3 h fun x4 =>
callVK T v1 [x4] h fun x5 h6 =>
condK x5 (
xr v8 h6) (
arithK .add v8 (.s (.int .i64 1)) fun x7 =>
xn v0 v1 v7 x7 h6)) (
x0 h)
def f_slices_IndexFunc_Allowance_L2 (P : Program) (T : Tab) (D : DTab) (N : Nat) {β : Type} (x0 : Hp → Option β) (xr : AV → Hp → Option β) : Nat → AV → AV → AV → AV → Hp → Option β
  | 0 => fun _ _ _ _ _ => none
  | n + 1 => fun v0 v1 v7 v8 h => f_slices_IndexFunc_Allowance_b2 P T D N (f_slices_IndexFunc_Allowance_L2 P T D N x0 xr n) x0 xr v0 v1 v7 v8 h
/-- slices.IndexFunc[[]spile/api.Allowance,spile/api.Allowance] -/
def f_slices_IndexFunc_Allowance (P : Program) (T : Tab) (D : DTab) (N : Nat) {β : Type} (K : AV → Hp → Option β) (a0 : AV) (a1 : AV) (h : Hp) : Option β :=
lenK a0 fun x1 =>
f_slices_IndexFunc_Allowance_L2 P T D N (fun h => f_slices_IndexFunc_Allowance_j1 P T D N K h) (fun w9_4 h => K w9_4 h) N a0 a1 x1 (.s (.int .i64 0)) h
theorem f_slices_IndexFunc_Allowance_j1_eq (P : Program) (T : Tab) (D : DTab) (N : Nat) {β : Type} (K : AV → Hp → Option β) (t : Tm) (h : Hp) : o_slices_IndexFunc_Allowance_j1 P T D N K t h = f_slices_IndexFunc_Allowance_j1 P T D N K h := by kernel_rfl
theorem f_slices_IndexFunc_Allowance_b2_eq (P : Program) (T : Tab) (D : DTab) (N : Nat) {β : Type} (xn : AV → AV → AV → AV → Hp → Option β) (x0 : Hp → Option β) (xr : AV → Hp → Option β) (xd : Nat → St → Option β) (xq : St → Option β) (t : Tm) (h : Hp) : o_slices_IndexFunc_Allowance_L2 P T D N t h (fun (e : Ex) (s : St) => e.on (xn (s.1 0) (s.1 1) (s.1 7) (s.1 8) s.2) (fun i => (bif i == 0 then x0 s.2 else (xd i s))) (xr (s.1 4) s.2)) = f_slices_IndexFunc_Allowance_b2 P T D N xn x0 xr (t 0) (t 1) (t 7) (t 8) h := by kernel_rfl
theorem f_slices_IndexFunc_Allowance_L2_eq (P : Program) (T : Tab) (D : DTab) (N : Nat) {β : Type} (A : Ex → St → Option β) (x0 : Hp → Option β) (xr : AV → Hp → Option β) (q0 : ∀ s, A (.exit 0) s = x0 s.2) (qr : ∀ s, A .ret s = xr (s.1 4) s.2) : ∀ (n : Nat) (s : St), iterK (fun s k => o_slices_IndexFunc_Allowance_L2 P T D N s.1 s.2 k) n s A = f_slices_IndexFunc_Allowance_L2 P T D N x0 xr n (s.1 0) (s.1 1) (s.1 7) (s.1 8) s.2 := by
  intro n
  induction n with
  | zero => intro s; rfl
  | succ n ih =>
    intro s
    have hk : (fun (e : Ex) (s' : St) => Ex.on e (iterK (fun s k => o_slices_IndexFunc_Allowance_L2 P T D N s.1 s.2 k) n s' A) (fun i => A (.exit i) s') (A .ret s')) = (fun (e : Ex) (s : St) => e.on ((f_slices_IndexFunc_Allowance_L2 P T D N x0 xr n) (s.1 0) (s.1 1) (s.1 7) (s.1 8) s.2) (fun i => (bif i == 0 then x0 s.2 else (A (.exit i) s))) (xr (s.1 4) s.2)) := by
      funext e s'
      cases e with
      | normal => exact ih s'
      | ret => exact qr s'
      | exit i =>
        by_cases r0 : i = 0
        · subst r0; exact q0 s'
        simp only [Ex.on, beq_false_of_ne r0, cond_false]
    show o_slices_IndexFunc_Allowance_L2 P T D N s.1 s.2 (fun (e : Ex) (s' : St) => Ex.on e (iterK (fun s k => o_slices_IndexFunc_Allowance_L2 P T D N s.1 s.2 k) n s' A) (fun i => A (.exit i) s') (A .ret s')) = _
    rw [hk]
    exact f_slices_IndexFunc_Allowance_b2_eq P T D N (f_slices_IndexFunc_Allowance_L2 P T D N x0 xr n) x0 xr (fun i s => A (.exit i) s) (fun s => A .ret s) s.1 s.2
theorem f_slices_IndexFunc_Allowance_old_eq (P : Program) (T : Tab) (D : DTab) (N : Nat) {β : Type} (K : AV → Hp → Option β) (a0 : AV) (a1 : AV) (h : Hp) : o_slices_IndexFunc_Allowance P T D N K a0 a1 h = f_slices_IndexFunc_Allowance P T D N K a0 a1 h := by
  have eL2 : (fun s : St => iterK (fun s k => o_slices_IndexFunc_Allowance_L2 P T D N s.1 s.2 k) N s (o_slices_IndexFunc_Allowance_aL2 P T D N K)) = (fun s : St => f_slices_IndexFunc_Allowance_L2 P T D N (fun h => f_slices_IndexFunc_Allowance_j1 P T D N K h) (fun w9_4 h => K w9_4 h) N (s.1 0) (s.1 1) (s.1 7) (s.1 8) s.2) := funext fun s => f_slices_IndexFunc_Allowance_L2_eq P T D N (o_slices_IndexFunc_Allowance_aL2 P T D N K) (fun h => f_slices_IndexFunc_Allowance_j1 P T D N K h) (fun w9_4 h => K w9_4 h) (fun s => rfl) (fun s => rfl) N s
  show o_slices_IndexFunc_Allowance_G P T D N (fun s => iterK (fun s k => o_slices_IndexFunc_Allowance_L2 P T D N s.1 s.2 k) N s (o_slices_IndexFunc_Allowance_aL2 P T D N K)) K a0 a1 h = _
  rw [eL2]
  kernel_rfl
theorem o_slices_IndexFunc_Allowance_run (T : Tab) (D : DTab) (N : Nat) {β : Type} (K : AV → Hp → Option β) (a0 : AV) (a1 : AV) (h : Hp) : runK Try.prog T D N [0, 1, 4, 5, 7, 8, 9, 16] Try.f47 K [a0, a1] h = o_slices_IndexFunc_Allowance Try.prog T D N K a0 a1 h := by kernel_rfl
theorem f_slices_IndexFunc_Allowance_run (T : Tab) (D : DTab) (N : Nat) {β : Type} (K : AV → Hp → Option β) (a0 : AV) (a1 : AV) (h : Hp) : runK Try.prog T D N [0, 1, 4, 5, 7, 8, 9, 16] Try.f47 K [a0, a1] h = f_slices_IndexFunc_Allowance Try.prog T D N K a0 a1 h := (o_slices_IndexFunc_Allowance_run T D N K a0 a1 h).trans (f_slices_IndexFunc_Allowance_old_eq Try.prog T D N K a0 a1 h)
def o_slices_Concat_Allowance_j2 (P : Program) (T : Tab) (D : DTab) (N : Nat) {β : Type} (K : AV → Hp → Option β) (t : Tm) (h : Hp) : Option β :=
K (t 6) h
def o_slices_Concat_Allowance_L3 (P : Program) (T : Tab) (D : DTab) (N : Nat) {β : Type} (t : Tm) (h : Hp) (k : Ex → St → Option β) : Option β :=
arithK .lss (t 27) (t 26) fun x5 =>
condK x5 (
iaK 1 (t 25) (t 27) fun x6 =>
ldK 1 false x6 h fun x7 =>
effK (appE 4 32 (t 6) x7 h (List.length h)) h fun x8 h9 =>
arithK .add (t 27) (.s (.int .i64 1)) fun x10 =>
k .normal ((upd (upd (upd (upd t 28 x5) 8 x7) 6 x8) 27 x10), h9)) (
k (.exit 2) ((upd t 28 x5), h))
def o_slices_Concat_Allowance_aL3 (P : Program) (T : Tab) (D : DTab) (N : Nat) {β : Type} (K : AV → Hp → Option β) (e : Ex) (s : St) : Option β :=
  e.on ((o_slices_Concat_Allowance_j2 P T D N K s.1 s.2))
  (fun i => bif i == 2 then ((o_slices_Concat_Allowance_j2 P T D N K s.1 s.2)) else (none))
  (K (s.1 2) s.2)
def o_slices_Concat_Allowance_j1_G (P : Program) (T : Tab) (D : DTab) (N : Nat) {β : Type} (cL3 : St → Option β) (K : AV → Hp → Option β) (t : Tm) (h : Hp) :  Option β :=
callK (T 59) [(.s (.slice none 0 0)), (t 3)] h fun x2 h3 =>
lenK (t 0) fun x4 =>
cL3 ((upd (upd (upd (upd t 6 x2) 25 (t 0)) 26 x4) 27 (.s (.int .i64 0))), h3)
def o_slices_Concat_Allowance_j1 (P : Program) (T : Tab) (D : DTab) (N : Nat) {β : Type} (K : AV → Hp → Option β) (t : Tm) (h : Hp) : Option β := o_slices_Concat_Allowance_j1_G P T D N (fun s => iterK (fun s k => o_slices_Concat_Allowance_L3 P T D N s.1 s.2 k) N s (o_slices_Concat_Allowance_aL3 P T D N K)) K t h
def o_slices_Concat_Allowance_j5 (P : Program) (T : Tab) (D : DTab) (N : Nat) {β : Type} (k : Ex → St → Option β) (t : Tm) (h : Hp) : Option β :=
arithK .add (t 11) (.s (.int .i64 1)) fun x12 =>
k .normal ((upd t 11 x12), h)
def o_slices_Concat_Allowance_j6 (P : Program) (T : Tab) (D : DTab) (N : Nat) {β : Type} (k : Ex → St → Option β) (t : Tm) (h : Hp) : Option β :=
(o_slices_Concat_Allowance_j5 P T D N k t h)
def o_slices_Concat_Allowance_L4 (P : Program) (T : Tab) (D : DTab) (N : Nat) {β : Type} (t : Tm) (h : Hp) (k : Ex → St → Option β) : Option β :=
arithK .lss (t 11) (t 10) fun x11 =>
condK x11 (
iaK 1 (t 9) (t 11) fun x13 =>
ldK 1 false x13 h fun x14 =>
lenK x14 fun x15 =>
arithK .add (t 3) x15 fun x16 =>
arithK .lss x16 (.s (.int .i64 0)) fun x17 =>
condK x17 (
none) (
(o_slices_Concat_Allowance_j6 P T D N k (upd (upd (upd (upd t 12 x11) 5 x14) 3 x16) 20 x17) h))) (
k (.exit 0) ((upd t 12 x11), h))
def o_slices_Concat_Allowance_aL4 (P : Program) (T : Tab) (D : DTab) (N : Nat) {β : Type} (K : AV → Hp → Option β) (e : Ex) (s : St) : Option β :=
  e.on ((o_slices_Concat_Allowance_j1 P T D N K s.1 s.2))
  (fun i => bif i == 0 then ((o_slices_Concat_Allowance_j1 P T D N K s.1 s.2)) else (none))
  (K (s.1 2) s.2)
def o_slices_Concat_Allowance_G (P : Program) (T : Tab) (D : DTab) (N : Nat) {β : Type} (cL4 : St → Option β) (K : AV → Hp → Option β) (a0 : AV) (h : Hp) :  Option β :=
lenK a0 fun x1 =>
cL4 ((upd (upd (upd (upd (upd (tm0 [a0]) 2 (.s (.slice none 0 0))) 3 (.s (.int .i64 0))) 9 a0) 10 x1) 11 (.s (.int .i64 0))), h)
def o_slices_Concat_Allowance (P : Program) (T : Tab) (D : DTab) (N : Nat) {β : Type} (K : AV → Hp → Option β) (a0 : AV) (h : Hp) : Option β := o_slices_Concat_Allowance_G P T D N (fun s => iterK (fun s k => o_slices_Concat_Allowance_L4 P T D N s.1 s.2 k) N s (o_slices_Concat_Allowance_aL4 P T D N K)) K a0 h
def f_slices_Concat_Allowance_j2 (P : Program) (T : Tab) (D : DTab) (N : Nat) {β : Type} (K : AV → Hp → Option β) (v6 : AV) (h : Hp) : Option β :=
K v6 h
def f_slices_Concat_Allowance_b3 (P : Program) (T : Tab) (D : DTab) (N : Nat) {β : Type} (xn : AV → AV → AV → AV → Hp → Option β) (x2 : AV → Hp → Option β) (v6 : AV) (v25 : AV) (v26 : AV) (v27 : AV) (h : Hp) : Option β :=
arithK .lss v27 v26 fun x5 =>
condK x5 (
iaK 1 v25 v27 fun x6 =>
ldK 1 false x6 h fun x7 =>
effK (appE 4 32 v6 x7 h (List.length h)) h fun x8 h9 =>
arithK .add v27 (.s (.int .i64 1)) fun x10 =>
xn x8 v25 v26 x10 h9) (
x2 v6 h)
def f_slices_Concat_Allowance_L3 (P : Program) (T : Tab) (D : DTab) (N : Nat) {β : Type} (x2 : AV → Hp → Option β) : Nat → AV → AV → AV → AV → Hp → Option β
  | 0 => fun _ _ _ _ _ => none
  | n + 1 => fun v6 v25 v26 v27 h => f_slices_Concat_Allowance_b3 P T D N (f_slices_Concat_Allowance_L3 P T D N x2 n) x2 v6 v25 v26 v27 h
def f_slices_Concat_Allowance_j1 (P : Program) (T : Tab) (D : DTab) (N : Nat) {β : Type} (K : AV → Hp → Option β) (v0 : AV) (v3 : AV) (h : Hp) : Option β :=
callK (T 59) [(.s (.slice none 0 0)), v3] h fun x2 h3 =>
lenK v0 fun x4 =>
f_slices_Concat_Allowance_L3 P T D N (fun w11_6 h => f_slices_Concat_Allowance_j2 P T D N K w11_6 h) N x2 v0 x4 (.s (.int .i64 0)) h3
def f_slices_Concat_Allowance_j5 (P : Program) (T : Tab) (D : DTab) (N : Nat) {β : Type} (xn : AV → AV → AV → AV → AV → Hp → Option β) (x0 : AV → AV → Hp → Option β) (v0 : AV) (v3 : AV) (v9 : AV) (v10 : AV) (v11 : AV) (h : Hp) : Option β :=
arithK .add v11 (.s (.int .i64 1)) fun x13 =>
xn v0 v3 v9 v10 x13 h
def f_slices_Concat_Allowance_j6 (P : Program) (T : Tab) (D : DTab) (N : Nat) {β : Type} (xn : AV → AV → AV → AV → AV → Hp → Option β) (x0 : AV → AV → Hp → Option β) (v0 : AV) (v3 : AV) (v9 : AV) (v10 : AV) (v11 : AV) (h : Hp) : Option β :=
f_slices_Concat_Allowance_j5 P T D N xn x0 v0 v3 v9 v10 v11 h
def f_slices_Concat_Allowance_b4 (P : Program) (T : Tab) (D : DTab) (N : Nat) {β : Type} (xn : AV → AV → AV → AV → AV → Hp → Option β) (x0 : AV → AV → Hp → Option β) (v0 : AV) (v3 : AV) (v9 : AV) (v10 : AV) (v11 : AV) (h : Hp) : Option β :=
arithK .lss v11 v10 fun x12 =>
condK x12 (
iaK 1 v9 v11 fun x14 =>
ldK 1 false x14 h fun x15 =>
lenK x15 fun x16 =>
arithK .add v3 x16 fun x17 =>
arithK .lss x17 (.s (.int .i64 0)) fun x18 =>
condK x18 (
none) (
f_slices_Concat_Allowance_j6 P T D N xn x0 v0 x17 v9 v10 v11 h)) (
x0 v0 v3 h)
def f_slices_Concat_Allowance_L4 (P : Program) (T : Tab) (D : DTab) (N : Nat) {β : Type} (x0 : AV → AV → Hp → Option β) : Nat → AV → AV → AV → AV → AV → Hp → Option β
  | 0 => fun _ _ _ _ _ _ => none
  | n + 1 => fun v0 v3 v9 v10 v11 h => f_slices_Concat_Allowance_b4 P T D N (f_slices_Concat_Allowance_L4 P T D N x0 n) x0 v0 v3 v9 v10 v11 h
/-- slices.Concat[[]spile/api.Allowance,spile/api.Allowance] -/
def f_slices_Concat_Allowance (P : Program) (T : Tab) (D : DTab) (N : Nat) {β : Type} (K : AV → Hp → Option β) (a0 : AV) (h : Hp) : Option β :=
lenK a0 fun x1 =>
f_slices_Concat_Allowance_L4 P T D N (fun w19_0 w19_3 h => f_slices_Concat_Allowance_j1 P T D N K w19_0 w19_3 h) N a0 (.s (.int .i64 0)) a0 x1 (.s (.int .i64 0)) h
theorem f_slices_Concat_Allowance_j2_eq (P : Program) (T : Tab) (D : DTab) (N : Nat) {β : Type} (K : AV → Hp → Option β) (t : Tm) (h : Hp) : o_slices_Concat_Allowance_j2 P T D N K t h = f_slices_Concat_Allowance_j2 P T D N K (t 6) h := by kernel_rfl
theorem f_slices_Concat_Allowance_b3_eq (P : Program) (T : Tab) (D : DTab) (N : Nat) {β : Type} (xn : AV → AV → AV → AV → Hp → Option β) (x2 : AV → Hp → Option β) (xd : Nat → St → Option β) (xq : St → Option β) (t : Tm) (h : Hp) : o_slices_Concat_Allowance_L3 P T D N t h (fun (e : Ex) (s : St) => e.on (xn (s.1 6) (s.1 25) (s.1 26) (s.1 27) s.2) (fun i => (bif i == 2 then x2 (s.1 6) s.2 else (xd i s))) (xq s)) = f_slices_Concat_Allowance_b3 P T D N xn x2 (t 6) (t 25) (t 26) (t 27) h := by kernel_rfl
theorem f_slices_Concat_Allowance_L3_eq (P : Program) (T : Tab) (D : DTab) (N : Nat) {β : Type} (A : Ex → St → Option β) (x2 : AV → Hp → Option β) (q2 : ∀ s, A (.exit 2) s = x2 (s.1 6) s.2) : ∀ (n : Nat) (s : St), iterK (fun s k => o_slices_Concat_Allowance_L3 P T D N s.1 s.2 k) n s A = f_slices_Concat_Allowance_L3 P T D N x2 n (s.1 6) (s.1 25) (s.1 26) (s.1 27) s.2 := by
  intro n
  induction n with
  | zero => intro s; rfl
  | succ n ih =>
    intro s
    have hk : (fun (e : Ex) (s' : St) => Ex.on e (iterK (fun s k => o_slices_Concat_Allowance_L3 P T D N s.1 s.2 k) n s' A) (fun i => A (.exit i) s') (A .ret s')) = (fun (e : Ex) (s : St) => e.on ((f_slices_Concat_Allowance_L3 P T D N x2 n) (s.1 6) (s.1 25) (s.1 26) (s.1 27) s.2) (fun i => (bif i == 2 then x2 (s.1 6) s.2 else (A (.exit i) s))) (A .ret s)) := by
      funext e s'
      cases e with
      | normal => exact ih s'
      | ret => exact rfl
      | exit i =>
        by_cases r2 : i = 2
        · subst r2; exact q2 s'
        simp only [Ex.on, beq_false_of_ne r2, cond_false]
    show o_slices_Concat_Allowance_L3 P T D N s.1 s.2 (fun (e : Ex) (s' : St) => Ex.on e (iterK (fun s k => o_slices_Concat_Allowance_L3 P T D N s.1 s.2 k) n s' A) (fun i => A (.exit i) s') (A .ret s')) = _
    rw [hk]
    exact f_slices_Concat_Allowance_b3_eq P T D N (f_slices_Concat_Allowance_L3 P T D N x2 n) x2 (fun i s => A (.exit i) s) (fun s => A .ret s) s.1 s.2
theorem f_slices_Concat_Allowance_j1_eq (P : Program) (T : Tab) (D : DTab) (N : Nat) {β : Type} (K : AV → Hp → Option β) (t : Tm) (h : Hp) : o_slices_Concat_Allowance_j1 P T D N K t h = f_slices_Concat_Allowance_j1 P T D N K (t 0) (t 3) h := by
  have eL3 : (fun s : St => iterK (fun s k => o_slices_Concat_Allowance_L3 P T D N s.1 s.2 k) N s (o_slices_Concat_Allowance_aL3 P T D N K)) = (fun s : St => f_slices_Concat_Allowance_L3 P T D N (fun w11_6 h => f_slices_Concat_Allowance_j2 P T D N K w11_6 h) N (s.1 6) (s.1 25) (s.1 26) (s.1 27) s.2) := funext fun s => f_slices_Concat_Allowance_L3_eq P T D N (o_slices_Concat_Allowance_aL3 P T D N K) (fun w11_6 h => f_slices_Concat_Allowance_j2 P T D N K w11_6 h) (fun s => rfl) N s
  show o_slices_Concat_Allowance_j1_G P T D N (fun s => iterK (fun s k => o_slices_Concat_Allowance_L3 P T D N s.1 s.2 k) N s (o_slices_Concat_Allowance_aL3 P T D N K)) K t h = _
  rw [eL3]
  kernel_rfl
theorem f_slices_Concat_Allowance_j5_eq (P : Program) (T : Tab) (D : DTab) (N : Nat) {β : Type} (xn : AV → AV → AV → AV → AV → Hp → Option β) (x0 : AV → AV → Hp → Option β) (xd : Nat → St → Option β) (xq : St → Option β) (t : Tm) (h : Hp) : o_slices_Concat_Allowance_j5 P T D N (fun (e : Ex) (s : St) => e.on (xn (s.1 0) (s.1 3) (s.1 9) (s.1 10) (s.1 11) s.2) (fun i => (bif i == 0 then x0 (s.1 0) (s.1 3) s.2 else (xd i s))) (xq s)) t h = f_slices_Concat_Allowance_j5 P T D N xn x0 (t 0) (t 3) (t 9) (t 10) (t 11) h := by kernel_rfl
theorem f_slices_Concat_Allowance_j6_eq (P : Program) (T : Tab) (D : DTab) (N : Nat) {β : Type} (xn : AV → AV → AV → AV → AV → Hp → Option β) (x0 : AV → AV → Hp → Option β) (xd : Nat → St → Option β) (xq : St → Option β) (t : Tm) (h : Hp) : o_slices_Concat_Allowance_j6 P T D N (fun (e : Ex) (s : St) => e.on (xn (s.1 0) (s.1 3) (s.1 9) (s.1 10) (s.1 11) s.2) (fun i => (bif i == 0 then x0 (s.1 0) (s.1 3) s.2 else (xd i s))) (xq s)) t h = f_slices_Concat_Allowance_j6 P T D N xn x0 (t 0) (t 3) (t 9) (t 10) (t 11) h := by kernel_rfl
theorem f_slices_Concat_Allowance_b4_eq (P : Program) (T : Tab) (D : DTab) (N : Nat) {β : Type} (xn : AV → AV → AV → AV → AV → Hp → Option β) (x0 : AV → AV → Hp → Option β) (xd : Nat → St → Option β) (xq : St → Option β) (t : Tm) (h : Hp) : o_slices_Concat_Allowance_L4 P T D N t h (fun (e : Ex) (s : St) => e.on (xn (s.1 0) (s.1 3) (s.1 9) (s.1 10) (s.1 11) s.2) (fun i => (bif i == 0 then x0 (s.1 0) (s.1 3) s.2 else (xd i s))) (xq s)) = f_slices_Concat_Allowance_b4 P T D N xn x0 (t 0) (t 3) (t 9) (t 10) (t 11) h := by kernel_rfl
theorem f_slices_Concat_Allowance_L4_eq (P : Program) (T : Tab) (D : DTab) (N : Nat) {β : Type} (A : Ex → St → Option β) (x0 : AV → AV → Hp → Option β) (q0 : ∀ s, A (.exit 0) s = x0 (s.1 0) (s.1 3) s.2) : ∀ (n : Nat) (s : St), iterK (fun s k => o_slices_Concat_Allowance_L4 P T D N s.1 s.2 k) n s A = f_slices_Concat_Allowance_L4 P T D N x0 n (s.1 0) (s.1 3) (s.1 9) (s.1 10) (s.1 11) s.2 := by
  intro n
  induction n with
  | zero => intro s; rfl
  | succ n ih =>
    intro s
    have hk : (fun (e : Ex) (s' : St) => Ex.on e (iterK (fun s k => o_slices_Concat_Allowance_L4 P T D N s.1 s.2 k) n s' A) (fun i => A (.exit i) s') (A .ret s')) = (fun (e : Ex) (s : St) => e.on ((f_slices_Concat_Allowance_L4 P T D N x0 n) (s.1 0) (s.1 3) (s.1 9) (s.1 10) (s.1 11) s.2) (fun i => (bif i == 0 then x0 (s.1 0) (s.1 3) s.2 else (A (.exit i) s))) (A .ret s)) := by
      funext e s'
      cases e with
      | normal => exact ih s'
      | ret => exact rfl
      | exit i =>
        by_cases r0 : i = 0
        · subst r0; exact q0 s'
        simp only [Ex.on, beq_false_of_ne r0, cond_false]
    show o_slices_Concat_Allowance_L4 P T D N s.1 s.2 (fun (e : Ex) (s' : St) => Ex.on e (iterK (fun s k => o_slices_Concat_Allowance_L4 P T D N s.1 s.2 k) n s' A) (fun i => A (.exit i) s') (A .ret s')) = _
    rw [hk]
    exact f_slices_Concat_Allowance_b4_eq P T D N (f_slices_Concat_Allowance_L4 P T D N x0 n) x0 (fun i s => A (.exit i) s) (fun s => A .ret s) s.1 s.2
theorem f_slices_Concat_Allowance_old_eq (P : Program) (T : Tab) (D : DTab) (N : Nat) {β : Type} (K : AV → Hp → Option β) (a0 : AV) (h : Hp) : o_slices_Concat_Allowance P T D N K a0 h = f_slices_Concat_Allowance P T D N K a0 h := by
  have eL4 : (fun s : St => iterK (fun s k => o_slices_Concat_Allowance_L4 P T D N s.1 s.2 k) N s (o_slices_Concat_Allowance_aL4 P T D N K)) = (fun s : St => f_slices_Concat_Allowance_L4 P T D N (fun w19_0 w19_3 h => f_slices_Concat_Allowance_j1 P T D N K w19_0 w19_3 h) N (s.1 0) (s.1 3) (s.1 9) (s.1 10) (s.1 11) s.2) := funext fun s => f_slices_Concat_Allowance_L4_eq P T D N (o_slices_Concat_Allowance_aL4 P T D N K) (fun w19_0 w19_3 h => f_slices_Concat_Allowance_j1 P T D N K w19_0 w19_3 h) (fun s => f_slices_Concat_Allowance_j1_eq P T D N K s.1 s.2) N s
  show o_slices_Concat_Allowance_G P T D N (fun s => iterK (fun s k => o_slices_Concat_Allowance_L4 P T D N s.1 s.2 k) N s (o_slices_Concat_Allowance_aL4 P T D N K)) K a0 h = _
  rw [eL4]
  kernel_rfl
theorem o_slices_Concat_Allowance_run (T : Tab) (D : DTab) (N : Nat) {β : Type} (K : AV → Hp → Option β) (a0 : AV) (h : Hp) : runK Try.prog T D N [0, 2, 3, 5, 6, 8, 9, 10, 11, 12, 20, 25, 26, 27, 28] Try.f48 K [a0] h = o_slices_Concat_Allowance Try.prog T D N K a0 h := by kernel_rfl
theorem f_slices_Concat_Allowance_run (T : Tab) (D : DTab) (N : Nat) {β : Type} (K : AV → Hp → Option β) (a0 : AV) (h : Hp) : runK Try.prog T D N [0, 2, 3, 5, 6, 8, 9, 10, 11, 12, 20, 25, 26, 27, 28] Try.f48 K [a0] h = f_slices_Concat_Allowance Try.prog T D N K a0 h := (o_slices_Concat_Allowance_run T D N K a0 h).trans (f_slices_Concat_Allowance_old_eq Try.prog T D N K a0 h)
def o_ref31_Month_j1 (P : Program) (T : Tab) (D : DTab) (N : Nat) {β : Type} (K : AV → Hp → Option β) (t : Tm) (h : Hp) : Option β :=
K (t 2) h
def o_ref31_Month_j3 (P : Program) (T : Tab) (D : DTab) (N : Nat) {β : Type} (k : Ex → St → Option β) (t : Tm) (h : Hp) : Option β :=
k .normal (t, h)
def o_ref31_Month_j4 (P : Program) (T : Tab) (D : DTab) (N : Nat) {β : Type} (k : Ex → St → Option β) (t : Tm) (h : Hp) : Option β :=
arithK .add (t 3) (.s (.int .i64 1)) fun x13 =>
(o_ref31_Month_j3 P T D N k (upd t 3 x13) h)
def o_ref31_Month_j7 (P : Program) (T : Tab) (D : DTab) (N : Nat) {β : Type} (k : Ex → St → Option β) (t : Tm) (h : Hp) : Option β :=
arithK .lss (t 0) (t 6) fun x15 =>
condK x15 (
k .ret ((upd (upd t 43 x15) 2 (t 5)), h)) (
arithK .sub (t 0) (t 6) fun x16 =>
arithK .add (t 5) (.s (.int .i64 1)) fun x17 =>
k .normal ((upd (upd (upd t 43 x15) 0 x16) 5 x17), h))
def o_ref31_Month_j6 (P : Program) (T : Tab) (D : DTab) (N : Nat) {β : Type} (k : Ex → St → Option β) (t : Tm) (h : Hp) : Option β :=
eqK P false 3 (t 5) (.s (.int .i64 2)) h fun x18 =>
condK x18 (
condK (t 4) (
(o_ref31_Month_j7 P T D N k (upd (upd (upd (upd t 39 x18) 6 (.s (.int .i64 28))) 40 (t 4)) 6 (.s (.int .i64 29))) h)) (
(o_ref31_Month_j7 P T D N k (upd (upd (upd t 39 x18) 6 (.s (.int .i64 28))) 40 (t 4)) h))) (
(o_ref31_Month_j7 P T D N k (upd t 39 x18) h))
def o_ref31_Month_L5 (P : Program) (T : Tab) (D : DTab) (N : Nat) {β : Type} (t : Tm) (h : Hp) (k : Ex → St → Option β) : Option β :=
arithK .leq (t 5) (.s (.int .i64 12)) fun x14 =>
condK x14 (
eqK P false 3 (t 5) (.s (.int .i64 4)) h fun x19 =>
grpK false x19 h (fun k20 =>
eqK P false 3 (t 5) (.s (.int .i64 6)) h fun x21 =>
k20 x21 h) fun x22 h23 =>
grpK false x22 h23 (fun k24 =>
eqK P false 3 (t 5) (.s (.int .i64 9)) h23 fun x25 =>
k24 x25 h23) fun x26 h27 =>
grpK false x26 h27 (fun k28 =>
eqK P false 3 (t 5) (.s (.int .i64 11)) h27 fun x29 =>
k28 x29 h27) fun x30 h31 =>
condK x30 (
(o_ref31_Month_j6 P T D N k (upd (upd (upd (upd t 21 x14) 6 (.s (.int .i64 31))) 37 x30) 6 (.s (.int .i64 30))) h31)) (
(o_ref31_Month_j6 P T D N k (upd (upd (upd t 21 x14) 6 (.s (.int .i64 31))) 37 x30) h31))) (
k (.exit 2) ((upd t 21 x14), h))
def o_ref31_Month_aL5 (P : Program) (T : Tab) (D : DTab) (N : Nat) {β : Type} (k : Ex → St → Option β) (e : Ex) (s : St) : Option β :=
  e.on ((o_ref31_Month_j4 P T D N k s.1 s.2))
  (fun i => bif i == 2 then ((o_ref31_Month_j4 P T D N k s.1 s.2)) else (bif i == 1 then ((o_ref31_Month_j3 P T D N k s.1 s.2)) else (k (.exit i) (s.1, s.2))))
  (k .ret (s.1, s.2))
def o_ref31_Month_L2_G (P : Program) (T : Tab) (D : DTab) (N : Nat) {β : Type} (cL5 : St → Option β) (t : Tm) (h : Hp) (k : Ex → St → Option β) :  Option β :=
reckK P .rem 3 (t 3) (.s (.int .i64 4)) fun x1 =>
eqK P false 3 x1 (.s (.int .i64 0)) h fun x2 =>
grpK true x2 h (fun k3 =>
reckK P .rem 3 (t 3) (.s (.int .i64 100)) fun x4 =>
eqK P true 3 x4 (.s (.int .i64 0)) h fun x5 =>
grpK false x5 h (fun k6 =>
reckK P .rem 3 (t 3) (.s (.int .i64 400)) fun x7 =>
eqK P false 3 x7 (.s (.int .i64 0)) h fun x8 =>
k6 x8 h) fun x9 h10 =>
k3 x9 h10) fun x11 h12 =>
cL5 ((upd (upd t 4 x11) 5 (.s (.int .i64 1))), h12)
def o_ref31_Month_L2 (P : Program) (T : Tab) (D : DTab) (N : Nat) {β : Type} (t : Tm) (h : Hp) (k : Ex → St → Option β) : Option β := o_ref31_Month_L2_G P T D N (fun s => iterK (fun s k => o_ref31_Month_L5 P T D N s.1 s.2 k) N s (o_ref31_Month_aL5 P T D N k)) t h k
def o_ref31_Month_aL2 (P : Program) (T : Tab) (D : DTab) (N : Nat) {β : Type} (K : AV → Hp → Option β) (e : Ex) (s : St) : Option β :=
  e.on ((o_ref31_Month_j1 P T D N K s.1 s.2))
  (fun i => bif i == 0 then ((o_ref31_Month_j1 P T D N K s.1 s.2)) else (none))
  (K (s.1 2) s.2)
def o_ref31_Month_G (P : Program) (T : Tab) (D : DTab) (N : Nat) {β : Type} (cL2 : St → Option β) (K : AV → Hp → Option β) (a0 : AV) (h : Hp) :  Option β :=
cL2 ((upd (upd (tm0 [a0]) 2 (.s (.int .i64 0))) 3 (.s (.int .i64 1900))), h)
def o_ref31_Month (P : Program) (T : Tab) (D : DTab) (N : Nat) {β : Type} (K : AV → Hp → Option β) (a0 : AV) (h : Hp) : Option β := o_ref31_Month_G P T D N (fun s => iterK (fun s k => o_ref31_Month_L2 P T D N s.1 s.2 k) N s (o_ref31_Month_aL2 P T D N K)) K a0 h
def f_ref31_Month_j1 (P : Program) (T : Tab) (D : DTab) (N : Nat) {β : Type} (K : AV → Hp → Option β) (v2 : AV) (h : Hp) : Option β :=
K v2 h
def f_ref31_Month_j3 (P : Program) (T : Tab) (D : DTab) (N : Nat) {β : Type} (xn : AV → AV → Hp → Option β) (xr : AV → Hp → Option β) (v0 : AV) (v3 : AV) (h : Hp) : Option β :=
xn v0 v3 h
def f_ref31_Month_j4 (P : Program) (T : Tab) (D : DTab) (N : Nat) {β : Type} (xn : AV → AV → Hp → Option β) (xr : AV → Hp → Option β) (v0 : AV) (v3 : AV) (h : Hp) : Option β :=
arithK .add v3 (.s (.int .i64 1)) fun x13 =>
f_ref31_Month_j3 P T D N xn xr v0 x13 h
def f_ref31_Month_j7 (P : Program) (T : Tab) (D : DTab) (N : Nat) {β : Type} (xn : AV → AV → AV → AV → Hp → Option β) (x2 : AV → AV → Hp → Option β) (xr : AV → Hp → Option β) (v0 : AV) (v3 : AV) (v4 : AV) (v5 : AV) (v6 : AV) (h : Hp) : Option β :=
arithK .lss v0 v6 fun x15 =>
condK x15 (
xr v5 h) (
arithK .sub v0 v6 fun x16 =>
arithK .add v5 (.s (.int .i64 1)) fun x17 =>
xn x16 v3 v4 x17 h)
def f_ref31_Month_j6 (P : Program) (T : Tab) (D : DTab) (N : Nat) {β : Type} (xn : AV → AV → AV → AV → Hp → Option β) (x2 : AV → AV → Hp → Option β) (xr : AV → Hp → Option β) (v0 : AV) (v3 : AV) (v4 : AV) (v5 : AV) (v6 : AV) (h : Hp) : Option β :=
eqK P false 3 v5 (.s (.int .i64 2)) h fun x18 =>
condK x18 (
condK v4 (
f_ref31_Month_j7 P T D N xn x2 xr v0 v3 v4 v5 (.s (.int .i64 29)) h) (
f_ref31_Month_j7 P T D N xn x2 xr v0 v3 v4 v5 (.s (.int .i64 28)) h)) (
f_ref31_Month_j7 P T D N xn x2 xr v0 v3 v4 v5 v6 h)
def f_ref31_Month_b5 (P : Program) (T : Tab) (D : DTab) (N : Nat) {β : Type} (xn : AV → AV → AV → AV → Hp → Option β) (x2 : AV → AV → Hp → Option β) (xr : AV → Hp → Option β) (v0 : AV) (v3 : AV) (v4 : AV) (v5 : AV) (h : Hp) : Option β :=
arithK .leq v5 (.s (.int .i64 12)) fun x14 =>
condK x14 (
eqK P false 3 v5 (.s (.int .i64 4)) h fun x19 =>
grpK false x19 h (fun k20 =>
eqK P false 3 v5 (.s (.int .i64 6)) h fun x21 =>
k20 x21 h) fun x22 h23 =>
grpK false x22 h23 (fun k24 =>
eqK P false 3 v5 (.s (.int .i64 9)) h23 fun x25 =>
k24 x25 h23) fun x26 h27 =>
grpK false x26 h27 (fun k28 =>
eqK P false 3 v5 (.s (.int .i64 11)) h27 fun x29 =>
k28 x29 h27) fun x30 h31 =>
condK x30 (
f_ref31_Month_j6 P T D N xn x2 xr v0 v3 v4 v5 (.s (.int .i64 30)) h31) (
f_ref31_Month_j6 P T D N xn x2 xr v0 v3 v4 v5 (.s (.int .i64 31)) h31)) (
x2 v0 v3 h)
def f_ref31_Month_L5 (P : Program) (T : Tab) (D : DTab) (N : Nat) {β : Type} (x2 : AV → AV → Hp → Option β) (xr : AV → Hp → Option β) : Nat → AV → AV → AV → AV → Hp → Option β
  | 0 => fun _ _ _ _ _ => none
  | n + 1 => fun v0 v3 v4 v5 h => f_ref31_Month_b5 P T D N (f_ref31_Month_L5 P T D N x2 xr n) x2 xr v0 v3 v4 v5 h
def f_ref31_Month_b2 (P : Program) (T : Tab) (D : DTab) (N : Nat) {β : Type} (xn : AV → AV → Hp → Option β) (xr : AV → Hp → Option β) (v0 : AV) (v3 : AV) (h : Hp) : Option β :=
reckK P .rem 3 v3 (.s (.int .i64 4)) fun x1 =>
eqK P false 3 x1 (.s (.int .i64 0)) h fun x2 =>
grpK true x2 h (fun k3 =>
reckK P .rem 3 v3 (.s (.int .i64 100)) fun x4 =>
eqK P true 3 x4 (.s (.int .i64 0)) h fun x5 =>
grpK false x5 h (fun k6 =>
reckK P .rem 3 v3 (.s (.int .i64 400)) fun x7 =>
eqK P false 3 x7 (.s (.int .i64 0)) h fun x8 =>
k6 x8 h) fun x9 h10 =>
k3 x9 h10) fun x11 h12 =>
f_ref31_Month_L5 P T D N (fun w32_0 w32_3 h => f_ref31_Month_j4 P T D N xn xr w32_0 w32_3 h) (fun w33_2 h => xr w33_2 h) N v0 v3 x11 (.s (.int .i64 1)) h12
def f_ref31_Month_L2 (P : Program) (T : Tab) (D : DTab) (N : Nat) {β : Type} (xr : AV → Hp → Option β) : Nat → AV → AV → Hp → Option β
  | 0 => fun _ _ _ => none
  | n + 1 => fun v0 v3 h => f_ref31_Month_b2 P T D N (f_ref31_Month_L2 P T D N xr n) xr v0 v3 h
/-- spile/spileref31.Month -/
def f_ref31_Month (P : Program) (T : Tab) (D : DTab) (N : Nat) {β : Type} (K : AV → Hp → Option β) (a0 : AV) (h : Hp) : Option β :=
f_ref31_Month_L2 P T D N (fun w34_2 h => K w34_2 h) N a0 (.s (.int .i64 1900)) h
theorem f_ref31_Month_j1_eq (P : Program) (T : Tab) (D : DTab) (N : Nat) {β : Type} (K : AV → Hp → Option β) (t : Tm) (h : Hp) : o_ref31_Month_j1 P T D N K t h = f_ref31_Month_j1 P T D N K (t 2) h := by kernel_rfl
theorem f_ref31_Month_j3_eq (P : Program) (T : Tab) (D : DTab) (N : Nat) {β : Type} (xn : AV → AV → Hp → Option β) (xr : AV → Hp → Option β) (xd : Nat → St → Option β) (xq : St → Option β) (t : Tm) (h : Hp) : o_ref31_Month_j3 P T D N (fun (e : Ex) (s : St) => e.on (xn (s.1 0) (s.1 3) s.2) (fun i => (xd i s)) (xr (s.1 2) s.2)) t h = f_ref31_Month_j3 P T D N xn xr (t 0) (t 3) h := by kernel_rfl
theorem f_ref31_Month_j4_eq (P : Program) (T : Tab) (D : DTab) (N : Nat) {β : Type} (xn : AV → AV → Hp → Option β) (xr : AV → Hp → Option β) (xd : Nat → St → Option β) (xq : St → Option β) (t : Tm) (h : Hp) : o_ref31_Month_j4 P T D N (fun (e : Ex) (s : St) => e.on (xn (s.1 0) (s.1 3) s.2) (fun i => (xd i s)) (xr (s.1 2) s.2)) t h = f_ref31_Month_j4 P T D N xn xr (t 0) (t 3) h := by kernel_rfl
theorem f_ref31_Month_j7_eq (P : Program) (T : Tab) (D : DTab) (N : Nat) {β : Type} (xn : AV → AV → AV → AV → Hp → Option β) (x2 : AV → AV → Hp → Option β) (xr : AV → Hp → Option β) (xd : Nat → St → Option β) (xq : St → Option β) (t : Tm) (h : Hp) : o_ref31_Month_j7 P T D N (fun (e : Ex) (s : St) => e.on (xn (s.1 0) (s.1 3) (s.1 4) (s.1 5) s.2) (fun i => (bif i == 2 then x2 (s.1 0) (s.1 3) s.2 else (xd i s))) (xr (s.1 2) s.2)) t h = f_ref31_Month_j7 P T D N xn x2 xr (t 0) (t 3) (t 4) (t 5) (t 6) h := by kernel_rfl
theorem f_ref31_Month_j6_eq (P : Program) (T : Tab) (D : DTab) (N : Nat) {β : Type} (xn : AV → AV → AV → AV → Hp → Option β) (x2 : AV → AV → Hp → Option β) (xr : AV → Hp → Option β) (xd : Nat → St → Option β) (xq : St → Option β) (t : Tm) (h : Hp) : o_ref31_Month_j6 P T D N (fun (e : Ex) (s : St) => e.on (xn (s.1 0) (s.1 3) (s.1 4) (s.1 5) s.2) (fun i => (bif i == 2 then x2 (s.1 0) (s.1 3) s.2 else (xd i s))) (xr (s.1 2) s.2)) t h = f_ref31_Month_j6 P T D N xn x2 xr (t 0) (t 3) (t 4) (t 5) (t 6) h := by kernel_rfl
theorem f_ref31_Month_b5_eq (P : Program) (T : Tab) (D : DTab) (N : Nat) {β : Type} (xn : AV → AV → AV → AV → Hp → Option β) (x2 : AV → AV → Hp → Option β) (xr : AV → Hp → Option β) (xd : Nat → St → Option β) (xq : St → Option β) (t : Tm) (h : Hp) : o_ref31_Month_L5 P T D N t h (fun (e : Ex) (s : St) => e.on (xn (s.1 0) (s.1 3) (s.1 4) (s.1 5) s.2) (fun i => (bif i == 2 then x2 (s.1 0) (s.1 3) s.2 else (xd i s))) (xr (s.1 2) s.2)) = f_ref31_Month_b5 P T D N xn x2 xr (t 0) (t 3) (t 4) (t 5) h := by kernel_rfl
theorem f_ref31_Month_L5_eq (P : Program) (T : Tab) (D : DTab) (N : Nat) {β : Type} (A : Ex → St → Option β) (x2 : AV → AV → Hp → Option β) (xr : AV → Hp → Option β) (q2 : ∀ s, A (.exit 2) s = x2 (s.1 0) (s.1 3) s.2) (qr : ∀ s, A .ret s = xr (s.1 2) s.2) : ∀ (n : Nat) (s : St), iterK (fun s k => o_ref31_Month_L5 P T D N s.1 s.2 k) n s A = f_ref31_Month_L5 P T D N x2 xr n (s.1 0) (s.1 3) (s.1 4) (s.1 5) s.2 := by
  intro n
  induction n with
  | zero => intro s; rfl
  | succ n ih =>
    intro s
    have hk : (fun (e : Ex) (s' : St) => Ex.on e (iterK (fun s k => o_ref31_Month_L5 P T D N s.1 s.2 k) n s' A) (fun i => A (.exit i) s') (A .ret s')) = (fun (e : Ex) (s : St) => e.on ((f_ref31_Month_L5 P T D N x2 xr n) (s.1 0) (s.1 3) (s.1 4) (s.1 5) s.2) (fun i => (bif i == 2 then x2 (s.1 0) (s.1 3) s.2 else (A (.exit i) s))) (xr (s.1 2) s.2)) := by
      funext e s'
      cases e with
      | normal => exact ih s'
      | ret => exact qr s'
      | exit i =>
        by_cases r2 : i = 2
        · subst r2; exact q2 s'
        simp only [Ex.on, beq_false_of_ne r2, cond_false]
    show o_ref31_Month_L5 P T D N s.1 s.2 (fun (e : Ex) (s' : St) => Ex.on e (iterK (fun s k => o_ref31_Month_L5 P T D N s.1 s.2 k) n s' A) (fun i => A (.exit i) s') (A .ret s')) = _
    rw [hk]
    exact f_ref31_Month_b5_eq P T D N (f_ref31_Month_L5 P T D N x2 xr n) x2 xr (fun i s => A (.exit i) s) (fun s => A .ret s) s.1 s.2
theorem f_ref31_Month_b2_eq (P : Program) (T : Tab) (D : DTab) (N : Nat) {β : Type} (xn : AV → AV → Hp → Option β) (xr : AV → Hp → Option β) (xd : Nat → St → Option β) (xq : St → Option β) (t : Tm) (h : Hp) : o_ref31_Month_L2 P T D N t h (fun (e : Ex) (s : St) => e.on (xn (s.1 0) (s.1 3) s.2) (fun i => (xd i s)) (xr (s.1 2) s.2)) = f_ref31_Month_b2 P T D N xn xr (t 0) (t 3) h := by
  have eL5 : (fun s : St => iterK (fun s k => o_ref31_Month_L5 P T D N s.1 s.2 k) N s (o_ref31_Month_aL5 P T D N (fun (e : Ex) (s : St) => e.on (xn (s.1 0) (s.1 3) s.2) (fun i => (xd i s)) (xr (s.1 2) s.2)))) = (fun s : St => f_ref31_Month_L5 P T D N (fun w32_0 w32_3 h => f_ref31_Month_j4 P T D N xn xr w32_0 w32_3 h) (fun w33_2 h => xr w33_2 h) N (s.1 0) (s.1 3) (s.1 4) (s.1 5) s.2) := funext fun s => f_ref31_Month_L5_eq P T D N (o_ref31_Month_aL5 P T D N (fun (e : Ex) (s : St) => e.on (xn (s.1 0) (s.1 3) s.2) (fun i => (xd i s)) (xr (s.1 2) s.2))) (fun w32_0 w32_3 h => f_ref31_Month_j4 P T D N xn xr w32_0 w32_3 h) (fun w33_2 h => xr w33_2 h) (fun s => rfl) (fun s => rfl) N s
  show o_ref31_Month_L2_G P T D N (fun s => iterK (fun s k => o_ref31_Month_L5 P T D N s.1 s.2 k) N s (o_ref31_Month_aL5 P T D N (fun (e : Ex) (s : St) => e.on (xn (s.1 0) (s.1 3) s.2) (fun i => (xd i s)) (xr (s.1 2) s.2)))) t h (fun (e : Ex) (s : St) => e.on (xn (s.1 0) (s.1 3) s.2) (fun i => (xd i s)) (xr (s.1 2) s.2)) = _
  rw [eL5]
  kernel_rfl
theorem f_ref31_Month_L2_eq (P : Program) (T : Tab) (D : DTab) (N : Nat) {β : Type} (A : Ex → St → Option β) (xr : AV → Hp → Option β) (qr : ∀ s, A .ret s = xr (s.1 2) s.2) : ∀ (n : Nat) (s : St), iterK (fun s k => o_ref31_Month_L2 P T D N s.1 s.2 k) n s A = f_ref31_Month_L2 P T D N xr n (s.1 0) (s.1 3) s.2 := by
  intro n
  induction n with
  | zero => intro s; rfl
  | succ n ih =>
    intro s
    have hk : (fun (e : Ex) (s' : St) => Ex.on e (iterK (fun s k => o_ref31_Month_L2 P T D N s.1 s.2 k) n s' A) (fun i => A (.exit i) s') (A .ret s')) = (fun (e : Ex) (s : St) => e.on ((f_ref31_Month_L2 P T D N xr n) (s.1 0) (s.1 3) s.2) (fun i => (A (.exit i) s)) (xr (s.1 2) s.2)) := by
      funext e s'
      cases e with
      | normal => exact ih s'
      | ret => exact qr s'
      | exit i =>
        simp only [Ex.on]
    show o_ref31_Month_L2 P T D N s.1 s.2 (fun (e : Ex) (s' : St) => Ex.on e (iterK (fun s k => o_ref31_Month_L2 P T D N s.1 s.2 k) n s' A) (fun i => A (.exit i) s') (A .ret s')) = _
    rw [hk]
    exact f_ref31_Month_b2_eq P T D N (f_ref31_Month_L2 P T D N xr n) xr (fun i s => A (.exit i) s) (fun s => A .ret s) s.1 s.2
theorem f_ref31_Month_old_eq (P : Program) (T : Tab) (D : DTab) (N : Nat) {β : Type} (K : AV → Hp → Option β) (a0 : AV) (h : Hp) : o_ref31_Month P T D N K a0 h = f_ref31_Month P T D N K a0 h := by
  have eL2 : (fun s : St => iterK (fun s k => o_ref31_Month_L2 P T D N s.1 s.2 k) N s (o_ref31_Month_aL2 P T D N K)) = (fun s : St => f_ref31_Month_L2 P T D N (fun w34_2 h => K w34_2 h) N (s.1 0) (s.1 3) s.2) := funext fun s => f_ref31_Month_L2_eq P T D N (o_ref31_Month_aL2 P T D N K) (fun w34_2 h => K w34_2 h) (fun s => rfl) N s
  show o_ref31_Month_G P T D N (fun s => iterK (fun s k => o_ref31_Month_L2 P T D N s.1 s.2 k) N s (o_ref31_Month_aL2 P T D N K)) K a0 h = _
  rw [eL2]
  kernel_rfl
theorem o_ref31_Month_run (T : Tab) (D : DTab) (N : Nat) {β : Type} (K : AV → Hp → Option β) (a0 : AV) (h : Hp) : runK Try.prog T D N [0, 2, 3, 4, 5, 6, 21, 37, 39, 40, 43] Try.f49 K [a0] h = o_ref31_Month Try.prog T D N K a0 h := by kernel_rfl
theorem f_ref31_Month_run (T : Tab) (D : DTab) (N : Nat) {β : Type} (K : AV → Hp → Option β) (a0 : AV) (h : Hp) : runK Try.prog T D N [0, 2, 3, 4, 5, 6, 21, 37, 39, 40, 43] Try.f49 K [a0] h = f_ref31_Month Try.prog T D N K a0 h := (o_ref31_Month_run T D N K a0 h).trans (f_ref31_Month_old_eq Try.prog T D N K a0 h)
/-- spile/proportion.amounts -/
def f_proportion_amounts (P : Program) (T : Tab) (D : DTab) (N : Nat) {β : Type} (K : AV → Hp → Option β) (a0 : AV) (h : Hp) : Option β :=
callK (T 60) [a0, (.fn 61 [])] h fun x1 h2 =>
notK x1 fun x3 =>
K x3 h2
theorem f_proportion_amounts_run (T : Tab) (D : DTab) (N : Nat) {β : Type} (K : AV → Hp → Option β) (a0 : AV) (h : Hp) : runK Try.prog T D N [0, 2] Try.f50 K [a0] h = f_proportion_amounts Try.prog T D N K a0 h := by kernel_rfl
/-- spile/proportion.divided -/
def f_proportion_divided (P : Program) (T : Tab) (D : DTab) (N : Nat) {β : Type} (K : AV → Hp → Option β) (a0 : AV) (a1 : AV) (a2 : AV) (h : Hp) : Option β :=
callK (T 63) [a0, a1] h fun x1 h2 =>
effK (boxE 2 (.agg [.s (.int .u64 0), .s (.int .u64 0)]) (List.length h2)) h2 fun x3 h4 =>
effK (stE 2 x3 x1 h4) h4 fun x5 h6 =>
iaA 1 2 x3 (.s (.int .i64 0)) fun x7 =>
ldK 1 false x7 h6 fun x8 =>
convK P 3 80 a2 fun x9 =>
arithK .geq x8 x9 fun x10 =>
condK x10 (
K (.tup [(.s (.int .i64 0)), (.s (.int .i64 0)), (.s (.bool false))]) h6) (
iaA 1 2 x3 (.s (.int .i64 0)) fun x11 =>
ldK 1 false x11 h6 fun x12 =>
iaA 1 2 x3 (.s (.int .i64 1)) fun x13 =>
ldK 1 false x13 h6 fun x14 =>
convK P 3 80 a2 fun x15 =>
callK (T 64) [x12, x14, x15] h6 fun x16 h17 =>
exK x16 0 fun x18 =>
exK x16 1 fun x19 =>
arithK .gtr x18 (.s (.int .u64 128849018880000)) fun x20 =>
condK x20 (
K (.tup [(.s (.int .i64 0)), (.s (.int .i64 0)), (.s (.bool false))]) h17) (
convK P 80 3 x18 fun x21 =>
convK P 80 3 x19 fun x22 =>
K (.tup [x21, x22, (.s (.bool true))]) h17))
theorem f_proportion_divided_run (T : Tab) (D : DTab) (N : Nat) {β : Type} (K : AV → Hp → Option β) (a0 : AV) (a1 : AV) (a2 : AV) (h : Hp) : runK Try.prog T D N [0, 1, 2, 6, 7, 8, 9, 10, 11, 19, 31] Try.f51 K [a0, a1, a2] h = f_proportion_divided Try.prog T D N K a0 a1 a2 h := by kernel_rfl
def o_ref01_Of_j1 (P : Program) (T : Tab) (D : DTab) (N : Nat) {β : Type} (K : AV → Hp → Option β) (t : Tm) (h : Hp) : Option β :=
ldK 2 true (t 11) h fun x45 =>
effD (callE (D 65) [(t 12), (t 2)] h (List.length h)) h fun x46 h47 e48 =>
effD (callE (D 67) [x45, x46] h47 (List.length h47)) h47 fun x49 h50 e51 =>
fldK 1 false 1 x49 fun x52 =>
convK P 80 3 x52 fun x53 =>
bif disjAll [(1, 4)] [([], []), ((idsOf (t 11)), []), ([], []), ([], []), e48, e51, ([], []), ([], []), ([], []), ([], []), ([], [])] then (
K (.tup [(t 12), x53, (.s (.bool true))]) h50) else none
def o_ref01_Of_j3 (P : Program) (T : Tab) (D : DTab) (N : Nat) {β : Type} (k : Ex → St → Option β) (t : Tm) (h : Hp) : Option β :=
reckK P .quo 3 (t 13) (.s (.int .i64 2)) fun x55 =>
k .normal ((upd t 13 x55), h)
def o_ref01_Of_j4 (P : Program) (T : Tab) (D : DTab) (N : Nat) {β : Type} (k : Ex → St → Option β) (t : Tm) (h : Hp) : Option β :=
(o_ref01_Of_j3 P T D N k t h)
def o_ref01_Of_L2 (P : Program) (T : Tab) (D : DTab) (N : Nat) {β : Type} (t : Tm) (h : Hp) (k : Ex → St → Option β) : Option β :=
arithK .gtr (t 13) (.s (.int .i64 0)) fun x54 =>
condK x54 (
arithK .add (t 12) (t 13) fun x56 =>
arithK .leq x56 (t 3) fun x57 =>
gopD (wB x57 true) h (fun k => ldK 2 true (t 11) h fun v => k v h ((idsOf (t 11)), [])) fun x58 h59 e60 =>
gopD (wB x57 true) h59 (fun k => k (t 12) h59 ([], [])) fun x61 h62 e63 =>
gopD (wB x57 true) h62 (fun k => k (t 13) h62 ([], [])) fun x64 h65 e66 =>
gopD (wB x57 true) h65 (fun k => arithK .add x61 x64 fun v => k v h65 ([], [])) fun x67 h68 e69 =>
gopD (wB x57 true) h68 (fun k => k (t 2) h68 ([], [])) fun x70 h71 e72 =>
gopD (wB x57 true) h71 (fun k => effD (callE (D 65) [x67, x70] h71 (List.length h71)) h71 k) fun x73 h74 e75 =>
gopD (wB x57 true) h74 (fun k => effD (callE (D 66) [x58, x73] h74 (List.length h74)) h74 k) fun x76 h77 e78 =>
gopD (wB x57 true) h77 (fun k => notK x76 fun v => k v h77 ([], [])) fun x79 h80 e81 =>
pickK x57 x79 (.s (.bool false)) fun x82 =>
bif disjAll [(6, 11)] [([], []), ([], []), ([], []), ([], []), ([], []), ([], []), e60, e63, e66, e69, e72, e75, e78, e81, ([], [])] then (
condK x82 (
arithK .add (t 12) (t 13) fun x83 =>
(o_ref01_Of_j4 P T D N k (upd (upd (upd t 35 x54) 52 x82) 12 x83) h80)) (
(o_ref01_Of_j4 P T D N k (upd (upd t 35 x54) 52 x82) h80))) else none) (
k (.exit 0) ((upd t 35 x54), h))
def o_ref01_Of_aL2 (P : Program) (T : Tab) (D : DTab) (N : Nat) {β : Type} (K : AV → Hp → Option β) (e : Ex) (s : St) : Option β :=
  e.on ((o_ref01_Of_j1 P T D N K s.1 s.2))
  (fun i => bif i == 0 then ((o_ref01_Of_j1 P T D N K s.1 s.2)) else (none))
  (K (.tup [(s.1 8), (s.1 9), (s.1 10)]) s.2)
def o_ref01_Of_G (P : Program) (T : Tab) (D : DTab) (N : Nat) {β : Type} (cL2 : St → Option β) (K : AV → Hp → Option β) (a0 : AV) (a1 : AV) (a2 : AV) (a3 : AV) (h : Hp) :  Option β :=
callK (T 65) [a0, a1] h fun x1 h2 =>
effK (boxE 2 (.agg [.s (.int .u64 0), .s (.int .u64 0)]) (List.length h2)) h2 fun x3 h4 =>
effK (stE 2 x3 x1 h4) h4 fun x5 h6 =>
effD (callE (D 65) [a3, a2] h6 (List.length h6)) h6 fun x7 h8 e9 =>
ldK 2 true x3 h8 fun x10 =>
effD (callE (D 66) [x7, x10] h8 (List.length h8)) h8 fun x11 h12 e13 =>
gopD (wB x11 true) h12 (fun k => ldK 2 true x3 h12 fun v => k v h12 ((idsOf x3), [])) fun x14 h15 e16 =>
gopD (wB x11 true) h15 (fun k => k a3 h15 ([], [])) fun x17 h18 e19 =>
gopD (wB x11 true) h18 (fun k => k a2 h18 ([], [])) fun x20 h21 e22 =>
gopD (wB x11 true) h21 (fun k => effD (callE (D 65) [x17, x20] h21 (List.length h21)) h21 k) fun x23 h24 e25 =>
gopD (wB x11 true) h24 (fun k => effD (callE (D 67) [x14, x23] h24 (List.length h24)) h24 k) fun x26 h27 e28 =>
gopD (wB x11 true) h27 (fun k => k a2 h27 ([], [])) fun x29 h30 e31 =>
gopD (wB x11 true) h30 (fun k => convK P 3 80 x29 fun v => k v h30 ([], [])) fun x32 h33 e34 =>
gopD (wB x11 true) h33 (fun k => buildK [.s (.int .u64 0), .s (.int .u64 0)] [(some (0, 1), (.s (.int .u64 0))), (some (1, 1), x32)] fun v => k v h33 ([], [])) fun x35 h36 e37 =>
gopD (wB x11 true) h36 (fun k => effD (callE (D 66) [x26, x35] h36 (List.length h36)) h36 k) fun x38 h39 e40 =>
gopD (wB x11 true) h39 (fun k => notK x38 fun v => k v h39 ([], [])) fun x41 h42 e43 =>
pickK x11 x41 (.s (.bool false)) fun x44 =>
bif disjAll [(2, 3), (6, 9)] [([], []), ([], []), e9, ((idsOf x3), []), e13, ([], []), e16, e19, e22, e25, e28, e31, e34, e37, e40, e43, ([], [])] then (
condK x44 (
K (.tup [(.s (.int .i64 0)), (.s (.int .i64 0)), (.s (.bool false))]) h42) (
cL2 ((upd (upd (upd (upd (upd (upd (upd (tm0 [a0, a1, a2, a3]) 8 (.s (.int .i64 0))) 9 (.s (.int .i64 0))) 10 (.s (.bool false))) 11 x3) 33 x44) 12 (.s (.int .i64 0))) 13 (.s (.int .i64 2305843009213693952))), h42))) else none
def o_ref01_Of (P : Program) (T : Tab) (D : DTab) (N : Nat) {β : Type} (K : AV → Hp → Option β) (a0 : AV) (a1 : AV) (a2 : AV) (a3 : AV) (h : Hp) : Option β := o_ref01_Of_G P T D N (fun s => iterK (fun s k => o_ref01_Of_L2 P T D N s.1 s.2 k) N s (o_ref01_Of_aL2 P T D N K)) K a0 a1 a2 a3 h
def f_ref01_Of_j1 (P : Program) (T : Tab) (D : DTab) (N : Nat) {β : Type} (K : AV → Hp → Option β) (v2 : AV) (v11 : AV) (v12 : AV) (h : Hp) : Option β :=
ldK 2 true v11 h fun x45 =>
effD (callE (D 65) [v12, v2] h (List.length h)) h fun x46 h47 e48 =>
effD (callE (D 67) [x45, x46] h47 (List.length h47)) h47 fun x49 h50 e51 =>
fldK 1 false 1 x49 fun x52 =>
convK P 80 3 x52 fun x53 =>
bif disjAll [(1, 4)] [([], []), ((idsOf v11), []), ([], []), ([], []), e48, e51, ([], []), ([], []), ([], []), ([], []), ([], [])] then (
K (.tup [v12, x53, (.s (.bool true))]) h50) else none
def f_ref01_Of_j3 (P : Program) (T : Tab) (D : DTab) (N : Nat) {β : Type} (xn : AV → AV → AV → AV → AV → Hp → Option β) (x0 : AV → AV → AV → Hp → Option β) (v2 : AV) (v3 : AV) (v11 : AV) (v12 : AV) (v13 : AV) (h : Hp) : Option β :=
reckK P .quo 3 v13 (.s (.int .i64 2)) fun x55 =>
xn v2 v3 v11 v12 x55 h
def f_ref01_Of_j4 (P : Program) (T : Tab) (D : DTab) (N : Nat) {β : Type} (xn : AV → AV → AV → AV → AV → Hp → Option β) (x0 : AV → AV → AV → Hp → Option β) (v2 : AV) (v3 : AV) (v11 : AV) (v12 : AV) (v13 : AV) (h : Hp) : Option β :=
f_ref01_Of_j3 P T D N xn x0 v2 v3 v11 v12 v13 h
def f_ref01_Of_b2 (P : Program) (T : Tab) (D : DTab) (N : Nat) {β : Type} (xn : AV → AV → AV → AV → AV → Hp → Option β) (x0 : AV → AV → AV → Hp → Option β) (v2 : AV) (v3 : AV) (v11 : AV) (v12 : AV) (v13 : AV) (h : Hp) : Option β :=
arithK .gtr v13 (.s (.int .i64 0)) fun x54 =>
condK x54 (
arithK .add v12 v13 fun x56 =>
arithK .leq x56 v3 fun x57 =>
gopD (wB x57 true) h (fun k => ldK 2 true v11 h fun v => k v h ((idsOf v11), [])) fun x58 h59 e60 =>
gopD (wB x57 true) h59 (fun k => k v12 h59 ([], [])) fun x61 h62 e63 =>
gopD (wB x57 true) h62 (fun k => k v13 h62 ([], [])) fun x64 h65 e66 =>
gopD (wB x57 true) h65 (fun k => arithK .add x61 x64 fun v => k v h65 ([], [])) fun x67 h68 e69 =>
gopD (wB x57 true) h68 (fun k => k v2 h68 ([], [])) fun x70 h71 e72 =>
gopD (wB x57 true) h71 (fun k => effD (callE (D 65) [x67, x70] h71 (List.length h71)) h71 k) fun x73 h74 e75 =>
gopD (wB x57 true) h74 (fun k => effD (callE (D 66) [x58, x73] h74 (List.length h74)) h74 k) fun x76 h77 e78 =>
gopD (wB x57 true) h77 (fun k => notK x76 fun v => k v h77 ([], [])) fun x79 h80 e81 =>
pickK x57 x79 (.s (.bool false)) fun x82 =>
bif disjAll [(6, 11)] [([], []), ([], []), ([], []), ([], []), ([], []), ([], []), e60, e63, e66, e69, e72, e75, e78, e81, ([], [])] then (
condK x82 (
arithK .add v12 v13 fun x83 =>
f_ref01_Of_j4 P T D N xn x0 v2 v3 v11 x83 v13 h80) (
f_ref01_Of_j4 P T D N xn x0 v2 v3 v11 v12 v13 h80)) else none) (
x0 v2 v11 v12 h)
def f_ref01_Of_L2 (P : Program) (T : Tab) (D : DTab) (N : Nat) {β : Type} (x0 : AV → AV → AV → Hp → Option β) : Nat → AV → AV → AV → AV → AV → Hp → Option β
  | 0 => fun _ _ _ _ _ _ => none
  | n + 1 => fun v2 v3 v11 v12 v13 h => f_ref01_Of_b2 P T D N (f_ref01_Of_L2 P T D N x0 n) x0 v2 v3 v11 v12 v13 h
/-- spile/spileref01.Of -/
def f_ref01_Of (P : Program) (T : Tab) (D : DTab) (N : Nat) {β : Type} (K : AV → Hp → Option β) (a0 : AV) (a1 : AV) (a2 : AV) (a3 : AV) (h : Hp) : Option β :=
callK (T 65) [a0, a1] h fun x1 h2 =>
effK (boxE 2 (.agg [.s (.int .u64 0), .s (.int .u64 0)]) (List.length h2)) h2 fun x3 h4 =>
effK (stE 2 x3 x1 h4) h4 fun x5 h6 =>
effD (callE (D 65) [a3, a2] h6 (List.length h6)) h6 fun x7 h8 e9 =>
ldK 2 true x3 h8 fun x10 =>
effD (callE (D 66) [x7, x10] h8 (List.length h8)) h8 fun x11 h12 e13 =>
gopD (wB x11 true) h12 (fun k => ldK 2 true x3 h12 fun v => k v h12 ((idsOf x3), [])) fun x14 h15 e16 =>
gopD (wB x11 true) h15 (fun k => k a3 h15 ([], [])) fun x17 h18 e19 =>
gopD (wB x11 true) h18 (fun k => k a2 h18 ([], [])) fun x20 h21 e22 =>
gopD (wB x11 true) h21 (fun k => effD (callE (D 65) [x17, x20] h21 (List.length h21)) h21 k) fun x23 h24 e25 =>
gopD (wB x11 true) h24 (fun k => effD (callE (D 67) [x14, x23] h24 (List.length h24)) h24 k) fun x26 h27 e28 =>
gopD (wB x11 true) h27 (fun k => k a2 h27 ([], [])) fun x29 h30 e31 =>
gopD (wB x11 true) h30 (fun k => convK P 3 80 x29 fun v => k v h30 ([], [])) fun x32 h33 e34 =>
gopD (wB x11 true) h33 (fun k => buildK [.s (.int .u64 0), .s (.int .u64 0)] [(some (0, 1), (.s (.int .u64 0))), (some (1, 1), x32)] fun v => k v h33 ([], [])) fun x35 h36 e37 =>
gopD (wB x11 true) h36 (fun k => effD (callE (D 66) [x26, x35] h36 (List.length h36)) h36 k) fun x38 h39 e40 =>
gopD (wB x11 true) h39 (fun k => notK x38 fun v => k v h39 ([], [])) fun x41 h42 e43 =>
pickK x11 x41 (.s (.bool false)) fun x44 =>
bif disjAll [(2, 3), (6, 9)] [([], []), ([], []), e9, ((idsOf x3), []), e13, ([], []), e16, e19, e22, e25, e28, e31, e34, e37, e40, e43, ([], [])] then (
condK x44 (
K (.tup [(.s (.int .i64 0)), (.s (.int .i64 0)), (.s (.bool false))]) h42) (
f_ref01_Of_L2 P T D N (fun w84_2 w84_11 w84_12 h => f_ref01_Of_j1 P T D N K w84_2 w84_11 w84_12 h) N a2 a3 x3 (.s (.int .i64 0)) (.s (.int .i64 2305843009213693952)) h42)) else none
theorem f_ref01_Of_j1_eq (P : Program) (T : Tab) (D : DTab) (N : Nat) {β : Type} (K : AV → Hp → Option β) (t : Tm) (h : Hp) : o_ref01_Of_j1 P T D N K t h = f_ref01_Of_j1 P T D N K (t 2) (t 11) (t 12) h := by kernel_rfl
theorem f_ref01_Of_j3_eq (P : Program) (T : Tab) (D : DTab) (N : Nat) {β : Type} (xn : AV → AV → AV → AV → AV → Hp → Option β) (x0 : AV → AV → AV → Hp → Option β) (xd : Nat → St → Option β) (xq : St → Option β) (t : Tm) (h : Hp) : o_ref01_Of_j3 P T D N (fun (e : Ex) (s : St) => e.on (xn (s.1 2) (s.1 3) (s.1 11) (s.1 12) (s.1 13) s.2) (fun i => (bif i == 0 then x0 (s.1 2) (s.1 11) (s.1 12) s.2 else (xd i s))) (xq s)) t h = f_ref01_Of_j3 P T D N xn x0 (t 2) (t 3) (t 11) (t 12) (t 13) h := by kernel_rfl
theorem f_ref01_Of_j4_eq (P : Program) (T : Tab) (D : DTab) (N : Nat) {β : Type} (xn : AV → AV → AV → AV → AV → Hp → Option β) (x0 : AV → AV → AV → Hp → Option β) (xd : Nat → St → Option β) (xq : St → Option β) (t : Tm) (h : Hp) : o_ref01_Of_j4 P T D N (fun (e : Ex) (s : St) => e.on (xn (s.1 2) (s.1 3) (s.1 11) (s.1 12) (s.1 13) s.2) (fun i => (bif i == 0 then x0 (s.1 2) (s.1 11) (s.1 12) s.2 else (xd i s))) (xq s)) t h = f_ref01_Of_j4 P T D N xn x0 (t 2) (t 3) (t 11) (t 12) (t 13) h := by kernel_rfl
theorem f_ref01_Of_b2_eq (P : Program) (T : Tab) (D : DTab) (N : Nat) {β : Type} (xn : AV → AV → AV → AV → AV → Hp → Option β) (x0 : AV → AV → AV → Hp → Option β) (xd : Nat → St → Option β) (xq : St → Option β) (t : Tm) (h : Hp) : o_ref01_Of_L2 P T D N t h (fun (e : Ex) (s : St) => e.on (xn (s.1 2) (s.1 3) (s.1 11) (s.1 12) (s.1 13) s.2) (fun i => (bif i == 0 then x0 (s.1 2) (s.1 11) (s.1 12) s.2 else (xd i s))) (xq s)) = f_ref01_Of_b2 P T D N xn x0 (t 2) (t 3) (t 11) (t 12) (t 13) h := by kernel_rfl
theorem f_ref01_Of_L2_eq (P : Program) (T : Tab) (D : DTab) (N : Nat) {β : Type} (A : Ex → St → Option β) (x0 : AV → AV → AV → Hp → Option β) (q0 : ∀ s, A (.exit 0) s = x0 (s.1 2) (s.1 11) (s.1 12) s.2) : ∀ (n : Nat) (s : St), iterK (fun s k => o_ref01_Of_L2 P T D N s.1 s.2 k) n s A = f_ref01_Of_L2 P T D N x0 n (s.1 2) (s.1 3) (s.1 11) (s.1 12) (s.1 13) s.2 := by
  intro n
  induction n with
  | zero => intro s; rfl
  | succ n ih =>
    intro s
    have hk : (fun (e : Ex) (s' : St) => Ex.on e (iterK (fun s k => o_ref01_Of_L2 P T D N s.1 s.2 k) n s' A) (fun i => A (.exit i) s') (A .ret s')) = (fun (e : Ex) (s : St) => e.on ((f_ref01_Of_L2 P T D N x0 n) (s.1 2) (s.1 3) (s.1 11) (s.1 12) (s.1 13) s.2) (fun i => (bif i == 0 then x0 (s.1 2) (s.1 11) (s.1 12) s.2 else (A (.exit i) s))) (A .ret s)) := by
      funext e s'
      cases e with
      | normal => exact ih s'
      | ret => exact rfl
      | exit i =>
        by_cases r0 : i = 0
        · subst r0; exact q0 s'
        simp only [Ex.on, beq_false_of_ne r0, cond_false]
    show o_ref01_Of_L2 P T D N s.1 s.2 (fun (e : Ex) (s' : St) => Ex.on e (iterK (fun s k => o_ref01_Of_L2 P T D N s.1 s.2 k) n s' A) (fun i => A (.exit i) s') (A .ret s')) = _
    rw [hk]
    exact f_ref01_Of_b2_eq P T D N (f_ref01_Of_L2 P T D N x0 n) x0 (fun i s => A (.exit i) s) (fun s => A .ret s) s.1 s.2
theorem f_ref01_Of_old_eq (P : Program) (T : Tab) (D : DTab) (N : Nat) {β : Type} (K : AV → Hp → Option β) (a0 : AV) (a1 : AV) (a2 : AV) (a3 : AV) (h : Hp) : o_ref01_Of P T D N K a0 a1 a2 a3 h = f_ref01_Of P T D N K a0 a1 a2 a3 h := by
  have eL2 : (fun s : St => iterK (fun s k => o_ref01_Of_L2 P T D N s.1 s.2 k) N s (o_ref01_Of_aL2 P T D N K)) = (fun s : St => f_ref01_Of_L2 P T D N (fun w84_2 w84_11 w84_12 h => f_ref01_Of_j1 P T D N K w84_2 w84_11 w84_12 h) N (s.1 2) (s.1 3) (s.1 11) (s.1 12) (s.1 13) s.2) := funext fun s => f_ref01_Of_L2_eq P T D N (o_ref01_Of_aL2 P T D N K) (fun w84_2 w84_11 w84_12 h => f_ref01_Of_j1 P T D N K w84_2 w84_11 w84_12 h) (fun s => rfl) N s
  show o_ref01_Of_G P T D N (fun s => iterK (fun s k => o_ref01_Of_L2 P T D N s.1 s.2 k) N s (o_ref01_Of_aL2 P T D N K)) K a0 a1 a2 a3 h = _
  rw [eL2]
  kernel_rfl
theorem o_ref01_Of_run (T : Tab) (D : DTab) (N : Nat) {β : Type} (K : AV → Hp → Option β) (a0 : AV) (a1 : AV) (a2 : AV) (a3 : AV) (h : Hp) : runK Try.prog T D N [0, 1, 2, 3, 8, 9, 10, 11, 12, 13, 33, 35, 52] Try.f52 K [a0, a1, a2, a3] h = o_ref01_Of Try.prog T D N K a0 a1 a2 a3 h := by kernel_rfl
theorem f_ref01_Of_run (T : Tab) (D : DTab) (N : Nat) {β : Type} (K : AV → Hp → Option β) (a0 : AV) (a1 : AV) (a2 : AV) (a3 : AV) (h : Hp) : runK Try.prog T D N [0, 1, 2, 3, 8, 9, 10, 11, 12, 13, 33, 35, 52] Try.f52 K [a0, a1, a2, a3] h = f_ref01_Of Try.prog T D N K a0 a1 a2 a3 h := (o_ref01_Of_run T D N K a0 a1 a2 a3 h).trans (f_ref01_Of_old_eq Try.prog T D N K a0 a1 a2 a3 h)
/-- spile/calendar.Date -/
def f_calendar_Date (P : Program) (T : Tab) (D : DTab) (N : Nat) {β : Type} (K : AV → Hp → Option β) (a0 : AV) (h : Hp) : Option β :=
effK (boxE 3 (.agg [.s (.int .i64 0), .s (.int .i64 0), .s (.int .i64 0)]) (List.length h)) h fun x1 h2 =>
callK (T 68) [a0] h2 fun x3 h4 =>
notK x3 fun x5 =>
condK x5 (
buildK [.s (.int .i64 0), .s (.int .i64 0), .s (.int .i64 0)] [] fun x6 =>
effK (stE 3 x1 x6 h4) h4 fun x7 h8 =>
ldK 3 true x1 h8 fun r9 =>
K (.tup [r9, (.s (.int .i64 2))]) h8) (
callK (T 69) [a0] h4 fun x10 h11 =>
effK (stE 3 x1 x10 h11) h11 fun x12 h13 =>
ldK 3 true x1 h13 fun r14 =>
K (.tup [r14, (.s (.int .i64 0))]) h13)
theorem f_calendar_Date_run (T : Tab) (D : DTab) (N : Nat) {β : Type} (K : AV → Hp → Option β) (a0 : AV) (h : Hp) : runK Try.prog T D N [0, 2, 3, 6] Try.f53 K [a0] h = f_calendar_Date Try.prog T D N K a0 h := by kernel_rfl
/-- spile/calendar.Day -/
def f_calendar_Day (P : Program) (T : Tab) (D : DTab) (N : Nat) {β : Type} (K : AV → Hp → Option β) (a0 : AV) (h : Hp) : Option β :=
effK (boxE 3 a0 (List.length h)) h fun x1 h2 =>
faK 0 x1 fun x3 =>
ldK 1 false x3 h2 fun x4 =>
arithK .lss x4 (.s (.int .i64 1900)) fun x5 =>
gopD (wB x5 false) h2 (fun k => faK 0 x1 fun v => k v h2 ([], [])) fun x6 h7 e8 =>
gopD (wB x5 false) h7 (fun k => ldK 1 false x6 h7 fun v => k v h7 ((idsOf x6), [])) fun x9 h10 e11 =>
gopD (wB x5 false) h10 (fun k => arithK .gtr x9 (.s (.int .i64 2200)) fun v => k v h10 ([], [])) fun x12 h13 e14 =>
pickK x5 (.s (.bool true)) x12 fun x15 =>
gopD (wB x15 false) h13 (fun k => faK 1 x1 fun v => k v h13 ([], [])) fun x16 h17 e18 =>
gopD (wB x15 false) h17 (fun k => ldK 1 false x16 h17 fun v => k v h17 ((idsOf x16), [])) fun x19 h20 e21 =>
gopD (wB x15 false) h20 (fun k => arithK .lss x19 (.s (.int .i64 1)) fun v => k v h20 ([], [])) fun x22 h23 e24 =>
pickK x15 (.s (.bool true)) x22 fun x25 =>
gopD (wB x25 false) h23 (fun k => faK 1 x1 fun v => k v h23 ([], [])) fun x26 h27 e28 =>
gopD (wB x25 false) h27 (fun k => ldK 1 false x26 h27 fun v => k v h27 ((idsOf x26), [])) fun x29 h30 e31 =>
gopD (wB x25 false) h30 (fun k => arithK .gtr x29 (.s (.int .i64 12)) fun v => k v h30 ([], [])) fun x32 h33 e34 =>
pickK x25 (.s (.bool true)) x32 fun x35 =>
gopD (wB x35 false) h33 (fun k => faK 2 x1 fun v => k v h33 ([], [])) fun x36 h37 e38 =>
gopD (wB x35 false) h37 (fun k => ldK 1 false x36 h37 fun v => k v h37 ((idsOf x36), [])) fun x39 h40 e41 =>
gopD (wB x35 false) h40 (fun k => arithK .lss x39 (.s (.int .i64 1)) fun v => k v h40 ([], [])) fun x42 h43 e44 =>
pickK x35 (.s (.bool true)) x42 fun x45 =>
gopD (wB x45 false) h43 (fun k => faK 2 x1 fun v => k v h43 ([], [])) fun x46 h47 e48 =>
gopD (wB x45 false) h47 (fun k => ldK 1 false x46 h47 fun v => k v h47 ((idsOf x46), [])) fun x49 h50 e51 =>
gopD (wB x45 false) h50 (fun k => faK 0 x1 fun v => k v h50 ([], [])) fun x52 h53 e54 =>
gopD (wB x45 false) h53 (fun k => ldK 1 false x52 h53 fun v => k v h53 ((idsOf x52), [])) fun x55 h56 e57 =>
gopD (wB x45 false) h56 (fun k => faK 1 x1 fun v => k v h56 ([], [])) fun x58 h59 e60 =>
gopD (wB x45 false) h59 (fun k => ldK 1 false x58 h59 fun v => k v h59 ((idsOf x58), [])) fun x61 h62 e63 =>
gopD (wB x45 false) h62 (fun k => effD (callE (D 70) [x55, x61] h62 (List.length h62)) h62 k) fun x64 h65 e66 =>
gopD (wB x45 false) h65 (fun k => arithK .gtr x49 x64 fun v => k v h65 ([], [])) fun x67 h68 e69 =>
pickK x45 (.s (.bool true)) x67 fun x70 =>
bif disjAll [(25, 30)] [([], []), ((idsOf x3), []), ([], []), ([], []), e8, e11, e14, ([], []), ([], []), e18, e21, e24, ([], []), ([], []), e28, e31, e34, ([], []), ([], []), e38, e41, e44, ([], []), ([], []), e48, e51, e54, e57, e60, e63, e66, e69, ([], [])] then (
condK x70 (
K (.tup [(.s (.int .i64 0)), (.s (.int .i64 1))]) h68) (
ldK 3 true x1 h68 fun x71 =>
callK (T 71) [x71] h68 fun x72 h73 =>
effD (callE (D 68) [x72] h73 (List.length h73)) h73 fun x74 h75 e76 =>
notK x74 fun x77 =>
gopD (wB x77 false) h75 (fun k => k x72 h75 ([], [])) fun x78 h79 e80 =>
gopD (wB x77 false) h79 (fun k => effD (callE (D 69) [x78] h79 (List.length h79)) h79 k) fun x81 h82 e83 =>
gopD (wB x77 false) h82 (fun k => ldK 3 true x1 h82 fun v => k v h82 ((idsOf x1), [])) fun x84 h85 e86 =>
gopD (wB x77 false) h85 (fun k => eqK P true 71 x81 x84 h85 fun v => k v h85 ([], [])) fun x87 h88 e89 =>
pickK x77 (.s (.bool true)) x87 fun x90 =>
bif disjAll [(5, 6)] [([], []), e76, ([], []), ([], []), e80, e83, e86, e89, ([], [])] then (
condK x90 (
K (.tup [(.s (.int .i64 0)), (.s (.int .i64 1))]) h88) (
K (.tup [x72, (.s (.int .i64 0))]) h88)) else none)) else none
theorem f_calendar_Day_run (T : Tab) (D : DTab) (N : Nat) {β : Type} (K : AV → Hp → Option β) (a0 : AV) (h : Hp) : runK Try.prog T D N [0, 1, 2, 3, 4, 37, 48] Try.f54 K [a0] h = f_calendar_Day Try.prog T D N K a0 h := by kernel_rfl
def o_sort_Search_j1 (P : Program) (T : Tab) (D : DTab) (N : Nat) {β : Type} (K : AV → Hp → Option β) (t : Tm) (h : Hp) : Option β :=
K (t 5) h
def o_sort_Search_j3 (P : Program) (T : Tab) (D : DTab) (N : Nat) {β : Type} (k : Ex → St → Option β) (t : Tm) (h : Hp) : Option β :=
k .normal (t, h)
def o_sort_Search_L2 (P : Program) (T : Tab) (D : DTab) (N : Nat) {β : Type} (t : Tm) (h : Hp) (k : Ex → St → Option β) : Option β :=
arithK .lss (t 5) (t 6) fun x1 =>
condK x1 (
arithK .add (t 5) (t 6) fun x2 =>
convK P 3 94 x2 fun x3 =>
reckK P .shr 94 x3 (.s (.int .u64 1)) fun x4 =>
convK P 94 3 x4 fun x5 =>
callVK T (t 1) [x5] h fun x6 h7 =>
notK x6 fun x8 =>
condK x8 (
arithK .add x5 (.s (.int .i64 1)) fun x9 =>
(o_sort_Search_j3 P T D N k (upd (upd (upd (upd t 11 x1) 7 x5) 21 x8) 5 x9) h7)) (
(o_sort_Search_j3 P T D N k (upd (upd (upd (upd t 11 x1) 7 x5) 21 x8) 6 x5) h7))) (
k (.exit 0) ((upd t 11 x1), h))
def o_sort_Search_aL2 (P : Program) (T : Tab) (D : DTab) (N : Nat) {β : Type} (K : AV → Hp → Option β) (e : Ex) (s : St) : Option β :=
  e.on ((o_sort_Search_j1 P T D N K s.1 s.2))
  (fun i => bif i == 0 then ((o_sort_Search_j1 P T D N K s.1 s.2)) else (none))
  (K (s.1 4) s.2)
def o_sort_Search_G (P : Program) (T : Tab) (D : DTab) (N : Nat) {β : Type} (cL2 : St → Option β) (K : AV → Hp → Option β) (a0 : AV) (a1 : AV) (h : Hp) :  Option β :=
cL2 ((upd (upd (upd (tm0 [a0, a1]) 4 (.s (.int .i64 0))) 5 (.s (.int .i64 0))) 6 a0), h)
def o_sort_Search (P : Program) (T : Tab) (D : DTab) (N : Nat) {β : Type} (K : AV → Hp → Option β) (a0 : AV) (a1 : AV) (h : Hp) : Option β := o_sort_Search_G P T D N (fun s => iterK (fun s k => o_sort_Search_L2 P T D N s.1 s.2 k) N s (o_sort_Search_aL2 P T D N K)) K a0 a1 h
def f_sort_Search_j1 (P : Program) (T : Tab) (D : DTab) (N : Nat) {β : Type} (K : AV → Hp → Option β) (v5 : AV) (h : Hp) : Option β :=
K v5 h
def f_sort_Search_j3 (P : Program) (T : Tab) (D : DTab) (N : Nat) {β : Type} (xn : AV → AV → AV → Hp → Option β) (x0 : AV → Hp → Option β) (v1 : AV) (v5 : AV) (v6 : AV) (h : Hp) : Option β :=
xn v1 v5 v6 h
def f_sort_Search_b2 (P : Program) (T : Tab) (D : DTab) (N : Nat) {β : Type} (xn : AV → AV → AV → Hp → Option β) (x0 : AV → Hp → Option β) (v1 : AV) (v5 : AV) (v6 : AV) (h : Hp) : Option β :=
arithK .lss v5 v6 fun x1 =>
condK x1 (
arithK .add v5 v6 fun x2 =>
convK P 3 94 x2 fun x3 =>
reckK P .shr 94 x3 (.s (.int .u64 1)) fun x4 =>
convK P 94 3 x4 fun x5 =>
callVK T v1 [x5] h fun x6 h7 =>
notK x6 fun x8 =>
condK x8 (
arithK .add x5 (.s (.int .i64 1)) fun x9 =>
f_sort_Search_j3 P T D N xn x0 v1 x9 v6 h7) (
f_sort_Search_j3 P T D N xn x0 v1 v5 x5 h7)) (
x0 v5 h)
def f_sort_Search_L2 (P : Program) (T : Tab) (D : DTab) (N : Nat) {β : Type} (x0 : AV → Hp → Option β) : Nat → AV → AV → AV → Hp → Option β
  | 0 => fun _ _ _ _ => none
  | n + 1 => fun v1 v5 v6 h => f_sort_Search_b2 P T D N (f_sort_Search_L2 P T D N x0 n) x0 v1 v5 v6 h
/-- sort.Search -/
def f_sort_Search (P : Program) (T : Tab) (D : DTab) (N : Nat) {β : Type} (K : AV → Hp → Option β) (a0 : AV) (a1 : AV) (h : Hp) : Option β :=
f_sort_Search_L2 P T D N (fun w10_5 h => f_sort_Search_j1 P T D N K w10_5 h) N a1 (.s (.int .i64 0)) a0 h
theorem f_sort_Search_j1_eq (P : Program) (T : Tab) (D : DTab) (N : Nat) {β : Type} (K : AV → Hp → Option β) (t : Tm) (h : Hp) : o_sort_Search_j1 P T D N K t h = f_sort_Search_j1 P T D N K (t 5) h := by kernel_rfl
theorem f_sort_Search_j3_eq (P : Program) (T : Tab) (D : DTab) (N : Nat) {β : Type} (xn : AV → AV → AV → Hp → Option β) (x0 : AV → Hp → Option β) (xd : Nat → St → Option β) (xq : St → Option β) (t : Tm) (h : Hp) : o_sort_Search_j3 P T D N (fun (e : Ex) (s : St) => e.on (xn (s.1 1) (s.1 5) (s.1 6) s.2) (fun i => (bif i == 0 then x0 (s.1 5) s.2 else (xd i s))) (xq s)) t h = f_sort_Search_j3 P T D N xn x0 (t 1) (t 5) (t 6) h := by kernel_rfl
theorem f_sort_Search_b2_eq (P : Program) (T : Tab) (D : DTab) (N : Nat) {β : Type} (xn : AV → AV → AV → Hp → Option β) (x0 : AV → Hp → Option β) (xd : Nat → St → Option β) (xq : St → Option β) (t : Tm) (h : Hp) : o_sort_Search_L2 P T D N t h (fun (e : Ex) (s : St) => e.on (xn (s.1 1) (s.1 5) (s.1 6) s.2) (fun i => (bif i == 0 then x0 (s.1 5) s.2 else (xd i s))) (xq s)) = f_sort_Search_b2 P T D N xn x0 (t 1) (t 5) (t 6) h := by kernel_rfl
theorem f_sort_Search_L2_eq (P : Program) (T : Tab) (D : DTab) (N : Nat) {β : Type} (A : Ex → St → Option β) (x0 : AV → Hp → Option β) (q0 : ∀ s, A (.exit 0) s = x0 (s.1 5) s.2) : ∀ (n : Nat) (s : St), iterK (fun s k => o_sort_Search_L2 P T D N s.1 s.2 k) n s A = f_sort_Search_L2 P T D N x0 n (s.1 1) (s.1 5) (s.1 6) s.2 := by
  intro n
  induction n with
  | zero => intro s; rfl
  | succ n ih =>
    intro s
    have hk : (fun (e : Ex) (s' : St) => Ex.on e (iterK (fun s k => o_sort_Search_L2 P T D N s.1 s.2 k) n s' A) (fun i => A (.exit i) s') (A .ret s')) = (fun (e : Ex) (s : St) => e.on ((f_sort_Search_L2 P T D N x0 n) (s.1 1) (s.1 5) (s.1 6) s.2) (fun i => (bif i == 0 then x0 (s.1 5) s.2 else (A (.exit i) s))) (A .ret s)) := by
      funext e s'
      cases e with
      | normal => exact ih s'
      | ret => exact rfl
      | exit i =>
        by_cases r0 : i = 0
        · subst r0; exact q0 s'
        simp only [Ex.on, beq_false_of_ne r0, cond_false]
    show o_sort_Search_L2 P T D N s.1 s.2 (fun (e : Ex) (s' : St) => Ex.on e (iterK (fun s k => o_sort_Search_L2 P T D N s.1 s.2 k) n s' A) (fun i => A (.exit i) s') (A .ret s')) = _
    rw [hk]
    exact f_sort_Search_b2_eq P T D N (f_sort_Search_L2 P T D N x0 n) x0 (fun i s => A (.exit i) s) (fun s => A .ret s) s.1 s.2
theorem f_sort_Search_old_eq (P : Program) (T : Tab) (D : DTab) (N : Nat) {β : Type} (K : AV → Hp → Option β) (a0 : AV) (a1 : AV) (h : Hp) : o_sort_Search P T D N K a0 a1 h = f_sort_Search P T D N K a0 a1 h := by
  have eL2 : (fun s : St => iterK (fun s k => o_sort_Search_L2 P T D N s.1 s.2 k) N s (o_sort_Search_aL2 P T D N K)) = (fun s : St => f_sort_Search_L2 P T D N (fun w10_5 h => f_sort_Search_j1 P T D N K w10_5 h) N (s.1 1) (s.1 5) (s.1 6) s.2) := funext fun s => f_sort_Search_L2_eq P T D N (o_sort_Search_aL2 P T D N K) (fun w10_5 h => f_sort_Search_j1 P T D N K w10_5 h) (fun s => rfl) N s
  show o_sort_Search_G P T D N (fun s => iterK (fun s k => o_sort_Search_L2 P T D N s.1 s.2 k) N s (o_sort_Search_aL2 P T D N K)) K a0 a1 h = _
  rw [eL2]
  kernel_rfl
theorem o_sort_Search_run (T : Tab) (D : DTab) (N : Nat) {β : Type} (K : AV → Hp → Option β) (a0 : AV) (a1 : AV) (h : Hp) : runK Try.prog T D N [0, 1, 4, 5, 6, 7, 11, 21] Try.f55 K [a0, a1] h = o_sort_Search Try.prog T D N K a0 a1 h := by kernel_rfl
theorem f_sort_Search_run (T : Tab) (D : DTab) (N : Nat) {β : Type} (K : AV → Hp → Option β) (a0 : AV) (a1 : AV) (h : Hp) : runK Try.prog T D N [0, 1, 4, 5, 6, 7, 11, 21] Try.f55 K [a0, a1] h = f_sort_Search Try.prog T D N K a0 a1 h := (o_sort_Search_run T D N K a0 a1 h).trans (f_sort_Search_old_eq Try.prog T D N K a0 a1 h)
/-- spile/season.on$1 -/
def f_season_on_1 (P : Program) (T : Tab) (D : DTab) (N : Nat) {β : Type} (K : AV → Hp → Option β) (a0 : AV) (a1 : AV) (a2 : AV) (h : Hp) : Option β :=
ldK 1 false a1 h fun x1 =>
iaK 4 x1 a0 fun x2 =>
faK 0 x2 fun x3 =>
ldK 1 false x3 h fun x4 =>
ldK 1 false a2 h fun x5 =>
arithK .gtr x4 x5 fun x6 =>
K x6 h
theorem f_season_on_1_run (T : Tab) (D : DTab) (N : Nat) {β : Type} (K : AV → Hp → Option β) (a0 : AV) (a1 : AV) (a2 : AV) (h : Hp) : runK Try.prog T D N [0, 1, 2, 4] Try.f56 K [a0, a1, a2] h = f_season_on_1 Try.prog T D N K a0 a1 a2 h := by kernel_rfl
/-- spile/season.rate -/
def f_season_rate (P : Program) (T : Tab) (D : DTab) (N : Nat) {β : Type} (K : AV → Hp → Option β) (a0 : AV) (a1 : AV) (a2 : AV) (a3 : AV) (h : Hp) : Option β :=
effK (boxE 1 a0 (List.length h)) h fun x1 h2 =>
buildK [.s (.int .i64 0), .s (.int .i64 0), .s (.int .i64 0), .s (.int .i64 0)] [(some (0, 1), a1), (some (1, 1), a2), (some (2, 1), a3)] fun x3 =>
effK (boxE 4 (.agg [.s (.int .i64 0), .s (.int .i64 0), .s (.int .i64 0), .s (.int .i64 0)]) (List.length h2)) h2 fun x4 h5 =>
effK (stE 4 x4 x3 h5) h5 fun x6 h7 =>
ldK 1 false x1 h7 fun x8 =>
lenK x8 fun x9 =>
callK (T 55) [x9, (.fn 72 [x1, x4])] h7 fun x10 h11 =>
ldK 1 false x1 h11 fun x12 =>
lenK x12 fun x13 =>
arithK .lss x10 x13 fun x14 =>
grpK true x14 h11 (fun k15 =>
ldK 1 false x1 h11 fun x16 =>
iaK 4 x16 x10 fun x17 =>
faK 0 x17 fun x18 =>
ldK 1 false x18 h11 fun x19 =>
eqK P false 3 x19 a1 h11 fun x20 =>
k15 x20 h11) fun x21 h22 =>
grpK true x21 h22 (fun k23 =>
ldK 1 false x1 h22 fun x24 =>
iaK 4 x24 x10 fun x25 =>
faK 1 x25 fun x26 =>
ldK 1 false x26 h22 fun x27 =>
eqK P false 3 x27 a2 h22 fun x28 =>
k23 x28 h22) fun x29 h30 =>
grpK true x29 h30 (fun k31 =>
ldK 1 false x1 h30 fun x32 =>
iaK 4 x32 x10 fun x33 =>
faK 2 x33 fun x34 =>
ldK 1 false x34 h30 fun x35 =>
eqK P false 3 x35 a3 h30 fun x36 =>
k31 x36 h30) fun x37 h38 =>
condK x37 (
ldK 1 false x1 h38 fun x39 =>
iaK 4 x39 x10 fun x40 =>
faK 3 x40 fun x41 =>
ldK 1 false x41 h38 fun x42 =>
K x42 h38) (
K (.s (.int .i64 0)) h38)
theorem f_season_rate_run (T : Tab) (D : DTab) (N : Nat) {β : Type} (K : AV → Hp → Option β) (a0 : AV) (a1 : AV) (a2 : AV) (a3 : AV) (h : Hp) : runK Try.prog T D N [0, 1, 2, 3, 4, 8, 9, 10, 49] Try.f57 K [a0, a1, a2, a3] h = f_season_rate Try.prog T D N K a0 a1 a2 a3 h := by kernel_rfl
/-- spile/season.version$1 -/
def f_season_version_1 (P : Program) (T : Tab) (D : DTab) (N : Nat) {β : Type} (K : AV → Hp → Option β) (a0 : AV) (a1 : AV) (a2 : AV) (h : Hp) : Option β :=
ldK 1 false a1 h fun x1 =>
iaK 4 x1 a0 fun x2 =>
faK 0 x2 fun x3 =>
ldK 1 false x3 h fun x4 =>
ldK 1 false a2 h fun x5 =>
arithK .gtr x4 x5 fun x6 =>
K x6 h
theorem f_season_version_1_run (T : Tab) (D : DTab) (N : Nat) {β : Type} (K : AV → Hp → Option β) (a0 : AV) (a1 : AV) (a2 : AV) (h : Hp) : runK Try.prog T D N [0, 1, 2, 4] Try.f58 K [a0, a1, a2] h = f_season_version_1 Try.prog T D N K a0 a1 a2 h := by kernel_rfl
def f_slices_Grow_Allowance_j2 (P : Program) (T : Tab) (D : DTab) (N : Nat) {β : Type} (K : AV → Hp → Option β) (v0 : AV) (h : Hp) : Option β :=
K v0 h
def f_slices_Grow_Allowance_j1 (P : Program) (T : Tab) (D : DTab) (N : Nat) {β : Type} (K : AV → Hp → Option β) (v0 : AV) (v1 : AV) (h : Hp) : Option β :=
capK v0 fun x1 =>
lenK v0 fun x2 =>
arithK .sub x1 x2 fun x3 =>
arithK .sub v1 x3 fun x4 =>
arithK .gtr x4 (.s (.int .i64 0)) fun x5 =>
condK x5 (
capK v0 fun x6 =>
sliceK 4 v0 none (some x6) none fun x7 =>
effK (mkE 4 32 [.s (.int .i64 0), .s (.int .i64 0), .s (.int .i64 0), .s (.int .i64 0)] x7 x4 (List.length h)) h fun x8 h9 =>
lenK v0 fun x10 =>
sliceK 4 x8 none (some x10) none fun x11 =>
f_slices_Grow_Allowance_j2 P T D N K x11 h9) (
f_slices_Grow_Allowance_j2 P T D N K v0 h)
/-- slices.Grow[[]spile/api.Allowance,spile/api.Allowance] -/
def f_slices_Grow_Allowance (P : Program) (T : Tab) (D : DTab) (N : Nat) {β : Type} (K : AV → Hp → Option β) (a0 : AV) (a1 : AV) (h : Hp) : Option β :=
arithK .lss a1 (.s (.int .i64 0)) fun x12 =>
condK x12 (
none) (
f_slices_Grow_Allowance_j1 P T D N K a0 a1 h)
theorem f_slices_Grow_Allowance_run (T : Tab) (D : DTab) (N : Nat) {β : Type} (K : AV → Hp → Option β) (a0 : AV) (a1 : AV) (h : Hp) : runK Try.prog T D N [0, 1, 4, 6, 16] Try.f59 K [a0, a1] h = f_slices_Grow_Allowance Try.prog T D N K a0 a1 h := by kernel_rfl
/-- slices.ContainsFunc[[]int,int] -/
def f_slices_ContainsFunc_int (P : Program) (T : Tab) (D : DTab) (N : Nat) {β : Type} (K : AV → Hp → Option β) (a0 : AV) (a1 : AV) (h : Hp) : Option β :=
callK (T 73) [a0, a1] h fun x1 h2 =>
arithK .geq x1 (.s (.int .i64 0)) fun x3 =>
K x3 h2
theorem f_slices_ContainsFunc_int_run (T : Tab) (D : DTab) (N : Nat) {β : Type} (K : AV → Hp → Option β) (a0 : AV) (a1 : AV) (h : Hp) : runK Try.prog T D N [0, 1, 4] Try.f60 K [a0, a1] h = f_slices_ContainsFunc_int Try.prog T D N K a0 a1 h := by kernel_rfl
/-- spile/proportion.amounts$1 -/
def f_proportion_amounts_1 (P : Program) (T : Tab) (D : DTab) (N : Nat) {β : Type} (K : AV → Hp → Option β) (a0 : AV) (h : Hp) : Option β :=
callK (T 62) [a0] h fun x1 h2 =>
notK x1 fun x3 =>
K x3 h2
theorem f_proportion_amounts_1_run (T : Tab) (D : DTab) (N : Nat) {β : Type} (K : AV → Hp → Option β) (a0 : AV) (h : Hp) : runK Try.prog T D N [0, 2] Try.f61 K [a0] h = f_proportion_amounts_1 Try.prog T D N K a0 h := by kernel_rfl
/-- spile/proportion.amount -/
def f_proportion_amount (P : Program) (T : Tab) (D : DTab) (N : Nat) {β : Type} (K : AV → Hp → Option β) (a0 : AV) (h : Hp) : Option β :=
arithK .geq a0 (.s (.int .i64 0)) fun x1 =>
grpK true x1 h (fun k2 =>
arithK .leq a0 (.s (.int .i64 128849018880000)) fun x3 =>
k2 x3 h) fun x4 h5 =>
K x4 h5
theorem f_proportion_amount_run (T : Tab) (D : DTab) (N : Nat) {β : Type} (K : AV → Hp → Option β) (a0 : AV) (h : Hp) : runK Try.prog T D N [0, 2] Try.f62 K [a0] h = f_proportion_amount Try.prog T D N K a0 h := by kernel_rfl
/-- spile/proportion.product -/
def f_proportion_product (P : Program) (T : Tab) (D : DTab) (N : Nat) {β : Type} (K : AV → Hp → Option β) (a0 : AV) (a1 : AV) (h : Hp) : Option β :=
effK (boxE 2 (.agg [.s (.int .u64 0), .s (.int .u64 0)]) (List.length h)) h fun x1 h2 =>
convK P 3 80 a0 fun x3 =>
convK P 3 80 a1 fun x4 =>
callK (T 74) [x3, x4] h2 fun x5 h6 =>
exK x5 0 fun x7 =>
exK x5 1 fun x8 =>
buildK [.s (.int .u64 0), .s (.int .u64 0)] [(some (0, 1), x7), (some (1, 1), x8)] fun x9 =>
effK (stE 2 x1 x9 h6) h6 fun x10 h11 =>
ldK 2 true x1 h11 fun r12 =>
K r12 h11
theorem f_proportion_product_run (T : Tab) (D : DTab) (N : Nat) {β : Type} (K : AV → Hp → Option β) (a0 : AV) (a1 : AV) (h : Hp) : runK Try.prog T D N [0, 1, 4, 5, 6] Try.f63 K [a0, a1] h = f_proportion_product Try.prog T D N K a0 a1 h := by kernel_rfl
def o_bits_Div64_j4 (P : Program) (T : Tab) (D : DTab) (N : Nat) {β : Type} (K : AV → Hp → Option β) (t : Tm) (h : Hp) : Option β :=
arithK .mul (t 15) (.s (.int .u64 4294967296)) fun x27 =>
arithK .add x27 (t 18) fun x28 =>
arithK .mul (t 17) (.s (.int .u64 4294967296)) fun x29 =>
arithK .add x29 (t 14) fun x30 =>
arithK .mul (t 18) (t 2) fun x31 =>
arithK .sub x30 x31 fun x32 =>
reckK P .shr 80 x32 (t 8) fun x33 =>
K (.tup [x28, x33]) h
def o_bits_Div64_j5 (P : Program) (T : Tab) (D : DTab) (N : Nat) {β : Type} (K : AV → Hp → Option β) (t : Tm) (h : Hp) : Option β :=
(o_bits_Div64_j4 P T D N K t h)
def o_bits_Div64_L6 (P : Program) (T : Tab) (D : DTab) (N : Nat) {β : Type} (t : Tm) (h : Hp) (k : Ex → St → Option β) : Option β :=
arithK .geq (t 18) (.s (.int .u64 4294967296)) fun x34 =>
grpK false x34 h (fun k35 =>
arithK .mul (t 18) (t 10) fun x36 =>
arithK .mul (.s (.int .u64 4294967296)) (t 16) fun x37 =>
arithK .add x37 (t 14) fun x38 =>
arithK .gtr x36 x38 fun x39 =>
k35 x39 h) fun x40 h41 =>
condK x40 (
arithK .sub (t 18) (.s (.int .u64 1)) fun x42 =>
arithK .add (t 16) (t 9) fun x43 =>
arithK .geq x43 (.s (.int .u64 4294967296)) fun x44 =>
condK x44 (
k (.exit 2) ((upd (upd (upd (upd t 113 x40) 18 x42) 16 x43) 120 x44), h41)) (
k .normal ((upd (upd (upd (upd t 113 x40) 18 x42) 16 x43) 120 x44), h41))) (
k (.exit 2) ((upd t 113 x40), h41))
def o_bits_Div64_aL6 (P : Program) (T : Tab) (D : DTab) (N : Nat) {β : Type} (K : AV → Hp → Option β) (e : Ex) (s : St) : Option β :=
  e.on ((o_bits_Div64_j5 P T D N K s.1 s.2))
  (fun i => bif i == 2 then ((o_bits_Div64_j5 P T D N K s.1 s.2)) else (none))
  (K (.tup [(s.1 6), (s.1 7)]) s.2)
def o_bits_Div64_j3_G (P : Program) (T : Tab) (D : DTab) (N : Nat) {β : Type} (cL6 : St → Option β) (K : AV → Hp → Option β) (t : Tm) (h : Hp) :  Option β :=
arithK .mul (t 11) (.s (.int .u64 4294967296)) fun x20 =>
arithK .add x20 (t 13) fun x21 =>
arithK .mul (t 15) (t 2) fun x22 =>
arithK .sub x21 x22 fun x23 =>
reckK P .quo 80 x23 (t 9) fun x24 =>
arithK .mul x24 (t 9) fun x25 =>
arithK .sub x23 x25 fun x26 =>
cL6 ((upd (upd (upd t 17 x23) 18 x24) 16 x26), h)
def o_bits_Div64_j3 (P : Program) (T : Tab) (D : DTab) (N : Nat) {β : Type} (K : AV → Hp → Option β) (t : Tm) (h : Hp) : Option β := o_bits_Div64_j3_G P T D N (fun s => iterK (fun s k => o_bits_Div64_L6 P T D N s.1 s.2 k) N s (o_bits_Div64_aL6 P T D N K)) K t h
def o_bits_Div64_j7_G (P : Program) (T : Tab) (D : DTab) (N : Nat) {β : Type} (cj3 : St → Option β) (K : AV → Hp → Option β) (t : Tm) (h : Hp) :  Option β :=
cj3 (t, h)
def o_bits_Div64_j7 (P : Program) (T : Tab) (D : DTab) (N : Nat) {β : Type} (K : AV → Hp → Option β) (t : Tm) (h : Hp) : Option β := o_bits_Div64_j7_G P T D N (fun s => (o_bits_Div64_j3 P T D N K s.1 s.2)) K t h
def o_bits_Div64_L8 (P : Program) (T : Tab) (D : DTab) (N : Nat) {β : Type} (t : Tm) (h : Hp) (k : Ex → St → Option β) : Option β :=
arithK .geq (t 15) (.s (.int .u64 4294967296)) fun x45 =>
grpK false x45 h (fun k46 =>
arithK .mul (t 15) (t 10) fun x47 =>
arithK .mul (.s (.int .u64 4294967296)) (t 16) fun x48 =>
arithK .add x48 (t 13) fun x49 =>
arithK .gtr x47 x49 fun x50 =>
k46 x50 h) fun x51 h52 =>
condK x51 (
arithK .sub (t 15) (.s (.int .u64 1)) fun x53 =>
arithK .add (t 16) (t 9) fun x54 =>
arithK .geq x54 (.s (.int .u64 4294967296)) fun x55 =>
condK x55 (
k (.exit 0) ((upd (upd (upd (upd t 78 x51) 15 x53) 16 x54) 85 x55), h52)) (
k .normal ((upd (upd (upd (upd t 78 x51) 15 x53) 16 x54) 85 x55), h52))) (
k (.exit 0) ((upd t 78 x51), h52))
def o_bits_Div64_aL8 (P : Program) (T : Tab) (D : DTab) (N : Nat) {β : Type} (K : AV → Hp → Option β) (e : Ex) (s : St) : Option β :=
  e.on ((o_bits_Div64_j7 P T D N K s.1 s.2))
  (fun i => bif i == 0 then ((o_bits_Div64_j7 P T D N K s.1 s.2)) else (none))
  (K (.tup [(s.1 6), (s.1 7)]) s.2)
def o_bits_Div64_j2_G (P : Program) (T : Tab) (D : DTab) (N : Nat) {β : Type} (cL8 : St → Option β) (K : AV → Hp → Option β) (t : Tm) (h : Hp) :  Option β :=
eqK P false 80 (t 0) (.s (.int .u64 0)) h fun x1 =>
condK x1 (
reckK P .quo 80 (t 1) (t 2) fun x2 =>
reckK P .rem 80 (t 1) (t 2) fun x3 =>
K (.tup [x2, x3]) h) (
callK (T 75) [(t 2)] h fun x4 h5 =>
convK P 3 94 x4 fun x6 =>
reckK P .shl 80 (t 2) x6 fun x7 =>
reckK P .shr 80 x7 (.s (.int .u64 32)) fun x8 =>
reckK P .and 80 x7 (.s (.int .u64 4294967295)) fun x9 =>
reckK P .shl 80 (t 0) x6 fun x10 =>
arithK .sub (.s (.int .u64 64)) x6 fun x11 =>
reckK P .shr 80 (t 1) x11 fun x12 =>
reckK P .or 80 x10 x12 fun x13 =>
reckK P .shl 80 (t 1) x6 fun x14 =>
reckK P .shr 80 x14 (.s (.int .u64 32)) fun x15 =>
reckK P .and 80 x14 (.s (.int .u64 4294967295)) fun x16 =>
reckK P .quo 80 x13 x8 fun x17 =>
arithK .mul x17 x8 fun x18 =>
arithK .sub x13 x18 fun x19 =>
cL8 ((upd (upd (upd (upd (upd (upd (upd (upd (upd (upd (upd t 27 x1) 8 x6) 2 x7) 9 x8) 10 x9) 11 x13) 12 x14) 13 x15) 14 x16) 15 x17) 16 x19), h5))
def o_bits_Div64_j2 (P : Program) (T : Tab) (D : DTab) (N : Nat) {β : Type} (K : AV → Hp → Option β) (t : Tm) (h : Hp) : Option β := o_bits_Div64_j2_G P T D N (fun s => iterK (fun s k => o_bits_Div64_L8 P T D N s.1 s.2 k) N s (o_bits_Div64_aL8 P T D N K)) K t h
def o_bits_Div64_j1_G (P : Program) (T : Tab) (D : DTab) (N : Nat) {β : Type} (cj2 : St → Option β) (K : AV → Hp → Option β) (t : Tm) (h : Hp) :  Option β :=
arithK .leq (t 2) (t 0) fun x56 =>
condK x56 (
ldK 1 false AV.u h fun x57 =>
none) (
cj2 ((upd t 24 x56), h))
def o_bits_Div64_j1 (P : Program) (T : Tab) (D : DTab) (N : Nat) {β : Type} (K : AV → Hp → Option β) (t : Tm) (h : Hp) : Option β := o_bits_Div64_j1_G P T D N (fun s => (o_bits_Div64_j2 P T D N K s.1 s.2)) K t h
def o_bits_Div64_G (P : Program) (T : Tab) (D : DTab) (N : Nat) {β : Type} (cj1 : St → Option β) (K : AV → Hp → Option β) (a0 : AV) (a1 : AV) (a2 : AV) (h : Hp) :  Option β :=
eqK P false 80 a2 (.s (.int .u64 0)) h fun x58 =>
condK x58 (
ldK 1 false AV.u h fun x59 =>
none) (
cj1 ((upd (upd (upd (tm0 [a0, a1, a2]) 6 (.s (.int .u64 0))) 7 (.s (.int .u64 0))) 20 x58), h))
def o_bits_Div64 (P : Program) (T : Tab) (D : DTab) (N : Nat) {β : Type} (K : AV → Hp → Option β) (a0 : AV) (a1 : AV) (a2 : AV) (h : Hp) : Option β := o_bits_Div64_G P T D N (fun s => (o_bits_Div64_j1 P T D N K s.1 s.2)) K a0 a1 a2 h
def f_bits_Div64_j4 (P : Program) (T : Tab) (D : DTab) (N : Nat) {β : Type} (K : AV → Hp → Option β) (v2 : AV) (v8 : AV) (v14 : AV) (v15 : AV) (v17 : AV) (v18 : AV) (h : Hp) : Option β :=
arithK .mul v15 (.s (.int .u64 4294967296)) fun x27 =>
arithK .add x27 v18 fun x28 =>
arithK .mul v17 (.s (.int .u64 4294967296)) fun x29 =>
arithK .add x29 v14 fun x30 =>
arithK .mul v18 v2 fun x31 =>
arithK .sub x30 x31 fun x32 =>
reckK P .shr 80 x32 v8 fun x33 =>
K (.tup [x28, x33]) h
def f_bits_Div64_j5 (P : Program) (T : Tab) (D : DTab) (N : Nat) {β : Type} (K : AV → Hp → Option β) (v2 : AV) (v8 : AV) (v14 : AV) (v15 : AV) (v17 : AV) (v18 : AV) (h : Hp) : Option β :=
f_bits_Div64_j4 P T D N K v2 v8 v14 v15 v17 v18 h
def f_bits_Div64_b6 (P : Program) (T : Tab) (D : DTab) (N : Nat) {β : Type} (xn : AV → AV → AV → AV → AV → AV → AV → AV → AV → Hp → Option β) (x2 : AV → AV → AV → AV → AV → AV → Hp → Option β) (v2 : AV) (v8 : AV) (v9 : AV) (v10 : AV) (v14 : AV) (v15 : AV) (v16 : AV) (v17 : AV) (v18 : AV) (h : Hp) : Option β :=
arithK .geq v18 (.s (.int .u64 4294967296)) fun x34 =>
grpK false x34 h (fun k35 =>
arithK .mul v18 v10 fun x36 =>
arithK .mul (.s (.int .u64 4294967296)) v16 fun x37 =>
arithK .add x37 v14 fun x38 =>
arithK .gtr x36 x38 fun x39 =>
k35 x39 h) fun x40 h41 =>
condK x40 (
arithK .sub v18 (.s (.int .u64 1)) fun x42 =>
arithK .add v16 v9 fun x43 =>
arithK .geq x43 (.s (.int .u64 4294967296)) fun x44 =>
condK x44 (
x2 v2 v8 v14 v15 v17 x42 h41) (
xn v2 v8 v9 v10 v14 v15 x43 v17 x42 h41)) (
x2 v2 v8 v14 v15 v17 v18 h41)
def f_bits_Div64_L6 (P : Program) (T : Tab) (D : DTab) (N : Nat) {β : Type} (x2 : AV → AV → AV → AV → AV → AV → Hp → Option β) : Nat → AV → AV → AV → AV → AV → AV → AV → AV → AV → Hp → Option β
  | 0 => fun _ _ _ _ _ _ _ _ _ _ => none
  | n + 1 => fun v2 v8 v9 v10 v14 v15 v16 v17 v18 h => f_bits_Div64_b6 P T D N (f_bits_Div64_L6 P T D N x2 n) x2 v2 v8 v9 v10 v14 v15 v16 v17 v18 h
def f_bits_Div64_j3 (P : Program) (T : Tab) (D : DTab) (N : Nat) {β : Type} (K : AV → Hp → Option β) (v2 : AV) (v8 : AV) (v9 : AV) (v10 : AV) (v11 : AV) (v13 : AV) (v14 : AV) (v15 : AV) (h : Hp) : Option β :=
arithK .mul v11 (.s (.int .u64 4294967296)) fun x20 =>
arithK .add x20 v13 fun x21 =>
arithK .mul v15 v2 fun x22 =>
arithK .sub x21 x22 fun x23 =>
reckK P .quo 80 x23 v9 fun x24 =>
arithK .mul x24 v9 fun x25 =>
arithK .sub x23 x25 fun x26 =>
f_bits_Div64_L6 P T D N (fun w45_2 w45_8 w45_14 w45_15 w45_17 w45_18 h => f_bits_Div64_j5 P T D N K w45_2 w45_8 w45_14 w45_15 w45_17 w45_18 h) N v2 v8 v9 v10 v14 v15 x26 x23 x24 h
def f_bits_Div64_j7 (P : Program) (T : Tab) (D : DTab) (N : Nat) {β : Type} (K : AV → Hp → Option β) (v2 : AV) (v8 : AV) (v9 : AV) (v10 : AV) (v11 : AV) (v13 : AV) (v14 : AV) (v15 : AV) (h : Hp) : Option β :=
f_bits_Div64_j3 P T D N K v2 v8 v9 v10 v11 v13 v14 v15 h
def f_bits_Div64_b8 (P : Program) (T : Tab) (D : DTab) (N : Nat) {β : Type} (xn : AV → AV → AV → AV → AV → AV → AV → AV → AV → Hp → Option β) (x0 : AV → AV → AV → AV → AV → AV → AV → AV → Hp → Option β) (v2 : AV) (v8 : AV) (v9 : AV) (v10 : AV) (v11 : AV) (v13 : AV) (v14 : AV) (v15 : AV) (v16 : AV) (h : Hp) : Option β :=
arithK .geq v15 (.s (.int .u64 4294967296)) fun x46 =>
grpK false x46 h (fun k47 =>
arithK .mul v15 v10 fun x48 =>
arithK .mul (.s (.int .u64 4294967296)) v16 fun x49 =>
arithK .add x49 v13 fun x50 =>
arithK .gtr x48 x50 fun x51 =>
k47 x51 h) fun x52 h53 =>
condK x52 (
arithK .sub v15 (.s (.int .u64 1)) fun x54 =>
arithK .add v16 v9 fun x55 =>
arithK .geq x55 (.s (.int .u64 4294967296)) fun x56 =>
condK x56 (
x0 v2 v8 v9 v10 v11 v13 v14 x54 h53) (
xn v2 v8 v9 v10 v11 v13 v14 x54 x55 h53)) (
x0 v2 v8 v9 v10 v11 v13 v14 v15 h53)
def f_bits_Div64_L8 (P : Program) (T : Tab) (D : DTab) (N : Nat) {β : Type} (x0 : AV → AV → AV → AV → AV → AV → AV → AV → Hp → Option β) : Nat → AV → AV → AV → AV → AV → AV → AV → AV → AV → Hp → Option β
  | 0 => fun _ _ _ _ _ _ _ _ _ _ => none
  | n + 1 => fun v2 v8 v9 v10 v11 v13 v14 v15 v16 h => f_bits_Div64_b8 P T D N (f_bits_Div64_L8 P T D N x0 n) x0 v2 v8 v9 v10 v11 v13 v14 v15 v16 h
def f_bits_Div64_j2 (P : Program) (T : Tab) (D : DTab) (N : Nat) {β : Type} (K : AV → Hp → Option β) (v0 : AV) (v1 : AV) (v2 : AV) (h : Hp) : Option β :=
eqK P false 80 v0 (.s (.int .u64 0)) h fun x1 =>
condK x1 (
reckK P .quo 80 v1 v2 fun x2 =>
reckK P .rem 80 v1 v2 fun x3 =>
K (.tup [x2, x3]) h) (
callK (T 75) [v2] h fun x4 h5 =>
convK P 3 94 x4 fun x6 =>
reckK P .shl 80 v2 x6 fun x7 =>
reckK P .shr 80 x7 (.s (.int .u64 32)) fun x8 =>
reckK P .and 80 x7 (.s (.int .u64 4294967295)) fun x9 =>
reckK P .shl 80 v0 x6 fun x10 =>
arithK .sub (.s (.int .u64 64)) x6 fun x11 =>
reckK P .shr 80 v1 x11 fun x12 =>
reckK P .or 80 x10 x12 fun x13 =>
reckK P .shl 80 v1 x6 fun x14 =>
reckK P .shr 80 x14 (.s (.int .u64 32)) fun x15 =>
reckK P .and 80 x14 (.s (.int .u64 4294967295)) fun x16 =>
reckK P .quo 80 x13 x8 fun x17 =>
arithK .mul x17 x8 fun x18 =>
arithK .sub x13 x18 fun x19 =>
f_bits_Div64_L8 P T D N (fun w57_2 w57_8 w57_9 w57_10 w57_11 w57_13 w57_14 w57_15 h => f_bits_Div64_j7 P T D N K w57_2 w57_8 w57_9 w57_10 w57_11 w57_13 w57_14 w57_15 h) N x7 x6 x8 x9 x13 x15 x16 x17 x19 h5)
def f_bits_Div64_j1 (P : Program) (T : Tab) (D : DTab) (N : Nat) {β : Type} (K : AV → Hp → Option β) (v0 : AV) (v1 : AV) (v2 : AV) (h : Hp) : Option β :=
arithK .leq v2 v0 fun x58 =>
condK x58 (
ldK 1 false AV.u h fun x59 =>
none) (
f_bits_Div64_j2 P T D N K v0 v1 v2 h)
/-- math/bits.Div64 -/
def f_bits_Div64 (P : Program) (T : Tab) (D : DTab) (N : Nat) {β : Type} (K : AV → Hp → Option β) (a0 : AV) (a1 : AV) (a2 : AV) (h : Hp) : Option β :=
eqK P false 80 a2 (.s (.int .u64 0)) h fun x60 =>
condK x60 (
ldK 1 false AV.u h fun x61 =>
none) (
f_bits_Div64_j1 P T D N K a0 a1 a2 h)
theorem f_bits_Div64_j4_eq (P : Program) (T : Tab) (D : DTab) (N : Nat) {β : Type} (K : AV → Hp → Option β) (t : Tm) (h : Hp) : o_bits_Div64_j4 P T D N K t h = f_bits_Div64_j4 P T D N K (t 2) (t 8) (t 14) (t 15) (t 17) (t 18) h := by kernel_rfl
theorem f_bits_Div64_j5_eq (P : Program) (T : Tab) (D : DTab) (N : Nat) {β : Type} (K : AV → Hp → Option β) (t : Tm) (h : Hp) : o_bits_Div64_j5 P T D N K t h = f_bits_Div64_j5 P T D N K (t 2) (t 8) (t 14) (t 15) (t 17) (t 18) h := by kernel_rfl
theorem f_bits_Div64_b6_eq (P : Program) (T : Tab) (D : DTab) (N : Nat) {β : Type} (xn : AV → AV → AV → AV → AV → AV → AV → AV → AV → Hp → Option β) (x2 : AV → AV → AV → AV → AV → AV → Hp → Option β) (xd : Nat → St → Option β) (xq : St → Option β) (t : Tm) (h : Hp) : o_bits_Div64_L6 P T D N t h (fun (e : Ex) (s : St) => e.on (xn (s.1 2) (s.1 8) (s.1 9) (s.1 10) (s.1 14) (s.1 15) (s.1 16) (s.1 17) (s.1 18) s.2) (fun i => (bif i == 2 then x2 (s.1 2) (s.1 8) (s.1 14) (s.1 15) (s.1 17) (s.1 18) s.2 else (xd i s))) (xq s)) = f_bits_Div64_b6 P T D N xn x2 (t 2) (t 8) (t 9) (t 10) (t 14) (t 15) (t 16) (t 17) (t 18) h := by kernel_rfl
theorem f_bits_Div64_L6_eq (P : Program) (T : Tab) (D : DTab) (N : Nat) {β : Type} (A : Ex → St → Option β) (x2 : AV → AV → AV → AV → AV → AV → Hp → Option β) (q2 : ∀ s, A (.exit 2) s = x2 (s.1 2) (s.1 8) (s.1 14) (s.1 15) (s.1 17) (s.1 18) s.2) : ∀ (n : Nat) (s : St), iterK (fun s k => o_bits_Div64_L6 P T D N s.1 s.2 k) n s A = f_bits_Div64_L6 P T D N x2 n (s.1 2) (s.1 8) (s.1 9) (s.1 10) (s.1 14) (s.1 15) (s.1 16) (s.1 17) (s.1 18) s.2 := by
  intro n
  induction n with
  | zero => intro s; rfl
  | succ n ih =>
    intro s
    have hk : (fun (e : Ex) (s' : St) => Ex.on e (iterK (fun s k => o_bits_Div64_L6 P T D N s.1 s.2 k) n s' A) (fun i => A (.exit i) s') (A .ret s')) = (fun (e : Ex) (s : St) => e.on ((f_bits_Div64_L6 P T D N x2 n) (s.1 2) (s.1 8) (s.1 9) (s.1 10) (s.1 14) (s.1 15) (s.1 16) (s.1 17) (s.1 18) s.2) (fun i => (bif i == 2 then x2 (s.1 2) (s.1 8) (s.1 14) (s.1 15) (s.1 17) (s.1 18) s.2 else (A (.exit i) s))) (A .ret s)) := by
      funext e s'
      cases e with
      | normal => exact ih s'
      | ret => exact rfl
      | exit i =>
        by_cases r2 : i = 2
        · subst r2; exact q2 s'
        simp only [Ex.on, beq_false_of_ne r2, cond_false]
    show o_bits_Div64_L6 P T D N s.1 s.2 (fun (e : Ex) (s' : St) => Ex.on e (iterK (fun s k => o_bits_Div64_L6 P T D N s.1 s.2 k) n s' A) (fun i => A (.exit i) s') (A .ret s')) = _
    rw [hk]
    exact f_bits_Div64_b6_eq P T D N (f_bits_Div64_L6 P T D N x2 n) x2 (fun i s => A (.exit i) s) (fun s => A .ret s) s.1 s.2
theorem f_bits_Div64_j3_eq (P : Program) (T : Tab) (D : DTab) (N : Nat) {β : Type} (K : AV → Hp → Option β) (t : Tm) (h : Hp) : o_bits_Div64_j3 P T D N K t h = f_bits_Div64_j3 P T D N K (t 2) (t 8) (t 9) (t 10) (t 11) (t 13) (t 14) (t 15) h := by
  have eL6 : (fun s : St => iterK (fun s k => o_bits_Div64_L6 P T D N s.1 s.2 k) N s (o_bits_Div64_aL6 P T D N K)) = (fun s : St => f_bits_Div64_L6 P T D N (fun w45_2 w45_8 w45_14 w45_15 w45_17 w45_18 h => f_bits_Div64_j5 P T D N K w45_2 w45_8 w45_14 w45_15 w45_17 w45_18 h) N (s.1 2) (s.1 8) (s.1 9) (s.1 10) (s.1 14) (s.1 15) (s.1 16) (s.1 17) (s.1 18) s.2) := funext fun s => f_bits_Div64_L6_eq P T D N (o_bits_Div64_aL6 P T D N K) (fun w45_2 w45_8 w45_14 w45_15 w45_17 w45_18 h => f_bits_Div64_j5 P T D N K w45_2 w45_8 w45_14 w45_15 w45_17 w45_18 h) (fun s => rfl) N s
  show o_bits_Div64_j3_G P T D N (fun s => iterK (fun s k => o_bits_Div64_L6 P T D N s.1 s.2 k) N s (o_bits_Div64_aL6 P T D N K)) K t h = _
  rw [eL6]
  kernel_rfl
theorem f_bits_Div64_j7_eq (P : Program) (T : Tab) (D : DTab) (N : Nat) {β : Type} (K : AV → Hp → Option β) (t : Tm) (h : Hp) : o_bits_Div64_j7 P T D N K t h = f_bits_Div64_j7 P T D N K (t 2) (t 8) (t 9) (t 10) (t 11) (t 13) (t 14) (t 15) h := by
  have ej3 : (fun s : St => o_bits_Div64_j3 P T D N K s.1 s.2) = (fun s : St => f_bits_Div64_j3 P T D N K (s.1 2) (s.1 8) (s.1 9) (s.1 10) (s.1 11) (s.1 13) (s.1 14) (s.1 15) s.2) := funext fun s => f_bits_Div64_j3_eq P T D N K s.1 s.2
  show o_bits_Div64_j7_G P T D N (fun s => o_bits_Div64_j3 P T D N K s.1 s.2) K t h = _
  rw [ej3]
  kernel_rfl
theorem f_bits_Div64_b8_eq (P : Program) (T : Tab) (D : DTab) (N : Nat) {β : Type} (xn : AV → AV → AV → AV → AV → AV → AV → AV → AV → Hp → Option β) (x0 : AV → AV → AV → AV → AV → AV → AV → AV → Hp → Option β) (xd : Nat → St → Option β) (xq : St → Option β) (t : Tm) (h : Hp) : o_bits_Div64_L8 P T D N t h (fun (e : Ex) (s : St) => e.on (xn (s.1 2) (s.1 8) (s.1 9) (s.1 10) (s.1 11) (s.1 13) (s.1 14) (s.1 15) (s.1 16) s.2) (fun i => (bif i == 0 then x0 (s.1 2) (s.1 8) (s.1 9) (s.1 10) (s.1 11) (s.1 13) (s.1 14) (s.1 15) s.2 else (xd i s))) (xq s)) = f_bits_Div64_b8 P T D N xn x0 (t 2) (t 8) (t 9) (t 10) (t 11) (t 13) (t 14) (t 15) (t 16) h := by kernel_rfl
theorem f_bits_Div64_L8_eq (P : Program) (T : Tab) (D : DTab) (N : Nat) {β : Type} (A : Ex → St → Option β) (x0 : AV → AV → AV → AV → AV → AV → AV → AV → Hp → Option β) (q0 : ∀ s, A (.exit 0) s = x0 (s.1 2) (s.1 8) (s.1 9) (s.1 10) (s.1 11) (s.1 13) (s.1 14) (s.1 15) s.2) : ∀ (n : Nat) (s : St), iterK (fun s k => o_bits_Div64_L8 P T D N s.1 s.2 k) n s A = f_bits_Div64_L8 P T D N x0 n (s.1 2) (s.1 8) (s.1 9) (s.1 10) (s.1 11) (s.1 13) (s.1 14) (s.1 15) (s.1 16) s.2 := by
  intro n
  induction n with
  | zero => intro s; rfl
  | succ n ih =>
    intro s
    have hk : (fun (e : Ex) (s' : St) => Ex.on e (iterK (fun s k => o_bits_Div64_L8 P T D N s.1 s.2 k) n s' A) (fun i => A (.exit i) s') (A .ret s')) = (fun (e : Ex) (s : St) => e.on ((f_bits_Div64_L8 P T D N x0 n) (s.1 2) (s.1 8) (s.1 9) (s.1 10) (s.1 11) (s.1 13) (s.1 14) (s.1 15) (s.1 16) s.2) (fun i => (bif i == 0 then x0 (s.1 2) (s.1 8) (s.1 9) (s.1 10) (s.1 11) (s.1 13) (s.1 14) (s.1 15) s.2 else (A (.exit i) s))) (A .ret s)) := by
      funext e s'
      cases e with
      | normal => exact ih s'
      | ret => exact rfl
      | exit i =>
        by_cases r0 : i = 0
        · subst r0; exact q0 s'
        simp only [Ex.on, beq_false_of_ne r0, cond_false]
    show o_bits_Div64_L8 P T D N s.1 s.2 (fun (e : Ex) (s' : St) => Ex.on e (iterK (fun s k => o_bits_Div64_L8 P T D N s.1 s.2 k) n s' A) (fun i => A (.exit i) s') (A .ret s')) = _
    rw [hk]
    exact f_bits_Div64_b8_eq P T D N (f_bits_Div64_L8 P T D N x0 n) x0 (fun i s => A (.exit i) s) (fun s => A .ret s) s.1 s.2
theorem f_bits_Div64_j2_eq (P : Program) (T : Tab) (D : DTab) (N : Nat) {β : Type} (K : AV → Hp → Option β) (t : Tm) (h : Hp) : o_bits_Div64_j2 P T D N K t h = f_bits_Div64_j2 P T D N K (t 0) (t 1) (t 2) h := by
  have eL8 : (fun s : St => iterK (fun s k => o_bits_Div64_L8 P T D N s.1 s.2 k) N s (o_bits_Div64_aL8 P T D N K)) = (fun s : St => f_bits_Div64_L8 P T D N (fun w57_2 w57_8 w57_9 w57_10 w57_11 w57_13 w57_14 w57_15 h => f_bits_Div64_j7 P T D N K w57_2 w57_8 w57_9 w57_10 w57_11 w57_13 w57_14 w57_15 h) N (s.1 2) (s.1 8) (s.1 9) (s.1 10) (s.1 11) (s.1 13) (s.1 14) (s.1 15) (s.1 16) s.2) := funext fun s => f_bits_Div64_L8_eq P T D N (o_bits_Div64_aL8 P T D N K) (fun w57_2 w57_8 w57_9 w57_10 w57_11 w57_13 w57_14 w57_15 h => f_bits_Div64_j7 P T D N K w57_2 w57_8 w57_9 w57_10 w57_11 w57_13 w57_14 w57_15 h) (fun s => f_bits_Div64_j7_eq P T D N K s.1 s.2) N s
  show o_bits_Div64_j2_G P T D N (fun s => iterK (fun s k => o_bits_Div64_L8 P T D N s.1 s.2 k) N s (o_bits_Div64_aL8 P T D N K)) K t h = _
  rw [eL8]
  kernel_rfl
theorem f_bits_Div64_j1_eq (P : Program) (T : Tab) (D : DTab) (N : Nat) {β : Type} (K : AV → Hp → Option β) (t : Tm) (h : Hp) : o_bits_Div64_j1 P T D N K t h = f_bits_Div64_j1 P T D N K (t 0) (t 1) (t 2) h := by
  have ej2 : (fun s : St => o_bits_Div64_j2 P T D N K s.1 s.2) = (fun s : St => f_bits_Div64_j2 P T D N K (s.1 0) (s.1 1) (s.1 2) s.2) := funext fun s => f_bits_Div64_j2_eq P T D N K s.1 s.2
  show o_bits_Div64_j1_G P T D N (fun s => o_bits_Div64_j2 P T D N K s.1 s.2) K t h = _
  rw [ej2]
  kernel_rfl
theorem f_bits_Div64_old_eq (P : Program) (T : Tab) (D : DTab) (N : Nat) {β : Type} (K : AV → Hp → Option β) (a0 : AV) (a1 : AV) (a2 : AV) (h : Hp) : o_bits_Div64 P T D N K a0 a1 a2 h = f_bits_Div64 P T D N K a0 a1 a2 h := by
  have ej1 : (fun s : St => o_bits_Div64_j1 P T D N K s.1 s.2) = (fun s : St => f_bits_Div64_j1 P T D N K (s.1 0) (s.1 1) (s.1 2) s.2) := funext fun s => f_bits_Div64_j1_eq P T D N K s.1 s.2
  show o_bits_Div64_G P T D N (fun s => o_bits_Div64_j1 P T D N K s.1 s.2) K a0 a1 a2 h = _
  rw [ej1]
  kernel_rfl
theorem o_bits_Div64_run (T : Tab) (D : DTab) (N : Nat) {β : Type} (K : AV → Hp → Option β) (a0 : AV) (a1 : AV) (a2 : AV) (h : Hp) : runK Try.prog T D N [0, 1, 2, 6, 7, 8, 9, 10, 11, 12, 13, 14, 15, 16, 17, 18, 20, 24, 27, 78, 85, 113, 120] Try.f64 K [a0, a1, a2] h = o_bits_Div64 Try.prog T D N K a0 a1 a2 h := by kernel_rfl
theorem f_bits_Div64_run (T : Tab) (D : DTab) (N : Nat) {β : Type} (K : AV → Hp → Option β) (a0 : AV) (a1 : AV) (a2 : AV) (h : Hp) : runK Try.prog T D N [0, 1, 2, 6, 7, 8, 9, 10, 11, 12, 13, 14, 15, 16, 17, 18, 20, 24, 27, 78, 85, 113, 120] Try.f64 K [a0, a1, a2] h = f_bits_Div64 Try.prog T D N K a0 a1 a2 h := (o_bits_Div64_run T D N K a0 a1 a2 h).trans (f_bits_Div64_old_eq Try.prog T D N K a0 a1 a2 h)
/-- spile/spileref01.Product -/
def f_ref01_Product (P : Program) (T : Tab) (D : DTab) (N : Nat) {β : Type} (K : AV → Hp → Option β) (a0 : AV) (a1 : AV) (h : Hp) : Option β :=
effK (boxE 2 (.agg [.s (.int .u64 0), .s (.int .u64 0)]) (List.length h)) h fun x1 h2 =>
convK P 3 80 a0 fun x3 =>
convK P 3 80 a1 fun x4 =>
reckK P .and 80 x3 (.s (.int .u64 2147483647)) fun x5 =>
reckK P .and 80 x4 (.s (.int .u64 2147483647)) fun x6 =>
arithK .mul x5 x6 fun x7 =>
reckK P .and 80 x3 (.s (.int .u64 2147483647)) fun x8 =>
reckK P .shr 80 x4 (.s (.int .u64 31)) fun x9 =>
arithK .mul x8 x9 fun x10 =>
reckK P .shr 80 x7 (.s (.int .u64 31)) fun x11 =>
arithK .add x10 x11 fun x12 =>
reckK P .shr 80 x3 (.s (.int .u64 31)) fun x13 =>
reckK P .and 80 x4 (.s (.int .u64 2147483647)) fun x14 =>
arithK .mul x13 x14 fun x15 =>
reckK P .and 80 x12 (.s (.int .u64 2147483647)) fun x16 =>
arithK .add x15 x16 fun x17 =>
reckK P .shr 80 x3 (.s (.int .u64 31)) fun x18 =>
reckK P .shr 80 x4 (.s (.int .u64 31)) fun x19 =>
arithK .mul x18 x19 fun x20 =>
reckK P .shr 80 x12 (.s (.int .u64 31)) fun x21 =>
arithK .add x20 x21 fun x22 =>
reckK P .shr 80 x17 (.s (.int .u64 31)) fun x23 =>
arithK .add x22 x23 fun x24 =>
reckK P .and 80 x17 (.s (.int .u64 2147483647)) fun x25 =>
reckK P .shl 80 x25 (.s (.int .u64 31)) fun x26 =>
reckK P .and 80 x7 (.s (.int .u64 2147483647)) fun x27 =>
reckK P .or 80 x26 x27 fun x28 =>
buildK [.s (.int .u64 0), .s (.int .u64 0)] [(some (0, 1), x24), (some (1, 1), x28)] fun x29 =>
effK (stE 2 x1 x29 h2) h2 fun x30 h31 =>
ldK 2 true x1 h31 fun r32 =>
K r32 h31
theorem f_ref01_Product_run (T : Tab) (D : DTab) (N : Nat) {β : Type} (K : AV → Hp → Option β) (a0 : AV) (a1 : AV) (h : Hp) : runK Try.prog T D N [0, 1, 4, 5, 6, 7, 8, 9] Try.f65 K [a0, a1] h = f_ref01_Product Try.prog T D N K a0 a1 h := by kernel_rfl
/-- spile/spileref01.Less -/
def f_ref01_Less (P : Program) (T : Tab) (D : DTab) (N : Nat) {β : Type} (K : AV → Hp → Option β) (a0 : AV) (a1 : AV) (h : Hp) : Option β :=
effK (boxE 2 a0 (List.length h)) h fun x1 h2 =>
effK (boxE 2 a1 (List.length h2)) h2 fun x3 h4 =>
faK 0 x1 fun x5 =>
ldK 1 false x5 h4 fun x6 =>
faK 0 x3 fun x7 =>
ldK 1 false x7 h4 fun x8 =>
arithK .lss x6 x8 fun x9 =>
grpK false x9 h4 (fun k10 =>
faK 0 x1 fun x11 =>
ldK 1 false x11 h4 fun x12 =>
faK 0 x3 fun x13 =>
ldK 1 false x13 h4 fun x14 =>
eqK P false 80 x12 x14 h4 fun x15 =>
grpK true x15 h4 (fun k16 =>
faK 1 x1 fun x17 =>
ldK 1 false x17 h4 fun x18 =>
faK 1 x3 fun x19 =>
ldK 1 false x19 h4 fun x20 =>
arithK .lss x18 x20 fun x21 =>
k16 x21 h4) fun x22 h23 =>
k10 x22 h23) fun x24 h25 =>
K x24 h25
theorem f_ref01_Less_run (T : Tab) (D : DTab) (N : Nat) {β : Type} (K : AV → Hp → Option β) (a0 : AV) (a1 : AV) (h : Hp) : runK Try.prog T D N [0, 1, 2, 3, 4] Try.f66 K [a0, a1] h = f_ref01_Less Try.prog T D N K a0 a1 h := by kernel_rfl
/-- spile/spileref01.minus -/
def f_ref01_minus (P : Program) (T : Tab) (D : DTab) (N : Nat) {β : Type} (K : AV → Hp → Option β) (a0 : AV) (a1 : AV) (h : Hp) : Option β :=
effK (boxE 2 a0 (List.length h)) h fun x1 h2 =>
effK (boxE 2 a1 (List.length h2)) h2 fun x3 h4 =>
effK (boxE 2 (.agg [.s (.int .u64 0), .s (.int .u64 0)]) (List.length h4)) h4 fun x5 h6 =>
faK 1 x1 fun x7 =>
ldK 1 false x7 h6 fun x8 =>
faK 1 x3 fun x9 =>
ldK 1 false x9 h6 fun x10 =>
arithK .lss x8 x10 fun x11 =>
condK x11 (
faK 0 x1 fun x12 =>
ldK 1 false x12 h6 fun x13 =>
faK 0 x3 fun x14 =>
ldK 1 false x14 h6 fun x15 =>
arithK .sub x13 x15 fun x16 =>
arithK .sub x16 (.s (.int .u64 1)) fun x17 =>
faK 1 x1 fun x18 =>
ldK 1 false x18 h6 fun x19 =>
arithK .add x19 (.s (.int .u64 4611686018427387904)) fun x20 =>
faK 1 x3 fun x21 =>
ldK 1 false x21 h6 fun x22 =>
arithK .sub x20 x22 fun x23 =>
buildK [.s (.int .u64 0), .s (.int .u64 0)] [(some (0, 1), x17), (some (1, 1), x23)] fun x24 =>
effK (stE 2 x5 x24 h6) h6 fun x25 h26 =>
ldK 2 true x5 h26 fun r27 =>
K r27 h26) (
faK 0 x1 fun x28 =>
ldK 1 false x28 h6 fun x29 =>
faK 0 x3 fun x30 =>
ldK 1 false x30 h6 fun x31 =>
arithK .sub x29 x31 fun x32 =>
faK 1 x1 fun x33 =>
ldK 1 false x33 h6 fun x34 =>
faK 1 x3 fun x35 =>
ldK 1 false x35 h6 fun x36 =>
arithK .sub x34 x36 fun x37 =>
buildK [.s (.int .u64 0), .s (.int .u64 0)] [(some (0, 1), x32), (some (1, 1), x37)] fun x38 =>
effK (stE 2 x5 x38 h6) h6 fun x39 h40 =>
ldK 2 true x5 h40 fun r41 =>
K r41 h40)
theorem f_ref01_minus_run (T : Tab) (D : DTab) (N : Nat) {β : Type} (K : AV → Hp → Option β) (a0 : AV) (a1 : AV) (h : Hp) : runK Try.prog T D N [0, 1, 2, 3, 4, 9] Try.f67 K [a0, a1] h = f_ref01_minus Try.prog T D N K a0 a1 h := by kernel_rfl
/-- spile/calendar.is -/
def f_calendar_is (P : Program) (T : Tab) (D : DTab) (N : Nat) {β : Type} (K : AV → Hp → Option β) (a0 : AV) (h : Hp) : Option β :=
arithK .geq a0 (.s (.int .i64 0)) fun x1 =>
grpK true x1 h (fun k2 =>
arithK .leq a0 (.s (.int .i64 100000)) fun x3 =>
k2 x3 h) fun x4 h5 =>
K x4 h5
theorem f_calendar_is_run (T : Tab) (D : DTab) (N : Nat) {β : Type} (K : AV → Hp → Option β) (a0 : AV) (h : Hp) : runK Try.prog T D N [0, 2] Try.f68 K [a0] h = f_calendar_is Try.prog T D N K a0 h := by kernel_rfl
def o_calendar_date_j2 (P : Program) (T : Tab) (D : DTab) (N : Nat) {β : Type} (K : AV → Hp → Option β) (t : Tm) (h : Hp) : Option β :=
faK 2 (t 3) fun x15 =>
ldK 1 false x15 h fun x16 =>
arithK .add x16 (t 0) fun x17 =>
faK 2 (t 3) fun x18 =>
effK (stE 1 x18 x17 h) h fun x19 h20 =>
ldK 3 true (t 3) h20 fun x21 =>
effK (stE 3 (t 2) x21 h20) h20 fun x22 h23 =>
ldK 3 true (t 2) h23 fun r24 =>
K r24 h23
def o_calendar_date_L3 (P : Program) (T : Tab) (D : DTab) (N : Nat) {β : Type} (t : Tm) (h : Hp) (k : Ex → St → Option β) : Option β :=
faK 0 (t 3) fun x25 =>
ldK 1 false x25 h fun x26 =>
faK 1 (t 3) fun x27 =>
ldK 1 false x27 h fun x28 =>
callK (T 70) [x26, x28] h fun x29 h30 =>
arithK .geq (t 0) x29 fun x31 =>
condK x31 (
faK 0 (t 3) fun x32 =>
ldK 1 false x32 h30 fun x33 =>
faK 1 (t 3) fun x34 =>
ldK 1 false x34 h30 fun x35 =>
callK (T 70) [x33, x35] h30 fun x36 h37 =>
arithK .sub (t 0) x36 fun x38 =>
faK 1 (t 3) fun x39 =>
ldK 1 false x39 h37 fun x40 =>
arithK .add x40 (.s (.int .i64 1)) fun x41 =>
faK 1 (t 3) fun x42 =>
effK (stE 1 x42 x41 h37) h37 fun x43 h44 =>
k .normal ((upd (upd t 29 x31) 0 x38), h44)) (
k (.exit 2) ((upd t 29 x31), h30))
def o_calendar_date_aL3 (P : Program) (T : Tab) (D : DTab) (N : Nat) {β : Type} (K : AV → Hp → Option β) (e : Ex) (s : St) : Option β :=
  e.on ((o_calendar_date_j2 P T D N K s.1 s.2))
  (fun i => bif i == 2 then ((o_calendar_date_j2 P T D N K s.1 s.2)) else (none))
  (ldK 3 true (s.1 2) s.2 fun r45 =>
K r45 s.2)
def o_calendar_date_j1_G (P : Program) (T : Tab) (D : DTab) (N : Nat) {β : Type} (cL3 : St → Option β) (K : AV → Hp → Option β) (t : Tm) (h : Hp) :  Option β :=
faK 0 (t 3) fun x10 =>
ldK 1 false x10 h fun x11 =>
callK (T 76) [x11] h fun x12 h13 =>
arithK .sub (t 0) x12 fun x14 =>
cL3 ((upd t 0 x14), h13)
def o_calendar_date_j1 (P : Program) (T : Tab) (D : DTab) (N : Nat) {β : Type} (K : AV → Hp → Option β) (t : Tm) (h : Hp) : Option β := o_calendar_date_j1_G P T D N (fun s => iterK (fun s k => o_calendar_date_L3 P T D N s.1 s.2 k) N s (o_calendar_date_aL3 P T D N K)) K t h
def o_calendar_date_L4 (P : Program) (T : Tab) (D : DTab) (N : Nat) {β : Type} (t : Tm) (h : Hp) (k : Ex → St → Option β) : Option β :=
faK 0 (t 3) fun x46 =>
ldK 1 false x46 h fun x47 =>
arithK .add x47 (.s (.int .i64 1)) fun x48 =>
callK (T 76) [x48] h fun x49 h50 =>
arithK .leq x49 (t 0) fun x51 =>
condK x51 (
faK 0 (t 3) fun x52 =>
ldK 1 false x52 h50 fun x53 =>
arithK .add x53 (.s (.int .i64 1)) fun x54 =>
faK 0 (t 3) fun x55 =>
effK (stE 1 x55 x54 h50) h50 fun x56 h57 =>
k .normal ((upd t 13 x51), h57)) (
k (.exit 0) ((upd t 13 x51), h50))
def o_calendar_date_aL4 (P : Program) (T : Tab) (D : DTab) (N : Nat) {β : Type} (K : AV → Hp → Option β) (e : Ex) (s : St) : Option β :=
  e.on ((o_calendar_date_j1 P T D N K s.1 s.2))
  (fun i => bif i == 0 then ((o_calendar_date_j1 P T D N K s.1 s.2)) else (none))
  (ldK 3 true (s.1 2) s.2 fun r58 =>
K r58 s.2)
def o_calendar_date_G (P : Program) (T : Tab) (D : DTab) (N : Nat) {β : Type} (cL4 : St → Option β) (K : AV → Hp → Option β) (a0 : AV) (h : Hp) :  Option β :=
effK (boxE 3 (.agg [.s (.int .i64 0), .s (.int .i64 0), .s (.int .i64 0)]) (List.length h)) h fun x1 h2 =>
reckK P .quo 3 a0 (.s (.int .i64 366)) fun x3 =>
arithK .add (.s (.int .i64 1900)) x3 fun x4 =>
buildK [.s (.int .i64 0), .s (.int .i64 0), .s (.int .i64 0)] [(some (0, 1), x4), (some (1, 1), (.s (.int .i64 1))), (some (2, 1), (.s (.int .i64 1)))] fun x5 =>
effK (boxE 3 (.agg [.s (.int .i64 0), .s (.int .i64 0), .s (.int .i64 0)]) (List.length h2)) h2 fun x6 h7 =>
effK (stE 3 x6 x5 h7) h7 fun x8 h9 =>
cL4 ((upd (upd (tm0 [a0]) 2 x1) 3 x6), h9)
def o_calendar_date (P : Program) (T : Tab) (D : DTab) (N : Nat) {β : Type} (K : AV → Hp → Option β) (a0 : AV) (h : Hp) : Option β := o_calendar_date_G P T D N (fun s => iterK (fun s k => o_calendar_date_L4 P T D N s.1 s.2 k) N s (o_calendar_date_aL4 P T D N K)) K a0 h
def f_calendar_date_j2 (P : Program) (T : Tab) (D : DTab) (N : Nat) {β : Type} (K : AV → Hp → Option β) (v0 : AV) (v2 : AV) (v3 : AV) (h : Hp) : Option β :=
faK 2 v3 fun x15 =>
ldK 1 false x15 h fun x16 =>
arithK .add x16 v0 fun x17 =>
faK 2 v3 fun x18 =>
effK (stE 1 x18 x17 h) h fun x19 h20 =>
ldK 3 true v3 h20 fun x21 =>
effK (stE 3 v2 x21 h20) h20 fun x22 h23 =>
ldK 3 true v2 h23 fun r24 =>
K r24 h23
def f_calendar_date_b3 (P : Program) (T : Tab) (D : DTab) (N : Nat) {β : Type} (xn : AV → AV → AV → Hp → Option β) (x2 : AV → AV → AV → Hp → Option β) (v0 : AV) (v2 : AV) (v3 : AV) (h : Hp) : Option β :=
faK 0 v3 fun x25 =>
ldK 1 false x25 h fun x26 =>
faK 1 v3 fun x27 =>
ldK 1 false x27 h fun x28 =>
callK (T 70) [x26, x28] h fun x29 h30 =>
arithK .geq v0 x29 fun x31 =>
condK x31 (
faK 0 v3 fun x32 =>
ldK 1 false x32 h30 fun x33 =>
faK 1 v3 fun x34 =>
ldK 1 false x34 h30 fun x35 =>
callK (T 70) [x33, x35] h30 fun x36 h37 =>
arithK .sub v0 x36 fun x38 =>
faK 1 v3 fun x39 =>
ldK 1 false x39 h37 fun x40 =>
arithK .add x40 (.s (.int .i64 1)) fun x41 =>
faK 1 v3 fun x42 =>
effK (stE 1 x42 x41 h37) h37 fun x43 h44 =>
xn x38 v2 v3 h44) (
x2 v0 v2 v3 h30)
def f_calendar_date_L3 (P : Program) (T : Tab) (D : DTab) (N : Nat) {β : Type} (x2 : AV → AV → AV → Hp → Option β) : Nat → AV → AV → AV → Hp → Option β
  | 0 => fun _ _ _ _ => none
  | n + 1 => fun v0 v2 v3 h => f_calendar_date_b3 P T D N (f_calendar_date_L3 P T D N x2 n) x2 v0 v2 v3 h
def f_calendar_date_j1 (P : Program) (T : Tab) (D : DTab) (N : Nat) {β : Type} (K : AV → Hp → Option β) (v0 : AV) (v2 : AV) (v3 : AV) (h : Hp) : Option β :=
faK 0 v3 fun x10 =>
ldK 1 false x10 h fun x11 =>
callK (T 76) [x11] h fun x12 h13 =>
arithK .sub v0 x12 fun x14 =>
f_calendar_date_L3 P T D N (fun w45_0 w45_2 w45_3 h => f_calendar_date_j2 P T D N K w45_0 w45_2 w45_3 h) N x14 v2 v3 h13
def f_calendar_date_b4 (P : Program) (T : Tab) (D : DTab) (N : Nat) {β : Type} (xn : AV → AV → AV → Hp → Option β) (x0 : AV → AV → AV → Hp → Option β) (v0 : AV) (v2 : AV) (v3 : AV) (h : Hp) : Option β :=
faK 0 v3 fun x46 =>
ldK 1 false x46 h fun x47 =>
arithK .add x47 (.s (.int .i64 1)) fun x48 =>
callK (T 76) [x48] h fun x49 h50 =>
arithK .leq x49 v0 fun x51 =>
condK x51 (
faK 0 v3 fun x52 =>
ldK 1 false x52 h50 fun x53 =>
arithK .add x53 (.s (.int .i64 1)) fun x54 =>
faK 0 v3 fun x55 =>
effK (stE 1 x55 x54 h50) h50 fun x56 h57 =>
xn v0 v2 v3 h57) (
x0 v0 v2 v3 h50)
def f_calendar_date_L4 (P : Program) (T : Tab) (D : DTab) (N : Nat) {β : Type} (x0 : AV → AV → AV → Hp → Option β) : Nat → AV → AV → AV → Hp → Option β
  | 0 => fun _ _ _ _ => none
  | n + 1 => fun v0 v2 v3 h => f_calendar_date_b4 P T D N (f_calendar_date_L4 P T D N x0 n) x0 v0 v2 v3 h
/-- spile/calendar.date -/
def f_calendar_date (P : Program) (T : Tab) (D : DTab) (N : Nat) {β : Type} (K : AV → Hp → Option β) (a0 : AV) (h : Hp) : Option β :=
effK (boxE 3 (.agg [.s (.int .i64 0), .s (.int .i64 0), .s (.int .i64 0)]) (List.length h)) h fun x1 h2 =>
reckK P .quo 3 a0 (.s (.int .i64 366)) fun x3 =>
arithK .add (.s (.int .i64 1900)) x3 fun x4 =>
buildK [.s (.int .i64 0), .s (.int .i64 0), .s (.int .i64 0)] [(some (0, 1), x4), (some (1, 1), (.s (.int .i64 1))), (some (2, 1), (.s (.int .i64 1)))] fun x5 =>
effK (boxE 3 (.agg [.s (.int .i64 0), .s (.int .i64 0), .s (.int .i64 0)]) (List.length h2)) h2 fun x6 h7 =>
effK (stE 3 x6 x5 h7) h7 fun x8 h9 =>
f_calendar_date_L4 P T D N (fun w58_0 w58_2 w58_3 h => f_calendar_date_j1 P T D N K w58_0 w58_2 w58_3 h) N a0 x1 x6 h9
theorem f_calendar_date_j2_eq (P : Program) (T : Tab) (D : DTab) (N : Nat) {β : Type} (K : AV → Hp → Option β) (t : Tm) (h : Hp) : o_calendar_date_j2 P T D N K t h = f_calendar_date_j2 P T D N K (t 0) (t 2) (t 3) h := by kernel_rfl
theorem f_calendar_date_b3_eq (P : Program) (T : Tab) (D : DTab) (N : Nat) {β : Type} (xn : AV → AV → AV → Hp → Option β) (x2 : AV → AV → AV → Hp → Option β) (xd : Nat → St → Option β) (xq : St → Option β) (t : Tm) (h : Hp) : o_calendar_date_L3 P T D N t h (fun (e : Ex) (s : St) => e.on (xn (s.1 0) (s.1 2) (s.1 3) s.2) (fun i => (bif i == 2 then x2 (s.1 0) (s.1 2) (s.1 3) s.2 else (xd i s))) (xq s)) = f_calendar_date_b3 P T D N xn x2 (t 0) (t 2) (t 3) h := by kernel_rfl
theorem f_calendar_date_L3_eq (P : Program) (T : Tab) (D : DTab) (N : Nat) {β : Type} (A : Ex → St → Option β) (x2 : AV → AV → AV → Hp → Option β) (q2 : ∀ s, A (.exit 2) s = x2 (s.1 0) (s.1 2) (s.1 3) s.2) : ∀ (n : Nat) (s : St), iterK (fun s k => o_calendar_date_L3 P T D N s.1 s.2 k) n s A = f_calendar_date_L3 P T D N x2 n (s.1 0) (s.1 2) (s.1 3) s.2 := by
  intro n
  induction n with
  | zero => intro s; rfl
  | succ n ih =>
    intro s
    have hk : (fun (e : Ex) (s' : St) => Ex.on e (iterK (fun s k => o_calendar_date_L3 P T D N s.1 s.2 k) n s' A) (fun i => A (.exit i) s') (A .ret s')) = (fun (e : Ex) (s : St) => e.on ((f_calendar_date_L3 P T D N x2 n) (s.1 0) (s.1 2) (s.1 3) s.2) (fun i => (bif i == 2 then x2 (s.1 0) (s.1 2) (s.1 3) s.2 else (A (.exit i) s))) (A .ret s)) := by
      funext e s'
      cases e with
      | normal => exact ih s'
      | ret => exact rfl
      | exit i =>
        by_cases r2 : i = 2
        · subst r2; exact q2 s'
        simp only [Ex.on, beq_false_of_ne r2, cond_false]
    show o_calendar_date_L3 P T D N s.1 s.2 (fun (e : Ex) (s' : St) => Ex.on e (iterK (fun s k => o_calendar_date_L3 P T D N s.1 s.2 k) n s' A) (fun i => A (.exit i) s') (A .ret s')) = _
    rw [hk]
    exact f_calendar_date_b3_eq P T D N (f_calendar_date_L3 P T D N x2 n) x2 (fun i s => A (.exit i) s) (fun s => A .ret s) s.1 s.2
theorem f_calendar_date_j1_eq (P : Program) (T : Tab) (D : DTab) (N : Nat) {β : Type} (K : AV → Hp → Option β) (t : Tm) (h : Hp) : o_calendar_date_j1 P T D N K t h = f_calendar_date_j1 P T D N K (t 0) (t 2) (t 3) h := by
  have eL3 : (fun s : St => iterK (fun s k => o_calendar_date_L3 P T D N s.1 s.2 k) N s (o_calendar_date_aL3 P T D N K)) = (fun s : St => f_calendar_date_L3 P T D N (fun w45_0 w45_2 w45_3 h => f_calendar_date_j2 P T D N K w45_0 w45_2 w45_3 h) N (s.1 0) (s.1 2) (s.1 3) s.2) := funext fun s => f_calendar_date_L3_eq P T D N (o_calendar_date_aL3 P T D N K) (fun w45_0 w45_2 w45_3 h => f_calendar_date_j2 P T D N K w45_0 w45_2 w45_3 h) (fun s => rfl) N s
  show o_calendar_date_j1_G P T D N (fun s => iterK (fun s k => o_calendar_date_L3 P T D N s.1 s.2 k) N s (o_calendar_date_aL3 P T D N K)) K t h = _
  rw [eL3]
  kernel_rfl
theorem f_calendar_date_b4_eq (P : Program) (T : Tab) (D : DTab) (N : Nat) {β : Type} (xn : AV → AV → AV → Hp → Option β) (x0 : AV → AV → AV → Hp → Option β) (xd : Nat → St → Option β) (xq : St → Option β) (t : Tm) (h : Hp) : o_calendar_date_L4 P T D N t h (fun (e : Ex) (s : St) => e.on (xn (s.1 0) (s.1 2) (s.1 3) s.2) (fun i => (bif i == 0 then x0 (s.1 0) (s.1 2) (s.1 3) s.2 else (xd i s))) (xq s)) = f_calendar_date_b4 P T D N xn x0 (t 0) (t 2) (t 3) h := by kernel_rfl
theorem f_calendar_date_L4_eq (P : Program) (T : Tab) (D : DTab) (N : Nat) {β : Type} (A : Ex → St → Option β) (x0 : AV → AV → AV → Hp → Option β) (q0 : ∀ s, A (.exit 0) s = x0 (s.1 0) (s.1 2) (s.1 3) s.2) : ∀ (n : Nat) (s : St), iterK (fun s k => o_calendar_date_L4 P T D N s.1 s.2 k) n s A = f_calendar_date_L4 P T D N x0 n (s.1 0) (s.1 2) (s.1 3) s.2 := by
  intro n
  induction n with
  | zero => intro s; rfl
  | succ n ih =>
    intro s
    have hk : (fun (e : Ex) (s' : St) => Ex.on e (iterK (fun s k => o_calendar_date_L4 P T D N s.1 s.2 k) n s' A) (fun i => A (.exit i) s') (A .ret s')) = (fun (e : Ex) (s : St) => e.on ((f_calendar_date_L4 P T D N x0 n) (s.1 0) (s.1 2) (s.1 3) s.2) (fun i => (bif i == 0 then x0 (s.1 0) (s.1 2) (s.1 3) s.2 else (A (.exit i) s))) (A .ret s)) := by
      funext e s'
      cases e with
      | normal => exact ih s'
      | ret => exact rfl
      | exit i =>
        by_cases r0 : i = 0
        · subst r0; exact q0 s'
        simp only [Ex.on, beq_false_of_ne r0, cond_false]
    show o_calendar_date_L4 P T D N s.1 s.2 (fun (e : Ex) (s' : St) => Ex.on e (iterK (fun s k => o_calendar_date_L4 P T D N s.1 s.2 k) n s' A) (fun i => A (.exit i) s') (A .ret s')) = _
    rw [hk]
    exact f_calendar_date_b4_eq P T D N (f_calendar_date_L4 P T D N x0 n) x0 (fun i s => A (.exit i) s) (fun s => A .ret s) s.1 s.2
theorem f_calendar_date_old_eq (P : Program) (T : Tab) (D : DTab) (N : Nat) {β : Type} (K : AV → Hp → Option β) (a0 : AV) (h : Hp) : o_calendar_date P T D N K a0 h = f_calendar_date P T D N K a0 h := by
  have eL4 : (fun s : St => iterK (fun s k => o_calendar_date_L4 P T D N s.1 s.2 k) N s (o_calendar_date_aL4 P T D N K)) = (fun s : St => f_calendar_date_L4 P T D N (fun w58_0 w58_2 w58_3 h => f_calendar_date_j1 P T D N K w58_0 w58_2 w58_3 h) N (s.1 0) (s.1 2) (s.1 3) s.2) := funext fun s => f_calendar_date_L4_eq P T D N (o_calendar_date_aL4 P T D N K) (fun w58_0 w58_2 w58_3 h => f_calendar_date_j1 P T D N K w58_0 w58_2 w58_3 h) (fun s => f_calendar_date_j1_eq P T D N K s.1 s.2) N s
  show o_calendar_date_G P T D N (fun s => iterK (fun s k => o_calendar_date_L4 P T D N s.1 s.2 k) N s (o_calendar_date_aL4 P T D N K)) K a0 h = _
  rw [eL4]
  kernel_rfl
theorem o_calendar_date_run (T : Tab) (D : DTab) (N : Nat) {β : Type} (K : AV → Hp → Option β) (a0 : AV) (h : Hp) : runK Try.prog T D N [0, 2, 3, 13, 29] Try.f69 K [a0] h = o_calendar_date Try.prog T D N K a0 h := by kernel_rfl
theorem f_calendar_date_run (T : Tab) (D : DTab) (N : Nat) {β : Type} (K : AV → Hp → Option β) (a0 : AV) (h : Hp) : runK Try.prog T D N [0, 2, 3, 13, 29] Try.f69 K [a0] h = f_calendar_date Try.prog T D N K a0 h := (o_calendar_date_run T D N K a0 h).trans (f_calendar_date_old_eq Try.prog T D N K a0 h)
/-- spile/calendar.length -/
def f_calendar_length (P : Program) (T : Tab) (D : DTab) (N : Nat) {β : Type} (K : AV → Hp → Option β) (a0 : AV) (a1 : AV) (h : Hp) : Option β :=
buildK [.s (.int .i64 0), .s (.int .i64 0), .s (.int .i64 0), .s (.int .i64 0), .s (.int .i64 0), .s (.int .i64 0), .s (.int .i64 0), .s (.int .i64 0), .s (.int .i64 0), .s (.int .i64 0), .s (.int .i64 0), .s (.int .i64 0), .s (.int .i64 0)] [(some (0, 1), (.s (.int .i64 0))), (some (1, 1), (.s (.int .i64 31))), (some (2, 1), (.s (.int .i64 28))), (some (3, 1), (.s (.int .i64 31))), (some (4, 1), (.s (.int .i64 30))), (some (5, 1), (.s (.int .i64 31))), (some (6, 1), (.s (.int .i64 30))), (some (7, 1), (.s (.int .i64 31))), (some (8, 1), (.s (.int .i64 31))), (some (9, 1), (.s (.int .i64 30))), (some (10, 1), (.s (.int .i64 31))), (some (11, 1), (.s (.int .i64 30))), (some (12, 1), (.s (.int .i64 31)))] fun x1 =>
effK (boxE 13 (.agg [.s (.int .i64 0), .s (.int .i64 0), .s (.int .i64 0), .s (.int .i64 0), .s (.int .i64 0), .s (.int .i64 0), .s (.int .i64 0), .s (.int .i64 0), .s (.int .i64 0), .s (.int .i64 0), .s (.int .i64 0), .s (.int .i64 0), .s (.int .i64 0)]) (List.length h)) h fun x2 h3 =>
effK (stE 13 x2 x1 h3) h3 fun x4 h5 =>
eqK P false 3 a1 (.s (.int .i64 2)) h5 fun x6 =>
grpK true x6 h5 (fun k7 =>
callK (T 77) [a0] h5 fun x8 h9 =>
k7 x8 h9) fun x10 h11 =>
condK x10 (
K (.s (.int .i64 29)) h11) (
iaA 1 13 x2 a1 fun x12 =>
ldK 1 false x12 h11 fun x13 =>
K x13 h11)
theorem f_calendar_length_run (T : Tab) (D : DTab) (N : Nat) {β : Type} (K : AV → Hp → Option β) (a0 : AV) (a1 : AV) (h : Hp) : runK Try.prog T D N [0, 1, 4, 5, 12] Try.f70 K [a0, a1] h = f_calendar_length Try.prog T D N K a0 a1 h := by kernel_rfl
def o_calendar_number_j1 (P : Program) (T : Tab) (D : DTab) (N : Nat) {β : Type} (K : AV → Hp → Option β) (t : Tm) (h : Hp) : Option β :=
K (t 3) h
def o_calendar_number_L2 (P : Program) (T : Tab) (D : DTab) (N : Nat) {β : Type} (t : Tm) (h : Hp) (k : Ex → St → Option β) : Option β :=
faK 1 (t 1) fun x12 =>
ldK 1 false x12 h fun x13 =>
arithK .lss (t 4) x13 fun x14 =>
condK x14 (
faK 0 (t 1) fun x15 =>
ldK 1 false x15 h fun x16 =>
callK (T 70) [x16, (t 4)] h fun x17 h18 =>
arithK .add (t 3) x17 fun x19 =>
arithK .add (t 4) (.s (.int .i64 1)) fun x20 =>
k .normal ((upd (upd (upd t 15 x14) 3 x19) 4 x20), h18)) (
k (.exit 0) ((upd t 15 x14), h))
def o_calendar_number_aL2 (P : Program) (T : Tab) (D : DTab) (N : Nat) {β : Type} (K : AV → Hp → Option β) (e : Ex) (s : St) : Option β :=
  e.on ((o_calendar_number_j1 P T D N K s.1 s.2))
  (fun i => bif i == 0 then ((o_calendar_number_j1 P T D N K s.1 s.2)) else (none))
  (K (s.1 2) s.2)
def o_calendar_number_G (P : Program) (T : Tab) (D : DTab) (N : Nat) {β : Type} (cL2 : St → Option β) (K : AV → Hp → Option β) (a0 : AV) (h : Hp) :  Option β :=
effK (boxE 3 a0 (List.length h)) h fun x1 h2 =>
faK 0 x1 fun x3 =>
ldK 1 false x3 h2 fun x4 =>
effD (callE (D 76) [x4] h2 (List.length h2)) h2 fun x5 h6 e7 =>
faK 2 x1 fun x8 =>
ldK 1 false x8 h6 fun x9 =>
arithK .add x5 x9 fun x10 =>
arithK .sub x10 (.s (.int .i64 1)) fun x11 =>
bif disjAll [(2, 4)] [([], []), ((idsOf x3), []), e7, ([], []), ((idsOf x8), []), ([], []), ([], []), ([], [])] then (
cL2 ((upd (upd (upd (upd (tm0 [a0]) 1 x1) 2 (.s (.int .i64 0))) 3 x11) 4 (.s (.int .i64 1))), h6)) else none
def o_calendar_number (P : Program) (T : Tab) (D : DTab) (N : Nat) {β : Type} (K : AV → Hp → Option β) (a0 : AV) (h : Hp) : Option β := o_calendar_number_G P T D N (fun s => iterK (fun s k => o_calendar_number_L2 P T D N s.1 s.2 k) N s (o_calendar_number_aL2 P T D N K)) K a0 h
def f_calendar_number_j1 (P : Program) (T : Tab) (D : DTab) (N : Nat) {β : Type} (K : AV → Hp → Option β) (v3 : AV) (h : Hp) : Option β :=
K v3 h
def f_calendar_number_b2 (P : Program) (T : Tab) (D : DTab) (N : Nat) {β : Type} (xn : AV → AV → AV → Hp → Option β) (x0 : AV → Hp → Option β) (v1 : AV) (v3 : AV) (v4 : AV) (h : Hp) : Option β :=
faK 1 v1 fun x12 =>
ldK 1 false x12 h fun x13 =>
arithK .lss v4 x13 fun x14 =>
condK x14 (
faK 0 v1 fun x15 =>
ldK 1 false x15 h fun x16 =>
callK (T 70) [x16, v4] h fun x17 h18 =>
arithK .add v3 x17 fun x19 =>
arithK .add v4 (.s (.int .i64 1)) fun x20 =>
xn v1 x19 x20 h18) (
x0 v3 h)
def f_calendar_number_L2 (P : Program) (T : Tab) (D : DTab) (N : Nat) {β : Type} (x0 : AV → Hp → Option β) : Nat → AV → AV → AV → Hp → Option β
  | 0 => fun _ _ _ _ => none
  | n + 1 => fun v1 v3 v4 h => f_calendar_number_b2 P T D N (f_calendar_number_L2 P T D N x0 n) x0 v1 v3 v4 h
/-- spile/calendar.number -/
def f_calendar_number (P : Program) (T : Tab) (D : DTab) (N : Nat) {β : Type} (K : AV → Hp → Option β) (a0 : AV) (h : Hp) : Option β :=
effK (boxE 3 a0 (List.length h)) h fun x1 h2 =>
faK 0 x1 fun x3 =>
ldK 1 false x3 h2 fun x4 =>
effD (callE (D 76) [x4] h2 (List.length h2)) h2 fun x5 h6 e7 =>
faK 2 x1 fun x8 =>
ldK 1 false x8 h6 fun x9 =>
arithK .add x5 x9 fun x10 =>
arithK .sub x10 (.s (.int .i64 1)) fun x11 =>
bif disjAll [(2, 4)] [([], []), ((idsOf x3), []), e7, ([], []), ((idsOf x8), []), ([], []), ([], []), ([], [])] then (
f_calendar_number_L2 P T D N (fun w21_3 h => f_calendar_number_j1 P T D N K w21_3 h) N x1 x11 (.s (.int .i64 1)) h6) else none
theorem f_calendar_number_j1_eq (P : Program) (T : Tab) (D : DTab) (N : Nat) {β : Type} (K : AV → Hp → Option β) (t : Tm) (h : Hp) : o_calendar_number_j1 P T D N K t h = f_calendar_number_j1 P T D N K (t 3) h := by kernel_rfl
theorem f_calendar_number_b2_eq (P : Program) (T : Tab) (D : DTab) (N : Nat) {β : Type} (xn : AV → AV → AV → Hp → Option β) (x0 : AV → Hp → Option β) (xd : Nat → St → Option β) (xq : St → Option β) (t : Tm) (h : Hp) : o_calendar_number_L2 P T D N t h (fun (e : Ex) (s : St) => e.on (xn (s.1 1) (s.1 3) (s.1 4) s.2) (fun i => (bif i == 0 then x0 (s.1 3) s.2 else (xd i s))) (xq s)) = f_calendar_number_b2 P T D N xn x0 (t 1) (t 3) (t 4) h := by kernel_rfl
theorem f_calendar_number_L2_eq (P : Program) (T : Tab) (D : DTab) (N : Nat) {β : Type} (A : Ex → St → Option β) (x0 : AV → Hp → Option β) (q0 : ∀ s, A (.exit 0) s = x0 (s.1 3) s.2) : ∀ (n : Nat) (s : St), iterK (fun s k => o_calendar_number_L2 P T D N s.1 s.2 k) n s A = f_calendar_number_L2 P T D N x0 n (s.1 1) (s.1 3) (s.1 4) s.2 := by
  intro n
  induction n with
  | zero => intro s; rfl
  | succ n ih =>
    intro s
    have hk : (fun (e : Ex) (s' : St) => Ex.on e (iterK (fun s k => o_calendar_number_L2 P T D N s.1 s.2 k) n s' A) (fun i => A (.exit i) s') (A .ret s')) = (fun (e : Ex) (s : St) => e.on ((f_calendar_number_L2 P T D N x0 n) (s.1 1) (s.1 3) (s.1 4) s.2) (fun i => (bif i == 0 then x0 (s.1 3) s.2 else (A (.exit i) s))) (A .ret s)) := by
      funext e s'
      cases e with
      | normal => exact ih s'
      | ret => exact rfl
      | exit i =>
        by_cases r0 : i = 0
        · subst r0; exact q0 s'
        simp only [Ex.on, beq_false_of_ne r0, cond_false]
    show o_calendar_number_L2 P T D N s.1 s.2 (fun (e : Ex) (s' : St) => Ex.on e (iterK (fun s k => o_calendar_number_L2 P T D N s.1 s.2 k) n s' A) (fun i => A (.exit i) s') (A .ret s')) = _
    rw [hk]
    exact f_calendar_number_b2_eq P T D N (f_calendar_number_L2 P T D N x0 n) x0 (fun i s => A (.exit i) s) (fun s => A .ret s) s.1 s.2
theorem f_calendar_number_old_eq (P : Program) (T : Tab) (D : DTab) (N : Nat) {β : Type} (K : AV → Hp → Option β) (a0 : AV) (h : Hp) : o_calendar_number P T D N K a0 h = f_calendar_number P T D N K a0 h := by
  have eL2 : (fun s : St => iterK (fun s k => o_calendar_number_L2 P T D N s.1 s.2 k) N s (o_calendar_number_aL2 P T D N K)) = (fun s : St => f_calendar_number_L2 P T D N (fun w21_3 h => f_calendar_number_j1 P T D N K w21_3 h) N (s.1 1) (s.1 3) (s.1 4) s.2) := funext fun s => f_calendar_number_L2_eq P T D N (o_calendar_number_aL2 P T D N K) (fun w21_3 h => f_calendar_number_j1 P T D N K w21_3 h) (fun s => rfl) N s
  show o_calendar_number_G P T D N (fun s => iterK (fun s k => o_calendar_number_L2 P T D N s.1 s.2 k) N s (o_calendar_number_aL2 P T D N K)) K a0 h = _
  rw [eL2]
  kernel_rfl
theorem o_calendar_number_run (T : Tab) (D : DTab) (N : Nat) {β : Type} (K : AV → Hp → Option β) (a0 : AV) (h : Hp) : runK Try.prog T D N [0, 1, 2, 3, 4, 15] Try.f71 K [a0] h = o_calendar_number Try.prog T D N K a0 h := by kernel_rfl
theorem f_calendar_number_run (T : Tab) (D : DTab) (N : Nat) {β : Type} (K : AV → Hp → Option β) (a0 : AV) (h : Hp) : runK Try.prog T D N [0, 1, 2, 3, 4, 15] Try.f71 K [a0] h = f_calendar_number Try.prog T D N K a0 h := (o_calendar_number_run T D N K a0 h).trans (f_calendar_number_old_eq Try.prog T D N K a0 h)
/-- spile/season.rate$1 -/
def f_season_rate_1 (P : Program) (T : Tab) (D : DTab) (N : Nat) {β : Type} (K : AV → Hp → Option β) (a0 : AV) (a1 : AV) (a2 : AV) (h : Hp) : Option β :=
ldK 1 false a1 h fun x1 =>
iaK 4 x1 a0 fun x2 =>
ldK 4 true x2 h fun x3 =>
ldK 4 true a2 h fun x4 =>
callK (T 43) [x3, x4] h fun x5 h6 =>
notK x5 fun x7 =>
K x7 h6
theorem f_season_rate_1_run (T : Tab) (D : DTab) (N : Nat) {β : Type} (K : AV → Hp → Option β) (a0 : AV) (a1 : AV) (a2 : AV) (h : Hp) : runK Try.prog T D N [0, 1, 2, 4] Try.f72 K [a0, a1, a2] h = f_season_rate_1 Try.prog T D N K a0 a1 a2 h := by kernel_rfl
def o_slices_IndexFunc_int_j1 (P : Program) (T : Tab) (D : DTab) (N : Nat) {β : Type} (K : AV → Hp → Option β) (t : Tm) (h : Hp) : Option β :=
K (.s (.int .i64 (-1))) h
def o_slices_IndexFunc_int_L2 (P : Program) (T : Tab) (D : DTab) (N : Nat) {β : Type} (t : Tm) (h : Hp) (k : Ex → St → Option β) : Option β :=
arithK .lss (t 8) (t 7) fun x2 =>
condK x2 (
iaK 1 (t 0) (t 8) fun x3 =>
ldK 1 false x3 h fun x4 =>
callVK T (t 1) [x4] h fun x5 h6 =>
condK x5 (
k .ret ((upd (upd (upd (upd t 9 x2) 5 (t 8)) 16 x5) 4 (t 8)), h6)) (
arithK .add (t 8) (.s (.int .i64 1)) fun x7 =>
k .normal ((upd (upd (upd (upd t 9 x2) 5 (t 8)) 16 x5) 8 x7), h6))) (
k (.exit 0) ((upd t 9 x2), h))
def o_slices_IndexFunc_int_aL2 (P : Program) (T : Tab) (D : DTab) (N : Nat) {β : Type} (K : AV → Hp → Option β) (e : Ex) (s : St) : Option β :=
  e.on ((o_slices_IndexFunc_int_j1 P T D N K s.1 s.2))
  (fun i => bif i == 0 then ((o_slices_IndexFunc_int_j1 P T D N K s.1 s.2)) else (none))
  (K (s.1 4) s.2)
def o_slices_IndexFunc_int_G (P : Program) (T : Tab) (D : DTab) (N : Nat) {β : Type} (cL2 : St → Option β) (K : AV → Hp → Option β) (a0 : AV) (a1 : AV) (h : Hp) :  Option β :=
lenK a0 fun x1 =>
cL2 ((upd (upd (upd (tm0 [a0, a1]) 4 (.s (.int .i64 0))) 7 x1) 8 (.s (.int .i64 0))), h)
def o_slices_IndexFunc_int (P : Program) (T : Tab) (D : DTab) (N : Nat) {β : Type} (K : AV → Hp → Option β) (a0 : AV) (a1 : AV) (h : Hp) : Option β := o_slices_IndexFunc_int_G P T D N (fun s => iterK (fun s k => o_slices_IndexFunc_int_L2 P T D N s.1 s.2 k) N s (o_slices_IndexFunc_int_aL2 P T D N K)) K a0 a1 h
def f_slices_IndexFunc_int_j1 (P : Program) (T : Tab) (D : DTab) (N : Nat) {β : Type} (K : AV → Hp → Option β) (h : Hp) : Option β :=
K (.s (.int .i64 (-1))) h
def f_slices_IndexFunc_int_b2 (P : Program) (T : Tab) (D : DTab) (N : Nat) {β : Type} (xn : AV → AV → AV → AV → Hp → Option β) (x0 : Hp → Option β) (xr : AV → Hp → Option β) (v0 : AV) (v1 : AV) (v7 : AV) (v8 : AV) (h : Hp) : Option β :=
arithK .lss v8 v7 fun x2 =>
condK x2 (
iaK 1 v0 v8 fun x3 =>
ldK 1 false x3 h fun x4 =>
callVK T v1 [x4] h fun x5 h6 =>
condK x5 (
xr v8 h6) (
arithK .add v8 (.s (.int .i64 1)) fun x7 =>
xn v0 v1 v7 x7 h6)) (
x0 h)
def f_slices_IndexFunc_int_L2 (P : Program) (T : Tab) (D : DTab) (N : Nat) {β : Type} (x0 : Hp → Option β) (xr : AV → Hp → Option β) : Nat → AV → AV → AV → AV → Hp → Option β
  | 0 => fun _ _ _ _ _ => none
  | n + 1 => fun v0 v1 v7 v8 h => f_slices_IndexFunc_int_b2 P T D N (f_slices_IndexFunc_int_L2 P T D N x0 xr n) x0 xr v0 v1 v7 v8 h
/-- slices.IndexFunc[[]int,int] -/
def f_slices_IndexFunc_int (P : Program) (T : Tab) (D : DTab) (N : Nat) {β : Type} (K : AV → Hp → Option β) (a0 : AV) (a1 : AV) (h : Hp) : Option β :=
lenK a0 fun x1 =>
f_slices_IndexFunc_int_L2 P T D N (fun h => f_slices_IndexFunc_int_j1 P T D N K h) (fun w9_4 h => K w9_4 h) N a0 a1 x1 (.s (.int .i64 0)) h
theorem f_slices_IndexFunc_int_j1_eq (P : Program) (T : Tab) (D : DTab) (N : Nat) {β : Type} (K : AV → Hp → Option β) (t : Tm) (h : Hp) : o_slices_IndexFunc_int_j1 P T D N K t h = f_slices_IndexFunc_int_j1 P T D N K h := by kernel_rfl
theorem f_slices_IndexFunc_int_b2_eq (P : Program) (T : Tab) (D : DTab) (N : Nat) {β : Type} (xn : AV → AV → AV → AV → Hp → Option β) (x0 : Hp → Option β) (xr : AV → Hp → Option β) (xd : Nat → St → Option β) (xq : St → Option β) (t : Tm) (h : Hp) : o_slices_IndexFunc_int_L2 P T D N t h (fun (e : Ex) (s : St) => e.on (xn (s.1 0) (s.1 1) (s.1 7) (s.1 8) s.2) (fun i => (bif i == 0 then x0 s.2 else (xd i s))) (xr (s.1 4) s.2)) = f_slices_IndexFunc_int_b2 P T D N xn x0 xr (t 0) (t 1) (t 7) (t 8) h := by kernel_rfl
theorem f_slices_IndexFunc_int_L2_eq (P : Program) (T : Tab) (D : DTab) (N : Nat) {β : Type} (A : Ex → St → Option β) (x0 : Hp → Option β) (xr : AV → Hp → Option β) (q0 : ∀ s, A (.exit 0) s = x0 s.2) (qr : ∀ s, A .ret s = xr (s.1 4) s.2) : ∀ (n : Nat) (s : St), iterK (fun s k => o_slices_IndexFunc_int_L2 P T D N s.1 s.2 k) n s A = f_slices_IndexFunc_int_L2 P T D N x0 xr n (s.1 0) (s.1 1) (s.1 7) (s.1 8) s.2 := by
  intro n
  induction n with
  | zero => intro s; rfl
  | succ n ih =>
    intro s
    have hk : (fun (e : Ex) (s' : St) => Ex.on e (iterK (fun s k => o_slices_IndexFunc_int_L2 P T D N s.1 s.2 k) n s' A) (fun i => A (.exit i) s') (A .ret s')) = (fun (e : Ex) (s : St) => e.on ((f_slices_IndexFunc_int_L2 P T D N x0 xr n) (s.1 0) (s.1 1) (s.1 7) (s.1 8) s.2) (fun i => (bif i == 0 then x0 s.2 else (A (.exit i) s))) (xr (s.1 4) s.2)) := by
      funext e s'
      cases e with
      | normal => exact ih s'
      | ret => exact qr s'
      | exit i =>
        by_cases r0 : i = 0
        · subst r0; exact q0 s'
        simp only [Ex.on, beq_false_of_ne r0, cond_false]
    show o_slices_IndexFunc_int_L2 P T D N s.1 s.2 (fun (e : Ex) (s' : St) => Ex.on e (iterK (fun s k => o_slices_IndexFunc_int_L2 P T D N s.1 s.2 k) n s' A) (fun i => A (.exit i) s') (A .ret s')) = _
    rw [hk]
    exact f_slices_IndexFunc_int_b2_eq P T D N (f_slices_IndexFunc_int_L2 P T D N x0 xr n) x0 xr (fun i s => A (.exit i) s) (fun s => A .ret s) s.1 s.2
theorem f_slices_IndexFunc_int_old_eq (P : Program) (T : Tab) (D : DTab) (N : Nat) {β : Type} (K : AV → Hp → Option β) (a0 : AV) (a1 : AV) (h : Hp) : o_slices_IndexFunc_int P T D N K a0 a1 h = f_slices_IndexFunc_int P T D N K a0 a1 h := by
  have eL2 : (fun s : St => iterK (fun s k => o_slices_IndexFunc_int_L2 P T D N s.1 s.2 k) N s (o_slices_IndexFunc_int_aL2 P T D N K)) = (fun s : St => f_slices_IndexFunc_int_L2 P T D N (fun h => f_slices_IndexFunc_int_j1 P T D N K h) (fun w9_4 h => K w9_4 h) N (s.1 0) (s.1 1) (s.1 7) (s.1 8) s.2) := funext fun s => f_slices_IndexFunc_int_L2_eq P T D N (o_slices_IndexFunc_int_aL2 P T D N K) (fun h => f_slices_IndexFunc_int_j1 P T D N K h) (fun w9_4 h => K w9_4 h) (fun s => rfl) (fun s => rfl) N s
  show o_slices_IndexFunc_int_G P T D N (fun s => iterK (fun s k => o_slices_IndexFunc_int_L2 P T D N s.1 s.2 k) N s (o_slices_IndexFunc_int_aL2 P T D N K)) K a0 a1 h = _
  rw [eL2]
  kernel_rfl
theorem o_slices_IndexFunc_int_run (T : Tab) (D : DTab) (N : Nat) {β : Type} (K : AV → Hp → Option β) (a0 : AV) (a1 : AV) (h : Hp) : runK Try.prog T D N [0, 1, 4, 5, 7, 8, 9, 16] Try.f73 K [a0, a1] h = o_slices_IndexFunc_int Try.prog T D N K a0 a1 h := by kernel_rfl
theorem f_slices_IndexFunc_int_run (T : Tab) (D : DTab) (N : Nat) {β : Type} (K : AV → Hp → Option β) (a0 : AV) (a1 : AV) (h : Hp) : runK Try.prog T D N [0, 1, 4, 5, 7, 8, 9, 16] Try.f73 K [a0, a1] h = f_slices_IndexFunc_int Try.prog T D N K a0 a1 h := (o_slices_IndexFunc_int_run T D N K a0 a1 h).trans (f_slices_IndexFunc_int_old_eq Try.prog T D N K a0 a1 h)
/-- math/bits.Mul64 -/
def f_bits_Mul64 (P : Program) (T : Tab) (D : DTab) (N : Nat) {β : Type} (K : AV → Hp → Option β) (a0 : AV) (a1 : AV) (h : Hp) : Option β :=
reckK P .and 80 a0 (.s (.int .u64 4294967295)) fun x1 =>
reckK P .shr 80 a0 (.s (.int .u64 32)) fun x2 =>
reckK P .and 80 a1 (.s (.int .u64 4294967295)) fun x3 =>
reckK P .shr 80 a1 (.s (.int .u64 32)) fun x4 =>
arithK .mul x1 x3 fun x5 =>
arithK .mul x2 x3 fun x6 =>
reckK P .shr 80 x5 (.s (.int .u64 32)) fun x7 =>
arithK .add x6 x7 fun x8 =>
reckK P .and 80 x8 (.s (.int .u64 4294967295)) fun x9 =>
reckK P .shr 80 x8 (.s (.int .u64 32)) fun x10 =>
arithK .mul x1 x4 fun x11 =>
arithK .add x9 x11 fun x12 =>
arithK .mul x2 x4 fun x13 =>
arithK .add x13 x10 fun x14 =>
reckK P .shr 80 x12 (.s (.int .u64 32)) fun x15 =>
arithK .add x14 x15 fun x16 =>
arithK .mul a0 a1 fun x17 =>
K (.tup [x16, x17]) h
theorem f_bits_Mul64_run (T : Tab) (D : DTab) (N : Nat) {β : Type} (K : AV → Hp → Option β) (a0 : AV) (a1 : AV) (h : Hp) : runK Try.prog T D N [0, 1, 4, 5, 6, 7, 8, 9, 10, 11, 12, 13] Try.f74 K [a0, a1] h = f_bits_Mul64 Try.prog T D N K a0 a1 h := by kernel_rfl
/-- math/bits.LeadingZeros64 -/
def f_bits_LeadingZeros64 (P : Program) (T : Tab) (D : DTab) (N : Nat) {β : Type} (K : AV → Hp → Option β) (a0 : AV) (h : Hp) : Option β :=
callK (T 78) [a0] h fun x1 h2 =>
arithK .sub (.s (.int .i64 64)) x1 fun x3 =>
K x3 h2
theorem f_bits_LeadingZeros64_run (T : Tab) (D : DTab) (N : Nat) {β : Type} (K : AV → Hp → Option β) (a0 : AV) (h : Hp) : runK Try.prog T D N [0, 2] Try.f75 K [a0] h = f_bits_LeadingZeros64 Try.prog T D N K a0 h := by kernel_rfl
/-- spile/calendar.before -/
def f_calendar_before (P : Program) (T : Tab) (D : DTab) (N : Nat) {β : Type} (K : AV → Hp → Option β) (a0 : AV) (h : Hp) : Option β :=
arithK .sub a0 (.s (.int .i64 1900)) fun x1 =>
arithK .mul (.s (.int .i64 365)) x1 fun x2 =>
arithK .sub a0 (.s (.int .i64 1)) fun x3 =>
callVK T (.fn 79 []) [x3] h fun x4 h5 =>
arithK .add x2 x4 fun x6 =>
callVK T (.fn 79 []) [(.s (.int .i64 1899))] h5 fun x7 h8 =>
arithK .sub x6 x7 fun x9 =>
K x9 h8
theorem f_calendar_before_run (T : Tab) (D : DTab) (N : Nat) {β : Type} (K : AV → Hp → Option β) (a0 : AV) (h : Hp) : runK Try.prog T D N [0, 2, 3] Try.f76 K [a0] h = f_calendar_before Try.prog T D N K a0 h := by kernel_rfl
/-- spile/calendar.leap -/
def f_calendar_leap (P : Program) (T : Tab) (D : DTab) (N : Nat) {β : Type} (K : AV → Hp → Option β) (a0 : AV) (h : Hp) : Option β :=
reckK P .rem 3 a0 (.s (.int .i64 4)) fun x1 =>
eqK P false 3 x1 (.s (.int .i64 0)) h fun x2 =>
grpK true x2 h (fun k3 =>
reckK P .rem 3 a0 (.s (.int .i64 100)) fun x4 =>
eqK P true 3 x4 (.s (.int .i64 0)) h fun x5 =>
grpK false x5 h (fun k6 =>
reckK P .rem 3 a0 (.s (.int .i64 400)) fun x7 =>
eqK P false 3 x7 (.s (.int .i64 0)) h fun x8 =>
k6 x8 h) fun x9 h10 =>
k3 x9 h10) fun x11 h12 =>
K x11 h12
theorem f_calendar_leap_run (T : Tab) (D : DTab) (N : Nat) {β : Type} (K : AV → Hp → Option β) (a0 : AV) (h : Hp) : runK Try.prog T D N [0, 2] Try.f77 K [a0] h = f_calendar_leap Try.prog T D N K a0 h := by kernel_rfl
def f_bits_Len64_j3 (P : Program) (T : Tab) (D : DTab) (N : Nat) {β : Type} (K : AV → Hp → Option β) (v0 : AV) (v2 : AV) (h : Hp) : Option β :=
convK P 80 5 v0 fun x1 =>
chK (.s (.string ⟨([0, 1, 2, 2, 3, 3, 3, 3, 4, 4, 4, 4, 4, 4, 4, 4, 5, 5, 5, 5, 5, 5, 5, 5, 5, 5, 5, 5, 5, 5, 5, 5, 6, 6, 6, 6, 6, 6, 6, 6, 6, 6, 6, 6, 6, 6, 6, 6, 6, 6, 6, 6, 6, 6, 6, 6, 6, 6, 6, 6, 6, 6, 6, 6] ++ [7, 7, 7, 7, 7, 7, 7, 7, 7, 7, 7, 7, 7, 7, 7, 7, 7, 7, 7, 7, 7, 7, 7, 7, 7, 7, 7, 7, 7, 7, 7, 7, 7, 7, 7, 7, 7, 7, 7, 7, 7, 7, 7, 7, 7, 7, 7, 7, 7, 7, 7, 7, 7, 7, 7, 7, 7, 7, 7, 7, 7, 7, 7, 7] ++ [8, 8, 8, 8, 8, 8, 8, 8, 8, 8, 8, 8, 8, 8, 8, 8, 8, 8, 8, 8, 8, 8, 8, 8, 8, 8, 8, 8, 8, 8, 8, 8, 8, 8, 8, 8, 8, 8, 8, 8, 8, 8, 8, 8, 8, 8, 8, 8, 8, 8, 8, 8, 8, 8, 8, 8, 8, 8, 8, 8, 8, 8, 8, 8] ++ [8, 8, 8, 8, 8, 8, 8, 8, 8, 8, 8, 8, 8, 8, 8, 8, 8, 8, 8, 8, 8, 8, 8, 8, 8, 8, 8, 8, 8, 8, 8, 8, 8, 8, 8, 8, 8, 8, 8, 8, 8, 8, 8, 8, 8, 8, 8, 8, 8, 8, 8, 8, 8, 8, 8, 8, 8, 8, 8, 8, 8, 8, 8, 8] : List UInt8).toArray⟩)) x1 fun x2 =>
convK P 5 3 x2 fun x3 =>
arithK .add v2 x3 fun x4 =>
K x4 h
def f_bits_Len64_j2 (P : Program) (T : Tab) (D : DTab) (N : Nat) {β : Type} (K : AV → Hp → Option β) (v0 : AV) (v2 : AV) (h : Hp) : Option β :=
arithK .geq v0 (.s (.int .u64 256)) fun x5 =>
condK x5 (
reckK P .shr 80 v0 (.s (.int .u64 8)) fun x6 =>
arithK .add v2 (.s (.int .i64 8)) fun x7 =>
f_bits_Len64_j3 P T D N K x6 x7 h) (
f_bits_Len64_j3 P T D N K v0 v2 h)
def f_bits_Len64_j1 (P : Program) (T : Tab) (D : DTab) (N : Nat) {β : Type} (K : AV → Hp → Option β) (v0 : AV) (v2 : AV) (h : Hp) : Option β :=
arithK .geq v0 (.s (.int .u64 65536)) fun x8 =>
condK x8 (
reckK P .shr 80 v0 (.s (.int .u64 16)) fun x9 =>
arithK .add v2 (.s (.int .i64 16)) fun x10 =>
f_bits_Len64_j2 P T D N K x9 x10 h) (
f_bits_Len64_j2 P T D N K v0 v2 h)
/-- math/bits.Len64 -/
def f_bits_Len64 (P : Program) (T : Tab) (D : DTab) (N : Nat) {β : Type} (K : AV → Hp → Option β) (a0 : AV) (h : Hp) : Option β :=
arithK .geq a0 (.s (.int .u64 4294967296)) fun x11 =>
condK x11 (
reckK P .shr 80 a0 (.s (.int .u64 32)) fun x12 =>
f_bits_Len64_j1 P T D N K x12 (.s (.int .i64 32)) h) (
f_bits_Len64_j1 P T D N K a0 (.s (.int .i64 0)) h)
theorem f_bits_Len64_run (T : Tab) (D : DTab) (N : Nat) {β : Type} (K : AV → Hp → Option β) (a0 : AV) (h : Hp) : runK Try.prog T D N [0, 2, 4, 8, 14] Try.f78 K [a0] h = f_bits_Len64 Try.prog T D N K a0 h := by kernel_rfl
/-- spile/calendar.before$1 -/
def f_calendar_before_1 (P : Program) (T : Tab) (D : DTab) (N : Nat) {β : Type} (K : AV → Hp → Option β) (a0 : AV) (h : Hp) : Option β :=
reckK P .quo 3 a0 (.s (.int .i64 4)) fun x1 =>
reckK P .quo 3 a0 (.s (.int .i64 100)) fun x2 =>
arithK .sub x1 x2 fun x3 =>
reckK P .quo 3 a0 (.s (.int .i64 400)) fun x4 =>
arithK .add x3 x4 fun x5 =>
K x5 h
theorem f_calendar_before_1_run (T : Tab) (D : DTab) (N : Nat) {β : Type} (K : AV → Hp → Option β) (a0 : AV) (h : Hp) : runK Try.prog T D N [0, 2] Try.f79 K [a0] h = f_calendar_before_1 Try.prog T D N K a0 h := by kernel_rfl
end Go.AM
