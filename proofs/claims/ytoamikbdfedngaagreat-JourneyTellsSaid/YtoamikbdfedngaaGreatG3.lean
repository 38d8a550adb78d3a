import Derived.Test.YtoamikbdfedngaaGreatG2
import Derived.Test.YtoamikbdfedngaaGreatProg
set_option linter.unusedSectionVars false
set_option linter.unusedVariables false
set_option linter.unusedSimpArgs false
set_option linter.constructorNameAsVariable false
namespace Go.AM
open Go.Proofs
set_option linter.unusedVariables false
set_option maxRecDepth 100000
theorem un_3 : Tryz.prog.underlying 3 = some (.int .i64) := by kernel_rfl
theorem un_111 : Tryz.prog.underlying 111 = some (.int .u64) := by kernel_rfl
@[simp] theorem cv_3_111 {β : Type} (n : Int) (k : K β) : convK Tryz.prog 3 111 (.s (.int .i64 n)) k = k (.s (.int .u64 (IntKind.u64.wrap n))) := convK_int un_3 un_111 k
theorem un_115 : Tryz.prog.underlying 115 = some (.int .u64) := by kernel_rfl
@[simp] theorem cv_3_115 {β : Type} (n : Int) (k : K β) : convK Tryz.prog 3 115 (.s (.int .i64 n)) k = k (.s (.int .u64 (IntKind.u64.wrap n))) := convK_int un_3 un_115 k
theorem un_5 : Tryz.prog.underlying 5 = some (.int .u8) := by kernel_rfl
@[simp] theorem cv_5_3 {β : Type} (n : Int) (k : K β) : convK Tryz.prog 5 3 (.s (.int .u8 n)) k = k (.s (.int .i64 (IntKind.i64.wrap n))) := convK_int un_5 un_3 k
@[simp] theorem cv_111_3 {β : Type} (n : Int) (k : K β) : convK Tryz.prog 111 3 (.s (.int .u64 n)) k = k (.s (.int .i64 (IntKind.i64.wrap n))) := convK_int un_111 un_3 k
@[simp] theorem cv_115_3 {β : Type} (n : Int) (k : K β) : convK Tryz.prog 115 3 (.s (.int .u64 n)) k = k (.s (.int .i64 (IntKind.i64.wrap n))) := convK_int un_115 un_3 k
@[simp] theorem cv_115_5 {β : Type} (n : Int) (k : K β) : convK Tryz.prog 115 5 (.s (.int .u64 n)) k = k (.s (.int .u8 (IntKind.u8.wrap n))) := convK_int un_115 un_5 k
@[simp] theorem el_22 : elemOf Tryz.prog 22 = some 33 := by kernel_rfl
@[simp] theorem eqn_22_false {β : Type} (h : Hp) (k : K β) : eqK Tryz.prog false 22 (.s (.slice none 0 0)) (.s (.slice none 0 0)) h k = k (.s (.bool true)) := by kernel_rfl
@[simp] theorem eqn_22_true {β : Type} (h : Hp) (k : K β) : eqK Tryz.prog true 22 (.s (.slice none 0 0)) (.s (.slice none 0 0)) h k = k (.s (.bool false)) := by kernel_rfl
@[simp] theorem el_23 : elemOf Tryz.prog 23 = some 40 := by kernel_rfl
@[simp] theorem eqn_23_false {β : Type} (h : Hp) (k : K β) : eqK Tryz.prog false 23 (.s (.slice none 0 0)) (.s (.slice none 0 0)) h k = k (.s (.bool true)) := by kernel_rfl
@[simp] theorem eqn_23_true {β : Type} (h : Hp) (k : K β) : eqK Tryz.prog true 23 (.s (.slice none 0 0)) (.s (.slice none 0 0)) h k = k (.s (.bool false)) := by kernel_rfl
@[simp] theorem eqs_35 {β : Type} (neq : Bool) (a0 : Int) (a1 : Int) (a2 : Int) (a3 : Int) (b0 : Int) (b1 : Int) (b2 : Int) (b3 : Int) (h : Hp) (k : K β) : eqK Tryz.prog neq 35 (.agg [.s (.int .i64 a0), .s (.int .i64 a1), .s (.int .i64 a2), .s (.int .i64 a3)]) (.agg [.s (.int .i64 b0), .s (.int .i64 b1), .s (.int .i64 b2), .s (.int .i64 b3)]) h k = k (.s (.bool (xor neq ((a0 == b0) && ((a1 == b1) && ((a2 == b2) && ((a3 == b3) && (true)))))))) := by
  have e1 : Tryz.prog.eqGuardType Tryz.prog.depth 35 = false := by kernel_rfl
  have e2 : aggT Tryz.prog 35 = true := by kernel_rfl
  have e3 : eqFlat Tryz.prog 8 35 [.s (.int .i64 a0), .s (.int .i64 a1), .s (.int .i64 a2), .s (.int .i64 a3)] [.s (.int .i64 b0), .s (.int .i64 b1), .s (.int .i64 b2), .s (.int .i64 b3)] = some ((a0 == b0) && ((a1 == b1) && ((a2 == b2) && ((a3 == b3) && (true))))) := by kernel_rfl
  simp only [eqK, e1, e2, e3]
@[simp] theorem eqs_47 {β : Type} (neq : Bool) (a0 : Int) (a1 : Int) (a2 : Int) (a3 : Int) (a4 : Int) (a5 : Int) (a6 : Int) (a7 : Bool) (a8 : Bool) (b0 : Int) (b1 : Int) (b2 : Int) (b3 : Int) (b4 : Int) (b5 : Int) (b6 : Int) (b7 : Bool) (b8 : Bool) (h : Hp) (k : K β) : eqK Tryz.prog neq 47 (.agg [.s (.int .i64 a0), .s (.int .i64 a1), .s (.int .i64 a2), .s (.int .i64 a3), .s (.int .i64 a4), .s (.int .i64 a5), .s (.int .i64 a6), .s (.bool a7), .s (.bool a8)]) (.agg [.s (.int .i64 b0), .s (.int .i64 b1), .s (.int .i64 b2), .s (.int .i64 b3), .s (.int .i64 b4), .s (.int .i64 b5), .s (.int .i64 b6), .s (.bool b7), .s (.bool b8)]) h k = k (.s (.bool (xor neq ((a0 == b0) && ((a1 == b1) && ((a2 == b2) && ((a3 == b3) && ((a4 == b4) && ((a5 == b5) && ((a6 == b6) && ((a7 == b7) && ((a8 == b8) && (true))))))))))))) := by
  have e1 : Tryz.prog.eqGuardType Tryz.prog.depth 47 = false := by kernel_rfl
  have e2 : aggT Tryz.prog 47 = true := by kernel_rfl
  have e3 : eqFlat Tryz.prog 8 47 [.s (.int .i64 a0), .s (.int .i64 a1), .s (.int .i64 a2), .s (.int .i64 a3), .s (.int .i64 a4), .s (.int .i64 a5), .s (.int .i64 a6), .s (.bool a7), .s (.bool a8)] [.s (.int .i64 b0), .s (.int .i64 b1), .s (.int .i64 b2), .s (.int .i64 b3), .s (.int .i64 b4), .s (.int .i64 b5), .s (.int .i64 b6), .s (.bool b7), .s (.bool b8)] = some ((a0 == b0) && ((a1 == b1) && ((a2 == b2) && ((a3 == b3) && ((a4 == b4) && ((a5 == b5) && ((a6 == b6) && ((a7 == b7) && ((a8 == b8) && (true)))))))))) := by kernel_rfl
  simp only [eqK, e1, e2, e3]
@[simp] theorem eqs_67 {β : Type} (neq : Bool) (a0 : Int) (a1 : Int) (a2 : Int) (a3 : Int) (a4 : Int) (a5 : Int) (a6 : Int) (b0 : Int) (b1 : Int) (b2 : Int) (b3 : Int) (b4 : Int) (b5 : Int) (b6 : Int) (h : Hp) (k : K β) : eqK Tryz.prog neq 67 (.agg [.s (.int .i64 a0), .s (.int .i64 a1), .s (.int .i64 a2), .s (.int .i64 a3), .s (.int .i64 a4), .s (.int .i64 a5), .s (.int .i64 a6)]) (.agg [.s (.int .i64 b0), .s (.int .i64 b1), .s (.int .i64 b2), .s (.int .i64 b3), .s (.int .i64 b4), .s (.int .i64 b5), .s (.int .i64 b6)]) h k = k (.s (.bool (xor neq ((a0 == b0) && ((a1 == b1) && ((a2 == b2) && ((a3 == b3) && ((a4 == b4) && ((a5 == b5) && ((a6 == b6) && (true))))))))))) := by
  have e1 : Tryz.prog.eqGuardType Tryz.prog.depth 67 = false := by kernel_rfl
  have e2 : aggT Tryz.prog 67 = true := by kernel_rfl
  have e3 : eqFlat Tryz.prog 8 67 [.s (.int .i64 a0), .s (.int .i64 a1), .s (.int .i64 a2), .s (.int .i64 a3), .s (.int .i64 a4), .s (.int .i64 a5), .s (.int .i64 a6)] [.s (.int .i64 b0), .s (.int .i64 b1), .s (.int .i64 b2), .s (.int .i64 b3), .s (.int .i64 b4), .s (.int .i64 b5), .s (.int .i64 b6)] = some ((a0 == b0) && ((a1 == b1) && ((a2 == b2) && ((a3 == b3) && ((a4 == b4) && ((a5 == b5) && ((a6 == b6) && (true)))))))) := by kernel_rfl
  simp only [eqK, e1, e2, e3]
@[simp] theorem eqs_122 {β : Type} (neq : Bool) (a0 : Int) (a1 : Int) (a2 : Int) (b0 : Int) (b1 : Int) (b2 : Int) (h : Hp) (k : K β) : eqK Tryz.prog neq 122 (.agg [.s (.int .i64 a0), .s (.int .i64 a1), .s (.int .i64 a2)]) (.agg [.s (.int .i64 b0), .s (.int .i64 b1), .s (.int .i64 b2)]) h k = k (.s (.bool (xor neq ((a0 == b0) && ((a1 == b1) && ((a2 == b2) && (true))))))) := by
  have e1 : Tryz.prog.eqGuardType Tryz.prog.depth 122 = false := by kernel_rfl
  have e2 : aggT Tryz.prog 122 = true := by kernel_rfl
  have e3 : eqFlat Tryz.prog 8 122 [.s (.int .i64 a0), .s (.int .i64 a1), .s (.int .i64 a2)] [.s (.int .i64 b0), .s (.int .i64 b1), .s (.int .i64 b2)] = some ((a0 == b0) && ((a1 == b1) && ((a2 == b2) && (true)))) := by kernel_rfl
  simp only [eqK, e1, e2, e3]
def f_law45_JourneyTells (P : Program) (T : Tab) (D : DTab) (N : Nat) {β : Type} (K : AV → Hp → Option β) (a0 : AV) (a1 : AV) (a2 : AV) (h : Hp) : Option β :=
effK (boxE 2 a2 (List.length h)) h fun x1 h2 =>
callK (T 5) [] h2 fun x3 h4 =>
notK x3 fun x5 =>
condK x5 (
K (.s (.bool false)) h4) (
callK (T 6) [a0] h4 fun x6 h7 =>
notK x6 fun x8 =>
grpK false x8 h7 (fun k9 =>
callK (T 7) [a1] h7 fun x10 h11 =>
notK x10 fun x12 =>
k9 x12 h11) fun x13 h14 =>
condK x13 (
K (.s (.bool true)) h14) (
effD (callE (D 9) [a0] h14 (List.length h14)) h14 fun x15 h16 e17 =>
iaA 1 2 x1 (.s (.int .i64 0)) fun x18 =>
ldK 1 false x18 h16 fun x19 =>
effD (callE (D 8) [x15, x19] h16 (List.length h16)) h16 fun x20 h21 e22 =>
exK x20 0 fun x23 =>
exK x20 1 fun x24 =>
exK x20 2 fun x25 =>
bif disjAll [(1, 3)] [([], []), e17, ([], []), ((idsOf x18), []), e22, ([], []), ([], []), ([], []), ([], []), ([], []), ([], []), ([], [])] then (
iaA 1 2 x1 (.s (.int .i64 0)) fun x26 =>
ldK 1 false x26 h21 fun x27 =>
callK (T 10) [a0, x27] h21 fun x28 h29 =>
exK x28 0 fun x30 =>
exK x28 1 fun x31 =>
exK x28 2 fun x32 =>
callK (T 9) [a0] h29 fun x33 h34 =>
callK (T 12) [a1] h34 fun x35 h36 =>
callK (T 11) [x33, x35] h36 fun x37 h38 =>
exK x37 0 fun x39 =>
exK x37 1 fun x40 =>
effK (boxE 4 (.agg [.s (.int .i64 0), .s (.int .i64 0), .s (.int .i64 0), .s (.int .i64 0)]) (List.length h38)) h38 fun x41 h42 =>
effK (stE 4 x41 x39 h42) h42 fun x43 h44 =>
callK (T 13) [a0, a1] h44 fun x45 h46 =>
exK x45 0 fun x47 =>
exK x45 1 fun x48 =>
effK (boxE 4 (.agg [.s (.int .i64 0), .s (.int .i64 0), .s (.int .i64 0), .s (.int .i64 0)]) (List.length h46)) h46 fun x49 h50 =>
effK (stE 4 x49 x47 h50) h50 fun x51 h52 =>
effD (callE (D 9) [a0] h52 (List.length h52)) h52 fun x53 h54 e55 =>
iaA 1 2 x1 (.s (.int .i64 1)) fun x56 =>
ldK 1 false x56 h54 fun x57 =>
effD (callE (D 14) [x53, x57] h54 (List.length h54)) h54 fun x58 h59 e60 =>
exK x58 0 fun x61 =>
exK x58 1 fun x62 =>
bif disjAll [(1, 3)] [([], []), e55, ([], []), ((idsOf x56), []), e60, ([], []), ([], []), ([], []), ([], []), ([], [])] then (
iaA 1 2 x1 (.s (.int .i64 1)) fun x63 =>
ldK 1 false x63 h59 fun x64 =>
callK (T 15) [a0, x64] h59 fun x65 h66 =>
exK x65 0 fun x67 =>
exK x65 1 fun x68 =>
eqK P false 3 x23 x30 h66 fun x69 =>
grpK true x69 h66 (fun k70 =>
eqK P false 3 x24 x31 h66 fun x71 =>
k70 x71 h66) fun x72 h73 =>
grpK true x72 h73 (fun k74 =>
eqK P false 28 x25 x32 h73 fun x75 =>
k74 x75 h73) fun x76 h77 =>
grpK true x76 h77 (fun k78 =>
ldK 4 true x41 h77 fun x79 =>
ldK 4 true x49 h77 fun x80 =>
eqK P false 35 x79 x80 h77 fun x81 =>
k78 x81 h77) fun x82 h83 =>
grpK true x82 h83 (fun k84 =>
eqK P false 28 x40 x48 h83 fun x85 =>
k84 x85 h83) fun x86 h87 =>
grpK true x86 h87 (fun k88 =>
callK (T 16) [x61, x67] h87 fun x89 h90 =>
k88 x89 h90) fun x91 h92 =>
grpK true x91 h92 (fun k93 =>
eqK P false 28 x62 x68 h92 fun x94 =>
k93 x94 h92) fun x95 h96 =>
K x95 h96) else none) else none))
theorem f_law45_JourneyTells_run (T : Tab) (D : DTab) (N : Nat) {β : Type} (K : AV → Hp → Option β) (a0 : AV) (a1 : AV) (a2 : AV) (h : Hp) : runK Tryz.prog T D N [0, 1, 2, 5, 6, 7, 8, 9, 10, 11, 12, 13, 14, 15, 16, 17, 18, 19, 20, 22, 30] Tryz.f3 K [a0, a1, a2] h = f_law45_JourneyTells Tryz.prog T D N K a0 a1 a2 h := by kernel_rfl
def f_law45_awake (P : Program) (T : Tab) (D : DTab) (N : Nat) {β : Type} (K : AV → Hp → Option β) (h : Hp) : Option β :=
callK (T 19) [] h fun x1 h2 =>
callK (T 17) [x1] h2 fun x3 h4 =>
exK x3 0 fun x5 =>
exK x3 1 fun x6 =>
exK x3 2 fun x7 =>
effK (boxE 9 (.agg [.s (.int .i64 0), .s (.int .i64 0), .s (.int .i64 0), .s (.int .i64 0), .s (.int .i64 0), .s (.int .i64 0), .s (.int .i64 0), .s (.bool false), .s (.bool false)]) (List.length h4)) h4 fun x8 h9 =>
effK (stE 9 x8 x5 h9) h9 fun x10 h11 =>
callK (T 19) [] h11 fun x12 h13 =>
effK (bsE 1 [.s (.slice none 0 0)] 1 [(0, x12)] (List.length h13)) h13 fun x14 h15 =>
callK (T 20) [x14, (.s (.int .i64 15))] h15 fun x16 h17 =>
exK x16 0 fun x18 =>
exK x16 1 fun x19 =>
callK (T 19) [] h17 fun x20 h21 =>
callK (T 8) [x20, (.s (.int .i64 100))] h21 fun x22 h23 =>
exK x22 0 fun x24 =>
exK x22 1 fun x25 =>
exK x22 2 fun x26 =>
callK (T 19) [] h23 fun x27 h28 =>
callK (T 21) [] h28 fun x29 h30 =>
callK (T 11) [x27, x29] h30 fun x31 h32 =>
exK x31 0 fun x33 =>
exK x31 1 fun x34 =>
effK (boxE 4 (.agg [.s (.int .i64 0), .s (.int .i64 0), .s (.int .i64 0), .s (.int .i64 0)]) (List.length h32)) h32 fun x35 h36 =>
effK (stE 4 x35 x33 h36) h36 fun x37 h38 =>
callK (T 19) [] h38 fun x39 h40 =>
callK (T 14) [x39, (.s (.int .i64 7))] h40 fun x41 h42 =>
exK x41 0 fun x43 =>
exK x41 1 fun x44 =>
ldK 9 true x8 h42 fun x45 =>
buildK [.s (.int .i64 0), .s (.int .i64 0), .s (.int .i64 0), .s (.int .i64 0), .s (.int .i64 0), .s (.int .i64 0), .s (.int .i64 0), .s (.bool false), .s (.bool false)] [(some (0, 1), (.s (.int .i64 1000))), (some (2, 1), (.s (.int .i64 50))), (some (3, 1), (.s (.int .i64 950))), (some (5, 1), (.s (.int .i64 1))), (some (6, 1), (.s (.int .i64 3))), (some (8, 1), (.s (.bool true)))] fun x46 =>
eqK P false 47 x45 x46 h42 fun x47 =>
grpK true x47 h42 (fun k48 =>
eqK P false 3 x6 (.s (.int .i64 (-1))) h42 fun x49 =>
k48 x49 h42) fun x50 h51 =>
grpK true x50 h51 (fun k52 =>
eqK P false 3 x18 (.s (.int .i64 1000)) h51 fun x53 =>
k52 x53 h51) fun x54 h55 =>
grpK true x54 h55 (fun k56 =>
eqK P false 3 x24 (.s (.int .i64 10)) h55 fun x57 =>
k56 x57 h55) fun x58 h59 =>
grpK true x58 h59 (fun k60 =>
eqK P false 3 x25 (.s (.int .i64 3)) h59 fun x61 =>
k60 x61 h59) fun x62 h63 =>
grpK true x62 h63 (fun k64 =>
ldK 4 true x35 h63 fun x65 =>
buildK [.s (.int .i64 0), .s (.int .i64 0), .s (.int .i64 0), .s (.int .i64 0)] [(some (0, 1), (.s (.int .i64 10))), (some (2, 1), (.s (.int .i64 40)))] fun x66 =>
eqK P false 35 x65 x66 h63 fun x67 =>
k64 x67 h63) fun x68 h69 =>
grpK true x68 h69 (fun k70 =>
lenK x43 fun x71 =>
eqK P false 3 x71 (.s (.int .i64 4)) h69 fun x72 =>
k70 x72 h69) fun x73 h74 =>
grpK true x73 h74 (fun k75 =>
arithK .add x7 x19 fun x76 =>
arithK .add x76 x26 fun x77 =>
arithK .add x77 x34 fun x78 =>
arithK .add x78 x44 fun x79 =>
eqK P false 28 x79 (.s (.int .i64 0)) h74 fun x80 =>
k75 x80 h74) fun x81 h82 =>
K x81 h82
theorem f_law45_awake_run (T : Tab) (D : DTab) (N : Nat) {β : Type} (K : AV → Hp → Option β) (h : Hp) : runK Tryz.prog T D N [0, 1, 2, 3, 4, 5, 6, 7, 8, 9, 10, 11, 12] Tryz.f5 K [] h = f_law45_awake Tryz.prog T D N K  h := by kernel_rfl
def f_law45_short (P : Program) (T : Tab) (D : DTab) (N : Nat) {β : Type} (K : AV → Hp → Option β) (a0 : AV) (h : Hp) : Option β :=
callK (T 22) [a0] h fun x1 h2 =>
grpK true x1 h2 (fun k3 =>
lenK a0 fun x4 =>
eqK P false 3 x4 (.s (.int .i64 0)) h2 fun x5 =>
grpK false x5 h2 (fun k6 =>
lenK a0 fun x7 =>
arithK .sub x7 (.s (.int .i64 1)) fun x8 =>
iaK 5 a0 x8 fun x9 =>
faK 0 x9 fun x10 =>
ldK 1 false x10 h2 fun x11 =>
arithK .leq x11 (.s (.int .i64 600)) fun x12 =>
k6 x12 h2) fun x13 h14 =>
grpK false x13 h14 (fun k15 =>
iaK 5 a0 (.s (.int .i64 0)) fun x16 =>
faK 0 x16 fun x17 =>
ldK 1 false x17 h14 fun x18 =>
lenK a0 fun x19 =>
arithK .sub x19 (.s (.int .i64 1)) fun x20 =>
iaK 5 a0 x20 fun x21 =>
faK 0 x21 fun x22 =>
ldK 1 false x22 h14 fun x23 =>
arithK .sub x23 (.s (.int .i64 600)) fun x24 =>
arithK .geq x18 x24 fun x25 =>
k15 x25 h14) fun x26 h27 =>
k3 x26 h27) fun x28 h29 =>
K x28 h29
theorem f_law45_short_run (T : Tab) (D : DTab) (N : Nat) {β : Type} (K : AV → Hp → Option β) (a0 : AV) (h : Hp) : runK Tryz.prog T D N [0, 2] Tryz.f6 K [a0] h = f_law45_short Tryz.prog T D N K a0 h := by kernel_rfl
def f_ref31_Few (P : Program) (T : Tab) (D : DTab) (N : Nat) {β : Type} (K : AV → Hp → Option β) (a0 : AV) (h : Hp) : Option β :=
lenK a0 fun x1 =>
arithK .leq x1 (.s (.int .i64 20)) fun x2 =>
grpK false x2 h (fun k3 =>
lenK a0 fun x4 =>
eqK P false 3 x4 (.s (.int .i64 129)) h fun x5 =>
k3 x5 h) fun x6 h7 =>
K x6 h7
theorem f_ref31_Few_run (T : Tab) (D : DTab) (N : Nat) {β : Type} (K : AV → Hp → Option β) (a0 : AV) (h : Hp) : runK Tryz.prog T D N [0, 2] Tryz.f7 K [a0] h = f_ref31_Few Tryz.prog T D N K a0 h := by kernel_rfl
def o_journey_Days_j2 (P : Program) (T : Tab) (D : DTab) (N : Nat) {β : Type} (K : AV → Hp → Option β) (t : Tm) (h : Hp) : Option β :=
iaK 5 (t 0) (.s (.int .i64 0)) fun x16 =>
faK 0 x16 fun x17 =>
ldK 1 false x17 h fun x18 =>
arithK .sub (t 7) x18 fun x19 =>
K (.tup [x19, (t 8), (.s (.int .i64 0))]) h
def o_journey_Days_j1 (P : Program) (T : Tab) (D : DTab) (N : Nat) {β : Type} (K : AV → Hp → Option β) (t : Tm) (h : Hp) : Option β :=
arithK .geq (t 9) (.s (.int .i64 0)) fun x20 =>
condK x20 (
arithK .sub (t 7) (t 9) fun x21 =>
arithK .add (t 8) x21 fun x22 =>
(o_journey_Days_j2 P T D N K (upd (upd t 68 x20) 8 x22) h)) (
(o_journey_Days_j2 P T D N K (upd t 68 x20) h))
def o_journey_Days_j3 (P : Program) (T : Tab) (D : DTab) (N : Nat) {β : Type} (K : AV → Hp → Option β) (t : Tm) (h : Hp) : Option β :=
(o_journey_Days_j1 P T D N K t h)
def o_journey_Days_j5 (P : Program) (T : Tab) (D : DTab) (N : Nat) {β : Type} (k : Ex → St → Option β) (t : Tm) (h : Hp) : Option β :=
arithK .add (t 35) (.s (.int .i64 1)) fun x25 =>
k .normal ((upd t 35 x25), h)
def o_journey_Days_j6 (P : Program) (T : Tab) (D : DTab) (N : Nat) {β : Type} (k : Ex → St → Option β) (t : Tm) (h : Hp) : Option β :=
(o_journey_Days_j5 P T D N k t h)
def o_journey_Days_j7 (P : Program) (T : Tab) (D : DTab) (N : Nat) {β : Type} (k : Ex → St → Option β) (t : Tm) (h : Hp) : Option β :=
(o_journey_Days_j6 P T D N k t h)
def o_journey_Days_L4 (P : Program) (T : Tab) (D : DTab) (N : Nat) {β : Type} (t : Tm) (h : Hp) (k : Ex → St → Option β) : Option β :=
arithK .lss (t 35) (t 34) fun x24 =>
condK x24 (
iaK 5 (t 33) (t 35) fun x26 =>
ldK 5 true x26 h fun x27 =>
effK (boxE 5 (.agg [.s (.int .i64 0), .s (.int .i64 0), .s (.int .i64 0), .s (.int .i64 0), .s (.int .i64 0)]) (List.length h)) h fun x28 h29 =>
effK (stE 5 x28 x27 h29) h29 fun x30 h31 =>
faK 0 x28 fun x32 =>
ldK 1 false x32 h31 fun x33 =>
arithK .gtr x33 (t 1) fun x34 =>
condK x34 (
k (.exit 1) ((upd (upd (upd t 36 x24) 11 x28) 39 x34), h31)) (
faK 1 x28 fun x35 =>
ldK 1 false x35 h31 fun x36 =>
eqK P false 3 x36 (.s (.int .i64 7)) h31 fun x37 =>
condK x37 (
faK 0 x28 fun x38 =>
ldK 1 false x38 h31 fun x39 =>
(o_journey_Days_j7 P T D N k (upd (upd (upd (upd (upd t 36 x24) 11 x28) 39 x34) 44 x37) 7 x39) h31)) (
faK 1 x28 fun x40 =>
ldK 1 false x40 h31 fun x41 =>
eqK P false 3 x41 (.s (.int .i64 2)) h31 fun x42 =>
condK x42 (
faK 0 x28 fun x43 =>
ldK 1 false x43 h31 fun x44 =>
(o_journey_Days_j7 P T D N k (upd (upd (upd (upd (upd (upd t 36 x24) 11 x28) 39 x34) 44 x37) 50 x42) 9 x44) h31)) (
faK 1 x28 fun x45 =>
ldK 1 false x45 h31 fun x46 =>
eqK P false 3 x46 (.s (.int .i64 3)) h31 fun x47 =>
condK x47 (
faK 0 x28 fun x48 =>
ldK 1 false x48 h31 fun x49 =>
arithK .add (t 8) x49 fun x50 =>
arithK .sub x50 (t 9) fun x51 =>
(o_journey_Days_j7 P T D N k (upd (upd (upd (upd (upd (upd (upd (upd t 36 x24) 11 x28) 39 x34) 44 x37) 50 x42) 56 x47) 8 x51) 9 (.s (.int .i64 (-1)))) h31)) (
(o_journey_Days_j7 P T D N k (upd (upd (upd (upd (upd (upd t 36 x24) 11 x28) 39 x34) 44 x37) 50 x42) 56 x47) h31)))))) (
k (.exit 1) ((upd t 36 x24), h))
def o_journey_Days_aL4 (P : Program) (T : Tab) (D : DTab) (N : Nat) {β : Type} (K : AV → Hp → Option β) (e : Ex) (s : St) : Option β :=
  e.on ((o_journey_Days_j3 P T D N K s.1 s.2))
  (fun i => bif i == 1 then ((o_journey_Days_j3 P T D N K s.1 s.2)) else (none))
  (K (.tup [(s.1 4), (s.1 5), (s.1 6)]) s.2)
def o_journey_Days_G (P : Program) (T : Tab) (D : DTab) (N : Nat) {β : Type} (cL4 : St → Option β) (K : AV → Hp → Option β) (a0 : AV) (a1 : AV) (h : Hp) :  Option β :=
callK (T 23) [a0] h fun x1 h2 =>
notK x1 fun x3 =>
condK x3 (
K (.tup [(.s (.int .i64 0)), (.s (.int .i64 0)), (.s (.int .i64 1))]) h2) (
callK (T 24) [a1, (.s (.int .i64 0)), (.s (.int .i64 100000))] h2 fun x4 h5 =>
notK x4 fun x6 =>
condK x6 (
K (.tup [(.s (.int .i64 0)), (.s (.int .i64 0)), (.s (.int .i64 2))]) h5) (
lenK a0 fun x7 =>
eqK P false 3 x7 (.s (.int .i64 0)) h5 fun x8 =>
grpK false x8 h5 (fun k9 =>
iaK 5 a0 (.s (.int .i64 0)) fun x10 =>
faK 0 x10 fun x11 =>
ldK 1 false x11 h5 fun x12 =>
arithK .gtr x12 a1 fun x13 =>
k9 x13 h5) fun x14 h15 =>
condK x14 (
K (.tup [(.s (.int .i64 0)), (.s (.int .i64 0)), (.s (.int .i64 0))]) h15) (
lenK a0 fun x23 =>
cL4 ((upd (upd (upd (upd (upd (upd (upd (upd (upd (upd (upd (upd (tm0 [a0, a1]) 4 (.s (.int .i64 0))) 5 (.s (.int .i64 0))) 6 (.s (.int .i64 0))) 12 x3) 16 x6) 20 x14) 7 a1) 8 (.s (.int .i64 0))) 9 (.s (.int .i64 (-1)))) 33 a0) 34 x23) 35 (.s (.int .i64 0))), h15))))
def o_journey_Days (P : Program) (T : Tab) (D : DTab) (N : Nat) {β : Type} (K : AV → Hp → Option β) (a0 : AV) (a1 : AV) (h : Hp) : Option β := o_journey_Days_G P T D N (fun s => iterK (fun s k => o_journey_Days_L4 P T D N s.1 s.2 k) N s (o_journey_Days_aL4 P T D N K)) K a0 a1 h
def f_journey_Days_j2 (P : Program) (T : Tab) (D : DTab) (N : Nat) {β : Type} (K : AV → Hp → Option β) (v0 : AV) (v7 : AV) (v8 : AV) (h : Hp) : Option β :=
iaK 5 v0 (.s (.int .i64 0)) fun x16 =>
faK 0 x16 fun x17 =>
ldK 1 false x17 h fun x18 =>
arithK .sub v7 x18 fun x19 =>
K (.tup [x19, v8, (.s (.int .i64 0))]) h
def f_journey_Days_j1 (P : Program) (T : Tab) (D : DTab) (N : Nat) {β : Type} (K : AV → Hp → Option β) (v0 : AV) (v7 : AV) (v8 : AV) (v9 : AV) (h : Hp) : Option β :=
arithK .geq v9 (.s (.int .i64 0)) fun x20 =>
condK x20 (
arithK .sub v7 v9 fun x21 =>
arithK .add v8 x21 fun x22 =>
f_journey_Days_j2 P T D N K v0 v7 x22 h) (
f_journey_Days_j2 P T D N K v0 v7 v8 h)
def f_journey_Days_j3 (P : Program) (T : Tab) (D : DTab) (N : Nat) {β : Type} (K : AV → Hp → Option β) (v0 : AV) (v7 : AV) (v8 : AV) (v9 : AV) (h : Hp) : Option β :=
f_journey_Days_j1 P T D N K v0 v7 v8 v9 h
def f_journey_Days_j5 (P : Program) (T : Tab) (D : DTab) (N : Nat) {β : Type} (xn : AV → AV → AV → AV → AV → AV → AV → AV → Hp → Option β) (x1 : AV → AV → AV → AV → Hp → Option β) (v0 : AV) (v1 : AV) (v7 : AV) (v8 : AV) (v9 : AV) (v33 : AV) (v34 : AV) (v35 : AV) (h : Hp) : Option β :=
arithK .add v35 (.s (.int .i64 1)) fun x25 =>
xn v0 v1 v7 v8 v9 v33 v34 x25 h
def f_journey_Days_j6 (P : Program) (T : Tab) (D : DTab) (N : Nat) {β : Type} (xn : AV → AV → AV → AV → AV → AV → AV → AV → Hp → Option β) (x1 : AV → AV → AV → AV → Hp → Option β) (v0 : AV) (v1 : AV) (v7 : AV) (v8 : AV) (v9 : AV) (v33 : AV) (v34 : AV) (v35 : AV) (h : Hp) : Option β :=
f_journey_Days_j5 P T D N xn x1 v0 v1 v7 v8 v9 v33 v34 v35 h
def f_journey_Days_j7 (P : Program) (T : Tab) (D : DTab) (N : Nat) {β : Type} (xn : AV → AV → AV → AV → AV → AV → AV → AV → Hp → Option β) (x1 : AV → AV → AV → AV → Hp → Option β) (v0 : AV) (v1 : AV) (v7 : AV) (v8 : AV) (v9 : AV) (v33 : AV) (v34 : AV) (v35 : AV) (h : Hp) : Option β :=
f_journey_Days_j6 P T D N xn x1 v0 v1 v7 v8 v9 v33 v34 v35 h
def f_journey_Days_b4 (P : Program) (T : Tab) (D : DTab) (N : Nat) {β : Type} (xn : AV → AV → AV → AV → AV → AV → AV → AV → Hp → Option β) (x1 : AV → AV → AV → AV → Hp → Option β) (v0 : AV) (v1 : AV) (v7 : AV) (v8 : AV) (v9 : AV) (v33 : AV) (v34 : AV) (v35 : AV) (h : Hp) : Option β :=
arithK .lss v35 v34 fun x24 =>
condK x24 (
iaK 5 v33 v35 fun x26 =>
ldK 5 true x26 h fun x27 =>
effK (boxE 5 (.agg [.s (.int .i64 0), .s (.int .i64 0), .s (.int .i64 0), .s (.int .i64 0), .s (.int .i64 0)]) (List.length h)) h fun x28 h29 =>
effK (stE 5 x28 x27 h29) h29 fun x30 h31 =>
faK 0 x28 fun x32 =>
ldK 1 false x32 h31 fun x33 =>
arithK .gtr x33 v1 fun x34 =>
condK x34 (
x1 v0 v7 v8 v9 h31) (
faK 1 x28 fun x35 =>
ldK 1 false x35 h31 fun x36 =>
eqK P false 3 x36 (.s (.int .i64 7)) h31 fun x37 =>
condK x37 (
faK 0 x28 fun x38 =>
ldK 1 false x38 h31 fun x39 =>
f_journey_Days_j7 P T D N xn x1 v0 v1 x39 v8 v9 v33 v34 v35 h31) (
faK 1 x28 fun x40 =>
ldK 1 false x40 h31 fun x41 =>
eqK P false 3 x41 (.s (.int .i64 2)) h31 fun x42 =>
condK x42 (
faK 0 x28 fun x43 =>
ldK 1 false x43 h31 fun x44 =>
f_journey_Days_j7 P T D N xn x1 v0 v1 v7 v8 x44 v33 v34 v35 h31) (
faK 1 x28 fun x45 =>
ldK 1 false x45 h31 fun x46 =>
eqK P false 3 x46 (.s (.int .i64 3)) h31 fun x47 =>
condK x47 (
faK 0 x28 fun x48 =>
ldK 1 false x48 h31 fun x49 =>
arithK .add v8 x49 fun x50 =>
arithK .sub x50 v9 fun x51 =>
f_journey_Days_j7 P T D N xn x1 v0 v1 v7 x51 (.s (.int .i64 (-1))) v33 v34 v35 h31) (
f_journey_Days_j7 P T D N xn x1 v0 v1 v7 v8 v9 v33 v34 v35 h31))))) (
x1 v0 v7 v8 v9 h)
def f_journey_Days_L4 (P : Program) (T : Tab) (D : DTab) (N : Nat) {β : Type} (x1 : AV → AV → AV → AV → Hp → Option β) : Nat → AV → AV → AV → AV → AV → AV → AV → AV → Hp → Option β
  | 0 => fun _ _ _ _ _ _ _ _ _ => none
  | n + 1 => fun v0 v1 v7 v8 v9 v33 v34 v35 h => f_journey_Days_b4 P T D N (f_journey_Days_L4 P T D N x1 n) x1 v0 v1 v7 v8 v9 v33 v34 v35 h
def f_journey_Days (P : Program) (T : Tab) (D : DTab) (N : Nat) {β : Type} (K : AV → Hp → Option β) (a0 : AV) (a1 : AV) (h : Hp) : Option β :=
callK (T 23) [a0] h fun x1 h2 =>
notK x1 fun x3 =>
condK x3 (
K (.tup [(.s (.int .i64 0)), (.s (.int .i64 0)), (.s (.int .i64 1))]) h2) (
callK (T 24) [a1, (.s (.int .i64 0)), (.s (.int .i64 100000))] h2 fun x4 h5 =>
notK x4 fun x6 =>
condK x6 (
K (.tup [(.s (.int .i64 0)), (.s (.int .i64 0)), (.s (.int .i64 2))]) h5) (
lenK a0 fun x7 =>
eqK P false 3 x7 (.s (.int .i64 0)) h5 fun x8 =>
grpK false x8 h5 (fun k9 =>
iaK 5 a0 (.s (.int .i64 0)) fun x10 =>
faK 0 x10 fun x11 =>
ldK 1 false x11 h5 fun x12 =>
arithK .gtr x12 a1 fun x13 =>
k9 x13 h5) fun x14 h15 =>
condK x14 (
K (.tup [(.s (.int .i64 0)), (.s (.int .i64 0)), (.s (.int .i64 0))]) h15) (
lenK a0 fun x23 =>
f_journey_Days_L4 P T D N (fun w52_0 w52_7 w52_8 w52_9 h => f_journey_Days_j3 P T D N K w52_0 w52_7 w52_8 w52_9 h) N a0 a1 a1 (.s (.int .i64 0)) (.s (.int .i64 (-1))) a0 x23 (.s (.int .i64 0)) h15)))
theorem f_journey_Days_b4_eq (P : Program) (T : Tab) (D : DTab) (N : Nat) {β : Type} (xn : AV → AV → AV → AV → AV → AV → AV → AV → Hp → Option β) (x1 : AV → AV → AV → AV → Hp → Option β) (xd : Nat → St → Option β) (xq : St → Option β) (t : Tm) (h : Hp) : o_journey_Days_L4 P T D N t h (fun (e : Ex) (s : St) => e.on (xn (s.1 0) (s.1 1) (s.1 7) (s.1 8) (s.1 9) (s.1 33) (s.1 34) (s.1 35) s.2) (fun i => (bif i == 1 then x1 (s.1 0) (s.1 7) (s.1 8) (s.1 9) s.2 else (xd i s))) (xq s)) = f_journey_Days_b4 P T D N xn x1 (t 0) (t 1) (t 7) (t 8) (t 9) (t 33) (t 34) (t 35) h := by kernel_rfl
theorem f_journey_Days_L4_eq (P : Program) (T : Tab) (D : DTab) (N : Nat) {β : Type} (A : Ex → St → Option β) (x1 : AV → AV → AV → AV → Hp → Option β) (q1 : ∀ s, A (.exit 1) s = x1 (s.1 0) (s.1 7) (s.1 8) (s.1 9) s.2) : ∀ (n : Nat) (s : St), iterK (fun s k => o_journey_Days_L4 P T D N s.1 s.2 k) n s A = f_journey_Days_L4 P T D N x1 n (s.1 0) (s.1 1) (s.1 7) (s.1 8) (s.1 9) (s.1 33) (s.1 34) (s.1 35) s.2 := by
  intro n
  induction n with
  | zero => intro s; rfl
  | succ n ih =>
    intro s
    have hk : (fun (e : Ex) (s' : St) => Ex.on e (iterK (fun s k => o_journey_Days_L4 P T D N s.1 s.2 k) n s' A) (fun i => A (.exit i) s') (A .ret s')) = (fun (e : Ex) (s : St) => e.on ((f_journey_Days_L4 P T D N x1 n) (s.1 0) (s.1 1) (s.1 7) (s.1 8) (s.1 9) (s.1 33) (s.1 34) (s.1 35) s.2) (fun i => (bif i == 1 then x1 (s.1 0) (s.1 7) (s.1 8) (s.1 9) s.2 else (A (.exit i) s))) (A .ret s)) := by
      funext e s'
      cases e with
      | normal => exact ih s'
      | ret => exact rfl
      | exit i =>
        by_cases r1 : i = 1
        · subst r1; exact q1 s'
        simp only [Ex.on, beq_false_of_ne r1, cond_false]
    show o_journey_Days_L4 P T D N s.1 s.2 (fun (e : Ex) (s' : St) => Ex.on e (iterK (fun s k => o_journey_Days_L4 P T D N s.1 s.2 k) n s' A) (fun i => A (.exit i) s') (A .ret s')) = _
    rw [hk]
    exact f_journey_Days_b4_eq P T D N (f_journey_Days_L4 P T D N x1 n) x1 (fun i s => A (.exit i) s) (fun s => A .ret s) s.1 s.2
theorem f_journey_Days_old_eq (P : Program) (T : Tab) (D : DTab) (N : Nat) {β : Type} (K : AV → Hp → Option β) (a0 : AV) (a1 : AV) (h : Hp) : o_journey_Days P T D N K a0 a1 h = f_journey_Days P T D N K a0 a1 h := by
  have eL4 : (fun s : St => iterK (fun s k => o_journey_Days_L4 P T D N s.1 s.2 k) N s (o_journey_Days_aL4 P T D N K)) = (fun s : St => f_journey_Days_L4 P T D N (fun w52_0 w52_7 w52_8 w52_9 h => f_journey_Days_j3 P T D N K w52_0 w52_7 w52_8 w52_9 h) N (s.1 0) (s.1 1) (s.1 7) (s.1 8) (s.1 9) (s.1 33) (s.1 34) (s.1 35) s.2) := funext fun s => f_journey_Days_L4_eq P T D N (o_journey_Days_aL4 P T D N K) (fun w52_0 w52_7 w52_8 w52_9 h => f_journey_Days_j3 P T D N K w52_0 w52_7 w52_8 w52_9 h) (fun s => rfl) N s
  show o_journey_Days_G P T D N (fun s => iterK (fun s k => o_journey_Days_L4 P T D N s.1 s.2 k) N s (o_journey_Days_aL4 P T D N K)) K a0 a1 h = _
  rw [eL4]
  kernel_rfl
theorem o_journey_Days_run (T : Tab) (D : DTab) (N : Nat) {β : Type} (K : AV → Hp → Option β) (a0 : AV) (a1 : AV) (h : Hp) : runK Tryz.prog T D N [0, 1, 4, 5, 6, 7, 8, 9, 11, 12, 16, 20, 33, 34, 35, 36, 39, 44, 50, 56, 68] Tryz.f8 K [a0, a1] h = o_journey_Days Tryz.prog T D N K a0 a1 h := by kernel_rfl
theorem f_journey_Days_run (T : Tab) (D : DTab) (N : Nat) {β : Type} (K : AV → Hp → Option β) (a0 : AV) (a1 : AV) (h : Hp) : runK Tryz.prog T D N [0, 1, 4, 5, 6, 7, 8, 9, 11, 12, 16, 20, 33, 34, 35, 36, 39, 44, 50, 56, 68] Tryz.f8 K [a0, a1] h = f_journey_Days Tryz.prog T D N K a0 a1 h := (o_journey_Days_run T D N K a0 a1 h).trans (f_journey_Days_old_eq Tryz.prog T D N K a0 a1 h)
def f_slices_Clone_Leg (P : Program) (T : Tab) (D : DTab) (N : Nat) {β : Type} (K : AV → Hp → Option β) (a0 : AV) (h : Hp) : Option β :=
eqK P false 22 a0 (.s (.slice none 0 0)) h fun x1 =>
condK x1 (
K (.s (.slice none 0 0)) h) (
effK (bsE 5 [.s (.int .i64 0), .s (.int .i64 0), .s (.int .i64 0), .s (.int .i64 0), .s (.int .i64 0)] 0 [] (List.length h)) h fun x2 h3 =>
effK (appE 5 40 x2 a0 h3 (List.length h3)) h3 fun x4 h5 =>
K x4 h5)
theorem f_slices_Clone_Leg_run (T : Tab) (D : DTab) (N : Nat) {β : Type} (K : AV → Hp → Option β) (a0 : AV) (h : Hp) : runK Tryz.prog T D N [0, 2, 4] Tryz.f9 K [a0] h = f_slices_Clone_Leg Tryz.prog T D N K a0 h := by kernel_rfl
def o_ref45_Days_j2 (P : Program) (T : Tab) (D : DTab) (N : Nat) {β : Type} (K : AV → Hp → Option β) (t : Tm) (h : Hp) : Option β :=
iaK 5 (t 0) (.s (.int .i64 0)) fun x16 =>
faK 0 x16 fun x17 =>
ldK 1 false x17 h fun x18 =>
arithK .sub (t 7) x18 fun x19 =>
K (.tup [x19, (t 9), (.s (.int .i64 0))]) h
def o_ref45_Days_j4 (P : Program) (T : Tab) (D : DTab) (N : Nat) {β : Type} (k : Ex → St → Option β) (t : Tm) (h : Hp) : Option β :=
arithK .add (t 10) (.s (.int .i64 1)) fun x22 =>
k .normal ((upd t 10 x22), h)
def o_ref45_Days_j5 (P : Program) (T : Tab) (D : DTab) (N : Nat) {β : Type} (k : Ex → St → Option β) (t : Tm) (h : Hp) : Option β :=
(o_ref45_Days_j4 P T D N k t h)
def o_ref45_Days_j6 (P : Program) (T : Tab) (D : DTab) (N : Nat) {β : Type} (k : Ex → St → Option β) (t : Tm) (h : Hp) : Option β :=
iaK 5 (t 0) (t 10) fun x29 =>
faK 0 x29 fun x30 =>
ldK 1 false x30 h fun x31 =>
arithK .sub (t 11) x31 fun x32 =>
maxK (.s (.int .i64 0)) x32 fun x33 =>
arithK .add (t 9) x33 fun x34 =>
(o_ref45_Days_j5 P T D N k (upd t 9 x34) h)
def o_ref45_Days_j8 (P : Program) (T : Tab) (D : DTab) (N : Nat) {β : Type} (k : Ex → St → Option β) (t : Tm) (h : Hp) : Option β :=
arithK .sub (t 12) (.s (.int .i64 1)) fun x36 =>
k .normal ((upd t 12 x36), h)
def o_ref45_Days_j9 (P : Program) (T : Tab) (D : DTab) (N : Nat) {β : Type} (k : Ex → St → Option β) (t : Tm) (h : Hp) : Option β :=
(o_ref45_Days_j8 P T D N k t h)
def o_ref45_Days_L7 (P : Program) (T : Tab) (D : DTab) (N : Nat) {β : Type} (t : Tm) (h : Hp) (k : Ex → St → Option β) : Option β :=
arithK .gtr (t 12) (t 10) fun x35 =>
condK x35 (
iaK 5 (t 0) (t 12) fun x37 =>
faK 1 x37 fun x38 =>
ldK 1 false x38 h fun x39 =>
eqK P false 3 x39 (.s (.int .i64 3)) h fun x40 =>
condK x40 (
iaK 5 (t 0) (t 12) fun x41 =>
faK 0 x41 fun x42 =>
ldK 1 false x42 h fun x43 =>
minK (t 7) x43 fun x44 =>
(o_ref45_Days_j9 P T D N k (upd (upd (upd t 62 x35) 70 x40) 11 x44) h)) (
(o_ref45_Days_j9 P T D N k (upd (upd t 62 x35) 70 x40) h))) (
k (.exit 2) ((upd t 62 x35), h))
def o_ref45_Days_aL7 (P : Program) (T : Tab) (D : DTab) (N : Nat) {β : Type} (k : Ex → St → Option β) (e : Ex) (s : St) : Option β :=
  e.on ((o_ref45_Days_j6 P T D N k s.1 s.2))
  (fun i => bif i == 2 then ((o_ref45_Days_j6 P T D N k s.1 s.2)) else (bif i == 1 then ((o_ref45_Days_j5 P T D N k s.1 s.2)) else (k (.exit i) (s.1, s.2))))
  (k .ret (s.1, s.2))
def o_ref45_Days_L3_G (P : Program) (T : Tab) (D : DTab) (N : Nat) {β : Type} (cL7 : St → Option β) (cj5 : St → Option β) (t : Tm) (h : Hp) (k : Ex → St → Option β) :  Option β :=
lenK (t 0) fun x20 =>
arithK .lss (t 10) x20 fun x21 =>
condK x21 (
iaK 5 (t 0) (t 10) fun x23 =>
faK 1 x23 fun x24 =>
ldK 1 false x24 h fun x25 =>
eqK P true 3 x25 (.s (.int .i64 2)) h fun x26 =>
condK x26 (
cj5 ((upd (upd t 47 x21) 55 x26), h)) (
lenK (t 0) fun x27 =>
arithK .sub x27 (.s (.int .i64 1)) fun x28 =>
cL7 ((upd (upd (upd (upd t 47 x21) 55 x26) 11 (t 7)) 12 x28), h))) (
k (.exit 0) ((upd t 47 x21), h))
def o_ref45_Days_L3 (P : Program) (T : Tab) (D : DTab) (N : Nat) {β : Type} (t : Tm) (h : Hp) (k : Ex → St → Option β) : Option β := o_ref45_Days_L3_G P T D N (fun s => iterK (fun s k => o_ref45_Days_L7 P T D N s.1 s.2 k) N s (o_ref45_Days_aL7 P T D N k)) (fun s => (o_ref45_Days_j5 P T D N k s.1 s.2)) t h k
def o_ref45_Days_aL3 (P : Program) (T : Tab) (D : DTab) (N : Nat) {β : Type} (K : AV → Hp → Option β) (e : Ex) (s : St) : Option β :=
  e.on ((o_ref45_Days_j2 P T D N K s.1 s.2))
  (fun i => bif i == 0 then ((o_ref45_Days_j2 P T D N K s.1 s.2)) else (none))
  (K (.tup [(s.1 4), (s.1 5), (s.1 6)]) s.2)
def o_ref45_Days_j1_G (P : Program) (T : Tab) (D : DTab) (N : Nat) {β : Type} (cL3 : St → Option β) (K : AV → Hp → Option β) (t : Tm) (h : Hp) :  Option β :=
cL3 ((upd (upd t 9 (.s (.int .i64 0))) 10 (.s (.int .i64 0))), h)
def o_ref45_Days_j1 (P : Program) (T : Tab) (D : DTab) (N : Nat) {β : Type} (K : AV → Hp → Option β) (t : Tm) (h : Hp) : Option β := o_ref45_Days_j1_G P T D N (fun s => iterK (fun s k => o_ref45_Days_L3 P T D N s.1 s.2 k) N s (o_ref45_Days_aL3 P T D N K)) K t h
def o_ref45_Days_G (P : Program) (T : Tab) (D : DTab) (N : Nat) {β : Type} (cj1 : St → Option β) (K : AV → Hp → Option β) (a0 : AV) (a1 : AV) (h : Hp) :  Option β :=
callK (T 25) [a0] h fun x1 h2 =>
notK x1 fun x3 =>
condK x3 (
K (.tup [(.s (.int .i64 0)), (.s (.int .i64 0)), (.s (.int .i64 1))]) h2) (
callK (T 26) [a1] h2 fun x4 h5 =>
notK x4 fun x6 =>
condK x6 (
K (.tup [(.s (.int .i64 0)), (.s (.int .i64 0)), (.s (.int .i64 2))]) h5) (
lenK a0 fun x7 =>
eqK P false 3 x7 (.s (.int .i64 0)) h5 fun x8 =>
grpK false x8 h5 (fun k9 =>
iaK 5 a0 (.s (.int .i64 0)) fun x10 =>
faK 0 x10 fun x11 =>
ldK 1 false x11 h5 fun x12 =>
arithK .gtr x12 a1 fun x13 =>
k9 x13 h5) fun x14 h15 =>
condK x14 (
K (.tup [(.s (.int .i64 0)), (.s (.int .i64 0)), (.s (.int .i64 0))]) h15) (
lenK a0 fun x45 =>
arithK .sub x45 (.s (.int .i64 1)) fun x46 =>
iaK 5 a0 x46 fun x47 =>
ldK 5 true x47 h15 fun x48 =>
effK (boxE 5 (.agg [.s (.int .i64 0), .s (.int .i64 0), .s (.int .i64 0), .s (.int .i64 0), .s (.int .i64 0)]) (List.length h15)) h15 fun x49 h50 =>
effK (stE 5 x49 x48 h50) h50 fun x51 h52 =>
faK 1 x49 fun x53 =>
ldK 1 false x53 h52 fun x54 =>
eqK P false 3 x54 (.s (.int .i64 7)) h52 fun x55 =>
condK x55 (
faK 0 x49 fun x56 =>
ldK 1 false x56 h52 fun x57 =>
minK a1 x57 fun x58 =>
cj1 ((upd (upd (upd (upd (upd (upd (upd (upd (upd (upd (tm0 [a0, a1]) 4 (.s (.int .i64 0))) 5 (.s (.int .i64 0))) 6 (.s (.int .i64 0))) 15 x3) 18 x6) 29 x14) 7 a1) 8 x49) 39 x55) 7 x58), h52)) (
cj1 ((upd (upd (upd (upd (upd (upd (upd (upd (upd (tm0 [a0, a1]) 4 (.s (.int .i64 0))) 5 (.s (.int .i64 0))) 6 (.s (.int .i64 0))) 15 x3) 18 x6) 29 x14) 7 a1) 8 x49) 39 x55), h52)))))
def o_ref45_Days (P : Program) (T : Tab) (D : DTab) (N : Nat) {β : Type} (K : AV → Hp → Option β) (a0 : AV) (a1 : AV) (h : Hp) : Option β := o_ref45_Days_G P T D N (fun s => (o_ref45_Days_j1 P T D N K s.1 s.2)) K a0 a1 h
def f_ref45_Days_j2 (P : Program) (T : Tab) (D : DTab) (N : Nat) {β : Type} (K : AV → Hp → Option β) (v0 : AV) (v7 : AV) (v9 : AV) (h : Hp) : Option β :=
iaK 5 v0 (.s (.int .i64 0)) fun x16 =>
faK 0 x16 fun x17 =>
ldK 1 false x17 h fun x18 =>
arithK .sub v7 x18 fun x19 =>
K (.tup [x19, v9, (.s (.int .i64 0))]) h
def f_ref45_Days_j4 (P : Program) (T : Tab) (D : DTab) (N : Nat) {β : Type} (xn : AV → AV → AV → AV → Hp → Option β) (x0 : AV → AV → AV → Hp → Option β) (v0 : AV) (v7 : AV) (v9 : AV) (v10 : AV) (h : Hp) : Option β :=
arithK .add v10 (.s (.int .i64 1)) fun x22 =>
xn v0 v7 v9 x22 h
def f_ref45_Days_j5 (P : Program) (T : Tab) (D : DTab) (N : Nat) {β : Type} (xn : AV → AV → AV → AV → Hp → Option β) (x0 : AV → AV → AV → Hp → Option β) (v0 : AV) (v7 : AV) (v9 : AV) (v10 : AV) (h : Hp) : Option β :=
f_ref45_Days_j4 P T D N xn x0 v0 v7 v9 v10 h
def f_ref45_Days_j6 (P : Program) (T : Tab) (D : DTab) (N : Nat) {β : Type} (xn : AV → AV → AV → AV → Hp → Option β) (x0 : AV → AV → AV → Hp → Option β) (v0 : AV) (v7 : AV) (v9 : AV) (v10 : AV) (v11 : AV) (h : Hp) : Option β :=
iaK 5 v0 v10 fun x29 =>
faK 0 x29 fun x30 =>
ldK 1 false x30 h fun x31 =>
arithK .sub v11 x31 fun x32 =>
maxK (.s (.int .i64 0)) x32 fun x33 =>
arithK .add v9 x33 fun x34 =>
f_ref45_Days_j5 P T D N xn x0 v0 v7 x34 v10 h
def f_ref45_Days_j8 (P : Program) (T : Tab) (D : DTab) (N : Nat) {β : Type} (xn : AV → AV → AV → AV → AV → AV → Hp → Option β) (x2 : AV → AV → AV → AV → AV → Hp → Option β) (v0 : AV) (v7 : AV) (v9 : AV) (v10 : AV) (v11 : AV) (v12 : AV) (h : Hp) : Option β :=
arithK .sub v12 (.s (.int .i64 1)) fun x36 =>
xn v0 v7 v9 v10 v11 x36 h
def f_ref45_Days_j9 (P : Program) (T : Tab) (D : DTab) (N : Nat) {β : Type} (xn : AV → AV → AV → AV → AV → AV → Hp → Option β) (x2 : AV → AV → AV → AV → AV → Hp → Option β) (v0 : AV) (v7 : AV) (v9 : AV) (v10 : AV) (v11 : AV) (v12 : AV) (h : Hp) : Option β :=
f_ref45_Days_j8 P T D N xn x2 v0 v7 v9 v10 v11 v12 h
def f_ref45_Days_b7 (P : Program) (T : Tab) (D : DTab) (N : Nat) {β : Type} (xn : AV → AV → AV → AV → AV → AV → Hp → Option β) (x2 : AV → AV → AV → AV → AV → Hp → Option β) (v0 : AV) (v7 : AV) (v9 : AV) (v10 : AV) (v11 : AV) (v12 : AV) (h : Hp) : Option β :=
arithK .gtr v12 v10 fun x35 =>
condK x35 (
iaK 5 v0 v12 fun x37 =>
faK 1 x37 fun x38 =>
ldK 1 false x38 h fun x39 =>
eqK P false 3 x39 (.s (.int .i64 3)) h fun x40 =>
condK x40 (
iaK 5 v0 v12 fun x41 =>
faK 0 x41 fun x42 =>
ldK 1 false x42 h fun x43 =>
minK v7 x43 fun x44 =>
f_ref45_Days_j9 P T D N xn x2 v0 v7 v9 v10 x44 v12 h) (
f_ref45_Days_j9 P T D N xn x2 v0 v7 v9 v10 v11 v12 h)) (
x2 v0 v7 v9 v10 v11 h)
def f_ref45_Days_L7 (P : Program) (T : Tab) (D : DTab) (N : Nat) {β : Type} (x2 : AV → AV → AV → AV → AV → Hp → Option β) : Nat → AV → AV → AV → AV → AV → AV → Hp → Option β
  | 0 => fun _ _ _ _ _ _ _ => none
  | n + 1 => fun v0 v7 v9 v10 v11 v12 h => f_ref45_Days_b7 P T D N (f_ref45_Days_L7 P T D N x2 n) x2 v0 v7 v9 v10 v11 v12 h
def f_ref45_Days_b3 (P : Program) (T : Tab) (D : DTab) (N : Nat) {β : Type} (xn : AV → AV → AV → AV → Hp → Option β) (x0 : AV → AV → AV → Hp → Option β) (v0 : AV) (v7 : AV) (v9 : AV) (v10 : AV) (h : Hp) : Option β :=
lenK v0 fun x20 =>
arithK .lss v10 x20 fun x21 =>
condK x21 (
iaK 5 v0 v10 fun x23 =>
faK 1 x23 fun x24 =>
ldK 1 false x24 h fun x25 =>
eqK P true 3 x25 (.s (.int .i64 2)) h fun x26 =>
condK x26 (
f_ref45_Days_j5 P T D N xn x0 v0 v7 v9 v10 h) (
lenK v0 fun x27 =>
arithK .sub x27 (.s (.int .i64 1)) fun x28 =>
f_ref45_Days_L7 P T D N (fun w45_0 w45_7 w45_9 w45_10 w45_11 h => f_ref45_Days_j6 P T D N xn x0 w45_0 w45_7 w45_9 w45_10 w45_11 h) N v0 v7 v9 v10 v7 x28 h)) (
x0 v0 v7 v9 h)
def f_ref45_Days_L3 (P : Program) (T : Tab) (D : DTab) (N : Nat) {β : Type} (x0 : AV → AV → AV → Hp → Option β) : Nat → AV → AV → AV → AV → Hp → Option β
  | 0 => fun _ _ _ _ _ => none
  | n + 1 => fun v0 v7 v9 v10 h => f_ref45_Days_b3 P T D N (f_ref45_Days_L3 P T D N x0 n) x0 v0 v7 v9 v10 h
def f_ref45_Days_j1 (P : Program) (T : Tab) (D : DTab) (N : Nat) {β : Type} (K : AV → Hp → Option β) (v0 : AV) (v7 : AV) (h : Hp) : Option β :=
f_ref45_Days_L3 P T D N (fun w46_0 w46_7 w46_9 h => f_ref45_Days_j2 P T D N K w46_0 w46_7 w46_9 h) N v0 v7 (.s (.int .i64 0)) (.s (.int .i64 0)) h
def f_ref45_Days (P : Program) (T : Tab) (D : DTab) (N : Nat) {β : Type} (K : AV → Hp → Option β) (a0 : AV) (a1 : AV) (h : Hp) : Option β :=
callK (T 25) [a0] h fun x1 h2 =>
notK x1 fun x3 =>
condK x3 (
K (.tup [(.s (.int .i64 0)), (.s (.int .i64 0)), (.s (.int .i64 1))]) h2) (
callK (T 26) [a1] h2 fun x4 h5 =>
notK x4 fun x6 =>
condK x6 (
K (.tup [(.s (.int .i64 0)), (.s (.int .i64 0)), (.s (.int .i64 2))]) h5) (
lenK a0 fun x7 =>
eqK P false 3 x7 (.s (.int .i64 0)) h5 fun x8 =>
grpK false x8 h5 (fun k9 =>
iaK 5 a0 (.s (.int .i64 0)) fun x10 =>
faK 0 x10 fun x11 =>
ldK 1 false x11 h5 fun x12 =>
arithK .gtr x12 a1 fun x13 =>
k9 x13 h5) fun x14 h15 =>
condK x14 (
K (.tup [(.s (.int .i64 0)), (.s (.int .i64 0)), (.s (.int .i64 0))]) h15) (
lenK a0 fun x47 =>
arithK .sub x47 (.s (.int .i64 1)) fun x48 =>
iaK 5 a0 x48 fun x49 =>
ldK 5 true x49 h15 fun x50 =>
effK (boxE 5 (.agg [.s (.int .i64 0), .s (.int .i64 0), .s (.int .i64 0), .s (.int .i64 0), .s (.int .i64 0)]) (List.length h15)) h15 fun x51 h52 =>
effK (stE 5 x51 x50 h52) h52 fun x53 h54 =>
faK 1 x51 fun x55 =>
ldK 1 false x55 h54 fun x56 =>
eqK P false 3 x56 (.s (.int .i64 7)) h54 fun x57 =>
condK x57 (
faK 0 x51 fun x58 =>
ldK 1 false x58 h54 fun x59 =>
minK a1 x59 fun x60 =>
f_ref45_Days_j1 P T D N K a0 x60 h54) (
f_ref45_Days_j1 P T D N K a0 a1 h54))))
theorem f_ref45_Days_j5_eq (P : Program) (T : Tab) (D : DTab) (N : Nat) {β : Type} (xn : AV → AV → AV → AV → Hp → Option β) (x0 : AV → AV → AV → Hp → Option β) (xd : Nat → St → Option β) (xq : St → Option β) (t : Tm) (h : Hp) : o_ref45_Days_j5 P T D N (fun (e : Ex) (s : St) => e.on (xn (s.1 0) (s.1 7) (s.1 9) (s.1 10) s.2) (fun i => (bif i == 0 then x0 (s.1 0) (s.1 7) (s.1 9) s.2 else (xd i s))) (xq s)) t h = f_ref45_Days_j5 P T D N xn x0 (t 0) (t 7) (t 9) (t 10) h := by kernel_rfl
theorem f_ref45_Days_b7_eq (P : Program) (T : Tab) (D : DTab) (N : Nat) {β : Type} (xn : AV → AV → AV → AV → AV → AV → Hp → Option β) (x2 : AV → AV → AV → AV → AV → Hp → Option β) (xd : Nat → St → Option β) (xq : St → Option β) (t : Tm) (h : Hp) : o_ref45_Days_L7 P T D N t h (fun (e : Ex) (s : St) => e.on (xn (s.1 0) (s.1 7) (s.1 9) (s.1 10) (s.1 11) (s.1 12) s.2) (fun i => (bif i == 2 then x2 (s.1 0) (s.1 7) (s.1 9) (s.1 10) (s.1 11) s.2 else (xd i s))) (xq s)) = f_ref45_Days_b7 P T D N xn x2 (t 0) (t 7) (t 9) (t 10) (t 11) (t 12) h := by kernel_rfl
theorem f_ref45_Days_L7_eq (P : Program) (T : Tab) (D : DTab) (N : Nat) {β : Type} (A : Ex → St → Option β) (x2 : AV → AV → AV → AV → AV → Hp → Option β) (q2 : ∀ s, A (.exit 2) s = x2 (s.1 0) (s.1 7) (s.1 9) (s.1 10) (s.1 11) s.2) : ∀ (n : Nat) (s : St), iterK (fun s k => o_ref45_Days_L7 P T D N s.1 s.2 k) n s A = f_ref45_Days_L7 P T D N x2 n (s.1 0) (s.1 7) (s.1 9) (s.1 10) (s.1 11) (s.1 12) s.2 := by
  intro n
  induction n with
  | zero => intro s; rfl
  | succ n ih =>
    intro s
    have hk : (fun (e : Ex) (s' : St) => Ex.on e (iterK (fun s k => o_ref45_Days_L7 P T D N s.1 s.2 k) n s' A) (fun i => A (.exit i) s') (A .ret s')) = (fun (e : Ex) (s : St) => e.on ((f_ref45_Days_L7 P T D N x2 n) (s.1 0) (s.1 7) (s.1 9) (s.1 10) (s.1 11) (s.1 12) s.2) (fun i => (bif i == 2 then x2 (s.1 0) (s.1 7) (s.1 9) (s.1 10) (s.1 11) s.2 else (A (.exit i) s))) (A .ret s)) := by
      funext e s'
      cases e with
      | normal => exact ih s'
      | ret => exact rfl
      | exit i =>
        by_cases r2 : i = 2
        · subst r2; exact q2 s'
        simp only [Ex.on, beq_false_of_ne r2, cond_false]
    show o_ref45_Days_L7 P T D N s.1 s.2 (fun (e : Ex) (s' : St) => Ex.on e (iterK (fun s k => o_ref45_Days_L7 P T D N s.1 s.2 k) n s' A) (fun i => A (.exit i) s') (A .ret s')) = _
    rw [hk]
    exact f_ref45_Days_b7_eq P T D N (f_ref45_Days_L7 P T D N x2 n) x2 (fun i s => A (.exit i) s) (fun s => A .ret s) s.1 s.2
theorem f_ref45_Days_b3_eq (P : Program) (T : Tab) (D : DTab) (N : Nat) {β : Type} (xn : AV → AV → AV → AV → Hp → Option β) (x0 : AV → AV → AV → Hp → Option β) (xd : Nat → St → Option β) (xq : St → Option β) (t : Tm) (h : Hp) : o_ref45_Days_L3 P T D N t h (fun (e : Ex) (s : St) => e.on (xn (s.1 0) (s.1 7) (s.1 9) (s.1 10) s.2) (fun i => (bif i == 0 then x0 (s.1 0) (s.1 7) (s.1 9) s.2 else (xd i s))) (xq s)) = f_ref45_Days_b3 P T D N xn x0 (t 0) (t 7) (t 9) (t 10) h := by
  have eL7 : (fun s : St => iterK (fun s k => o_ref45_Days_L7 P T D N s.1 s.2 k) N s (o_ref45_Days_aL7 P T D N (fun (e : Ex) (s : St) => e.on (xn (s.1 0) (s.1 7) (s.1 9) (s.1 10) s.2) (fun i => (bif i == 0 then x0 (s.1 0) (s.1 7) (s.1 9) s.2 else (xd i s))) (xq s)))) = (fun s : St => f_ref45_Days_L7 P T D N (fun w45_0 w45_7 w45_9 w45_10 w45_11 h => f_ref45_Days_j6 P T D N xn x0 w45_0 w45_7 w45_9 w45_10 w45_11 h) N (s.1 0) (s.1 7) (s.1 9) (s.1 10) (s.1 11) (s.1 12) s.2) := funext fun s => f_ref45_Days_L7_eq P T D N (o_ref45_Days_aL7 P T D N (fun (e : Ex) (s : St) => e.on (xn (s.1 0) (s.1 7) (s.1 9) (s.1 10) s.2) (fun i => (bif i == 0 then x0 (s.1 0) (s.1 7) (s.1 9) s.2 else (xd i s))) (xq s))) (fun w45_0 w45_7 w45_9 w45_10 w45_11 h => f_ref45_Days_j6 P T D N xn x0 w45_0 w45_7 w45_9 w45_10 w45_11 h) (fun s => rfl) N s
  have ej5 : (fun s : St => o_ref45_Days_j5 P T D N (fun (e : Ex) (s : St) => e.on (xn (s.1 0) (s.1 7) (s.1 9) (s.1 10) s.2) (fun i => (bif i == 0 then x0 (s.1 0) (s.1 7) (s.1 9) s.2 else (xd i s))) (xq s)) s.1 s.2) = (fun s : St => f_ref45_Days_j5 P T D N xn x0 (s.1 0) (s.1 7) (s.1 9) (s.1 10) s.2) := funext fun s => f_ref45_Days_j5_eq P T D N xn x0 xd xq s.1 s.2
  show o_ref45_Days_L3_G P T D N (fun s => iterK (fun s k => o_ref45_Days_L7 P T D N s.1 s.2 k) N s (o_ref45_Days_aL7 P T D N (fun (e : Ex) (s : St) => e.on (xn (s.1 0) (s.1 7) (s.1 9) (s.1 10) s.2) (fun i => (bif i == 0 then x0 (s.1 0) (s.1 7) (s.1 9) s.2 else (xd i s))) (xq s)))) (fun s => o_ref45_Days_j5 P T D N (fun (e : Ex) (s : St) => e.on (xn (s.1 0) (s.1 7) (s.1 9) (s.1 10) s.2) (fun i => (bif i == 0 then x0 (s.1 0) (s.1 7) (s.1 9) s.2 else (xd i s))) (xq s)) s.1 s.2) t h (fun (e : Ex) (s : St) => e.on (xn (s.1 0) (s.1 7) (s.1 9) (s.1 10) s.2) (fun i => (bif i == 0 then x0 (s.1 0) (s.1 7) (s.1 9) s.2 else (xd i s))) (xq s)) = _
  rw [eL7, ej5]
  kernel_rfl
theorem f_ref45_Days_L3_eq (P : Program) (T : Tab) (D : DTab) (N : Nat) {β : Type} (A : Ex → St → Option β) (x0 : AV → AV → AV → Hp → Option β) (q0 : ∀ s, A (.exit 0) s = x0 (s.1 0) (s.1 7) (s.1 9) s.2) : ∀ (n : Nat) (s : St), iterK (fun s k => o_ref45_Days_L3 P T D N s.1 s.2 k) n s A = f_ref45_Days_L3 P T D N x0 n (s.1 0) (s.1 7) (s.1 9) (s.1 10) s.2 := by
  intro n
  induction n with
  | zero => intro s; rfl
  | succ n ih =>
    intro s
    have hk : (fun (e : Ex) (s' : St) => Ex.on e (iterK (fun s k => o_ref45_Days_L3 P T D N s.1 s.2 k) n s' A) (fun i => A (.exit i) s') (A .ret s')) = (fun (e : Ex) (s : St) => e.on ((f_ref45_Days_L3 P T D N x0 n) (s.1 0) (s.1 7) (s.1 9) (s.1 10) s.2) (fun i => (bif i == 0 then x0 (s.1 0) (s.1 7) (s.1 9) s.2 else (A (.exit i) s))) (A .ret s)) := by
      funext e s'
      cases e with
      | normal => exact ih s'
      | ret => exact rfl
      | exit i =>
        by_cases r0 : i = 0
        · subst r0; exact q0 s'
        simp only [Ex.on, beq_false_of_ne r0, cond_false]
    show o_ref45_Days_L3 P T D N s.1 s.2 (fun (e : Ex) (s' : St) => Ex.on e (iterK (fun s k => o_ref45_Days_L3 P T D N s.1 s.2 k) n s' A) (fun i => A (.exit i) s') (A .ret s')) = _
    rw [hk]
    exact f_ref45_Days_b3_eq P T D N (f_ref45_Days_L3 P T D N x0 n) x0 (fun i s => A (.exit i) s) (fun s => A .ret s) s.1 s.2
theorem f_ref45_Days_j1_eq (P : Program) (T : Tab) (D : DTab) (N : Nat) {β : Type} (K : AV → Hp → Option β) (t : Tm) (h : Hp) : o_ref45_Days_j1 P T D N K t h = f_ref45_Days_j1 P T D N K (t 0) (t 7) h := by
  have eL3 : (fun s : St => iterK (fun s k => o_ref45_Days_L3 P T D N s.1 s.2 k) N s (o_ref45_Days_aL3 P T D N K)) = (fun s : St => f_ref45_Days_L3 P T D N (fun w46_0 w46_7 w46_9 h => f_ref45_Days_j2 P T D N K w46_0 w46_7 w46_9 h) N (s.1 0) (s.1 7) (s.1 9) (s.1 10) s.2) := funext fun s => f_ref45_Days_L3_eq P T D N (o_ref45_Days_aL3 P T D N K) (fun w46_0 w46_7 w46_9 h => f_ref45_Days_j2 P T D N K w46_0 w46_7 w46_9 h) (fun s => rfl) N s
  show o_ref45_Days_j1_G P T D N (fun s => iterK (fun s k => o_ref45_Days_L3 P T D N s.1 s.2 k) N s (o_ref45_Days_aL3 P T D N K)) K t h = _
  rw [eL3]
  kernel_rfl
theorem f_ref45_Days_old_eq (P : Program) (T : Tab) (D : DTab) (N : Nat) {β : Type} (K : AV → Hp → Option β) (a0 : AV) (a1 : AV) (h : Hp) : o_ref45_Days P T D N K a0 a1 h = f_ref45_Days P T D N K a0 a1 h := by
  have ej1 : (fun s : St => o_ref45_Days_j1 P T D N K s.1 s.2) = (fun s : St => f_ref45_Days_j1 P T D N K (s.1 0) (s.1 7) s.2) := funext fun s => f_ref45_Days_j1_eq P T D N K s.1 s.2
  show o_ref45_Days_G P T D N (fun s => o_ref45_Days_j1 P T D N K s.1 s.2) K a0 a1 h = _
  rw [ej1]
  kernel_rfl
theorem o_ref45_Days_run (T : Tab) (D : DTab) (N : Nat) {β : Type} (K : AV → Hp → Option β) (a0 : AV) (a1 : AV) (h : Hp) : runK Tryz.prog T D N [0, 1, 4, 5, 6, 7, 8, 9, 10, 11, 12, 15, 18, 29, 39, 47, 55, 62, 70] Tryz.f10 K [a0, a1] h = o_ref45_Days Tryz.prog T D N K a0 a1 h := by kernel_rfl
theorem f_ref45_Days_run (T : Tab) (D : DTab) (N : Nat) {β : Type} (K : AV → Hp → Option β) (a0 : AV) (a1 : AV) (h : Hp) : runK Tryz.prog T D N [0, 1, 4, 5, 6, 7, 8, 9, 10, 11, 12, 15, 18, 29, 39, 47, 55, 62, 70] Tryz.f10 K [a0, a1] h = f_ref45_Days Tryz.prog T D N K a0 a1 h := (o_ref45_Days_run T D N K a0 a1 h).trans (f_ref45_Days_old_eq Tryz.prog T D N K a0 a1 h)
def f_journey_Claim (P : Program) (T : Tab) (D : DTab) (N : Nat) {β : Type} (K : AV → Hp → Option β) (a0 : AV) (a1 : AV) (h : Hp) : Option β :=
effK (boxE 4 (.agg [.s (.int .i64 0), .s (.int .i64 0), .s (.int .i64 0), .s (.int .i64 0)]) (List.length h)) h fun x1 h2 =>
callK (T 17) [a0] h2 fun x3 h4 =>
exK x3 0 fun x5 =>
exK x3 1 fun x6 =>
exK x3 2 fun x7 =>
effK (boxE 9 (.agg [.s (.int .i64 0), .s (.int .i64 0), .s (.int .i64 0), .s (.int .i64 0), .s (.int .i64 0), .s (.int .i64 0), .s (.int .i64 0), .s (.bool false), .s (.bool false)]) (List.length h4)) h4 fun x8 h9 =>
effK (stE 9 x8 x5 h9) h9 fun x10 h11 =>
callK (T 27) [a1] h11 fun x12 h13 =>
exK x12 0 fun x14 =>
exK x12 1 fun x15 =>
eqK P true 28 x7 (.s (.int .i64 0)) h13 fun x16 =>
grpK false x16 h13 (fun k17 =>
eqK P true 28 x15 (.s (.int .i64 0)) h13 fun x18 =>
k17 x18 h13) fun x19 h20 =>
condK x19 (
buildK [.s (.int .i64 0), .s (.int .i64 0), .s (.int .i64 0), .s (.int .i64 0)] [] fun x21 =>
effK (stE 4 x1 x21 h20) h20 fun x22 h23 =>
ldK 4 true x1 h23 fun r24 =>
K (.tup [r24, (.s (.int .i64 1))]) h23) (
faK 8 x8 fun x25 =>
ldK 1 false x25 h20 fun x26 =>
notK x26 fun x27 =>
condK x27 (
buildK [.s (.int .i64 0), .s (.int .i64 0), .s (.int .i64 0), .s (.int .i64 0)] [] fun x28 =>
effK (stE 4 x1 x28 h20) h20 fun x29 h30 =>
ldK 4 true x1 h30 fun r31 =>
K (.tup [r31, (.s (.int .i64 11))]) h30) (
faK 0 x8 fun x32 =>
ldK 1 false x32 h20 fun x33 =>
faK 1 x8 fun x34 =>
ldK 1 false x34 h20 fun x35 =>
arithK .sub x33 x35 fun x36 =>
iaK 5 a0 (.s (.int .i64 0)) fun x37 =>
faK 0 x37 fun x38 =>
ldK 1 false x38 h20 fun x39 =>
lenK a0 fun x40 =>
arithK .sub x40 (.s (.int .i64 1)) fun x41 =>
iaK 5 a0 x41 fun x42 =>
faK 0 x42 fun x43 =>
ldK 1 false x43 h20 fun x44 =>
callK (T 28) [a1, (.s (.int .i64 9)), x36, x39, x44] h20 fun x45 h46 =>
exK x45 0 fun x47 =>
exK x45 1 fun x48 =>
faK 3 x8 fun x49 =>
ldK 1 false x49 h46 fun x50 =>
callK (T 29) [x36, x50, x47, (.s (.int .i64 0))] h46 fun x51 h52 =>
exK x51 0 fun x53 =>
exK x51 1 fun x54 =>
effK (stE 4 x1 x53 h52) h52 fun x55 h56 =>
ldK 4 true x1 h56 fun r57 =>
K (.tup [r57, x54]) h56))
theorem f_journey_Claim_run (T : Tab) (D : DTab) (N : Nat) {β : Type} (K : AV → Hp → Option β) (a0 : AV) (a1 : AV) (h : Hp) : runK Tryz.prog T D N [0, 1, 4, 5, 6, 8, 10, 11, 12, 25, 33] Tryz.f11 K [a0, a1] h = f_journey_Claim Tryz.prog T D N K a0 a1 h := by kernel_rfl
def f_slices_Clone_Allowance (P : Program) (T : Tab) (D : DTab) (N : Nat) {β : Type} (K : AV → Hp → Option β) (a0 : AV) (h : Hp) : Option β :=
eqK P false 23 a0 (.s (.slice none 0 0)) h fun x1 =>
condK x1 (
K (.s (.slice none 0 0)) h) (
effK (bsE 4 [.s (.int .i64 0), .s (.int .i64 0), .s (.int .i64 0), .s (.int .i64 0)] 0 [] (List.length h)) h fun x2 h3 =>
effK (appE 4 32 x2 a0 h3 (List.length h3)) h3 fun x4 h5 =>
K x4 h5)
theorem f_slices_Clone_Allowance_run (T : Tab) (D : DTab) (N : Nat) {β : Type} (K : AV → Hp → Option β) (a0 : AV) (h : Hp) : runK Tryz.prog T D N [0, 2, 4] Tryz.f12 K [a0] h = f_slices_Clone_Allowance Tryz.prog T D N K a0 h := by kernel_rfl
def f_ref45_Claim (P : Program) (T : Tab) (D : DTab) (N : Nat) {β : Type} (K : AV → Hp → Option β) (a0 : AV) (a1 : AV) (h : Hp) : Option β :=
effK (boxE 4 (.agg [.s (.int .i64 0), .s (.int .i64 0), .s (.int .i64 0), .s (.int .i64 0)]) (List.length h)) h fun x1 h2 =>
callK (T 25) [a0] h2 fun x3 h4 =>
notK x3 fun x5 =>
grpK false x5 h4 (fun k6 =>
callK (T 30) [a1] h4 fun x7 h8 =>
notK x7 fun x9 =>
k6 x9 h8) fun x10 h11 =>
condK x10 (
buildK [.s (.int .i64 0), .s (.int .i64 0), .s (.int .i64 0), .s (.int .i64 0)] [] fun x12 =>
effK (stE 4 x1 x12 h11) h11 fun x13 h14 =>
ldK 4 true x1 h14 fun r15 =>
K (.tup [r15, (.s (.int .i64 1))]) h14) (
callK (T 31) [a0] h11 fun x16 h17 =>
exK x16 0 fun x18 =>
exK x16 1 fun x19 =>
exK x16 2 fun x20 =>
effK (boxE 9 (.agg [.s (.int .i64 0), .s (.int .i64 0), .s (.int .i64 0), .s (.int .i64 0), .s (.int .i64 0), .s (.int .i64 0), .s (.int .i64 0), .s (.bool false), .s (.bool false)]) (List.length h17)) h17 fun x21 h22 =>
effK (stE 9 x21 x18 h22) h22 fun x23 h24 =>
faK 8 x21 fun x25 =>
ldK 1 false x25 h24 fun x26 =>
notK x26 fun x27 =>
condK x27 (
buildK [.s (.int .i64 0), .s (.int .i64 0), .s (.int .i64 0), .s (.int .i64 0)] [] fun x28 =>
effK (stE 4 x1 x28 h24) h24 fun x29 h30 =>
ldK 4 true x1 h30 fun r31 =>
K (.tup [r31, (.s (.int .i64 11))]) h30) (
faK 0 x21 fun x32 =>
ldK 1 false x32 h24 fun x33 =>
faK 1 x21 fun x34 =>
ldK 1 false x34 h24 fun x35 =>
arithK .sub x33 x35 fun x36 =>
iaK 5 a0 (.s (.int .i64 0)) fun x37 =>
faK 0 x37 fun x38 =>
ldK 1 false x38 h24 fun x39 =>
lenK a0 fun x40 =>
arithK .sub x40 (.s (.int .i64 1)) fun x41 =>
iaK 5 a0 x41 fun x42 =>
faK 0 x42 fun x43 =>
ldK 1 false x43 h24 fun x44 =>
callK (T 32) [a1, (.s (.int .i64 9)), x36, x39, x44] h24 fun x45 h46 =>
exK x45 0 fun x47 =>
exK x45 1 fun x48 =>
faK 0 x21 fun x49 =>
ldK 1 false x49 h46 fun x50 =>
faK 1 x21 fun x51 =>
ldK 1 false x51 h46 fun x52 =>
arithK .sub x50 x52 fun x53 =>
faK 3 x21 fun x54 =>
ldK 1 false x54 h46 fun x55 =>
callK (T 33) [x53, x55, x47, (.s (.int .i64 0))] h46 fun x56 h57 =>
effK (stE 4 x1 x56 h57) h57 fun x58 h59 =>
ldK 4 true x1 h59 fun r60 =>
K (.tup [r60, (.s (.int .i64 0))]) h59))
theorem f_ref45_Claim_run (T : Tab) (D : DTab) (N : Nat) {β : Type} (K : AV → Hp → Option β) (a0 : AV) (a1 : AV) (h : Hp) : runK Tryz.prog T D N [0, 1, 4, 5, 6, 9, 18, 28] Tryz.f13 K [a0, a1] h = f_ref45_Claim Tryz.prog T D N K a0 a1 h := by kernel_rfl
def o_journey_Messages_j1 (P : Program) (T : Tab) (D : DTab) (N : Nat) {β : Type} (K : AV → Hp → Option β) (t : Tm) (h : Hp) : Option β :=
lenK (t 6) fun x8 =>
arithK .gtr x8 (.s (.int .i64 64)) fun x9 =>
condK x9 (
K (.tup [(.s (.slice none 0 0)), (.s (.int .i64 8))]) h) (
K (.tup [(t 6), (.s (.int .i64 0))]) h)
def o_journey_Messages_j3 (P : Program) (T : Tab) (D : DTab) (N : Nat) {β : Type} (k : Ex → St → Option β) (t : Tm) (h : Hp) : Option β :=
arithK .add (t 21) (.s (.int .i64 1)) fun x11 =>
k .normal ((upd t 21 x11), h)
def o_journey_Messages_j4 (P : Program) (T : Tab) (D : DTab) (N : Nat) {β : Type} (k : Ex → St → Option β) (t : Tm) (h : Hp) : Option β :=
(o_journey_Messages_j3 P T D N k t h)
def o_journey_Messages_j5 (P : Program) (T : Tab) (D : DTab) (N : Nat) {β : Type} (k : Ex → St → Option β) (t : Tm) (h : Hp) : Option β :=
ldK 7 true (t 10) h fun x25 =>
effK (bsE 7 [.s (.int .i64 0), .s (.int .i64 0), .s (.int .i64 0), .s (.int .i64 0), .s (.int .i64 0), .s (.int .i64 0), .s (.int .i64 0)] 1 [(0, x25)] (List.length h)) h fun x26 h27 =>
effK (appE 7 56 (t 6) x26 h27 (List.length h27)) h27 fun x28 h29 =>
(o_journey_Messages_j4 P T D N k (upd t 6 x28) h29)
def o_journey_Messages_j6 (P : Program) (T : Tab) (D : DTab) (N : Nat) {β : Type} (k : Ex → St → Option β) (t : Tm) (h : Hp) : Option β :=
(o_journey_Messages_j5 P T D N k t h)
def o_journey_Messages_L2 (P : Program) (T : Tab) (D : DTab) (N : Nat) {β : Type} (t : Tm) (h : Hp) (k : Ex → St → Option β) : Option β :=
arithK .lss (t 21) (t 20) fun x10 =>
condK x10 (
iaK 5 (t 19) (t 21) fun x12 =>
ldK 5 true x12 h fun x13 =>
effK (boxE 5 (.agg [.s (.int .i64 0), .s (.int .i64 0), .s (.int .i64 0), .s (.int .i64 0), .s (.int .i64 0)]) (List.length h)) h fun x14 h15 =>
effK (stE 5 x14 x13 h15) h15 fun x16 h17 =>
faK 0 x14 fun x18 =>
ldK 1 false x18 h17 fun x19 =>
buildK [.s (.int .i64 0), .s (.int .i64 0), .s (.int .i64 0), .s (.int .i64 0), .s (.int .i64 0), .s (.int .i64 0), .s (.int .i64 0)] [(some (0, 1), (t 1)), (some (3, 1), x19)] fun x20 =>
effK (boxE 7 (.agg [.s (.int .i64 0), .s (.int .i64 0), .s (.int .i64 0), .s (.int .i64 0), .s (.int .i64 0), .s (.int .i64 0), .s (.int .i64 0)]) (List.length h17)) h17 fun x21 h22 =>
effK (stE 7 x21 x20 h22) h22 fun x23 h24 =>
faK 1 x14 fun x30 =>
ldK 1 false x30 h24 fun x31 =>
eqK P false 3 x31 (.s (.int .i64 1)) h24 fun x32 =>
condK x32 (
faK 2 x14 fun x33 =>
ldK 1 false x33 h24 fun x34 =>
faK 3 x14 fun x35 =>
ldK 1 false x35 h24 fun x36 =>
faK 4 x14 fun x37 =>
ldK 1 false x37 h24 fun x38 =>
faK 1 x21 fun x39 =>
effD (stE 1 x39 (.s (.int .i64 1)) h24) h24 fun x40 h41 e42 =>
faK 4 x21 fun x43 =>
effD (stE 1 x43 x34 h41) h41 fun x44 h45 e46 =>
faK 5 x21 fun x47 =>
effD (stE 1 x47 x36 h45) h45 fun x48 h49 e50 =>
faK 6 x21 fun x51 =>
effD (stE 1 x51 x38 h49) h49 fun x52 h53 e54 =>
bif disjAll [(1, 7), (3, 7), (5, 7), (3, 9), (5, 9), (5, 11)] [([], []), ((idsOf x33), []), ([], []), ((idsOf x35), []), ([], []), ((idsOf x37), []), ([], []), e42, ([], []), e46, ([], []), e50, ([], []), e54] then (
(o_journey_Messages_j6 P T D N k (upd (upd (upd (upd (upd t 22 x10) 9 x14) 10 x21) 30 x31) 31 x32) h53)) else none) (
eqK P false 3 x31 (.s (.int .i64 4)) h24 fun x55 =>
condK x55 (
arithK .add (t 7) (.s (.int .i64 1)) fun x56 =>
faK 3 x14 fun x57 =>
ldK 1 false x57 h24 fun x58 =>
faK 1 x21 fun x59 =>
effD (stE 1 x59 (.s (.int .i64 2)) h24) h24 fun x60 h61 e62 =>
faK 2 x21 fun x63 =>
effD (stE 1 x63 x56 h61) h61 fun x64 h65 e66 =>
faK 5 x21 fun x67 =>
effD (stE 1 x67 x58 h65) h65 fun x68 h69 e70 =>
bif disjAll [(2, 4), (2, 6)] [([], []), ([], []), ((idsOf x57), []), ([], []), e62, ([], []), e66, ([], []), e70] then (
(o_journey_Messages_j6 P T D N k (upd (upd (upd (upd (upd (upd (upd t 22 x10) 9 x14) 10 x21) 30 x31) 31 x32) 43 x55) 7 x56) h69)) else none) (
eqK P false 3 x31 (.s (.int .i64 7)) h24 fun x71 =>
condK x71 (
faK 4 x14 fun x72 =>
ldK 1 false x72 h24 fun x73 =>
faK 1 x21 fun x74 =>
effD (stE 1 x74 (.s (.int .i64 3)) h24) h24 fun x75 h76 e77 =>
faK 6 x21 fun x78 =>
effD (stE 1 x78 x73 h76) h76 fun x79 h80 e81 =>
bif disjAll [(1, 3)] [([], []), ((idsOf x72), []), ([], []), e77, ([], []), e81] then (
ldK 7 true x21 h80 fun x82 =>
effK (bsE 7 [.s (.int .i64 0), .s (.int .i64 0), .s (.int .i64 0), .s (.int .i64 0), .s (.int .i64 0), .s (.int .i64 0), .s (.int .i64 0)] 1 [(0, x82)] (List.length h80)) h80 fun x83 h84 =>
effK (appE 7 56 (t 6) x83 h84 (List.length h84)) h84 fun x85 h86 =>
faK 0 x14 fun x87 =>
ldK 1 false x87 h86 fun x88 =>
buildK [.s (.int .i64 0), .s (.int .i64 0), .s (.int .i64 0), .s (.int .i64 0), .s (.int .i64 0), .s (.int .i64 0), .s (.int .i64 0)] [(some (0, 1), (t 1)), (some (1, 1), (.s (.int .i64 5))), (some (3, 1), x88)] fun x89 =>
effK (stE 7 x21 x89 h86) h86 fun x90 h91 =>
(o_journey_Messages_j6 P T D N k (upd (upd (upd (upd (upd (upd (upd (upd t 22 x10) 9 x14) 10 x21) 30 x31) 31 x32) 43 x55) 53 x71) 6 x85) h91)) else none) (
(o_journey_Messages_j4 P T D N k (upd (upd (upd (upd (upd (upd (upd t 22 x10) 9 x14) 10 x21) 30 x31) 31 x32) 43 x55) 53 x71) h24))))) (
k (.exit 1) ((upd t 22 x10), h))
def o_journey_Messages_aL2 (P : Program) (T : Tab) (D : DTab) (N : Nat) {β : Type} (K : AV → Hp → Option β) (e : Ex) (s : St) : Option β :=
  e.on ((o_journey_Messages_j1 P T D N K s.1 s.2))
  (fun i => bif i == 1 then ((o_journey_Messages_j1 P T D N K s.1 s.2)) else (none))
  (K (.tup [(s.1 4), (s.1 5)]) s.2)
def o_journey_Messages_G (P : Program) (T : Tab) (D : DTab) (N : Nat) {β : Type} (cL2 : St → Option β) (K : AV → Hp → Option β) (a0 : AV) (a1 : AV) (h : Hp) :  Option β :=
callK (T 23) [a0] h fun x1 h2 =>
notK x1 fun x3 =>
condK x3 (
K (.tup [(.s (.slice none 0 0)), (.s (.int .i64 1))]) h2) (
callK (T 24) [a1, (.s (.int .i64 1)), (.s (.int .i64 1073741824))] h2 fun x4 h5 =>
notK x4 fun x6 =>
condK x6 (
K (.tup [(.s (.slice none 0 0)), (.s (.int .i64 2))]) h5) (
lenK a0 fun x7 =>
cL2 ((upd (upd (upd (upd (upd (upd (upd (upd (upd (tm0 [a0, a1]) 4 (.s (.slice none 0 0))) 5 (.s (.int .i64 0))) 11 x3) 15 x6) 6 (.s (.slice none 0 0))) 7 (.s (.int .i64 0))) 19 a0) 20 x7) 21 (.s (.int .i64 0))), h5)))
def o_journey_Messages (P : Program) (T : Tab) (D : DTab) (N : Nat) {β : Type} (K : AV → Hp → Option β) (a0 : AV) (a1 : AV) (h : Hp) : Option β := o_journey_Messages_G P T D N (fun s => iterK (fun s k => o_journey_Messages_L2 P T D N s.1 s.2 k) N s (o_journey_Messages_aL2 P T D N K)) K a0 a1 h
def f_journey_Messages_j1 (P : Program) (T : Tab) (D : DTab) (N : Nat) {β : Type} (K : AV → Hp → Option β) (v6 : AV) (h : Hp) : Option β :=
lenK v6 fun x8 =>
arithK .gtr x8 (.s (.int .i64 64)) fun x9 =>
condK x9 (
K (.tup [(.s (.slice none 0 0)), (.s (.int .i64 8))]) h) (
K (.tup [v6, (.s (.int .i64 0))]) h)
def f_journey_Messages_j3 (P : Program) (T : Tab) (D : DTab) (N : Nat) {β : Type} (xn : AV → AV → AV → AV → AV → AV → Hp → Option β) (x1 : AV → Hp → Option β) (v1 : AV) (v6 : AV) (v7 : AV) (v19 : AV) (v20 : AV) (v21 : AV) (h : Hp) : Option β :=
arithK .add v21 (.s (.int .i64 1)) fun x11 =>
xn v1 v6 v7 v19 v20 x11 h
def f_journey_Messages_j4 (P : Program) (T : Tab) (D : DTab) (N : Nat) {β : Type} (xn : AV → AV → AV → AV → AV → AV → Hp → Option β) (x1 : AV → Hp → Option β) (v1 : AV) (v6 : AV) (v7 : AV) (v19 : AV) (v20 : AV) (v21 : AV) (h : Hp) : Option β :=
f_journey_Messages_j3 P T D N xn x1 v1 v6 v7 v19 v20 v21 h
def f_journey_Messages_j5 (P : Program) (T : Tab) (D : DTab) (N : Nat) {β : Type} (xn : AV → AV → AV → AV → AV → AV → Hp → Option β) (x1 : AV → Hp → Option β) (v1 : AV) (v6 : AV) (v7 : AV) (v10 : AV) (v19 : AV) (v20 : AV) (v21 : AV) (h : Hp) : Option β :=
ldK 7 true v10 h fun x25 =>
effK (bsE 7 [.s (.int .i64 0), .s (.int .i64 0), .s (.int .i64 0), .s (.int .i64 0), .s (.int .i64 0), .s (.int .i64 0), .s (.int .i64 0)] 1 [(0, x25)] (List.length h)) h fun x26 h27 =>
effK (appE 7 56 v6 x26 h27 (List.length h27)) h27 fun x28 h29 =>
f_journey_Messages_j4 P T D N xn x1 v1 x28 v7 v19 v20 v21 h29
def f_journey_Messages_j6 (P : Program) (T : Tab) (D : DTab) (N : Nat) {β : Type} (xn : AV → AV → AV → AV → AV → AV → Hp → Option β) (x1 : AV → Hp → Option β) (v1 : AV) (v6 : AV) (v7 : AV) (v10 : AV) (v19 : AV) (v20 : AV) (v21 : AV) (h : Hp) : Option β :=
f_journey_Messages_j5 P T D N xn x1 v1 v6 v7 v10 v19 v20 v21 h
def f_journey_Messages_b2 (P : Program) (T : Tab) (D : DTab) (N : Nat) {β : Type} (xn : AV → AV → AV → AV → AV → AV → Hp → Option β) (x1 : AV → Hp → Option β) (v1 : AV) (v6 : AV) (v7 : AV) (v19 : AV) (v20 : AV) (v21 : AV) (h : Hp) : Option β :=
arithK .lss v21 v20 fun x10 =>
condK x10 (
iaK 5 v19 v21 fun x12 =>
ldK 5 true x12 h fun x13 =>
effK (boxE 5 (.agg [.s (.int .i64 0), .s (.int .i64 0), .s (.int .i64 0), .s (.int .i64 0), .s (.int .i64 0)]) (List.length h)) h fun x14 h15 =>
effK (stE 5 x14 x13 h15) h15 fun x16 h17 =>
faK 0 x14 fun x18 =>
ldK 1 false x18 h17 fun x19 =>
buildK [.s (.int .i64 0), .s (.int .i64 0), .s (.int .i64 0), .s (.int .i64 0), .s (.int .i64 0), .s (.int .i64 0), .s (.int .i64 0)] [(some (0, 1), v1), (some (3, 1), x19)] fun x20 =>
effK (boxE 7 (.agg [.s (.int .i64 0), .s (.int .i64 0), .s (.int .i64 0), .s (.int .i64 0), .s (.int .i64 0), .s (.int .i64 0), .s (.int .i64 0)]) (List.length h17)) h17 fun x21 h22 =>
effK (stE 7 x21 x20 h22) h22 fun x23 h24 =>
faK 1 x14 fun x30 =>
ldK 1 false x30 h24 fun x31 =>
eqK P false 3 x31 (.s (.int .i64 1)) h24 fun x32 =>
condK x32 (
faK 2 x14 fun x33 =>
ldK 1 false x33 h24 fun x34 =>
faK 3 x14 fun x35 =>
ldK 1 false x35 h24 fun x36 =>
faK 4 x14 fun x37 =>
ldK 1 false x37 h24 fun x38 =>
faK 1 x21 fun x39 =>
effD (stE 1 x39 (.s (.int .i64 1)) h24) h24 fun x40 h41 e42 =>
faK 4 x21 fun x43 =>
effD (stE 1 x43 x34 h41) h41 fun x44 h45 e46 =>
faK 5 x21 fun x47 =>
effD (stE 1 x47 x36 h45) h45 fun x48 h49 e50 =>
faK 6 x21 fun x51 =>
effD (stE 1 x51 x38 h49) h49 fun x52 h53 e54 =>
bif disjAll [(1, 7), (3, 7), (5, 7), (3, 9), (5, 9), (5, 11)] [([], []), ((idsOf x33), []), ([], []), ((idsOf x35), []), ([], []), ((idsOf x37), []), ([], []), e42, ([], []), e46, ([], []), e50, ([], []), e54] then (
f_journey_Messages_j6 P T D N xn x1 v1 v6 v7 x21 v19 v20 v21 h53) else none) (
eqK P false 3 x31 (.s (.int .i64 4)) h24 fun x55 =>
condK x55 (
arithK .add v7 (.s (.int .i64 1)) fun x56 =>
faK 3 x14 fun x57 =>
ldK 1 false x57 h24 fun x58 =>
faK 1 x21 fun x59 =>
effD (stE 1 x59 (.s (.int .i64 2)) h24) h24 fun x60 h61 e62 =>
faK 2 x21 fun x63 =>
effD (stE 1 x63 x56 h61) h61 fun x64 h65 e66 =>
faK 5 x21 fun x67 =>
effD (stE 1 x67 x58 h65) h65 fun x68 h69 e70 =>
bif disjAll [(2, 4), (2, 6)] [([], []), ([], []), ((idsOf x57), []), ([], []), e62, ([], []), e66, ([], []), e70] then (
f_journey_Messages_j6 P T D N xn x1 v1 v6 x56 x21 v19 v20 v21 h69) else none) (
eqK P false 3 x31 (.s (.int .i64 7)) h24 fun x71 =>
condK x71 (
faK 4 x14 fun x72 =>
ldK 1 false x72 h24 fun x73 =>
faK 1 x21 fun x74 =>
effD (stE 1 x74 (.s (.int .i64 3)) h24) h24 fun x75 h76 e77 =>
faK 6 x21 fun x78 =>
effD (stE 1 x78 x73 h76) h76 fun x79 h80 e81 =>
bif disjAll [(1, 3)] [([], []), ((idsOf x72), []), ([], []), e77, ([], []), e81] then (
ldK 7 true x21 h80 fun x82 =>
effK (bsE 7 [.s (.int .i64 0), .s (.int .i64 0), .s (.int .i64 0), .s (.int .i64 0), .s (.int .i64 0), .s (.int .i64 0), .s (.int .i64 0)] 1 [(0, x82)] (List.length h80)) h80 fun x83 h84 =>
effK (appE 7 56 v6 x83 h84 (List.length h84)) h84 fun x85 h86 =>
faK 0 x14 fun x87 =>
ldK 1 false x87 h86 fun x88 =>
buildK [.s (.int .i64 0), .s (.int .i64 0), .s (.int .i64 0), .s (.int .i64 0), .s (.int .i64 0), .s (.int .i64 0), .s (.int .i64 0)] [(some (0, 1), v1), (some (1, 1), (.s (.int .i64 5))), (some (3, 1), x88)] fun x89 =>
effK (stE 7 x21 x89 h86) h86 fun x90 h91 =>
f_journey_Messages_j6 P T D N xn x1 v1 x85 v7 x21 v19 v20 v21 h91) else none) (
f_journey_Messages_j4 P T D N xn x1 v1 v6 v7 v19 v20 v21 h24)))) (
x1 v6 h)
def f_journey_Messages_L2 (P : Program) (T : Tab) (D : DTab) (N : Nat) {β : Type} (x1 : AV → Hp → Option β) : Nat → AV → AV → AV → AV → AV → AV → Hp → Option β
  | 0 => fun _ _ _ _ _ _ _ => none
  | n + 1 => fun v1 v6 v7 v19 v20 v21 h => f_journey_Messages_b2 P T D N (f_journey_Messages_L2 P T D N x1 n) x1 v1 v6 v7 v19 v20 v21 h
def f_journey_Messages (P : Program) (T : Tab) (D : DTab) (N : Nat) {β : Type} (K : AV → Hp → Option β) (a0 : AV) (a1 : AV) (h : Hp) : Option β :=
callK (T 23) [a0] h fun x1 h2 =>
notK x1 fun x3 =>
condK x3 (
K (.tup [(.s (.slice none 0 0)), (.s (.int .i64 1))]) h2) (
callK (T 24) [a1, (.s (.int .i64 1)), (.s (.int .i64 1073741824))] h2 fun x4 h5 =>
notK x4 fun x6 =>
condK x6 (
K (.tup [(.s (.slice none 0 0)), (.s (.int .i64 2))]) h5) (
lenK a0 fun x7 =>
f_journey_Messages_L2 P T D N (fun w92_6 h => f_journey_Messages_j1 P T D N K w92_6 h) N a1 (.s (.slice none 0 0)) (.s (.int .i64 0)) a0 x7 (.s (.int .i64 0)) h5))
theorem f_journey_Messages_b2_eq (P : Program) (T : Tab) (D : DTab) (N : Nat) {β : Type} (xn : AV → AV → AV → AV → AV → AV → Hp → Option β) (x1 : AV → Hp → Option β) (xd : Nat → St → Option β) (xq : St → Option β) (t : Tm) (h : Hp) : o_journey_Messages_L2 P T D N t h (fun (e : Ex) (s : St) => e.on (xn (s.1 1) (s.1 6) (s.1 7) (s.1 19) (s.1 20) (s.1 21) s.2) (fun i => (bif i == 1 then x1 (s.1 6) s.2 else (xd i s))) (xq s)) = f_journey_Messages_b2 P T D N xn x1 (t 1) (t 6) (t 7) (t 19) (t 20) (t 21) h := by kernel_rfl
theorem f_journey_Messages_L2_eq (P : Program) (T : Tab) (D : DTab) (N : Nat) {β : Type} (A : Ex → St → Option β) (x1 : AV → Hp → Option β) (q1 : ∀ s, A (.exit 1) s = x1 (s.1 6) s.2) : ∀ (n : Nat) (s : St), iterK (fun s k => o_journey_Messages_L2 P T D N s.1 s.2 k) n s A = f_journey_Messages_L2 P T D N x1 n (s.1 1) (s.1 6) (s.1 7) (s.1 19) (s.1 20) (s.1 21) s.2 := by
  intro n
  induction n with
  | zero => intro s; rfl
  | succ n ih =>
    intro s
    have hk : (fun (e : Ex) (s' : St) => Ex.on e (iterK (fun s k => o_journey_Messages_L2 P T D N s.1 s.2 k) n s' A) (fun i => A (.exit i) s') (A .ret s')) = (fun (e : Ex) (s : St) => e.on ((f_journey_Messages_L2 P T D N x1 n) (s.1 1) (s.1 6) (s.1 7) (s.1 19) (s.1 20) (s.1 21) s.2) (fun i => (bif i == 1 then x1 (s.1 6) s.2 else (A (.exit i) s))) (A .ret s)) := by
      funext e s'
      cases e with
      | normal => exact ih s'
      | ret => exact rfl
      | exit i =>
        by_cases r1 : i = 1
        · subst r1; exact q1 s'
        simp only [Ex.on, beq_false_of_ne r1, cond_false]
    show o_journey_Messages_L2 P T D N s.1 s.2 (fun (e : Ex) (s' : St) => Ex.on e (iterK (fun s k => o_journey_Messages_L2 P T D N s.1 s.2 k) n s' A) (fun i => A (.exit i) s') (A .ret s')) = _
    rw [hk]
    exact f_journey_Messages_b2_eq P T D N (f_journey_Messages_L2 P T D N x1 n) x1 (fun i s => A (.exit i) s) (fun s => A .ret s) s.1 s.2
theorem f_journey_Messages_old_eq (P : Program) (T : Tab) (D : DTab) (N : Nat) {β : Type} (K : AV → Hp → Option β) (a0 : AV) (a1 : AV) (h : Hp) : o_journey_Messages P T D N K a0 a1 h = f_journey_Messages P T D N K a0 a1 h := by
  have eL2 : (fun s : St => iterK (fun s k => o_journey_Messages_L2 P T D N s.1 s.2 k) N s (o_journey_Messages_aL2 P T D N K)) = (fun s : St => f_journey_Messages_L2 P T D N (fun w92_6 h => f_journey_Messages_j1 P T D N K w92_6 h) N (s.1 1) (s.1 6) (s.1 7) (s.1 19) (s.1 20) (s.1 21) s.2) := funext fun s => f_journey_Messages_L2_eq P T D N (o_journey_Messages_aL2 P T D N K) (fun w92_6 h => f_journey_Messages_j1 P T D N K w92_6 h) (fun s => rfl) N s
  show o_journey_Messages_G P T D N (fun s => iterK (fun s k => o_journey_Messages_L2 P T D N s.1 s.2 k) N s (o_journey_Messages_aL2 P T D N K)) K a0 a1 h = _
  rw [eL2]
  kernel_rfl
theorem o_journey_Messages_run (T : Tab) (D : DTab) (N : Nat) {β : Type} (K : AV → Hp → Option β) (a0 : AV) (a1 : AV) (h : Hp) : runK Tryz.prog T D N [0, 1, 4, 5, 6, 7, 9, 10, 11, 15, 19, 20, 21, 22, 30, 31, 43, 53, 74] Tryz.f14 K [a0, a1] h = o_journey_Messages Tryz.prog T D N K a0 a1 h := by kernel_rfl
theorem f_journey_Messages_run (T : Tab) (D : DTab) (N : Nat) {β : Type} (K : AV → Hp → Option β) (a0 : AV) (a1 : AV) (h : Hp) : runK Tryz.prog T D N [0, 1, 4, 5, 6, 7, 9, 10, 11, 15, 19, 20, 21, 22, 30, 31, 43, 53, 74] Tryz.f14 K [a0, a1] h = f_journey_Messages Tryz.prog T D N K a0 a1 h := (o_journey_Messages_run T D N K a0 a1 h).trans (f_journey_Messages_old_eq Tryz.prog T D N K a0 a1 h)
def o_ref45_Messages_j1 (P : Program) (T : Tab) (D : DTab) (N : Nat) {β : Type} (K : AV → Hp → Option β) (t : Tm) (h : Hp) : Option β :=
lenK (t 6) fun x11 =>
arithK .gtr x11 (.s (.int .i64 64)) fun x12 =>
condK x12 (
K (.tup [(.s (.slice none 0 0)), (.s (.int .i64 8))]) h) (
K (.tup [(t 6), (.s (.int .i64 0))]) h)
def o_ref45_Messages_j3 (P : Program) (T : Tab) (D : DTab) (N : Nat) {β : Type} (k : Ex → St → Option β) (t : Tm) (h : Hp) : Option β :=
arithK .add (t 8) (.s (.int .i64 1)) fun x15 =>
k .normal ((upd t 8 x15), h)
def o_ref45_Messages_j4 (P : Program) (T : Tab) (D : DTab) (N : Nat) {β : Type} (k : Ex → St → Option β) (t : Tm) (h : Hp) : Option β :=
(o_ref45_Messages_j3 P T D N k t h)
def o_ref45_Messages_j5 (P : Program) (T : Tab) (D : DTab) (N : Nat) {β : Type} (k : Ex → St → Option β) (t : Tm) (h : Hp) : Option β :=
(o_ref45_Messages_j4 P T D N k t h)
def o_ref45_Messages_L2 (P : Program) (T : Tab) (D : DTab) (N : Nat) {β : Type} (t : Tm) (h : Hp) (k : Ex → St → Option β) : Option β :=
lenK (t 0) fun x13 =>
arithK .lss (t 8) x13 fun x14 =>
condK x14 (
iaK 5 (t 0) (t 8) fun x16 =>
ldK 5 true x16 h fun x17 =>
effK (boxE 5 (.agg [.s (.int .i64 0), .s (.int .i64 0), .s (.int .i64 0), .s (.int .i64 0), .s (.int .i64 0)]) (List.length h)) h fun x18 h19 =>
effK (stE 5 x18 x17 h19) h19 fun x20 h21 =>
faK 1 x18 fun x22 =>
ldK 1 false x22 h21 fun x23 =>
eqK P false 3 x23 (.s (.int .i64 1)) h21 fun x24 =>
condK x24 (
faK 0 x18 fun x25 =>
ldK 1 false x25 h21 fun x26 =>
faK 2 x18 fun x27 =>
ldK 1 false x27 h21 fun x28 =>
faK 3 x18 fun x29 =>
ldK 1 false x29 h21 fun x30 =>
faK 4 x18 fun x31 =>
ldK 1 false x31 h21 fun x32 =>
buildK [.s (.int .i64 0), .s (.int .i64 0), .s (.int .i64 0), .s (.int .i64 0), .s (.int .i64 0), .s (.int .i64 0), .s (.int .i64 0)] [(some (0, 1), (t 1)), (some (1, 1), (.s (.int .i64 1))), (some (3, 1), x26), (some (4, 1), x28), (some (5, 1), x30), (some (6, 1), x32)] fun x33 =>
effK (bsE 7 [.s (.int .i64 0), .s (.int .i64 0), .s (.int .i64 0), .s (.int .i64 0), .s (.int .i64 0), .s (.int .i64 0), .s (.int .i64 0)] 1 [(0, x33)] (List.length h21)) h21 fun x34 h35 =>
effK (appE 7 56 (t 6) x34 h35 (List.length h35)) h35 fun x36 h37 =>
(o_ref45_Messages_j5 P T D N k (upd (upd (upd (upd (upd t 23 x14) 9 x18) 31 x23) 32 x24) 6 x36) h37)) (
eqK P false 3 x23 (.s (.int .i64 4)) h21 fun x38 =>
condK x38 (
arithK .add (t 7) (.s (.int .i64 1)) fun x39 =>
faK 0 x18 fun x40 =>
ldK 1 false x40 h21 fun x41 =>
faK 3 x18 fun x42 =>
ldK 1 false x42 h21 fun x43 =>
buildK [.s (.int .i64 0), .s (.int .i64 0), .s (.int .i64 0), .s (.int .i64 0), .s (.int .i64 0), .s (.int .i64 0), .s (.int .i64 0)] [(some (0, 1), (t 1)), (some (1, 1), (.s (.int .i64 2))), (some (2, 1), x39), (some (3, 1), x41), (some (5, 1), x43)] fun x44 =>
effK (bsE 7 [.s (.int .i64 0), .s (.int .i64 0), .s (.int .i64 0), .s (.int .i64 0), .s (.int .i64 0), .s (.int .i64 0), .s (.int .i64 0)] 1 [(0, x44)] (List.length h21)) h21 fun x45 h46 =>
effK (appE 7 56 (t 6) x45 h46 (List.length h46)) h46 fun x47 h48 =>
(o_ref45_Messages_j5 P T D N k (upd (upd (upd (upd (upd (upd (upd t 23 x14) 9 x18) 31 x23) 32 x24) 47 x38) 7 x39) 6 x47) h48)) (
eqK P false 3 x23 (.s (.int .i64 7)) h21 fun x49 =>
condK x49 (
faK 0 x18 fun x50 =>
ldK 1 false x50 h21 fun x51 =>
faK 4 x18 fun x52 =>
ldK 1 false x52 h21 fun x53 =>
buildK [.s (.int .i64 0), .s (.int .i64 0), .s (.int .i64 0), .s (.int .i64 0), .s (.int .i64 0), .s (.int .i64 0), .s (.int .i64 0)] [(some (0, 1), (t 1)), (some (1, 1), (.s (.int .i64 3))), (some (3, 1), x51), (some (6, 1), x53)] fun x54 =>
faK 0 x18 fun x55 =>
ldK 1 false x55 h21 fun x56 =>
buildK [.s (.int .i64 0), .s (.int .i64 0), .s (.int .i64 0), .s (.int .i64 0), .s (.int .i64 0), .s (.int .i64 0), .s (.int .i64 0)] [(some (0, 1), (t 1)), (some (1, 1), (.s (.int .i64 5))), (some (3, 1), x56)] fun x57 =>
effK (bsE 7 [.s (.int .i64 0), .s (.int .i64 0), .s (.int .i64 0), .s (.int .i64 0), .s (.int .i64 0), .s (.int .i64 0), .s (.int .i64 0)] 2 [(0, x54), (1, x57)] (List.length h21)) h21 fun x58 h59 =>
effK (appE 7 56 (t 6) x58 h59 (List.length h59)) h59 fun x60 h61 =>
(o_ref45_Messages_j5 P T D N k (upd (upd (upd (upd (upd (upd (upd t 23 x14) 9 x18) 31 x23) 32 x24) 47 x38) 61 x49) 6 x60) h61)) (
(o_ref45_Messages_j5 P T D N k (upd (upd (upd (upd (upd (upd t 23 x14) 9 x18) 31 x23) 32 x24) 47 x38) 61 x49) h21))))) (
k (.exit 0) ((upd t 23 x14), h))
def o_ref45_Messages_aL2 (P : Program) (T : Tab) (D : DTab) (N : Nat) {β : Type} (K : AV → Hp → Option β) (e : Ex) (s : St) : Option β :=
  e.on ((o_ref45_Messages_j1 P T D N K s.1 s.2))
  (fun i => bif i == 0 then ((o_ref45_Messages_j1 P T D N K s.1 s.2)) else (none))
  (K (.tup [(s.1 4), (s.1 5)]) s.2)
def o_ref45_Messages_G (P : Program) (T : Tab) (D : DTab) (N : Nat) {β : Type} (cL2 : St → Option β) (K : AV → Hp → Option β) (a0 : AV) (a1 : AV) (h : Hp) :  Option β :=
callK (T 25) [a0] h fun x1 h2 =>
notK x1 fun x3 =>
condK x3 (
K (.tup [(.s (.slice none 0 0)), (.s (.int .i64 1))]) h2) (
arithK .lss a1 (.s (.int .i64 1)) fun x4 =>
grpK false x4 h2 (fun k5 =>
arithK .gtr a1 (.s (.int .i64 1073741824)) fun x6 =>
k5 x6 h2) fun x7 h8 =>
condK x7 (
K (.tup [(.s (.slice none 0 0)), (.s (.int .i64 2))]) h8) (
effK (bsE 7 [.s (.int .i64 0), .s (.int .i64 0), .s (.int .i64 0), .s (.int .i64 0), .s (.int .i64 0), .s (.int .i64 0), .s (.int .i64 0)] 0 [] (List.length h8)) h8 fun x9 h10 =>
cL2 ((upd (upd (upd (upd (upd (upd (upd (tm0 [a0, a1]) 4 (.s (.slice none 0 0))) 5 (.s (.int .i64 0))) 12 x3) 18 x7) 6 x9) 7 (.s (.int .i64 0))) 8 (.s (.int .i64 0))), h10)))
def o_ref45_Messages (P : Program) (T : Tab) (D : DTab) (N : Nat) {β : Type} (K : AV → Hp → Option β) (a0 : AV) (a1 : AV) (h : Hp) : Option β := o_ref45_Messages_G P T D N (fun s => iterK (fun s k => o_ref45_Messages_L2 P T D N s.1 s.2 k) N s (o_ref45_Messages_aL2 P T D N K)) K a0 a1 h
def f_ref45_Messages_j1 (P : Program) (T : Tab) (D : DTab) (N : Nat) {β : Type} (K : AV → Hp → Option β) (v6 : AV) (h : Hp) : Option β :=
lenK v6 fun x11 =>
arithK .gtr x11 (.s (.int .i64 64)) fun x12 =>
condK x12 (
K (.tup [(.s (.slice none 0 0)), (.s (.int .i64 8))]) h) (
K (.tup [v6, (.s (.int .i64 0))]) h)
def f_ref45_Messages_j3 (P : Program) (T : Tab) (D : DTab) (N : Nat) {β : Type} (xn : AV → AV → AV → AV → AV → Hp → Option β) (x0 : AV → Hp → Option β) (v0 : AV) (v1 : AV) (v6 : AV) (v7 : AV) (v8 : AV) (h : Hp) : Option β :=
arithK .add v8 (.s (.int .i64 1)) fun x15 =>
xn v0 v1 v6 v7 x15 h
def f_ref45_Messages_j4 (P : Program) (T : Tab) (D : DTab) (N : Nat) {β : Type} (xn : AV → AV → AV → AV → AV → Hp → Option β) (x0 : AV → Hp → Option β) (v0 : AV) (v1 : AV) (v6 : AV) (v7 : AV) (v8 : AV) (h : Hp) : Option β :=
f_ref45_Messages_j3 P T D N xn x0 v0 v1 v6 v7 v8 h
def f_ref45_Messages_j5 (P : Program) (T : Tab) (D : DTab) (N : Nat) {β : Type} (xn : AV → AV → AV → AV → AV → Hp → Option β) (x0 : AV → Hp → Option β) (v0 : AV) (v1 : AV) (v6 : AV) (v7 : AV) (v8 : AV) (h : Hp) : Option β :=
f_ref45_Messages_j4 P T D N xn x0 v0 v1 v6 v7 v8 h
def f_ref45_Messages_b2 (P : Program) (T : Tab) (D : DTab) (N : Nat) {β : Type} (xn : AV → AV → AV → AV → AV → Hp → Option β) (x0 : AV → Hp → Option β) (v0 : AV) (v1 : AV) (v6 : AV) (v7 : AV) (v8 : AV) (h : Hp) : Option β :=
lenK v0 fun x13 =>
arithK .lss v8 x13 fun x14 =>
condK x14 (
iaK 5 v0 v8 fun x16 =>
ldK 5 true x16 h fun x17 =>
effK (boxE 5 (.agg [.s (.int .i64 0), .s (.int .i64 0), .s (.int .i64 0), .s (.int .i64 0), .s (.int .i64 0)]) (List.length h)) h fun x18 h19 =>
effK (stE 5 x18 x17 h19) h19 fun x20 h21 =>
faK 1 x18 fun x22 =>
ldK 1 false x22 h21 fun x23 =>
eqK P false 3 x23 (.s (.int .i64 1)) h21 fun x24 =>
condK x24 (
faK 0 x18 fun x25 =>
ldK 1 false x25 h21 fun x26 =>
faK 2 x18 fun x27 =>
ldK 1 false x27 h21 fun x28 =>
faK 3 x18 fun x29 =>
ldK 1 false x29 h21 fun x30 =>
faK 4 x18 fun x31 =>
ldK 1 false x31 h21 fun x32 =>
buildK [.s (.int .i64 0), .s (.int .i64 0), .s (.int .i64 0), .s (.int .i64 0), .s (.int .i64 0), .s (.int .i64 0), .s (.int .i64 0)] [(some (0, 1), v1), (some (1, 1), (.s (.int .i64 1))), (some (3, 1), x26), (some (4, 1), x28), (some (5, 1), x30), (some (6, 1), x32)] fun x33 =>
effK (bsE 7 [.s (.int .i64 0), .s (.int .i64 0), .s (.int .i64 0), .s (.int .i64 0), .s (.int .i64 0), .s (.int .i64 0), .s (.int .i64 0)] 1 [(0, x33)] (List.length h21)) h21 fun x34 h35 =>
effK (appE 7 56 v6 x34 h35 (List.length h35)) h35 fun x36 h37 =>
f_ref45_Messages_j5 P T D N xn x0 v0 v1 x36 v7 v8 h37) (
eqK P false 3 x23 (.s (.int .i64 4)) h21 fun x38 =>
condK x38 (
arithK .add v7 (.s (.int .i64 1)) fun x39 =>
faK 0 x18 fun x40 =>
ldK 1 false x40 h21 fun x41 =>
faK 3 x18 fun x42 =>
ldK 1 false x42 h21 fun x43 =>
buildK [.s (.int .i64 0), .s (.int .i64 0), .s (.int .i64 0), .s (.int .i64 0), .s (.int .i64 0), .s (.int .i64 0), .s (.int .i64 0)] [(some (0, 1), v1), (some (1, 1), (.s (.int .i64 2))), (some (2, 1), x39), (some (3, 1), x41), (some (5, 1), x43)] fun x44 =>
effK (bsE 7 [.s (.int .i64 0), .s (.int .i64 0), .s (.int .i64 0), .s (.int .i64 0), .s (.int .i64 0), .s (.int .i64 0), .s (.int .i64 0)] 1 [(0, x44)] (List.length h21)) h21 fun x45 h46 =>
effK (appE 7 56 v6 x45 h46 (List.length h46)) h46 fun x47 h48 =>
f_ref45_Messages_j5 P T D N xn x0 v0 v1 x47 x39 v8 h48) (
eqK P false 3 x23 (.s (.int .i64 7)) h21 fun x49 =>
condK x49 (
faK 0 x18 fun x50 =>
ldK 1 false x50 h21 fun x51 =>
faK 4 x18 fun x52 =>
ldK 1 false x52 h21 fun x53 =>
buildK [.s (.int .i64 0), .s (.int .i64 0), .s (.int .i64 0), .s (.int .i64 0), .s (.int .i64 0), .s (.int .i64 0), .s (.int .i64 0)] [(some (0, 1), v1), (some (1, 1), (.s (.int .i64 3))), (some (3, 1), x51), (some (6, 1), x53)] fun x54 =>
faK 0 x18 fun x55 =>
ldK 1 false x55 h21 fun x56 =>
buildK [.s (.int .i64 0), .s (.int .i64 0), .s (.int .i64 0), .s (.int .i64 0), .s (.int .i64 0), .s (.int .i64 0), .s (.int .i64 0)] [(some (0, 1), v1), (some (1, 1), (.s (.int .i64 5))), (some (3, 1), x56)] fun x57 =>
effK (bsE 7 [.s (.int .i64 0), .s (.int .i64 0), .s (.int .i64 0), .s (.int .i64 0), .s (.int .i64 0), .s (.int .i64 0), .s (.int .i64 0)] 2 [(0, x54), (1, x57)] (List.length h21)) h21 fun x58 h59 =>
effK (appE 7 56 v6 x58 h59 (List.length h59)) h59 fun x60 h61 =>
f_ref45_Messages_j5 P T D N xn x0 v0 v1 x60 v7 v8 h61) (
f_ref45_Messages_j5 P T D N xn x0 v0 v1 v6 v7 v8 h21)))) (
x0 v6 h)
def f_ref45_Messages_L2 (P : Program) (T : Tab) (D : DTab) (N : Nat) {β : Type} (x0 : AV → Hp → Option β) : Nat → AV → AV → AV → AV → AV → Hp → Option β
  | 0 => fun _ _ _ _ _ _ => none
  | n + 1 => fun v0 v1 v6 v7 v8 h => f_ref45_Messages_b2 P T D N (f_ref45_Messages_L2 P T D N x0 n) x0 v0 v1 v6 v7 v8 h
def f_ref45_Messages (P : Program) (T : Tab) (D : DTab) (N : Nat) {β : Type} (K : AV → Hp → Option β) (a0 : AV) (a1 : AV) (h : Hp) : Option β :=
callK (T 25) [a0] h fun x1 h2 =>
notK x1 fun x3 =>
condK x3 (
K (.tup [(.s (.slice none 0 0)), (.s (.int .i64 1))]) h2) (
arithK .lss a1 (.s (.int .i64 1)) fun x4 =>
grpK false x4 h2 (fun k5 =>
arithK .gtr a1 (.s (.int .i64 1073741824)) fun x6 =>
k5 x6 h2) fun x7 h8 =>
condK x7 (
K (.tup [(.s (.slice none 0 0)), (.s (.int .i64 2))]) h8) (
effK (bsE 7 [.s (.int .i64 0), .s (.int .i64 0), .s (.int .i64 0), .s (.int .i64 0), .s (.int .i64 0), .s (.int .i64 0), .s (.int .i64 0)] 0 [] (List.length h8)) h8 fun x9 h10 =>
f_ref45_Messages_L2 P T D N (fun w62_6 h => f_ref45_Messages_j1 P T D N K w62_6 h) N a0 a1 x9 (.s (.int .i64 0)) (.s (.int .i64 0)) h10))
theorem f_ref45_Messages_b2_eq (P : Program) (T : Tab) (D : DTab) (N : Nat) {β : Type} (xn : AV → AV → AV → AV → AV → Hp → Option β) (x0 : AV → Hp → Option β) (xd : Nat → St → Option β) (xq : St → Option β) (t : Tm) (h : Hp) : o_ref45_Messages_L2 P T D N t h (fun (e : Ex) (s : St) => e.on (xn (s.1 0) (s.1 1) (s.1 6) (s.1 7) (s.1 8) s.2) (fun i => (bif i == 0 then x0 (s.1 6) s.2 else (xd i s))) (xq s)) = f_ref45_Messages_b2 P T D N xn x0 (t 0) (t 1) (t 6) (t 7) (t 8) h := by kernel_rfl
theorem f_ref45_Messages_L2_eq (P : Program) (T : Tab) (D : DTab) (N : Nat) {β : Type} (A : Ex → St → Option β) (x0 : AV → Hp → Option β) (q0 : ∀ s, A (.exit 0) s = x0 (s.1 6) s.2) : ∀ (n : Nat) (s : St), iterK (fun s k => o_ref45_Messages_L2 P T D N s.1 s.2 k) n s A = f_ref45_Messages_L2 P T D N x0 n (s.1 0) (s.1 1) (s.1 6) (s.1 7) (s.1 8) s.2 := by
  intro n
  induction n with
  | zero => intro s; rfl
  | succ n ih =>
    intro s
    have hk : (fun (e : Ex) (s' : St) => Ex.on e (iterK (fun s k => o_ref45_Messages_L2 P T D N s.1 s.2 k) n s' A) (fun i => A (.exit i) s') (A .ret s')) = (fun (e : Ex) (s : St) => e.on ((f_ref45_Messages_L2 P T D N x0 n) (s.1 0) (s.1 1) (s.1 6) (s.1 7) (s.1 8) s.2) (fun i => (bif i == 0 then x0 (s.1 6) s.2 else (A (.exit i) s))) (A .ret s)) := by
      funext e s'
      cases e with
      | normal => exact ih s'
      | ret => exact rfl
      | exit i =>
        by_cases r0 : i = 0
        · subst r0; exact q0 s'
        simp only [Ex.on, beq_false_of_ne r0, cond_false]
    show o_ref45_Messages_L2 P T D N s.1 s.2 (fun (e : Ex) (s' : St) => Ex.on e (iterK (fun s k => o_ref45_Messages_L2 P T D N s.1 s.2 k) n s' A) (fun i => A (.exit i) s') (A .ret s')) = _
    rw [hk]
    exact f_ref45_Messages_b2_eq P T D N (f_ref45_Messages_L2 P T D N x0 n) x0 (fun i s => A (.exit i) s) (fun s => A .ret s) s.1 s.2
theorem f_ref45_Messages_old_eq (P : Program) (T : Tab) (D : DTab) (N : Nat) {β : Type} (K : AV → Hp → Option β) (a0 : AV) (a1 : AV) (h : Hp) : o_ref45_Messages P T D N K a0 a1 h = f_ref45_Messages P T D N K a0 a1 h := by
  have eL2 : (fun s : St => iterK (fun s k => o_ref45_Messages_L2 P T D N s.1 s.2 k) N s (o_ref45_Messages_aL2 P T D N K)) = (fun s : St => f_ref45_Messages_L2 P T D N (fun w62_6 h => f_ref45_Messages_j1 P T D N K w62_6 h) N (s.1 0) (s.1 1) (s.1 6) (s.1 7) (s.1 8) s.2) := funext fun s => f_ref45_Messages_L2_eq P T D N (o_ref45_Messages_aL2 P T D N K) (fun w62_6 h => f_ref45_Messages_j1 P T D N K w62_6 h) (fun s => rfl) N s
  show o_ref45_Messages_G P T D N (fun s => iterK (fun s k => o_ref45_Messages_L2 P T D N s.1 s.2 k) N s (o_ref45_Messages_aL2 P T D N K)) K a0 a1 h = _
  rw [eL2]
  kernel_rfl
theorem o_ref45_Messages_run (T : Tab) (D : DTab) (N : Nat) {β : Type} (K : AV → Hp → Option β) (a0 : AV) (a1 : AV) (h : Hp) : runK Tryz.prog T D N [0, 1, 4, 5, 6, 7, 8, 9, 12, 18, 23, 31, 32, 47, 61, 78] Tryz.f15 K [a0, a1] h = o_ref45_Messages Tryz.prog T D N K a0 a1 h := by kernel_rfl
theorem f_ref45_Messages_run (T : Tab) (D : DTab) (N : Nat) {β : Type} (K : AV → Hp → Option β) (a0 : AV) (a1 : AV) (h : Hp) : runK Tryz.prog T D N [0, 1, 4, 5, 6, 7, 8, 9, 12, 18, 23, 31, 32, 47, 61, 78] Tryz.f15 K [a0, a1] h = f_ref45_Messages Tryz.prog T D N K a0 a1 h := (o_ref45_Messages_run T D N K a0 a1 h).trans (f_ref45_Messages_old_eq Tryz.prog T D N K a0 a1 h)
def o_ref40_Same_j1 (P : Program) (T : Tab) (D : DTab) (N : Nat) {β : Type} (K : AV → Hp → Option β) (t : Tm) (h : Hp) : Option β :=
K (.s (.bool true)) h
def o_ref40_Same_L2 (P : Program) (T : Tab) (D : DTab) (N : Nat) {β : Type} (t : Tm) (h : Hp) (k : Ex → St → Option β) : Option β :=
lenK (t 0) fun x4 =>
arithK .lss (t 5) x4 fun x5 =>
condK x5 (
iaK 7 (t 0) (t 5) fun x6 =>
ldK 7 true x6 h fun x7 =>
iaK 7 (t 1) (t 5) fun x8 =>
ldK 7 true x8 h fun x9 =>
eqK P true 67 x7 x9 h fun x10 =>
condK x10 (
k .ret ((upd (upd (upd t 14 x5) 25 x10) 4 (.s (.bool false))), h)) (
arithK .add (t 5) (.s (.int .i64 1)) fun x11 =>
k .normal ((upd (upd (upd t 14 x5) 25 x10) 5 x11), h))) (
k (.exit 0) ((upd t 14 x5), h))
def o_ref40_Same_aL2 (P : Program) (T : Tab) (D : DTab) (N : Nat) {β : Type} (K : AV → Hp → Option β) (e : Ex) (s : St) : Option β :=
  e.on ((o_ref40_Same_j1 P T D N K s.1 s.2))
  (fun i => bif i == 0 then ((o_ref40_Same_j1 P T D N K s.1 s.2)) else (none))
  (K (s.1 4) s.2)
def o_ref40_Same_G (P : Program) (T : Tab) (D : DTab) (N : Nat) {β : Type} (cL2 : St → Option β) (K : AV → Hp → Option β) (a0 : AV) (a1 : AV) (h : Hp) :  Option β :=
lenK a0 fun x1 =>
lenK a1 fun x2 =>
eqK P true 3 x1 x2 h fun x3 =>
condK x3 (
K (.s (.bool false)) h) (
cL2 ((upd (upd (upd (tm0 [a0, a1]) 4 (.s (.bool false))) 10 x3) 5 (.s (.int .i64 0))), h))
def o_ref40_Same (P : Program) (T : Tab) (D : DTab) (N : Nat) {β : Type} (K : AV → Hp → Option β) (a0 : AV) (a1 : AV) (h : Hp) : Option β := o_ref40_Same_G P T D N (fun s => iterK (fun s k => o_ref40_Same_L2 P T D N s.1 s.2 k) N s (o_ref40_Same_aL2 P T D N K)) K a0 a1 h
def f_ref40_Same_j1 (P : Program) (T : Tab) (D : DTab) (N : Nat) {β : Type} (K : AV → Hp → Option β) (h : Hp) : Option β :=
K (.s (.bool true)) h
def f_ref40_Same_b2 (P : Program) (T : Tab) (D : DTab) (N : Nat) {β : Type} (xn : AV → AV → AV → Hp → Option β) (x0 : Hp → Option β) (xr : AV → Hp → Option β) (v0 : AV) (v1 : AV) (v5 : AV) (h : Hp) : Option β :=
lenK v0 fun x4 =>
arithK .lss v5 x4 fun x5 =>
condK x5 (
iaK 7 v0 v5 fun x6 =>
ldK 7 true x6 h fun x7 =>
iaK 7 v1 v5 fun x8 =>
ldK 7 true x8 h fun x9 =>
eqK P true 67 x7 x9 h fun x10 =>
condK x10 (
xr (.s (.bool false)) h) (
arithK .add v5 (.s (.int .i64 1)) fun x11 =>
xn v0 v1 x11 h)) (
x0 h)
def f_ref40_Same_L2 (P : Program) (T : Tab) (D : DTab) (N : Nat) {β : Type} (x0 : Hp → Option β) (xr : AV → Hp → Option β) : Nat → AV → AV → AV → Hp → Option β
  | 0 => fun _ _ _ _ => none
  | n + 1 => fun v0 v1 v5 h => f_ref40_Same_b2 P T D N (f_ref40_Same_L2 P T D N x0 xr n) x0 xr v0 v1 v5 h
def f_ref40_Same (P : Program) (T : Tab) (D : DTab) (N : Nat) {β : Type} (K : AV → Hp → Option β) (a0 : AV) (a1 : AV) (h : Hp) : Option β :=
lenK a0 fun x1 =>
lenK a1 fun x2 =>
eqK P true 3 x1 x2 h fun x3 =>
condK x3 (
K (.s (.bool false)) h) (
f_ref40_Same_L2 P T D N (fun h => f_ref40_Same_j1 P T D N K h) (fun w13_4 h => K w13_4 h) N a0 a1 (.s (.int .i64 0)) h)
theorem f_ref40_Same_b2_eq (P : Program) (T : Tab) (D : DTab) (N : Nat) {β : Type} (xn : AV → AV → AV → Hp → Option β) (x0 : Hp → Option β) (xr : AV → Hp → Option β) (xd : Nat → St → Option β) (xq : St → Option β) (t : Tm) (h : Hp) : o_ref40_Same_L2 P T D N t h (fun (e : Ex) (s : St) => e.on (xn (s.1 0) (s.1 1) (s.1 5) s.2) (fun i => (bif i == 0 then x0 s.2 else (xd i s))) (xr (s.1 4) s.2)) = f_ref40_Same_b2 P T D N xn x0 xr (t 0) (t 1) (t 5) h := by kernel_rfl
theorem f_ref40_Same_L2_eq (P : Program) (T : Tab) (D : DTab) (N : Nat) {β : Type} (A : Ex → St → Option β) (x0 : Hp → Option β) (xr : AV → Hp → Option β) (q0 : ∀ s, A (.exit 0) s = x0 s.2) (qr : ∀ s, A .ret s = xr (s.1 4) s.2) : ∀ (n : Nat) (s : St), iterK (fun s k => o_ref40_Same_L2 P T D N s.1 s.2 k) n s A = f_ref40_Same_L2 P T D N x0 xr n (s.1 0) (s.1 1) (s.1 5) s.2 := by
  intro n
  induction n with
  | zero => intro s; rfl
  | succ n ih =>
    intro s
    have hk : (fun (e : Ex) (s' : St) => Ex.on e (iterK (fun s k => o_ref40_Same_L2 P T D N s.1 s.2 k) n s' A) (fun i => A (.exit i) s') (A .ret s')) = (fun (e : Ex) (s : St) => e.on ((f_ref40_Same_L2 P T D N x0 xr n) (s.1 0) (s.1 1) (s.1 5) s.2) (fun i => (bif i == 0 then x0 s.2 else (A (.exit i) s))) (xr (s.1 4) s.2)) := by
      funext e s'
      cases e with
      | normal => exact ih s'
      | ret => exact qr s'
      | exit i =>
        by_cases r0 : i = 0
        · subst r0; exact q0 s'
        simp only [Ex.on, beq_false_of_ne r0, cond_false]
    show o_ref40_Same_L2 P T D N s.1 s.2 (fun (e : Ex) (s' : St) => Ex.on e (iterK (fun s k => o_ref40_Same_L2 P T D N s.1 s.2 k) n s' A) (fun i => A (.exit i) s') (A .ret s')) = _
    rw [hk]
    exact f_ref40_Same_b2_eq P T D N (f_ref40_Same_L2 P T D N x0 xr n) x0 xr (fun i s => A (.exit i) s) (fun s => A .ret s) s.1 s.2
theorem f_ref40_Same_old_eq (P : Program) (T : Tab) (D : DTab) (N : Nat) {β : Type} (K : AV → Hp → Option β) (a0 : AV) (a1 : AV) (h : Hp) : o_ref40_Same P T D N K a0 a1 h = f_ref40_Same P T D N K a0 a1 h := by
  have eL2 : (fun s : St => iterK (fun s k => o_ref40_Same_L2 P T D N s.1 s.2 k) N s (o_ref40_Same_aL2 P T D N K)) = (fun s : St => f_ref40_Same_L2 P T D N (fun h => f_ref40_Same_j1 P T D N K h) (fun w13_4 h => K w13_4 h) N (s.1 0) (s.1 1) (s.1 5) s.2) := funext fun s => f_ref40_Same_L2_eq P T D N (o_ref40_Same_aL2 P T D N K) (fun h => f_ref40_Same_j1 P T D N K h) (fun w13_4 h => K w13_4 h) (fun s => rfl) (fun s => rfl) N s
  show o_ref40_Same_G P T D N (fun s => iterK (fun s k => o_ref40_Same_L2 P T D N s.1 s.2 k) N s (o_ref40_Same_aL2 P T D N K)) K a0 a1 h = _
  rw [eL2]
  kernel_rfl
theorem o_ref40_Same_run (T : Tab) (D : DTab) (N : Nat) {β : Type} (K : AV → Hp → Option β) (a0 : AV) (a1 : AV) (h : Hp) : runK Tryz.prog T D N [0, 1, 4, 5, 10, 14, 25] Tryz.f16 K [a0, a1] h = o_ref40_Same Tryz.prog T D N K a0 a1 h := by kernel_rfl
theorem f_ref40_Same_run (T : Tab) (D : DTab) (N : Nat) {β : Type} (K : AV → Hp → Option β) (a0 : AV) (a1 : AV) (h : Hp) : runK Tryz.prog T D N [0, 1, 4, 5, 10, 14, 25] Tryz.f16 K [a0, a1] h = f_ref40_Same Tryz.prog T D N K a0 a1 h := (o_ref40_Same_run T D N K a0 a1 h).trans (f_ref40_Same_old_eq Tryz.prog T D N K a0 a1 h)
def o_journey_Run_j1 (P : Program) (T : Tab) (D : DTab) (N : Nat) {β : Type} (K : AV → Hp → Option β) (t : Tm) (h : Hp) : Option β :=
ldK 9 true (t 5) h fun x12 =>
effK (stE 9 (t 2) x12 h) h fun x13 h14 =>
ldK 9 true (t 2) h14 fun r15 =>
K (.tup [r15, (.s (.int .i64 (-1))), (.s (.int .i64 0))]) h14
def o_journey_Run_L2 (P : Program) (T : Tab) (D : DTab) (N : Nat) {β : Type} (t : Tm) (h : Hp) (k : Ex → St → Option β) : Option β :=
arithK .lss (t 16) (t 15) fun x16 =>
condK x16 (
iaK 5 (t 14) (t 16) fun x17 =>
ldK 5 true x17 h fun x18 =>
effK (boxE 5 (.agg [.s (.int .i64 0), .s (.int .i64 0), .s (.int .i64 0), .s (.int .i64 0), .s (.int .i64 0)]) (List.length h)) h fun x19 h20 =>
effK (stE 5 x19 x18 h20) h20 fun x21 h22 =>
ldK 9 true (t 5) h22 fun x23 =>
arithK .gtr (t 16) (.s (.int .i64 0)) fun x24 =>
ldK 5 true x19 h22 fun x25 =>
callK (T 34) [x23, x24, (t 6), x25] h22 fun x26 h27 =>
eqK P true 28 x26 (.s (.int .i64 0)) h27 fun x28 =>
condK x28 (
buildK [.s (.int .i64 0), .s (.int .i64 0), .s (.int .i64 0), .s (.int .i64 0), .s (.int .i64 0), .s (.int .i64 0), .s (.int .i64 0), .s (.bool false), .s (.bool false)] [] fun x29 =>
effK (stE 9 (t 2) x29 h27) h27 fun x30 h31 =>
k .ret ((upd (upd (upd (upd (upd (upd (upd t 17 x16) 8 x19) 7 (t 16)) 9 x26) 28 x28) 3 (t 16)) 4 x26), h31)) (
effD (callE (D 35) [] h27 (List.length h27)) h27 fun x32 h33 e34 =>
faK 1 x19 fun x35 =>
ldK 1 false x35 h33 fun x36 =>
ixA 3 8 true x32 x36 fun x37 =>
fldK 1 false 2 x37 fun x38 =>
ldK 5 true x19 h33 fun x39 =>
effD (callVE D x38 [(t 5), x39] h33 (List.length h33)) h33 fun x40 h41 e42 =>
bif disjAll [(0, 2), (0, 5)] [e34, ([], []), ((idsOf x35), []), ([], []), ([], []), ((idsOf x19), []), e42] then (
faK 0 x19 fun x43 =>
ldK 1 false x43 h41 fun x44 =>
arithK .add (t 16) (.s (.int .i64 1)) fun x45 =>
k .normal ((upd (upd (upd (upd (upd (upd (upd t 17 x16) 8 x19) 7 (t 16)) 9 x26) 28 x28) 6 x44) 16 x45), h41)) else none)) (
k (.exit 0) ((upd t 17 x16), h))
def o_journey_Run_aL2 (P : Program) (T : Tab) (D : DTab) (N : Nat) {β : Type} (K : AV → Hp → Option β) (e : Ex) (s : St) : Option β :=
  e.on ((o_journey_Run_j1 P T D N K s.1 s.2))
  (fun i => bif i == 0 then ((o_journey_Run_j1 P T D N K s.1 s.2)) else (none))
  (ldK 9 true (s.1 2) s.2 fun r46 =>
K (.tup [r46, (s.1 3), (s.1 4)]) s.2)
def o_journey_Run_G (P : Program) (T : Tab) (D : DTab) (N : Nat) {β : Type} (cL2 : St → Option β) (K : AV → Hp → Option β) (a0 : AV) (h : Hp) :  Option β :=
effK (boxE 9 (.agg [.s (.int .i64 0), .s (.int .i64 0), .s (.int .i64 0), .s (.int .i64 0), .s (.int .i64 0), .s (.int .i64 0), .s (.int .i64 0), .s (.bool false), .s (.bool false)]) (List.length h)) h fun x1 h2 =>
lenK a0 fun x3 =>
arithK .gtr x3 (.s (.int .i64 128)) fun x4 =>
condK x4 (
buildK [.s (.int .i64 0), .s (.int .i64 0), .s (.int .i64 0), .s (.int .i64 0), .s (.int .i64 0), .s (.int .i64 0), .s (.int .i64 0), .s (.bool false), .s (.bool false)] [] fun x5 =>
effK (stE 9 x1 x5 h2) h2 fun x6 h7 =>
ldK 9 true x1 h7 fun r8 =>
K (.tup [r8, (.s (.int .i64 (-1))), (.s (.int .i64 8))]) h7) (
effK (boxE 9 (.agg [.s (.int .i64 0), .s (.int .i64 0), .s (.int .i64 0), .s (.int .i64 0), .s (.int .i64 0), .s (.int .i64 0), .s (.int .i64 0), .s (.bool false), .s (.bool false)]) (List.length h2)) h2 fun x9 h10 =>
lenK a0 fun x11 =>
cL2 ((upd (upd (upd (upd (upd (upd (upd (upd (upd (tm0 [a0]) 2 x1) 3 (.s (.int .i64 0))) 4 (.s (.int .i64 0))) 12 x4) 5 x9) 6 (.s (.int .i64 0))) 14 a0) 15 x11) 16 (.s (.int .i64 0))), h10))
def o_journey_Run (P : Program) (T : Tab) (D : DTab) (N : Nat) {β : Type} (K : AV → Hp → Option β) (a0 : AV) (h : Hp) : Option β := o_journey_Run_G P T D N (fun s => iterK (fun s k => o_journey_Run_L2 P T D N s.1 s.2 k) N s (o_journey_Run_aL2 P T D N K)) K a0 h
def f_journey_Run_j1 (P : Program) (T : Tab) (D : DTab) (N : Nat) {β : Type} (K : AV → Hp → Option β) (v2 : AV) (v5 : AV) (h : Hp) : Option β :=
ldK 9 true v5 h fun x12 =>
effK (stE 9 v2 x12 h) h fun x13 h14 =>
ldK 9 true v2 h14 fun r15 =>
K (.tup [r15, (.s (.int .i64 (-1))), (.s (.int .i64 0))]) h14
def f_journey_Run_b2 (P : Program) (T : Tab) (D : DTab) (N : Nat) {β : Type} (xn : AV → AV → AV → AV → AV → AV → Hp → Option β) (x0 : AV → AV → Hp → Option β) (xr : AV → AV → AV → Hp → Option β) (v2 : AV) (v5 : AV) (v6 : AV) (v14 : AV) (v15 : AV) (v16 : AV) (h : Hp) : Option β :=
arithK .lss v16 v15 fun x16 =>
condK x16 (
iaK 5 v14 v16 fun x17 =>
ldK 5 true x17 h fun x18 =>
effK (boxE 5 (.agg [.s (.int .i64 0), .s (.int .i64 0), .s (.int .i64 0), .s (.int .i64 0), .s (.int .i64 0)]) (List.length h)) h fun x19 h20 =>
effK (stE 5 x19 x18 h20) h20 fun x21 h22 =>
ldK 9 true v5 h22 fun x23 =>
arithK .gtr v16 (.s (.int .i64 0)) fun x24 =>
ldK 5 true x19 h22 fun x25 =>
callK (T 34) [x23, x24, v6, x25] h22 fun x26 h27 =>
eqK P true 28 x26 (.s (.int .i64 0)) h27 fun x28 =>
condK x28 (
buildK [.s (.int .i64 0), .s (.int .i64 0), .s (.int .i64 0), .s (.int .i64 0), .s (.int .i64 0), .s (.int .i64 0), .s (.int .i64 0), .s (.bool false), .s (.bool false)] [] fun x29 =>
effK (stE 9 v2 x29 h27) h27 fun x30 h31 =>
xr v2 v16 x26 h31) (
effD (callE (D 35) [] h27 (List.length h27)) h27 fun x32 h33 e34 =>
faK 1 x19 fun x35 =>
ldK 1 false x35 h33 fun x36 =>
ixA 3 8 true x32 x36 fun x37 =>
fldK 1 false 2 x37 fun x38 =>
ldK 5 true x19 h33 fun x39 =>
effD (callVE D x38 [v5, x39] h33 (List.length h33)) h33 fun x40 h41 e42 =>
bif disjAll [(0, 2), (0, 5)] [e34, ([], []), ((idsOf x35), []), ([], []), ([], []), ((idsOf x19), []), e42] then (
faK 0 x19 fun x43 =>
ldK 1 false x43 h41 fun x44 =>
arithK .add v16 (.s (.int .i64 1)) fun x45 =>
xn v2 v5 x44 v14 v15 x45 h41) else none)) (
x0 v2 v5 h)
def f_journey_Run_L2 (P : Program) (T : Tab) (D : DTab) (N : Nat) {β : Type} (x0 : AV → AV → Hp → Option β) (xr : AV → AV → AV → Hp → Option β) : Nat → AV → AV → AV → AV → AV → AV → Hp → Option β
  | 0 => fun _ _ _ _ _ _ _ => none
  | n + 1 => fun v2 v5 v6 v14 v15 v16 h => f_journey_Run_b2 P T D N (f_journey_Run_L2 P T D N x0 xr n) x0 xr v2 v5 v6 v14 v15 v16 h
def f_journey_Run (P : Program) (T : Tab) (D : DTab) (N : Nat) {β : Type} (K : AV → Hp → Option β) (a0 : AV) (h : Hp) : Option β :=
effK (boxE 9 (.agg [.s (.int .i64 0), .s (.int .i64 0), .s (.int .i64 0), .s (.int .i64 0), .s (.int .i64 0), .s (.int .i64 0), .s (.int .i64 0), .s (.bool false), .s (.bool false)]) (List.length h)) h fun x1 h2 =>
lenK a0 fun x3 =>
arithK .gtr x3 (.s (.int .i64 128)) fun x4 =>
condK x4 (
buildK [.s (.int .i64 0), .s (.int .i64 0), .s (.int .i64 0), .s (.int .i64 0), .s (.int .i64 0), .s (.int .i64 0), .s (.int .i64 0), .s (.bool false), .s (.bool false)] [] fun x5 =>
effK (stE 9 x1 x5 h2) h2 fun x6 h7 =>
ldK 9 true x1 h7 fun r8 =>
K (.tup [r8, (.s (.int .i64 (-1))), (.s (.int .i64 8))]) h7) (
effK (boxE 9 (.agg [.s (.int .i64 0), .s (.int .i64 0), .s (.int .i64 0), .s (.int .i64 0), .s (.int .i64 0), .s (.int .i64 0), .s (.int .i64 0), .s (.bool false), .s (.bool false)]) (List.length h2)) h2 fun x9 h10 =>
lenK a0 fun x11 =>
f_journey_Run_L2 P T D N (fun w46_2 w46_5 h => f_journey_Run_j1 P T D N K w46_2 w46_5 h) (fun w47_2 w47_3 w47_4 h => ldK 9 true w47_2 h fun r48 =>
K (.tup [r48, w47_3, w47_4]) h) N x1 x9 (.s (.int .i64 0)) a0 x11 (.s (.int .i64 0)) h10)
theorem f_journey_Run_b2_eq (P : Program) (T : Tab) (D : DTab) (N : Nat) {β : Type} (xn : AV → AV → AV → AV → AV → AV → Hp → Option β) (x0 : AV → AV → Hp → Option β) (xr : AV → AV → AV → Hp → Option β) (xd : Nat → St → Option β) (xq : St → Option β) (t : Tm) (h : Hp) : o_journey_Run_L2 P T D N t h (fun (e : Ex) (s : St) => e.on (xn (s.1 2) (s.1 5) (s.1 6) (s.1 14) (s.1 15) (s.1 16) s.2) (fun i => (bif i == 0 then x0 (s.1 2) (s.1 5) s.2 else (xd i s))) (xr (s.1 2) (s.1 3) (s.1 4) s.2)) = f_journey_Run_b2 P T D N xn x0 xr (t 2) (t 5) (t 6) (t 14) (t 15) (t 16) h := by kernel_rfl
theorem f_journey_Run_L2_eq (P : Program) (T : Tab) (D : DTab) (N : Nat) {β : Type} (A : Ex → St → Option β) (x0 : AV → AV → Hp → Option β) (xr : AV → AV → AV → Hp → Option β) (q0 : ∀ s, A (.exit 0) s = x0 (s.1 2) (s.1 5) s.2) (qr : ∀ s, A .ret s = xr (s.1 2) (s.1 3) (s.1 4) s.2) : ∀ (n : Nat) (s : St), iterK (fun s k => o_journey_Run_L2 P T D N s.1 s.2 k) n s A = f_journey_Run_L2 P T D N x0 xr n (s.1 2) (s.1 5) (s.1 6) (s.1 14) (s.1 15) (s.1 16) s.2 := by
  intro n
  induction n with
  | zero => intro s; rfl
  | succ n ih =>
    intro s
    have hk : (fun (e : Ex) (s' : St) => Ex.on e (iterK (fun s k => o_journey_Run_L2 P T D N s.1 s.2 k) n s' A) (fun i => A (.exit i) s') (A .ret s')) = (fun (e : Ex) (s : St) => e.on ((f_journey_Run_L2 P T D N x0 xr n) (s.1 2) (s.1 5) (s.1 6) (s.1 14) (s.1 15) (s.1 16) s.2) (fun i => (bif i == 0 then x0 (s.1 2) (s.1 5) s.2 else (A (.exit i) s))) (xr (s.1 2) (s.1 3) (s.1 4) s.2)) := by
      funext e s'
      cases e with
      | normal => exact ih s'
      | ret => exact qr s'
      | exit i =>
        by_cases r0 : i = 0
        · subst r0; exact q0 s'
        simp only [Ex.on, beq_false_of_ne r0, cond_false]
    show o_journey_Run_L2 P T D N s.1 s.2 (fun (e : Ex) (s' : St) => Ex.on e (iterK (fun s k => o_journey_Run_L2 P T D N s.1 s.2 k) n s' A) (fun i => A (.exit i) s') (A .ret s')) = _
    rw [hk]
    exact f_journey_Run_b2_eq P T D N (f_journey_Run_L2 P T D N x0 xr n) x0 xr (fun i s => A (.exit i) s) (fun s => A .ret s) s.1 s.2
theorem f_journey_Run_old_eq (P : Program) (T : Tab) (D : DTab) (N : Nat) {β : Type} (K : AV → Hp → Option β) (a0 : AV) (h : Hp) : o_journey_Run P T D N K a0 h = f_journey_Run P T D N K a0 h := by
  have eL2 : (fun s : St => iterK (fun s k => o_journey_Run_L2 P T D N s.1 s.2 k) N s (o_journey_Run_aL2 P T D N K)) = (fun s : St => f_journey_Run_L2 P T D N (fun w46_2 w46_5 h => f_journey_Run_j1 P T D N K w46_2 w46_5 h) (fun w47_2 w47_3 w47_4 h => ldK 9 true w47_2 h fun r48 =>
K (.tup [r48, w47_3, w47_4]) h) N (s.1 2) (s.1 5) (s.1 6) (s.1 14) (s.1 15) (s.1 16) s.2) := funext fun s => f_journey_Run_L2_eq P T D N (o_journey_Run_aL2 P T D N K) (fun w46_2 w46_5 h => f_journey_Run_j1 P T D N K w46_2 w46_5 h) (fun w47_2 w47_3 w47_4 h => ldK 9 true w47_2 h fun r48 =>
K (.tup [r48, w47_3, w47_4]) h) (fun s => rfl) (fun s => rfl) N s
  show o_journey_Run_G P T D N (fun s => iterK (fun s k => o_journey_Run_L2 P T D N s.1 s.2 k) N s (o_journey_Run_aL2 P T D N K)) K a0 h = _
  rw [eL2]
  kernel_rfl
theorem o_journey_Run_run (T : Tab) (D : DTab) (N : Nat) {β : Type} (K : AV → Hp → Option β) (a0 : AV) (h : Hp) : runK Tryz.prog T D N [0, 2, 3, 4, 5, 6, 7, 8, 9, 12, 14, 15, 16, 17, 28] Tryz.f17 K [a0] h = o_journey_Run Tryz.prog T D N K a0 h := by kernel_rfl
theorem f_journey_Run_run (T : Tab) (D : DTab) (N : Nat) {β : Type} (K : AV → Hp → Option β) (a0 : AV) (h : Hp) : runK Tryz.prog T D N [0, 2, 3, 4, 5, 6, 7, 8, 9, 12, 14, 15, 16, 17, 28] Tryz.f17 K [a0] h = f_journey_Run Tryz.prog T D N K a0 h := (o_journey_Run_run T D N K a0 h).trans (f_journey_Run_old_eq Tryz.prog T D N K a0 h)
def f_law45_example (P : Program) (T : Tab) (D : DTab) (N : Nat) {β : Type} (K : AV → Hp → Option β) (h : Hp) : Option β :=
buildK [.s (.int .i64 0), .s (.int .i64 0), .s (.int .i64 0), .s (.int .i64 0), .s (.int .i64 0)] [(some (0, 1), (.s (.int .i64 10))), (some (1, 1), (.s (.int .i64 1))), (some (2, 1), (.s (.int .i64 1))), (some (3, 1), (.s (.int .i64 2))), (some (4, 1), (.s (.int .i64 1000)))] fun x1 =>
buildK [.s (.int .i64 0), .s (.int .i64 0), .s (.int .i64 0), .s (.int .i64 0), .s (.int .i64 0)] [(some (0, 1), (.s (.int .i64 12))), (some (1, 1), (.s (.int .i64 2))), (some (2, 1), (.s (.int .i64 5)))] fun x2 =>
buildK [.s (.int .i64 0), .s (.int .i64 0), .s (.int .i64 0), .s (.int .i64 0), .s (.int .i64 0)] [(some (0, 1), (.s (.int .i64 15))), (some (1, 1), (.s (.int .i64 3)))] fun x3 =>
buildK [.s (.int .i64 0), .s (.int .i64 0), .s (.int .i64 0), .s (.int .i64 0), .s (.int .i64 0)] [(some (0, 1), (.s (.int .i64 16))), (some (1, 1), (.s (.int .i64 4))), (some (3, 1), (.s (.int .i64 3)))] fun x4 =>
buildK [.s (.int .i64 0), .s (.int .i64 0), .s (.int .i64 0), .s (.int .i64 0), .s (.int .i64 0)] [(some (0, 1), (.s (.int .i64 20))), (some (1, 1), (.s (.int .i64 7))), (some (2, 1), (.s (.int .i64 3))), (some (4, 1), (.s (.int .i64 950)))] fun x5 =>
effK (bsE 5 [.s (.int .i64 0), .s (.int .i64 0), .s (.int .i64 0), .s (.int .i64 0), .s (.int .i64 0)] 5 [(0, x1), (1, x2), (2, x3), (3, x4), (4, x5)] (List.length h)) h fun x6 h7 =>
K x6 h7
theorem f_law45_example_run (T : Tab) (D : DTab) (N : Nat) {β : Type} (K : AV → Hp → Option β) (h : Hp) : runK Tryz.prog T D N [0] Tryz.f19 K [] h = f_law45_example Tryz.prog T D N K  h := by kernel_rfl
def o_journey_Transit_j1 (P : Program) (T : Tab) (D : DTab) (N : Nat) {β : Type} (K : AV → Hp → Option β) (t : Tm) (h : Hp) : Option β :=
K (.tup [(t 6), (.s (.int .i64 0))]) h
def o_journey_Transit_L2 (P : Program) (T : Tab) (D : DTab) (N : Nat) {β : Type} (t : Tm) (h : Hp) (k : Ex → St → Option β) : Option β :=
arithK .lss (t 22) (t 21) fun x9 =>
condK x9 (
iaK 1 (t 20) (t 22) fun x10 =>
ldK 1 false x10 h fun x11 =>
callK (T 40) [x11, (t 1)] h fun x12 h13 =>
fldK 1 false 4 x12 fun x14 =>
arithK .add (t 6) x14 fun x15 =>
arithK .add (t 22) (.s (.int .i64 1)) fun x16 =>
k .normal ((upd (upd (upd (upd t 23 x9) 8 x11) 6 x15) 22 x16), h13)) (
k (.exit 1) ((upd t 23 x9), h))
def o_journey_Transit_aL2 (P : Program) (T : Tab) (D : DTab) (N : Nat) {β : Type} (K : AV → Hp → Option β) (e : Ex) (s : St) : Option β :=
  e.on ((o_journey_Transit_j1 P T D N K s.1 s.2))
  (fun i => bif i == 1 then ((o_journey_Transit_j1 P T D N K s.1 s.2)) else (none))
  (K (.tup [(s.1 4), (s.1 5)]) s.2)
def o_journey_Transit_G (P : Program) (T : Tab) (D : DTab) (N : Nat) {β : Type} (cL2 : St → Option β) (K : AV → Hp → Option β) (a0 : AV) (a1 : AV) (h : Hp) :  Option β :=
lenK a0 fun x1 =>
arithK .gtr x1 (.s (.int .i64 16)) fun x2 =>
condK x2 (
K (.tup [(.s (.int .i64 0)), (.s (.int .i64 8))]) h) (
callK (T 38) [a0, (.fn 39 [])] h fun x3 h4 =>
condK x3 (
K (.tup [(.s (.int .i64 0)), (.s (.int .i64 1))]) h4) (
callK (T 24) [a1, (.s (.int .i64 0)), (.s (.int .i64 100000))] h4 fun x5 h6 =>
notK x5 fun x7 =>
condK x7 (
K (.tup [(.s (.int .i64 0)), (.s (.int .i64 2))]) h6) (
lenK a0 fun x8 =>
cL2 ((upd (upd (upd (upd (upd (upd (upd (upd (upd (tm0 [a0, a1]) 4 (.s (.int .i64 0))) 5 (.s (.int .i64 0))) 9 x2) 13 x3) 16 x7) 6 (.s (.int .i64 0))) 20 a0) 21 x8) 22 (.s (.int .i64 0))), h6))))
def o_journey_Transit (P : Program) (T : Tab) (D : DTab) (N : Nat) {β : Type} (K : AV → Hp → Option β) (a0 : AV) (a1 : AV) (h : Hp) : Option β := o_journey_Transit_G P T D N (fun s => iterK (fun s k => o_journey_Transit_L2 P T D N s.1 s.2 k) N s (o_journey_Transit_aL2 P T D N K)) K a0 a1 h
def f_journey_Transit_j1 (P : Program) (T : Tab) (D : DTab) (N : Nat) {β : Type} (K : AV → Hp → Option β) (v6 : AV) (h : Hp) : Option β :=
K (.tup [v6, (.s (.int .i64 0))]) h
def f_journey_Transit_b2 (P : Program) (T : Tab) (D : DTab) (N : Nat) {β : Type} (xn : AV → AV → AV → AV → AV → Hp → Option β) (x1 : AV → Hp → Option β) (v1 : AV) (v6 : AV) (v20 : AV) (v21 : AV) (v22 : AV) (h : Hp) : Option β :=
arithK .lss v22 v21 fun x9 =>
condK x9 (
iaK 1 v20 v22 fun x10 =>
ldK 1 false x10 h fun x11 =>
callK (T 40) [x11, v1] h fun x12 h13 =>
fldK 1 false 4 x12 fun x14 =>
arithK .add v6 x14 fun x15 =>
arithK .add v22 (.s (.int .i64 1)) fun x16 =>
xn v1 x15 v20 v21 x16 h13) (
x1 v6 h)
def f_journey_Transit_L2 (P : Program) (T : Tab) (D : DTab) (N : Nat) {β : Type} (x1 : AV → Hp → Option β) : Nat → AV → AV → AV → AV → AV → Hp → Option β
  | 0 => fun _ _ _ _ _ _ => none
  | n + 1 => fun v1 v6 v20 v21 v22 h => f_journey_Transit_b2 P T D N (f_journey_Transit_L2 P T D N x1 n) x1 v1 v6 v20 v21 v22 h
def f_journey_Transit (P : Program) (T : Tab) (D : DTab) (N : Nat) {β : Type} (K : AV → Hp → Option β) (a0 : AV) (a1 : AV) (h : Hp) : Option β :=
lenK a0 fun x1 =>
arithK .gtr x1 (.s (.int .i64 16)) fun x2 =>
condK x2 (
K (.tup [(.s (.int .i64 0)), (.s (.int .i64 8))]) h) (
callK (T 38) [a0, (.fn 39 [])] h fun x3 h4 =>
condK x3 (
K (.tup [(.s (.int .i64 0)), (.s (.int .i64 1))]) h4) (
callK (T 24) [a1, (.s (.int .i64 0)), (.s (.int .i64 100000))] h4 fun x5 h6 =>
notK x5 fun x7 =>
condK x7 (
K (.tup [(.s (.int .i64 0)), (.s (.int .i64 2))]) h6) (
lenK a0 fun x8 =>
f_journey_Transit_L2 P T D N (fun w17_6 h => f_journey_Transit_j1 P T D N K w17_6 h) N a1 (.s (.int .i64 0)) a0 x8 (.s (.int .i64 0)) h6)))
theorem f_journey_Transit_b2_eq (P : Program) (T : Tab) (D : DTab) (N : Nat) {β : Type} (xn : AV → AV → AV → AV → AV → Hp → Option β) (x1 : AV → Hp → Option β) (xd : Nat → St → Option β) (xq : St → Option β) (t : Tm) (h : Hp) : o_journey_Transit_L2 P T D N t h (fun (e : Ex) (s : St) => e.on (xn (s.1 1) (s.1 6) (s.1 20) (s.1 21) (s.1 22) s.2) (fun i => (bif i == 1 then x1 (s.1 6) s.2 else (xd i s))) (xq s)) = f_journey_Transit_b2 P T D N xn x1 (t 1) (t 6) (t 20) (t 21) (t 22) h := by kernel_rfl
theorem f_journey_Transit_L2_eq (P : Program) (T : Tab) (D : DTab) (N : Nat) {β : Type} (A : Ex → St → Option β) (x1 : AV → Hp → Option β) (q1 : ∀ s, A (.exit 1) s = x1 (s.1 6) s.2) : ∀ (n : Nat) (s : St), iterK (fun s k => o_journey_Transit_L2 P T D N s.1 s.2 k) n s A = f_journey_Transit_L2 P T D N x1 n (s.1 1) (s.1 6) (s.1 20) (s.1 21) (s.1 22) s.2 := by
  intro n
  induction n with
  | zero => intro s; rfl
  | succ n ih =>
    intro s
    have hk : (fun (e : Ex) (s' : St) => Ex.on e (iterK (fun s k => o_journey_Transit_L2 P T D N s.1 s.2 k) n s' A) (fun i => A (.exit i) s') (A .ret s')) = (fun (e : Ex) (s : St) => e.on ((f_journey_Transit_L2 P T D N x1 n) (s.1 1) (s.1 6) (s.1 20) (s.1 21) (s.1 22) s.2) (fun i => (bif i == 1 then x1 (s.1 6) s.2 else (A (.exit i) s))) (A .ret s)) := by
      funext e s'
      cases e with
      | normal => exact ih s'
      | ret => exact rfl
      | exit i =>
        by_cases r1 : i = 1
        · subst r1; exact q1 s'
        simp only [Ex.on, beq_false_of_ne r1, cond_false]
    show o_journey_Transit_L2 P T D N s.1 s.2 (fun (e : Ex) (s' : St) => Ex.on e (iterK (fun s k => o_journey_Transit_L2 P T D N s.1 s.2 k) n s' A) (fun i => A (.exit i) s') (A .ret s')) = _
    rw [hk]
    exact f_journey_Transit_b2_eq P T D N (f_journey_Transit_L2 P T D N x1 n) x1 (fun i s => A (.exit i) s) (fun s => A .ret s) s.1 s.2
theorem f_journey_Transit_old_eq (P : Program) (T : Tab) (D : DTab) (N : Nat) {β : Type} (K : AV → Hp → Option β) (a0 : AV) (a1 : AV) (h : Hp) : o_journey_Transit P T D N K a0 a1 h = f_journey_Transit P T D N K a0 a1 h := by
  have eL2 : (fun s : St => iterK (fun s k => o_journey_Transit_L2 P T D N s.1 s.2 k) N s (o_journey_Transit_aL2 P T D N K)) = (fun s : St => f_journey_Transit_L2 P T D N (fun w17_6 h => f_journey_Transit_j1 P T D N K w17_6 h) N (s.1 1) (s.1 6) (s.1 20) (s.1 21) (s.1 22) s.2) := funext fun s => f_journey_Transit_L2_eq P T D N (o_journey_Transit_aL2 P T D N K) (fun w17_6 h => f_journey_Transit_j1 P T D N K w17_6 h) (fun s => rfl) N s
  show o_journey_Transit_G P T D N (fun s => iterK (fun s k => o_journey_Transit_L2 P T D N s.1 s.2 k) N s (o_journey_Transit_aL2 P T D N K)) K a0 a1 h = _
  rw [eL2]
  kernel_rfl
theorem o_journey_Transit_run (T : Tab) (D : DTab) (N : Nat) {β : Type} (K : AV → Hp → Option β) (a0 : AV) (a1 : AV) (h : Hp) : runK Tryz.prog T D N [0, 1, 4, 5, 6, 8, 9, 13, 16, 20, 21, 22, 23] Tryz.f20 K [a0, a1] h = o_journey_Transit Tryz.prog T D N K a0 a1 h := by kernel_rfl
theorem f_journey_Transit_run (T : Tab) (D : DTab) (N : Nat) {β : Type} (K : AV → Hp → Option β) (a0 : AV) (a1 : AV) (h : Hp) : runK Tryz.prog T D N [0, 1, 4, 5, 6, 8, 9, 13, 16, 20, 21, 22, 23] Tryz.f20 K [a0, a1] h = f_journey_Transit Tryz.prog T D N K a0 a1 h := (o_journey_Transit_run T D N K a0 a1 h).trans (f_journey_Transit_old_eq Tryz.prog T D N K a0 a1 h)
def f_law45_table (P : Program) (T : Tab) (D : DTab) (N : Nat) {β : Type} (K : AV → Hp → Option β) (h : Hp) : Option β :=
buildK [.s (.int .i64 0), .s (.int .i64 0), .s (.int .i64 0), .s (.int .i64 0)] [(some (0, 1), (.s (.int .i64 0))), (some (1, 1), (.s (.int .i64 9))), (some (2, 1), (.s (.int .i64 1))), (some (3, 1), (.s (.int .i64 1000)))] fun x1 =>
effK (bsE 4 [.s (.int .i64 0), .s (.int .i64 0), .s (.int .i64 0), .s (.int .i64 0)] 1 [(0, x1)] (List.length h)) h fun x2 h3 =>
K x2 h3
theorem f_law45_table_run (T : Tab) (D : DTab) (N : Nat) {β : Type} (K : AV → Hp → Option β) (h : Hp) : runK Tryz.prog T D N [0] Tryz.f21 K [] h = f_law45_table Tryz.prog T D N K  h := by kernel_rfl
def f_ref45_Few (P : Program) (T : Tab) (D : DTab) (N : Nat) {β : Type} (K : AV → Hp → Option β) (a0 : AV) (h : Hp) : Option β :=
lenK a0 fun x1 =>
arithK .leq x1 (.s (.int .i64 16)) fun x2 =>
grpK false x2 h (fun k3 =>
lenK a0 fun x4 =>
eqK P false 3 x4 (.s (.int .i64 129)) h fun x5 =>
k3 x5 h) fun x6 h7 =>
K x6 h7
theorem f_ref45_Few_run (T : Tab) (D : DTab) (N : Nat) {β : Type} (K : AV → Hp → Option β) (a0 : AV) (h : Hp) : runK Tryz.prog T D N [0, 2] Tryz.f22 K [a0] h = f_ref45_Few Tryz.prog T D N K a0 h := by kernel_rfl
def f_journey_right (P : Program) (T : Tab) (D : DTab) (N : Nat) {β : Type} (K : AV → Hp → Option β) (a0 : AV) (h : Hp) : Option β :=
callK (T 17) [a0] h fun x1 h2 =>
exK x1 0 fun x3 =>
exK x1 1 fun x4 =>
exK x1 2 fun x5 =>
effK (boxE 9 (.agg [.s (.int .i64 0), .s (.int .i64 0), .s (.int .i64 0), .s (.int .i64 0), .s (.int .i64 0), .s (.int .i64 0), .s (.int .i64 0), .s (.bool false), .s (.bool false)]) (List.length h2)) h2 fun x6 h7 =>
effK (stE 9 x6 x3 h7) h7 fun x8 h9 =>
eqK P false 28 x5 (.s (.int .i64 0)) h9 fun x10 =>
K x10 h9
theorem f_journey_right_run (T : Tab) (D : DTab) (N : Nat) {β : Type} (K : AV → Hp → Option β) (a0 : AV) (h : Hp) : runK Tryz.prog T D N [0, 2, 5] Tryz.f23 K [a0] h = f_journey_right Tryz.prog T D N K a0 h := by kernel_rfl
def f_journey_in (P : Program) (T : Tab) (D : DTab) (N : Nat) {β : Type} (K : AV → Hp → Option β) (a0 : AV) (a1 : AV) (a2 : AV) (h : Hp) : Option β :=
arithK .geq a0 a1 fun x1 =>
grpK true x1 h (fun k2 =>
arithK .leq a0 a2 fun x3 =>
k2 x3 h) fun x4 h5 =>
K x4 h5
theorem f_journey_in_run (T : Tab) (D : DTab) (N : Nat) {β : Type} (K : AV → Hp → Option β) (a0 : AV) (a1 : AV) (a2 : AV) (h : Hp) : runK Tryz.prog T D N [0, 1, 2, 6] Tryz.f24 K [a0, a1, a2] h = f_journey_in Tryz.prog T D N K a0 a1 a2 h := by kernel_rfl
def f_ref45_right (P : Program) (T : Tab) (D : DTab) (N : Nat) {β : Type} (K : AV → Hp → Option β) (a0 : AV) (h : Hp) : Option β :=
callK (T 31) [a0] h fun x1 h2 =>
exK x1 0 fun x3 =>
exK x1 1 fun x4 =>
exK x1 2 fun x5 =>
effK (boxE 9 (.agg [.s (.int .i64 0), .s (.int .i64 0), .s (.int .i64 0), .s (.int .i64 0), .s (.int .i64 0), .s (.int .i64 0), .s (.int .i64 0), .s (.bool false), .s (.bool false)]) (List.length h2)) h2 fun x6 h7 =>
effK (stE 9 x6 x3 h7) h7 fun x8 h9 =>
eqK P false 28 x5 (.s (.int .i64 0)) h9 fun x10 =>
K x10 h9
theorem f_ref45_right_run (T : Tab) (D : DTab) (N : Nat) {β : Type} (K : AV → Hp → Option β) (a0 : AV) (h : Hp) : runK Tryz.prog T D N [0, 2, 5] Tryz.f25 K [a0] h = f_ref45_right Tryz.prog T D N K a0 h := by kernel_rfl
def f_ref31_Day (P : Program) (T : Tab) (D : DTab) (N : Nat) {β : Type} (K : AV → Hp → Option β) (a0 : AV) (h : Hp) : Option β :=
arithK .geq a0 (.s (.int .i64 0)) fun x1 =>
grpK true x1 h (fun k2 =>
arithK .leq a0 (.s (.int .i64 100000)) fun x3 =>
k2 x3 h) fun x4 h5 =>
K x4 h5
theorem f_ref31_Day_run (T : Tab) (D : DTab) (N : Nat) {β : Type} (K : AV → Hp → Option β) (a0 : AV) (h : Hp) : runK Tryz.prog T D N [0, 2] Tryz.f26 K [a0] h = f_ref31_Day Tryz.prog T D N K a0 h := by kernel_rfl
def o_season_Check_j1 (P : Program) (T : Tab) (D : DTab) (N : Nat) {β : Type} (K : AV → Hp → Option β) (t : Tm) (h : Hp) : Option β :=
K (.tup [(.s (.int .i64 (-1))), (.s (.int .i64 0))]) h
def o_season_Check_L2 (P : Program) (T : Tab) (D : DTab) (N : Nat) {β : Type} (t : Tm) (h : Hp) (k : Ex → St → Option β) : Option β :=
arithK .lss (t 11) (t 10) fun x4 =>
condK x4 (
iaK 4 (t 9) (t 11) fun x5 =>
ldK 4 true x5 h fun x6 =>
effK (boxE 4 (.agg [.s (.int .i64 0), .s (.int .i64 0), .s (.int .i64 0), .s (.int .i64 0)]) (List.length h)) h fun x7 h8 =>
effK (stE 4 x7 x6 h8) h8 fun x9 h10 =>
faK 0 x7 fun x11 =>
ldK 1 false x11 h10 fun x12 =>
callK (T 41) [x12, (.s (.int .i64 0)), (.s (.int .i64 100000))] h10 fun x13 h14 =>
notK x13 fun x15 =>
grpK false x15 h14 (fun k16 =>
faK 1 x7 fun x17 =>
ldK 1 false x17 h14 fun x18 =>
callK (T 41) [x18, (.s (.int .i64 1)), (.s (.int .i64 9))] h14 fun x19 h20 =>
notK x19 fun x21 =>
k16 x21 h20) fun x22 h23 =>
grpK false x22 h23 (fun k24 =>
faK 2 x7 fun x25 =>
ldK 1 false x25 h23 fun x26 =>
callK (T 41) [x26, (.s (.int .i64 1)), (.s (.int .i64 12))] h23 fun x27 h28 =>
notK x27 fun x29 =>
k24 x29 h28) fun x30 h31 =>
grpK false x30 h31 (fun k32 =>
faK 3 x7 fun x33 =>
ldK 1 false x33 h31 fun x34 =>
callK (T 41) [x34, (.s (.int .i64 0)), (.s (.int .i64 10000))] h31 fun x35 h36 =>
notK x35 fun x37 =>
k32 x37 h36) fun x38 h39 =>
condK x38 (
k .ret ((upd (upd (upd (upd (upd (upd t 12 x4) 5 x7) 4 (t 11)) 16 x38) 2 (t 11)) 3 (.s (.int .i64 2))), h39)) (
arithK .gtr (t 11) (.s (.int .i64 0)) fun x40 =>
grpK true x40 h39 (fun k41 =>
arithK .sub (t 11) (.s (.int .i64 1)) fun x42 =>
iaK 4 (t 0) x42 fun x43 =>
ldK 4 true x43 h39 fun x44 =>
ldK 4 true x7 h39 fun x45 =>
callK (T 42) [x44, x45] h39 fun x46 h47 =>
notK x46 fun x48 =>
k41 x48 h47) fun x49 h50 =>
condK x49 (
k .ret ((upd (upd (upd (upd (upd (upd (upd t 12 x4) 5 x7) 4 (t 11)) 16 x38) 40 x49) 2 (t 11)) 3 (.s (.int .i64 5))), h50)) (
arithK .add (t 11) (.s (.int .i64 1)) fun x51 =>
k .normal ((upd (upd (upd (upd (upd (upd t 12 x4) 5 x7) 4 (t 11)) 16 x38) 40 x49) 11 x51), h50)))) (
k (.exit 0) ((upd t 12 x4), h))
def o_season_Check_aL2 (P : Program) (T : Tab) (D : DTab) (N : Nat) {β : Type} (K : AV → Hp → Option β) (e : Ex) (s : St) : Option β :=
  e.on ((o_season_Check_j1 P T D N K s.1 s.2))
  (fun i => bif i == 0 then ((o_season_Check_j1 P T D N K s.1 s.2)) else (none))
  (K (.tup [(s.1 2), (s.1 3)]) s.2)
def o_season_Check_G (P : Program) (T : Tab) (D : DTab) (N : Nat) {β : Type} (cL2 : St → Option β) (K : AV → Hp → Option β) (a0 : AV) (h : Hp) :  Option β :=
lenK a0 fun x1 =>
arithK .gtr x1 (.s (.int .i64 128)) fun x2 =>
condK x2 (
K (.tup [(.s (.int .i64 (-1))), (.s (.int .i64 8))]) h) (
lenK a0 fun x3 =>
cL2 ((upd (upd (upd (upd (upd (upd (tm0 [a0]) 2 (.s (.int .i64 0))) 3 (.s (.int .i64 0))) 8 x2) 9 a0) 10 x3) 11 (.s (.int .i64 0))), h))
def o_season_Check (P : Program) (T : Tab) (D : DTab) (N : Nat) {β : Type} (K : AV → Hp → Option β) (a0 : AV) (h : Hp) : Option β := o_season_Check_G P T D N (fun s => iterK (fun s k => o_season_Check_L2 P T D N s.1 s.2 k) N s (o_season_Check_aL2 P T D N K)) K a0 h
def f_season_Check_j1 (P : Program) (T : Tab) (D : DTab) (N : Nat) {β : Type} (K : AV → Hp → Option β) (h : Hp) : Option β :=
K (.tup [(.s (.int .i64 (-1))), (.s (.int .i64 0))]) h
def f_season_Check_b2 (P : Program) (T : Tab) (D : DTab) (N : Nat) {β : Type} (xn : AV → AV → AV → AV → Hp → Option β) (x0 : Hp → Option β) (xr : AV → AV → Hp → Option β) (v0 : AV) (v9 : AV) (v10 : AV) (v11 : AV) (h : Hp) : Option β :=
arithK .lss v11 v10 fun x4 =>
condK x4 (
iaK 4 v9 v11 fun x5 =>
ldK 4 true x5 h fun x6 =>
effK (boxE 4 (.agg [.s (.int .i64 0), .s (.int .i64 0), .s (.int .i64 0), .s (.int .i64 0)]) (List.length h)) h fun x7 h8 =>
effK (stE 4 x7 x6 h8) h8 fun x9 h10 =>
faK 0 x7 fun x11 =>
ldK 1 false x11 h10 fun x12 =>
callK (T 41) [x12, (.s (.int .i64 0)), (.s (.int .i64 100000))] h10 fun x13 h14 =>
notK x13 fun x15 =>
grpK false x15 h14 (fun k16 =>
faK 1 x7 fun x17 =>
ldK 1 false x17 h14 fun x18 =>
callK (T 41) [x18, (.s (.int .i64 1)), (.s (.int .i64 9))] h14 fun x19 h20 =>
notK x19 fun x21 =>
k16 x21 h20) fun x22 h23 =>
grpK false x22 h23 (fun k24 =>
faK 2 x7 fun x25 =>
ldK 1 false x25 h23 fun x26 =>
callK (T 41) [x26, (.s (.int .i64 1)), (.s (.int .i64 12))] h23 fun x27 h28 =>
notK x27 fun x29 =>
k24 x29 h28) fun x30 h31 =>
grpK false x30 h31 (fun k32 =>
faK 3 x7 fun x33 =>
ldK 1 false x33 h31 fun x34 =>
callK (T 41) [x34, (.s (.int .i64 0)), (.s (.int .i64 10000))] h31 fun x35 h36 =>
notK x35 fun x37 =>
k32 x37 h36) fun x38 h39 =>
condK x38 (
xr v11 (.s (.int .i64 2)) h39) (
arithK .gtr v11 (.s (.int .i64 0)) fun x40 =>
grpK true x40 h39 (fun k41 =>
arithK .sub v11 (.s (.int .i64 1)) fun x42 =>
iaK 4 v0 x42 fun x43 =>
ldK 4 true x43 h39 fun x44 =>
ldK 4 true x7 h39 fun x45 =>
callK (T 42) [x44, x45] h39 fun x46 h47 =>
notK x46 fun x48 =>
k41 x48 h47) fun x49 h50 =>
condK x49 (
xr v11 (.s (.int .i64 5)) h50) (
arithK .add v11 (.s (.int .i64 1)) fun x51 =>
xn v0 v9 v10 x51 h50))) (
x0 h)
def f_season_Check_L2 (P : Program) (T : Tab) (D : DTab) (N : Nat) {β : Type} (x0 : Hp → Option β) (xr : AV → AV → Hp → Option β) : Nat → AV → AV → AV → AV → Hp → Option β
  | 0 => fun _ _ _ _ _ => none
  | n + 1 => fun v0 v9 v10 v11 h => f_season_Check_b2 P T D N (f_season_Check_L2 P T D N x0 xr n) x0 xr v0 v9 v10 v11 h
def f_season_Check (P : Program) (T : Tab) (D : DTab) (N : Nat) {β : Type} (K : AV → Hp → Option β) (a0 : AV) (h : Hp) : Option β :=
lenK a0 fun x1 =>
arithK .gtr x1 (.s (.int .i64 128)) fun x2 =>
condK x2 (
K (.tup [(.s (.int .i64 (-1))), (.s (.int .i64 8))]) h) (
lenK a0 fun x3 =>
f_season_Check_L2 P T D N (fun h => f_season_Check_j1 P T D N K h) (fun w53_2 w53_3 h => K (.tup [w53_2, w53_3]) h) N a0 a0 x3 (.s (.int .i64 0)) h)
theorem f_season_Check_b2_eq (P : Program) (T : Tab) (D : DTab) (N : Nat) {β : Type} (xn : AV → AV → AV → AV → Hp → Option β) (x0 : Hp → Option β) (xr : AV → AV → Hp → Option β) (xd : Nat → St → Option β) (xq : St → Option β) (t : Tm) (h : Hp) : o_season_Check_L2 P T D N t h (fun (e : Ex) (s : St) => e.on (xn (s.1 0) (s.1 9) (s.1 10) (s.1 11) s.2) (fun i => (bif i == 0 then x0 s.2 else (xd i s))) (xr (s.1 2) (s.1 3) s.2)) = f_season_Check_b2 P T D N xn x0 xr (t 0) (t 9) (t 10) (t 11) h := by kernel_rfl
theorem f_season_Check_L2_eq (P : Program) (T : Tab) (D : DTab) (N : Nat) {β : Type} (A : Ex → St → Option β) (x0 : Hp → Option β) (xr : AV → AV → Hp → Option β) (q0 : ∀ s, A (.exit 0) s = x0 s.2) (qr : ∀ s, A .ret s = xr (s.1 2) (s.1 3) s.2) : ∀ (n : Nat) (s : St), iterK (fun s k => o_season_Check_L2 P T D N s.1 s.2 k) n s A = f_season_Check_L2 P T D N x0 xr n (s.1 0) (s.1 9) (s.1 10) (s.1 11) s.2 := by
  intro n
  induction n with
  | zero => intro s; rfl
  | succ n ih =>
    intro s
    have hk : (fun (e : Ex) (s' : St) => Ex.on e (iterK (fun s k => o_season_Check_L2 P T D N s.1 s.2 k) n s' A) (fun i => A (.exit i) s') (A .ret s')) = (fun (e : Ex) (s : St) => e.on ((f_season_Check_L2 P T D N x0 xr n) (s.1 0) (s.1 9) (s.1 10) (s.1 11) s.2) (fun i => (bif i == 0 then x0 s.2 else (A (.exit i) s))) (xr (s.1 2) (s.1 3) s.2)) := by
      funext e s'
      cases e with
      | normal => exact ih s'
      | ret => exact qr s'
      | exit i =>
        by_cases r0 : i = 0
        · subst r0; exact q0 s'
        simp only [Ex.on, beq_false_of_ne r0, cond_false]
    show o_season_Check_L2 P T D N s.1 s.2 (fun (e : Ex) (s' : St) => Ex.on e (iterK (fun s k => o_season_Check_L2 P T D N s.1 s.2 k) n s' A) (fun i => A (.exit i) s') (A .ret s')) = _
    rw [hk]
    exact f_season_Check_b2_eq P T D N (f_season_Check_L2 P T D N x0 xr n) x0 xr (fun i s => A (.exit i) s) (fun s => A .ret s) s.1 s.2
theorem f_season_Check_old_eq (P : Program) (T : Tab) (D : DTab) (N : Nat) {β : Type} (K : AV → Hp → Option β) (a0 : AV) (h : Hp) : o_season_Check P T D N K a0 h = f_season_Check P T D N K a0 h := by
  have eL2 : (fun s : St => iterK (fun s k => o_season_Check_L2 P T D N s.1 s.2 k) N s (o_season_Check_aL2 P T D N K)) = (fun s : St => f_season_Check_L2 P T D N (fun h => f_season_Check_j1 P T D N K h) (fun w53_2 w53_3 h => K (.tup [w53_2, w53_3]) h) N (s.1 0) (s.1 9) (s.1 10) (s.1 11) s.2) := funext fun s => f_season_Check_L2_eq P T D N (o_season_Check_aL2 P T D N K) (fun h => f_season_Check_j1 P T D N K h) (fun w53_2 w53_3 h => K (.tup [w53_2, w53_3]) h) (fun s => rfl) (fun s => rfl) N s
  show o_season_Check_G P T D N (fun s => iterK (fun s k => o_season_Check_L2 P T D N s.1 s.2 k) N s (o_season_Check_aL2 P T D N K)) K a0 h = _
  rw [eL2]
  kernel_rfl
theorem o_season_Check_run (T : Tab) (D : DTab) (N : Nat) {β : Type} (K : AV → Hp → Option β) (a0 : AV) (h : Hp) : runK Tryz.prog T D N [0, 2, 3, 4, 5, 8, 9, 10, 11, 12, 16, 40] Tryz.f27 K [a0] h = o_season_Check Tryz.prog T D N K a0 h := by kernel_rfl
theorem f_season_Check_run (T : Tab) (D : DTab) (N : Nat) {β : Type} (K : AV → Hp → Option β) (a0 : AV) (h : Hp) : runK Tryz.prog T D N [0, 2, 3, 4, 5, 8, 9, 10, 11, 12, 16, 40] Tryz.f27 K [a0] h = f_season_Check Tryz.prog T D N K a0 h := (o_season_Check_run T D N K a0 h).trans (f_season_Check_old_eq Tryz.prog T D N K a0 h)
def f_season_Allowed (P : Program) (T : Tab) (D : DTab) (N : Nat) {β : Type} (K : AV → Hp → Option β) (a0 : AV) (a1 : AV) (a2 : AV) (a3 : AV) (a4 : AV) (h : Hp) : Option β :=
callK (T 43) [a0] h fun x1 h2 =>
notK x1 fun x3 =>
condK x3 (
K (.tup [(.s (.int .i64 0)), (.s (.int .i64 1))]) h2) (
callK (T 41) [a1, (.s (.int .i64 1)), (.s (.int .i64 9))] h2 fun x4 h5 =>
notK x4 fun x6 =>
grpK false x6 h5 (fun k7 =>
callK (T 41) [a3, (.s (.int .i64 0)), (.s (.int .i64 100000))] h5 fun x8 h9 =>
notK x8 fun x10 =>
k7 x10 h9) fun x11 h12 =>
grpK false x11 h12 (fun k13 =>
callK (T 41) [a4, (.s (.int .i64 0)), (.s (.int .i64 100000))] h12 fun x14 h15 =>
notK x14 fun x16 =>
k13 x16 h15) fun x17 h18 =>
grpK false x17 h18 (fun k19 =>
callK (T 41) [a2, (.s (.int .i64 0)), (.s (.int .i64 10737418240000))] h18 fun x20 h21 =>
notK x20 fun x22 =>
k19 x22 h21) fun x23 h24 =>
condK x23 (
K (.tup [(.s (.int .i64 0)), (.s (.int .i64 2))]) h24) (
arithK .gtr a3 a4 fun x25 =>
condK x25 (
K (.tup [(.s (.int .i64 0)), (.s (.int .i64 5))]) h24) (
callK (T 45) [a0, a1, a3, a4] h24 fun x26 h27 =>
callK (T 44) [a2, x26, (.s (.int .i64 1000000))] h27 fun x28 h29 =>
exK x28 0 fun x30 =>
exK x28 1 fun x31 =>
exK x28 2 fun x32 =>
eqK P true 28 x32 (.s (.int .i64 0)) h29 fun x33 =>
condK x33 (
K (.tup [a2, (.s (.int .i64 0))]) h29) (
minK x30 a2 fun x34 =>
K (.tup [x34, (.s (.int .i64 0))]) h29))))
theorem f_season_Allowed_run (T : Tab) (D : DTab) (N : Nat) {β : Type} (K : AV → Hp → Option β) (a0 : AV) (a1 : AV) (a2 : AV) (a3 : AV) (a4 : AV) (h : Hp) : runK Tryz.prog T D N [0, 1, 2, 3, 4, 10, 11, 12, 14, 15, 19, 38, 54] Tryz.f28 K [a0, a1, a2, a3, a4] h = f_season_Allowed Tryz.prog T D N K a0 a1 a2 a3 a4 h := by kernel_rfl
def f_loss_Split (P : Program) (T : Tab) (D : DTab) (N : Nat) {β : Type} (K : AV → Hp → Option β) (a0 : AV) (a1 : AV) (a2 : AV) (a3 : AV) (h : Hp) : Option β :=
effK (boxE 4 (.agg [.s (.int .i64 0), .s (.int .i64 0), .s (.int .i64 0), .s (.int .i64 0)]) (List.length h)) h fun x1 h2 =>
effK (bsE 1 [.s (.int .i64 0)] 4 [(0, a0), (1, a1), (2, a2), (3, a3)] (List.length h2)) h2 fun x3 h4 =>
callK (T 46) [x3] h4 fun x5 h6 =>
notK x5 fun x7 =>
condK x7 (
buildK [.s (.int .i64 0), .s (.int .i64 0), .s (.int .i64 0), .s (.int .i64 0)] [] fun x8 =>
effK (stE 4 x1 x8 h6) h6 fun x9 h10 =>
ldK 4 true x1 h10 fun r11 =>
K (.tup [r11, (.s (.int .i64 2))]) h10) (
callK (T 47) [a0, a1, a2, a3] h6 fun x12 h13 =>
effK (stE 4 x1 x12 h13) h13 fun x14 h15 =>
ldK 4 true x1 h15 fun r16 =>
K (.tup [r16, (.s (.int .i64 0))]) h15)
theorem f_loss_Split_run (T : Tab) (D : DTab) (N : Nat) {β : Type} (K : AV → Hp → Option β) (a0 : AV) (a1 : AV) (a2 : AV) (a3 : AV) (h : Hp) : runK Tryz.prog T D N [0, 1, 2, 3, 8, 9, 16] Tryz.f29 K [a0, a1, a2, a3] h = f_loss_Split Tryz.prog T D N K a0 a1 a2 a3 h := by kernel_rfl
def f_ref31_Right (P : Program) (T : Tab) (D : DTab) (N : Nat) {β : Type} (K : AV → Hp → Option β) (a0 : AV) (h : Hp) : Option β :=
callK (T 48) [a0] h fun x1 h2 =>
exK x1 0 fun x3 =>
exK x1 1 fun x4 =>
eqK P false 28 x4 (.s (.int .i64 0)) h2 fun x5 =>
K x5 h2
theorem f_ref31_Right_run (T : Tab) (D : DTab) (N : Nat) {β : Type} (K : AV → Hp → Option β) (a0 : AV) (h : Hp) : runK Tryz.prog T D N [0, 2, 4] Tryz.f30 K [a0] h = f_ref31_Right Tryz.prog T D N K a0 h := by kernel_rfl
def o_ref45_Run_j1 (P : Program) (T : Tab) (D : DTab) (N : Nat) {β : Type} (K : AV → Hp → Option β) (t : Tm) (h : Hp) : Option β :=
ldK 9 true (t 5) h fun x11 =>
effK (stE 9 (t 2) x11 h) h fun x12 h13 =>
ldK 9 true (t 2) h13 fun r14 =>
K (.tup [r14, (.s (.int .i64 (-1))), (.s (.int .i64 0))]) h13
def o_ref45_Run_L2 (P : Program) (T : Tab) (D : DTab) (N : Nat) {β : Type} (t : Tm) (h : Hp) (k : Ex → St → Option β) : Option β :=
lenK (t 0) fun x15 =>
arithK .lss (t 6) x15 fun x16 =>
condK x16 (
ldK 9 true (t 5) h fun x17 =>
sliceK 5 (t 0) none (some (t 6)) none fun x18 =>
iaK 5 (t 0) (t 6) fun x19 =>
ldK 5 true x19 h fun x20 =>
callK (T 49) [x17, x18, x20] h fun x21 h22 =>
eqK P true 28 x21 (.s (.int .i64 0)) h22 fun x23 =>
condK x23 (
buildK [.s (.int .i64 0), .s (.int .i64 0), .s (.int .i64 0), .s (.int .i64 0), .s (.int .i64 0), .s (.int .i64 0), .s (.int .i64 0), .s (.bool false), .s (.bool false)] [] fun x24 =>
effK (stE 9 (t 2) x24 h22) h22 fun x25 h26 =>
k .ret ((upd (upd (upd (upd (upd t 15 x16) 7 x21) 28 x23) 3 (t 6)) 4 x21), h26)) (
ldK 9 true (t 5) h22 fun x27 =>
iaK 5 (t 0) (t 6) fun x28 =>
ldK 5 true x28 h22 fun x29 =>
callK (T 50) [x27, x29] h22 fun x30 h31 =>
effK (stE 9 (t 5) x30 h31) h31 fun x32 h33 =>
arithK .add (t 6) (.s (.int .i64 1)) fun x34 =>
k .normal ((upd (upd (upd (upd t 15 x16) 7 x21) 28 x23) 6 x34), h33))) (
k (.exit 0) ((upd t 15 x16), h))
def o_ref45_Run_aL2 (P : Program) (T : Tab) (D : DTab) (N : Nat) {β : Type} (K : AV → Hp → Option β) (e : Ex) (s : St) : Option β :=
  e.on ((o_ref45_Run_j1 P T D N K s.1 s.2))
  (fun i => bif i == 0 then ((o_ref45_Run_j1 P T D N K s.1 s.2)) else (none))
  (ldK 9 true (s.1 2) s.2 fun r35 =>
K (.tup [r35, (s.1 3), (s.1 4)]) s.2)
def o_ref45_Run_G (P : Program) (T : Tab) (D : DTab) (N : Nat) {β : Type} (cL2 : St → Option β) (K : AV → Hp → Option β) (a0 : AV) (h : Hp) :  Option β :=
effK (boxE 9 (.agg [.s (.int .i64 0), .s (.int .i64 0), .s (.int .i64 0), .s (.int .i64 0), .s (.int .i64 0), .s (.int .i64 0), .s (.int .i64 0), .s (.bool false), .s (.bool false)]) (List.length h)) h fun x1 h2 =>
lenK a0 fun x3 =>
arithK .gtr x3 (.s (.int .i64 128)) fun x4 =>
condK x4 (
buildK [.s (.int .i64 0), .s (.int .i64 0), .s (.int .i64 0), .s (.int .i64 0), .s (.int .i64 0), .s (.int .i64 0), .s (.int .i64 0), .s (.bool false), .s (.bool false)] [] fun x5 =>
effK (stE 9 x1 x5 h2) h2 fun x6 h7 =>
ldK 9 true x1 h7 fun r8 =>
K (.tup [r8, (.s (.int .i64 (-1))), (.s (.int .i64 8))]) h7) (
effK (boxE 9 (.agg [.s (.int .i64 0), .s (.int .i64 0), .s (.int .i64 0), .s (.int .i64 0), .s (.int .i64 0), .s (.int .i64 0), .s (.int .i64 0), .s (.bool false), .s (.bool false)]) (List.length h2)) h2 fun x9 h10 =>
cL2 ((upd (upd (upd (upd (upd (upd (tm0 [a0]) 2 x1) 3 (.s (.int .i64 0))) 4 (.s (.int .i64 0))) 10 x4) 5 x9) 6 (.s (.int .i64 0))), h10))
def o_ref45_Run (P : Program) (T : Tab) (D : DTab) (N : Nat) {β : Type} (K : AV → Hp → Option β) (a0 : AV) (h : Hp) : Option β := o_ref45_Run_G P T D N (fun s => iterK (fun s k => o_ref45_Run_L2 P T D N s.1 s.2 k) N s (o_ref45_Run_aL2 P T D N K)) K a0 h
def f_ref45_Run_j1 (P : Program) (T : Tab) (D : DTab) (N : Nat) {β : Type} (K : AV → Hp → Option β) (v2 : AV) (v5 : AV) (h : Hp) : Option β :=
ldK 9 true v5 h fun x11 =>
effK (stE 9 v2 x11 h) h fun x12 h13 =>
ldK 9 true v2 h13 fun r14 =>
K (.tup [r14, (.s (.int .i64 (-1))), (.s (.int .i64 0))]) h13
def f_ref45_Run_b2 (P : Program) (T : Tab) (D : DTab) (N : Nat) {β : Type} (xn : AV → AV → AV → AV → Hp → Option β) (x0 : AV → AV → Hp → Option β) (xr : AV → AV → AV → Hp → Option β) (v0 : AV) (v2 : AV) (v5 : AV) (v6 : AV) (h : Hp) : Option β :=
lenK v0 fun x15 =>
arithK .lss v6 x15 fun x16 =>
condK x16 (
ldK 9 true v5 h fun x17 =>
sliceK 5 v0 none (some v6) none fun x18 =>
iaK 5 v0 v6 fun x19 =>
ldK 5 true x19 h fun x20 =>
callK (T 49) [x17, x18, x20] h fun x21 h22 =>
eqK P true 28 x21 (.s (.int .i64 0)) h22 fun x23 =>
condK x23 (
buildK [.s (.int .i64 0), .s (.int .i64 0), .s (.int .i64 0), .s (.int .i64 0), .s (.int .i64 0), .s (.int .i64 0), .s (.int .i64 0), .s (.bool false), .s (.bool false)] [] fun x24 =>
effK (stE 9 v2 x24 h22) h22 fun x25 h26 =>
xr v2 v6 x21 h26) (
ldK 9 true v5 h22 fun x27 =>
iaK 5 v0 v6 fun x28 =>
ldK 5 true x28 h22 fun x29 =>
callK (T 50) [x27, x29] h22 fun x30 h31 =>
effK (stE 9 v5 x30 h31) h31 fun x32 h33 =>
arithK .add v6 (.s (.int .i64 1)) fun x34 =>
xn v0 v2 v5 x34 h33)) (
x0 v2 v5 h)
def f_ref45_Run_L2 (P : Program) (T : Tab) (D : DTab) (N : Nat) {β : Type} (x0 : AV → AV → Hp → Option β) (xr : AV → AV → AV → Hp → Option β) : Nat → AV → AV → AV → AV → Hp → Option β
  | 0 => fun _ _ _ _ _ => none
  | n + 1 => fun v0 v2 v5 v6 h => f_ref45_Run_b2 P T D N (f_ref45_Run_L2 P T D N x0 xr n) x0 xr v0 v2 v5 v6 h
def f_ref45_Run (P : Program) (T : Tab) (D : DTab) (N : Nat) {β : Type} (K : AV → Hp → Option β) (a0 : AV) (h : Hp) : Option β :=
effK (boxE 9 (.agg [.s (.int .i64 0), .s (.int .i64 0), .s (.int .i64 0), .s (.int .i64 0), .s (.int .i64 0), .s (.int .i64 0), .s (.int .i64 0), .s (.bool false), .s (.bool false)]) (List.length h)) h fun x1 h2 =>
lenK a0 fun x3 =>
arithK .gtr x3 (.s (.int .i64 128)) fun x4 =>
condK x4 (
buildK [.s (.int .i64 0), .s (.int .i64 0), .s (.int .i64 0), .s (.int .i64 0), .s (.int .i64 0), .s (.int .i64 0), .s (.int .i64 0), .s (.bool false), .s (.bool false)] [] fun x5 =>
effK (stE 9 x1 x5 h2) h2 fun x6 h7 =>
ldK 9 true x1 h7 fun r8 =>
K (.tup [r8, (.s (.int .i64 (-1))), (.s (.int .i64 8))]) h7) (
effK (boxE 9 (.agg [.s (.int .i64 0), .s (.int .i64 0), .s (.int .i64 0), .s (.int .i64 0), .s (.int .i64 0), .s (.int .i64 0), .s (.int .i64 0), .s (.bool false), .s (.bool false)]) (List.length h2)) h2 fun x9 h10 =>
f_ref45_Run_L2 P T D N (fun w35_2 w35_5 h => f_ref45_Run_j1 P T D N K w35_2 w35_5 h) (fun w36_2 w36_3 w36_4 h => ldK 9 true w36_2 h fun r37 =>
K (.tup [r37, w36_3, w36_4]) h) N a0 x1 x9 (.s (.int .i64 0)) h10)
theorem f_ref45_Run_b2_eq (P : Program) (T : Tab) (D : DTab) (N : Nat) {β : Type} (xn : AV → AV → AV → AV → Hp → Option β) (x0 : AV → AV → Hp → Option β) (xr : AV → AV → AV → Hp → Option β) (xd : Nat → St → Option β) (xq : St → Option β) (t : Tm) (h : Hp) : o_ref45_Run_L2 P T D N t h (fun (e : Ex) (s : St) => e.on (xn (s.1 0) (s.1 2) (s.1 5) (s.1 6) s.2) (fun i => (bif i == 0 then x0 (s.1 2) (s.1 5) s.2 else (xd i s))) (xr (s.1 2) (s.1 3) (s.1 4) s.2)) = f_ref45_Run_b2 P T D N xn x0 xr (t 0) (t 2) (t 5) (t 6) h := by kernel_rfl
theorem f_ref45_Run_L2_eq (P : Program) (T : Tab) (D : DTab) (N : Nat) {β : Type} (A : Ex → St → Option β) (x0 : AV → AV → Hp → Option β) (xr : AV → AV → AV → Hp → Option β) (q0 : ∀ s, A (.exit 0) s = x0 (s.1 2) (s.1 5) s.2) (qr : ∀ s, A .ret s = xr (s.1 2) (s.1 3) (s.1 4) s.2) : ∀ (n : Nat) (s : St), iterK (fun s k => o_ref45_Run_L2 P T D N s.1 s.2 k) n s A = f_ref45_Run_L2 P T D N x0 xr n (s.1 0) (s.1 2) (s.1 5) (s.1 6) s.2 := by
  intro n
  induction n with
  | zero => intro s; rfl
  | succ n ih =>
    intro s
    have hk : (fun (e : Ex) (s' : St) => Ex.on e (iterK (fun s k => o_ref45_Run_L2 P T D N s.1 s.2 k) n s' A) (fun i => A (.exit i) s') (A .ret s')) = (fun (e : Ex) (s : St) => e.on ((f_ref45_Run_L2 P T D N x0 xr n) (s.1 0) (s.1 2) (s.1 5) (s.1 6) s.2) (fun i => (bif i == 0 then x0 (s.1 2) (s.1 5) s.2 else (A (.exit i) s))) (xr (s.1 2) (s.1 3) (s.1 4) s.2)) := by
      funext e s'
      cases e with
      | normal => exact ih s'
      | ret => exact qr s'
      | exit i =>
        by_cases r0 : i = 0
        · subst r0; exact q0 s'
        simp only [Ex.on, beq_false_of_ne r0, cond_false]
    show o_ref45_Run_L2 P T D N s.1 s.2 (fun (e : Ex) (s' : St) => Ex.on e (iterK (fun s k => o_ref45_Run_L2 P T D N s.1 s.2 k) n s' A) (fun i => A (.exit i) s') (A .ret s')) = _
    rw [hk]
    exact f_ref45_Run_b2_eq P T D N (f_ref45_Run_L2 P T D N x0 xr n) x0 xr (fun i s => A (.exit i) s) (fun s => A .ret s) s.1 s.2
theorem f_ref45_Run_old_eq (P : Program) (T : Tab) (D : DTab) (N : Nat) {β : Type} (K : AV → Hp → Option β) (a0 : AV) (h : Hp) : o_ref45_Run P T D N K a0 h = f_ref45_Run P T D N K a0 h := by
  have eL2 : (fun s : St => iterK (fun s k => o_ref45_Run_L2 P T D N s.1 s.2 k) N s (o_ref45_Run_aL2 P T D N K)) = (fun s : St => f_ref45_Run_L2 P T D N (fun w35_2 w35_5 h => f_ref45_Run_j1 P T D N K w35_2 w35_5 h) (fun w36_2 w36_3 w36_4 h => ldK 9 true w36_2 h fun r37 =>
K (.tup [r37, w36_3, w36_4]) h) N (s.1 0) (s.1 2) (s.1 5) (s.1 6) s.2) := funext fun s => f_ref45_Run_L2_eq P T D N (o_ref45_Run_aL2 P T D N K) (fun w35_2 w35_5 h => f_ref45_Run_j1 P T D N K w35_2 w35_5 h) (fun w36_2 w36_3 w36_4 h => ldK 9 true w36_2 h fun r37 =>
K (.tup [r37, w36_3, w36_4]) h) (fun s => rfl) (fun s => rfl) N s
  show o_ref45_Run_G P T D N (fun s => iterK (fun s k => o_ref45_Run_L2 P T D N s.1 s.2 k) N s (o_ref45_Run_aL2 P T D N K)) K a0 h = _
  rw [eL2]
  kernel_rfl
theorem o_ref45_Run_run (T : Tab) (D : DTab) (N : Nat) {β : Type} (K : AV → Hp → Option β) (a0 : AV) (h : Hp) : runK Tryz.prog T D N [0, 2, 3, 4, 5, 6, 7, 10, 15, 28] Tryz.f31 K [a0] h = o_ref45_Run Tryz.prog T D N K a0 h := by kernel_rfl
theorem f_ref45_Run_run (T : Tab) (D : DTab) (N : Nat) {β : Type} (K : AV → Hp → Option β) (a0 : AV) (h : Hp) : runK Tryz.prog T D N [0, 2, 3, 4, 5, 6, 7, 10, 15, 28] Tryz.f31 K [a0] h = f_ref45_Run Tryz.prog T D N K a0 h := (o_ref45_Run_run T D N K a0 h).trans (f_ref45_Run_old_eq Tryz.prog T D N K a0 h)
def f_ref31_Allowed (P : Program) (T : Tab) (D : DTab) (N : Nat) {β : Type} (K : AV → Hp → Option β) (a0 : AV) (a1 : AV) (a2 : AV) (a3 : AV) (a4 : AV) (h : Hp) : Option β :=
callK (T 30) [a0] h fun x1 h2 =>
notK x1 fun x3 =>
condK x3 (
K (.tup [(.s (.int .i64 0)), (.s (.int .i64 1))]) h2) (
callK (T 51) [a1] h2 fun x4 h5 =>
notK x4 fun x6 =>
grpK false x6 h5 (fun k7 =>
callK (T 26) [a3] h5 fun x8 h9 =>
notK x8 fun x10 =>
k7 x10 h9) fun x11 h12 =>
grpK false x11 h12 (fun k13 =>
callK (T 26) [a4] h12 fun x14 h15 =>
notK x14 fun x16 =>
k13 x16 h15) fun x17 h18 =>
grpK false x17 h18 (fun k19 =>
arithK .lss a2 (.s (.int .i64 0)) fun x20 =>
k19 x20 h18) fun x21 h22 =>
grpK false x21 h22 (fun k23 =>
arithK .gtr a2 (.s (.int .i64 10737418240000)) fun x24 =>
k23 x24 h22) fun x25 h26 =>
condK x25 (
K (.tup [(.s (.int .i64 0)), (.s (.int .i64 2))]) h26) (
callK (T 52) [a0, a1, a3, a4] h26 fun x27 h28 =>
exK x27 0 fun x29 =>
exK x27 1 fun x30 =>
eqK P true 28 x30 (.s (.int .i64 0)) h28 fun x31 =>
condK x31 (
K (.tup [(.s (.int .i64 0)), x30]) h28) (
arithK .geq x29 (.s (.int .i64 1000000)) fun x32 =>
condK x32 (
K (.tup [a2, (.s (.int .i64 0))]) h28) (
callK (T 53) [a2, x29, (.s (.int .i64 1000000))] h28 fun x33 h34 =>
exK x33 0 fun x35 =>
exK x33 1 fun x36 =>
K (.tup [x35, (.s (.int .i64 0))]) h34))))
theorem f_ref31_Allowed_run (T : Tab) (D : DTab) (N : Nat) {β : Type} (K : AV → Hp → Option β) (a0 : AV) (a1 : AV) (a2 : AV) (a3 : AV) (a4 : AV) (h : Hp) : runK Tryz.prog T D N [0, 1, 2, 3, 4, 10, 11, 12, 13, 14, 18, 39, 49, 52] Tryz.f32 K [a0, a1, a2, a3, a4] h = f_ref31_Allowed Tryz.prog T D N K a0 a1 a2 a3 a4 h := by kernel_rfl
def f_ref32_Of (P : Program) (T : Tab) (D : DTab) (N : Nat) {β : Type} (K : AV → Hp → Option β) (a0 : AV) (a1 : AV) (a2 : AV) (a3 : AV) (h : Hp) : Option β :=
effK (boxE 4 (.agg [.s (.int .i64 0), .s (.int .i64 0), .s (.int .i64 0), .s (.int .i64 0)]) (List.length h)) h fun x1 h2 =>
arithK .gtr a1 a0 fun x3 =>
condK x3 (
arithK .sub a1 a0 fun x4 =>
buildK [.s (.int .i64 0), .s (.int .i64 0), .s (.int .i64 0), .s (.int .i64 0)] [(some (3, 1), x4)] fun x5 =>
effK (stE 4 x1 x5 h2) h2 fun x6 h7 =>
ldK 4 true x1 h7 fun r8 =>
K r8 h7) (
arithK .sub a0 a1 fun x9 =>
minK x9 a2 fun x10 =>
buildK [.s (.int .i64 0), .s (.int .i64 0), .s (.int .i64 0), .s (.int .i64 0)] [(some (0, 1), x10)] fun x11 =>
effK (boxE 4 (.agg [.s (.int .i64 0), .s (.int .i64 0), .s (.int .i64 0), .s (.int .i64 0)]) (List.length h2)) h2 fun x12 h13 =>
effK (stE 4 x12 x11 h13) h13 fun x14 h15 =>
faK 0 x12 fun x16 =>
ldK 1 false x16 h15 fun x17 =>
arithK .sub x9 x17 fun x18 =>
minK x18 a3 fun x19 =>
faK 1 x12 fun x20 =>
effK (stE 1 x20 x19 h15) h15 fun x21 h22 =>
faK 1 x12 fun x23 =>
ldK 1 false x23 h22 fun x24 =>
arithK .sub x18 x24 fun x25 =>
faK 2 x12 fun x26 =>
effK (stE 1 x26 x25 h22) h22 fun x27 h28 =>
ldK 4 true x12 h28 fun x29 =>
effK (stE 4 x1 x29 h28) h28 fun x30 h31 =>
ldK 4 true x1 h31 fun r32 =>
K r32 h31)
theorem f_ref32_Of_run (T : Tab) (D : DTab) (N : Nat) {β : Type} (K : AV → Hp → Option β) (a0 : AV) (a1 : AV) (a2 : AV) (a3 : AV) (h : Hp) : runK Tryz.prog T D N [0, 1, 2, 3, 8, 9, 10, 13] Tryz.f33 K [a0, a1, a2, a3] h = f_ref32_Of Tryz.prog T D N K a0 a1 a2 a3 h := by kernel_rfl
def f_journey_fault (P : Program) (T : Tab) (D : DTab) (N : Nat) {β : Type} (K : AV → Hp → Option β) (a0 : AV) (a1 : AV) (a2 : AV) (a3 : AV) (h : Hp) : Option β :=
effK (boxE 9 a0 (List.length h)) h fun x1 h2 =>
effK (boxE 5 a3 (List.length h2)) h2 fun x3 h4 =>
faK 0 x3 fun x5 =>
ldK 1 false x5 h4 fun x6 =>
effD (callE (D 24) [x6, (.s (.int .i64 0)), (.s (.int .i64 100000))] h4 (List.length h4)) h4 fun x7 h8 e9 =>
notK x7 fun x10 =>
gopD (wB x10 false) h8 (fun k => faK 1 x3 fun v => k v h8 ([], [])) fun x11 h12 e13 =>
gopD (wB x10 false) h12 (fun k => ldK 1 false x11 h12 fun v => k v h12 ((idsOf x11), [])) fun x14 h15 e16 =>
gopD (wB x10 false) h15 (fun k => effD (callE (D 24) [x14, (.s (.int .i64 1)), (.s (.int .i64 7))] h15 (List.length h15)) h15 k) fun x17 h18 e19 =>
gopD (wB x10 false) h18 (fun k => notK x17 fun v => k v h18 ([], [])) fun x20 h21 e22 =>
pickK x10 (.s (.bool true)) x20 fun x23 =>
gopD (wB x23 false) h21 (fun k => effD (callE (D 35) [] h21 (List.length h21)) h21 k) fun x24 h25 e26 =>
gopD (wB x23 false) h25 (fun k => faK 1 x3 fun v => k v h25 ([], [])) fun x27 h28 e29 =>
gopD (wB x23 false) h28 (fun k => ldK 1 false x27 h28 fun v => k v h28 ((idsOf x27), [])) fun x30 h31 e32 =>
gopD (wB x23 false) h31 (fun k => ixA 3 8 true x24 x30 fun v => k v h31 ([], [])) fun x33 h34 e35 =>
gopD (wB x23 false) h34 (fun k => fldK 1 false 0 x33 fun v => k v h34 ([], [])) fun x36 h37 e38 =>
gopD (wB x23 false) h37 (fun k => ldK 5 true x3 h37 fun v => k v h37 ((idsOf x3), [])) fun x39 h40 e41 =>
gopD (wB x23 false) h40 (fun k => effD (callVE D x36 [x39] h40 (List.length h40)) h40 k) fun x42 h43 e44 =>
gopD (wB x23 false) h43 (fun k => notK x42 fun v => k v h43 ([], [])) fun x45 h46 e47 =>
pickK x23 (.s (.bool true)) x45 fun x48 =>
bif disjAll [(11, 13), (11, 16)] [([], []), ((idsOf x5), []), e9, ([], []), ([], []), e13, e16, e19, e22, ([], []), ([], []), e26, e29, e32, e35, e38, e41, e44, e47, ([], [])] then (
condK x48 (
K (.s (.int .i64 2)) h46) (
faK 0 x3 fun x49 =>
ldK 1 false x49 h46 fun x50 =>
arithK .lss x50 a2 fun x51 =>
condK x51 (
K (.s (.int .i64 5)) h46) (
faK 1 x3 fun x52 =>
ldK 1 false x52 h46 fun x53 =>
eqK P false 3 x53 (.s (.int .i64 1)) h46 fun x54 =>
eqK P false 4 a1 x54 h46 fun x55 =>
gopD (wB x55 false) h46 (fun k => faK 8 x1 fun v => k v h46 ([], [])) fun x56 h57 e58 =>
gopD (wB x55 false) h57 (fun k => ldK 1 false x56 h57 fun v => k v h57 ((idsOf x56), [])) fun x59 h60 e61 =>
pickK x55 (.s (.bool true)) x59 fun x62 =>
gopD (wB x62 false) h60 (fun k => effD (callE (D 35) [] h60 (List.length h60)) h60 k) fun x63 h64 e65 =>
gopD (wB x62 false) h64 (fun k => faK 1 x3 fun v => k v h64 ([], [])) fun x66 h67 e68 =>
gopD (wB x62 false) h67 (fun k => ldK 1 false x66 h67 fun v => k v h67 ((idsOf x66), [])) fun x69 h70 e71 =>
gopD (wB x62 false) h70 (fun k => ixA 3 8 true x63 x69 fun v => k v h70 ([], [])) fun x72 h73 e74 =>
gopD (wB x62 false) h73 (fun k => fldK 1 false 1 x72 fun v => k v h73 ([], [])) fun x75 h76 e77 =>
gopD (wB x62 false) h76 (fun k => ldK 9 true x1 h76 fun v => k v h76 ((idsOf x1), [])) fun x78 h79 e80 =>
gopD (wB x62 false) h79 (fun k => effD (callVE D x75 [x78] h79 (List.length h79)) h79 k) fun x81 h82 e83 =>
pickK x62 (.s (.bool true)) x81 fun x84 =>
bif disjAll [(10, 12), (10, 15)] [([], []), ([], []), ((idsOf x52), []), ([], []), ([], []), ([], []), e58, e61, ([], []), ([], []), e65, e68, e71, e74, e77, e80, e83, ([], []), ([], [])] then (
condK x84 (
K (.s (.int .i64 11)) h82) (
faK 1 x3 fun x85 =>
ldK 1 false x85 h82 fun x86 =>
eqK P false 3 x86 (.s (.int .i64 4)) h82 fun x87 =>
grpK true x87 h82 (fun k88 =>
faK 3 x3 fun x89 =>
ldK 1 false x89 h82 fun x90 =>
faK 5 x1 fun x91 =>
ldK 1 false x91 h82 fun x92 =>
eqK P false 3 x90 x92 h82 fun x93 =>
k88 x93 h82) fun x94 h95 =>
grpK false x94 h95 (fun k96 =>
faK 1 x3 fun x97 =>
ldK 1 false x97 h95 fun x98 =>
eqK P false 3 x98 (.s (.int .i64 7)) h95 fun x99 =>
grpK true x99 h95 (fun k100 =>
faK 2 x3 fun x101 =>
ldK 1 false x101 h95 fun x102 =>
faK 6 x1 fun x103 =>
ldK 1 false x103 h95 fun x104 =>
eqK P true 3 x102 x104 h95 fun x105 =>
k100 x105 h95) fun x106 h107 =>
k96 x106 h107) fun x108 h109 =>
condK x108 (
K (.s (.int .i64 10)) h109) (
faK 1 x3 fun x110 =>
ldK 1 false x110 h109 fun x111 =>
arithK .geq x111 (.s (.int .i64 5)) fun x112 =>
grpK true x112 h109 (fun k113 =>
faK 4 x3 fun x114 =>
ldK 1 false x114 h109 fun x115 =>
faK 4 x1 fun x116 =>
ldK 1 false x116 h109 fun x117 =>
arithK .gtr x115 x117 fun x118 =>
k113 x118 h109) fun x119 h120 =>
condK x119 (
K (.s (.int .i64 17)) h120) (
K (.s (.int .i64 0)) h120)))) else none))) else none
theorem f_journey_fault_run (T : Tab) (D : DTab) (N : Nat) {β : Type} (K : AV → Hp → Option β) (a0 : AV) (a1 : AV) (a2 : AV) (a3 : AV) (h : Hp) : runK Tryz.prog T D N [0, 1, 2, 3, 4, 7, 8, 28, 29, 34, 53, 76] Tryz.f34 K [a0, a1, a2, a3] h = f_journey_fault Tryz.prog T D N K a0 a1 a2 a3 h := by kernel_rfl
def f_journey_table (P : Program) (T : Tab) (D : DTab) (N : Nat) {β : Type} (K : AV → Hp → Option β) (h : Hp) : Option β :=
effK (boxE 24 (.agg [.s .nilFunc, .s .nilFunc, .s .nilFunc, .s .nilFunc, .s .nilFunc, .s .nilFunc, .s .nilFunc, .s .nilFunc, .s .nilFunc, .s .nilFunc, .s .nilFunc, .s .nilFunc, .s .nilFunc, .s .nilFunc, .s .nilFunc, .s .nilFunc, .s .nilFunc, .s .nilFunc, .s .nilFunc, .s .nilFunc, .s .nilFunc, .s .nilFunc, .s .nilFunc, .s .nilFunc]) (List.length h)) h fun x1 h2 =>
buildK [.s .nilFunc, .s .nilFunc, .s .nilFunc] [(some (0, 1), (.fn 57 [])), (some (1, 1), (.fn 54 [])), (some (2, 1), (.fn 59 []))] fun x3 =>
buildK [.s .nilFunc, .s .nilFunc, .s .nilFunc] [(some (0, 1), (.fn 60 [])), (some (1, 1), (.fn 55 [])), (some (2, 1), (.fn 61 []))] fun x4 =>
buildK [.s .nilFunc, .s .nilFunc, .s .nilFunc] [(some (0, 1), (.fn 62 [])), (some (1, 1), (.fn 63 [])), (some (2, 1), (.fn 64 []))] fun x5 =>
buildK [.s .nilFunc, .s .nilFunc, .s .nilFunc] [(some (0, 1), (.fn 65 [])), (some (1, 1), (.fn 54 [])), (some (2, 1), (.fn 66 []))] fun x6 =>
buildK [.s .nilFunc, .s .nilFunc, .s .nilFunc] [(some (0, 1), (.fn 56 [])), (some (1, 1), (.fn 54 [])), (some (2, 1), (.fn 67 []))] fun x7 =>
buildK [.s .nilFunc, .s .nilFunc, .s .nilFunc] [(some (0, 1), (.fn 56 [])), (some (1, 1), (.fn 54 [])), (some (2, 1), (.fn 68 []))] fun x8 =>
buildK [.s .nilFunc, .s .nilFunc, .s .nilFunc] [(some (0, 1), (.fn 69 [])), (some (1, 1), (.fn 55 [])), (some (2, 1), (.fn 70 []))] fun x9 =>
buildK [.s .nilFunc, .s .nilFunc, .s .nilFunc, .s .nilFunc, .s .nilFunc, .s .nilFunc, .s .nilFunc, .s .nilFunc, .s .nilFunc, .s .nilFunc, .s .nilFunc, .s .nilFunc, .s .nilFunc, .s .nilFunc, .s .nilFunc, .s .nilFunc, .s .nilFunc, .s .nilFunc, .s .nilFunc, .s .nilFunc, .s .nilFunc, .s .nilFunc, .s .nilFunc, .s .nilFunc] [(some (3, 3), x3), (some (6, 3), x4), (some (9, 3), x5), (some (12, 3), x6), (some (15, 3), x7), (some (18, 3), x8), (some (21, 3), x9)] fun x10 =>
effK (stE 24 x1 x10 h2) h2 fun x11 h12 =>
ldK 24 true x1 h12 fun r13 =>
K r13 h12
theorem f_journey_table_run (T : Tab) (D : DTab) (N : Nat) {β : Type} (K : AV → Hp → Option β) (h : Hp) : runK Tryz.prog T D N [0, 1, 2, 3] Tryz.f35 K [] h = f_journey_table Tryz.prog T D N K  h := by kernel_rfl
def f_slices_ContainsFunc_Leg (P : Program) (T : Tab) (D : DTab) (N : Nat) {β : Type} (K : AV → Hp → Option β) (a0 : AV) (a1 : AV) (h : Hp) : Option β :=
callK (T 78) [a0, a1] h fun x1 h2 =>
arithK .geq x1 (.s (.int .i64 0)) fun x3 =>
K x3 h2
theorem f_slices_ContainsFunc_Leg_run (T : Tab) (D : DTab) (N : Nat) {β : Type} (K : AV → Hp → Option β) (a0 : AV) (a1 : AV) (h : Hp) : runK Tryz.prog T D N [0, 1, 4] Tryz.f38 K [a0, a1] h = f_slices_ContainsFunc_Leg Tryz.prog T D N K a0 a1 h := by kernel_rfl
def f_journey_Transit_1 (P : Program) (T : Tab) (D : DTab) (N : Nat) {β : Type} (K : AV → Hp → Option β) (a0 : AV) (h : Hp) : Option β :=
callK (T 23) [a0] h fun x1 h2 =>
notK x1 fun x3 =>
K x3 h2
theorem f_journey_Transit_1_run (T : Tab) (D : DTab) (N : Nat) {β : Type} (K : AV → Hp → Option β) (a0 : AV) (h : Hp) : runK Tryz.prog T D N [0, 2] Tryz.f39 K [a0] h = f_journey_Transit_1 Tryz.prog T D N K a0 h := by kernel_rfl
def o_journey_at_j1 (P : Program) (T : Tab) (D : DTab) (N : Nat) {β : Type} (K : AV → Hp → Option β) (t : Tm) (h : Hp) : Option β :=
sliceK 5 (t 0) none (some (t 5)) none fun x3 =>
callK (T 17) [x3] h fun x4 h5 =>
exK x4 0 fun x6 =>
exK x4 1 fun x7 =>
exK x4 2 fun x8 =>
effK (boxE 9 (.agg [.s (.int .i64 0), .s (.int .i64 0), .s (.int .i64 0), .s (.int .i64 0), .s (.int .i64 0), .s (.int .i64 0), .s (.int .i64 0), .s (.bool false), .s (.bool false)]) (List.length h5)) h5 fun x9 h10 =>
effK (stE 9 x9 x6 h10) h10 fun x11 h12 =>
ldK 9 true x9 h12 fun x13 =>
effK (stE 9 (t 4) x13 h12) h12 fun x14 h15 =>
ldK 9 true (t 4) h15 fun r16 =>
K r16 h15
def o_journey_at_L2 (P : Program) (T : Tab) (D : DTab) (N : Nat) {β : Type} (t : Tm) (h : Hp) (k : Ex → St → Option β) : Option β :=
lenK (t 0) fun x17 =>
arithK .lss (t 5) x17 fun x18 =>
grpK true x18 h (fun k19 =>
iaK 5 (t 0) (t 5) fun x20 =>
faK 0 x20 fun x21 =>
ldK 1 false x21 h fun x22 =>
arithK .leq x22 (t 1) fun x23 =>
k19 x23 h) fun x24 h25 =>
condK x24 (
arithK .add (t 5) (.s (.int .i64 1)) fun x26 =>
k .normal ((upd (upd t 21 x24) 5 x26), h25)) (
k (.exit 0) ((upd t 21 x24), h25))
def o_journey_at_aL2 (P : Program) (T : Tab) (D : DTab) (N : Nat) {β : Type} (K : AV → Hp → Option β) (e : Ex) (s : St) : Option β :=
  e.on ((o_journey_at_j1 P T D N K s.1 s.2))
  (fun i => bif i == 0 then ((o_journey_at_j1 P T D N K s.1 s.2)) else (none))
  (ldK 9 true (s.1 4) s.2 fun r27 =>
K r27 s.2)
def o_journey_at_G (P : Program) (T : Tab) (D : DTab) (N : Nat) {β : Type} (cL2 : St → Option β) (K : AV → Hp → Option β) (a0 : AV) (a1 : AV) (h : Hp) :  Option β :=
effK (boxE 9 (.agg [.s (.int .i64 0), .s (.int .i64 0), .s (.int .i64 0), .s (.int .i64 0), .s (.int .i64 0), .s (.int .i64 0), .s (.int .i64 0), .s (.bool false), .s (.bool false)]) (List.length h)) h fun x1 h2 =>
cL2 ((upd (upd (tm0 [a0, a1]) 4 x1) 5 (.s (.int .i64 0))), h2)
def o_journey_at (P : Program) (T : Tab) (D : DTab) (N : Nat) {β : Type} (K : AV → Hp → Option β) (a0 : AV) (a1 : AV) (h : Hp) : Option β := o_journey_at_G P T D N (fun s => iterK (fun s k => o_journey_at_L2 P T D N s.1 s.2 k) N s (o_journey_at_aL2 P T D N K)) K a0 a1 h
def f_journey_at_j1 (P : Program) (T : Tab) (D : DTab) (N : Nat) {β : Type} (K : AV → Hp → Option β) (v0 : AV) (v4 : AV) (v5 : AV) (h : Hp) : Option β :=
sliceK 5 v0 none (some v5) none fun x3 =>
callK (T 17) [x3] h fun x4 h5 =>
exK x4 0 fun x6 =>
exK x4 1 fun x7 =>
exK x4 2 fun x8 =>
effK (boxE 9 (.agg [.s (.int .i64 0), .s (.int .i64 0), .s (.int .i64 0), .s (.int .i64 0), .s (.int .i64 0), .s (.int .i64 0), .s (.int .i64 0), .s (.bool false), .s (.bool false)]) (List.length h5)) h5 fun x9 h10 =>
effK (stE 9 x9 x6 h10) h10 fun x11 h12 =>
ldK 9 true x9 h12 fun x13 =>
effK (stE 9 v4 x13 h12) h12 fun x14 h15 =>
ldK 9 true v4 h15 fun r16 =>
K r16 h15
def f_journey_at_b2 (P : Program) (T : Tab) (D : DTab) (N : Nat) {β : Type} (xn : AV → AV → AV → AV → Hp → Option β) (x0 : AV → AV → AV → Hp → Option β) (v0 : AV) (v1 : AV) (v4 : AV) (v5 : AV) (h : Hp) : Option β :=
lenK v0 fun x17 =>
arithK .lss v5 x17 fun x18 =>
grpK true x18 h (fun k19 =>
iaK 5 v0 v5 fun x20 =>
faK 0 x20 fun x21 =>
ldK 1 false x21 h fun x22 =>
arithK .leq x22 v1 fun x23 =>
k19 x23 h) fun x24 h25 =>
condK x24 (
arithK .add v5 (.s (.int .i64 1)) fun x26 =>
xn v0 v1 v4 x26 h25) (
x0 v0 v4 v5 h25)
def f_journey_at_L2 (P : Program) (T : Tab) (D : DTab) (N : Nat) {β : Type} (x0 : AV → AV → AV → Hp → Option β) : Nat → AV → AV → AV → AV → Hp → Option β
  | 0 => fun _ _ _ _ _ => none
  | n + 1 => fun v0 v1 v4 v5 h => f_journey_at_b2 P T D N (f_journey_at_L2 P T D N x0 n) x0 v0 v1 v4 v5 h
def f_journey_at (P : Program) (T : Tab) (D : DTab) (N : Nat) {β : Type} (K : AV → Hp → Option β) (a0 : AV) (a1 : AV) (h : Hp) : Option β :=
effK (boxE 9 (.agg [.s (.int .i64 0), .s (.int .i64 0), .s (.int .i64 0), .s (.int .i64 0), .s (.int .i64 0), .s (.int .i64 0), .s (.int .i64 0), .s (.bool false), .s (.bool false)]) (List.length h)) h fun x1 h2 =>
f_journey_at_L2 P T D N (fun w27_0 w27_4 w27_5 h => f_journey_at_j1 P T D N K w27_0 w27_4 w27_5 h) N a0 a1 x1 (.s (.int .i64 0)) h2
theorem f_journey_at_b2_eq (P : Program) (T : Tab) (D : DTab) (N : Nat) {β : Type} (xn : AV → AV → AV → AV → Hp → Option β) (x0 : AV → AV → AV → Hp → Option β) (xd : Nat → St → Option β) (xq : St → Option β) (t : Tm) (h : Hp) : o_journey_at_L2 P T D N t h (fun (e : Ex) (s : St) => e.on (xn (s.1 0) (s.1 1) (s.1 4) (s.1 5) s.2) (fun i => (bif i == 0 then x0 (s.1 0) (s.1 4) (s.1 5) s.2 else (xd i s))) (xq s)) = f_journey_at_b2 P T D N xn x0 (t 0) (t 1) (t 4) (t 5) h := by kernel_rfl
theorem f_journey_at_L2_eq (P : Program) (T : Tab) (D : DTab) (N : Nat) {β : Type} (A : Ex → St → Option β) (x0 : AV → AV → AV → Hp → Option β) (q0 : ∀ s, A (.exit 0) s = x0 (s.1 0) (s.1 4) (s.1 5) s.2) : ∀ (n : Nat) (s : St), iterK (fun s k => o_journey_at_L2 P T D N s.1 s.2 k) n s A = f_journey_at_L2 P T D N x0 n (s.1 0) (s.1 1) (s.1 4) (s.1 5) s.2 := by
  intro n
  induction n with
  | zero => intro s; rfl
  | succ n ih =>
    intro s
    have hk : (fun (e : Ex) (s' : St) => Ex.on e (iterK (fun s k => o_journey_at_L2 P T D N s.1 s.2 k) n s' A) (fun i => A (.exit i) s') (A .ret s')) = (fun (e : Ex) (s : St) => e.on ((f_journey_at_L2 P T D N x0 n) (s.1 0) (s.1 1) (s.1 4) (s.1 5) s.2) (fun i => (bif i == 0 then x0 (s.1 0) (s.1 4) (s.1 5) s.2 else (A (.exit i) s))) (A .ret s)) := by
      funext e s'
      cases e with
      | normal => exact ih s'
      | ret => exact rfl
      | exit i =>
        by_cases r0 : i = 0
        · subst r0; exact q0 s'
        simp only [Ex.on, beq_false_of_ne r0, cond_false]
    show o_journey_at_L2 P T D N s.1 s.2 (fun (e : Ex) (s' : St) => Ex.on e (iterK (fun s k => o_journey_at_L2 P T D N s.1 s.2 k) n s' A) (fun i => A (.exit i) s') (A .ret s')) = _
    rw [hk]
    exact f_journey_at_b2_eq P T D N (f_journey_at_L2 P T D N x0 n) x0 (fun i s => A (.exit i) s) (fun s => A .ret s) s.1 s.2
theorem f_journey_at_old_eq (P : Program) (T : Tab) (D : DTab) (N : Nat) {β : Type} (K : AV → Hp → Option β) (a0 : AV) (a1 : AV) (h : Hp) : o_journey_at P T D N K a0 a1 h = f_journey_at P T D N K a0 a1 h := by
  have eL2 : (fun s : St => iterK (fun s k => o_journey_at_L2 P T D N s.1 s.2 k) N s (o_journey_at_aL2 P T D N K)) = (fun s : St => f_journey_at_L2 P T D N (fun w27_0 w27_4 w27_5 h => f_journey_at_j1 P T D N K w27_0 w27_4 w27_5 h) N (s.1 0) (s.1 1) (s.1 4) (s.1 5) s.2) := funext fun s => f_journey_at_L2_eq P T D N (o_journey_at_aL2 P T D N K) (fun w27_0 w27_4 w27_5 h => f_journey_at_j1 P T D N K w27_0 w27_4 w27_5 h) (fun s => rfl) N s
  show o_journey_at_G P T D N (fun s => iterK (fun s k => o_journey_at_L2 P T D N s.1 s.2 k) N s (o_journey_at_aL2 P T D N K)) K a0 a1 h = _
  rw [eL2]
  kernel_rfl
theorem o_journey_at_run (T : Tab) (D : DTab) (N : Nat) {β : Type} (K : AV → Hp → Option β) (a0 : AV) (a1 : AV) (h : Hp) : runK Tryz.prog T D N [0, 1, 4, 5, 6, 21] Tryz.f40 K [a0, a1] h = o_journey_at Tryz.prog T D N K a0 a1 h := by kernel_rfl
theorem f_journey_at_run (T : Tab) (D : DTab) (N : Nat) {β : Type} (K : AV → Hp → Option β) (a0 : AV) (a1 : AV) (h : Hp) : runK Tryz.prog T D N [0, 1, 4, 5, 6, 21] Tryz.f40 K [a0, a1] h = f_journey_at Tryz.prog T D N K a0 a1 h := (o_journey_at_run T D N K a0 a1 h).trans (f_journey_at_old_eq Tryz.prog T D N K a0 a1 h)
def f_season_in (P : Program) (T : Tab) (D : DTab) (N : Nat) {β : Type} (K : AV → Hp → Option β) (a0 : AV) (a1 : AV) (a2 : AV) (h : Hp) : Option β :=
arithK .geq a0 a1 fun x1 =>
grpK true x1 h (fun k2 =>
arithK .leq a0 a2 fun x3 =>
k2 x3 h) fun x4 h5 =>
K x4 h5
theorem f_season_in_run (T : Tab) (D : DTab) (N : Nat) {β : Type} (K : AV → Hp → Option β) (a0 : AV) (a1 : AV) (a2 : AV) (h : Hp) : runK Tryz.prog T D N [0, 1, 2, 6] Tryz.f41 K [a0, a1, a2] h = f_season_in Tryz.prog T D N K a0 a1 a2 h := by kernel_rfl
def f_season_before (P : Program) (T : Tab) (D : DTab) (N : Nat) {β : Type} (K : AV → Hp → Option β) (a0 : AV) (a1 : AV) (h : Hp) : Option β :=
effK (boxE 4 a0 (List.length h)) h fun x1 h2 =>
effK (boxE 4 a1 (List.length h2)) h2 fun x3 h4 =>
faK 0 x1 fun x5 =>
ldK 1 false x5 h4 fun x6 =>
faK 0 x3 fun x7 =>
ldK 1 false x7 h4 fun x8 =>
eqK P true 3 x6 x8 h4 fun x9 =>
condK x9 (
faK 0 x1 fun x10 =>
ldK 1 false x10 h4 fun x11 =>
faK 0 x3 fun x12 =>
ldK 1 false x12 h4 fun x13 =>
arithK .lss x11 x13 fun x14 =>
K x14 h4) (
faK 1 x1 fun x15 =>
ldK 1 false x15 h4 fun x16 =>
faK 1 x3 fun x17 =>
ldK 1 false x17 h4 fun x18 =>
eqK P true 3 x16 x18 h4 fun x19 =>
condK x19 (
faK 1 x1 fun x20 =>
ldK 1 false x20 h4 fun x21 =>
faK 1 x3 fun x22 =>
ldK 1 false x22 h4 fun x23 =>
arithK .lss x21 x23 fun x24 =>
K x24 h4) (
faK 2 x1 fun x25 =>
ldK 1 false x25 h4 fun x26 =>
faK 2 x3 fun x27 =>
ldK 1 false x27 h4 fun x28 =>
arithK .lss x26 x28 fun x29 =>
K x29 h4))
theorem f_season_before_run (T : Tab) (D : DTab) (N : Nat) {β : Type} (K : AV → Hp → Option β) (a0 : AV) (a1 : AV) (h : Hp) : runK Tryz.prog T D N [0, 1, 2, 3, 4, 9, 19] Tryz.f42 K [a0, a1] h = f_season_before Tryz.prog T D N K a0 a1 h := by kernel_rfl
def f_season_right (P : Program) (T : Tab) (D : DTab) (N : Nat) {β : Type} (K : AV → Hp → Option β) (a0 : AV) (h : Hp) : Option β :=
callK (T 27) [a0] h fun x1 h2 =>
exK x1 0 fun x3 =>
exK x1 1 fun x4 =>
eqK P false 28 x4 (.s (.int .i64 0)) h2 fun x5 =>
K x5 h2
theorem f_season_right_run (T : Tab) (D : DTab) (N : Nat) {β : Type} (K : AV → Hp → Option β) (a0 : AV) (h : Hp) : runK Tryz.prog T D N [0, 2, 4] Tryz.f43 K [a0] h = f_season_right Tryz.prog T D N K a0 h := by kernel_rfl
def f_proportion_Of (P : Program) (T : Tab) (D : DTab) (N : Nat) {β : Type} (K : AV → Hp → Option β) (a0 : AV) (a1 : AV) (a2 : AV) (h : Hp) : Option β :=
effK (bsE 1 [.s (.int .i64 0)] 3 [(0, a0), (1, a1), (2, a2)] (List.length h)) h fun x1 h2 =>
callK (T 79) [x1] h2 fun x3 h4 =>
notK x3 fun x5 =>
condK x5 (
K (.tup [(.s (.int .i64 0)), (.s (.int .i64 0)), (.s (.int .i64 2))]) h4) (
eqK P false 3 a2 (.s (.int .i64 0)) h4 fun x6 =>
condK x6 (
K (.tup [(.s (.int .i64 0)), (.s (.int .i64 0)), (.s (.int .i64 16))]) h4) (
callK (T 80) [a0, a1, a2] h4 fun x7 h8 =>
exK x7 0 fun x9 =>
exK x7 1 fun x10 =>
exK x7 2 fun x11 =>
notK x11 fun x12 =>
condK x12 (
K (.tup [(.s (.int .i64 0)), (.s (.int .i64 0)), (.s (.int .i64 15))]) h8) (
K (.tup [x9, x10, (.s (.int .i64 0))]) h8)))
theorem f_proportion_Of_run (T : Tab) (D : DTab) (N : Nat) {β : Type} (K : AV → Hp → Option β) (a0 : AV) (a1 : AV) (a2 : AV) (h : Hp) : runK Tryz.prog T D N [0, 1, 2, 6, 7, 8, 9, 10, 11, 17, 19, 29] Tryz.f44 K [a0, a1, a2] h = f_proportion_Of Tryz.prog T D N K a0 a1 a2 h := by kernel_rfl
def o_season_sum_j1 (P : Program) (T : Tab) (D : DTab) (N : Nat) {β : Type} (K : AV → Hp → Option β) (t : Tm) (h : Hp) : Option β :=
K (t 9) h
def o_season_sum_j2 (P : Program) (T : Tab) (D : DTab) (N : Nat) {β : Type} (K : AV → Hp → Option β) (t : Tm) (h : Hp) : Option β :=
(o_season_sum_j1 P T D N K t h)
def o_season_sum_L3 (P : Program) (T : Tab) (D : DTab) (N : Nat) {β : Type} (t : Tm) (h : Hp) (k : Ex → St → Option β) : Option β :=
arithK .lss (t 15) (t 14) fun x2 =>
condK x2 (
arithK .geq (t 2) (t 3) fun x3 =>
condK x3 (
k (.exit 0) ((upd (upd t 16 x2) 19 x3), h)) (
callK (T 81) [(t 0), (t 1), (t 2)] h fun x4 h5 =>
exK x4 0 fun x6 =>
exK x4 1 fun x7 =>
minK x7 (t 3) fun x8 =>
arithK .sub x8 (t 2) fun x9 =>
arithK .mul x6 x9 fun x10 =>
arithK .add (t 9) x10 fun x11 =>
arithK .add (t 15) (.s (.int .i64 1)) fun x12 =>
k .normal ((upd (upd (upd (upd (upd (upd (upd (upd t 16 x2) 19 x3) 10 x6) 11 x7) 11 x8) 9 x11) 2 x8) 15 x12), h5))) (
k (.exit 0) ((upd t 16 x2), h))
def o_season_sum_aL3 (P : Program) (T : Tab) (D : DTab) (N : Nat) {β : Type} (K : AV → Hp → Option β) (e : Ex) (s : St) : Option β :=
  e.on ((o_season_sum_j2 P T D N K s.1 s.2))
  (fun i => bif i == 0 then ((o_season_sum_j2 P T D N K s.1 s.2)) else (none))
  (K (s.1 8) s.2)
def o_season_sum_G (P : Program) (T : Tab) (D : DTab) (N : Nat) {β : Type} (cL3 : St → Option β) (K : AV → Hp → Option β) (a0 : AV) (a1 : AV) (a2 : AV) (a3 : AV) (h : Hp) :  Option β :=
arithK .sub a3 a2 fun x1 =>
cL3 ((upd (upd (upd (upd (tm0 [a0, a1, a2, a3]) 8 (.s (.int .i64 0))) 9 (.s (.int .i64 0))) 14 x1) 15 (.s (.int .i64 0))), h)
def o_season_sum (P : Program) (T : Tab) (D : DTab) (N : Nat) {β : Type} (K : AV → Hp → Option β) (a0 : AV) (a1 : AV) (a2 : AV) (a3 : AV) (h : Hp) : Option β := o_season_sum_G P T D N (fun s => iterK (fun s k => o_season_sum_L3 P T D N s.1 s.2 k) N s (o_season_sum_aL3 P T D N K)) K a0 a1 a2 a3 h
def f_season_sum_j1 (P : Program) (T : Tab) (D : DTab) (N : Nat) {β : Type} (K : AV → Hp → Option β) (v9 : AV) (h : Hp) : Option β :=
K v9 h
def f_season_sum_j2 (P : Program) (T : Tab) (D : DTab) (N : Nat) {β : Type} (K : AV → Hp → Option β) (v9 : AV) (h : Hp) : Option β :=
f_season_sum_j1 P T D N K v9 h
def f_season_sum_b3 (P : Program) (T : Tab) (D : DTab) (N : Nat) {β : Type} (xn : AV → AV → AV → AV → AV → AV → AV → Hp → Option β) (x0 : AV → Hp → Option β) (v0 : AV) (v1 : AV) (v2 : AV) (v3 : AV) (v9 : AV) (v14 : AV) (v15 : AV) (h : Hp) : Option β :=
arithK .lss v15 v14 fun x2 =>
condK x2 (
arithK .geq v2 v3 fun x3 =>
condK x3 (
x0 v9 h) (
callK (T 81) [v0, v1, v2] h fun x4 h5 =>
exK x4 0 fun x6 =>
exK x4 1 fun x7 =>
minK x7 v3 fun x8 =>
arithK .sub x8 v2 fun x9 =>
arithK .mul x6 x9 fun x10 =>
arithK .add v9 x10 fun x11 =>
arithK .add v15 (.s (.int .i64 1)) fun x12 =>
xn v0 v1 x8 v3 x11 v14 x12 h5)) (
x0 v9 h)
def f_season_sum_L3 (P : Program) (T : Tab) (D : DTab) (N : Nat) {β : Type} (x0 : AV → Hp → Option β) : Nat → AV → AV → AV → AV → AV → AV → AV → Hp → Option β
  | 0 => fun _ _ _ _ _ _ _ _ => none
  | n + 1 => fun v0 v1 v2 v3 v9 v14 v15 h => f_season_sum_b3 P T D N (f_season_sum_L3 P T D N x0 n) x0 v0 v1 v2 v3 v9 v14 v15 h
def f_season_sum (P : Program) (T : Tab) (D : DTab) (N : Nat) {β : Type} (K : AV → Hp → Option β) (a0 : AV) (a1 : AV) (a2 : AV) (a3 : AV) (h : Hp) : Option β :=
arithK .sub a3 a2 fun x1 =>
f_season_sum_L3 P T D N (fun w13_9 h => f_season_sum_j2 P T D N K w13_9 h) N a0 a1 a2 a3 (.s (.int .i64 0)) x1 (.s (.int .i64 0)) h
theorem f_season_sum_b3_eq (P : Program) (T : Tab) (D : DTab) (N : Nat) {β : Type} (xn : AV → AV → AV → AV → AV → AV → AV → Hp → Option β) (x0 : AV → Hp → Option β) (xd : Nat → St → Option β) (xq : St → Option β) (t : Tm) (h : Hp) : o_season_sum_L3 P T D N t h (fun (e : Ex) (s : St) => e.on (xn (s.1 0) (s.1 1) (s.1 2) (s.1 3) (s.1 9) (s.1 14) (s.1 15) s.2) (fun i => (bif i == 0 then x0 (s.1 9) s.2 else (xd i s))) (xq s)) = f_season_sum_b3 P T D N xn x0 (t 0) (t 1) (t 2) (t 3) (t 9) (t 14) (t 15) h := by kernel_rfl
theorem f_season_sum_L3_eq (P : Program) (T : Tab) (D : DTab) (N : Nat) {β : Type} (A : Ex → St → Option β) (x0 : AV → Hp → Option β) (q0 : ∀ s, A (.exit 0) s = x0 (s.1 9) s.2) : ∀ (n : Nat) (s : St), iterK (fun s k => o_season_sum_L3 P T D N s.1 s.2 k) n s A = f_season_sum_L3 P T D N x0 n (s.1 0) (s.1 1) (s.1 2) (s.1 3) (s.1 9) (s.1 14) (s.1 15) s.2 := by
  intro n
  induction n with
  | zero => intro s; rfl
  | succ n ih =>
    intro s
    have hk : (fun (e : Ex) (s' : St) => Ex.on e (iterK (fun s k => o_season_sum_L3 P T D N s.1 s.2 k) n s' A) (fun i => A (.exit i) s') (A .ret s')) = (fun (e : Ex) (s : St) => e.on ((f_season_sum_L3 P T D N x0 n) (s.1 0) (s.1 1) (s.1 2) (s.1 3) (s.1 9) (s.1 14) (s.1 15) s.2) (fun i => (bif i == 0 then x0 (s.1 9) s.2 else (A (.exit i) s))) (A .ret s)) := by
      funext e s'
      cases e with
      | normal => exact ih s'
      | ret => exact rfl
      | exit i =>
        by_cases r0 : i = 0
        · subst r0; exact q0 s'
        simp only [Ex.on, beq_false_of_ne r0, cond_false]
    show o_season_sum_L3 P T D N s.1 s.2 (fun (e : Ex) (s' : St) => Ex.on e (iterK (fun s k => o_season_sum_L3 P T D N s.1 s.2 k) n s' A) (fun i => A (.exit i) s') (A .ret s')) = _
    rw [hk]
    exact f_season_sum_b3_eq P T D N (f_season_sum_L3 P T D N x0 n) x0 (fun i s => A (.exit i) s) (fun s => A .ret s) s.1 s.2
theorem f_season_sum_old_eq (P : Program) (T : Tab) (D : DTab) (N : Nat) {β : Type} (K : AV → Hp → Option β) (a0 : AV) (a1 : AV) (a2 : AV) (a3 : AV) (h : Hp) : o_season_sum P T D N K a0 a1 a2 a3 h = f_season_sum P T D N K a0 a1 a2 a3 h := by
  have eL3 : (fun s : St => iterK (fun s k => o_season_sum_L3 P T D N s.1 s.2 k) N s (o_season_sum_aL3 P T D N K)) = (fun s : St => f_season_sum_L3 P T D N (fun w13_9 h => f_season_sum_j2 P T D N K w13_9 h) N (s.1 0) (s.1 1) (s.1 2) (s.1 3) (s.1 9) (s.1 14) (s.1 15) s.2) := funext fun s => f_season_sum_L3_eq P T D N (o_season_sum_aL3 P T D N K) (fun w13_9 h => f_season_sum_j2 P T D N K w13_9 h) (fun s => rfl) N s
  show o_season_sum_G P T D N (fun s => iterK (fun s k => o_season_sum_L3 P T D N s.1 s.2 k) N s (o_season_sum_aL3 P T D N K)) K a0 a1 a2 a3 h = _
  rw [eL3]
  kernel_rfl
theorem o_season_sum_run (T : Tab) (D : DTab) (N : Nat) {β : Type} (K : AV → Hp → Option β) (a0 : AV) (a1 : AV) (a2 : AV) (a3 : AV) (h : Hp) : runK Tryz.prog T D N [0, 1, 2, 3, 8, 9, 10, 11, 14, 15, 16, 19] Tryz.f45 K [a0, a1, a2, a3] h = o_season_sum Tryz.prog T D N K a0 a1 a2 a3 h := by kernel_rfl
theorem f_season_sum_run (T : Tab) (D : DTab) (N : Nat) {β : Type} (K : AV → Hp → Option β) (a0 : AV) (a1 : AV) (a2 : AV) (a3 : AV) (h : Hp) : runK Tryz.prog T D N [0, 1, 2, 3, 8, 9, 10, 11, 14, 15, 16, 19] Tryz.f45 K [a0, a1, a2, a3] h = f_season_sum Tryz.prog T D N K a0 a1 a2 a3 h := (o_season_sum_run T D N K a0 a1 a2 a3 h).trans (f_season_sum_old_eq Tryz.prog T D N K a0 a1 a2 a3 h)
def o_loss_amount_j1 (P : Program) (T : Tab) (D : DTab) (N : Nat) {β : Type} (K : AV → Hp → Option β) (t : Tm) (h : Hp) : Option β :=
K (.s (.bool true)) h
def o_loss_amount_L2 (P : Program) (T : Tab) (D : DTab) (N : Nat) {β : Type} (t : Tm) (h : Hp) (k : Ex → St → Option β) : Option β :=
arithK .lss (t 7) (t 6) fun x2 =>
condK x2 (
iaK 1 (t 5) (t 7) fun x3 =>
ldK 1 false x3 h fun x4 =>
arithK .lss x4 (.s (.int .i64 0)) fun x5 =>
grpK false x5 h (fun k6 =>
arithK .gtr x4 (.s (.int .i64 10737418240000)) fun x7 =>
k6 x7 h) fun x8 h9 =>
condK x8 (
k .ret ((upd (upd (upd (upd t 8 x2) 4 x4) 16 x8) 2 (.s (.bool false))), h9)) (
arithK .add (t 7) (.s (.int .i64 1)) fun x10 =>
k .normal ((upd (upd (upd (upd t 8 x2) 4 x4) 16 x8) 7 x10), h9))) (
k (.exit 0) ((upd t 8 x2), h))
def o_loss_amount_aL2 (P : Program) (T : Tab) (D : DTab) (N : Nat) {β : Type} (K : AV → Hp → Option β) (e : Ex) (s : St) : Option β :=
  e.on ((o_loss_amount_j1 P T D N K s.1 s.2))
  (fun i => bif i == 0 then ((o_loss_amount_j1 P T D N K s.1 s.2)) else (none))
  (K (s.1 2) s.2)
def o_loss_amount_G (P : Program) (T : Tab) (D : DTab) (N : Nat) {β : Type} (cL2 : St → Option β) (K : AV → Hp → Option β) (a0 : AV) (h : Hp) :  Option β :=
lenK a0 fun x1 =>
cL2 ((upd (upd (upd (upd (tm0 [a0]) 2 (.s (.bool false))) 5 a0) 6 x1) 7 (.s (.int .i64 0))), h)
def o_loss_amount (P : Program) (T : Tab) (D : DTab) (N : Nat) {β : Type} (K : AV → Hp → Option β) (a0 : AV) (h : Hp) : Option β := o_loss_amount_G P T D N (fun s => iterK (fun s k => o_loss_amount_L2 P T D N s.1 s.2 k) N s (o_loss_amount_aL2 P T D N K)) K a0 h
def f_loss_amount_j1 (P : Program) (T : Tab) (D : DTab) (N : Nat) {β : Type} (K : AV → Hp → Option β) (h : Hp) : Option β :=
K (.s (.bool true)) h
def f_loss_amount_b2 (P : Program) (T : Tab) (D : DTab) (N : Nat) {β : Type} (xn : AV → AV → AV → Hp → Option β) (x0 : Hp → Option β) (xr : AV → Hp → Option β) (v5 : AV) (v6 : AV) (v7 : AV) (h : Hp) : Option β :=
arithK .lss v7 v6 fun x2 =>
condK x2 (
iaK 1 v5 v7 fun x3 =>
ldK 1 false x3 h fun x4 =>
arithK .lss x4 (.s (.int .i64 0)) fun x5 =>
grpK false x5 h (fun k6 =>
arithK .gtr x4 (.s (.int .i64 10737418240000)) fun x7 =>
k6 x7 h) fun x8 h9 =>
condK x8 (
xr (.s (.bool false)) h9) (
arithK .add v7 (.s (.int .i64 1)) fun x10 =>
xn v5 v6 x10 h9)) (
x0 h)
def f_loss_amount_L2 (P : Program) (T : Tab) (D : DTab) (N : Nat) {β : Type} (x0 : Hp → Option β) (xr : AV → Hp → Option β) : Nat → AV → AV → AV → Hp → Option β
  | 0 => fun _ _ _ _ => none
  | n + 1 => fun v5 v6 v7 h => f_loss_amount_b2 P T D N (f_loss_amount_L2 P T D N x0 xr n) x0 xr v5 v6 v7 h
def f_loss_amount (P : Program) (T : Tab) (D : DTab) (N : Nat) {β : Type} (K : AV → Hp → Option β) (a0 : AV) (h : Hp) : Option β :=
lenK a0 fun x1 =>
f_loss_amount_L2 P T D N (fun h => f_loss_amount_j1 P T D N K h) (fun w12_2 h => K w12_2 h) N a0 x1 (.s (.int .i64 0)) h
theorem f_loss_amount_b2_eq (P : Program) (T : Tab) (D : DTab) (N : Nat) {β : Type} (xn : AV → AV → AV → Hp → Option β) (x0 : Hp → Option β) (xr : AV → Hp → Option β) (xd : Nat → St → Option β) (xq : St → Option β) (t : Tm) (h : Hp) : o_loss_amount_L2 P T D N t h (fun (e : Ex) (s : St) => e.on (xn (s.1 5) (s.1 6) (s.1 7) s.2) (fun i => (bif i == 0 then x0 s.2 else (xd i s))) (xr (s.1 2) s.2)) = f_loss_amount_b2 P T D N xn x0 xr (t 5) (t 6) (t 7) h := by kernel_rfl
theorem f_loss_amount_L2_eq (P : Program) (T : Tab) (D : DTab) (N : Nat) {β : Type} (A : Ex → St → Option β) (x0 : Hp → Option β) (xr : AV → Hp → Option β) (q0 : ∀ s, A (.exit 0) s = x0 s.2) (qr : ∀ s, A .ret s = xr (s.1 2) s.2) : ∀ (n : Nat) (s : St), iterK (fun s k => o_loss_amount_L2 P T D N s.1 s.2 k) n s A = f_loss_amount_L2 P T D N x0 xr n (s.1 5) (s.1 6) (s.1 7) s.2 := by
  intro n
  induction n with
  | zero => intro s; rfl
  | succ n ih =>
    intro s
    have hk : (fun (e : Ex) (s' : St) => Ex.on e (iterK (fun s k => o_loss_amount_L2 P T D N s.1 s.2 k) n s' A) (fun i => A (.exit i) s') (A .ret s')) = (fun (e : Ex) (s : St) => e.on ((f_loss_amount_L2 P T D N x0 xr n) (s.1 5) (s.1 6) (s.1 7) s.2) (fun i => (bif i == 0 then x0 s.2 else (A (.exit i) s))) (xr (s.1 2) s.2)) := by
      funext e s'
      cases e with
      | normal => exact ih s'
      | ret => exact qr s'
      | exit i =>
        by_cases r0 : i = 0
        · subst r0; exact q0 s'
        simp only [Ex.on, beq_false_of_ne r0, cond_false]
    show o_loss_amount_L2 P T D N s.1 s.2 (fun (e : Ex) (s' : St) => Ex.on e (iterK (fun s k => o_loss_amount_L2 P T D N s.1 s.2 k) n s' A) (fun i => A (.exit i) s') (A .ret s')) = _
    rw [hk]
    exact f_loss_amount_b2_eq P T D N (f_loss_amount_L2 P T D N x0 xr n) x0 xr (fun i s => A (.exit i) s) (fun s => A .ret s) s.1 s.2
theorem f_loss_amount_old_eq (P : Program) (T : Tab) (D : DTab) (N : Nat) {β : Type} (K : AV → Hp → Option β) (a0 : AV) (h : Hp) : o_loss_amount P T D N K a0 h = f_loss_amount P T D N K a0 h := by
  have eL2 : (fun s : St => iterK (fun s k => o_loss_amount_L2 P T D N s.1 s.2 k) N s (o_loss_amount_aL2 P T D N K)) = (fun s : St => f_loss_amount_L2 P T D N (fun h => f_loss_amount_j1 P T D N K h) (fun w12_2 h => K w12_2 h) N (s.1 5) (s.1 6) (s.1 7) s.2) := funext fun s => f_loss_amount_L2_eq P T D N (o_loss_amount_aL2 P T D N K) (fun h => f_loss_amount_j1 P T D N K h) (fun w12_2 h => K w12_2 h) (fun s => rfl) (fun s => rfl) N s
  show o_loss_amount_G P T D N (fun s => iterK (fun s k => o_loss_amount_L2 P T D N s.1 s.2 k) N s (o_loss_amount_aL2 P T D N K)) K a0 h = _
  rw [eL2]
  kernel_rfl
theorem o_loss_amount_run (T : Tab) (D : DTab) (N : Nat) {β : Type} (K : AV → Hp → Option β) (a0 : AV) (h : Hp) : runK Tryz.prog T D N [0, 2, 4, 5, 6, 7, 8, 16] Tryz.f46 K [a0] h = o_loss_amount Tryz.prog T D N K a0 h := by kernel_rfl
theorem f_loss_amount_run (T : Tab) (D : DTab) (N : Nat) {β : Type} (K : AV → Hp → Option β) (a0 : AV) (h : Hp) : runK Tryz.prog T D N [0, 2, 4, 5, 6, 7, 8, 16] Tryz.f46 K [a0] h = f_loss_amount Tryz.prog T D N K a0 h := (o_loss_amount_run T D N K a0 h).trans (f_loss_amount_old_eq Tryz.prog T D N K a0 h)
def f_loss_split (P : Program) (T : Tab) (D : DTab) (N : Nat) {β : Type} (K : AV → Hp → Option β) (a0 : AV) (a1 : AV) (a2 : AV) (a3 : AV) (h : Hp) : Option β :=
effK (boxE 4 (.agg [.s (.int .i64 0), .s (.int .i64 0), .s (.int .i64 0), .s (.int .i64 0)]) (List.length h)) h fun x1 h2 =>
arithK .gtr a1 a0 fun x3 =>
condK x3 (
arithK .sub a1 a0 fun x4 =>
buildK [.s (.int .i64 0), .s (.int .i64 0), .s (.int .i64 0), .s (.int .i64 0)] [(some (3, 1), x4)] fun x5 =>
effK (stE 4 x1 x5 h2) h2 fun x6 h7 =>
ldK 4 true x1 h7 fun r8 =>
K r8 h7) (
arithK .sub a0 a1 fun x9 =>
effK (boxE 1 (.s (.int .i64 0)) (List.length h2)) h2 fun x10 h11 =>
effK (stE 1 x10 x9 h11) h11 fun x12 h13 =>
callVK T (.fn 82 [x10]) [a2] h13 fun x14 h15 =>
buildK [.s (.int .i64 0), .s (.int .i64 0), .s (.int .i64 0), .s (.int .i64 0)] [(some (0, 1), x14)] fun x16 =>
effK (boxE 4 (.agg [.s (.int .i64 0), .s (.int .i64 0), .s (.int .i64 0), .s (.int .i64 0)]) (List.length h15)) h15 fun x17 h18 =>
effK (stE 4 x17 x16 h18) h18 fun x19 h20 =>
callVK T (.fn 82 [x10]) [a3] h20 fun x21 h22 =>
faK 1 x17 fun x23 =>
effK (stE 1 x23 x21 h22) h22 fun x24 h25 =>
ldK 1 false x10 h25 fun x26 =>
faK 2 x17 fun x27 =>
effK (stE 1 x27 x26 h25) h25 fun x28 h29 =>
ldK 4 true x17 h29 fun x30 =>
effK (stE 4 x1 x30 h29) h29 fun x31 h32 =>
ldK 4 true x1 h32 fun r33 =>
K r33 h32)
theorem f_loss_split_run (T : Tab) (D : DTab) (N : Nat) {β : Type} (K : AV → Hp → Option β) (a0 : AV) (a1 : AV) (a2 : AV) (a3 : AV) (h : Hp) : runK Tryz.prog T D N [0, 1, 2, 3, 8, 9, 10, 11, 14] Tryz.f47 K [a0, a1, a2, a3] h = f_loss_split Tryz.prog T D N K a0 a1 a2 a3 h := by kernel_rfl
def o_ref31_Check_j1 (P : Program) (T : Tab) (D : DTab) (N : Nat) {β : Type} (K : AV → Hp → Option β) (t : Tm) (h : Hp) : Option β :=
K (.tup [(.s (.int .i64 (-1))), (.s (.int .i64 0))]) h
def o_ref31_Check_L2 (P : Program) (T : Tab) (D : DTab) (N : Nat) {β : Type} (t : Tm) (h : Hp) (k : Ex → St → Option β) : Option β :=
lenK (t 0) fun x3 =>
arithK .lss (t 4) x3 fun x4 =>
condK x4 (
iaK 4 (t 0) (t 4) fun x5 =>
ldK 4 true x5 h fun x6 =>
effK (boxE 4 (.agg [.s (.int .i64 0), .s (.int .i64 0), .s (.int .i64 0), .s (.int .i64 0)]) (List.length h)) h fun x7 h8 =>
effK (stE 4 x7 x6 h8) h8 fun x9 h10 =>
faK 0 x7 fun x11 =>
ldK 1 false x11 h10 fun x12 =>
arithK .lss x12 (.s (.int .i64 0)) fun x13 =>
grpK false x13 h10 (fun k14 =>
faK 0 x7 fun x15 =>
ldK 1 false x15 h10 fun x16 =>
arithK .gtr x16 (.s (.int .i64 100000)) fun x17 =>
k14 x17 h10) fun x18 h19 =>
grpK false x18 h19 (fun k20 =>
faK 1 x7 fun x21 =>
ldK 1 false x21 h19 fun x22 =>
callK (T 51) [x22] h19 fun x23 h24 =>
notK x23 fun x25 =>
k20 x25 h24) fun x26 h27 =>
grpK false x26 h27 (fun k28 =>
faK 2 x7 fun x29 =>
ldK 1 false x29 h27 fun x30 =>
arithK .lss x30 (.s (.int .i64 1)) fun x31 =>
k28 x31 h27) fun x32 h33 =>
grpK false x32 h33 (fun k34 =>
faK 2 x7 fun x35 =>
ldK 1 false x35 h33 fun x36 =>
arithK .gtr x36 (.s (.int .i64 12)) fun x37 =>
k34 x37 h33) fun x38 h39 =>
grpK false x38 h39 (fun k40 =>
faK 3 x7 fun x41 =>
ldK 1 false x41 h39 fun x42 =>
arithK .lss x42 (.s (.int .i64 0)) fun x43 =>
k40 x43 h39) fun x44 h45 =>
grpK false x44 h45 (fun k46 =>
faK 3 x7 fun x47 =>
ldK 1 false x47 h45 fun x48 =>
arithK .gtr x48 (.s (.int .i64 10000)) fun x49 =>
k46 x49 h45) fun x50 h51 =>
condK x50 (
k .ret ((upd (upd (upd (upd (upd t 12 x4) 5 x7) 52 x50) 2 (t 4)) 3 (.s (.int .i64 2))), h51)) (
arithK .gtr (t 4) (.s (.int .i64 0)) fun x52 =>
grpK true x52 h51 (fun k53 =>
ldK 4 true x7 h51 fun x54 =>
arithK .sub (t 4) (.s (.int .i64 1)) fun x55 =>
iaK 4 (t 0) x55 fun x56 =>
ldK 4 true x56 h51 fun x57 =>
callK (T 83) [x54, x57] h51 fun x58 h59 =>
notK x58 fun x60 =>
k53 x60 h59) fun x61 h62 =>
condK x61 (
k .ret ((upd (upd (upd (upd (upd (upd t 12 x4) 5 x7) 52 x50) 65 x61) 2 (t 4)) 3 (.s (.int .i64 5))), h62)) (
arithK .add (t 4) (.s (.int .i64 1)) fun x63 =>
k .normal ((upd (upd (upd (upd (upd t 12 x4) 5 x7) 52 x50) 65 x61) 4 x63), h62)))) (
k (.exit 0) ((upd t 12 x4), h))
def o_ref31_Check_aL2 (P : Program) (T : Tab) (D : DTab) (N : Nat) {β : Type} (K : AV → Hp → Option β) (e : Ex) (s : St) : Option β :=
  e.on ((o_ref31_Check_j1 P T D N K s.1 s.2))
  (fun i => bif i == 0 then ((o_ref31_Check_j1 P T D N K s.1 s.2)) else (none))
  (K (.tup [(s.1 2), (s.1 3)]) s.2)
def o_ref31_Check_G (P : Program) (T : Tab) (D : DTab) (N : Nat) {β : Type} (cL2 : St → Option β) (K : AV → Hp → Option β) (a0 : AV) (h : Hp) :  Option β :=
lenK a0 fun x1 =>
arithK .gtr x1 (.s (.int .i64 128)) fun x2 =>
condK x2 (
K (.tup [(.s (.int .i64 (-1))), (.s (.int .i64 8))]) h) (
cL2 ((upd (upd (upd (upd (tm0 [a0]) 2 (.s (.int .i64 0))) 3 (.s (.int .i64 0))) 8 x2) 4 (.s (.int .i64 0))), h))
def o_ref31_Check (P : Program) (T : Tab) (D : DTab) (N : Nat) {β : Type} (K : AV → Hp → Option β) (a0 : AV) (h : Hp) : Option β := o_ref31_Check_G P T D N (fun s => iterK (fun s k => o_ref31_Check_L2 P T D N s.1 s.2 k) N s (o_ref31_Check_aL2 P T D N K)) K a0 h
def f_ref31_Check_j1 (P : Program) (T : Tab) (D : DTab) (N : Nat) {β : Type} (K : AV → Hp → Option β) (h : Hp) : Option β :=
K (.tup [(.s (.int .i64 (-1))), (.s (.int .i64 0))]) h
def f_ref31_Check_b2 (P : Program) (T : Tab) (D : DTab) (N : Nat) {β : Type} (xn : AV → AV → Hp → Option β) (x0 : Hp → Option β) (xr : AV → AV → Hp → Option β) (v0 : AV) (v4 : AV) (h : Hp) : Option β :=
lenK v0 fun x3 =>
arithK .lss v4 x3 fun x4 =>
condK x4 (
iaK 4 v0 v4 fun x5 =>
ldK 4 true x5 h fun x6 =>
effK (boxE 4 (.agg [.s (.int .i64 0), .s (.int .i64 0), .s (.int .i64 0), .s (.int .i64 0)]) (List.length h)) h fun x7 h8 =>
effK (stE 4 x7 x6 h8) h8 fun x9 h10 =>
faK 0 x7 fun x11 =>
ldK 1 false x11 h10 fun x12 =>
arithK .lss x12 (.s (.int .i64 0)) fun x13 =>
grpK false x13 h10 (fun k14 =>
faK 0 x7 fun x15 =>
ldK 1 false x15 h10 fun x16 =>
arithK .gtr x16 (.s (.int .i64 100000)) fun x17 =>
k14 x17 h10) fun x18 h19 =>
grpK false x18 h19 (fun k20 =>
faK 1 x7 fun x21 =>
ldK 1 false x21 h19 fun x22 =>
callK (T 51) [x22] h19 fun x23 h24 =>
notK x23 fun x25 =>
k20 x25 h24) fun x26 h27 =>
grpK false x26 h27 (fun k28 =>
faK 2 x7 fun x29 =>
ldK 1 false x29 h27 fun x30 =>
arithK .lss x30 (.s (.int .i64 1)) fun x31 =>
k28 x31 h27) fun x32 h33 =>
grpK false x32 h33 (fun k34 =>
faK 2 x7 fun x35 =>
ldK 1 false x35 h33 fun x36 =>
arithK .gtr x36 (.s (.int .i64 12)) fun x37 =>
k34 x37 h33) fun x38 h39 =>
grpK false x38 h39 (fun k40 =>
faK 3 x7 fun x41 =>
ldK 1 false x41 h39 fun x42 =>
arithK .lss x42 (.s (.int .i64 0)) fun x43 =>
k40 x43 h39) fun x44 h45 =>
grpK false x44 h45 (fun k46 =>
faK 3 x7 fun x47 =>
ldK 1 false x47 h45 fun x48 =>
arithK .gtr x48 (.s (.int .i64 10000)) fun x49 =>
k46 x49 h45) fun x50 h51 =>
condK x50 (
xr v4 (.s (.int .i64 2)) h51) (
arithK .gtr v4 (.s (.int .i64 0)) fun x52 =>
grpK true x52 h51 (fun k53 =>
ldK 4 true x7 h51 fun x54 =>
arithK .sub v4 (.s (.int .i64 1)) fun x55 =>
iaK 4 v0 x55 fun x56 =>
ldK 4 true x56 h51 fun x57 =>
callK (T 83) [x54, x57] h51 fun x58 h59 =>
notK x58 fun x60 =>
k53 x60 h59) fun x61 h62 =>
condK x61 (
xr v4 (.s (.int .i64 5)) h62) (
arithK .add v4 (.s (.int .i64 1)) fun x63 =>
xn v0 x63 h62))) (
x0 h)
def f_ref31_Check_L2 (P : Program) (T : Tab) (D : DTab) (N : Nat) {β : Type} (x0 : Hp → Option β) (xr : AV → AV → Hp → Option β) : Nat → AV → AV → Hp → Option β
  | 0 => fun _ _ _ => none
  | n + 1 => fun v0 v4 h => f_ref31_Check_b2 P T D N (f_ref31_Check_L2 P T D N x0 xr n) x0 xr v0 v4 h
def f_ref31_Check (P : Program) (T : Tab) (D : DTab) (N : Nat) {β : Type} (K : AV → Hp → Option β) (a0 : AV) (h : Hp) : Option β :=
lenK a0 fun x1 =>
arithK .gtr x1 (.s (.int .i64 128)) fun x2 =>
condK x2 (
K (.tup [(.s (.int .i64 (-1))), (.s (.int .i64 8))]) h) (
f_ref31_Check_L2 P T D N (fun h => f_ref31_Check_j1 P T D N K h) (fun w65_2 w65_3 h => K (.tup [w65_2, w65_3]) h) N a0 (.s (.int .i64 0)) h)
theorem f_ref31_Check_b2_eq (P : Program) (T : Tab) (D : DTab) (N : Nat) {β : Type} (xn : AV → AV → Hp → Option β) (x0 : Hp → Option β) (xr : AV → AV → Hp → Option β) (xd : Nat → St → Option β) (xq : St → Option β) (t : Tm) (h : Hp) : o_ref31_Check_L2 P T D N t h (fun (e : Ex) (s : St) => e.on (xn (s.1 0) (s.1 4) s.2) (fun i => (bif i == 0 then x0 s.2 else (xd i s))) (xr (s.1 2) (s.1 3) s.2)) = f_ref31_Check_b2 P T D N xn x0 xr (t 0) (t 4) h := by kernel_rfl
theorem f_ref31_Check_L2_eq (P : Program) (T : Tab) (D : DTab) (N : Nat) {β : Type} (A : Ex → St → Option β) (x0 : Hp → Option β) (xr : AV → AV → Hp → Option β) (q0 : ∀ s, A (.exit 0) s = x0 s.2) (qr : ∀ s, A .ret s = xr (s.1 2) (s.1 3) s.2) : ∀ (n : Nat) (s : St), iterK (fun s k => o_ref31_Check_L2 P T D N s.1 s.2 k) n s A = f_ref31_Check_L2 P T D N x0 xr n (s.1 0) (s.1 4) s.2 := by
  intro n
  induction n with
  | zero => intro s; rfl
  | succ n ih =>
    intro s
    have hk : (fun (e : Ex) (s' : St) => Ex.on e (iterK (fun s k => o_ref31_Check_L2 P T D N s.1 s.2 k) n s' A) (fun i => A (.exit i) s') (A .ret s')) = (fun (e : Ex) (s : St) => e.on ((f_ref31_Check_L2 P T D N x0 xr n) (s.1 0) (s.1 4) s.2) (fun i => (bif i == 0 then x0 s.2 else (A (.exit i) s))) (xr (s.1 2) (s.1 3) s.2)) := by
      funext e s'
      cases e with
      | normal => exact ih s'
      | ret => exact qr s'
      | exit i =>
        by_cases r0 : i = 0
        · subst r0; exact q0 s'
        simp only [Ex.on, beq_false_of_ne r0, cond_false]
    show o_ref31_Check_L2 P T D N s.1 s.2 (fun (e : Ex) (s' : St) => Ex.on e (iterK (fun s k => o_ref31_Check_L2 P T D N s.1 s.2 k) n s' A) (fun i => A (.exit i) s') (A .ret s')) = _
    rw [hk]
    exact f_ref31_Check_b2_eq P T D N (f_ref31_Check_L2 P T D N x0 xr n) x0 xr (fun i s => A (.exit i) s) (fun s => A .ret s) s.1 s.2
theorem f_ref31_Check_old_eq (P : Program) (T : Tab) (D : DTab) (N : Nat) {β : Type} (K : AV → Hp → Option β) (a0 : AV) (h : Hp) : o_ref31_Check P T D N K a0 h = f_ref31_Check P T D N K a0 h := by
  have eL2 : (fun s : St => iterK (fun s k => o_ref31_Check_L2 P T D N s.1 s.2 k) N s (o_ref31_Check_aL2 P T D N K)) = (fun s : St => f_ref31_Check_L2 P T D N (fun h => f_ref31_Check_j1 P T D N K h) (fun w65_2 w65_3 h => K (.tup [w65_2, w65_3]) h) N (s.1 0) (s.1 4) s.2) := funext fun s => f_ref31_Check_L2_eq P T D N (o_ref31_Check_aL2 P T D N K) (fun h => f_ref31_Check_j1 P T D N K h) (fun w65_2 w65_3 h => K (.tup [w65_2, w65_3]) h) (fun s => rfl) (fun s => rfl) N s
  show o_ref31_Check_G P T D N (fun s => iterK (fun s k => o_ref31_Check_L2 P T D N s.1 s.2 k) N s (o_ref31_Check_aL2 P T D N K)) K a0 h = _
  rw [eL2]
  kernel_rfl
theorem o_ref31_Check_run (T : Tab) (D : DTab) (N : Nat) {β : Type} (K : AV → Hp → Option β) (a0 : AV) (h : Hp) : runK Tryz.prog T D N [0, 2, 3, 4, 5, 8, 12, 52, 65] Tryz.f48 K [a0] h = o_ref31_Check Tryz.prog T D N K a0 h := by kernel_rfl
theorem f_ref31_Check_run (T : Tab) (D : DTab) (N : Nat) {β : Type} (K : AV → Hp → Option β) (a0 : AV) (h : Hp) : runK Tryz.prog T D N [0, 2, 3, 4, 5, 8, 12, 52, 65] Tryz.f48 K [a0] h = f_ref31_Check Tryz.prog T D N K a0 h := (o_ref31_Check_run T D N K a0 h).trans (f_ref31_Check_old_eq Tryz.prog T D N K a0 h)
def f_ref45_refused (P : Program) (T : Tab) (D : DTab) (N : Nat) {β : Type} (K : AV → Hp → Option β) (a0 : AV) (a1 : AV) (a2 : AV) (h : Hp) : Option β :=
effK (boxE 9 a0 (List.length h)) h fun x1 h2 =>
effK (boxE 5 a2 (List.length h2)) h2 fun x3 h4 =>
ldK 5 true x3 h4 fun x5 =>
callK (T 84) [x5] h4 fun x6 h7 =>
eqK P true 28 x6 (.s (.int .i64 0)) h7 fun x8 =>
condK x8 (
K x6 h7) (
lenK a1 fun x9 =>
arithK .gtr x9 (.s (.int .i64 0)) fun x10 =>
grpK true x10 h7 (fun k11 =>
faK 0 x3 fun x12 =>
ldK 1 false x12 h7 fun x13 =>
lenK a1 fun x14 =>
arithK .sub x14 (.s (.int .i64 1)) fun x15 =>
iaK 5 a1 x15 fun x16 =>
faK 0 x16 fun x17 =>
ldK 1 false x17 h7 fun x18 =>
arithK .lss x13 x18 fun x19 =>
k11 x19 h7) fun x20 h21 =>
condK x20 (
K (.s (.int .i64 5)) h21) (
lenK a1 fun x22 =>
eqK P false 3 x22 (.s (.int .i64 0)) h21 fun x23 =>
faK 1 x3 fun x24 =>
ldK 1 false x24 h21 fun x25 =>
eqK P false 3 x25 (.s (.int .i64 1)) h21 fun x26 =>
eqK P true 4 x23 x26 h21 fun x27 =>
grpK false x27 h21 (fun k28 =>
faK 8 x1 fun x29 =>
ldK 1 false x29 h21 fun x30 =>
k28 x30 h21) fun x31 h32 =>
condK x31 (
K (.s (.int .i64 11)) h32) (
faK 7 x1 fun x33 =>
ldK 1 false x33 h32 fun x34 =>
grpK true x34 h32 (fun k35 =>
faK 1 x3 fun x36 =>
ldK 1 false x36 h32 fun x37 =>
eqK P false 3 x37 (.s (.int .i64 2)) h32 fun x38 =>
grpK false x38 h32 (fun k39 =>
faK 1 x3 fun x40 =>
ldK 1 false x40 h32 fun x41 =>
eqK P false 3 x41 (.s (.int .i64 7)) h32 fun x42 =>
k39 x42 h32) fun x43 h44 =>
k35 x43 h44) fun x45 h46 =>
grpK false x45 h46 (fun k47 =>
faK 7 x1 fun x48 =>
ldK 1 false x48 h46 fun x49 =>
notK x49 fun x50 =>
grpK true x50 h46 (fun k51 =>
faK 1 x3 fun x52 =>
ldK 1 false x52 h46 fun x53 =>
eqK P false 3 x53 (.s (.int .i64 3)) h46 fun x54 =>
k51 x54 h46) fun x55 h56 =>
k47 x55 h56) fun x57 h58 =>
condK x57 (
K (.s (.int .i64 11)) h58) (
faK 1 x3 fun x59 =>
ldK 1 false x59 h58 fun x60 =>
eqK P false 3 x60 (.s (.int .i64 4)) h58 fun x61 =>
grpK true x61 h58 (fun k62 =>
faK 3 x3 fun x63 =>
ldK 1 false x63 h58 fun x64 =>
faK 5 x1 fun x65 =>
ldK 1 false x65 h58 fun x66 =>
eqK P false 3 x64 x66 h58 fun x67 =>
k62 x67 h58) fun x68 h69 =>
grpK false x68 h69 (fun k70 =>
faK 1 x3 fun x71 =>
ldK 1 false x71 h69 fun x72 =>
eqK P false 3 x72 (.s (.int .i64 7)) h69 fun x73 =>
grpK true x73 h69 (fun k74 =>
faK 2 x3 fun x75 =>
ldK 1 false x75 h69 fun x76 =>
faK 6 x1 fun x77 =>
ldK 1 false x77 h69 fun x78 =>
eqK P true 3 x76 x78 h69 fun x79 =>
k74 x79 h69) fun x80 h81 =>
k70 x80 h81) fun x82 h83 =>
condK x82 (
K (.s (.int .i64 10)) h83) (
faK 1 x3 fun x84 =>
ldK 1 false x84 h83 fun x85 =>
eqK P true 3 x85 (.s (.int .i64 1)) h83 fun x86 =>
grpK true x86 h83 (fun k87 =>
faK 4 x3 fun x88 =>
ldK 1 false x88 h83 fun x89 =>
faK 4 x1 fun x90 =>
ldK 1 false x90 h83 fun x91 =>
arithK .gtr x89 x91 fun x92 =>
k87 x92 h83) fun x93 h94 =>
condK x93 (
K (.s (.int .i64 17)) h94) (
K (.s (.int .i64 0)) h94))))))
theorem f_ref45_refused_run (T : Tab) (D : DTab) (N : Nat) {β : Type} (K : AV → Hp → Option β) (a0 : AV) (a1 : AV) (a2 : AV) (h : Hp) : runK Tryz.prog T D N [0, 1, 2, 3, 5, 6, 7, 11, 27, 38, 60, 82, 92] Tryz.f49 K [a0, a1, a2] h = f_ref45_refused Tryz.prog T D N K a0 a1 a2 h := by kernel_rfl
def f_ref45_behind_j1 (P : Program) (T : Tab) (D : DTab) (N : Nat) {β : Type} (K : AV → Hp → Option β) (v2 : AV) (v4 : AV) (h : Hp) : Option β :=
ldK 9 true v2 h fun x7 =>
effK (stE 9 v4 x7 h) h fun x8 h9 =>
ldK 9 true v4 h9 fun r10 =>
K r10 h9
def f_ref45_behind_j2 (P : Program) (T : Tab) (D : DTab) (N : Nat) {β : Type} (K : AV → Hp → Option β) (v2 : AV) (v4 : AV) (h : Hp) : Option β :=
f_ref45_behind_j1 P T D N K v2 v4 h
def f_ref45_behind (P : Program) (T : Tab) (D : DTab) (N : Nat) {β : Type} (K : AV → Hp → Option β) (a0 : AV) (a1 : AV) (h : Hp) : Option β :=
effK (boxE 9 a0 (List.length h)) h fun x1 h2 =>
effK (boxE 5 a1 (List.length h2)) h2 fun x3 h4 =>
effK (boxE 9 (.agg [.s (.int .i64 0), .s (.int .i64 0), .s (.int .i64 0), .s (.int .i64 0), .s (.int .i64 0), .s (.int .i64 0), .s (.int .i64 0), .s (.bool false), .s (.bool false)]) (List.length h4)) h4 fun x5 h6 =>
faK 1 x3 fun x11 =>
ldK 1 false x11 h6 fun x12 =>
eqK P false 3 x12 (.s (.int .i64 1)) h6 fun x13 =>
condK x13 (
faK 4 x3 fun x14 =>
ldK 1 false x14 h6 fun x15 =>
faK 4 x3 fun x16 =>
ldK 1 false x16 h6 fun x17 =>
faK 2 x3 fun x18 =>
ldK 1 false x18 h6 fun x19 =>
faK 3 x3 fun x20 =>
ldK 1 false x20 h6 fun x21 =>
buildK [.s (.int .i64 0), .s (.int .i64 0), .s (.int .i64 0), .s (.int .i64 0), .s (.int .i64 0), .s (.int .i64 0), .s (.int .i64 0), .s (.bool false), .s (.bool false)] [(some (0, 1), x15), (some (4, 1), x17), (some (5, 1), x19), (some (6, 1), x21)] fun x22 =>
effK (stE 9 x5 x22 h6) h6 fun x23 h24 =>
ldK 9 true x5 h24 fun r25 =>
K r25 h24) (
eqK P false 3 x12 (.s (.int .i64 2)) h6 fun x26 =>
condK x26 (
faK 7 x1 fun x27 =>
effK (stE 1 x27 (.s (.bool true)) h6) h6 fun x28 h29 =>
f_ref45_behind_j2 P T D N K x1 x5 h29) (
eqK P false 3 x12 (.s (.int .i64 3)) h6 fun x30 =>
condK x30 (
faK 7 x1 fun x31 =>
effK (stE 1 x31 (.s (.bool false)) h6) h6 fun x32 h33 =>
f_ref45_behind_j2 P T D N K x1 x5 h33) (
eqK P false 3 x12 (.s (.int .i64 4)) h6 fun x34 =>
condK x34 (
faK 3 x3 fun x35 =>
ldK 1 false x35 h6 fun x36 =>
faK 6 x1 fun x37 =>
effK (stE 1 x37 x36 h6) h6 fun x38 h39 =>
f_ref45_behind_j2 P T D N K x1 x5 h39) (
eqK P false 3 x12 (.s (.int .i64 5)) h6 fun x40 =>
condK x40 (
faK 1 x1 fun x41 =>
ldK 1 false x41 h6 fun x42 =>
faK 4 x3 fun x43 =>
ldK 1 false x43 h6 fun x44 =>
arithK .add x42 x44 fun x45 =>
faK 4 x1 fun x46 =>
ldK 1 false x46 h6 fun x47 =>
faK 4 x3 fun x48 =>
ldK 1 false x48 h6 fun x49 =>
arithK .sub x47 x49 fun x50 =>
faK 1 x1 fun x51 =>
effD (stE 1 x51 x45 h6) h6 fun x52 h53 e54 =>
faK 4 x1 fun x55 =>
effD (stE 1 x55 x50 h53) h53 fun x56 h57 e58 =>
bif disjAll [(8, 11)] [([], []), ((idsOf x41), []), ([], []), ((idsOf x43), []), ([], []), ([], []), ((idsOf x46), []), ([], []), ((idsOf x48), []), ([], []), ([], []), e54, ([], []), e58] then (
f_ref45_behind_j2 P T D N K x1 x5 h57) else none) (
eqK P false 3 x12 (.s (.int .i64 6)) h6 fun x59 =>
condK x59 (
faK 2 x1 fun x60 =>
ldK 1 false x60 h6 fun x61 =>
faK 4 x3 fun x62 =>
ldK 1 false x62 h6 fun x63 =>
arithK .add x61 x63 fun x64 =>
faK 4 x1 fun x65 =>
ldK 1 false x65 h6 fun x66 =>
faK 4 x3 fun x67 =>
ldK 1 false x67 h6 fun x68 =>
arithK .sub x66 x68 fun x69 =>
faK 2 x1 fun x70 =>
effD (stE 1 x70 x64 h6) h6 fun x71 h72 e73 =>
faK 4 x1 fun x74 =>
effD (stE 1 x74 x69 h72) h72 fun x75 h76 e77 =>
bif disjAll [(8, 11)] [([], []), ((idsOf x60), []), ([], []), ((idsOf x62), []), ([], []), ([], []), ((idsOf x65), []), ([], []), ((idsOf x67), []), ([], []), ([], []), e73, ([], []), e77] then (
f_ref45_behind_j2 P T D N K x1 x5 h76) else none) (
faK 4 x3 fun x78 =>
ldK 1 false x78 h6 fun x79 =>
faK 2 x1 fun x80 =>
ldK 1 false x80 h6 fun x81 =>
faK 4 x1 fun x82 =>
ldK 1 false x82 h6 fun x83 =>
arithK .add x81 x83 fun x84 =>
faK 4 x3 fun x85 =>
ldK 1 false x85 h6 fun x86 =>
arithK .sub x84 x86 fun x87 =>
faK 3 x1 fun x88 =>
effD (stE 1 x88 x79 h6) h6 fun x89 h90 e91 =>
faK 2 x1 fun x92 =>
effD (stE 1 x92 x87 h90) h90 fun x93 h94 e95 =>
faK 4 x1 fun x96 =>
effD (stE 1 x96 (.s (.int .i64 0)) h94) h94 fun x97 h98 e99 =>
faK 8 x1 fun x100 =>
effD (stE 1 x100 (.s (.bool true)) h98) h98 fun x101 h102 e103 =>
bif disjAll [(8, 11)] [([], []), ((idsOf x78), []), ([], []), ((idsOf x80), []), ([], []), ((idsOf x82), []), ([], []), ([], []), ((idsOf x85), []), ([], []), ([], []), e91, ([], []), e95, ([], []), e99, ([], []), e103] then (
f_ref45_behind_j2 P T D N K x1 x5 h102) else none))))))
theorem f_ref45_behind_run (T : Tab) (D : DTab) (N : Nat) {β : Type} (K : AV → Hp → Option β) (a0 : AV) (a1 : AV) (h : Hp) : runK Tryz.prog T D N [0, 1, 2, 3, 4, 6, 21, 32, 35, 38, 43, 57] Tryz.f50 K [a0, a1] h = f_ref45_behind Tryz.prog T D N K a0 a1 h := by kernel_rfl
def f_ref31_Class (P : Program) (T : Tab) (D : DTab) (N : Nat) {β : Type} (K : AV → Hp → Option β) (a0 : AV) (h : Hp) : Option β :=
arithK .geq a0 (.s (.int .i64 1)) fun x1 =>
grpK true x1 h (fun k2 =>
arithK .leq a0 (.s (.int .i64 9)) fun x3 =>
k2 x3 h) fun x4 h5 =>
K x4 h5
theorem f_ref31_Class_run (T : Tab) (D : DTab) (N : Nat) {β : Type} (K : AV → Hp → Option β) (a0 : AV) (h : Hp) : runK Tryz.prog T D N [0, 2] Tryz.f51 K [a0] h = f_ref31_Class Tryz.prog T D N K a0 h := by kernel_rfl
def o_ref31_Sum_j1 (P : Program) (T : Tab) (D : DTab) (N : Nat) {β : Type} (K : AV → Hp → Option β) (t : Tm) (h : Hp) : Option β :=
K (.tup [(t 10), (.s (.int .i64 0))]) h
def o_ref31_Sum_L2 (P : Program) (T : Tab) (D : DTab) (N : Nat) {β : Type} (t : Tm) (h : Hp) (k : Ex → St → Option β) : Option β :=
arithK .lss (t 11) (t 3) fun x20 =>
condK x20 (
callK (T 85) [(t 0), (t 1), (t 11)] h fun x21 h22 =>
arithK .add (t 10) x21 fun x23 =>
arithK .add (t 11) (.s (.int .i64 1)) fun x24 =>
k .normal ((upd (upd (upd t 34 x20) 10 x23) 11 x24), h22)) (
k (.exit 0) ((upd t 34 x20), h))
def o_ref31_Sum_aL2 (P : Program) (T : Tab) (D : DTab) (N : Nat) {β : Type} (K : AV → Hp → Option β) (e : Ex) (s : St) : Option β :=
  e.on ((o_ref31_Sum_j1 P T D N K s.1 s.2))
  (fun i => bif i == 0 then ((o_ref31_Sum_j1 P T D N K s.1 s.2)) else (none))
  (K (.tup [(s.1 8), (s.1 9)]) s.2)
def o_ref31_Sum_G (P : Program) (T : Tab) (D : DTab) (N : Nat) {β : Type} (cL2 : St → Option β) (K : AV → Hp → Option β) (a0 : AV) (a1 : AV) (a2 : AV) (a3 : AV) (h : Hp) :  Option β :=
callK (T 30) [a0] h fun x1 h2 =>
notK x1 fun x3 =>
condK x3 (
K (.tup [(.s (.int .i64 0)), (.s (.int .i64 1))]) h2) (
callK (T 51) [a1] h2 fun x4 h5 =>
notK x4 fun x6 =>
grpK false x6 h5 (fun k7 =>
callK (T 26) [a2] h5 fun x8 h9 =>
notK x8 fun x10 =>
k7 x10 h9) fun x11 h12 =>
grpK false x11 h12 (fun k13 =>
callK (T 26) [a3] h12 fun x14 h15 =>
notK x14 fun x16 =>
k13 x16 h15) fun x17 h18 =>
condK x17 (
K (.tup [(.s (.int .i64 0)), (.s (.int .i64 2))]) h18) (
arithK .gtr a2 a3 fun x19 =>
condK x19 (
K (.tup [(.s (.int .i64 0)), (.s (.int .i64 5))]) h18) (
cL2 ((upd (upd (upd (upd (upd (upd (upd (tm0 [a0, a1, a2, a3]) 8 (.s (.int .i64 0))) 9 (.s (.int .i64 0))) 14 x3) 27 x17) 30 x19) 10 (.s (.int .i64 0))) 11 a2), h18))))
def o_ref31_Sum (P : Program) (T : Tab) (D : DTab) (N : Nat) {β : Type} (K : AV → Hp → Option β) (a0 : AV) (a1 : AV) (a2 : AV) (a3 : AV) (h : Hp) : Option β := o_ref31_Sum_G P T D N (fun s => iterK (fun s k => o_ref31_Sum_L2 P T D N s.1 s.2 k) N s (o_ref31_Sum_aL2 P T D N K)) K a0 a1 a2 a3 h
def f_ref31_Sum_j1 (P : Program) (T : Tab) (D : DTab) (N : Nat) {β : Type} (K : AV → Hp → Option β) (v10 : AV) (h : Hp) : Option β :=
K (.tup [v10, (.s (.int .i64 0))]) h
def f_ref31_Sum_b2 (P : Program) (T : Tab) (D : DTab) (N : Nat) {β : Type} (xn : AV → AV → AV → AV → AV → Hp → Option β) (x0 : AV → Hp → Option β) (v0 : AV) (v1 : AV) (v3 : AV) (v10 : AV) (v11 : AV) (h : Hp) : Option β :=
arithK .lss v11 v3 fun x20 =>
condK x20 (
callK (T 85) [v0, v1, v11] h fun x21 h22 =>
arithK .add v10 x21 fun x23 =>
arithK .add v11 (.s (.int .i64 1)) fun x24 =>
xn v0 v1 v3 x23 x24 h22) (
x0 v10 h)
def f_ref31_Sum_L2 (P : Program) (T : Tab) (D : DTab) (N : Nat) {β : Type} (x0 : AV → Hp → Option β) : Nat → AV → AV → AV → AV → AV → Hp → Option β
  | 0 => fun _ _ _ _ _ _ => none
  | n + 1 => fun v0 v1 v3 v10 v11 h => f_ref31_Sum_b2 P T D N (f_ref31_Sum_L2 P T D N x0 n) x0 v0 v1 v3 v10 v11 h
def f_ref31_Sum (P : Program) (T : Tab) (D : DTab) (N : Nat) {β : Type} (K : AV → Hp → Option β) (a0 : AV) (a1 : AV) (a2 : AV) (a3 : AV) (h : Hp) : Option β :=
callK (T 30) [a0] h fun x1 h2 =>
notK x1 fun x3 =>
condK x3 (
K (.tup [(.s (.int .i64 0)), (.s (.int .i64 1))]) h2) (
callK (T 51) [a1] h2 fun x4 h5 =>
notK x4 fun x6 =>
grpK false x6 h5 (fun k7 =>
callK (T 26) [a2] h5 fun x8 h9 =>
notK x8 fun x10 =>
k7 x10 h9) fun x11 h12 =>
grpK false x11 h12 (fun k13 =>
callK (T 26) [a3] h12 fun x14 h15 =>
notK x14 fun x16 =>
k13 x16 h15) fun x17 h18 =>
condK x17 (
K (.tup [(.s (.int .i64 0)), (.s (.int .i64 2))]) h18) (
arithK .gtr a2 a3 fun x19 =>
condK x19 (
K (.tup [(.s (.int .i64 0)), (.s (.int .i64 5))]) h18) (
f_ref31_Sum_L2 P T D N (fun w25_10 h => f_ref31_Sum_j1 P T D N K w25_10 h) N a0 a1 a3 (.s (.int .i64 0)) a2 h18)))
theorem f_ref31_Sum_b2_eq (P : Program) (T : Tab) (D : DTab) (N : Nat) {β : Type} (xn : AV → AV → AV → AV → AV → Hp → Option β) (x0 : AV → Hp → Option β) (xd : Nat → St → Option β) (xq : St → Option β) (t : Tm) (h : Hp) : o_ref31_Sum_L2 P T D N t h (fun (e : Ex) (s : St) => e.on (xn (s.1 0) (s.1 1) (s.1 3) (s.1 10) (s.1 11) s.2) (fun i => (bif i == 0 then x0 (s.1 10) s.2 else (xd i s))) (xq s)) = f_ref31_Sum_b2 P T D N xn x0 (t 0) (t 1) (t 3) (t 10) (t 11) h := by kernel_rfl
theorem f_ref31_Sum_L2_eq (P : Program) (T : Tab) (D : DTab) (N : Nat) {β : Type} (A : Ex → St → Option β) (x0 : AV → Hp → Option β) (q0 : ∀ s, A (.exit 0) s = x0 (s.1 10) s.2) : ∀ (n : Nat) (s : St), iterK (fun s k => o_ref31_Sum_L2 P T D N s.1 s.2 k) n s A = f_ref31_Sum_L2 P T D N x0 n (s.1 0) (s.1 1) (s.1 3) (s.1 10) (s.1 11) s.2 := by
  intro n
  induction n with
  | zero => intro s; rfl
  | succ n ih =>
    intro s
    have hk : (fun (e : Ex) (s' : St) => Ex.on e (iterK (fun s k => o_ref31_Sum_L2 P T D N s.1 s.2 k) n s' A) (fun i => A (.exit i) s') (A .ret s')) = (fun (e : Ex) (s : St) => e.on ((f_ref31_Sum_L2 P T D N x0 n) (s.1 0) (s.1 1) (s.1 3) (s.1 10) (s.1 11) s.2) (fun i => (bif i == 0 then x0 (s.1 10) s.2 else (A (.exit i) s))) (A .ret s)) := by
      funext e s'
      cases e with
      | normal => exact ih s'
      | ret => exact rfl
      | exit i =>
        by_cases r0 : i = 0
        · subst r0; exact q0 s'
        simp only [Ex.on, beq_false_of_ne r0, cond_false]
    show o_ref31_Sum_L2 P T D N s.1 s.2 (fun (e : Ex) (s' : St) => Ex.on e (iterK (fun s k => o_ref31_Sum_L2 P T D N s.1 s.2 k) n s' A) (fun i => A (.exit i) s') (A .ret s')) = _
    rw [hk]
    exact f_ref31_Sum_b2_eq P T D N (f_ref31_Sum_L2 P T D N x0 n) x0 (fun i s => A (.exit i) s) (fun s => A .ret s) s.1 s.2
theorem f_ref31_Sum_old_eq (P : Program) (T : Tab) (D : DTab) (N : Nat) {β : Type} (K : AV → Hp → Option β) (a0 : AV) (a1 : AV) (a2 : AV) (a3 : AV) (h : Hp) : o_ref31_Sum P T D N K a0 a1 a2 a3 h = f_ref31_Sum P T D N K a0 a1 a2 a3 h := by
  have eL2 : (fun s : St => iterK (fun s k => o_ref31_Sum_L2 P T D N s.1 s.2 k) N s (o_ref31_Sum_aL2 P T D N K)) = (fun s : St => f_ref31_Sum_L2 P T D N (fun w25_10 h => f_ref31_Sum_j1 P T D N K w25_10 h) N (s.1 0) (s.1 1) (s.1 3) (s.1 10) (s.1 11) s.2) := funext fun s => f_ref31_Sum_L2_eq P T D N (o_ref31_Sum_aL2 P T D N K) (fun w25_10 h => f_ref31_Sum_j1 P T D N K w25_10 h) (fun s => rfl) N s
  show o_ref31_Sum_G P T D N (fun s => iterK (fun s k => o_ref31_Sum_L2 P T D N s.1 s.2 k) N s (o_ref31_Sum_aL2 P T D N K)) K a0 a1 a2 a3 h = _
  rw [eL2]
  kernel_rfl
theorem o_ref31_Sum_run (T : Tab) (D : DTab) (N : Nat) {β : Type} (K : AV → Hp → Option β) (a0 : AV) (a1 : AV) (a2 : AV) (a3 : AV) (h : Hp) : runK Tryz.prog T D N [0, 1, 2, 3, 8, 9, 10, 11, 14, 27, 30, 34] Tryz.f52 K [a0, a1, a2, a3] h = o_ref31_Sum Tryz.prog T D N K a0 a1 a2 a3 h := by kernel_rfl
theorem f_ref31_Sum_run (T : Tab) (D : DTab) (N : Nat) {β : Type} (K : AV → Hp → Option β) (a0 : AV) (a1 : AV) (a2 : AV) (a3 : AV) (h : Hp) : runK Tryz.prog T D N [0, 1, 2, 3, 8, 9, 10, 11, 14, 27, 30, 34] Tryz.f52 K [a0, a1, a2, a3] h = f_ref31_Sum Tryz.prog T D N K a0 a1 a2 a3 h := (o_ref31_Sum_run T D N K a0 a1 a2 a3 h).trans (f_ref31_Sum_old_eq Tryz.prog T D N K a0 a1 a2 a3 h)
def f_ref01_Proportion (P : Program) (T : Tab) (D : DTab) (N : Nat) {β : Type} (K : AV → Hp → Option β) (a0 : AV) (a1 : AV) (a2 : AV) (h : Hp) : Option β :=
callK (T 86) [a0, a1, a2, (.s (.int .i64 128849018880000))] h fun x1 h2 =>
exK x1 0 fun x3 =>
exK x1 1 fun x4 =>
exK x1 2 fun x5 =>
K (.tup [x3, x4]) h2
theorem f_ref01_Proportion_run (T : Tab) (D : DTab) (N : Nat) {β : Type} (K : AV → Hp → Option β) (a0 : AV) (a1 : AV) (a2 : AV) (h : Hp) : runK Tryz.prog T D N [0, 1, 2, 6, 7, 8, 9] Tryz.f53 K [a0, a1, a2] h = f_ref01_Proportion Tryz.prog T D N K a0 a1 a2 h := by kernel_rfl
def f_journey_table_1 (P : Program) (T : Tab) (D : DTab) (N : Nat) {β : Type} (K : AV → Hp → Option β) (a0 : AV) (h : Hp) : Option β :=
effK (boxE 9 a0 (List.length h)) h fun x1 h2 =>
K (.s (.bool false)) h2
theorem f_journey_table_1_run (T : Tab) (D : DTab) (N : Nat) {β : Type} (K : AV → Hp → Option β) (a0 : AV) (h : Hp) : runK Tryz.prog T D N [0, 2] Tryz.f54 K [a0] h = f_journey_table_1 Tryz.prog T D N K a0 h := by kernel_rfl
def f_journey_table_2 (P : Program) (T : Tab) (D : DTab) (N : Nat) {β : Type} (K : AV → Hp → Option β) (a0 : AV) (h : Hp) : Option β :=
effK (boxE 9 a0 (List.length h)) h fun x1 h2 =>
faK 7 x1 fun x3 =>
ldK 1 false x3 h2 fun x4 =>
K x4 h2
theorem f_journey_table_2_run (T : Tab) (D : DTab) (N : Nat) {β : Type} (K : AV → Hp → Option β) (a0 : AV) (h : Hp) : runK Tryz.prog T D N [0, 1, 2] Tryz.f55 K [a0] h = f_journey_table_2 Tryz.prog T D N K a0 h := by kernel_rfl
def f_journey_table_3 (P : Program) (T : Tab) (D : DTab) (N : Nat) {β : Type} (K : AV → Hp → Option β) (a0 : AV) (h : Hp) : Option β :=
effK (boxE 5 a0 (List.length h)) h fun x1 h2 =>
faK 2 x1 fun x3 =>
ldK 1 false x3 h2 fun x4 =>
eqK P false 3 x4 (.s (.int .i64 0)) h2 fun x5 =>
grpK true x5 h2 (fun k6 =>
faK 3 x1 fun x7 =>
ldK 1 false x7 h2 fun x8 =>
eqK P false 3 x8 (.s (.int .i64 0)) h2 fun x9 =>
k6 x9 h2) fun x10 h11 =>
grpK true x10 h11 (fun k12 =>
faK 4 x1 fun x13 =>
ldK 1 false x13 h11 fun x14 =>
callK (T 24) [x14, (.s (.int .i64 1)), (.s (.int .i64 10737418240000))] h11 fun x15 h16 =>
k12 x15 h16) fun x17 h18 =>
K x17 h18
theorem f_journey_table_3_run (T : Tab) (D : DTab) (N : Nat) {β : Type} (K : AV → Hp → Option β) (a0 : AV) (h : Hp) : runK Tryz.prog T D N [0, 1, 2] Tryz.f56 K [a0] h = f_journey_table_3 Tryz.prog T D N K a0 h := by kernel_rfl
def f_journey_table_4 (P : Program) (T : Tab) (D : DTab) (N : Nat) {β : Type} (K : AV → Hp → Option β) (a0 : AV) (h : Hp) : Option β :=
effK (boxE 5 a0 (List.length h)) h fun x1 h2 =>
faK 2 x1 fun x3 =>
ldK 1 false x3 h2 fun x4 =>
callK (T 58) [x4] h2 fun x5 h6 =>
grpK true x5 h6 (fun k7 =>
faK 3 x1 fun x8 =>
ldK 1 false x8 h6 fun x9 =>
callK (T 58) [x9] h6 fun x10 h11 =>
k7 x10 h11) fun x12 h13 =>
grpK true x12 h13 (fun k14 =>
faK 2 x1 fun x15 =>
ldK 1 false x15 h13 fun x16 =>
faK 3 x1 fun x17 =>
ldK 1 false x17 h13 fun x18 =>
eqK P true 3 x16 x18 h13 fun x19 =>
k14 x19 h13) fun x20 h21 =>
grpK true x20 h21 (fun k22 =>
faK 4 x1 fun x23 =>
ldK 1 false x23 h21 fun x24 =>
callK (T 24) [x24, (.s (.int .i64 1)), (.s (.int .i64 10737418240000))] h21 fun x25 h26 =>
k22 x25 h26) fun x27 h28 =>
K x27 h28
theorem f_journey_table_4_run (T : Tab) (D : DTab) (N : Nat) {β : Type} (K : AV → Hp → Option β) (a0 : AV) (h : Hp) : runK Tryz.prog T D N [0, 1, 2] Tryz.f57 K [a0] h = f_journey_table_4 Tryz.prog T D N K a0 h := by kernel_rfl
def f_journey_node (P : Program) (T : Tab) (D : DTab) (N : Nat) {β : Type} (K : AV → Hp → Option β) (a0 : AV) (h : Hp) : Option β :=
callK (T 24) [a0, (.s (.int .i64 1)), (.s (.int .i64 99))] h fun x1 h2 =>
K x1 h2
theorem f_journey_node_run (T : Tab) (D : DTab) (N : Nat) {β : Type} (K : AV → Hp → Option β) (a0 : AV) (h : Hp) : runK Tryz.prog T D N [0, 2] Tryz.f58 K [a0] h = f_journey_node Tryz.prog T D N K a0 h := by kernel_rfl
def f_journey_table_5 (P : Program) (T : Tab) (D : DTab) (N : Nat) {β : Type} (K : AV → Hp → Option β) (a0 : AV) (a1 : AV) (h : Hp) : Option β :=
effK (boxE 5 a1 (List.length h)) h fun x1 h2 =>
faK 4 x1 fun x3 =>
ldK 1 false x3 h2 fun x4 =>
faK 4 x1 fun x5 =>
ldK 1 false x5 h2 fun x6 =>
faK 2 x1 fun x7 =>
ldK 1 false x7 h2 fun x8 =>
faK 3 x1 fun x9 =>
ldK 1 false x9 h2 fun x10 =>
buildK [.s (.int .i64 0), .s (.int .i64 0), .s (.int .i64 0), .s (.int .i64 0), .s (.int .i64 0), .s (.int .i64 0), .s (.int .i64 0), .s (.bool false), .s (.bool false)] [(some (0, 1), x4), (some (4, 1), x6), (some (5, 1), x8), (some (6, 1), x10)] fun x11 =>
nilK a0 fun x12 =>
effK (stE 9 x12 x11 h2) h2 fun x13 h14 =>
K (.tup []) h14
theorem f_journey_table_5_run (T : Tab) (D : DTab) (N : Nat) {β : Type} (K : AV → Hp → Option β) (a0 : AV) (a1 : AV) (h : Hp) : runK Tryz.prog T D N [0, 1, 3] Tryz.f59 K [a0, a1] h = f_journey_table_5 Tryz.prog T D N K a0 a1 h := by kernel_rfl
def f_journey_table_6 (P : Program) (T : Tab) (D : DTab) (N : Nat) {β : Type} (K : AV → Hp → Option β) (a0 : AV) (h : Hp) : Option β :=
effK (boxE 5 a0 (List.length h)) h fun x1 h2 =>
faK 2 x1 fun x3 =>
ldK 1 false x3 h2 fun x4 =>
callK (T 58) [x4] h2 fun x5 h6 =>
grpK true x5 h6 (fun k7 =>
faK 3 x1 fun x8 =>
ldK 1 false x8 h6 fun x9 =>
eqK P false 3 x9 (.s (.int .i64 0)) h6 fun x10 =>
k7 x10 h6) fun x11 h12 =>
grpK true x11 h12 (fun k13 =>
faK 4 x1 fun x14 =>
ldK 1 false x14 h12 fun x15 =>
eqK P false 3 x15 (.s (.int .i64 0)) h12 fun x16 =>
k13 x16 h12) fun x17 h18 =>
K x17 h18
theorem f_journey_table_6_run (T : Tab) (D : DTab) (N : Nat) {β : Type} (K : AV → Hp → Option β) (a0 : AV) (h : Hp) : runK Tryz.prog T D N [0, 1, 2] Tryz.f60 K [a0] h = f_journey_table_6 Tryz.prog T D N K a0 h := by kernel_rfl
def f_journey_table_7 (P : Program) (T : Tab) (D : DTab) (N : Nat) {β : Type} (K : AV → Hp → Option β) (a0 : AV) (a1 : AV) (h : Hp) : Option β :=
effK (boxE 5 a1 (List.length h)) h fun x1 h2 =>
nilK a0 fun x3 =>
faK 7 x3 fun x4 =>
effK (stE 1 x4 (.s (.bool true)) h2) h2 fun x5 h6 =>
K (.tup []) h6
theorem f_journey_table_7_run (T : Tab) (D : DTab) (N : Nat) {β : Type} (K : AV → Hp → Option β) (a0 : AV) (a1 : AV) (h : Hp) : runK Tryz.prog T D N [0, 1] Tryz.f61 K [a0, a1] h = f_journey_table_7 Tryz.prog T D N K a0 a1 h := by kernel_rfl
def f_journey_table_8 (P : Program) (T : Tab) (D : DTab) (N : Nat) {β : Type} (K : AV → Hp → Option β) (a0 : AV) (h : Hp) : Option β :=
effK (boxE 5 a0 (List.length h)) h fun x1 h2 =>
faK 2 x1 fun x3 =>
ldK 1 false x3 h2 fun x4 =>
eqK P false 3 x4 (.s (.int .i64 0)) h2 fun x5 =>
grpK true x5 h2 (fun k6 =>
faK 3 x1 fun x7 =>
ldK 1 false x7 h2 fun x8 =>
eqK P false 3 x8 (.s (.int .i64 0)) h2 fun x9 =>
k6 x9 h2) fun x10 h11 =>
grpK true x10 h11 (fun k12 =>
faK 4 x1 fun x13 =>
ldK 1 false x13 h11 fun x14 =>
eqK P false 3 x14 (.s (.int .i64 0)) h11 fun x15 =>
k12 x15 h11) fun x16 h17 =>
K x16 h17
theorem f_journey_table_8_run (T : Tab) (D : DTab) (N : Nat) {β : Type} (K : AV → Hp → Option β) (a0 : AV) (h : Hp) : runK Tryz.prog T D N [0, 1, 2] Tryz.f62 K [a0] h = f_journey_table_8 Tryz.prog T D N K a0 h := by kernel_rfl
def f_journey_table_9 (P : Program) (T : Tab) (D : DTab) (N : Nat) {β : Type} (K : AV → Hp → Option β) (a0 : AV) (h : Hp) : Option β :=
effK (boxE 9 a0 (List.length h)) h fun x1 h2 =>
faK 7 x1 fun x3 =>
ldK 1 false x3 h2 fun x4 =>
notK x4 fun x5 =>
K x5 h2
theorem f_journey_table_9_run (T : Tab) (D : DTab) (N : Nat) {β : Type} (K : AV → Hp → Option β) (a0 : AV) (h : Hp) : runK Tryz.prog T D N [0, 1, 2] Tryz.f63 K [a0] h = f_journey_table_9 Tryz.prog T D N K a0 h := by kernel_rfl
def f_journey_table_10 (P : Program) (T : Tab) (D : DTab) (N : Nat) {β : Type} (K : AV → Hp → Option β) (a0 : AV) (a1 : AV) (h : Hp) : Option β :=
effK (boxE 5 a1 (List.length h)) h fun x1 h2 =>
nilK a0 fun x3 =>
faK 7 x3 fun x4 =>
effK (stE 1 x4 (.s (.bool false)) h2) h2 fun x5 h6 =>
K (.tup []) h6
theorem f_journey_table_10_run (T : Tab) (D : DTab) (N : Nat) {β : Type} (K : AV → Hp → Option β) (a0 : AV) (a1 : AV) (h : Hp) : runK Tryz.prog T D N [0, 1] Tryz.f64 K [a0, a1] h = f_journey_table_10 Tryz.prog T D N K a0 a1 h := by kernel_rfl
def f_journey_table_11 (P : Program) (T : Tab) (D : DTab) (N : Nat) {β : Type} (K : AV → Hp → Option β) (a0 : AV) (h : Hp) : Option β :=
effK (boxE 5 a0 (List.length h)) h fun x1 h2 =>
faK 2 x1 fun x3 =>
ldK 1 false x3 h2 fun x4 =>
eqK P false 3 x4 (.s (.int .i64 0)) h2 fun x5 =>
grpK true x5 h2 (fun k6 =>
faK 3 x1 fun x7 =>
ldK 1 false x7 h2 fun x8 =>
callK (T 58) [x8] h2 fun x9 h10 =>
k6 x9 h10) fun x11 h12 =>
grpK true x11 h12 (fun k13 =>
faK 4 x1 fun x14 =>
ldK 1 false x14 h12 fun x15 =>
eqK P false 3 x15 (.s (.int .i64 0)) h12 fun x16 =>
k13 x16 h12) fun x17 h18 =>
K x17 h18
theorem f_journey_table_11_run (T : Tab) (D : DTab) (N : Nat) {β : Type} (K : AV → Hp → Option β) (a0 : AV) (h : Hp) : runK Tryz.prog T D N [0, 1, 2] Tryz.f65 K [a0] h = f_journey_table_11 Tryz.prog T D N K a0 h := by kernel_rfl
def f_journey_table_12 (P : Program) (T : Tab) (D : DTab) (N : Nat) {β : Type} (K : AV → Hp → Option β) (a0 : AV) (a1 : AV) (h : Hp) : Option β :=
effK (boxE 5 a1 (List.length h)) h fun x1 h2 =>
faK 3 x1 fun x3 =>
ldK 1 false x3 h2 fun x4 =>
nilK a0 fun x5 =>
faK 6 x5 fun x6 =>
effK (stE 1 x6 x4 h2) h2 fun x7 h8 =>
K (.tup []) h8
theorem f_journey_table_12_run (T : Tab) (D : DTab) (N : Nat) {β : Type} (K : AV → Hp → Option β) (a0 : AV) (a1 : AV) (h : Hp) : runK Tryz.prog T D N [0, 1, 3] Tryz.f66 K [a0, a1] h = f_journey_table_12 Tryz.prog T D N K a0 a1 h := by kernel_rfl
def f_journey_table_13 (P : Program) (T : Tab) (D : DTab) (N : Nat) {β : Type} (K : AV → Hp → Option β) (a0 : AV) (a1 : AV) (h : Hp) : Option β :=
effK (boxE 5 a1 (List.length h)) h fun x1 h2 =>
nilK a0 fun x3 =>
faK 1 x3 fun x4 =>
ldK 1 false x4 h2 fun x5 =>
faK 4 x1 fun x6 =>
ldK 1 false x6 h2 fun x7 =>
arithK .add x5 x7 fun x8 =>
nilK a0 fun x9 =>
faK 4 x9 fun x10 =>
ldK 1 false x10 h2 fun x11 =>
faK 4 x1 fun x12 =>
ldK 1 false x12 h2 fun x13 =>
arithK .sub x11 x13 fun x14 =>
nilK a0 fun x15 =>
faK 1 x15 fun x16 =>
effD (stE 1 x16 x8 h2) h2 fun x17 h18 e19 =>
nilK a0 fun x20 =>
faK 4 x20 fun x21 =>
effD (stE 1 x21 x14 h18) h18 fun x22 h23 e24 =>
bif disjAll [(14, 18)] [([], []), ([], []), ([], []), ([], []), ([], []), ((idsOf x4), []), ([], []), ((idsOf x6), []), ([], []), ([], []), ([], []), ([], []), ((idsOf x10), []), ([], []), ((idsOf x12), []), ([], []), ([], []), ([], []), e19, ([], []), ([], []), e24] then (
K (.tup []) h23) else none
theorem f_journey_table_13_run (T : Tab) (D : DTab) (N : Nat) {β : Type} (K : AV → Hp → Option β) (a0 : AV) (a1 : AV) (h : Hp) : runK Tryz.prog T D N [0, 1, 3] Tryz.f67 K [a0, a1] h = f_journey_table_13 Tryz.prog T D N K a0 a1 h := by kernel_rfl
def f_journey_table_14 (P : Program) (T : Tab) (D : DTab) (N : Nat) {β : Type} (K : AV → Hp → Option β) (a0 : AV) (a1 : AV) (h : Hp) : Option β :=
effK (boxE 5 a1 (List.length h)) h fun x1 h2 =>
nilK a0 fun x3 =>
faK 2 x3 fun x4 =>
ldK 1 false x4 h2 fun x5 =>
faK 4 x1 fun x6 =>
ldK 1 false x6 h2 fun x7 =>
arithK .add x5 x7 fun x8 =>
nilK a0 fun x9 =>
faK 4 x9 fun x10 =>
ldK 1 false x10 h2 fun x11 =>
faK 4 x1 fun x12 =>
ldK 1 false x12 h2 fun x13 =>
arithK .sub x11 x13 fun x14 =>
nilK a0 fun x15 =>
faK 2 x15 fun x16 =>
effD (stE 1 x16 x8 h2) h2 fun x17 h18 e19 =>
nilK a0 fun x20 =>
faK 4 x20 fun x21 =>
effD (stE 1 x21 x14 h18) h18 fun x22 h23 e24 =>
bif disjAll [(14, 18)] [([], []), ([], []), ([], []), ([], []), ([], []), ((idsOf x4), []), ([], []), ((idsOf x6), []), ([], []), ([], []), ([], []), ([], []), ((idsOf x10), []), ([], []), ((idsOf x12), []), ([], []), ([], []), ([], []), e19, ([], []), ([], []), e24] then (
K (.tup []) h23) else none
theorem f_journey_table_14_run (T : Tab) (D : DTab) (N : Nat) {β : Type} (K : AV → Hp → Option β) (a0 : AV) (a1 : AV) (h : Hp) : runK Tryz.prog T D N [0, 1, 3] Tryz.f68 K [a0, a1] h = f_journey_table_14 Tryz.prog T D N K a0 a1 h := by kernel_rfl
def f_journey_table_15 (P : Program) (T : Tab) (D : DTab) (N : Nat) {β : Type} (K : AV → Hp → Option β) (a0 : AV) (h : Hp) : Option β :=
effK (boxE 5 a0 (List.length h)) h fun x1 h2 =>
faK 2 x1 fun x3 =>
ldK 1 false x3 h2 fun x4 =>
callK (T 58) [x4] h2 fun x5 h6 =>
grpK true x5 h6 (fun k7 =>
faK 3 x1 fun x8 =>
ldK 1 false x8 h6 fun x9 =>
eqK P false 3 x9 (.s (.int .i64 0)) h6 fun x10 =>
k7 x10 h6) fun x11 h12 =>
grpK true x11 h12 (fun k13 =>
faK 4 x1 fun x14 =>
ldK 1 false x14 h12 fun x15 =>
callK (T 24) [x15, (.s (.int .i64 0)), (.s (.int .i64 10737418240000))] h12 fun x16 h17 =>
k13 x16 h17) fun x18 h19 =>
K x18 h19
theorem f_journey_table_15_run (T : Tab) (D : DTab) (N : Nat) {β : Type} (K : AV → Hp → Option β) (a0 : AV) (h : Hp) : runK Tryz.prog T D N [0, 1, 2] Tryz.f69 K [a0] h = f_journey_table_15 Tryz.prog T D N K a0 h := by kernel_rfl
def f_journey_table_16 (P : Program) (T : Tab) (D : DTab) (N : Nat) {β : Type} (K : AV → Hp → Option β) (a0 : AV) (a1 : AV) (h : Hp) : Option β :=
effK (boxE 5 a1 (List.length h)) h fun x1 h2 =>
faK 4 x1 fun x3 =>
ldK 1 false x3 h2 fun x4 =>
nilK a0 fun x5 =>
faK 2 x5 fun x6 =>
ldK 1 false x6 h2 fun x7 =>
nilK a0 fun x8 =>
faK 4 x8 fun x9 =>
ldK 1 false x9 h2 fun x10 =>
arithK .add x7 x10 fun x11 =>
faK 4 x1 fun x12 =>
ldK 1 false x12 h2 fun x13 =>
arithK .sub x11 x13 fun x14 =>
nilK a0 fun x15 =>
faK 3 x15 fun x16 =>
effD (stE 1 x16 x4 h2) h2 fun x17 h18 e19 =>
nilK a0 fun x20 =>
faK 2 x20 fun x21 =>
effD (stE 1 x21 x14 h18) h18 fun x22 h23 e24 =>
nilK a0 fun x25 =>
faK 4 x25 fun x26 =>
effD (stE 1 x26 (.s (.int .i64 0)) h23) h23 fun x27 h28 e29 =>
nilK a0 fun x30 =>
faK 8 x30 fun x31 =>
effD (stE 1 x31 (.s (.bool true)) h28) h28 fun x32 h33 e34 =>
bif disjAll [(16, 20)] [([], []), ([], []), ([], []), ([], []), ([], []), ((idsOf x3), []), ([], []), ([], []), ([], []), ((idsOf x6), []), ([], []), ([], []), ([], []), ((idsOf x9), []), ([], []), ([], []), ((idsOf x12), []), ([], []), ([], []), ([], []), e19, ([], []), ([], []), e24, ([], []), ([], []), e29, ([], []), ([], []), e34] then (
K (.tup []) h33) else none
theorem f_journey_table_16_run (T : Tab) (D : DTab) (N : Nat) {β : Type} (K : AV → Hp → Option β) (a0 : AV) (a1 : AV) (h : Hp) : runK Tryz.prog T D N [0, 1, 3] Tryz.f70 K [a0, a1] h = f_journey_table_16 Tryz.prog T D N K a0 a1 h := by kernel_rfl
def o_slices_IndexFunc_Leg_j1 (P : Program) (T : Tab) (D : DTab) (N : Nat) {β : Type} (K : AV → Hp → Option β) (t : Tm) (h : Hp) : Option β :=
K (.s (.int .i64 (-1))) h
def o_slices_IndexFunc_Leg_L2 (P : Program) (T : Tab) (D : DTab) (N : Nat) {β : Type} (t : Tm) (h : Hp) (k : Ex → St → Option β) : Option β :=
arithK .lss (t 8) (t 7) fun x2 =>
condK x2 (
iaK 1 (t 0) (t 8) fun x3 =>
ldK 1 false x3 h fun x4 =>
callVK T (t 1) [x4] h fun x5 h6 =>
condK x5 (
k .ret ((upd (upd (upd (upd t 9 x2) 5 (t 8)) 16 x5) 4 (t 8)), h6)) (
arithK .add (t 8) (.s (.int .i64 1)) fun x7 =>
k .normal ((upd (upd (upd (upd t 9 x2) 5 (t 8)) 16 x5) 8 x7), h6))) (
k (.exit 0) ((upd t 9 x2), h))
def o_slices_IndexFunc_Leg_aL2 (P : Program) (T : Tab) (D : DTab) (N : Nat) {β : Type} (K : AV → Hp → Option β) (e : Ex) (s : St) : Option β :=
  e.on ((o_slices_IndexFunc_Leg_j1 P T D N K s.1 s.2))
  (fun i => bif i == 0 then ((o_slices_IndexFunc_Leg_j1 P T D N K s.1 s.2)) else (none))
  (K (s.1 4) s.2)
end Go.AM
