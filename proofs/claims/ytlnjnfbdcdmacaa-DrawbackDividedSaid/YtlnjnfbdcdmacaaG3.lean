import Derived.Test.YtlnjnfbdcdmacaaG2
import Derived.Test.YtlnjnfbdcdmacaaProg
namespace Go.AM
open Go.Proofs
set_option linter.unusedVariables false
set_option maxRecDepth 100000
theorem un_3 : Try.prog.underlying 3 = some (.int .i64) := by kernel_rfl
theorem un_77 : Try.prog.underlying 77 = some (.int .u64) := by kernel_rfl
@[simp] theorem cv_3_77 {β : Type} (n : Int) (k : K β) : convK Try.prog 3 77 (.s (.int .i64 n)) k = k (.s (.int .u64 (IntKind.u64.wrap n))) := convK_int un_3 un_77 k
theorem un_88 : Try.prog.underlying 88 = some (.int .u64) := by kernel_rfl
@[simp] theorem cv_3_88 {β : Type} (n : Int) (k : K β) : convK Try.prog 3 88 (.s (.int .i64 n)) k = k (.s (.int .u64 (IntKind.u64.wrap n))) := convK_int un_3 un_88 k
theorem un_5 : Try.prog.underlying 5 = some (.int .u8) := by kernel_rfl
@[simp] theorem cv_5_3 {β : Type} (n : Int) (k : K β) : convK Try.prog 5 3 (.s (.int .u8 n)) k = k (.s (.int .i64 (IntKind.i64.wrap n))) := convK_int un_5 un_3 k
@[simp] theorem cv_77_3 {β : Type} (n : Int) (k : K β) : convK Try.prog 77 3 (.s (.int .u64 n)) k = k (.s (.int .i64 (IntKind.i64.wrap n))) := convK_int un_77 un_3 k
@[simp] theorem cv_77_5 {β : Type} (n : Int) (k : K β) : convK Try.prog 77 5 (.s (.int .u64 n)) k = k (.s (.int .u8 (IntKind.u8.wrap n))) := convK_int un_77 un_5 k
@[simp] theorem el_22 : elemOf Try.prog 22 = some 31 := by kernel_rfl
@[simp] theorem eqn_22_false {β : Type} (h : Hp) (k : K β) : eqK Try.prog false 22 (.s (.slice none 0 0)) (.s (.slice none 0 0)) h k = k (.s (.bool true)) := by kernel_rfl
@[simp] theorem eqn_22_true {β : Type} (h : Hp) (k : K β) : eqK Try.prog true 22 (.s (.slice none 0 0)) (.s (.slice none 0 0)) h k = k (.s (.bool false)) := by kernel_rfl
@[simp] theorem el_23 : elemOf Try.prog 23 = some 37 := by kernel_rfl
@[simp] theorem eqn_23_false {β : Type} (h : Hp) (k : K β) : eqK Try.prog false 23 (.s (.slice none 0 0)) (.s (.slice none 0 0)) h k = k (.s (.bool true)) := by kernel_rfl
@[simp] theorem eqn_23_true {β : Type} (h : Hp) (k : K β) : eqK Try.prog true 23 (.s (.slice none 0 0)) (.s (.slice none 0 0)) h k = k (.s (.bool false)) := by kernel_rfl
theorem key_3 : Try.prog.underlying 3 = some (.int .i64) := un_3
/-- spile/spilelaw48.DrawbackRefunds -/
def f_law48_DrawbackRefunds (P : Program) (T : Tab) (D : DTab) (N : Nat) {β : Type} (K : AV → Hp → Option β) (a0 : AV) (a1 : AV) (a2 : AV) (h : Hp) : Option β :=
callK (T 10) [] h fun x1 h2 =>
notK x1 fun x3 =>
grpK false x3 h2 (fun k4 =>
callK (T 11) [a0, a1] h2 fun x5 h6 =>
notK x5 fun x7 =>
k4 x7 h6) fun x8 h9 =>
condK x8 (
callK (T 10) [] h9 fun x10 h11 =>
K x10 h11) (
callK (T 13) [a0] h9 fun x12 h13 =>
callK (T 12) [x12] h13 fun x14 h15 =>
exK x14 0 fun x16 =>
exK x14 1 fun x17 =>
callK (T 14) [a0] h15 fun x18 h19 =>
exK x18 0 fun x20 =>
exK x18 1 fun x21 =>
callK (T 13) [a0] h19 fun x22 h23 =>
callK (T 16) [a1] h23 fun x24 h25 =>
callK (T 15) [x22, x24, a2] h25 fun x26 h27 =>
exK x26 0 fun x28 =>
exK x26 1 fun x29 =>
exK x26 2 fun x30 =>
callK (T 17) [a0, a1, a2] h27 fun x31 h32 =>
exK x31 0 fun x33 =>
exK x31 1 fun x34 =>
exK x31 2 fun x35 =>
eqK P false 3 x16 x20 h32 fun x36 =>
grpK true x36 h32 (fun k37 =>
eqK P false 26 x17 x21 h32 fun x38 =>
k37 x38 h32) fun x39 h40 =>
grpK true x39 h40 (fun k41 =>
callK (T 18) [x28, x33] h40 fun x42 h43 =>
k41 x42 h43) fun x44 h45 =>
grpK true x44 h45 (fun k46 =>
eqK P false 3 x29 x34 h45 fun x47 =>
k46 x47 h45) fun x48 h49 =>
grpK true x48 h49 (fun k50 =>
eqK P false 26 x30 x35 h49 fun x51 =>
k50 x51 h49) fun x52 h53 =>
K x52 h53)
theorem f_law48_DrawbackRefunds_run (T : Tab) (D : DTab) (N : Nat) {β : Type} (K : AV → Hp → Option β) (a0 : AV) (a1 : AV) (a2 : AV) (h : Hp) : runK Try.prog T D N [0, 1, 2, 6, 7, 8, 9, 10, 11, 12, 13, 14, 15, 16, 24] Try.f3 K [a0, a1, a2] h = f_law48_DrawbackRefunds Try.prog T D N K a0 a1 a2 h := by kernel_rfl
/-- spile/spilelaw48.DrawbackLeaves -/
def f_law48_DrawbackLeaves (P : Program) (T : Tab) (D : DTab) (N : Nat) {β : Type} (K : AV → Hp → Option β) (a0 : AV) (a1 : AV) (a2 : AV) (a3 : AV) (h : Hp) : Option β :=
callK (T 10) [] h fun x1 h2 =>
notK x1 fun x3 =>
grpK false x3 h2 (fun k4 =>
callK (T 11) [a0, a1] h2 fun x5 h6 =>
notK x5 fun x7 =>
k4 x7 h6) fun x8 h9 =>
condK x8 (
callK (T 10) [] h9 fun x10 h11 =>
K x10 h11) (
callK (T 13) [a0] h9 fun x12 h13 =>
callK (T 16) [a1] h13 fun x14 h15 =>
callK (T 19) [x12, x14, a2, a3] h15 fun x16 h17 =>
exK x16 0 fun x18 =>
exK x16 1 fun x19 =>
exK x16 2 fun x20 =>
callK (T 20) [a0, a1, a2, a3] h17 fun x21 h22 =>
exK x21 0 fun x23 =>
exK x21 1 fun x24 =>
exK x21 2 fun x25 =>
callK (T 13) [a0] h22 fun x26 h27 =>
callK (T 16) [a1] h27 fun x28 h29 =>
callK (T 21) [x26, x28, a2] h29 fun x30 h31 =>
exK x30 0 fun x32 =>
exK x30 1 fun x33 =>
callK (T 22) [a0, a1, a2] h31 fun x34 h35 =>
exK x34 0 fun x36 =>
exK x34 1 fun x37 =>
eqK P false 3 x18 x23 h35 fun x38 =>
grpK true x38 h35 (fun k39 =>
eqK P false 3 x19 x24 h35 fun x40 =>
k39 x40 h35) fun x41 h42 =>
grpK true x41 h42 (fun k43 =>
eqK P false 26 x20 x25 h42 fun x44 =>
k43 x44 h42) fun x45 h46 =>
grpK true x45 h46 (fun k47 =>
eqK P false 3 x32 x36 h46 fun x48 =>
k47 x48 h46) fun x49 h50 =>
grpK true x49 h50 (fun k51 =>
eqK P false 26 x33 x37 h50 fun x52 =>
k51 x52 h50) fun x53 h54 =>
K x53 h54)
theorem f_law48_DrawbackLeaves_run (T : Tab) (D : DTab) (N : Nat) {β : Type} (K : AV → Hp → Option β) (a0 : AV) (a1 : AV) (a2 : AV) (a3 : AV) (h : Hp) : runK Try.prog T D N [0, 1, 2, 3, 8, 9, 10, 11, 12, 13, 14, 15, 16, 17, 18, 26] Try.f4 K [a0, a1, a2, a3] h = f_law48_DrawbackLeaves Try.prog T D N K a0 a1 a2 a3 h := by kernel_rfl
/-- spile/spilelaw48.DrawbackLate -/
def f_law48_DrawbackLate (P : Program) (T : Tab) (D : DTab) (N : Nat) {β : Type} (K : AV → Hp → Option β) (a0 : AV) (a1 : AV) (a2 : AV) (a3 : AV) (h : Hp) : Option β :=
callK (T 10) [] h fun x1 h2 =>
notK x1 fun x3 =>
grpK false x3 h2 (fun k4 =>
callK (T 11) [a0, a1] h2 fun x5 h6 =>
notK x5 fun x7 =>
k4 x7 h6) fun x8 h9 =>
condK x8 (
callK (T 10) [] h9 fun x10 h11 =>
K x10 h11) (
callK (T 13) [a0] h9 fun x12 h13 =>
callK (T 16) [a1] h13 fun x14 h15 =>
callK (T 23) [x12, x14, a2, a3] h15 fun x16 h17 =>
exK x16 0 fun x18 =>
exK x16 1 fun x19 =>
callK (T 24) [a0, a1, a2, a3] h17 fun x20 h21 =>
exK x20 0 fun x22 =>
exK x20 1 fun x23 =>
callK (T 18) [x18, x22] h21 fun x24 h25 =>
grpK true x24 h25 (fun k26 =>
eqK P false 26 x19 x23 h25 fun x27 =>
k26 x27 h25) fun x28 h29 =>
K x28 h29)
theorem f_law48_DrawbackLate_run (T : Tab) (D : DTab) (N : Nat) {β : Type} (K : AV → Hp → Option β) (a0 : AV) (a1 : AV) (a2 : AV) (a3 : AV) (h : Hp) : runK Try.prog T D N [0, 1, 2, 3, 8, 9, 10, 11, 12, 20] Try.f5 K [a0, a1, a2, a3] h = f_law48_DrawbackLate Try.prog T D N K a0 a1 a2 a3 h := by kernel_rfl
def o_law48_DrawbackSums_j1 (P : Program) (T : Tab) (D : DTab) (N : Nat) {β : Type} (K : AV → Hp → Option β) (t : Tm) (h : Hp) : Option β :=
callK (T 13) [(t 0)] h fun x32 h33 =>
callK (T 16) [(t 1)] h33 fun x34 h35 =>
callK (T 21) [x32, x34, (t 2)] h35 fun x36 h37 =>
exK x36 0 fun x38 =>
exK x36 1 fun x39 =>
eqK P false 26 x39 (.s (.int .i64 0)) h37 fun x40 =>
grpK true x40 h37 (fun k41 =>
eqK P false 3 x38 (t 10) h37 fun x42 =>
k41 x42 h37) fun x43 h44 =>
K x43 h44
def o_law48_DrawbackSums_j3 (P : Program) (T : Tab) (D : DTab) (N : Nat) {β : Type} (k : Ex → St → Option β) (t : Tm) (h : Hp) : Option β :=
arithK .add (t 55) (.s (.int .i64 1)) fun x46 =>
k .normal ((upd t 55 x46), h)
def o_law48_DrawbackSums_j4 (P : Program) (T : Tab) (D : DTab) (N : Nat) {β : Type} (k : Ex → St → Option β) (t : Tm) (h : Hp) : Option β :=
faK 3 (t 12) fun x77 =>
ldK 1 false x77 h fun x78 =>
eqK P true 3 (t 13) x78 h fun x79 =>
grpK false x79 h (fun k80 =>
faK 4 (t 12) fun x81 =>
ldK 1 false x81 h fun x82 =>
eqK P true 3 (t 14) x82 h fun x83 =>
k80 x83 h) fun x84 h85 =>
condK x84 (
k .ret ((upd (upd t 133 x84) 6 (.s (.bool false))), h85)) (
(o_law48_DrawbackSums_j3 P T D N k (upd t 133 x84) h85))
def o_law48_DrawbackSums_j6 (P : Program) (T : Tab) (D : DTab) (N : Nat) {β : Type} (k : Ex → St → Option β) (t : Tm) (h : Hp) : Option β :=
arithK .add (t 83) (.s (.int .i64 1)) fun x87 =>
k .normal ((upd t 83 x87), h)
def o_law48_DrawbackSums_j7 (P : Program) (T : Tab) (D : DTab) (N : Nat) {β : Type} (k : Ex → St → Option β) (t : Tm) (h : Hp) : Option β :=
(o_law48_DrawbackSums_j6 P T D N k t h)
def o_law48_DrawbackSums_L5 (P : Program) (T : Tab) (D : DTab) (N : Nat) {β : Type} (t : Tm) (h : Hp) (k : Ex → St → Option β) : Option β :=
arithK .lss (t 83) (t 82) fun x86 =>
condK x86 (
iaK 3 (t 81) (t 83) fun x88 =>
ldK 3 true x88 h fun x89 =>
effK (boxE 3 (.agg [.s (.int .i64 0), .s (.int .i64 0), .s (.int .i64 0)]) (List.length h)) h fun x90 h91 =>
effK (stE 3 x90 x89 h91) h91 fun x92 h93 =>
faK 0 x90 fun x94 =>
ldK 1 false x94 h93 fun x95 =>
faK 0 (t 12) fun x96 =>
ldK 1 false x96 h93 fun x97 =>
eqK P false 3 x95 x97 h93 fun x98 =>
condK x98 (
iaK 1 (t 7) (t 83) fun x99 =>
ldK 1 false x99 h93 fun x100 =>
arithK .lss x100 (.s (.int .i64 0)) fun x101 =>
grpK false x101 h93 (fun k102 =>
iaK 1 (t 7) (t 83) fun x103 =>
ldK 1 false x103 h93 fun x104 =>
faK 4 (t 12) fun x105 =>
ldK 1 false x105 h93 fun x106 =>
arithK .gtr x104 x106 fun x107 =>
k102 x107 h93) fun x108 h109 =>
condK x108 (
k .ret ((upd (upd (upd (upd (upd (upd t 84 x86) 17 x90) 16 (t 83)) 92 x98) 106 x108) 6 (.s (.bool false))), h109)) (
faK 2 x90 fun x110 =>
ldK 1 false x110 h109 fun x111 =>
arithK .add (t 13) x111 fun x112 =>
iaK 1 (t 7) (t 83) fun x113 =>
ldK 1 false x113 h109 fun x114 =>
arithK .add (t 14) x114 fun x115 =>
iaK 1 (t 7) (t 83) fun x116 =>
ldK 1 false x116 h109 fun x117 =>
arithK .add (t 10) x117 fun x118 =>
(o_law48_DrawbackSums_j7 P T D N k (upd (upd (upd (upd (upd (upd (upd (upd t 84 x86) 17 x90) 16 (t 83)) 92 x98) 106 x108) 13 x112) 14 x115) 10 x118) h109))) (
(o_law48_DrawbackSums_j7 P T D N k (upd (upd (upd (upd t 84 x86) 17 x90) 16 (t 83)) 92 x98) h93))) (
k (.exit 2) ((upd t 84 x86), h))
def o_law48_DrawbackSums_aL5 (P : Program) (T : Tab) (D : DTab) (N : Nat) {β : Type} (k : Ex → St → Option β) (e : Ex) (s : St) : Option β :=
  e.on ((o_law48_DrawbackSums_j4 P T D N k s.1 s.2))
  (fun i => bif i == 2 then ((o_law48_DrawbackSums_j4 P T D N k s.1 s.2)) else (bif i == 1 then ((o_law48_DrawbackSums_j3 P T D N k s.1 s.2)) else (k (.exit i) (s.1, s.2))))
  (k .ret (s.1, s.2))
def o_law48_DrawbackSums_L2_G (P : Program) (T : Tab) (D : DTab) (N : Nat) {β : Type} (cL5 : St → Option β) (t : Tm) (h : Hp) (k : Ex → St → Option β) :  Option β :=
arithK .lss (t 55) (t 54) fun x45 =>
condK x45 (
iaK 5 (t 53) (t 55) fun x47 =>
ldK 5 true x47 h fun x48 =>
effK (boxE 5 (.agg [.s (.int .i64 0), .s (.int .i64 0), .s (.int .i64 0), .s (.int .i64 0), .s (.int .i64 0)]) (List.length h)) h fun x49 h50 =>
effK (stE 5 x49 x48 h50) h50 fun x51 h52 =>
effD (callE (D 13) [(t 0)] h52 (List.length h52)) h52 fun x53 h54 e55 =>
effD (callE (D 16) [(t 1)] h54 (List.length h54)) h54 fun x56 h57 e58 =>
faK 0 x49 fun x59 =>
ldK 1 false x59 h57 fun x60 =>
effD (callE (D 19) [x53, x56, (t 2), x60] h57 (List.length h57)) h57 fun x61 h62 e63 =>
exK x61 0 fun x64 =>
exK x61 1 fun x65 =>
exK x61 2 fun x66 =>
bif disjAll [(1, 6), (3, 6)] [([], []), e55, ([], []), e58, ([], []), ([], []), ((idsOf x59), []), e63, ([], []), ([], []), ([], []), ([], []), ([], []), ([], []), ([], [])] then (
eqK P true 26 x66 (.s (.int .i64 0)) h62 fun x67 =>
grpK false x67 h62 (fun k68 =>
arithK .lss x64 (.s (.int .i64 0)) fun x69 =>
k68 x69 h62) fun x70 h71 =>
grpK false x70 h71 (fun k72 =>
arithK .lss x65 (.s (.int .i64 0)) fun x73 =>
k72 x73 h71) fun x74 h75 =>
condK x74 (
k .ret ((upd (upd (upd (upd (upd (upd (upd t 56 x45) 12 x49) 13 x64) 14 x65) 15 x66) 80 x74) 6 (.s (.bool false))), h75)) (
lenK (t 1) fun x76 =>
cL5 ((upd (upd (upd (upd (upd (upd (upd (upd (upd t 56 x45) 12 x49) 13 x64) 14 x65) 15 x66) 80 x74) 81 (t 1)) 82 x76) 83 (.s (.int .i64 0))), h75))) else none) (
k (.exit 0) ((upd t 56 x45), h))
def o_law48_DrawbackSums_L2 (P : Program) (T : Tab) (D : DTab) (N : Nat) {β : Type} (t : Tm) (h : Hp) (k : Ex → St → Option β) : Option β := o_law48_DrawbackSums_L2_G P T D N (fun s => iterK (fun s k => o_law48_DrawbackSums_L5 P T D N s.1 s.2 k) N s (o_law48_DrawbackSums_aL5 P T D N k)) t h k
def o_law48_DrawbackSums_aL2 (P : Program) (T : Tab) (D : DTab) (N : Nat) {β : Type} (K : AV → Hp → Option β) (e : Ex) (s : St) : Option β :=
  e.on ((o_law48_DrawbackSums_j1 P T D N K s.1 s.2))
  (fun i => bif i == 0 then ((o_law48_DrawbackSums_j1 P T D N K s.1 s.2)) else (none))
  (K (s.1 6) s.2)
def o_law48_DrawbackSums_G (P : Program) (T : Tab) (D : DTab) (N : Nat) {β : Type} (cL2 : St → Option β) (K : AV → Hp → Option β) (a0 : AV) (a1 : AV) (a2 : AV) (h : Hp) :  Option β :=
callK (T 10) [] h fun x1 h2 =>
notK x1 fun x3 =>
grpK false x3 h2 (fun k4 =>
callK (T 11) [a0, a1] h2 fun x5 h6 =>
notK x5 fun x7 =>
k4 x7 h6) fun x8 h9 =>
condK x8 (
callK (T 10) [] h9 fun x10 h11 =>
K x10 h11) (
callK (T 13) [a0] h9 fun x12 h13 =>
callK (T 16) [a1] h13 fun x14 h15 =>
callK (T 15) [x12, x14, a2] h15 fun x16 h17 =>
exK x16 0 fun x18 =>
exK x16 1 fun x19 =>
exK x16 2 fun x20 =>
eqK P true 26 x20 (.s (.int .i64 0)) h17 fun x21 =>
condK x21 (
lenK x18 fun x22 =>
eqK P false 3 x22 (.s (.int .i64 0)) h17 fun x23 =>
K x23 h17) (
lenK x18 fun x24 =>
lenK a1 fun x25 =>
eqK P true 3 x24 x25 h17 fun x26 =>
grpK false x26 h17 (fun k27 =>
eqK P true 3 x19 (.s (.int .i64 (-1))) h17 fun x28 =>
k27 x28 h17) fun x29 h30 =>
condK x29 (
K (.s (.bool false)) h30) (
lenK a0 fun x31 =>
cL2 ((upd (upd (upd (upd (upd (upd (upd (upd (upd (upd (upd (tm0 [a0, a1, a2]) 6 (.s (.bool false))) 27 x8) 7 x18) 8 x19) 9 x20) 40 x21) 52 x29) 10 (.s (.int .i64 0))) 53 a0) 54 x31) 55 (.s (.int .i64 0))), h30))))
def o_law48_DrawbackSums (P : Program) (T : Tab) (D : DTab) (N : Nat) {β : Type} (K : AV → Hp → Option β) (a0 : AV) (a1 : AV) (a2 : AV) (h : Hp) : Option β := o_law48_DrawbackSums_G P T D N (fun s => iterK (fun s k => o_law48_DrawbackSums_L2 P T D N s.1 s.2 k) N s (o_law48_DrawbackSums_aL2 P T D N K)) K a0 a1 a2 h
def f_law48_DrawbackSums_j1 (P : Program) (T : Tab) (D : DTab) (N : Nat) {β : Type} (K : AV → Hp → Option β) (v0 : AV) (v1 : AV) (v2 : AV) (v10 : AV) (h : Hp) : Option β :=
callK (T 13) [v0] h fun x32 h33 =>
callK (T 16) [v1] h33 fun x34 h35 =>
callK (T 21) [x32, x34, v2] h35 fun x36 h37 =>
exK x36 0 fun x38 =>
exK x36 1 fun x39 =>
eqK P false 26 x39 (.s (.int .i64 0)) h37 fun x40 =>
grpK true x40 h37 (fun k41 =>
eqK P false 3 x38 v10 h37 fun x42 =>
k41 x42 h37) fun x43 h44 =>
K x43 h44
def f_law48_DrawbackSums_j3 (P : Program) (T : Tab) (D : DTab) (N : Nat) {β : Type} (xn : AV → AV → AV → AV → AV → AV → AV → AV → Hp → Option β) (x0 : AV → AV → AV → AV → Hp → Option β) (xr : AV → Hp → Option β) (v0 : AV) (v1 : AV) (v2 : AV) (v7 : AV) (v10 : AV) (v53 : AV) (v54 : AV) (v55 : AV) (h : Hp) : Option β :=
arithK .add v55 (.s (.int .i64 1)) fun x46 =>
xn v0 v1 v2 v7 v10 v53 v54 x46 h
def f_law48_DrawbackSums_j4 (P : Program) (T : Tab) (D : DTab) (N : Nat) {β : Type} (xn : AV → AV → AV → AV → AV → AV → AV → AV → Hp → Option β) (x0 : AV → AV → AV → AV → Hp → Option β) (xr : AV → Hp → Option β) (v0 : AV) (v1 : AV) (v2 : AV) (v7 : AV) (v10 : AV) (v12 : AV) (v13 : AV) (v14 : AV) (v53 : AV) (v54 : AV) (v55 : AV) (h : Hp) : Option β :=
faK 3 v12 fun x77 =>
ldK 1 false x77 h fun x78 =>
eqK P true 3 v13 x78 h fun x79 =>
grpK false x79 h (fun k80 =>
faK 4 v12 fun x81 =>
ldK 1 false x81 h fun x82 =>
eqK P true 3 v14 x82 h fun x83 =>
k80 x83 h) fun x84 h85 =>
condK x84 (
xr (.s (.bool false)) h85) (
f_law48_DrawbackSums_j3 P T D N xn x0 xr v0 v1 v2 v7 v10 v53 v54 v55 h85)
def f_law48_DrawbackSums_j6 (P : Program) (T : Tab) (D : DTab) (N : Nat) {β : Type} (xn : AV → AV → AV → AV → AV → AV → AV → AV → AV → AV → AV → AV → AV → AV → Hp → Option β) (x2 : AV → AV → AV → AV → AV → AV → AV → AV → AV → AV → AV → Hp → Option β) (xr : AV → Hp → Option β) (v0 : AV) (v1 : AV) (v2 : AV) (v7 : AV) (v10 : AV) (v12 : AV) (v13 : AV) (v14 : AV) (v53 : AV) (v54 : AV) (v55 : AV) (v81 : AV) (v82 : AV) (v83 : AV) (h : Hp) : Option β :=
arithK .add v83 (.s (.int .i64 1)) fun x87 =>
xn v0 v1 v2 v7 v10 v12 v13 v14 v53 v54 v55 v81 v82 x87 h
def f_law48_DrawbackSums_j7 (P : Program) (T : Tab) (D : DTab) (N : Nat) {β : Type} (xn : AV → AV → AV → AV → AV → AV → AV → AV → AV → AV → AV → AV → AV → AV → Hp → Option β) (x2 : AV → AV → AV → AV → AV → AV → AV → AV → AV → AV → AV → Hp → Option β) (xr : AV → Hp → Option β) (v0 : AV) (v1 : AV) (v2 : AV) (v7 : AV) (v10 : AV) (v12 : AV) (v13 : AV) (v14 : AV) (v53 : AV) (v54 : AV) (v55 : AV) (v81 : AV) (v82 : AV) (v83 : AV) (h : Hp) : Option β :=
f_law48_DrawbackSums_j6 P T D N xn x2 xr v0 v1 v2 v7 v10 v12 v13 v14 v53 v54 v55 v81 v82 v83 h
def f_law48_DrawbackSums_b5 (P : Program) (T : Tab) (D : DTab) (N : Nat) {β : Type} (xn : AV → AV → AV → AV → AV → AV → AV → AV → AV → AV → AV → AV → AV → AV → Hp → Option β) (x2 : AV → AV → AV → AV → AV → AV → AV → AV → AV → AV → AV → Hp → Option β) (xr : AV → Hp → Option β) (v0 : AV) (v1 : AV) (v2 : AV) (v7 : AV) (v10 : AV) (v12 : AV) (v13 : AV) (v14 : AV) (v53 : AV) (v54 : AV) (v55 : AV) (v81 : AV) (v82 : AV) (v83 : AV) (h : Hp) : Option β :=
arithK .lss v83 v82 fun x86 =>
condK x86 (
iaK 3 v81 v83 fun x88 =>
ldK 3 true x88 h fun x89 =>
effK (boxE 3 (.agg [.s (.int .i64 0), .s (.int .i64 0), .s (.int .i64 0)]) (List.length h)) h fun x90 h91 =>
effK (stE 3 x90 x89 h91) h91 fun x92 h93 =>
faK 0 x90 fun x94 =>
ldK 1 false x94 h93 fun x95 =>
faK 0 v12 fun x96 =>
ldK 1 false x96 h93 fun x97 =>
eqK P false 3 x95 x97 h93 fun x98 =>
condK x98 (
iaK 1 v7 v83 fun x99 =>
ldK 1 false x99 h93 fun x100 =>
arithK .lss x100 (.s (.int .i64 0)) fun x101 =>
grpK false x101 h93 (fun k102 =>
iaK 1 v7 v83 fun x103 =>
ldK 1 false x103 h93 fun x104 =>
faK 4 v12 fun x105 =>
ldK 1 false x105 h93 fun x106 =>
arithK .gtr x104 x106 fun x107 =>
k102 x107 h93) fun x108 h109 =>
condK x108 (
xr (.s (.bool false)) h109) (
faK 2 x90 fun x110 =>
ldK 1 false x110 h109 fun x111 =>
arithK .add v13 x111 fun x112 =>
iaK 1 v7 v83 fun x113 =>
ldK 1 false x113 h109 fun x114 =>
arithK .add v14 x114 fun x115 =>
iaK 1 v7 v83 fun x116 =>
ldK 1 false x116 h109 fun x117 =>
arithK .add v10 x117 fun x118 =>
f_law48_DrawbackSums_j7 P T D N xn x2 xr v0 v1 v2 v7 x118 v12 x112 x115 v53 v54 v55 v81 v82 v83 h109)) (
f_law48_DrawbackSums_j7 P T D N xn x2 xr v0 v1 v2 v7 v10 v12 v13 v14 v53 v54 v55 v81 v82 v83 h93)) (
x2 v0 v1 v2 v7 v10 v12 v13 v14 v53 v54 v55 h)
def f_law48_DrawbackSums_L5 (P : Program) (T : Tab) (D : DTab) (N : Nat) {β : Type} (x2 : AV → AV → AV → AV → AV → AV → AV → AV → AV → AV → AV → Hp → Option β) (xr : AV → Hp → Option β) : Nat → AV → AV → AV → AV → AV → AV → AV → AV → AV → AV → AV → AV → AV → AV → Hp → Option β
  | 0 => fun _ _ _ _ _ _ _ _ _ _ _ _ _ _ _ => none
  | n + 1 => fun v0 v1 v2 v7 v10 v12 v13 v14 v53 v54 v55 v81 v82 v83 h => f_law48_DrawbackSums_b5 P T D N (f_law48_DrawbackSums_L5 P T D N x2 xr n) x2 xr v0 v1 v2 v7 v10 v12 v13 v14 v53 v54 v55 v81 v82 v83 h
def f_law48_DrawbackSums_b2 (P : Program) (T : Tab) (D : DTab) (N : Nat) {β : Type} (xn : AV → AV → AV → AV → AV → AV → AV → AV → Hp → Option β) (x0 : AV → AV → AV → AV → Hp → Option β) (xr : AV → Hp → Option β) (v0 : AV) (v1 : AV) (v2 : AV) (v7 : AV) (v10 : AV) (v53 : AV) (v54 : AV) (v55 : AV) (h : Hp) : Option β :=
arithK .lss v55 v54 fun x45 =>
condK x45 (
iaK 5 v53 v55 fun x47 =>
ldK 5 true x47 h fun x48 =>
effK (boxE 5 (.agg [.s (.int .i64 0), .s (.int .i64 0), .s (.int .i64 0), .s (.int .i64 0), .s (.int .i64 0)]) (List.length h)) h fun x49 h50 =>
effK (stE 5 x49 x48 h50) h50 fun x51 h52 =>
effD (callE (D 13) [v0] h52 (List.length h52)) h52 fun x53 h54 e55 =>
effD (callE (D 16) [v1] h54 (List.length h54)) h54 fun x56 h57 e58 =>
faK 0 x49 fun x59 =>
ldK 1 false x59 h57 fun x60 =>
effD (callE (D 19) [x53, x56, v2, x60] h57 (List.length h57)) h57 fun x61 h62 e63 =>
exK x61 0 fun x64 =>
exK x61 1 fun x65 =>
exK x61 2 fun x66 =>
bif disjAll [(1, 6), (3, 6)] [([], []), e55, ([], []), e58, ([], []), ([], []), ((idsOf x59), []), e63, ([], []), ([], []), ([], []), ([], []), ([], []), ([], []), ([], [])] then (
eqK P true 26 x66 (.s (.int .i64 0)) h62 fun x67 =>
grpK false x67 h62 (fun k68 =>
arithK .lss x64 (.s (.int .i64 0)) fun x69 =>
k68 x69 h62) fun x70 h71 =>
grpK false x70 h71 (fun k72 =>
arithK .lss x65 (.s (.int .i64 0)) fun x73 =>
k72 x73 h71) fun x74 h75 =>
condK x74 (
xr (.s (.bool false)) h75) (
lenK v1 fun x76 =>
f_law48_DrawbackSums_L5 P T D N (fun w119_0 w119_1 w119_2 w119_7 w119_10 w119_12 w119_13 w119_14 w119_53 w119_54 w119_55 h => f_law48_DrawbackSums_j4 P T D N xn x0 xr w119_0 w119_1 w119_2 w119_7 w119_10 w119_12 w119_13 w119_14 w119_53 w119_54 w119_55 h) (fun w120_6 h => xr w120_6 h) N v0 v1 v2 v7 v10 x49 x64 x65 v53 v54 v55 v1 x76 (.s (.int .i64 0)) h75)) else none) (
x0 v0 v1 v2 v10 h)
def f_law48_DrawbackSums_L2 (P : Program) (T : Tab) (D : DTab) (N : Nat) {β : Type} (x0 : AV → AV → AV → AV → Hp → Option β) (xr : AV → Hp → Option β) : Nat → AV → AV → AV → AV → AV → AV → AV → AV → Hp → Option β
  | 0 => fun _ _ _ _ _ _ _ _ _ => none
  | n + 1 => fun v0 v1 v2 v7 v10 v53 v54 v55 h => f_law48_DrawbackSums_b2 P T D N (f_law48_DrawbackSums_L2 P T D N x0 xr n) x0 xr v0 v1 v2 v7 v10 v53 v54 v55 h
/-- spile/spilelaw48.DrawbackSums -/
def f_law48_DrawbackSums (P : Program) (T : Tab) (D : DTab) (N : Nat) {β : Type} (K : AV → Hp → Option β) (a0 : AV) (a1 : AV) (a2 : AV) (h : Hp) : Option β :=
callK (T 10) [] h fun x1 h2 =>
notK x1 fun x3 =>
grpK false x3 h2 (fun k4 =>
callK (T 11) [a0, a1] h2 fun x5 h6 =>
notK x5 fun x7 =>
k4 x7 h6) fun x8 h9 =>
condK x8 (
callK (T 10) [] h9 fun x10 h11 =>
K x10 h11) (
callK (T 13) [a0] h9 fun x12 h13 =>
callK (T 16) [a1] h13 fun x14 h15 =>
callK (T 15) [x12, x14, a2] h15 fun x16 h17 =>
exK x16 0 fun x18 =>
exK x16 1 fun x19 =>
exK x16 2 fun x20 =>
eqK P true 26 x20 (.s (.int .i64 0)) h17 fun x21 =>
condK x21 (
lenK x18 fun x22 =>
eqK P false 3 x22 (.s (.int .i64 0)) h17 fun x23 =>
K x23 h17) (
lenK x18 fun x24 =>
lenK a1 fun x25 =>
eqK P true 3 x24 x25 h17 fun x26 =>
grpK false x26 h17 (fun k27 =>
eqK P true 3 x19 (.s (.int .i64 (-1))) h17 fun x28 =>
k27 x28 h17) fun x29 h30 =>
condK x29 (
K (.s (.bool false)) h30) (
lenK a0 fun x31 =>
f_law48_DrawbackSums_L2 P T D N (fun w121_0 w121_1 w121_2 w121_10 h => f_law48_DrawbackSums_j1 P T D N K w121_0 w121_1 w121_2 w121_10 h) (fun w122_6 h => K w122_6 h) N a0 a1 a2 x18 (.s (.int .i64 0)) a0 x31 (.s (.int .i64 0)) h30)))
theorem f_law48_DrawbackSums_j1_eq (P : Program) (T : Tab) (D : DTab) (N : Nat) {β : Type} (K : AV → Hp → Option β) (t : Tm) (h : Hp) : o_law48_DrawbackSums_j1 P T D N K t h = f_law48_DrawbackSums_j1 P T D N K (t 0) (t 1) (t 2) (t 10) h := by kernel_rfl
theorem f_law48_DrawbackSums_j3_eq (P : Program) (T : Tab) (D : DTab) (N : Nat) {β : Type} (xn : AV → AV → AV → AV → AV → AV → AV → AV → Hp → Option β) (x0 : AV → AV → AV → AV → Hp → Option β) (xr : AV → Hp → Option β) (xd : Nat → St → Option β) (xq : St → Option β) (t : Tm) (h : Hp) : o_law48_DrawbackSums_j3 P T D N (fun (e : Ex) (s : St) => e.on (xn (s.1 0) (s.1 1) (s.1 2) (s.1 7) (s.1 10) (s.1 53) (s.1 54) (s.1 55) s.2) (fun i => (bif i == 0 then x0 (s.1 0) (s.1 1) (s.1 2) (s.1 10) s.2 else (xd i s))) (xr (s.1 6) s.2)) t h = f_law48_DrawbackSums_j3 P T D N xn x0 xr (t 0) (t 1) (t 2) (t 7) (t 10) (t 53) (t 54) (t 55) h := by kernel_rfl
theorem f_law48_DrawbackSums_j4_eq (P : Program) (T : Tab) (D : DTab) (N : Nat) {β : Type} (xn : AV → AV → AV → AV → AV → AV → AV → AV → Hp → Option β) (x0 : AV → AV → AV → AV → Hp → Option β) (xr : AV → Hp → Option β) (xd : Nat → St → Option β) (xq : St → Option β) (t : Tm) (h : Hp) : o_law48_DrawbackSums_j4 P T D N (fun (e : Ex) (s : St) => e.on (xn (s.1 0) (s.1 1) (s.1 2) (s.1 7) (s.1 10) (s.1 53) (s.1 54) (s.1 55) s.2) (fun i => (bif i == 0 then x0 (s.1 0) (s.1 1) (s.1 2) (s.1 10) s.2 else (xd i s))) (xr (s.1 6) s.2)) t h = f_law48_DrawbackSums_j4 P T D N xn x0 xr (t 0) (t 1) (t 2) (t 7) (t 10) (t 12) (t 13) (t 14) (t 53) (t 54) (t 55) h := by kernel_rfl
theorem f_law48_DrawbackSums_j6_eq (P : Program) (T : Tab) (D : DTab) (N : Nat) {β : Type} (xn : AV → AV → AV → AV → AV → AV → AV → AV → AV → AV → AV → AV → AV → AV → Hp → Option β) (x2 : AV → AV → AV → AV → AV → AV → AV → AV → AV → AV → AV → Hp → Option β) (xr : AV → Hp → Option β) (xd : Nat → St → Option β) (xq : St → Option β) (t : Tm) (h : Hp) : o_law48_DrawbackSums_j6 P T D N (fun (e : Ex) (s : St) => e.on (xn (s.1 0) (s.1 1) (s.1 2) (s.1 7) (s.1 10) (s.1 12) (s.1 13) (s.1 14) (s.1 53) (s.1 54) (s.1 55) (s.1 81) (s.1 82) (s.1 83) s.2) (fun i => (bif i == 2 then x2 (s.1 0) (s.1 1) (s.1 2) (s.1 7) (s.1 10) (s.1 12) (s.1 13) (s.1 14) (s.1 53) (s.1 54) (s.1 55) s.2 else (xd i s))) (xr (s.1 6) s.2)) t h = f_law48_DrawbackSums_j6 P T D N xn x2 xr (t 0) (t 1) (t 2) (t 7) (t 10) (t 12) (t 13) (t 14) (t 53) (t 54) (t 55) (t 81) (t 82) (t 83) h := by kernel_rfl
theorem f_law48_DrawbackSums_j7_eq (P : Program) (T : Tab) (D : DTab) (N : Nat) {β : Type} (xn : AV → AV → AV → AV → AV → AV → AV → AV → AV → AV → AV → AV → AV → AV → Hp → Option β) (x2 : AV → AV → AV → AV → AV → AV → AV → AV → AV → AV → AV → Hp → Option β) (xr : AV → Hp → Option β) (xd : Nat → St → Option β) (xq : St → Option β) (t : Tm) (h : Hp) : o_law48_DrawbackSums_j7 P T D N (fun (e : Ex) (s : St) => e.on (xn (s.1 0) (s.1 1) (s.1 2) (s.1 7) (s.1 10) (s.1 12) (s.1 13) (s.1 14) (s.1 53) (s.1 54) (s.1 55) (s.1 81) (s.1 82) (s.1 83) s.2) (fun i => (bif i == 2 then x2 (s.1 0) (s.1 1) (s.1 2) (s.1 7) (s.1 10) (s.1 12) (s.1 13) (s.1 14) (s.1 53) (s.1 54) (s.1 55) s.2 else (xd i s))) (xr (s.1 6) s.2)) t h = f_law48_DrawbackSums_j7 P T D N xn x2 xr (t 0) (t 1) (t 2) (t 7) (t 10) (t 12) (t 13) (t 14) (t 53) (t 54) (t 55) (t 81) (t 82) (t 83) h := by kernel_rfl
theorem f_law48_DrawbackSums_b5_eq (P : Program) (T : Tab) (D : DTab) (N : Nat) {β : Type} (xn : AV → AV → AV → AV → AV → AV → AV → AV → AV → AV → AV → AV → AV → AV → Hp → Option β) (x2 : AV → AV → AV → AV → AV → AV → AV → AV → AV → AV → AV → Hp → Option β) (xr : AV → Hp → Option β) (xd : Nat → St → Option β) (xq : St → Option β) (t : Tm) (h : Hp) : o_law48_DrawbackSums_L5 P T D N t h (fun (e : Ex) (s : St) => e.on (xn (s.1 0) (s.1 1) (s.1 2) (s.1 7) (s.1 10) (s.1 12) (s.1 13) (s.1 14) (s.1 53) (s.1 54) (s.1 55) (s.1 81) (s.1 82) (s.1 83) s.2) (fun i => (bif i == 2 then x2 (s.1 0) (s.1 1) (s.1 2) (s.1 7) (s.1 10) (s.1 12) (s.1 13) (s.1 14) (s.1 53) (s.1 54) (s.1 55) s.2 else (xd i s))) (xr (s.1 6) s.2)) = f_law48_DrawbackSums_b5 P T D N xn x2 xr (t 0) (t 1) (t 2) (t 7) (t 10) (t 12) (t 13) (t 14) (t 53) (t 54) (t 55) (t 81) (t 82) (t 83) h := by kernel_rfl
theorem f_law48_DrawbackSums_L5_eq (P : Program) (T : Tab) (D : DTab) (N : Nat) {β : Type} (A : Ex → St → Option β) (x2 : AV → AV → AV → AV → AV → AV → AV → AV → AV → AV → AV → Hp → Option β) (xr : AV → Hp → Option β) (q2 : ∀ s, A (.exit 2) s = x2 (s.1 0) (s.1 1) (s.1 2) (s.1 7) (s.1 10) (s.1 12) (s.1 13) (s.1 14) (s.1 53) (s.1 54) (s.1 55) s.2) (qr : ∀ s, A .ret s = xr (s.1 6) s.2) : ∀ (n : Nat) (s : St), iterK (fun s k => o_law48_DrawbackSums_L5 P T D N s.1 s.2 k) n s A = f_law48_DrawbackSums_L5 P T D N x2 xr n (s.1 0) (s.1 1) (s.1 2) (s.1 7) (s.1 10) (s.1 12) (s.1 13) (s.1 14) (s.1 53) (s.1 54) (s.1 55) (s.1 81) (s.1 82) (s.1 83) s.2 := by
  intro n
  induction n with
  | zero => intro s; rfl
  | succ n ih =>
    intro s
    have hk : (fun (e : Ex) (s' : St) => Ex.on e (iterK (fun s k => o_law48_DrawbackSums_L5 P T D N s.1 s.2 k) n s' A) (fun i => A (.exit i) s') (A .ret s')) = (fun (e : Ex) (s : St) => e.on ((f_law48_DrawbackSums_L5 P T D N x2 xr n) (s.1 0) (s.1 1) (s.1 2) (s.1 7) (s.1 10) (s.1 12) (s.1 13) (s.1 14) (s.1 53) (s.1 54) (s.1 55) (s.1 81) (s.1 82) (s.1 83) s.2) (fun i => (bif i == 2 then x2 (s.1 0) (s.1 1) (s.1 2) (s.1 7) (s.1 10) (s.1 12) (s.1 13) (s.1 14) (s.1 53) (s.1 54) (s.1 55) s.2 else (A (.exit i) s))) (xr (s.1 6) s.2)) := by
      funext e s'
      cases e with
      | normal => exact ih s'
      | ret => exact qr s'
      | exit i =>
        by_cases r2 : i = 2
        · subst r2; exact q2 s'
        simp only [Ex.on, beq_false_of_ne r2, cond_false]
    show o_law48_DrawbackSums_L5 P T D N s.1 s.2 (fun (e : Ex) (s' : St) => Ex.on e (iterK (fun s k => o_law48_DrawbackSums_L5 P T D N s.1 s.2 k) n s' A) (fun i => A (.exit i) s') (A .ret s')) = _
    rw [hk]
    exact f_law48_DrawbackSums_b5_eq P T D N (f_law48_DrawbackSums_L5 P T D N x2 xr n) x2 xr (fun i s => A (.exit i) s) (fun s => A .ret s) s.1 s.2
theorem f_law48_DrawbackSums_b2_eq (P : Program) (T : Tab) (D : DTab) (N : Nat) {β : Type} (xn : AV → AV → AV → AV → AV → AV → AV → AV → Hp → Option β) (x0 : AV → AV → AV → AV → Hp → Option β) (xr : AV → Hp → Option β) (xd : Nat → St → Option β) (xq : St → Option β) (t : Tm) (h : Hp) : o_law48_DrawbackSums_L2 P T D N t h (fun (e : Ex) (s : St) => e.on (xn (s.1 0) (s.1 1) (s.1 2) (s.1 7) (s.1 10) (s.1 53) (s.1 54) (s.1 55) s.2) (fun i => (bif i == 0 then x0 (s.1 0) (s.1 1) (s.1 2) (s.1 10) s.2 else (xd i s))) (xr (s.1 6) s.2)) = f_law48_DrawbackSums_b2 P T D N xn x0 xr (t 0) (t 1) (t 2) (t 7) (t 10) (t 53) (t 54) (t 55) h := by
  have eL5 : (fun s : St => iterK (fun s k => o_law48_DrawbackSums_L5 P T D N s.1 s.2 k) N s (o_law48_DrawbackSums_aL5 P T D N (fun (e : Ex) (s : St) => e.on (xn (s.1 0) (s.1 1) (s.1 2) (s.1 7) (s.1 10) (s.1 53) (s.1 54) (s.1 55) s.2) (fun i => (bif i == 0 then x0 (s.1 0) (s.1 1) (s.1 2) (s.1 10) s.2 else (xd i s))) (xr (s.1 6) s.2)))) = (fun s : St => f_law48_DrawbackSums_L5 P T D N (fun w119_0 w119_1 w119_2 w119_7 w119_10 w119_12 w119_13 w119_14 w119_53 w119_54 w119_55 h => f_law48_DrawbackSums_j4 P T D N xn x0 xr w119_0 w119_1 w119_2 w119_7 w119_10 w119_12 w119_13 w119_14 w119_53 w119_54 w119_55 h) (fun w120_6 h => xr w120_6 h) N (s.1 0) (s.1 1) (s.1 2) (s.1 7) (s.1 10) (s.1 12) (s.1 13) (s.1 14) (s.1 53) (s.1 54) (s.1 55) (s.1 81) (s.1 82) (s.1 83) s.2) := funext fun s => f_law48_DrawbackSums_L5_eq P T D N (o_law48_DrawbackSums_aL5 P T D N (fun (e : Ex) (s : St) => e.on (xn (s.1 0) (s.1 1) (s.1 2) (s.1 7) (s.1 10) (s.1 53) (s.1 54) (s.1 55) s.2) (fun i => (bif i == 0 then x0 (s.1 0) (s.1 1) (s.1 2) (s.1 10) s.2 else (xd i s))) (xr (s.1 6) s.2))) (fun w119_0 w119_1 w119_2 w119_7 w119_10 w119_12 w119_13 w119_14 w119_53 w119_54 w119_55 h => f_law48_DrawbackSums_j4 P T D N xn x0 xr w119_0 w119_1 w119_2 w119_7 w119_10 w119_12 w119_13 w119_14 w119_53 w119_54 w119_55 h) (fun w120_6 h => xr w120_6 h) (fun s => rfl) (fun s => rfl) N s
  show o_law48_DrawbackSums_L2_G P T D N (fun s => iterK (fun s k => o_law48_DrawbackSums_L5 P T D N s.1 s.2 k) N s (o_law48_DrawbackSums_aL5 P T D N (fun (e : Ex) (s : St) => e.on (xn (s.1 0) (s.1 1) (s.1 2) (s.1 7) (s.1 10) (s.1 53) (s.1 54) (s.1 55) s.2) (fun i => (bif i == 0 then x0 (s.1 0) (s.1 1) (s.1 2) (s.1 10) s.2 else (xd i s))) (xr (s.1 6) s.2)))) t h (fun (e : Ex) (s : St) => e.on (xn (s.1 0) (s.1 1) (s.1 2) (s.1 7) (s.1 10) (s.1 53) (s.1 54) (s.1 55) s.2) (fun i => (bif i == 0 then x0 (s.1 0) (s.1 1) (s.1 2) (s.1 10) s.2 else (xd i s))) (xr (s.1 6) s.2)) = _
  rw [eL5]
  kernel_rfl
theorem f_law48_DrawbackSums_L2_eq (P : Program) (T : Tab) (D : DTab) (N : Nat) {β : Type} (A : Ex → St → Option β) (x0 : AV → AV → AV → AV → Hp → Option β) (xr : AV → Hp → Option β) (q0 : ∀ s, A (.exit 0) s = x0 (s.1 0) (s.1 1) (s.1 2) (s.1 10) s.2) (qr : ∀ s, A .ret s = xr (s.1 6) s.2) : ∀ (n : Nat) (s : St), iterK (fun s k => o_law48_DrawbackSums_L2 P T D N s.1 s.2 k) n s A = f_law48_DrawbackSums_L2 P T D N x0 xr n (s.1 0) (s.1 1) (s.1 2) (s.1 7) (s.1 10) (s.1 53) (s.1 54) (s.1 55) s.2 := by
  intro n
  induction n with
  | zero => intro s; rfl
  | succ n ih =>
    intro s
    have hk : (fun (e : Ex) (s' : St) => Ex.on e (iterK (fun s k => o_law48_DrawbackSums_L2 P T D N s.1 s.2 k) n s' A) (fun i => A (.exit i) s') (A .ret s')) = (fun (e : Ex) (s : St) => e.on ((f_law48_DrawbackSums_L2 P T D N x0 xr n) (s.1 0) (s.1 1) (s.1 2) (s.1 7) (s.1 10) (s.1 53) (s.1 54) (s.1 55) s.2) (fun i => (bif i == 0 then x0 (s.1 0) (s.1 1) (s.1 2) (s.1 10) s.2 else (A (.exit i) s))) (xr (s.1 6) s.2)) := by
      funext e s'
      cases e with
      | normal => exact ih s'
      | ret => exact qr s'
      | exit i =>
        by_cases r0 : i = 0
        · subst r0; exact q0 s'
        simp only [Ex.on, beq_false_of_ne r0, cond_false]
    show o_law48_DrawbackSums_L2 P T D N s.1 s.2 (fun (e : Ex) (s' : St) => Ex.on e (iterK (fun s k => o_law48_DrawbackSums_L2 P T D N s.1 s.2 k) n s' A) (fun i => A (.exit i) s') (A .ret s')) = _
    rw [hk]
    exact f_law48_DrawbackSums_b2_eq P T D N (f_law48_DrawbackSums_L2 P T D N x0 xr n) x0 xr (fun i s => A (.exit i) s) (fun s => A .ret s) s.1 s.2
theorem f_law48_DrawbackSums_old_eq (P : Program) (T : Tab) (D : DTab) (N : Nat) {β : Type} (K : AV → Hp → Option β) (a0 : AV) (a1 : AV) (a2 : AV) (h : Hp) : o_law48_DrawbackSums P T D N K a0 a1 a2 h = f_law48_DrawbackSums P T D N K a0 a1 a2 h := by
  have eL2 : (fun s : St => iterK (fun s k => o_law48_DrawbackSums_L2 P T D N s.1 s.2 k) N s (o_law48_DrawbackSums_aL2 P T D N K)) = (fun s : St => f_law48_DrawbackSums_L2 P T D N (fun w121_0 w121_1 w121_2 w121_10 h => f_law48_DrawbackSums_j1 P T D N K w121_0 w121_1 w121_2 w121_10 h) (fun w122_6 h => K w122_6 h) N (s.1 0) (s.1 1) (s.1 2) (s.1 7) (s.1 10) (s.1 53) (s.1 54) (s.1 55) s.2) := funext fun s => f_law48_DrawbackSums_L2_eq P T D N (o_law48_DrawbackSums_aL2 P T D N K) (fun w121_0 w121_1 w121_2 w121_10 h => f_law48_DrawbackSums_j1 P T D N K w121_0 w121_1 w121_2 w121_10 h) (fun w122_6 h => K w122_6 h) (fun s => rfl) (fun s => rfl) N s
  show o_law48_DrawbackSums_G P T D N (fun s => iterK (fun s k => o_law48_DrawbackSums_L2 P T D N s.1 s.2 k) N s (o_law48_DrawbackSums_aL2 P T D N K)) K a0 a1 a2 h = _
  rw [eL2]
  kernel_rfl
theorem o_law48_DrawbackSums_run (T : Tab) (D : DTab) (N : Nat) {β : Type} (K : AV → Hp → Option β) (a0 : AV) (a1 : AV) (a2 : AV) (h : Hp) : runK Try.prog T D N [0, 1, 2, 6, 7, 8, 9, 10, 12, 13, 14, 15, 16, 17, 18, 19, 27, 40, 52, 53, 54, 55, 56, 80, 81, 82, 83, 84, 92, 106, 133] Try.f6 K [a0, a1, a2] h = o_law48_DrawbackSums Try.prog T D N K a0 a1 a2 h := by kernel_rfl
theorem f_law48_DrawbackSums_run (T : Tab) (D : DTab) (N : Nat) {β : Type} (K : AV → Hp → Option β) (a0 : AV) (a1 : AV) (a2 : AV) (h : Hp) : runK Try.prog T D N [0, 1, 2, 6, 7, 8, 9, 10, 12, 13, 14, 15, 16, 17, 18, 19, 27, 40, 52, 53, 54, 55, 56, 80, 81, 82, 83, 84, 92, 106, 133] Try.f6 K [a0, a1, a2] h = f_law48_DrawbackSums Try.prog T D N K a0 a1 a2 h := (o_law48_DrawbackSums_run T D N K a0 a1 a2 h).trans (f_law48_DrawbackSums_old_eq Try.prog T D N K a0 a1 a2 h)
def o_law48_DrawbackOthers_j1 (P : Program) (T : Tab) (D : DTab) (N : Nat) {β : Type} (K : AV → Hp → Option β) (t : Tm) (h : Hp) : Option β :=
callK (T 13) [(t 0)] h fun x31 h32 =>
callK (T 15) [x31, (t 12), (t 2)] h32 fun x33 h34 =>
exK x33 0 fun x35 =>
exK x33 1 fun x36 =>
exK x33 2 fun x37 =>
eqK P false 26 x37 (.s (.int .i64 0)) h34 fun x38 =>
grpK true x38 h34 (fun k39 =>
callK (T 18) [x35, (t 13)] h34 fun x40 h41 =>
k39 x40 h41) fun x42 h43 =>
K x42 h43
def o_law48_DrawbackOthers_j3 (P : Program) (T : Tab) (D : DTab) (N : Nat) {β : Type} (k : Ex → St → Option β) (t : Tm) (h : Hp) : Option β :=
arithK .add (t 52) (.s (.int .i64 1)) fun x45 =>
k .normal ((upd t 52 x45), h)
def o_law48_DrawbackOthers_j4 (P : Program) (T : Tab) (D : DTab) (N : Nat) {β : Type} (k : Ex → St → Option β) (t : Tm) (h : Hp) : Option β :=
(o_law48_DrawbackOthers_j3 P T D N k t h)
def o_law48_DrawbackOthers_L2 (P : Program) (T : Tab) (D : DTab) (N : Nat) {β : Type} (t : Tm) (h : Hp) (k : Ex → St → Option β) : Option β :=
arithK .lss (t 52) (t 51) fun x44 =>
condK x44 (
iaK 3 (t 50) (t 52) fun x46 =>
ldK 3 true x46 h fun x47 =>
effK (boxE 3 (.agg [.s (.int .i64 0), .s (.int .i64 0), .s (.int .i64 0)]) (List.length h)) h fun x48 h49 =>
effK (stE 3 x48 x47 h49) h49 fun x50 h51 =>
faK 0 x48 fun x52 =>
ldK 1 false x52 h51 fun x53 =>
eqK P false 3 x53 (t 3) h51 fun x54 =>
condK x54 (
ldK 3 true x48 h51 fun x55 =>
effK (bsE 3 [.s (.int .i64 0), .s (.int .i64 0), .s (.int .i64 0)] 1 [(0, x55)] (List.length h51)) h51 fun x56 h57 =>
effK (appE 3 24 (t 12) x56 h57 (List.length h57)) h57 fun x58 h59 =>
iaK 1 (t 9) (t 52) fun x60 =>
ldK 1 false x60 h59 fun x61 =>
effK (bsE 1 [.s (.int .i64 0)] 1 [(0, x61)] (List.length h59)) h59 fun x62 h63 =>
effK (appE 1 8 (t 13) x62 h63 (List.length h63)) h63 fun x64 h65 =>
(o_law48_DrawbackOthers_j4 P T D N k (upd (upd (upd (upd (upd (upd t 53 x44) 15 x48) 14 (t 52)) 60 x54) 12 x58) 13 x64) h65)) (
(o_law48_DrawbackOthers_j4 P T D N k (upd (upd (upd (upd t 53 x44) 15 x48) 14 (t 52)) 60 x54) h51))) (
k (.exit 0) ((upd t 53 x44), h))
def o_law48_DrawbackOthers_aL2 (P : Program) (T : Tab) (D : DTab) (N : Nat) {β : Type} (K : AV → Hp → Option β) (e : Ex) (s : St) : Option β :=
  e.on ((o_law48_DrawbackOthers_j1 P T D N K s.1 s.2))
  (fun i => bif i == 0 then ((o_law48_DrawbackOthers_j1 P T D N K s.1 s.2)) else (none))
  (K (s.1 8) s.2)
def o_law48_DrawbackOthers_G (P : Program) (T : Tab) (D : DTab) (N : Nat) {β : Type} (cL2 : St → Option β) (K : AV → Hp → Option β) (a0 : AV) (a1 : AV) (a2 : AV) (a3 : AV) (h : Hp) :  Option β :=
callK (T 10) [] h fun x1 h2 =>
notK x1 fun x3 =>
grpK false x3 h2 (fun k4 =>
callK (T 11) [a0, a1] h2 fun x5 h6 =>
notK x5 fun x7 =>
k4 x7 h6) fun x8 h9 =>
condK x8 (
callK (T 10) [] h9 fun x10 h11 =>
K x10 h11) (
callK (T 13) [a0] h9 fun x12 h13 =>
callK (T 16) [a1] h13 fun x14 h15 =>
callK (T 15) [x12, x14, a2] h15 fun x16 h17 =>
exK x16 0 fun x18 =>
exK x16 1 fun x19 =>
exK x16 2 fun x20 =>
eqK P true 26 x20 (.s (.int .i64 0)) h17 fun x21 =>
grpK false x21 h17 (fun k22 =>
lenK x18 fun x23 =>
lenK a1 fun x24 =>
eqK P true 3 x23 x24 h17 fun x25 =>
k22 x25 h17) fun x26 h27 =>
condK x26 (
lenK x18 fun x28 =>
eqK P false 3 x28 (.s (.int .i64 0)) h27 fun x29 =>
K x29 h27) (
lenK a1 fun x30 =>
cL2 ((upd (upd (upd (upd (upd (upd (upd (upd (upd (upd (tm0 [a0, a1, a2, a3]) 8 (.s (.bool false))) 26 x8) 9 x18) 11 x20) 46 x26) 12 (.s (.slice none 0 0))) 13 (.s (.slice none 0 0))) 50 a1) 51 x30) 52 (.s (.int .i64 0))), h27)))
def o_law48_DrawbackOthers (P : Program) (T : Tab) (D : DTab) (N : Nat) {β : Type} (K : AV → Hp → Option β) (a0 : AV) (a1 : AV) (a2 : AV) (a3 : AV) (h : Hp) : Option β := o_law48_DrawbackOthers_G P T D N (fun s => iterK (fun s k => o_law48_DrawbackOthers_L2 P T D N s.1 s.2 k) N s (o_law48_DrawbackOthers_aL2 P T D N K)) K a0 a1 a2 a3 h
def f_law48_DrawbackOthers_j1 (P : Program) (T : Tab) (D : DTab) (N : Nat) {β : Type} (K : AV → Hp → Option β) (v0 : AV) (v2 : AV) (v12 : AV) (v13 : AV) (h : Hp) : Option β :=
callK (T 13) [v0] h fun x31 h32 =>
callK (T 15) [x31, v12, v2] h32 fun x33 h34 =>
exK x33 0 fun x35 =>
exK x33 1 fun x36 =>
exK x33 2 fun x37 =>
eqK P false 26 x37 (.s (.int .i64 0)) h34 fun x38 =>
grpK true x38 h34 (fun k39 =>
callK (T 18) [x35, v13] h34 fun x40 h41 =>
k39 x40 h41) fun x42 h43 =>
K x42 h43
def f_law48_DrawbackOthers_j3 (P : Program) (T : Tab) (D : DTab) (N : Nat) {β : Type} (xn : AV → AV → AV → AV → AV → AV → AV → AV → AV → Hp → Option β) (x0 : AV → AV → AV → AV → Hp → Option β) (v0 : AV) (v2 : AV) (v3 : AV) (v9 : AV) (v12 : AV) (v13 : AV) (v50 : AV) (v51 : AV) (v52 : AV) (h : Hp) : Option β :=
arithK .add v52 (.s (.int .i64 1)) fun x45 =>
xn v0 v2 v3 v9 v12 v13 v50 v51 x45 h
def f_law48_DrawbackOthers_j4 (P : Program) (T : Tab) (D : DTab) (N : Nat) {β : Type} (xn : AV → AV → AV → AV → AV → AV → AV → AV → AV → Hp → Option β) (x0 : AV → AV → AV → AV → Hp → Option β) (v0 : AV) (v2 : AV) (v3 : AV) (v9 : AV) (v12 : AV) (v13 : AV) (v50 : AV) (v51 : AV) (v52 : AV) (h : Hp) : Option β :=
f_law48_DrawbackOthers_j3 P T D N xn x0 v0 v2 v3 v9 v12 v13 v50 v51 v52 h
def f_law48_DrawbackOthers_b2 (P : Program) (T : Tab) (D : DTab) (N : Nat) {β : Type} (xn : AV → AV → AV → AV → AV → AV → AV → AV → AV → Hp → Option β) (x0 : AV → AV → AV → AV → Hp → Option β) (v0 : AV) (v2 : AV) (v3 : AV) (v9 : AV) (v12 : AV) (v13 : AV) (v50 : AV) (v51 : AV) (v52 : AV) (h : Hp) : Option β :=
arithK .lss v52 v51 fun x44 =>
condK x44 (
iaK 3 v50 v52 fun x46 =>
ldK 3 true x46 h fun x47 =>
effK (boxE 3 (.agg [.s (.int .i64 0), .s (.int .i64 0), .s (.int .i64 0)]) (List.length h)) h fun x48 h49 =>
effK (stE 3 x48 x47 h49) h49 fun x50 h51 =>
faK 0 x48 fun x52 =>
ldK 1 false x52 h51 fun x53 =>
eqK P false 3 x53 v3 h51 fun x54 =>
condK x54 (
ldK 3 true x48 h51 fun x55 =>
effK (bsE 3 [.s (.int .i64 0), .s (.int .i64 0), .s (.int .i64 0)] 1 [(0, x55)] (List.length h51)) h51 fun x56 h57 =>
effK (appE 3 24 v12 x56 h57 (List.length h57)) h57 fun x58 h59 =>
iaK 1 v9 v52 fun x60 =>
ldK 1 false x60 h59 fun x61 =>
effK (bsE 1 [.s (.int .i64 0)] 1 [(0, x61)] (List.length h59)) h59 fun x62 h63 =>
effK (appE 1 8 v13 x62 h63 (List.length h63)) h63 fun x64 h65 =>
f_law48_DrawbackOthers_j4 P T D N xn x0 v0 v2 v3 v9 x58 x64 v50 v51 v52 h65) (
f_law48_DrawbackOthers_j4 P T D N xn x0 v0 v2 v3 v9 v12 v13 v50 v51 v52 h51)) (
x0 v0 v2 v12 v13 h)
def f_law48_DrawbackOthers_L2 (P : Program) (T : Tab) (D : DTab) (N : Nat) {β : Type} (x0 : AV → AV → AV → AV → Hp → Option β) : Nat → AV → AV → AV → AV → AV → AV → AV → AV → AV → Hp → Option β
  | 0 => fun _ _ _ _ _ _ _ _ _ _ => none
  | n + 1 => fun v0 v2 v3 v9 v12 v13 v50 v51 v52 h => f_law48_DrawbackOthers_b2 P T D N (f_law48_DrawbackOthers_L2 P T D N x0 n) x0 v0 v2 v3 v9 v12 v13 v50 v51 v52 h
/-- spile/spilelaw48.DrawbackOthers -/
def f_law48_DrawbackOthers (P : Program) (T : Tab) (D : DTab) (N : Nat) {β : Type} (K : AV → Hp → Option β) (a0 : AV) (a1 : AV) (a2 : AV) (a3 : AV) (h : Hp) : Option β :=
callK (T 10) [] h fun x1 h2 =>
notK x1 fun x3 =>
grpK false x3 h2 (fun k4 =>
callK (T 11) [a0, a1] h2 fun x5 h6 =>
notK x5 fun x7 =>
k4 x7 h6) fun x8 h9 =>
condK x8 (
callK (T 10) [] h9 fun x10 h11 =>
K x10 h11) (
callK (T 13) [a0] h9 fun x12 h13 =>
callK (T 16) [a1] h13 fun x14 h15 =>
callK (T 15) [x12, x14, a2] h15 fun x16 h17 =>
exK x16 0 fun x18 =>
exK x16 1 fun x19 =>
exK x16 2 fun x20 =>
eqK P true 26 x20 (.s (.int .i64 0)) h17 fun x21 =>
grpK false x21 h17 (fun k22 =>
lenK x18 fun x23 =>
lenK a1 fun x24 =>
eqK P true 3 x23 x24 h17 fun x25 =>
k22 x25 h17) fun x26 h27 =>
condK x26 (
lenK x18 fun x28 =>
eqK P false 3 x28 (.s (.int .i64 0)) h27 fun x29 =>
K x29 h27) (
lenK a1 fun x30 =>
f_law48_DrawbackOthers_L2 P T D N (fun w66_0 w66_2 w66_12 w66_13 h => f_law48_DrawbackOthers_j1 P T D N K w66_0 w66_2 w66_12 w66_13 h) N a0 a2 a3 x18 (.s (.slice none 0 0)) (.s (.slice none 0 0)) a1 x30 (.s (.int .i64 0)) h27))
theorem f_law48_DrawbackOthers_j1_eq (P : Program) (T : Tab) (D : DTab) (N : Nat) {β : Type} (K : AV → Hp → Option β) (t : Tm) (h : Hp) : o_law48_DrawbackOthers_j1 P T D N K t h = f_law48_DrawbackOthers_j1 P T D N K (t 0) (t 2) (t 12) (t 13) h := by kernel_rfl
theorem f_law48_DrawbackOthers_j3_eq (P : Program) (T : Tab) (D : DTab) (N : Nat) {β : Type} (xn : AV → AV → AV → AV → AV → AV → AV → AV → AV → Hp → Option β) (x0 : AV → AV → AV → AV → Hp → Option β) (xd : Nat → St → Option β) (xq : St → Option β) (t : Tm) (h : Hp) : o_law48_DrawbackOthers_j3 P T D N (fun (e : Ex) (s : St) => e.on (xn (s.1 0) (s.1 2) (s.1 3) (s.1 9) (s.1 12) (s.1 13) (s.1 50) (s.1 51) (s.1 52) s.2) (fun i => (bif i == 0 then x0 (s.1 0) (s.1 2) (s.1 12) (s.1 13) s.2 else (xd i s))) (xq s)) t h = f_law48_DrawbackOthers_j3 P T D N xn x0 (t 0) (t 2) (t 3) (t 9) (t 12) (t 13) (t 50) (t 51) (t 52) h := by kernel_rfl
theorem f_law48_DrawbackOthers_j4_eq (P : Program) (T : Tab) (D : DTab) (N : Nat) {β : Type} (xn : AV → AV → AV → AV → AV → AV → AV → AV → AV → Hp → Option β) (x0 : AV → AV → AV → AV → Hp → Option β) (xd : Nat → St → Option β) (xq : St → Option β) (t : Tm) (h : Hp) : o_law48_DrawbackOthers_j4 P T D N (fun (e : Ex) (s : St) => e.on (xn (s.1 0) (s.1 2) (s.1 3) (s.1 9) (s.1 12) (s.1 13) (s.1 50) (s.1 51) (s.1 52) s.2) (fun i => (bif i == 0 then x0 (s.1 0) (s.1 2) (s.1 12) (s.1 13) s.2 else (xd i s))) (xq s)) t h = f_law48_DrawbackOthers_j4 P T D N xn x0 (t 0) (t 2) (t 3) (t 9) (t 12) (t 13) (t 50) (t 51) (t 52) h := by kernel_rfl
theorem f_law48_DrawbackOthers_b2_eq (P : Program) (T : Tab) (D : DTab) (N : Nat) {β : Type} (xn : AV → AV → AV → AV → AV → AV → AV → AV → AV → Hp → Option β) (x0 : AV → AV → AV → AV → Hp → Option β) (xd : Nat → St → Option β) (xq : St → Option β) (t : Tm) (h : Hp) : o_law48_DrawbackOthers_L2 P T D N t h (fun (e : Ex) (s : St) => e.on (xn (s.1 0) (s.1 2) (s.1 3) (s.1 9) (s.1 12) (s.1 13) (s.1 50) (s.1 51) (s.1 52) s.2) (fun i => (bif i == 0 then x0 (s.1 0) (s.1 2) (s.1 12) (s.1 13) s.2 else (xd i s))) (xq s)) = f_law48_DrawbackOthers_b2 P T D N xn x0 (t 0) (t 2) (t 3) (t 9) (t 12) (t 13) (t 50) (t 51) (t 52) h := by kernel_rfl
theorem f_law48_DrawbackOthers_L2_eq (P : Program) (T : Tab) (D : DTab) (N : Nat) {β : Type} (A : Ex → St → Option β) (x0 : AV → AV → AV → AV → Hp → Option β) (q0 : ∀ s, A (.exit 0) s = x0 (s.1 0) (s.1 2) (s.1 12) (s.1 13) s.2) : ∀ (n : Nat) (s : St), iterK (fun s k => o_law48_DrawbackOthers_L2 P T D N s.1 s.2 k) n s A = f_law48_DrawbackOthers_L2 P T D N x0 n (s.1 0) (s.1 2) (s.1 3) (s.1 9) (s.1 12) (s.1 13) (s.1 50) (s.1 51) (s.1 52) s.2 := by
  intro n
  induction n with
  | zero => intro s; rfl
  | succ n ih =>
    intro s
    have hk : (fun (e : Ex) (s' : St) => Ex.on e (iterK (fun s k => o_law48_DrawbackOthers_L2 P T D N s.1 s.2 k) n s' A) (fun i => A (.exit i) s') (A .ret s')) = (fun (e : Ex) (s : St) => e.on ((f_law48_DrawbackOthers_L2 P T D N x0 n) (s.1 0) (s.1 2) (s.1 3) (s.1 9) (s.1 12) (s.1 13) (s.1 50) (s.1 51) (s.1 52) s.2) (fun i => (bif i == 0 then x0 (s.1 0) (s.1 2) (s.1 12) (s.1 13) s.2 else (A (.exit i) s))) (A .ret s)) := by
      funext e s'
      cases e with
      | normal => exact ih s'
      | ret => exact rfl
      | exit i =>
        by_cases r0 : i = 0
        · subst r0; exact q0 s'
        simp only [Ex.on, beq_false_of_ne r0, cond_false]
    show o_law48_DrawbackOthers_L2 P T D N s.1 s.2 (fun (e : Ex) (s' : St) => Ex.on e (iterK (fun s k => o_law48_DrawbackOthers_L2 P T D N s.1 s.2 k) n s' A) (fun i => A (.exit i) s') (A .ret s')) = _
    rw [hk]
    exact f_law48_DrawbackOthers_b2_eq P T D N (f_law48_DrawbackOthers_L2 P T D N x0 n) x0 (fun i s => A (.exit i) s) (fun s => A .ret s) s.1 s.2
theorem f_law48_DrawbackOthers_old_eq (P : Program) (T : Tab) (D : DTab) (N : Nat) {β : Type} (K : AV → Hp → Option β) (a0 : AV) (a1 : AV) (a2 : AV) (a3 : AV) (h : Hp) : o_law48_DrawbackOthers P T D N K a0 a1 a2 a3 h = f_law48_DrawbackOthers P T D N K a0 a1 a2 a3 h := by
  have eL2 : (fun s : St => iterK (fun s k => o_law48_DrawbackOthers_L2 P T D N s.1 s.2 k) N s (o_law48_DrawbackOthers_aL2 P T D N K)) = (fun s : St => f_law48_DrawbackOthers_L2 P T D N (fun w66_0 w66_2 w66_12 w66_13 h => f_law48_DrawbackOthers_j1 P T D N K w66_0 w66_2 w66_12 w66_13 h) N (s.1 0) (s.1 2) (s.1 3) (s.1 9) (s.1 12) (s.1 13) (s.1 50) (s.1 51) (s.1 52) s.2) := funext fun s => f_law48_DrawbackOthers_L2_eq P T D N (o_law48_DrawbackOthers_aL2 P T D N K) (fun w66_0 w66_2 w66_12 w66_13 h => f_law48_DrawbackOthers_j1 P T D N K w66_0 w66_2 w66_12 w66_13 h) (fun s => rfl) N s
  show o_law48_DrawbackOthers_G P T D N (fun s => iterK (fun s k => o_law48_DrawbackOthers_L2 P T D N s.1 s.2 k) N s (o_law48_DrawbackOthers_aL2 P T D N K)) K a0 a1 a2 a3 h = _
  rw [eL2]
  kernel_rfl
theorem o_law48_DrawbackOthers_run (T : Tab) (D : DTab) (N : Nat) {β : Type} (K : AV → Hp → Option β) (a0 : AV) (a1 : AV) (a2 : AV) (a3 : AV) (h : Hp) : runK Try.prog T D N [0, 1, 2, 3, 8, 9, 11, 12, 13, 14, 15, 16, 18, 26, 46, 50, 51, 52, 53, 60] Try.f7 K [a0, a1, a2, a3] h = o_law48_DrawbackOthers Try.prog T D N K a0 a1 a2 a3 h := by kernel_rfl
theorem f_law48_DrawbackOthers_run (T : Tab) (D : DTab) (N : Nat) {β : Type} (K : AV → Hp → Option β) (a0 : AV) (a1 : AV) (a2 : AV) (a3 : AV) (h : Hp) : runK Try.prog T D N [0, 1, 2, 3, 8, 9, 11, 12, 13, 14, 15, 16, 18, 26, 46, 50, 51, 52, 53, 60] Try.f7 K [a0, a1, a2, a3] h = f_law48_DrawbackOthers Try.prog T D N K a0 a1 a2 a3 h := (o_law48_DrawbackOthers_run T D N K a0 a1 a2 a3 h).trans (f_law48_DrawbackOthers_old_eq Try.prog T D N K a0 a1 a2 a3 h)
/-- spile/spilelaw48.DrawbackNear -/
def f_law48_DrawbackNear (P : Program) (T : Tab) (D : DTab) (N : Nat) {β : Type} (K : AV → Hp → Option β) (a0 : AV) (a1 : AV) (a2 : AV) (h : Hp) : Option β :=
effK (boxE 5 a0 (List.length h)) h fun x1 h2 =>
callK (T 10) [] h2 fun x3 h4 =>
notK x3 fun x5 =>
condK x5 (
K (.s (.bool false)) h4) (
faK 0 x1 fun x6 =>
ldK 1 false x6 h4 fun x7 =>
faK 2 x1 fun x8 =>
ldK 1 false x8 h4 fun x9 =>
buildK [.s (.int .i64 0), .s (.int .i64 0), .s (.int .i64 0)] [(some (0, 1), x7), (some (1, 1), x9), (some (2, 1), a1)] fun x10 =>
effK (boxE 3 (.agg [.s (.int .i64 0), .s (.int .i64 0), .s (.int .i64 0)]) (List.length h4)) h4 fun x11 h12 =>
effK (stE 3 x11 x10 h12) h12 fun x13 h14 =>
ldK 5 true x1 h14 fun x15 =>
effK (bsE 5 [.s (.int .i64 0), .s (.int .i64 0), .s (.int .i64 0), .s (.int .i64 0), .s (.int .i64 0)] 1 [(0, x15)] (List.length h14)) h14 fun x16 h17 =>
ldK 3 true x11 h17 fun x18 =>
effK (bsE 3 [.s (.int .i64 0), .s (.int .i64 0), .s (.int .i64 0)] 1 [(0, x18)] (List.length h17)) h17 fun x19 h20 =>
callK (T 15) [x16, x19, a2] h20 fun x21 h22 =>
exK x21 0 fun x23 =>
exK x21 1 fun x24 =>
exK x21 2 fun x25 =>
eqK P true 26 x25 (.s (.int .i64 0)) h22 fun x26 =>
condK x26 (
lenK x23 fun x27 =>
eqK P false 3 x27 (.s (.int .i64 0)) h22 fun x28 =>
K x28 h22) (
faK 3 x1 fun x29 =>
ldK 1 false x29 h22 fun x30 =>
faK 2 x11 fun x31 =>
effK (stE 1 x31 x30 h22) h22 fun x32 h33 =>
ldK 5 true x1 h33 fun x34 =>
effK (bsE 5 [.s (.int .i64 0), .s (.int .i64 0), .s (.int .i64 0), .s (.int .i64 0), .s (.int .i64 0)] 1 [(0, x34)] (List.length h33)) h33 fun x35 h36 =>
ldK 3 true x11 h36 fun x37 =>
effK (bsE 3 [.s (.int .i64 0), .s (.int .i64 0), .s (.int .i64 0)] 1 [(0, x37)] (List.length h36)) h36 fun x38 h39 =>
callK (T 15) [x35, x38, a2] h39 fun x40 h41 =>
exK x40 0 fun x42 =>
exK x40 1 fun x43 =>
exK x40 2 fun x44 =>
faK 4 x1 fun x45 =>
ldK 1 false x45 h41 fun x46 =>
faK 3 x1 fun x47 =>
ldK 1 false x47 h41 fun x48 =>
callK (T 25) [x46, a1, x48] h41 fun x49 h50 =>
exK x49 0 fun x51 =>
exK x49 1 fun x52 =>
exK x49 2 fun x53 =>
eqK P false 26 x44 (.s (.int .i64 0)) h50 fun x54 =>
grpK true x54 h50 (fun k55 =>
eqK P false 26 x53 (.s (.int .i64 0)) h50 fun x56 =>
k55 x56 h50) fun x57 h58 =>
grpK true x57 h58 (fun k59 =>
lenK x23 fun x60 =>
eqK P false 3 x60 (.s (.int .i64 1)) h58 fun x61 =>
k59 x61 h58) fun x62 h63 =>
grpK true x62 h63 (fun k64 =>
lenK x42 fun x65 =>
eqK P false 3 x65 (.s (.int .i64 1)) h63 fun x66 =>
k64 x66 h63) fun x67 h68 =>
grpK true x67 h68 (fun k69 =>
iaK 1 x23 (.s (.int .i64 0)) fun x70 =>
ldK 1 false x70 h68 fun x71 =>
eqK P false 3 x71 x51 h68 fun x72 =>
k69 x72 h68) fun x73 h74 =>
grpK true x73 h74 (fun k75 =>
iaK 1 x42 (.s (.int .i64 0)) fun x76 =>
ldK 1 false x76 h74 fun x77 =>
faK 4 x1 fun x78 =>
ldK 1 false x78 h74 fun x79 =>
eqK P false 3 x77 x79 h74 fun x80 =>
k75 x80 h74) fun x81 h82 =>
K x81 h82))
theorem f_law48_DrawbackNear_run (T : Tab) (D : DTab) (N : Nat) {β : Type} (K : AV → Hp → Option β) (a0 : AV) (a1 : AV) (a2 : AV) (h : Hp) : runK Try.prog T D N [0, 1, 2, 3, 6, 7, 8, 10, 11, 13, 14, 16, 18, 36] Try.f8 K [a0, a1, a2] h = f_law48_DrawbackNear Try.prog T D N K a0 a1 a2 h := by kernel_rfl
/-- spile/spilelaw48.DrawbackDivided -/
def f_law48_DrawbackDivided (P : Program) (T : Tab) (D : DTab) (N : Nat) {β : Type} (K : AV → Hp → Option β) (a0 : AV) (a1 : AV) (a2 : AV) (a3 : AV) (a4 : AV) (h : Hp) : Option β :=
callK (T 10) [] h fun x1 h2 =>
notK x1 fun x3 =>
grpK false x3 h2 (fun k4 =>
callK (T 11) [a0, a1] h2 fun x5 h6 =>
notK x5 fun x7 =>
k4 x7 h6) fun x8 h9 =>
grpK false x8 h9 (fun k10 =>
lenK a1 fun x11 =>
eqK P false 3 x11 (.s (.int .i64 0)) h9 fun x12 =>
k10 x12 h9) fun x13 h14 =>
grpK false x13 h14 (fun k15 =>
lenK a1 fun x16 =>
arithK .gtr x16 (.s (.int .i64 11)) fun x17 =>
k15 x17 h14) fun x18 h19 =>
condK x18 (
callK (T 10) [] h19 fun x20 h21 =>
K x20 h21) (
callK (T 13) [a0] h19 fun x22 h23 =>
callK (T 16) [a1] h23 fun x24 h25 =>
callK (T 15) [x22, x24, a2] h25 fun x26 h27 =>
exK x26 0 fun x28 =>
exK x26 1 fun x29 =>
exK x26 2 fun x30 =>
convK P 5 3 a3 fun x31 =>
lenK a1 fun x32 =>
reckK P .rem 3 x31 x32 fun x33 =>
eqK P true 26 x30 (.s (.int .i64 0)) h27 fun x34 =>
grpK false x34 h27 (fun k35 =>
lenK x28 fun x36 =>
lenK a1 fun x37 =>
eqK P true 3 x36 x37 h27 fun x38 =>
k35 x38 h27) fun x39 h40 =>
grpK false x39 h40 (fun k41 =>
iaK 3 a1 x33 fun x42 =>
faK 2 x42 fun x43 =>
ldK 1 false x43 h40 fun x44 =>
arithK .lss x44 (.s (.int .i64 2)) fun x45 =>
k41 x45 h40) fun x46 h47 =>
condK x46 (
K (.s (.bool true)) h47) (
iaK 3 a1 x33 fun x48 =>
faK 2 x48 fun x49 =>
ldK 1 false x49 h47 fun x50 =>
arithK .sub x50 (.s (.int .i64 2)) fun x51 =>
reckK P .quo 3 x51 (.s (.int .i64 256)) fun x52 =>
convK P 5 3 a4 fun x53 =>
arithK .mul x52 x53 fun x54 =>
arithK .add (.s (.int .i64 1)) x54 fun x55 =>
iaK 3 a1 x33 fun x56 =>
ldK 3 true x56 h47 fun x57 =>
iaK 3 a1 x33 fun x58 =>
ldK 3 true x58 h47 fun x59 =>
effD (boxE 3 (.agg [.s (.int .i64 0), .s (.int .i64 0), .s (.int .i64 0)]) (List.length h47)) h47 fun x60 h61 e62 =>
effD (boxE 3 (.agg [.s (.int .i64 0), .s (.int .i64 0), .s (.int .i64 0)]) (List.length h61)) h61 fun x63 h64 e65 =>
effD (stE 3 x60 x57 h64) h64 fun x66 h67 e68 =>
effD (stE 3 x63 x59 h67) h67 fun x69 h70 e71 =>
bif disjAll [(3, 8), (7, 8), (3, 9), (7, 9), (8, 9), (7, 10)] [([], []), ([], []), ([], []), ((idsOf x56), []), ([], []), ([], []), ([], []), ((idsOf x58), []), e62, e65, e68, e71] then (
iaK 3 a1 x33 fun x72 =>
faK 2 x72 fun x73 =>
ldK 1 false x73 h70 fun x74 =>
arithK .sub x74 x55 fun x75 =>
faK 2 x60 fun x76 =>
effD (stE 1 x76 x55 h70) h70 fun x77 h78 e79 =>
faK 2 x63 fun x80 =>
effD (stE 1 x80 x75 h78) h78 fun x81 h82 e83 =>
bif disjAll [(5, 9)] [([], []), ([], []), ([], []), ([], []), ([], []), ((idsOf x73), []), ([], []), ([], []), ([], []), e79, ([], []), e83] then (
effD (callE (D 13) [a0] h82 (List.length h82)) h82 fun x84 h85 e86 =>
sliceK 3 a1 none (some x33) none fun x87 =>
ldK 3 true x60 h85 fun x88 =>
ldK 3 true x63 h85 fun x89 =>
effD (bsE 3 [.s (.int .i64 0), .s (.int .i64 0), .s (.int .i64 0)] 2 [(0, x88), (1, x89)] (List.length h85)) h85 fun x90 h91 e92 =>
arithK .add x33 (.s (.int .i64 1)) fun x93 =>
sliceK 3 a1 (some x93) none none fun x94 =>
effD (bsE 1 [.s (.slice none 0 0)] 3 [(0, x87), (1, x90), (2, x94)] (List.length h91)) h91 fun x95 h96 e97 =>
effD (callE (D 26) [x95] h96 (List.length h96)) h96 fun x98 h99 e100 =>
effD (callE (D 15) [x84, x98, a2] h99 (List.length h99)) h99 fun x101 h102 e103 =>
exK x101 0 fun x104 =>
exK x101 1 fun x105 =>
exK x101 2 fun x106 =>
bif disjAll [(1, 5), (1, 6), (1, 7), (1, 12)] [([], []), e86, ([], []), ([], []), ([], []), ((idsOf x60), []), ((idsOf x63), []), e92, ([], []), ([], []), ([], []), ([], []), e97, e100, ([], []), e103, ([], []), ([], []), ([], []), ([], []), ([], []), ([], []), ([], [])] then (
eqK P false 26 x106 (.s (.int .i64 0)) h102 fun x107 =>
grpK true x107 h102 (fun k108 =>
eqK P false 3 x105 (.s (.int .i64 (-1))) h102 fun x109 =>
k108 x109 h102) fun x110 h111 =>
grpK true x110 h111 (fun k112 =>
lenK x104 fun x113 =>
lenK x28 fun x114 =>
arithK .add x114 (.s (.int .i64 1)) fun x115 =>
eqK P false 3 x113 x115 h111 fun x116 =>
k112 x116 h111) fun x117 h118 =>
grpK true x117 h118 (fun k119 =>
iaK 1 x104 x33 fun x120 =>
ldK 1 false x120 h118 fun x121 =>
arithK .add x33 (.s (.int .i64 1)) fun x122 =>
iaK 1 x104 x122 fun x123 =>
ldK 1 false x123 h118 fun x124 =>
arithK .add x121 x124 fun x125 =>
iaK 1 x28 x33 fun x126 =>
ldK 1 false x126 h118 fun x127 =>
eqK P false 3 x125 x127 h118 fun x128 =>
k119 x128 h118) fun x129 h130 =>
grpK true x129 h130 (fun k131 =>
sliceK 1 x104 none (some x33) none fun x132 =>
sliceK 1 x28 none (some x33) none fun x133 =>
callK (T 18) [x132, x133] h130 fun x134 h135 =>
k131 x134 h135) fun x136 h137 =>
grpK true x136 h137 (fun k138 =>
arithK .add x33 (.s (.int .i64 2)) fun x139 =>
sliceK 1 x104 (some x139) none none fun x140 =>
arithK .add x33 (.s (.int .i64 1)) fun x141 =>
sliceK 1 x28 (some x141) none none fun x142 =>
callK (T 18) [x140, x142] h137 fun x143 h144 =>
k138 x143 h144) fun x145 h146 =>
K x145 h146) else none) else none) else none))
theorem f_law48_DrawbackDivided_run (T : Tab) (D : DTab) (N : Nat) {β : Type} (K : AV → Hp → Option β) (a0 : AV) (a1 : AV) (a2 : AV) (a3 : AV) (a4 : AV) (h : Hp) : runK Try.prog T D N [0, 1, 2, 3, 4, 10, 11, 13, 14, 15, 16, 17, 18, 19, 20, 38, 71] Try.f9 K [a0, a1, a2, a3, a4] h = f_law48_DrawbackDivided Try.prog T D N K a0 a1 a2 a3 a4 h := by kernel_rfl
/-- spile/spilelaw48.awake -/
def f_law48_awake (P : Program) (T : Tab) (D : DTab) (N : Nat) {β : Type} (K : AV → Hp → Option β) (h : Hp) : Option β :=
buildK [.s (.int .i64 0), .s (.int .i64 0), .s (.int .i64 0), .s (.int .i64 0), .s (.int .i64 0)] [(some (0, 1), (.s (.int .i64 1))), (some (1, 1), (.s (.int .i64 1))), (some (2, 1), (.s (.int .i64 5))), (some (3, 1), (.s (.int .i64 3))), (some (4, 1), (.s (.int .i64 10)))] fun x1 =>
effK (bsE 5 [.s (.int .i64 0), .s (.int .i64 0), .s (.int .i64 0), .s (.int .i64 0), .s (.int .i64 0)] 1 [(0, x1)] (List.length h)) h fun x2 h3 =>
buildK [.s (.int .i64 0), .s (.int .i64 0), .s (.int .i64 0)] [(some (0, 1), (.s (.int .i64 1))), (some (1, 1), (.s (.int .i64 6))), (some (2, 1), (.s (.int .i64 1)))] fun x4 =>
buildK [.s (.int .i64 0), .s (.int .i64 0), .s (.int .i64 0)] [(some (0, 1), (.s (.int .i64 1))), (some (1, 1), (.s (.int .i64 6))), (some (2, 1), (.s (.int .i64 1)))] fun x5 =>
buildK [.s (.int .i64 0), .s (.int .i64 0), .s (.int .i64 0)] [(some (0, 1), (.s (.int .i64 1))), (some (1, 1), (.s (.int .i64 35))), (some (2, 1), (.s (.int .i64 1)))] fun x6 =>
effK (bsE 3 [.s (.int .i64 0), .s (.int .i64 0), .s (.int .i64 0)] 3 [(0, x4), (1, x5), (2, x6)] (List.length h3)) h3 fun x7 h8 =>
callK (T 13) [x2] h8 fun x9 h10 =>
callK (T 16) [x7] h10 fun x11 h12 =>
callK (T 15) [x9, x11, (.s (.int .i64 30))] h12 fun x13 h14 =>
exK x13 0 fun x15 =>
exK x13 1 fun x16 =>
exK x13 2 fun x17 =>
callK (T 13) [x2] h14 fun x18 h19 =>
sliceK 3 x7 none (some (.s (.int .i64 1))) none fun x20 =>
callK (T 16) [x20] h19 fun x21 h22 =>
callK (T 19) [x18, x21, (.s (.int .i64 30)), (.s (.int .i64 1))] h22 fun x23 h24 =>
exK x23 0 fun x25 =>
exK x23 1 fun x26 =>
exK x23 2 fun x27 =>
callK (T 13) [x2] h24 fun x28 h29 =>
callK (T 16) [x7] h29 fun x30 h31 =>
callK (T 21) [x28, x30, (.s (.int .i64 30))] h31 fun x32 h33 =>
exK x32 0 fun x34 =>
exK x32 1 fun x35 =>
callK (T 13) [x2] h33 fun x36 h37 =>
callK (T 23) [x36, (.s (.slice none 0 0)), (.s (.int .i64 30)), (.s (.int .i64 36))] h37 fun x38 h39 =>
exK x38 0 fun x40 =>
exK x38 1 fun x41 =>
callK (T 16) [x7] h39 fun x42 h43 =>
iaK 3 x42 (.s (.int .i64 2)) fun x44 =>
faK 1 x44 fun x45 =>
effK (stE 1 x45 (.s (.int .i64 36)) h43) h43 fun x46 h47 =>
callK (T 13) [x2] h47 fun x48 h49 =>
callK (T 15) [x48, x42, (.s (.int .i64 30))] h49 fun x50 h51 =>
exK x50 0 fun x52 =>
exK x50 1 fun x53 =>
exK x50 2 fun x54 =>
callK (T 13) [x2] h51 fun x55 h56 =>
callK (T 12) [x55] h56 fun x57 h58 =>
exK x57 0 fun x59 =>
exK x57 1 fun x60 =>
arithK .add x17 x27 fun x61 =>
arithK .add x61 x35 fun x62 =>
arithK .add x62 x41 fun x63 =>
arithK .add x63 x60 fun x64 =>
eqK P false 26 x64 (.s (.int .i64 0)) h58 fun x65 =>
grpK true x65 h58 (fun k66 =>
effK (bsE 1 [.s (.int .i64 0)] 3 [(0, (.s (.int .i64 3))), (1, (.s (.int .i64 3))), (2, (.s (.int .i64 4)))] (List.length h58)) h58 fun x67 h68 =>
callK (T 18) [x15, x67] h68 fun x69 h70 =>
k66 x69 h70) fun x71 h72 =>
grpK true x71 h72 (fun k73 =>
eqK P false 3 x16 (.s (.int .i64 (-1))) h72 fun x74 =>
k73 x74 h72) fun x75 h76 =>
grpK true x75 h76 (fun k77 =>
eqK P false 3 x25 (.s (.int .i64 2)) h76 fun x78 =>
k77 x78 h76) fun x79 h80 =>
grpK true x79 h80 (fun k81 =>
eqK P false 3 x26 (.s (.int .i64 7)) h80 fun x82 =>
k81 x82 h80) fun x83 h84 =>
grpK true x83 h84 (fun k85 =>
eqK P false 3 x34 (.s (.int .i64 10)) h84 fun x86 =>
k85 x86 h84) fun x87 h88 =>
grpK true x87 h88 (fun k89 =>
effK (bsE 1 [.s (.int .i64 0)] 1 [(0, (.s (.int .i64 1)))] (List.length h88)) h88 fun x90 h91 =>
callK (T 18) [x40, x90] h91 fun x92 h93 =>
k89 x92 h93) fun x94 h95 =>
grpK true x94 h95 (fun k96 =>
eqK P false 3 x53 (.s (.int .i64 2)) h95 fun x97 =>
k96 x97 h95) fun x98 h99 =>
grpK true x98 h99 (fun k100 =>
eqK P false 26 x54 (.s (.int .i64 23)) h99 fun x101 =>
k100 x101 h99) fun x102 h103 =>
grpK true x102 h103 (fun k104 =>
eqK P false 3 x59 (.s (.int .i64 (-1))) h103 fun x105 =>
k104 x105 h103) fun x106 h107 =>
K x106 h107
theorem f_law48_awake_run (T : Tab) (D : DTab) (N : Nat) {β : Type} (K : AV → Hp → Option β) (h : Hp) : runK Try.prog T D N [0, 1, 2, 3, 4, 5, 6, 7, 8, 9, 10, 11, 12, 13, 15, 16, 17, 18] Try.f10 K [] h = f_law48_awake Try.prog T D N K  h := by kernel_rfl
/-- spile/spileref48.Few -/
def f_ref48_Few (P : Program) (T : Tab) (D : DTab) (N : Nat) {β : Type} (K : AV → Hp → Option β) (a0 : AV) (a1 : AV) (h : Hp) : Option β :=
lenK a0 fun x1 =>
arithK .leq x1 (.s (.int .i64 8)) fun x2 =>
grpK false x2 h (fun k3 =>
lenK a0 fun x4 =>
eqK P false 3 x4 (.s (.int .i64 65)) h fun x5 =>
k3 x5 h) fun x6 h7 =>
grpK true x6 h7 (fun k8 =>
lenK a1 fun x9 =>
arithK .leq x9 (.s (.int .i64 12)) fun x10 =>
grpK false x10 h7 (fun k11 =>
lenK a1 fun x12 =>
eqK P false 3 x12 (.s (.int .i64 65)) h7 fun x13 =>
k11 x13 h7) fun x14 h15 =>
k8 x14 h15) fun x16 h17 =>
K x16 h17
theorem f_ref48_Few_run (T : Tab) (D : DTab) (N : Nat) {β : Type} (K : AV → Hp → Option β) (a0 : AV) (a1 : AV) (h : Hp) : runK Try.prog T D N [0, 1, 4] Try.f11 K [a0, a1] h = f_ref48_Few Try.prog T D N K a0 a1 h := by kernel_rfl
def o_drawback_Check_j1 (P : Program) (T : Tab) (D : DTab) (N : Nat) {β : Type} (K : AV → Hp → Option β) (t : Tm) (h : Hp) : Option β :=
K (.tup [(.s (.int .i64 (-1))), (.s (.int .i64 0))]) h
def o_drawback_Check_L2 (P : Program) (T : Tab) (D : DTab) (N : Nat) {β : Type} (t : Tm) (h : Hp) (k : Ex → St → Option β) : Option β :=
arithK .lss (t 11) (t 10) fun x4 =>
condK x4 (
iaK 5 (t 9) (t 11) fun x5 =>
ldK 5 true x5 h fun x6 =>
effK (boxE 5 (.agg [.s (.int .i64 0), .s (.int .i64 0), .s (.int .i64 0), .s (.int .i64 0), .s (.int .i64 0)]) (List.length h)) h fun x7 h8 =>
effK (stE 5 x7 x6 h8) h8 fun x9 h10 =>
faK 0 x7 fun x11 =>
ldK 1 false x11 h10 fun x12 =>
callK (T 27) [x12, (.s (.int .i64 1)), (.s (.int .i64 1073741824))] h10 fun x13 h14 =>
notK x13 fun x15 =>
grpK false x15 h14 (fun k16 =>
faK 1 x7 fun x17 =>
ldK 1 false x17 h14 fun x18 =>
callK (T 27) [x18, (.s (.int .i64 1)), (.s (.int .i64 9))] h14 fun x19 h20 =>
notK x19 fun x21 =>
k16 x21 h20) fun x22 h23 =>
grpK false x22 h23 (fun k24 =>
faK 2 x7 fun x25 =>
ldK 1 false x25 h23 fun x26 =>
callK (T 27) [x26, (.s (.int .i64 0)), (.s (.int .i64 100000))] h23 fun x27 h28 =>
notK x27 fun x29 =>
k24 x29 h28) fun x30 h31 =>
grpK false x30 h31 (fun k32 =>
faK 3 x7 fun x33 =>
ldK 1 false x33 h31 fun x34 =>
callK (T 27) [x34, (.s (.int .i64 1)), (.s (.int .i64 10737418240000))] h31 fun x35 h36 =>
notK x35 fun x37 =>
k32 x37 h36) fun x38 h39 =>
grpK false x38 h39 (fun k40 =>
faK 4 x7 fun x41 =>
ldK 1 false x41 h39 fun x42 =>
callK (T 27) [x42, (.s (.int .i64 0)), (.s (.int .i64 1099511627776))] h39 fun x43 h44 =>
notK x43 fun x45 =>
k40 x45 h44) fun x46 h47 =>
condK x46 (
k .ret ((upd (upd (upd (upd (upd (upd t 12 x4) 5 x7) 4 (t 11)) 16 x46) 2 (t 11)) 3 (.s (.int .i64 2))), h47)) (
arithK .gtr (t 11) (.s (.int .i64 0)) fun x48 =>
grpK true x48 h47 (fun k49 =>
faK 0 x7 fun x50 =>
ldK 1 false x50 h47 fun x51 =>
arithK .sub (t 11) (.s (.int .i64 1)) fun x52 =>
iaK 5 (t 0) x52 fun x53 =>
faK 0 x53 fun x54 =>
ldK 1 false x54 h47 fun x55 =>
arithK .leq x51 x55 fun x56 =>
k49 x56 h47) fun x57 h58 =>
condK x57 (
k .ret ((upd (upd (upd (upd (upd (upd (upd t 12 x4) 5 x7) 4 (t 11)) 16 x46) 46 x57) 2 (t 11)) 3 (.s (.int .i64 5))), h58)) (
arithK .add (t 11) (.s (.int .i64 1)) fun x59 =>
k .normal ((upd (upd (upd (upd (upd (upd t 12 x4) 5 x7) 4 (t 11)) 16 x46) 46 x57) 11 x59), h58)))) (
k (.exit 0) ((upd t 12 x4), h))
def o_drawback_Check_aL2 (P : Program) (T : Tab) (D : DTab) (N : Nat) {β : Type} (K : AV → Hp → Option β) (e : Ex) (s : St) : Option β :=
  e.on ((o_drawback_Check_j1 P T D N K s.1 s.2))
  (fun i => bif i == 0 then ((o_drawback_Check_j1 P T D N K s.1 s.2)) else (none))
  (K (.tup [(s.1 2), (s.1 3)]) s.2)
def o_drawback_Check_G (P : Program) (T : Tab) (D : DTab) (N : Nat) {β : Type} (cL2 : St → Option β) (K : AV → Hp → Option β) (a0 : AV) (h : Hp) :  Option β :=
lenK a0 fun x1 =>
arithK .gtr x1 (.s (.int .i64 64)) fun x2 =>
condK x2 (
K (.tup [(.s (.int .i64 (-1))), (.s (.int .i64 8))]) h) (
lenK a0 fun x3 =>
cL2 ((upd (upd (upd (upd (upd (upd (tm0 [a0]) 2 (.s (.int .i64 0))) 3 (.s (.int .i64 0))) 8 x2) 9 a0) 10 x3) 11 (.s (.int .i64 0))), h))
def o_drawback_Check (P : Program) (T : Tab) (D : DTab) (N : Nat) {β : Type} (K : AV → Hp → Option β) (a0 : AV) (h : Hp) : Option β := o_drawback_Check_G P T D N (fun s => iterK (fun s k => o_drawback_Check_L2 P T D N s.1 s.2 k) N s (o_drawback_Check_aL2 P T D N K)) K a0 h
def f_drawback_Check_j1 (P : Program) (T : Tab) (D : DTab) (N : Nat) {β : Type} (K : AV → Hp → Option β) (h : Hp) : Option β :=
K (.tup [(.s (.int .i64 (-1))), (.s (.int .i64 0))]) h
def f_drawback_Check_b2 (P : Program) (T : Tab) (D : DTab) (N : Nat) {β : Type} (xn : AV → AV → AV → AV → Hp → Option β) (x0 : Hp → Option β) (xr : AV → AV → Hp → Option β) (v0 : AV) (v9 : AV) (v10 : AV) (v11 : AV) (h : Hp) : Option β :=
arithK .lss v11 v10 fun x4 =>
condK x4 (
iaK 5 v9 v11 fun x5 =>
ldK 5 true x5 h fun x6 =>
effK (boxE 5 (.agg [.s (.int .i64 0), .s (.int .i64 0), .s (.int .i64 0), .s (.int .i64 0), .s (.int .i64 0)]) (List.length h)) h fun x7 h8 =>
effK (stE 5 x7 x6 h8) h8 fun x9 h10 =>
faK 0 x7 fun x11 =>
ldK 1 false x11 h10 fun x12 =>
callK (T 27) [x12, (.s (.int .i64 1)), (.s (.int .i64 1073741824))] h10 fun x13 h14 =>
notK x13 fun x15 =>
grpK false x15 h14 (fun k16 =>
faK 1 x7 fun x17 =>
ldK 1 false x17 h14 fun x18 =>
callK (T 27) [x18, (.s (.int .i64 1)), (.s (.int .i64 9))] h14 fun x19 h20 =>
notK x19 fun x21 =>
k16 x21 h20) fun x22 h23 =>
grpK false x22 h23 (fun k24 =>
faK 2 x7 fun x25 =>
ldK 1 false x25 h23 fun x26 =>
callK (T 27) [x26, (.s (.int .i64 0)), (.s (.int .i64 100000))] h23 fun x27 h28 =>
notK x27 fun x29 =>
k24 x29 h28) fun x30 h31 =>
grpK false x30 h31 (fun k32 =>
faK 3 x7 fun x33 =>
ldK 1 false x33 h31 fun x34 =>
callK (T 27) [x34, (.s (.int .i64 1)), (.s (.int .i64 10737418240000))] h31 fun x35 h36 =>
notK x35 fun x37 =>
k32 x37 h36) fun x38 h39 =>
grpK false x38 h39 (fun k40 =>
faK 4 x7 fun x41 =>
ldK 1 false x41 h39 fun x42 =>
callK (T 27) [x42, (.s (.int .i64 0)), (.s (.int .i64 1099511627776))] h39 fun x43 h44 =>
notK x43 fun x45 =>
k40 x45 h44) fun x46 h47 =>
condK x46 (
xr v11 (.s (.int .i64 2)) h47) (
arithK .gtr v11 (.s (.int .i64 0)) fun x48 =>
grpK true x48 h47 (fun k49 =>
faK 0 x7 fun x50 =>
ldK 1 false x50 h47 fun x51 =>
arithK .sub v11 (.s (.int .i64 1)) fun x52 =>
iaK 5 v0 x52 fun x53 =>
faK 0 x53 fun x54 =>
ldK 1 false x54 h47 fun x55 =>
arithK .leq x51 x55 fun x56 =>
k49 x56 h47) fun x57 h58 =>
condK x57 (
xr v11 (.s (.int .i64 5)) h58) (
arithK .add v11 (.s (.int .i64 1)) fun x59 =>
xn v0 v9 v10 x59 h58))) (
x0 h)
def f_drawback_Check_L2 (P : Program) (T : Tab) (D : DTab) (N : Nat) {β : Type} (x0 : Hp → Option β) (xr : AV → AV → Hp → Option β) : Nat → AV → AV → AV → AV → Hp → Option β
  | 0 => fun _ _ _ _ _ => none
  | n + 1 => fun v0 v9 v10 v11 h => f_drawback_Check_b2 P T D N (f_drawback_Check_L2 P T D N x0 xr n) x0 xr v0 v9 v10 v11 h
/-- spile/drawback.Check -/
def f_drawback_Check (P : Program) (T : Tab) (D : DTab) (N : Nat) {β : Type} (K : AV → Hp → Option β) (a0 : AV) (h : Hp) : Option β :=
lenK a0 fun x1 =>
arithK .gtr x1 (.s (.int .i64 64)) fun x2 =>
condK x2 (
K (.tup [(.s (.int .i64 (-1))), (.s (.int .i64 8))]) h) (
lenK a0 fun x3 =>
f_drawback_Check_L2 P T D N (fun h => f_drawback_Check_j1 P T D N K h) (fun w61_2 w61_3 h => K (.tup [w61_2, w61_3]) h) N a0 a0 x3 (.s (.int .i64 0)) h)
theorem f_drawback_Check_j1_eq (P : Program) (T : Tab) (D : DTab) (N : Nat) {β : Type} (K : AV → Hp → Option β) (t : Tm) (h : Hp) : o_drawback_Check_j1 P T D N K t h = f_drawback_Check_j1 P T D N K h := by kernel_rfl
theorem f_drawback_Check_b2_eq (P : Program) (T : Tab) (D : DTab) (N : Nat) {β : Type} (xn : AV → AV → AV → AV → Hp → Option β) (x0 : Hp → Option β) (xr : AV → AV → Hp → Option β) (xd : Nat → St → Option β) (xq : St → Option β) (t : Tm) (h : Hp) : o_drawback_Check_L2 P T D N t h (fun (e : Ex) (s : St) => e.on (xn (s.1 0) (s.1 9) (s.1 10) (s.1 11) s.2) (fun i => (bif i == 0 then x0 s.2 else (xd i s))) (xr (s.1 2) (s.1 3) s.2)) = f_drawback_Check_b2 P T D N xn x0 xr (t 0) (t 9) (t 10) (t 11) h := by kernel_rfl
theorem f_drawback_Check_L2_eq (P : Program) (T : Tab) (D : DTab) (N : Nat) {β : Type} (A : Ex → St → Option β) (x0 : Hp → Option β) (xr : AV → AV → Hp → Option β) (q0 : ∀ s, A (.exit 0) s = x0 s.2) (qr : ∀ s, A .ret s = xr (s.1 2) (s.1 3) s.2) : ∀ (n : Nat) (s : St), iterK (fun s k => o_drawback_Check_L2 P T D N s.1 s.2 k) n s A = f_drawback_Check_L2 P T D N x0 xr n (s.1 0) (s.1 9) (s.1 10) (s.1 11) s.2 := by
  intro n
  induction n with
  | zero => intro s; rfl
  | succ n ih =>
    intro s
    have hk : (fun (e : Ex) (s' : St) => Ex.on e (iterK (fun s k => o_drawback_Check_L2 P T D N s.1 s.2 k) n s' A) (fun i => A (.exit i) s') (A .ret s')) = (fun (e : Ex) (s : St) => e.on ((f_drawback_Check_L2 P T D N x0 xr n) (s.1 0) (s.1 9) (s.1 10) (s.1 11) s.2) (fun i => (bif i == 0 then x0 s.2 else (A (.exit i) s))) (xr (s.1 2) (s.1 3) s.2)) := by
      funext e s'
      cases e with
      | normal => exact ih s'
      | ret => exact qr s'
      | exit i =>
        by_cases r0 : i = 0
        · subst r0; exact q0 s'
        simp only [Ex.on, beq_false_of_ne r0, cond_false]
    show o_drawback_Check_L2 P T D N s.1 s.2 (fun (e : Ex) (s' : St) => Ex.on e (iterK (fun s k => o_drawback_Check_L2 P T D N s.1 s.2 k) n s' A) (fun i => A (.exit i) s') (A .ret s')) = _
    rw [hk]
    exact f_drawback_Check_b2_eq P T D N (f_drawback_Check_L2 P T D N x0 xr n) x0 xr (fun i s => A (.exit i) s) (fun s => A .ret s) s.1 s.2
theorem f_drawback_Check_old_eq (P : Program) (T : Tab) (D : DTab) (N : Nat) {β : Type} (K : AV → Hp → Option β) (a0 : AV) (h : Hp) : o_drawback_Check P T D N K a0 h = f_drawback_Check P T D N K a0 h := by
  have eL2 : (fun s : St => iterK (fun s k => o_drawback_Check_L2 P T D N s.1 s.2 k) N s (o_drawback_Check_aL2 P T D N K)) = (fun s : St => f_drawback_Check_L2 P T D N (fun h => f_drawback_Check_j1 P T D N K h) (fun w61_2 w61_3 h => K (.tup [w61_2, w61_3]) h) N (s.1 0) (s.1 9) (s.1 10) (s.1 11) s.2) := funext fun s => f_drawback_Check_L2_eq P T D N (o_drawback_Check_aL2 P T D N K) (fun h => f_drawback_Check_j1 P T D N K h) (fun w61_2 w61_3 h => K (.tup [w61_2, w61_3]) h) (fun s => rfl) (fun s => rfl) N s
  show o_drawback_Check_G P T D N (fun s => iterK (fun s k => o_drawback_Check_L2 P T D N s.1 s.2 k) N s (o_drawback_Check_aL2 P T D N K)) K a0 h = _
  rw [eL2]
  kernel_rfl
theorem o_drawback_Check_run (T : Tab) (D : DTab) (N : Nat) {β : Type} (K : AV → Hp → Option β) (a0 : AV) (h : Hp) : runK Try.prog T D N [0, 2, 3, 4, 5, 8, 9, 10, 11, 12, 16, 46] Try.f12 K [a0] h = o_drawback_Check Try.prog T D N K a0 h := by kernel_rfl
theorem f_drawback_Check_run (T : Tab) (D : DTab) (N : Nat) {β : Type} (K : AV → Hp → Option β) (a0 : AV) (h : Hp) : runK Try.prog T D N [0, 2, 3, 4, 5, 8, 9, 10, 11, 12, 16, 46] Try.f12 K [a0] h = f_drawback_Check Try.prog T D N K a0 h := (o_drawback_Check_run T D N K a0 h).trans (f_drawback_Check_old_eq Try.prog T D N K a0 h)
/-- slices.Clone[[]spile/api.Paid,spile/api.Paid] -/
def f_slices_Clone_Paid (P : Program) (T : Tab) (D : DTab) (N : Nat) {β : Type} (K : AV → Hp → Option β) (a0 : AV) (h : Hp) : Option β :=
eqK P false 22 a0 (.s (.slice none 0 0)) h fun x1 =>
condK x1 (
K (.s (.slice none 0 0)) h) (
effK (bsE 5 [.s (.int .i64 0), .s (.int .i64 0), .s (.int .i64 0), .s (.int .i64 0), .s (.int .i64 0)] 0 [] (List.length h)) h fun x2 h3 =>
effK (appE 5 40 x2 a0 h3 (List.length h3)) h3 fun x4 h5 =>
K x4 h5)
theorem f_slices_Clone_Paid_run (T : Tab) (D : DTab) (N : Nat) {β : Type} (K : AV → Hp → Option β) (a0 : AV) (h : Hp) : runK Try.prog T D N [0, 2, 4] Try.f13 K [a0] h = f_slices_Clone_Paid Try.prog T D N K a0 h := by kernel_rfl
def o_ref48_Check_j1 (P : Program) (T : Tab) (D : DTab) (N : Nat) {β : Type} (K : AV → Hp → Option β) (t : Tm) (h : Hp) : Option β :=
K (.tup [(.s (.int .i64 (-1))), (.s (.int .i64 0))]) h
def o_ref48_Check_L2 (P : Program) (T : Tab) (D : DTab) (N : Nat) {β : Type} (t : Tm) (h : Hp) (k : Ex → St → Option β) : Option β :=
lenK (t 0) fun x3 =>
arithK .lss (t 4) x3 fun x4 =>
condK x4 (
iaK 5 (t 0) (t 4) fun x5 =>
ldK 5 true x5 h fun x6 =>
effK (boxE 5 (.agg [.s (.int .i64 0), .s (.int .i64 0), .s (.int .i64 0), .s (.int .i64 0), .s (.int .i64 0)]) (List.length h)) h fun x7 h8 =>
effK (stE 5 x7 x6 h8) h8 fun x9 h10 =>
faK 0 x7 fun x11 =>
ldK 1 false x11 h10 fun x12 =>
callK (T 28) [x12, (.s (.int .i64 1)), (.s (.int .i64 1073741824))] h10 fun x13 h14 =>
notK x13 fun x15 =>
grpK false x15 h14 (fun k16 =>
faK 1 x7 fun x17 =>
ldK 1 false x17 h14 fun x18 =>
callK (T 28) [x18, (.s (.int .i64 1)), (.s (.int .i64 9))] h14 fun x19 h20 =>
notK x19 fun x21 =>
k16 x21 h20) fun x22 h23 =>
grpK false x22 h23 (fun k24 =>
faK 2 x7 fun x25 =>
ldK 1 false x25 h23 fun x26 =>
callK (T 28) [x26, (.s (.int .i64 0)), (.s (.int .i64 100000))] h23 fun x27 h28 =>
notK x27 fun x29 =>
k24 x29 h28) fun x30 h31 =>
grpK false x30 h31 (fun k32 =>
faK 3 x7 fun x33 =>
ldK 1 false x33 h31 fun x34 =>
callK (T 28) [x34, (.s (.int .i64 1)), (.s (.int .i64 10737418240000))] h31 fun x35 h36 =>
notK x35 fun x37 =>
k32 x37 h36) fun x38 h39 =>
grpK false x38 h39 (fun k40 =>
faK 4 x7 fun x41 =>
ldK 1 false x41 h39 fun x42 =>
callK (T 28) [x42, (.s (.int .i64 0)), (.s (.int .i64 1099511627776))] h39 fun x43 h44 =>
notK x43 fun x45 =>
k40 x45 h44) fun x46 h47 =>
condK x46 (
k .ret ((upd (upd (upd (upd (upd t 12 x4) 5 x7) 46 x46) 2 (t 4)) 3 (.s (.int .i64 2))), h47)) (
arithK .gtr (t 4) (.s (.int .i64 0)) fun x48 =>
grpK true x48 h47 (fun k49 =>
faK 0 x7 fun x50 =>
ldK 1 false x50 h47 fun x51 =>
arithK .sub (t 4) (.s (.int .i64 1)) fun x52 =>
iaK 5 (t 0) x52 fun x53 =>
faK 0 x53 fun x54 =>
ldK 1 false x54 h47 fun x55 =>
arithK .leq x51 x55 fun x56 =>
k49 x56 h47) fun x57 h58 =>
condK x57 (
k .ret ((upd (upd (upd (upd (upd (upd t 12 x4) 5 x7) 46 x46) 60 x57) 2 (t 4)) 3 (.s (.int .i64 5))), h58)) (
arithK .add (t 4) (.s (.int .i64 1)) fun x59 =>
k .normal ((upd (upd (upd (upd (upd t 12 x4) 5 x7) 46 x46) 60 x57) 4 x59), h58)))) (
k (.exit 0) ((upd t 12 x4), h))
def o_ref48_Check_aL2 (P : Program) (T : Tab) (D : DTab) (N : Nat) {β : Type} (K : AV → Hp → Option β) (e : Ex) (s : St) : Option β :=
  e.on ((o_ref48_Check_j1 P T D N K s.1 s.2))
  (fun i => bif i == 0 then ((o_ref48_Check_j1 P T D N K s.1 s.2)) else (none))
  (K (.tup [(s.1 2), (s.1 3)]) s.2)
def o_ref48_Check_G (P : Program) (T : Tab) (D : DTab) (N : Nat) {β : Type} (cL2 : St → Option β) (K : AV → Hp → Option β) (a0 : AV) (h : Hp) :  Option β :=
lenK a0 fun x1 =>
arithK .gtr x1 (.s (.int .i64 64)) fun x2 =>
condK x2 (
K (.tup [(.s (.int .i64 (-1))), (.s (.int .i64 8))]) h) (
cL2 ((upd (upd (upd (upd (tm0 [a0]) 2 (.s (.int .i64 0))) 3 (.s (.int .i64 0))) 8 x2) 4 (.s (.int .i64 0))), h))
def o_ref48_Check (P : Program) (T : Tab) (D : DTab) (N : Nat) {β : Type} (K : AV → Hp → Option β) (a0 : AV) (h : Hp) : Option β := o_ref48_Check_G P T D N (fun s => iterK (fun s k => o_ref48_Check_L2 P T D N s.1 s.2 k) N s (o_ref48_Check_aL2 P T D N K)) K a0 h
def f_ref48_Check_j1 (P : Program) (T : Tab) (D : DTab) (N : Nat) {β : Type} (K : AV → Hp → Option β) (h : Hp) : Option β :=
K (.tup [(.s (.int .i64 (-1))), (.s (.int .i64 0))]) h
def f_ref48_Check_b2 (P : Program) (T : Tab) (D : DTab) (N : Nat) {β : Type} (xn : AV → AV → Hp → Option β) (x0 : Hp → Option β) (xr : AV → AV → Hp → Option β) (v0 : AV) (v4 : AV) (h : Hp) : Option β :=
lenK v0 fun x3 =>
arithK .lss v4 x3 fun x4 =>
condK x4 (
iaK 5 v0 v4 fun x5 =>
ldK 5 true x5 h fun x6 =>
effK (boxE 5 (.agg [.s (.int .i64 0), .s (.int .i64 0), .s (.int .i64 0), .s (.int .i64 0), .s (.int .i64 0)]) (List.length h)) h fun x7 h8 =>
effK (stE 5 x7 x6 h8) h8 fun x9 h10 =>
faK 0 x7 fun x11 =>
ldK 1 false x11 h10 fun x12 =>
callK (T 28) [x12, (.s (.int .i64 1)), (.s (.int .i64 1073741824))] h10 fun x13 h14 =>
notK x13 fun x15 =>
grpK false x15 h14 (fun k16 =>
faK 1 x7 fun x17 =>
ldK 1 false x17 h14 fun x18 =>
callK (T 28) [x18, (.s (.int .i64 1)), (.s (.int .i64 9))] h14 fun x19 h20 =>
notK x19 fun x21 =>
k16 x21 h20) fun x22 h23 =>
grpK false x22 h23 (fun k24 =>
faK 2 x7 fun x25 =>
ldK 1 false x25 h23 fun x26 =>
callK (T 28) [x26, (.s (.int .i64 0)), (.s (.int .i64 100000))] h23 fun x27 h28 =>
notK x27 fun x29 =>
k24 x29 h28) fun x30 h31 =>
grpK false x30 h31 (fun k32 =>
faK 3 x7 fun x33 =>
ldK 1 false x33 h31 fun x34 =>
callK (T 28) [x34, (.s (.int .i64 1)), (.s (.int .i64 10737418240000))] h31 fun x35 h36 =>
notK x35 fun x37 =>
k32 x37 h36) fun x38 h39 =>
grpK false x38 h39 (fun k40 =>
faK 4 x7 fun x41 =>
ldK 1 false x41 h39 fun x42 =>
callK (T 28) [x42, (.s (.int .i64 0)), (.s (.int .i64 1099511627776))] h39 fun x43 h44 =>
notK x43 fun x45 =>
k40 x45 h44) fun x46 h47 =>
condK x46 (
xr v4 (.s (.int .i64 2)) h47) (
arithK .gtr v4 (.s (.int .i64 0)) fun x48 =>
grpK true x48 h47 (fun k49 =>
faK 0 x7 fun x50 =>
ldK 1 false x50 h47 fun x51 =>
arithK .sub v4 (.s (.int .i64 1)) fun x52 =>
iaK 5 v0 x52 fun x53 =>
faK 0 x53 fun x54 =>
ldK 1 false x54 h47 fun x55 =>
arithK .leq x51 x55 fun x56 =>
k49 x56 h47) fun x57 h58 =>
condK x57 (
xr v4 (.s (.int .i64 5)) h58) (
arithK .add v4 (.s (.int .i64 1)) fun x59 =>
xn v0 x59 h58))) (
x0 h)
def f_ref48_Check_L2 (P : Program) (T : Tab) (D : DTab) (N : Nat) {β : Type} (x0 : Hp → Option β) (xr : AV → AV → Hp → Option β) : Nat → AV → AV → Hp → Option β
  | 0 => fun _ _ _ => none
  | n + 1 => fun v0 v4 h => f_ref48_Check_b2 P T D N (f_ref48_Check_L2 P T D N x0 xr n) x0 xr v0 v4 h
/-- spile/spileref48.Check -/
def f_ref48_Check (P : Program) (T : Tab) (D : DTab) (N : Nat) {β : Type} (K : AV → Hp → Option β) (a0 : AV) (h : Hp) : Option β :=
lenK a0 fun x1 =>
arithK .gtr x1 (.s (.int .i64 64)) fun x2 =>
condK x2 (
K (.tup [(.s (.int .i64 (-1))), (.s (.int .i64 8))]) h) (
f_ref48_Check_L2 P T D N (fun h => f_ref48_Check_j1 P T D N K h) (fun w61_2 w61_3 h => K (.tup [w61_2, w61_3]) h) N a0 (.s (.int .i64 0)) h)
theorem f_ref48_Check_j1_eq (P : Program) (T : Tab) (D : DTab) (N : Nat) {β : Type} (K : AV → Hp → Option β) (t : Tm) (h : Hp) : o_ref48_Check_j1 P T D N K t h = f_ref48_Check_j1 P T D N K h := by kernel_rfl
theorem f_ref48_Check_b2_eq (P : Program) (T : Tab) (D : DTab) (N : Nat) {β : Type} (xn : AV → AV → Hp → Option β) (x0 : Hp → Option β) (xr : AV → AV → Hp → Option β) (xd : Nat → St → Option β) (xq : St → Option β) (t : Tm) (h : Hp) : o_ref48_Check_L2 P T D N t h (fun (e : Ex) (s : St) => e.on (xn (s.1 0) (s.1 4) s.2) (fun i => (bif i == 0 then x0 s.2 else (xd i s))) (xr (s.1 2) (s.1 3) s.2)) = f_ref48_Check_b2 P T D N xn x0 xr (t 0) (t 4) h := by kernel_rfl
theorem f_ref48_Check_L2_eq (P : Program) (T : Tab) (D : DTab) (N : Nat) {β : Type} (A : Ex → St → Option β) (x0 : Hp → Option β) (xr : AV → AV → Hp → Option β) (q0 : ∀ s, A (.exit 0) s = x0 s.2) (qr : ∀ s, A .ret s = xr (s.1 2) (s.1 3) s.2) : ∀ (n : Nat) (s : St), iterK (fun s k => o_ref48_Check_L2 P T D N s.1 s.2 k) n s A = f_ref48_Check_L2 P T D N x0 xr n (s.1 0) (s.1 4) s.2 := by
  intro n
  induction n with
  | zero => intro s; rfl
  | succ n ih =>
    intro s
    have hk : (fun (e : Ex) (s' : St) => Ex.on e (iterK (fun s k => o_ref48_Check_L2 P T D N s.1 s.2 k) n s' A) (fun i => A (.exit i) s') (A .ret s')) = (fun (e : Ex) (s : St) => e.on ((f_ref48_Check_L2 P T D N x0 xr n) (s.1 0) (s.1 4) s.2) (fun i => (bif i == 0 then x0 s.2 else (A (.exit i) s))) (xr (s.1 2) (s.1 3) s.2)) := by
      funext e s'
      cases e with
      | normal => exact ih s'
      | ret => exact qr s'
      | exit i =>
        by_cases r0 : i = 0
        · subst r0; exact q0 s'
        simp only [Ex.on, beq_false_of_ne r0, cond_false]
    show o_ref48_Check_L2 P T D N s.1 s.2 (fun (e : Ex) (s' : St) => Ex.on e (iterK (fun s k => o_ref48_Check_L2 P T D N s.1 s.2 k) n s' A) (fun i => A (.exit i) s') (A .ret s')) = _
    rw [hk]
    exact f_ref48_Check_b2_eq P T D N (f_ref48_Check_L2 P T D N x0 xr n) x0 xr (fun i s => A (.exit i) s) (fun s => A .ret s) s.1 s.2
theorem f_ref48_Check_old_eq (P : Program) (T : Tab) (D : DTab) (N : Nat) {β : Type} (K : AV → Hp → Option β) (a0 : AV) (h : Hp) : o_ref48_Check P T D N K a0 h = f_ref48_Check P T D N K a0 h := by
  have eL2 : (fun s : St => iterK (fun s k => o_ref48_Check_L2 P T D N s.1 s.2 k) N s (o_ref48_Check_aL2 P T D N K)) = (fun s : St => f_ref48_Check_L2 P T D N (fun h => f_ref48_Check_j1 P T D N K h) (fun w61_2 w61_3 h => K (.tup [w61_2, w61_3]) h) N (s.1 0) (s.1 4) s.2) := funext fun s => f_ref48_Check_L2_eq P T D N (o_ref48_Check_aL2 P T D N K) (fun h => f_ref48_Check_j1 P T D N K h) (fun w61_2 w61_3 h => K (.tup [w61_2, w61_3]) h) (fun s => rfl) (fun s => rfl) N s
  show o_ref48_Check_G P T D N (fun s => iterK (fun s k => o_ref48_Check_L2 P T D N s.1 s.2 k) N s (o_ref48_Check_aL2 P T D N K)) K a0 h = _
  rw [eL2]
  kernel_rfl
theorem o_ref48_Check_run (T : Tab) (D : DTab) (N : Nat) {β : Type} (K : AV → Hp → Option β) (a0 : AV) (h : Hp) : runK Try.prog T D N [0, 2, 3, 4, 5, 8, 12, 46, 60] Try.f14 K [a0] h = o_ref48_Check Try.prog T D N K a0 h := by kernel_rfl
theorem f_ref48_Check_run (T : Tab) (D : DTab) (N : Nat) {β : Type} (K : AV → Hp → Option β) (a0 : AV) (h : Hp) : runK Try.prog T D N [0, 2, 3, 4, 5, 8, 12, 46, 60] Try.f14 K [a0] h = f_ref48_Check Try.prog T D N K a0 h := (o_ref48_Check_run T D N K a0 h).trans (f_ref48_Check_old_eq Try.prog T D N K a0 h)
/-- spile/drawback.Refund -/
def f_drawback_Refund (P : Program) (T : Tab) (D : DTab) (N : Nat) {β : Type} (K : AV → Hp → Option β) (a0 : AV) (a1 : AV) (a2 : AV) (h : Hp) : Option β :=
callK (T 29) [a0, a1, a2] h fun x1 h2 =>
exK x1 0 fun x3 =>
exK x1 1 fun x4 =>
exK x1 2 fun x5 =>
exK x1 3 fun x6 =>
K (.tup [x4, x5, x6]) h2
theorem f_drawback_Refund_run (T : Tab) (D : DTab) (N : Nat) {β : Type} (K : AV → Hp → Option β) (a0 : AV) (a1 : AV) (a2 : AV) (h : Hp) : runK Try.prog T D N [0, 1, 2, 6, 7, 8, 10, 11, 12] Try.f15 K [a0, a1, a2] h = f_drawback_Refund Try.prog T D N K a0 a1 a2 h := by kernel_rfl
/-- slices.Clone[[]spile/api.Claim,spile/api.Claim] -/
def f_slices_Clone_Claim (P : Program) (T : Tab) (D : DTab) (N : Nat) {β : Type} (K : AV → Hp → Option β) (a0 : AV) (h : Hp) : Option β :=
eqK P false 23 a0 (.s (.slice none 0 0)) h fun x1 =>
condK x1 (
K (.s (.slice none 0 0)) h) (
effK (bsE 3 [.s (.int .i64 0), .s (.int .i64 0), .s (.int .i64 0)] 0 [] (List.length h)) h fun x2 h3 =>
effK (appE 3 24 x2 a0 h3 (List.length h3)) h3 fun x4 h5 =>
K x4 h5)
theorem f_slices_Clone_Claim_run (T : Tab) (D : DTab) (N : Nat) {β : Type} (K : AV → Hp → Option β) (a0 : AV) (h : Hp) : runK Try.prog T D N [0, 2, 4] Try.f16 K [a0] h = f_slices_Clone_Claim Try.prog T D N K a0 h := by kernel_rfl
def o_ref48_Refund_j1 (P : Program) (T : Tab) (D : DTab) (N : Nat) {β : Type} (K : AV → Hp → Option β) (t : Tm) (h : Hp) : Option β :=
K (.tup [(t 11), (.s (.int .i64 (-1))), (.s (.int .i64 0))]) h
def o_ref48_Refund_L2 (P : Program) (T : Tab) (D : DTab) (N : Nat) {β : Type} (t : Tm) (h : Hp) (k : Ex → St → Option β) : Option β :=
lenK (t 1) fun x11 =>
arithK .lss (t 12) x11 fun x12 =>
condK x12 (
iaK 3 (t 1) (t 12) fun x13 =>
ldK 3 true x13 h fun x14 =>
effK (boxE 3 (.agg [.s (.int .i64 0), .s (.int .i64 0), .s (.int .i64 0)]) (List.length h)) h fun x15 h16 =>
effK (stE 3 x15 x14 h16) h16 fun x17 h18 =>
sliceK 3 (t 1) none (some (t 12)) none fun x19 =>
ldK 3 true x15 h18 fun x20 =>
callK (T 30) [(t 0), x19, x20, (t 2)] h18 fun x21 h22 =>
eqK P true 26 x21 (.s (.int .i64 0)) h22 fun x23 =>
condK x23 (
k .ret ((upd (upd (upd (upd (upd (upd (upd t 33 x12) 13 x15) 14 x21) 48 x23) 6 (.s (.slice none 0 0))) 7 (t 12)) 8 x21), h22)) (
faK 0 x15 fun x24 =>
ldK 1 false x24 h22 fun x25 =>
callK (T 31) [(t 0), x25] h22 fun x26 h27 =>
iaK 5 (t 0) x26 fun x28 =>
ldK 5 true x28 h27 fun x29 =>
effK (boxE 5 (.agg [.s (.int .i64 0), .s (.int .i64 0), .s (.int .i64 0), .s (.int .i64 0), .s (.int .i64 0)]) (List.length h27)) h27 fun x30 h31 =>
effK (stE 5 x30 x29 h31) h31 fun x32 h33 =>
sliceK 3 (t 1) none (some (t 12)) none fun x34 =>
faK 0 x15 fun x35 =>
ldK 1 false x35 h33 fun x36 =>
callK (T 32) [x34, x36] h33 fun x37 h38 =>
ldK 5 true x30 h38 fun x39 =>
faK 2 x15 fun x40 =>
ldK 1 false x40 h38 fun x41 =>
arithK .add x37 x41 fun x42 =>
effD (callE (D 33) [x39, x42] h38 (List.length h38)) h38 fun x43 h44 e45 =>
ldK 5 true x30 h44 fun x46 =>
effD (callE (D 33) [x46, x37] h44 (List.length h44)) h44 fun x47 h48 e49 =>
arithK .sub x43 x47 fun x50 =>
effD (bsE 1 [.s (.int .i64 0)] 1 [(0, x50)] (List.length h48)) h48 fun x51 h52 e53 =>
effD (appE 1 8 (t 11) x51 h52 (List.length h52)) h52 fun x54 h55 e56 =>
bif disjAll [(6, 7)] [([], []), ((idsOf x30), []), ([], []), ([], []), ((idsOf x40), []), ([], []), e45, ((idsOf x30), []), ([], []), e49, ([], []), e53, e56, ([], [])] then (
arithK .add (t 12) (.s (.int .i64 1)) fun x57 =>
k .normal ((upd (upd (upd (upd (upd (upd (upd (upd t 33 x12) 13 x15) 14 x21) 48 x23) 15 x30) 16 x37) 11 x54) 12 x57), h55)) else none)) (
k (.exit 0) ((upd t 33 x12), h))
def o_ref48_Refund_aL2 (P : Program) (T : Tab) (D : DTab) (N : Nat) {β : Type} (K : AV → Hp → Option β) (e : Ex) (s : St) : Option β :=
  e.on ((o_ref48_Refund_j1 P T D N K s.1 s.2))
  (fun i => bif i == 0 then ((o_ref48_Refund_j1 P T D N K s.1 s.2)) else (none))
  (K (.tup [(s.1 6), (s.1 7), (s.1 8)]) s.2)
def o_ref48_Refund_G (P : Program) (T : Tab) (D : DTab) (N : Nat) {β : Type} (cL2 : St → Option β) (K : AV → Hp → Option β) (a0 : AV) (a1 : AV) (a2 : AV) (h : Hp) :  Option β :=
callK (T 14) [a0] h fun x1 h2 =>
exK x1 0 fun x3 =>
exK x1 1 fun x4 =>
eqK P true 26 x4 (.s (.int .i64 0)) h2 fun x5 =>
condK x5 (
K (.tup [(.s (.slice none 0 0)), (.s (.int .i64 (-1))), (.s (.int .i64 1))]) h2) (
callK (T 28) [a2, (.s (.int .i64 0)), (.s (.int .i64 100000))] h2 fun x6 h7 =>
notK x6 fun x8 =>
condK x8 (
K (.tup [(.s (.slice none 0 0)), (.s (.int .i64 (-1))), (.s (.int .i64 2))]) h7) (
lenK a1 fun x9 =>
arithK .gtr x9 (.s (.int .i64 64)) fun x10 =>
condK x10 (
K (.tup [(.s (.slice none 0 0)), (.s (.int .i64 (-1))), (.s (.int .i64 8))]) h7) (
cL2 ((upd (upd (upd (upd (upd (upd (upd (upd (upd (tm0 [a0, a1, a2]) 6 (.s (.slice none 0 0))) 7 (.s (.int .i64 0))) 8 (.s (.int .i64 0))) 10 x4) 23 x5) 26 x8) 29 x10) 11 (.s (.slice none 0 0))) 12 (.s (.int .i64 0))), h7))))
def o_ref48_Refund (P : Program) (T : Tab) (D : DTab) (N : Nat) {β : Type} (K : AV → Hp → Option β) (a0 : AV) (a1 : AV) (a2 : AV) (h : Hp) : Option β := o_ref48_Refund_G P T D N (fun s => iterK (fun s k => o_ref48_Refund_L2 P T D N s.1 s.2 k) N s (o_ref48_Refund_aL2 P T D N K)) K a0 a1 a2 h
def f_ref48_Refund_j1 (P : Program) (T : Tab) (D : DTab) (N : Nat) {β : Type} (K : AV → Hp → Option β) (v11 : AV) (h : Hp) : Option β :=
K (.tup [v11, (.s (.int .i64 (-1))), (.s (.int .i64 0))]) h
def f_ref48_Refund_b2 (P : Program) (T : Tab) (D : DTab) (N : Nat) {β : Type} (xn : AV → AV → AV → AV → AV → Hp → Option β) (x0 : AV → Hp → Option β) (xr : AV → AV → AV → Hp → Option β) (v0 : AV) (v1 : AV) (v2 : AV) (v11 : AV) (v12 : AV) (h : Hp) : Option β :=
lenK v1 fun x11 =>
arithK .lss v12 x11 fun x12 =>
condK x12 (
iaK 3 v1 v12 fun x13 =>
ldK 3 true x13 h fun x14 =>
effK (boxE 3 (.agg [.s (.int .i64 0), .s (.int .i64 0), .s (.int .i64 0)]) (List.length h)) h fun x15 h16 =>
effK (stE 3 x15 x14 h16) h16 fun x17 h18 =>
sliceK 3 v1 none (some v12) none fun x19 =>
ldK 3 true x15 h18 fun x20 =>
callK (T 30) [v0, x19, x20, v2] h18 fun x21 h22 =>
eqK P true 26 x21 (.s (.int .i64 0)) h22 fun x23 =>
condK x23 (
xr (.s (.slice none 0 0)) v12 x21 h22) (
faK 0 x15 fun x24 =>
ldK 1 false x24 h22 fun x25 =>
callK (T 31) [v0, x25] h22 fun x26 h27 =>
iaK 5 v0 x26 fun x28 =>
ldK 5 true x28 h27 fun x29 =>
effK (boxE 5 (.agg [.s (.int .i64 0), .s (.int .i64 0), .s (.int .i64 0), .s (.int .i64 0), .s (.int .i64 0)]) (List.length h27)) h27 fun x30 h31 =>
effK (stE 5 x30 x29 h31) h31 fun x32 h33 =>
sliceK 3 v1 none (some v12) none fun x34 =>
faK 0 x15 fun x35 =>
ldK 1 false x35 h33 fun x36 =>
callK (T 32) [x34, x36] h33 fun x37 h38 =>
ldK 5 true x30 h38 fun x39 =>
faK 2 x15 fun x40 =>
ldK 1 false x40 h38 fun x41 =>
arithK .add x37 x41 fun x42 =>
effD (callE (D 33) [x39, x42] h38 (List.length h38)) h38 fun x43 h44 e45 =>
ldK 5 true x30 h44 fun x46 =>
effD (callE (D 33) [x46, x37] h44 (List.length h44)) h44 fun x47 h48 e49 =>
arithK .sub x43 x47 fun x50 =>
effD (bsE 1 [.s (.int .i64 0)] 1 [(0, x50)] (List.length h48)) h48 fun x51 h52 e53 =>
effD (appE 1 8 v11 x51 h52 (List.length h52)) h52 fun x54 h55 e56 =>
bif disjAll [(6, 7)] [([], []), ((idsOf x30), []), ([], []), ([], []), ((idsOf x40), []), ([], []), e45, ((idsOf x30), []), ([], []), e49, ([], []), e53, e56, ([], [])] then (
arithK .add v12 (.s (.int .i64 1)) fun x57 =>
xn v0 v1 v2 x54 x57 h55) else none)) (
x0 v11 h)
def f_ref48_Refund_L2 (P : Program) (T : Tab) (D : DTab) (N : Nat) {β : Type} (x0 : AV → Hp → Option β) (xr : AV → AV → AV → Hp → Option β) : Nat → AV → AV → AV → AV → AV → Hp → Option β
  | 0 => fun _ _ _ _ _ _ => none
  | n + 1 => fun v0 v1 v2 v11 v12 h => f_ref48_Refund_b2 P T D N (f_ref48_Refund_L2 P T D N x0 xr n) x0 xr v0 v1 v2 v11 v12 h
/-- spile/spileref48.Refund -/
def f_ref48_Refund (P : Program) (T : Tab) (D : DTab) (N : Nat) {β : Type} (K : AV → Hp → Option β) (a0 : AV) (a1 : AV) (a2 : AV) (h : Hp) : Option β :=
callK (T 14) [a0] h fun x1 h2 =>
exK x1 0 fun x3 =>
exK x1 1 fun x4 =>
eqK P true 26 x4 (.s (.int .i64 0)) h2 fun x5 =>
condK x5 (
K (.tup [(.s (.slice none 0 0)), (.s (.int .i64 (-1))), (.s (.int .i64 1))]) h2) (
callK (T 28) [a2, (.s (.int .i64 0)), (.s (.int .i64 100000))] h2 fun x6 h7 =>
notK x6 fun x8 =>
condK x8 (
K (.tup [(.s (.slice none 0 0)), (.s (.int .i64 (-1))), (.s (.int .i64 2))]) h7) (
lenK a1 fun x9 =>
arithK .gtr x9 (.s (.int .i64 64)) fun x10 =>
condK x10 (
K (.tup [(.s (.slice none 0 0)), (.s (.int .i64 (-1))), (.s (.int .i64 8))]) h7) (
f_ref48_Refund_L2 P T D N (fun w58_11 h => f_ref48_Refund_j1 P T D N K w58_11 h) (fun w59_6 w59_7 w59_8 h => K (.tup [w59_6, w59_7, w59_8]) h) N a0 a1 a2 (.s (.slice none 0 0)) (.s (.int .i64 0)) h7)))
theorem f_ref48_Refund_j1_eq (P : Program) (T : Tab) (D : DTab) (N : Nat) {β : Type} (K : AV → Hp → Option β) (t : Tm) (h : Hp) : o_ref48_Refund_j1 P T D N K t h = f_ref48_Refund_j1 P T D N K (t 11) h := by kernel_rfl
theorem f_ref48_Refund_b2_eq (P : Program) (T : Tab) (D : DTab) (N : Nat) {β : Type} (xn : AV → AV → AV → AV → AV → Hp → Option β) (x0 : AV → Hp → Option β) (xr : AV → AV → AV → Hp → Option β) (xd : Nat → St → Option β) (xq : St → Option β) (t : Tm) (h : Hp) : o_ref48_Refund_L2 P T D N t h (fun (e : Ex) (s : St) => e.on (xn (s.1 0) (s.1 1) (s.1 2) (s.1 11) (s.1 12) s.2) (fun i => (bif i == 0 then x0 (s.1 11) s.2 else (xd i s))) (xr (s.1 6) (s.1 7) (s.1 8) s.2)) = f_ref48_Refund_b2 P T D N xn x0 xr (t 0) (t 1) (t 2) (t 11) (t 12) h := by kernel_rfl
theorem f_ref48_Refund_L2_eq (P : Program) (T : Tab) (D : DTab) (N : Nat) {β : Type} (A : Ex → St → Option β) (x0 : AV → Hp → Option β) (xr : AV → AV → AV → Hp → Option β) (q0 : ∀ s, A (.exit 0) s = x0 (s.1 11) s.2) (qr : ∀ s, A .ret s = xr (s.1 6) (s.1 7) (s.1 8) s.2) : ∀ (n : Nat) (s : St), iterK (fun s k => o_ref48_Refund_L2 P T D N s.1 s.2 k) n s A = f_ref48_Refund_L2 P T D N x0 xr n (s.1 0) (s.1 1) (s.1 2) (s.1 11) (s.1 12) s.2 := by
  intro n
  induction n with
  | zero => intro s; rfl
  | succ n ih =>
    intro s
    have hk : (fun (e : Ex) (s' : St) => Ex.on e (iterK (fun s k => o_ref48_Refund_L2 P T D N s.1 s.2 k) n s' A) (fun i => A (.exit i) s') (A .ret s')) = (fun (e : Ex) (s : St) => e.on ((f_ref48_Refund_L2 P T D N x0 xr n) (s.1 0) (s.1 1) (s.1 2) (s.1 11) (s.1 12) s.2) (fun i => (bif i == 0 then x0 (s.1 11) s.2 else (A (.exit i) s))) (xr (s.1 6) (s.1 7) (s.1 8) s.2)) := by
      funext e s'
      cases e with
      | normal => exact ih s'
      | ret => exact qr s'
      | exit i =>
        by_cases r0 : i = 0
        · subst r0; exact q0 s'
        simp only [Ex.on, beq_false_of_ne r0, cond_false]
    show o_ref48_Refund_L2 P T D N s.1 s.2 (fun (e : Ex) (s' : St) => Ex.on e (iterK (fun s k => o_ref48_Refund_L2 P T D N s.1 s.2 k) n s' A) (fun i => A (.exit i) s') (A .ret s')) = _
    rw [hk]
    exact f_ref48_Refund_b2_eq P T D N (f_ref48_Refund_L2 P T D N x0 xr n) x0 xr (fun i s => A (.exit i) s) (fun s => A .ret s) s.1 s.2
theorem f_ref48_Refund_old_eq (P : Program) (T : Tab) (D : DTab) (N : Nat) {β : Type} (K : AV → Hp → Option β) (a0 : AV) (a1 : AV) (a2 : AV) (h : Hp) : o_ref48_Refund P T D N K a0 a1 a2 h = f_ref48_Refund P T D N K a0 a1 a2 h := by
  have eL2 : (fun s : St => iterK (fun s k => o_ref48_Refund_L2 P T D N s.1 s.2 k) N s (o_ref48_Refund_aL2 P T D N K)) = (fun s : St => f_ref48_Refund_L2 P T D N (fun w58_11 h => f_ref48_Refund_j1 P T D N K w58_11 h) (fun w59_6 w59_7 w59_8 h => K (.tup [w59_6, w59_7, w59_8]) h) N (s.1 0) (s.1 1) (s.1 2) (s.1 11) (s.1 12) s.2) := funext fun s => f_ref48_Refund_L2_eq P T D N (o_ref48_Refund_aL2 P T D N K) (fun w58_11 h => f_ref48_Refund_j1 P T D N K w58_11 h) (fun w59_6 w59_7 w59_8 h => K (.tup [w59_6, w59_7, w59_8]) h) (fun s => rfl) (fun s => rfl) N s
  show o_ref48_Refund_G P T D N (fun s => iterK (fun s k => o_ref48_Refund_L2 P T D N s.1 s.2 k) N s (o_ref48_Refund_aL2 P T D N K)) K a0 a1 a2 h = _
  rw [eL2]
  kernel_rfl
theorem o_ref48_Refund_run (T : Tab) (D : DTab) (N : Nat) {β : Type} (K : AV → Hp → Option β) (a0 : AV) (a1 : AV) (a2 : AV) (h : Hp) : runK Try.prog T D N [0, 1, 2, 6, 7, 8, 10, 11, 12, 13, 14, 15, 16, 23, 26, 29, 33, 48] Try.f17 K [a0, a1, a2] h = o_ref48_Refund Try.prog T D N K a0 a1 a2 h := by kernel_rfl
theorem f_ref48_Refund_run (T : Tab) (D : DTab) (N : Nat) {β : Type} (K : AV → Hp → Option β) (a0 : AV) (a1 : AV) (a2 : AV) (h : Hp) : runK Try.prog T D N [0, 1, 2, 6, 7, 8, 10, 11, 12, 13, 14, 15, 16, 23, 26, 29, 33, 48] Try.f17 K [a0, a1, a2] h = f_ref48_Refund Try.prog T D N K a0 a1 a2 h := (o_ref48_Refund_run T D N K a0 a1 a2 h).trans (f_ref48_Refund_old_eq Try.prog T D N K a0 a1 a2 h)
def o_slices_Equal_int_j1 (P : Program) (T : Tab) (D : DTab) (N : Nat) {β : Type} (K : AV → Hp → Option β) (t : Tm) (h : Hp) : Option β :=
K (.s (.bool true)) h
def o_slices_Equal_int_L2 (P : Program) (T : Tab) (D : DTab) (N : Nat) {β : Type} (t : Tm) (h : Hp) (k : Ex → St → Option β) : Option β :=
arithK .lss (t 13) (t 12) fun x5 =>
condK x5 (
iaK 1 (t 0) (t 13) fun x6 =>
ldK 1 false x6 h fun x7 =>
iaK 1 (t 1) (t 13) fun x8 =>
ldK 1 false x8 h fun x9 =>
eqK P true 3 x7 x9 h fun x10 =>
condK x10 (
k .ret ((upd (upd (upd (upd t 14 x5) 5 (t 13)) 24 x10) 4 (.s (.bool false))), h)) (
arithK .add (t 13) (.s (.int .i64 1)) fun x11 =>
k .normal ((upd (upd (upd (upd t 14 x5) 5 (t 13)) 24 x10) 13 x11), h))) (
k (.exit 0) ((upd t 14 x5), h))
def o_slices_Equal_int_aL2 (P : Program) (T : Tab) (D : DTab) (N : Nat) {β : Type} (K : AV → Hp → Option β) (e : Ex) (s : St) : Option β :=
  e.on ((o_slices_Equal_int_j1 P T D N K s.1 s.2))
  (fun i => bif i == 0 then ((o_slices_Equal_int_j1 P T D N K s.1 s.2)) else (none))
  (K (s.1 4) s.2)
def o_slices_Equal_int_G (P : Program) (T : Tab) (D : DTab) (N : Nat) {β : Type} (cL2 : St → Option β) (K : AV → Hp → Option β) (a0 : AV) (a1 : AV) (h : Hp) :  Option β :=
lenK a0 fun x1 =>
lenK a1 fun x2 =>
eqK P true 3 x1 x2 h fun x3 =>
condK x3 (
K (.s (.bool false)) h) (
lenK a0 fun x4 =>
cL2 ((upd (upd (upd (upd (tm0 [a0, a1]) 4 (.s (.bool false))) 10 x3) 12 x4) 13 (.s (.int .i64 0))), h))
def o_slices_Equal_int (P : Program) (T : Tab) (D : DTab) (N : Nat) {β : Type} (K : AV → Hp → Option β) (a0 : AV) (a1 : AV) (h : Hp) : Option β := o_slices_Equal_int_G P T D N (fun s => iterK (fun s k => o_slices_Equal_int_L2 P T D N s.1 s.2 k) N s (o_slices_Equal_int_aL2 P T D N K)) K a0 a1 h
def f_slices_Equal_int_j1 (P : Program) (T : Tab) (D : DTab) (N : Nat) {β : Type} (K : AV → Hp → Option β) (h : Hp) : Option β :=
K (.s (.bool true)) h
def f_slices_Equal_int_b2 (P : Program) (T : Tab) (D : DTab) (N : Nat) {β : Type} (xn : AV → AV → AV → AV → Hp → Option β) (x0 : Hp → Option β) (xr : AV → Hp → Option β) (v0 : AV) (v1 : AV) (v12 : AV) (v13 : AV) (h : Hp) : Option β :=
arithK .lss v13 v12 fun x5 =>
condK x5 (
iaK 1 v0 v13 fun x6 =>
ldK 1 false x6 h fun x7 =>
iaK 1 v1 v13 fun x8 =>
ldK 1 false x8 h fun x9 =>
eqK P true 3 x7 x9 h fun x10 =>
condK x10 (
xr (.s (.bool false)) h) (
arithK .add v13 (.s (.int .i64 1)) fun x11 =>
xn v0 v1 v12 x11 h)) (
x0 h)
def f_slices_Equal_int_L2 (P : Program) (T : Tab) (D : DTab) (N : Nat) {β : Type} (x0 : Hp → Option β) (xr : AV → Hp → Option β) : Nat → AV → AV → AV → AV → Hp → Option β
  | 0 => fun _ _ _ _ _ => none
  | n + 1 => fun v0 v1 v12 v13 h => f_slices_Equal_int_b2 P T D N (f_slices_Equal_int_L2 P T D N x0 xr n) x0 xr v0 v1 v12 v13 h
/-- slices.Equal[[]int,int] -/
def f_slices_Equal_int (P : Program) (T : Tab) (D : DTab) (N : Nat) {β : Type} (K : AV → Hp → Option β) (a0 : AV) (a1 : AV) (h : Hp) : Option β :=
lenK a0 fun x1 =>
lenK a1 fun x2 =>
eqK P true 3 x1 x2 h fun x3 =>
condK x3 (
K (.s (.bool false)) h) (
lenK a0 fun x4 =>
f_slices_Equal_int_L2 P T D N (fun h => f_slices_Equal_int_j1 P T D N K h) (fun w13_4 h => K w13_4 h) N a0 a1 x4 (.s (.int .i64 0)) h)
theorem f_slices_Equal_int_j1_eq (P : Program) (T : Tab) (D : DTab) (N : Nat) {β : Type} (K : AV → Hp → Option β) (t : Tm) (h : Hp) : o_slices_Equal_int_j1 P T D N K t h = f_slices_Equal_int_j1 P T D N K h := by kernel_rfl
theorem f_slices_Equal_int_b2_eq (P : Program) (T : Tab) (D : DTab) (N : Nat) {β : Type} (xn : AV → AV → AV → AV → Hp → Option β) (x0 : Hp → Option β) (xr : AV → Hp → Option β) (xd : Nat → St → Option β) (xq : St → Option β) (t : Tm) (h : Hp) : o_slices_Equal_int_L2 P T D N t h (fun (e : Ex) (s : St) => e.on (xn (s.1 0) (s.1 1) (s.1 12) (s.1 13) s.2) (fun i => (bif i == 0 then x0 s.2 else (xd i s))) (xr (s.1 4) s.2)) = f_slices_Equal_int_b2 P T D N xn x0 xr (t 0) (t 1) (t 12) (t 13) h := by kernel_rfl
theorem f_slices_Equal_int_L2_eq (P : Program) (T : Tab) (D : DTab) (N : Nat) {β : Type} (A : Ex → St → Option β) (x0 : Hp → Option β) (xr : AV → Hp → Option β) (q0 : ∀ s, A (.exit 0) s = x0 s.2) (qr : ∀ s, A .ret s = xr (s.1 4) s.2) : ∀ (n : Nat) (s : St), iterK (fun s k => o_slices_Equal_int_L2 P T D N s.1 s.2 k) n s A = f_slices_Equal_int_L2 P T D N x0 xr n (s.1 0) (s.1 1) (s.1 12) (s.1 13) s.2 := by
  intro n
  induction n with
  | zero => intro s; rfl
  | succ n ih =>
    intro s
    have hk : (fun (e : Ex) (s' : St) => Ex.on e (iterK (fun s k => o_slices_Equal_int_L2 P T D N s.1 s.2 k) n s' A) (fun i => A (.exit i) s') (A .ret s')) = (fun (e : Ex) (s : St) => e.on ((f_slices_Equal_int_L2 P T D N x0 xr n) (s.1 0) (s.1 1) (s.1 12) (s.1 13) s.2) (fun i => (bif i == 0 then x0 s.2 else (A (.exit i) s))) (xr (s.1 4) s.2)) := by
      funext e s'
      cases e with
      | normal => exact ih s'
      | ret => exact qr s'
      | exit i =>
        by_cases r0 : i = 0
        · subst r0; exact q0 s'
        simp only [Ex.on, beq_false_of_ne r0, cond_false]
    show o_slices_Equal_int_L2 P T D N s.1 s.2 (fun (e : Ex) (s' : St) => Ex.on e (iterK (fun s k => o_slices_Equal_int_L2 P T D N s.1 s.2 k) n s' A) (fun i => A (.exit i) s') (A .ret s')) = _
    rw [hk]
    exact f_slices_Equal_int_b2_eq P T D N (f_slices_Equal_int_L2 P T D N x0 xr n) x0 xr (fun i s => A (.exit i) s) (fun s => A .ret s) s.1 s.2
theorem f_slices_Equal_int_old_eq (P : Program) (T : Tab) (D : DTab) (N : Nat) {β : Type} (K : AV → Hp → Option β) (a0 : AV) (a1 : AV) (h : Hp) : o_slices_Equal_int P T D N K a0 a1 h = f_slices_Equal_int P T D N K a0 a1 h := by
  have eL2 : (fun s : St => iterK (fun s k => o_slices_Equal_int_L2 P T D N s.1 s.2 k) N s (o_slices_Equal_int_aL2 P T D N K)) = (fun s : St => f_slices_Equal_int_L2 P T D N (fun h => f_slices_Equal_int_j1 P T D N K h) (fun w13_4 h => K w13_4 h) N (s.1 0) (s.1 1) (s.1 12) (s.1 13) s.2) := funext fun s => f_slices_Equal_int_L2_eq P T D N (o_slices_Equal_int_aL2 P T D N K) (fun h => f_slices_Equal_int_j1 P T D N K h) (fun w13_4 h => K w13_4 h) (fun s => rfl) (fun s => rfl) N s
  show o_slices_Equal_int_G P T D N (fun s => iterK (fun s k => o_slices_Equal_int_L2 P T D N s.1 s.2 k) N s (o_slices_Equal_int_aL2 P T D N K)) K a0 a1 h = _
  rw [eL2]
  kernel_rfl
theorem o_slices_Equal_int_run (T : Tab) (D : DTab) (N : Nat) {β : Type} (K : AV → Hp → Option β) (a0 : AV) (a1 : AV) (h : Hp) : runK Try.prog T D N [0, 1, 4, 5, 10, 12, 13, 14, 24] Try.f18 K [a0, a1] h = o_slices_Equal_int Try.prog T D N K a0 a1 h := by kernel_rfl
theorem f_slices_Equal_int_run (T : Tab) (D : DTab) (N : Nat) {β : Type} (K : AV → Hp → Option β) (a0 : AV) (a1 : AV) (h : Hp) : runK Try.prog T D N [0, 1, 4, 5, 10, 12, 13, 14, 24] Try.f18 K [a0, a1] h = f_slices_Equal_int Try.prog T D N K a0 a1 h := (o_slices_Equal_int_run T D N K a0 a1 h).trans (f_slices_Equal_int_old_eq Try.prog T D N K a0 a1 h)
/-- spile/drawback.Left -/
def f_drawback_Left (P : Program) (T : Tab) (D : DTab) (N : Nat) {β : Type} (K : AV → Hp → Option β) (a0 : AV) (a1 : AV) (a2 : AV) (a3 : AV) (h : Hp) : Option β :=
callK (T 29) [a0, a1, a2] h fun x1 h2 =>
exK x1 0 fun x3 =>
exK x1 1 fun x4 =>
exK x1 2 fun x5 =>
exK x1 3 fun x6 =>
eqK P true 26 x6 (.s (.int .i64 0)) h2 fun x7 =>
condK x7 (
K (.tup [(.s (.int .i64 0)), (.s (.int .i64 0)), x6]) h2) (
nilK x3 fun x8 =>
faK 0 x8 fun x9 =>
ldK 1 false x9 h2 fun x10 =>
lookK P 3 (.agg [.s (.int .i64 0), .s (.int .i64 0), .s (.int .i64 0), .s (.int .i64 0), .s (.int .i64 0)]) true x10 a3 h2 fun x11 =>
exK x11 0 fun x12 =>
exK x11 1 fun x13 =>
effK (boxE 5 (.agg [.s (.int .i64 0), .s (.int .i64 0), .s (.int .i64 0), .s (.int .i64 0), .s (.int .i64 0)]) (List.length h2)) h2 fun x14 h15 =>
effK (stE 5 x14 x12 h15) h15 fun x16 h17 =>
notK x13 fun x18 =>
condK x18 (
K (.tup [(.s (.int .i64 0)), (.s (.int .i64 0)), (.s (.int .i64 7))]) h17) (
nilK x3 fun x19 =>
faK 1 x19 fun x20 =>
ldK 1 false x20 h17 fun x21 =>
lookK P 3 (.s (.int .i64 0)) false x21 a3 h17 fun x22 =>
faK 3 x14 fun x23 =>
ldK 1 false x23 h17 fun x24 =>
arithK .sub x24 x22 fun x25 =>
faK 4 x14 fun x26 =>
ldK 1 false x26 h17 fun x27 =>
ldK 5 true x14 h17 fun x28 =>
effD (callE (D 34) [x28, x22] h17 (List.length h17)) h17 fun x29 h30 e31 =>
arithK .sub x27 x29 fun x32 =>
bif disjAll [(1, 8), (5, 8)] [([], []), ((idsOf x23), []), ([], []), ([], []), ([], []), ((idsOf x26), []), ((idsOf x14), []), ([], []), e31, ([], []), ([], []), ([], []), ([], [])] then (
K (.tup [x25, x32, (.s (.int .i64 0))]) h30) else none))
theorem f_drawback_Left_run (T : Tab) (D : DTab) (N : Nat) {β : Type} (K : AV → Hp → Option β) (a0 : AV) (a1 : AV) (a2 : AV) (a3 : AV) (h : Hp) : runK Try.prog T D N [0, 1, 2, 3, 8, 9, 10, 11, 14, 15, 16, 17, 28, 40] Try.f19 K [a0, a1, a2, a3] h = f_drawback_Left Try.prog T D N K a0 a1 a2 a3 h := by kernel_rfl
/-- spile/spileref48.Left -/
def f_ref48_Left (P : Program) (T : Tab) (D : DTab) (N : Nat) {β : Type} (K : AV → Hp → Option β) (a0 : AV) (a1 : AV) (a2 : AV) (a3 : AV) (h : Hp) : Option β :=
callK (T 17) [a0, a1, a2] h fun x1 h2 =>
exK x1 0 fun x3 =>
exK x1 1 fun x4 =>
exK x1 2 fun x5 =>
eqK P true 26 x5 (.s (.int .i64 0)) h2 fun x6 =>
condK x6 (
K (.tup [(.s (.int .i64 0)), (.s (.int .i64 0)), x5]) h2) (
callK (T 31) [a0, a3] h2 fun x7 h8 =>
arithK .lss x7 (.s (.int .i64 0)) fun x9 =>
condK x9 (
K (.tup [(.s (.int .i64 0)), (.s (.int .i64 0)), (.s (.int .i64 7))]) h8) (
callK (T 32) [a1, a3] h8 fun x10 h11 =>
iaK 5 a0 x7 fun x12 =>
faK 3 x12 fun x13 =>
ldK 1 false x13 h11 fun x14 =>
arithK .sub x14 x10 fun x15 =>
iaK 5 a0 x7 fun x16 =>
faK 4 x16 fun x17 =>
ldK 1 false x17 h11 fun x18 =>
iaK 5 a0 x7 fun x19 =>
ldK 5 true x19 h11 fun x20 =>
effD (callE (D 33) [x20, x10] h11 (List.length h11)) h11 fun x21 h22 e23 =>
arithK .sub x18 x21 fun x24 =>
bif disjAll [(4, 17), (11, 17)] [([], []), ([], []), ([], []), ([], []), ((idsOf x13), []), ([], []), ([], []), ([], []), ([], []), ([], []), ([], []), ((idsOf x17), []), ([], []), ([], []), ([], []), ((idsOf x19), []), ([], []), e23, ([], []), ([], []), ([], []), ([], [])] then (
K (.tup [x15, x24, (.s (.int .i64 0))]) h22) else none))
theorem f_ref48_Left_run (T : Tab) (D : DTab) (N : Nat) {β : Type} (K : AV → Hp → Option β) (a0 : AV) (a1 : AV) (a2 : AV) (a3 : AV) (h : Hp) : runK Try.prog T D N [0, 1, 2, 3, 8, 9, 10, 13, 14, 15, 25, 31] Try.f20 K [a0, a1, a2, a3] h = f_ref48_Left Try.prog T D N K a0 a1 a2 a3 h := by kernel_rfl
def o_drawback_Total_j1 (P : Program) (T : Tab) (D : DTab) (N : Nat) {β : Type} (K : AV → Hp → Option β) (t : Tm) (h : Hp) : Option β :=
K (.tup [(t 12), (t 11)]) h
def o_drawback_Total_L2 (P : Program) (T : Tab) (D : DTab) (N : Nat) {β : Type} (t : Tm) (h : Hp) (k : Ex → St → Option β) : Option β :=
arithK .lss (t 26) (t 25) fun x8 =>
condK x8 (
iaK 1 (t 24) (t 26) fun x9 =>
ldK 1 false x9 h fun x10 =>
arithK .add (t 12) x10 fun x11 =>
arithK .add (t 26) (.s (.int .i64 1)) fun x12 =>
k .normal ((upd (upd (upd (upd t 27 x8) 14 x10) 12 x11) 26 x12), h)) (
k (.exit 0) ((upd t 27 x8), h))
def o_drawback_Total_aL2 (P : Program) (T : Tab) (D : DTab) (N : Nat) {β : Type} (K : AV → Hp → Option β) (e : Ex) (s : St) : Option β :=
  e.on ((o_drawback_Total_j1 P T D N K s.1 s.2))
  (fun i => bif i == 0 then ((o_drawback_Total_j1 P T D N K s.1 s.2)) else (none))
  (K (.tup [(s.1 6), (s.1 7)]) s.2)
def o_drawback_Total_G (P : Program) (T : Tab) (D : DTab) (N : Nat) {β : Type} (cL2 : St → Option β) (K : AV → Hp → Option β) (a0 : AV) (a1 : AV) (a2 : AV) (h : Hp) :  Option β :=
callK (T 29) [a0, a1, a2] h fun x1 h2 =>
exK x1 0 fun x3 =>
exK x1 1 fun x4 =>
exK x1 2 fun x5 =>
exK x1 3 fun x6 =>
lenK x4 fun x7 =>
cL2 ((upd (upd (upd (upd (upd (upd (upd (upd (tm0 [a0, a1, a2]) 6 (.s (.int .i64 0))) 7 (.s (.int .i64 0))) 9 x4) 11 x6) 12 (.s (.int .i64 0))) 24 x4) 25 x7) 26 (.s (.int .i64 0))), h2)
def o_drawback_Total (P : Program) (T : Tab) (D : DTab) (N : Nat) {β : Type} (K : AV → Hp → Option β) (a0 : AV) (a1 : AV) (a2 : AV) (h : Hp) : Option β := o_drawback_Total_G P T D N (fun s => iterK (fun s k => o_drawback_Total_L2 P T D N s.1 s.2 k) N s (o_drawback_Total_aL2 P T D N K)) K a0 a1 a2 h
def f_drawback_Total_j1 (P : Program) (T : Tab) (D : DTab) (N : Nat) {β : Type} (K : AV → Hp → Option β) (v11 : AV) (v12 : AV) (h : Hp) : Option β :=
K (.tup [v12, v11]) h
def f_drawback_Total_b2 (P : Program) (T : Tab) (D : DTab) (N : Nat) {β : Type} (xn : AV → AV → AV → AV → AV → Hp → Option β) (x0 : AV → AV → Hp → Option β) (v11 : AV) (v12 : AV) (v24 : AV) (v25 : AV) (v26 : AV) (h : Hp) : Option β :=
arithK .lss v26 v25 fun x8 =>
condK x8 (
iaK 1 v24 v26 fun x9 =>
ldK 1 false x9 h fun x10 =>
arithK .add v12 x10 fun x11 =>
arithK .add v26 (.s (.int .i64 1)) fun x12 =>
xn v11 x11 v24 v25 x12 h) (
x0 v11 v12 h)
def f_drawback_Total_L2 (P : Program) (T : Tab) (D : DTab) (N : Nat) {β : Type} (x0 : AV → AV → Hp → Option β) : Nat → AV → AV → AV → AV → AV → Hp → Option β
  | 0 => fun _ _ _ _ _ _ => none
  | n + 1 => fun v11 v12 v24 v25 v26 h => f_drawback_Total_b2 P T D N (f_drawback_Total_L2 P T D N x0 n) x0 v11 v12 v24 v25 v26 h
/-- spile/drawback.Total -/
def f_drawback_Total (P : Program) (T : Tab) (D : DTab) (N : Nat) {β : Type} (K : AV → Hp → Option β) (a0 : AV) (a1 : AV) (a2 : AV) (h : Hp) : Option β :=
callK (T 29) [a0, a1, a2] h fun x1 h2 =>
exK x1 0 fun x3 =>
exK x1 1 fun x4 =>
exK x1 2 fun x5 =>
exK x1 3 fun x6 =>
lenK x4 fun x7 =>
f_drawback_Total_L2 P T D N (fun w13_11 w13_12 h => f_drawback_Total_j1 P T D N K w13_11 w13_12 h) N x6 (.s (.int .i64 0)) x4 x7 (.s (.int .i64 0)) h2
theorem f_drawback_Total_j1_eq (P : Program) (T : Tab) (D : DTab) (N : Nat) {β : Type} (K : AV → Hp → Option β) (t : Tm) (h : Hp) : o_drawback_Total_j1 P T D N K t h = f_drawback_Total_j1 P T D N K (t 11) (t 12) h := by kernel_rfl
theorem f_drawback_Total_b2_eq (P : Program) (T : Tab) (D : DTab) (N : Nat) {β : Type} (xn : AV → AV → AV → AV → AV → Hp → Option β) (x0 : AV → AV → Hp → Option β) (xd : Nat → St → Option β) (xq : St → Option β) (t : Tm) (h : Hp) : o_drawback_Total_L2 P T D N t h (fun (e : Ex) (s : St) => e.on (xn (s.1 11) (s.1 12) (s.1 24) (s.1 25) (s.1 26) s.2) (fun i => (bif i == 0 then x0 (s.1 11) (s.1 12) s.2 else (xd i s))) (xq s)) = f_drawback_Total_b2 P T D N xn x0 (t 11) (t 12) (t 24) (t 25) (t 26) h := by kernel_rfl
theorem f_drawback_Total_L2_eq (P : Program) (T : Tab) (D : DTab) (N : Nat) {β : Type} (A : Ex → St → Option β) (x0 : AV → AV → Hp → Option β) (q0 : ∀ s, A (.exit 0) s = x0 (s.1 11) (s.1 12) s.2) : ∀ (n : Nat) (s : St), iterK (fun s k => o_drawback_Total_L2 P T D N s.1 s.2 k) n s A = f_drawback_Total_L2 P T D N x0 n (s.1 11) (s.1 12) (s.1 24) (s.1 25) (s.1 26) s.2 := by
  intro n
  induction n with
  | zero => intro s; rfl
  | succ n ih =>
    intro s
    have hk : (fun (e : Ex) (s' : St) => Ex.on e (iterK (fun s k => o_drawback_Total_L2 P T D N s.1 s.2 k) n s' A) (fun i => A (.exit i) s') (A .ret s')) = (fun (e : Ex) (s : St) => e.on ((f_drawback_Total_L2 P T D N x0 n) (s.1 11) (s.1 12) (s.1 24) (s.1 25) (s.1 26) s.2) (fun i => (bif i == 0 then x0 (s.1 11) (s.1 12) s.2 else (A (.exit i) s))) (A .ret s)) := by
      funext e s'
      cases e with
      | normal => exact ih s'
      | ret => exact rfl
      | exit i =>
        by_cases r0 : i = 0
        · subst r0; exact q0 s'
        simp only [Ex.on, beq_false_of_ne r0, cond_false]
    show o_drawback_Total_L2 P T D N s.1 s.2 (fun (e : Ex) (s' : St) => Ex.on e (iterK (fun s k => o_drawback_Total_L2 P T D N s.1 s.2 k) n s' A) (fun i => A (.exit i) s') (A .ret s')) = _
    rw [hk]
    exact f_drawback_Total_b2_eq P T D N (f_drawback_Total_L2 P T D N x0 n) x0 (fun i s => A (.exit i) s) (fun s => A .ret s) s.1 s.2
theorem f_drawback_Total_old_eq (P : Program) (T : Tab) (D : DTab) (N : Nat) {β : Type} (K : AV → Hp → Option β) (a0 : AV) (a1 : AV) (a2 : AV) (h : Hp) : o_drawback_Total P T D N K a0 a1 a2 h = f_drawback_Total P T D N K a0 a1 a2 h := by
  have eL2 : (fun s : St => iterK (fun s k => o_drawback_Total_L2 P T D N s.1 s.2 k) N s (o_drawback_Total_aL2 P T D N K)) = (fun s : St => f_drawback_Total_L2 P T D N (fun w13_11 w13_12 h => f_drawback_Total_j1 P T D N K w13_11 w13_12 h) N (s.1 11) (s.1 12) (s.1 24) (s.1 25) (s.1 26) s.2) := funext fun s => f_drawback_Total_L2_eq P T D N (o_drawback_Total_aL2 P T D N K) (fun w13_11 w13_12 h => f_drawback_Total_j1 P T D N K w13_11 w13_12 h) (fun s => rfl) N s
  show o_drawback_Total_G P T D N (fun s => iterK (fun s k => o_drawback_Total_L2 P T D N s.1 s.2 k) N s (o_drawback_Total_aL2 P T D N K)) K a0 a1 a2 h = _
  rw [eL2]
  kernel_rfl
theorem o_drawback_Total_run (T : Tab) (D : DTab) (N : Nat) {β : Type} (K : AV → Hp → Option β) (a0 : AV) (a1 : AV) (a2 : AV) (h : Hp) : runK Try.prog T D N [0, 1, 2, 6, 7, 9, 11, 12, 14, 24, 25, 26, 27] Try.f21 K [a0, a1, a2] h = o_drawback_Total Try.prog T D N K a0 a1 a2 h := by kernel_rfl
theorem f_drawback_Total_run (T : Tab) (D : DTab) (N : Nat) {β : Type} (K : AV → Hp → Option β) (a0 : AV) (a1 : AV) (a2 : AV) (h : Hp) : runK Try.prog T D N [0, 1, 2, 6, 7, 9, 11, 12, 14, 24, 25, 26, 27] Try.f21 K [a0, a1, a2] h = f_drawback_Total Try.prog T D N K a0 a1 a2 h := (o_drawback_Total_run T D N K a0 a1 a2 h).trans (f_drawback_Total_old_eq Try.prog T D N K a0 a1 a2 h)
def o_ref48_Total_j1 (P : Program) (T : Tab) (D : DTab) (N : Nat) {β : Type} (K : AV → Hp → Option β) (t : Tm) (h : Hp) : Option β :=
K (.tup [(t 11), (.s (.int .i64 0))]) h
def o_ref48_Total_L2 (P : Program) (T : Tab) (D : DTab) (N : Nat) {β : Type} (t : Tm) (h : Hp) (k : Ex → St → Option β) : Option β :=
lenK (t 8) fun x7 =>
arithK .lss (t 12) x7 fun x8 =>
condK x8 (
iaK 1 (t 8) (t 12) fun x9 =>
ldK 1 false x9 h fun x10 =>
arithK .add (t 11) x10 fun x11 =>
arithK .add (t 12) (.s (.int .i64 1)) fun x12 =>
k .normal ((upd (upd (upd t 27 x8) 11 x11) 12 x12), h)) (
k (.exit 0) ((upd t 27 x8), h))
def o_ref48_Total_aL2 (P : Program) (T : Tab) (D : DTab) (N : Nat) {β : Type} (K : AV → Hp → Option β) (e : Ex) (s : St) : Option β :=
  e.on ((o_ref48_Total_j1 P T D N K s.1 s.2))
  (fun i => bif i == 0 then ((o_ref48_Total_j1 P T D N K s.1 s.2)) else (none))
  (K (.tup [(s.1 6), (s.1 7)]) s.2)
def o_ref48_Total_G (P : Program) (T : Tab) (D : DTab) (N : Nat) {β : Type} (cL2 : St → Option β) (K : AV → Hp → Option β) (a0 : AV) (a1 : AV) (a2 : AV) (h : Hp) :  Option β :=
callK (T 17) [a0, a1, a2] h fun x1 h2 =>
exK x1 0 fun x3 =>
exK x1 1 fun x4 =>
exK x1 2 fun x5 =>
eqK P true 26 x5 (.s (.int .i64 0)) h2 fun x6 =>
condK x6 (
K (.tup [(.s (.int .i64 0)), x5]) h2) (
cL2 ((upd (upd (upd (upd (upd (upd (upd (tm0 [a0, a1, a2]) 6 (.s (.int .i64 0))) 7 (.s (.int .i64 0))) 8 x3) 10 x5) 22 x6) 11 (.s (.int .i64 0))) 12 (.s (.int .i64 0))), h2))
def o_ref48_Total (P : Program) (T : Tab) (D : DTab) (N : Nat) {β : Type} (K : AV → Hp → Option β) (a0 : AV) (a1 : AV) (a2 : AV) (h : Hp) : Option β := o_ref48_Total_G P T D N (fun s => iterK (fun s k => o_ref48_Total_L2 P T D N s.1 s.2 k) N s (o_ref48_Total_aL2 P T D N K)) K a0 a1 a2 h
def f_ref48_Total_j1 (P : Program) (T : Tab) (D : DTab) (N : Nat) {β : Type} (K : AV → Hp → Option β) (v11 : AV) (h : Hp) : Option β :=
K (.tup [v11, (.s (.int .i64 0))]) h
def f_ref48_Total_b2 (P : Program) (T : Tab) (D : DTab) (N : Nat) {β : Type} (xn : AV → AV → AV → Hp → Option β) (x0 : AV → Hp → Option β) (v8 : AV) (v11 : AV) (v12 : AV) (h : Hp) : Option β :=
lenK v8 fun x7 =>
arithK .lss v12 x7 fun x8 =>
condK x8 (
iaK 1 v8 v12 fun x9 =>
ldK 1 false x9 h fun x10 =>
arithK .add v11 x10 fun x11 =>
arithK .add v12 (.s (.int .i64 1)) fun x12 =>
xn v8 x11 x12 h) (
x0 v11 h)
def f_ref48_Total_L2 (P : Program) (T : Tab) (D : DTab) (N : Nat) {β : Type} (x0 : AV → Hp → Option β) : Nat → AV → AV → AV → Hp → Option β
  | 0 => fun _ _ _ _ => none
  | n + 1 => fun v8 v11 v12 h => f_ref48_Total_b2 P T D N (f_ref48_Total_L2 P T D N x0 n) x0 v8 v11 v12 h
/-- spile/spileref48.Total -/
def f_ref48_Total (P : Program) (T : Tab) (D : DTab) (N : Nat) {β : Type} (K : AV → Hp → Option β) (a0 : AV) (a1 : AV) (a2 : AV) (h : Hp) : Option β :=
callK (T 17) [a0, a1, a2] h fun x1 h2 =>
exK x1 0 fun x3 =>
exK x1 1 fun x4 =>
exK x1 2 fun x5 =>
eqK P true 26 x5 (.s (.int .i64 0)) h2 fun x6 =>
condK x6 (
K (.tup [(.s (.int .i64 0)), x5]) h2) (
f_ref48_Total_L2 P T D N (fun w13_11 h => f_ref48_Total_j1 P T D N K w13_11 h) N x3 (.s (.int .i64 0)) (.s (.int .i64 0)) h2)
theorem f_ref48_Total_j1_eq (P : Program) (T : Tab) (D : DTab) (N : Nat) {β : Type} (K : AV → Hp → Option β) (t : Tm) (h : Hp) : o_ref48_Total_j1 P T D N K t h = f_ref48_Total_j1 P T D N K (t 11) h := by kernel_rfl
theorem f_ref48_Total_b2_eq (P : Program) (T : Tab) (D : DTab) (N : Nat) {β : Type} (xn : AV → AV → AV → Hp → Option β) (x0 : AV → Hp → Option β) (xd : Nat → St → Option β) (xq : St → Option β) (t : Tm) (h : Hp) : o_ref48_Total_L2 P T D N t h (fun (e : Ex) (s : St) => e.on (xn (s.1 8) (s.1 11) (s.1 12) s.2) (fun i => (bif i == 0 then x0 (s.1 11) s.2 else (xd i s))) (xq s)) = f_ref48_Total_b2 P T D N xn x0 (t 8) (t 11) (t 12) h := by kernel_rfl
theorem f_ref48_Total_L2_eq (P : Program) (T : Tab) (D : DTab) (N : Nat) {β : Type} (A : Ex → St → Option β) (x0 : AV → Hp → Option β) (q0 : ∀ s, A (.exit 0) s = x0 (s.1 11) s.2) : ∀ (n : Nat) (s : St), iterK (fun s k => o_ref48_Total_L2 P T D N s.1 s.2 k) n s A = f_ref48_Total_L2 P T D N x0 n (s.1 8) (s.1 11) (s.1 12) s.2 := by
  intro n
  induction n with
  | zero => intro s; rfl
  | succ n ih =>
    intro s
    have hk : (fun (e : Ex) (s' : St) => Ex.on e (iterK (fun s k => o_ref48_Total_L2 P T D N s.1 s.2 k) n s' A) (fun i => A (.exit i) s') (A .ret s')) = (fun (e : Ex) (s : St) => e.on ((f_ref48_Total_L2 P T D N x0 n) (s.1 8) (s.1 11) (s.1 12) s.2) (fun i => (bif i == 0 then x0 (s.1 11) s.2 else (A (.exit i) s))) (A .ret s)) := by
      funext e s'
      cases e with
      | normal => exact ih s'
      | ret => exact rfl
      | exit i =>
        by_cases r0 : i = 0
        · subst r0; exact q0 s'
        simp only [Ex.on, beq_false_of_ne r0, cond_false]
    show o_ref48_Total_L2 P T D N s.1 s.2 (fun (e : Ex) (s' : St) => Ex.on e (iterK (fun s k => o_ref48_Total_L2 P T D N s.1 s.2 k) n s' A) (fun i => A (.exit i) s') (A .ret s')) = _
    rw [hk]
    exact f_ref48_Total_b2_eq P T D N (f_ref48_Total_L2 P T D N x0 n) x0 (fun i s => A (.exit i) s) (fun s => A .ret s) s.1 s.2
theorem f_ref48_Total_old_eq (P : Program) (T : Tab) (D : DTab) (N : Nat) {β : Type} (K : AV → Hp → Option β) (a0 : AV) (a1 : AV) (a2 : AV) (h : Hp) : o_ref48_Total P T D N K a0 a1 a2 h = f_ref48_Total P T D N K a0 a1 a2 h := by
  have eL2 : (fun s : St => iterK (fun s k => o_ref48_Total_L2 P T D N s.1 s.2 k) N s (o_ref48_Total_aL2 P T D N K)) = (fun s : St => f_ref48_Total_L2 P T D N (fun w13_11 h => f_ref48_Total_j1 P T D N K w13_11 h) N (s.1 8) (s.1 11) (s.1 12) s.2) := funext fun s => f_ref48_Total_L2_eq P T D N (o_ref48_Total_aL2 P T D N K) (fun w13_11 h => f_ref48_Total_j1 P T D N K w13_11 h) (fun s => rfl) N s
  show o_ref48_Total_G P T D N (fun s => iterK (fun s k => o_ref48_Total_L2 P T D N s.1 s.2 k) N s (o_ref48_Total_aL2 P T D N K)) K a0 a1 a2 h = _
  rw [eL2]
  kernel_rfl
theorem o_ref48_Total_run (T : Tab) (D : DTab) (N : Nat) {β : Type} (K : AV → Hp → Option β) (a0 : AV) (a1 : AV) (a2 : AV) (h : Hp) : runK Try.prog T D N [0, 1, 2, 6, 7, 8, 10, 11, 12, 22, 27] Try.f22 K [a0, a1, a2] h = o_ref48_Total Try.prog T D N K a0 a1 a2 h := by kernel_rfl
theorem f_ref48_Total_run (T : Tab) (D : DTab) (N : Nat) {β : Type} (K : AV → Hp → Option β) (a0 : AV) (a1 : AV) (a2 : AV) (h : Hp) : runK Try.prog T D N [0, 1, 2, 6, 7, 8, 10, 11, 12, 22, 27] Try.f22 K [a0, a1, a2] h = f_ref48_Total Try.prog T D N K a0 a1 a2 h := (o_ref48_Total_run T D N K a0 a1 a2 h).trans (f_ref48_Total_old_eq Try.prog T D N K a0 a1 a2 h)
def o_drawback_Overdue_j1 (P : Program) (T : Tab) (D : DTab) (N : Nat) {β : Type} (K : AV → Hp → Option β) (t : Tm) (h : Hp) : Option β :=
K (.tup [(t 14), (.s (.int .i64 0))]) h
def o_drawback_Overdue_j3 (P : Program) (T : Tab) (D : DTab) (N : Nat) {β : Type} (k : Ex → St → Option β) (t : Tm) (h : Hp) : Option β :=
arithK .add (t 36) (.s (.int .i64 1)) fun x13 =>
k .normal ((upd t 36 x13), h)
def o_drawback_Overdue_j4 (P : Program) (T : Tab) (D : DTab) (N : Nat) {β : Type} (k : Ex → St → Option β) (t : Tm) (h : Hp) : Option β :=
(o_drawback_Overdue_j3 P T D N k t h)
def o_drawback_Overdue_L2 (P : Program) (T : Tab) (D : DTab) (N : Nat) {β : Type} (t : Tm) (h : Hp) (k : Ex → St → Option β) : Option β :=
arithK .lss (t 36) (t 35) fun x12 =>
condK x12 (
iaK 5 (t 34) (t 36) fun x14 =>
ldK 5 true x14 h fun x15 =>
effK (boxE 5 (.agg [.s (.int .i64 0), .s (.int .i64 0), .s (.int .i64 0), .s (.int .i64 0), .s (.int .i64 0)]) (List.length h)) h fun x16 h17 =>
effK (stE 5 x16 x15 h17) h17 fun x18 h19 =>
nilK (t 10) fun x20 =>
faK 1 x20 fun x21 =>
ldK 1 false x21 h19 fun x22 =>
faK 0 x16 fun x23 =>
ldK 1 false x23 h19 fun x24 =>
lookK P 3 (.s (.int .i64 0)) false x22 x24 h19 fun x25 =>
faK 3 x16 fun x26 =>
ldK 1 false x26 h19 fun x27 =>
arithK .lss x25 x27 fun x28 =>
grpK true x28 h19 (fun k29 =>
faK 2 x16 fun x30 =>
ldK 1 false x30 h19 fun x31 =>
arithK .sub (t 3) x31 fun x32 =>
arithK .gtr x32 (t 2) fun x33 =>
k29 x33 h19) fun x34 h35 =>
condK x34 (
faK 0 x16 fun x36 =>
ldK 1 false x36 h35 fun x37 =>
effK (bsE 1 [.s (.int .i64 0)] 1 [(0, x37)] (List.length h35)) h35 fun x38 h39 =>
effK (appE 1 8 (t 14) x38 h39 (List.length h39)) h39 fun x40 h41 =>
(o_drawback_Overdue_j4 P T D N k (upd (upd (upd (upd t 37 x12) 16 x16) 57 x34) 14 x40) h41)) (
(o_drawback_Overdue_j4 P T D N k (upd (upd (upd t 37 x12) 16 x16) 57 x34) h35))) (
k (.exit 1) ((upd t 37 x12), h))
def o_drawback_Overdue_aL2 (P : Program) (T : Tab) (D : DTab) (N : Nat) {β : Type} (K : AV → Hp → Option β) (e : Ex) (s : St) : Option β :=
  e.on ((o_drawback_Overdue_j1 P T D N K s.1 s.2))
  (fun i => bif i == 1 then ((o_drawback_Overdue_j1 P T D N K s.1 s.2)) else (none))
  (K (.tup [(s.1 8), (s.1 9)]) s.2)
def o_drawback_Overdue_G (P : Program) (T : Tab) (D : DTab) (N : Nat) {β : Type} (cL2 : St → Option β) (K : AV → Hp → Option β) (a0 : AV) (a1 : AV) (a2 : AV) (a3 : AV) (h : Hp) :  Option β :=
callK (T 29) [a0, a1, a2] h fun x1 h2 =>
exK x1 0 fun x3 =>
exK x1 1 fun x4 =>
exK x1 2 fun x5 =>
exK x1 3 fun x6 =>
eqK P true 26 x6 (.s (.int .i64 0)) h2 fun x7 =>
condK x7 (
K (.tup [(.s (.slice none 0 0)), x6]) h2) (
callK (T 27) [a3, (.s (.int .i64 0)), (.s (.int .i64 100000))] h2 fun x8 h9 =>
notK x8 fun x10 =>
condK x10 (
K (.tup [(.s (.slice none 0 0)), (.s (.int .i64 2))]) h9) (
lenK a0 fun x11 =>
cL2 ((upd (upd (upd (upd (upd (upd (upd (upd (upd (upd (tm0 [a0, a1, a2, a3]) 8 (.s (.slice none 0 0))) 9 (.s (.int .i64 0))) 10 x3) 13 x6) 26 x7) 30 x10) 14 (.s (.slice none 0 0))) 34 a0) 35 x11) 36 (.s (.int .i64 0))), h9)))
def o_drawback_Overdue (P : Program) (T : Tab) (D : DTab) (N : Nat) {β : Type} (K : AV → Hp → Option β) (a0 : AV) (a1 : AV) (a2 : AV) (a3 : AV) (h : Hp) : Option β := o_drawback_Overdue_G P T D N (fun s => iterK (fun s k => o_drawback_Overdue_L2 P T D N s.1 s.2 k) N s (o_drawback_Overdue_aL2 P T D N K)) K a0 a1 a2 a3 h
def f_drawback_Overdue_j1 (P : Program) (T : Tab) (D : DTab) (N : Nat) {β : Type} (K : AV → Hp → Option β) (v14 : AV) (h : Hp) : Option β :=
K (.tup [v14, (.s (.int .i64 0))]) h
def f_drawback_Overdue_j3 (P : Program) (T : Tab) (D : DTab) (N : Nat) {β : Type} (xn : AV → AV → AV → AV → AV → AV → AV → Hp → Option β) (x1 : AV → Hp → Option β) (v2 : AV) (v3 : AV) (v10 : AV) (v14 : AV) (v34 : AV) (v35 : AV) (v36 : AV) (h : Hp) : Option β :=
arithK .add v36 (.s (.int .i64 1)) fun x13 =>
xn v2 v3 v10 v14 v34 v35 x13 h
def f_drawback_Overdue_j4 (P : Program) (T : Tab) (D : DTab) (N : Nat) {β : Type} (xn : AV → AV → AV → AV → AV → AV → AV → Hp → Option β) (x1 : AV → Hp → Option β) (v2 : AV) (v3 : AV) (v10 : AV) (v14 : AV) (v34 : AV) (v35 : AV) (v36 : AV) (h : Hp) : Option β :=
f_drawback_Overdue_j3 P T D N xn x1 v2 v3 v10 v14 v34 v35 v36 h
def f_drawback_Overdue_b2 (P : Program) (T : Tab) (D : DTab) (N : Nat) {β : Type} (xn : AV → AV → AV → AV → AV → AV → AV → Hp → Option β) (x1 : AV → Hp → Option β) (v2 : AV) (v3 : AV) (v10 : AV) (v14 : AV) (v34 : AV) (v35 : AV) (v36 : AV) (h : Hp) : Option β :=
arithK .lss v36 v35 fun x12 =>
condK x12 (
iaK 5 v34 v36 fun x14 =>
ldK 5 true x14 h fun x15 =>
effK (boxE 5 (.agg [.s (.int .i64 0), .s (.int .i64 0), .s (.int .i64 0), .s (.int .i64 0), .s (.int .i64 0)]) (List.length h)) h fun x16 h17 =>
effK (stE 5 x16 x15 h17) h17 fun x18 h19 =>
nilK v10 fun x20 =>
faK 1 x20 fun x21 =>
ldK 1 false x21 h19 fun x22 =>
faK 0 x16 fun x23 =>
ldK 1 false x23 h19 fun x24 =>
lookK P 3 (.s (.int .i64 0)) false x22 x24 h19 fun x25 =>
faK 3 x16 fun x26 =>
ldK 1 false x26 h19 fun x27 =>
arithK .lss x25 x27 fun x28 =>
grpK true x28 h19 (fun k29 =>
faK 2 x16 fun x30 =>
ldK 1 false x30 h19 fun x31 =>
arithK .sub v3 x31 fun x32 =>
arithK .gtr x32 v2 fun x33 =>
k29 x33 h19) fun x34 h35 =>
condK x34 (
faK 0 x16 fun x36 =>
ldK 1 false x36 h35 fun x37 =>
effK (bsE 1 [.s (.int .i64 0)] 1 [(0, x37)] (List.length h35)) h35 fun x38 h39 =>
effK (appE 1 8 v14 x38 h39 (List.length h39)) h39 fun x40 h41 =>
f_drawback_Overdue_j4 P T D N xn x1 v2 v3 v10 x40 v34 v35 v36 h41) (
f_drawback_Overdue_j4 P T D N xn x1 v2 v3 v10 v14 v34 v35 v36 h35)) (
x1 v14 h)
def f_drawback_Overdue_L2 (P : Program) (T : Tab) (D : DTab) (N : Nat) {β : Type} (x1 : AV → Hp → Option β) : Nat → AV → AV → AV → AV → AV → AV → AV → Hp → Option β
  | 0 => fun _ _ _ _ _ _ _ _ => none
  | n + 1 => fun v2 v3 v10 v14 v34 v35 v36 h => f_drawback_Overdue_b2 P T D N (f_drawback_Overdue_L2 P T D N x1 n) x1 v2 v3 v10 v14 v34 v35 v36 h
/-- spile/drawback.Overdue -/
def f_drawback_Overdue (P : Program) (T : Tab) (D : DTab) (N : Nat) {β : Type} (K : AV → Hp → Option β) (a0 : AV) (a1 : AV) (a2 : AV) (a3 : AV) (h : Hp) : Option β :=
callK (T 29) [a0, a1, a2] h fun x1 h2 =>
exK x1 0 fun x3 =>
exK x1 1 fun x4 =>
exK x1 2 fun x5 =>
exK x1 3 fun x6 =>
eqK P true 26 x6 (.s (.int .i64 0)) h2 fun x7 =>
condK x7 (
K (.tup [(.s (.slice none 0 0)), x6]) h2) (
callK (T 27) [a3, (.s (.int .i64 0)), (.s (.int .i64 100000))] h2 fun x8 h9 =>
notK x8 fun x10 =>
condK x10 (
K (.tup [(.s (.slice none 0 0)), (.s (.int .i64 2))]) h9) (
lenK a0 fun x11 =>
f_drawback_Overdue_L2 P T D N (fun w42_14 h => f_drawback_Overdue_j1 P T D N K w42_14 h) N a2 a3 x3 (.s (.slice none 0 0)) a0 x11 (.s (.int .i64 0)) h9))
theorem f_drawback_Overdue_j1_eq (P : Program) (T : Tab) (D : DTab) (N : Nat) {β : Type} (K : AV → Hp → Option β) (t : Tm) (h : Hp) : o_drawback_Overdue_j1 P T D N K t h = f_drawback_Overdue_j1 P T D N K (t 14) h := by kernel_rfl
theorem f_drawback_Overdue_j3_eq (P : Program) (T : Tab) (D : DTab) (N : Nat) {β : Type} (xn : AV → AV → AV → AV → AV → AV → AV → Hp → Option β) (x1 : AV → Hp → Option β) (xd : Nat → St → Option β) (xq : St → Option β) (t : Tm) (h : Hp) : o_drawback_Overdue_j3 P T D N (fun (e : Ex) (s : St) => e.on (xn (s.1 2) (s.1 3) (s.1 10) (s.1 14) (s.1 34) (s.1 35) (s.1 36) s.2) (fun i => (bif i == 1 then x1 (s.1 14) s.2 else (xd i s))) (xq s)) t h = f_drawback_Overdue_j3 P T D N xn x1 (t 2) (t 3) (t 10) (t 14) (t 34) (t 35) (t 36) h := by kernel_rfl
theorem f_drawback_Overdue_j4_eq (P : Program) (T : Tab) (D : DTab) (N : Nat) {β : Type} (xn : AV → AV → AV → AV → AV → AV → AV → Hp → Option β) (x1 : AV → Hp → Option β) (xd : Nat → St → Option β) (xq : St → Option β) (t : Tm) (h : Hp) : o_drawback_Overdue_j4 P T D N (fun (e : Ex) (s : St) => e.on (xn (s.1 2) (s.1 3) (s.1 10) (s.1 14) (s.1 34) (s.1 35) (s.1 36) s.2) (fun i => (bif i == 1 then x1 (s.1 14) s.2 else (xd i s))) (xq s)) t h = f_drawback_Overdue_j4 P T D N xn x1 (t 2) (t 3) (t 10) (t 14) (t 34) (t 35) (t 36) h := by kernel_rfl
theorem f_drawback_Overdue_b2_eq (P : Program) (T : Tab) (D : DTab) (N : Nat) {β : Type} (xn : AV → AV → AV → AV → AV → AV → AV → Hp → Option β) (x1 : AV → Hp → Option β) (xd : Nat → St → Option β) (xq : St → Option β) (t : Tm) (h : Hp) : o_drawback_Overdue_L2 P T D N t h (fun (e : Ex) (s : St) => e.on (xn (s.1 2) (s.1 3) (s.1 10) (s.1 14) (s.1 34) (s.1 35) (s.1 36) s.2) (fun i => (bif i == 1 then x1 (s.1 14) s.2 else (xd i s))) (xq s)) = f_drawback_Overdue_b2 P T D N xn x1 (t 2) (t 3) (t 10) (t 14) (t 34) (t 35) (t 36) h := by kernel_rfl
theorem f_drawback_Overdue_L2_eq (P : Program) (T : Tab) (D : DTab) (N : Nat) {β : Type} (A : Ex → St → Option β) (x1 : AV → Hp → Option β) (q1 : ∀ s, A (.exit 1) s = x1 (s.1 14) s.2) : ∀ (n : Nat) (s : St), iterK (fun s k => o_drawback_Overdue_L2 P T D N s.1 s.2 k) n s A = f_drawback_Overdue_L2 P T D N x1 n (s.1 2) (s.1 3) (s.1 10) (s.1 14) (s.1 34) (s.1 35) (s.1 36) s.2 := by
  intro n
  induction n with
  | zero => intro s; rfl
  | succ n ih =>
    intro s
    have hk : (fun (e : Ex) (s' : St) => Ex.on e (iterK (fun s k => o_drawback_Overdue_L2 P T D N s.1 s.2 k) n s' A) (fun i => A (.exit i) s') (A .ret s')) = (fun (e : Ex) (s : St) => e.on ((f_drawback_Overdue_L2 P T D N x1 n) (s.1 2) (s.1 3) (s.1 10) (s.1 14) (s.1 34) (s.1 35) (s.1 36) s.2) (fun i => (bif i == 1 then x1 (s.1 14) s.2 else (A (.exit i) s))) (A .ret s)) := by
      funext e s'
      cases e with
      | normal => exact ih s'
      | ret => exact rfl
      | exit i =>
        by_cases r1 : i = 1
        · subst r1; exact q1 s'
        simp only [Ex.on, beq_false_of_ne r1, cond_false]
    show o_drawback_Overdue_L2 P T D N s.1 s.2 (fun (e : Ex) (s' : St) => Ex.on e (iterK (fun s k => o_drawback_Overdue_L2 P T D N s.1 s.2 k) n s' A) (fun i => A (.exit i) s') (A .ret s')) = _
    rw [hk]
    exact f_drawback_Overdue_b2_eq P T D N (f_drawback_Overdue_L2 P T D N x1 n) x1 (fun i s => A (.exit i) s) (fun s => A .ret s) s.1 s.2
theorem f_drawback_Overdue_old_eq (P : Program) (T : Tab) (D : DTab) (N : Nat) {β : Type} (K : AV → Hp → Option β) (a0 : AV) (a1 : AV) (a2 : AV) (a3 : AV) (h : Hp) : o_drawback_Overdue P T D N K a0 a1 a2 a3 h = f_drawback_Overdue P T D N K a0 a1 a2 a3 h := by
  have eL2 : (fun s : St => iterK (fun s k => o_drawback_Overdue_L2 P T D N s.1 s.2 k) N s (o_drawback_Overdue_aL2 P T D N K)) = (fun s : St => f_drawback_Overdue_L2 P T D N (fun w42_14 h => f_drawback_Overdue_j1 P T D N K w42_14 h) N (s.1 2) (s.1 3) (s.1 10) (s.1 14) (s.1 34) (s.1 35) (s.1 36) s.2) := funext fun s => f_drawback_Overdue_L2_eq P T D N (o_drawback_Overdue_aL2 P T D N K) (fun w42_14 h => f_drawback_Overdue_j1 P T D N K w42_14 h) (fun s => rfl) N s
  show o_drawback_Overdue_G P T D N (fun s => iterK (fun s k => o_drawback_Overdue_L2 P T D N s.1 s.2 k) N s (o_drawback_Overdue_aL2 P T D N K)) K a0 a1 a2 a3 h = _
  rw [eL2]
  kernel_rfl
theorem o_drawback_Overdue_run (T : Tab) (D : DTab) (N : Nat) {β : Type} (K : AV → Hp → Option β) (a0 : AV) (a1 : AV) (a2 : AV) (a3 : AV) (h : Hp) : runK Try.prog T D N [0, 1, 2, 3, 8, 9, 10, 13, 14, 16, 26, 30, 34, 35, 36, 37, 57] Try.f23 K [a0, a1, a2, a3] h = o_drawback_Overdue Try.prog T D N K a0 a1 a2 a3 h := by kernel_rfl
theorem f_drawback_Overdue_run (T : Tab) (D : DTab) (N : Nat) {β : Type} (K : AV → Hp → Option β) (a0 : AV) (a1 : AV) (a2 : AV) (a3 : AV) (h : Hp) : runK Try.prog T D N [0, 1, 2, 3, 8, 9, 10, 13, 14, 16, 26, 30, 34, 35, 36, 37, 57] Try.f23 K [a0, a1, a2, a3] h = f_drawback_Overdue Try.prog T D N K a0 a1 a2 a3 h := (o_drawback_Overdue_run T D N K a0 a1 a2 a3 h).trans (f_drawback_Overdue_old_eq Try.prog T D N K a0 a1 a2 a3 h)
def o_ref48_Overdue_j1 (P : Program) (T : Tab) (D : DTab) (N : Nat) {β : Type} (K : AV → Hp → Option β) (t : Tm) (h : Hp) : Option β :=
K (.tup [(t 13), (.s (.int .i64 0))]) h
def o_ref48_Overdue_j3 (P : Program) (T : Tab) (D : DTab) (N : Nat) {β : Type} (k : Ex → St → Option β) (t : Tm) (h : Hp) : Option β :=
arithK .add (t 14) (.s (.int .i64 1)) fun x12 =>
k .normal ((upd t 14 x12), h)
def o_ref48_Overdue_j4 (P : Program) (T : Tab) (D : DTab) (N : Nat) {β : Type} (k : Ex → St → Option β) (t : Tm) (h : Hp) : Option β :=
(o_ref48_Overdue_j3 P T D N k t h)
def o_ref48_Overdue_L2 (P : Program) (T : Tab) (D : DTab) (N : Nat) {β : Type} (t : Tm) (h : Hp) (k : Ex → St → Option β) : Option β :=
lenK (t 0) fun x10 =>
arithK .lss (t 14) x10 fun x11 =>
condK x11 (
iaK 5 (t 0) (t 14) fun x13 =>
faK 0 x13 fun x14 =>
ldK 1 false x14 h fun x15 =>
effD (callE (D 32) [(t 1), x15] h (List.length h)) h fun x16 h17 e18 =>
iaK 5 (t 0) (t 14) fun x19 =>
faK 3 x19 fun x20 =>
ldK 1 false x20 h17 fun x21 =>
arithK .lss x16 x21 fun x22 =>
gopD (wB x22 true) h17 (fun k => k (t 3) h17 ([], [])) fun x23 h24 e25 =>
gopD (wB x22 true) h24 (fun k => k (t 0) h24 ([], [])) fun x26 h27 e28 =>
gopD (wB x22 true) h27 (fun k => k (t 14) h27 ([], [])) fun x29 h30 e31 =>
gopD (wB x22 true) h30 (fun k => iaK 5 x26 x29 fun v => k v h30 ([], [])) fun x32 h33 e34 =>
gopD (wB x22 true) h33 (fun k => faK 2 x32 fun v => k v h33 ([], [])) fun x35 h36 e37 =>
gopD (wB x22 true) h36 (fun k => ldK 1 false x35 h36 fun v => k v h36 ((idsOf x35), [])) fun x38 h39 e40 =>
gopD (wB x22 true) h39 (fun k => arithK .sub x23 x38 fun v => k v h39 ([], [])) fun x41 h42 e43 =>
gopD (wB x22 true) h42 (fun k => k (t 2) h42 ([], [])) fun x44 h45 e46 =>
gopD (wB x22 true) h45 (fun k => arithK .gtr x41 x44 fun v => k v h45 ([], [])) fun x47 h48 e49 =>
pickK x22 x47 (.s (.bool false)) fun x50 =>
bif disjAll [(6, 11)] [([], []), ([], []), ([], []), ([], []), ([], []), ((idsOf x14), []), e18, ([], []), ([], []), ([], []), ([], []), ((idsOf x20), []), ([], []), ([], []), e25, e28, e31, e34, e37, e40, e43, e46, e49, ([], [])] then (
condK x50 (
iaK 5 (t 0) (t 14) fun x51 =>
faK 0 x51 fun x52 =>
ldK 1 false x52 h48 fun x53 =>
effK (bsE 1 [.s (.int .i64 0)] 1 [(0, x53)] (List.length h48)) h48 fun x54 h55 =>
effK (appE 1 8 (t 13) x54 h55 (List.length h55)) h55 fun x56 h57 =>
(o_ref48_Overdue_j4 P T D N k (upd (upd (upd t 32 x11) 58 x50) 13 x56) h57)) (
(o_ref48_Overdue_j4 P T D N k (upd (upd t 32 x11) 58 x50) h48))) else none) (
k (.exit 0) ((upd t 32 x11), h))
def o_ref48_Overdue_aL2 (P : Program) (T : Tab) (D : DTab) (N : Nat) {β : Type} (K : AV → Hp → Option β) (e : Ex) (s : St) : Option β :=
  e.on ((o_ref48_Overdue_j1 P T D N K s.1 s.2))
  (fun i => bif i == 0 then ((o_ref48_Overdue_j1 P T D N K s.1 s.2)) else (none))
  (K (.tup [(s.1 8), (s.1 9)]) s.2)
def o_ref48_Overdue_G (P : Program) (T : Tab) (D : DTab) (N : Nat) {β : Type} (cL2 : St → Option β) (K : AV → Hp → Option β) (a0 : AV) (a1 : AV) (a2 : AV) (a3 : AV) (h : Hp) :  Option β :=
callK (T 17) [a0, a1, a2] h fun x1 h2 =>
exK x1 0 fun x3 =>
exK x1 1 fun x4 =>
exK x1 2 fun x5 =>
eqK P true 26 x5 (.s (.int .i64 0)) h2 fun x6 =>
condK x6 (
K (.tup [(.s (.slice none 0 0)), x5]) h2) (
callK (T 28) [a3, (.s (.int .i64 0)), (.s (.int .i64 100000))] h2 fun x7 h8 =>
notK x7 fun x9 =>
condK x9 (
K (.tup [(.s (.slice none 0 0)), (.s (.int .i64 2))]) h8) (
cL2 ((upd (upd (upd (upd (upd (upd (upd (tm0 [a0, a1, a2, a3]) 8 (.s (.slice none 0 0))) 9 (.s (.int .i64 0))) 12 x5) 24 x6) 28 x9) 13 (.s (.slice none 0 0))) 14 (.s (.int .i64 0))), h8)))
def o_ref48_Overdue (P : Program) (T : Tab) (D : DTab) (N : Nat) {β : Type} (K : AV → Hp → Option β) (a0 : AV) (a1 : AV) (a2 : AV) (a3 : AV) (h : Hp) : Option β := o_ref48_Overdue_G P T D N (fun s => iterK (fun s k => o_ref48_Overdue_L2 P T D N s.1 s.2 k) N s (o_ref48_Overdue_aL2 P T D N K)) K a0 a1 a2 a3 h
def f_ref48_Overdue_j1 (P : Program) (T : Tab) (D : DTab) (N : Nat) {β : Type} (K : AV → Hp → Option β) (v13 : AV) (h : Hp) : Option β :=
K (.tup [v13, (.s (.int .i64 0))]) h
def f_ref48_Overdue_j3 (P : Program) (T : Tab) (D : DTab) (N : Nat) {β : Type} (xn : AV → AV → AV → AV → AV → AV → Hp → Option β) (x0 : AV → Hp → Option β) (v0 : AV) (v1 : AV) (v2 : AV) (v3 : AV) (v13 : AV) (v14 : AV) (h : Hp) : Option β :=
arithK .add v14 (.s (.int .i64 1)) fun x12 =>
xn v0 v1 v2 v3 v13 x12 h
def f_ref48_Overdue_j4 (P : Program) (T : Tab) (D : DTab) (N : Nat) {β : Type} (xn : AV → AV → AV → AV → AV → AV → Hp → Option β) (x0 : AV → Hp → Option β) (v0 : AV) (v1 : AV) (v2 : AV) (v3 : AV) (v13 : AV) (v14 : AV) (h : Hp) : Option β :=
f_ref48_Overdue_j3 P T D N xn x0 v0 v1 v2 v3 v13 v14 h
def f_ref48_Overdue_b2 (P : Program) (T : Tab) (D : DTab) (N : Nat) {β : Type} (xn : AV → AV → AV → AV → AV → AV → Hp → Option β) (x0 : AV → Hp → Option β) (v0 : AV) (v1 : AV) (v2 : AV) (v3 : AV) (v13 : AV) (v14 : AV) (h : Hp) : Option β :=
lenK v0 fun x10 =>
arithK .lss v14 x10 fun x11 =>
condK x11 (
iaK 5 v0 v14 fun x13 =>
faK 0 x13 fun x14 =>
ldK 1 false x14 h fun x15 =>
effD (callE (D 32) [v1, x15] h (List.length h)) h fun x16 h17 e18 =>
iaK 5 v0 v14 fun x19 =>
faK 3 x19 fun x20 =>
ldK 1 false x20 h17 fun x21 =>
arithK .lss x16 x21 fun x22 =>
gopD (wB x22 true) h17 (fun k => k v3 h17 ([], [])) fun x23 h24 e25 =>
gopD (wB x22 true) h24 (fun k => k v0 h24 ([], [])) fun x26 h27 e28 =>
gopD (wB x22 true) h27 (fun k => k v14 h27 ([], [])) fun x29 h30 e31 =>
gopD (wB x22 true) h30 (fun k => iaK 5 x26 x29 fun v => k v h30 ([], [])) fun x32 h33 e34 =>
gopD (wB x22 true) h33 (fun k => faK 2 x32 fun v => k v h33 ([], [])) fun x35 h36 e37 =>
gopD (wB x22 true) h36 (fun k => ldK 1 false x35 h36 fun v => k v h36 ((idsOf x35), [])) fun x38 h39 e40 =>
gopD (wB x22 true) h39 (fun k => arithK .sub x23 x38 fun v => k v h39 ([], [])) fun x41 h42 e43 =>
gopD (wB x22 true) h42 (fun k => k v2 h42 ([], [])) fun x44 h45 e46 =>
gopD (wB x22 true) h45 (fun k => arithK .gtr x41 x44 fun v => k v h45 ([], [])) fun x47 h48 e49 =>
pickK x22 x47 (.s (.bool false)) fun x50 =>
bif disjAll [(6, 11)] [([], []), ([], []), ([], []), ([], []), ([], []), ((idsOf x14), []), e18, ([], []), ([], []), ([], []), ([], []), ((idsOf x20), []), ([], []), ([], []), e25, e28, e31, e34, e37, e40, e43, e46, e49, ([], [])] then (
condK x50 (
iaK 5 v0 v14 fun x51 =>
faK 0 x51 fun x52 =>
ldK 1 false x52 h48 fun x53 =>
effK (bsE 1 [.s (.int .i64 0)] 1 [(0, x53)] (List.length h48)) h48 fun x54 h55 =>
effK (appE 1 8 v13 x54 h55 (List.length h55)) h55 fun x56 h57 =>
f_ref48_Overdue_j4 P T D N xn x0 v0 v1 v2 v3 x56 v14 h57) (
f_ref48_Overdue_j4 P T D N xn x0 v0 v1 v2 v3 v13 v14 h48)) else none) (
x0 v13 h)
def f_ref48_Overdue_L2 (P : Program) (T : Tab) (D : DTab) (N : Nat) {β : Type} (x0 : AV → Hp → Option β) : Nat → AV → AV → AV → AV → AV → AV → Hp → Option β
  | 0 => fun _ _ _ _ _ _ _ => none
  | n + 1 => fun v0 v1 v2 v3 v13 v14 h => f_ref48_Overdue_b2 P T D N (f_ref48_Overdue_L2 P T D N x0 n) x0 v0 v1 v2 v3 v13 v14 h
/-- spile/spileref48.Overdue -/
def f_ref48_Overdue (P : Program) (T : Tab) (D : DTab) (N : Nat) {β : Type} (K : AV → Hp → Option β) (a0 : AV) (a1 : AV) (a2 : AV) (a3 : AV) (h : Hp) : Option β :=
callK (T 17) [a0, a1, a2] h fun x1 h2 =>
exK x1 0 fun x3 =>
exK x1 1 fun x4 =>
exK x1 2 fun x5 =>
eqK P true 26 x5 (.s (.int .i64 0)) h2 fun x6 =>
condK x6 (
K (.tup [(.s (.slice none 0 0)), x5]) h2) (
callK (T 28) [a3, (.s (.int .i64 0)), (.s (.int .i64 100000))] h2 fun x7 h8 =>
notK x7 fun x9 =>
condK x9 (
K (.tup [(.s (.slice none 0 0)), (.s (.int .i64 2))]) h8) (
f_ref48_Overdue_L2 P T D N (fun w58_13 h => f_ref48_Overdue_j1 P T D N K w58_13 h) N a0 a1 a2 a3 (.s (.slice none 0 0)) (.s (.int .i64 0)) h8))
theorem f_ref48_Overdue_j1_eq (P : Program) (T : Tab) (D : DTab) (N : Nat) {β : Type} (K : AV → Hp → Option β) (t : Tm) (h : Hp) : o_ref48_Overdue_j1 P T D N K t h = f_ref48_Overdue_j1 P T D N K (t 13) h := by kernel_rfl
theorem f_ref48_Overdue_j3_eq (P : Program) (T : Tab) (D : DTab) (N : Nat) {β : Type} (xn : AV → AV → AV → AV → AV → AV → Hp → Option β) (x0 : AV → Hp → Option β) (xd : Nat → St → Option β) (xq : St → Option β) (t : Tm) (h : Hp) : o_ref48_Overdue_j3 P T D N (fun (e : Ex) (s : St) => e.on (xn (s.1 0) (s.1 1) (s.1 2) (s.1 3) (s.1 13) (s.1 14) s.2) (fun i => (bif i == 0 then x0 (s.1 13) s.2 else (xd i s))) (xq s)) t h = f_ref48_Overdue_j3 P T D N xn x0 (t 0) (t 1) (t 2) (t 3) (t 13) (t 14) h := by kernel_rfl
theorem f_ref48_Overdue_j4_eq (P : Program) (T : Tab) (D : DTab) (N : Nat) {β : Type} (xn : AV → AV → AV → AV → AV → AV → Hp → Option β) (x0 : AV → Hp → Option β) (xd : Nat → St → Option β) (xq : St → Option β) (t : Tm) (h : Hp) : o_ref48_Overdue_j4 P T D N (fun (e : Ex) (s : St) => e.on (xn (s.1 0) (s.1 1) (s.1 2) (s.1 3) (s.1 13) (s.1 14) s.2) (fun i => (bif i == 0 then x0 (s.1 13) s.2 else (xd i s))) (xq s)) t h = f_ref48_Overdue_j4 P T D N xn x0 (t 0) (t 1) (t 2) (t 3) (t 13) (t 14) h := by kernel_rfl
theorem f_ref48_Overdue_b2_eq (P : Program) (T : Tab) (D : DTab) (N : Nat) {β : Type} (xn : AV → AV → AV → AV → AV → AV → Hp → Option β) (x0 : AV → Hp → Option β) (xd : Nat → St → Option β) (xq : St → Option β) (t : Tm) (h : Hp) : o_ref48_Overdue_L2 P T D N t h (fun (e : Ex) (s : St) => e.on (xn (s.1 0) (s.1 1) (s.1 2) (s.1 3) (s.1 13) (s.1 14) s.2) (fun i => (bif i == 0 then x0 (s.1 13) s.2 else (xd i s))) (xq s)) = f_ref48_Overdue_b2 P T D N xn x0 (t 0) (t 1) (t 2) (t 3) (t 13) (t 14) h := by kernel_rfl
theorem f_ref48_Overdue_L2_eq (P : Program) (T : Tab) (D : DTab) (N : Nat) {β : Type} (A : Ex → St → Option β) (x0 : AV → Hp → Option β) (q0 : ∀ s, A (.exit 0) s = x0 (s.1 13) s.2) : ∀ (n : Nat) (s : St), iterK (fun s k => o_ref48_Overdue_L2 P T D N s.1 s.2 k) n s A = f_ref48_Overdue_L2 P T D N x0 n (s.1 0) (s.1 1) (s.1 2) (s.1 3) (s.1 13) (s.1 14) s.2 := by
  intro n
  induction n with
  | zero => intro s; rfl
  | succ n ih =>
    intro s
    have hk : (fun (e : Ex) (s' : St) => Ex.on e (iterK (fun s k => o_ref48_Overdue_L2 P T D N s.1 s.2 k) n s' A) (fun i => A (.exit i) s') (A .ret s')) = (fun (e : Ex) (s : St) => e.on ((f_ref48_Overdue_L2 P T D N x0 n) (s.1 0) (s.1 1) (s.1 2) (s.1 3) (s.1 13) (s.1 14) s.2) (fun i => (bif i == 0 then x0 (s.1 13) s.2 else (A (.exit i) s))) (A .ret s)) := by
      funext e s'
      cases e with
      | normal => exact ih s'
      | ret => exact rfl
      | exit i =>
        by_cases r0 : i = 0
        · subst r0; exact q0 s'
        simp only [Ex.on, beq_false_of_ne r0, cond_false]
    show o_ref48_Overdue_L2 P T D N s.1 s.2 (fun (e : Ex) (s' : St) => Ex.on e (iterK (fun s k => o_ref48_Overdue_L2 P T D N s.1 s.2 k) n s' A) (fun i => A (.exit i) s') (A .ret s')) = _
    rw [hk]
    exact f_ref48_Overdue_b2_eq P T D N (f_ref48_Overdue_L2 P T D N x0 n) x0 (fun i s => A (.exit i) s) (fun s => A .ret s) s.1 s.2
theorem f_ref48_Overdue_old_eq (P : Program) (T : Tab) (D : DTab) (N : Nat) {β : Type} (K : AV → Hp → Option β) (a0 : AV) (a1 : AV) (a2 : AV) (a3 : AV) (h : Hp) : o_ref48_Overdue P T D N K a0 a1 a2 a3 h = f_ref48_Overdue P T D N K a0 a1 a2 a3 h := by
  have eL2 : (fun s : St => iterK (fun s k => o_ref48_Overdue_L2 P T D N s.1 s.2 k) N s (o_ref48_Overdue_aL2 P T D N K)) = (fun s : St => f_ref48_Overdue_L2 P T D N (fun w58_13 h => f_ref48_Overdue_j1 P T D N K w58_13 h) N (s.1 0) (s.1 1) (s.1 2) (s.1 3) (s.1 13) (s.1 14) s.2) := funext fun s => f_ref48_Overdue_L2_eq P T D N (o_ref48_Overdue_aL2 P T D N K) (fun w58_13 h => f_ref48_Overdue_j1 P T D N K w58_13 h) (fun s => rfl) N s
  show o_ref48_Overdue_G P T D N (fun s => iterK (fun s k => o_ref48_Overdue_L2 P T D N s.1 s.2 k) N s (o_ref48_Overdue_aL2 P T D N K)) K a0 a1 a2 a3 h = _
  rw [eL2]
  kernel_rfl
theorem o_ref48_Overdue_run (T : Tab) (D : DTab) (N : Nat) {β : Type} (K : AV → Hp → Option β) (a0 : AV) (a1 : AV) (a2 : AV) (a3 : AV) (h : Hp) : runK Try.prog T D N [0, 1, 2, 3, 8, 9, 12, 13, 14, 24, 28, 32, 58] Try.f24 K [a0, a1, a2, a3] h = o_ref48_Overdue Try.prog T D N K a0 a1 a2 a3 h := by kernel_rfl
theorem f_ref48_Overdue_run (T : Tab) (D : DTab) (N : Nat) {β : Type} (K : AV → Hp → Option β) (a0 : AV) (a1 : AV) (a2 : AV) (a3 : AV) (h : Hp) : runK Try.prog T D N [0, 1, 2, 3, 8, 9, 12, 13, 14, 24, 28, 32, 58] Try.f24 K [a0, a1, a2, a3] h = f_ref48_Overdue Try.prog T D N K a0 a1 a2 a3 h := (o_ref48_Overdue_run T D N K a0 a1 a2 a3 h).trans (f_ref48_Overdue_old_eq Try.prog T D N K a0 a1 a2 a3 h)
/-- spile/proportion.Of -/
def f_proportion_Of (P : Program) (T : Tab) (D : DTab) (N : Nat) {β : Type} (K : AV → Hp → Option β) (a0 : AV) (a1 : AV) (a2 : AV) (h : Hp) : Option β :=
effK (bsE 1 [.s (.int .i64 0)] 3 [(0, a0), (1, a1), (2, a2)] (List.length h)) h fun x1 h2 =>
callK (T 35) [x1] h2 fun x3 h4 =>
notK x3 fun x5 =>
condK x5 (
K (.tup [(.s (.int .i64 0)), (.s (.int .i64 0)), (.s (.int .i64 2))]) h4) (
eqK P false 3 a2 (.s (.int .i64 0)) h4 fun x6 =>
condK x6 (
K (.tup [(.s (.int .i64 0)), (.s (.int .i64 0)), (.s (.int .i64 16))]) h4) (
callK (T 36) [a0, a1, a2] h4 fun x7 h8 =>
exK x7 0 fun x9 =>
exK x7 1 fun x10 =>
exK x7 2 fun x11 =>
notK x11 fun x12 =>
condK x12 (
K (.tup [(.s (.int .i64 0)), (.s (.int .i64 0)), (.s (.int .i64 15))]) h8) (
K (.tup [x9, x10, (.s (.int .i64 0))]) h8)))
theorem f_proportion_Of_run (T : Tab) (D : DTab) (N : Nat) {β : Type} (K : AV → Hp → Option β) (a0 : AV) (a1 : AV) (a2 : AV) (h : Hp) : runK Try.prog T D N [0, 1, 2, 6, 7, 8, 9, 10, 11, 17, 19, 29] Try.f25 K [a0, a1, a2] h = f_proportion_Of Try.prog T D N K a0 a1 a2 h := by kernel_rfl
def o_slices_Concat_Claim_j2 (P : Program) (T : Tab) (D : DTab) (N : Nat) {β : Type} (K : AV → Hp → Option β) (t : Tm) (h : Hp) : Option β :=
K (t 6) h
def o_slices_Concat_Claim_L3 (P : Program) (T : Tab) (D : DTab) (N : Nat) {β : Type} (t : Tm) (h : Hp) (k : Ex → St → Option β) : Option β :=
arithK .lss (t 27) (t 26) fun x5 =>
condK x5 (
iaK 1 (t 25) (t 27) fun x6 =>
ldK 1 false x6 h fun x7 =>
effK (appE 3 24 (t 6) x7 h (List.length h)) h fun x8 h9 =>
arithK .add (t 27) (.s (.int .i64 1)) fun x10 =>
k .normal ((upd (upd (upd (upd t 28 x5) 8 x7) 6 x8) 27 x10), h9)) (
k (.exit 2) ((upd t 28 x5), h))
def o_slices_Concat_Claim_aL3 (P : Program) (T : Tab) (D : DTab) (N : Nat) {β : Type} (K : AV → Hp → Option β) (e : Ex) (s : St) : Option β :=
  e.on ((o_slices_Concat_Claim_j2 P T D N K s.1 s.2))
  (fun i => bif i == 2 then ((o_slices_Concat_Claim_j2 P T D N K s.1 s.2)) else (none))
  (K (s.1 2) s.2)
def o_slices_Concat_Claim_j1_G (P : Program) (T : Tab) (D : DTab) (N : Nat) {β : Type} (cL3 : St → Option β) (K : AV → Hp → Option β) (t : Tm) (h : Hp) :  Option β :=
callK (T 37) [(.s (.slice none 0 0)), (t 3)] h fun x2 h3 =>
lenK (t 0) fun x4 =>
cL3 ((upd (upd (upd (upd t 6 x2) 25 (t 0)) 26 x4) 27 (.s (.int .i64 0))), h3)
def o_slices_Concat_Claim_j1 (P : Program) (T : Tab) (D : DTab) (N : Nat) {β : Type} (K : AV → Hp → Option β) (t : Tm) (h : Hp) : Option β := o_slices_Concat_Claim_j1_G P T D N (fun s => iterK (fun s k => o_slices_Concat_Claim_L3 P T D N s.1 s.2 k) N s (o_slices_Concat_Claim_aL3 P T D N K)) K t h
def o_slices_Concat_Claim_j5 (P : Program) (T : Tab) (D : DTab) (N : Nat) {β : Type} (k : Ex → St → Option β) (t : Tm) (h : Hp) : Option β :=
arithK .add (t 11) (.s (.int .i64 1)) fun x12 =>
k .normal ((upd t 11 x12), h)
def o_slices_Concat_Claim_j6 (P : Program) (T : Tab) (D : DTab) (N : Nat) {β : Type} (k : Ex → St → Option β) (t : Tm) (h : Hp) : Option β :=
(o_slices_Concat_Claim_j5 P T D N k t h)
def o_slices_Concat_Claim_L4 (P : Program) (T : Tab) (D : DTab) (N : Nat) {β : Type} (t : Tm) (h : Hp) (k : Ex → St → Option β) : Option β :=
arithK .lss (t 11) (t 10) fun x11 =>
condK x11 (
iaK 1 (t 9) (t 11) fun x13 =>
ldK 1 false x13 h fun x14 =>
lenK x14 fun x15 =>
arithK .add (t 3) x15 fun x16 =>
arithK .lss x16 (.s (.int .i64 0)) fun x17 =>
condK x17 (
none) (
(o_slices_Concat_Claim_j6 P T D N k (upd (upd (upd (upd t 12 x11) 5 x14) 3 x16) 20 x17) h))) (
k (.exit 0) ((upd t 12 x11), h))
def o_slices_Concat_Claim_aL4 (P : Program) (T : Tab) (D : DTab) (N : Nat) {β : Type} (K : AV → Hp → Option β) (e : Ex) (s : St) : Option β :=
  e.on ((o_slices_Concat_Claim_j1 P T D N K s.1 s.2))
  (fun i => bif i == 0 then ((o_slices_Concat_Claim_j1 P T D N K s.1 s.2)) else (none))
  (K (s.1 2) s.2)
def o_slices_Concat_Claim_G (P : Program) (T : Tab) (D : DTab) (N : Nat) {β : Type} (cL4 : St → Option β) (K : AV → Hp → Option β) (a0 : AV) (h : Hp) :  Option β :=
lenK a0 fun x1 =>
cL4 ((upd (upd (upd (upd (upd (tm0 [a0]) 2 (.s (.slice none 0 0))) 3 (.s (.int .i64 0))) 9 a0) 10 x1) 11 (.s (.int .i64 0))), h)
def o_slices_Concat_Claim (P : Program) (T : Tab) (D : DTab) (N : Nat) {β : Type} (K : AV → Hp → Option β) (a0 : AV) (h : Hp) : Option β := o_slices_Concat_Claim_G P T D N (fun s => iterK (fun s k => o_slices_Concat_Claim_L4 P T D N s.1 s.2 k) N s (o_slices_Concat_Claim_aL4 P T D N K)) K a0 h
def f_slices_Concat_Claim_j2 (P : Program) (T : Tab) (D : DTab) (N : Nat) {β : Type} (K : AV → Hp → Option β) (v6 : AV) (h : Hp) : Option β :=
K v6 h
def f_slices_Concat_Claim_b3 (P : Program) (T : Tab) (D : DTab) (N : Nat) {β : Type} (xn : AV → AV → AV → AV → Hp → Option β) (x2 : AV → Hp → Option β) (v6 : AV) (v25 : AV) (v26 : AV) (v27 : AV) (h : Hp) : Option β :=
arithK .lss v27 v26 fun x5 =>
condK x5 (
iaK 1 v25 v27 fun x6 =>
ldK 1 false x6 h fun x7 =>
effK (appE 3 24 v6 x7 h (List.length h)) h fun x8 h9 =>
arithK .add v27 (.s (.int .i64 1)) fun x10 =>
xn x8 v25 v26 x10 h9) (
x2 v6 h)
def f_slices_Concat_Claim_L3 (P : Program) (T : Tab) (D : DTab) (N : Nat) {β : Type} (x2 : AV → Hp → Option β) : Nat → AV → AV → AV → AV → Hp → Option β
  | 0 => fun _ _ _ _ _ => none
  | n + 1 => fun v6 v25 v26 v27 h => f_slices_Concat_Claim_b3 P T D N (f_slices_Concat_Claim_L3 P T D N x2 n) x2 v6 v25 v26 v27 h
def f_slices_Concat_Claim_j1 (P : Program) (T : Tab) (D : DTab) (N : Nat) {β : Type} (K : AV → Hp → Option β) (v0 : AV) (v3 : AV) (h : Hp) : Option β :=
callK (T 37) [(.s (.slice none 0 0)), v3] h fun x2 h3 =>
lenK v0 fun x4 =>
f_slices_Concat_Claim_L3 P T D N (fun w11_6 h => f_slices_Concat_Claim_j2 P T D N K w11_6 h) N x2 v0 x4 (.s (.int .i64 0)) h3
def f_slices_Concat_Claim_j5 (P : Program) (T : Tab) (D : DTab) (N : Nat) {β : Type} (xn : AV → AV → AV → AV → AV → Hp → Option β) (x0 : AV → AV → Hp → Option β) (v0 : AV) (v3 : AV) (v9 : AV) (v10 : AV) (v11 : AV) (h : Hp) : Option β :=
arithK .add v11 (.s (.int .i64 1)) fun x13 =>
xn v0 v3 v9 v10 x13 h
def f_slices_Concat_Claim_j6 (P : Program) (T : Tab) (D : DTab) (N : Nat) {β : Type} (xn : AV → AV → AV → AV → AV → Hp → Option β) (x0 : AV → AV → Hp → Option β) (v0 : AV) (v3 : AV) (v9 : AV) (v10 : AV) (v11 : AV) (h : Hp) : Option β :=
f_slices_Concat_Claim_j5 P T D N xn x0 v0 v3 v9 v10 v11 h
def f_slices_Concat_Claim_b4 (P : Program) (T : Tab) (D : DTab) (N : Nat) {β : Type} (xn : AV → AV → AV → AV → AV → Hp → Option β) (x0 : AV → AV → Hp → Option β) (v0 : AV) (v3 : AV) (v9 : AV) (v10 : AV) (v11 : AV) (h : Hp) : Option β :=
arithK .lss v11 v10 fun x12 =>
condK x12 (
iaK 1 v9 v11 fun x14 =>
ldK 1 false x14 h fun x15 =>
lenK x15 fun x16 =>
arithK .add v3 x16 fun x17 =>
arithK .lss x17 (.s (.int .i64 0)) fun x18 =>
condK x18 (
none) (
f_slices_Concat_Claim_j6 P T D N xn x0 v0 x17 v9 v10 v11 h)) (
x0 v0 v3 h)
def f_slices_Concat_Claim_L4 (P : Program) (T : Tab) (D : DTab) (N : Nat) {β : Type} (x0 : AV → AV → Hp → Option β) : Nat → AV → AV → AV → AV → AV → Hp → Option β
  | 0 => fun _ _ _ _ _ _ => none
  | n + 1 => fun v0 v3 v9 v10 v11 h => f_slices_Concat_Claim_b4 P T D N (f_slices_Concat_Claim_L4 P T D N x0 n) x0 v0 v3 v9 v10 v11 h
/-- slices.Concat[[]spile/api.Claim,spile/api.Claim] -/
def f_slices_Concat_Claim (P : Program) (T : Tab) (D : DTab) (N : Nat) {β : Type} (K : AV → Hp → Option β) (a0 : AV) (h : Hp) : Option β :=
lenK a0 fun x1 =>
f_slices_Concat_Claim_L4 P T D N (fun w19_0 w19_3 h => f_slices_Concat_Claim_j1 P T D N K w19_0 w19_3 h) N a0 (.s (.int .i64 0)) a0 x1 (.s (.int .i64 0)) h
theorem f_slices_Concat_Claim_j2_eq (P : Program) (T : Tab) (D : DTab) (N : Nat) {β : Type} (K : AV → Hp → Option β) (t : Tm) (h : Hp) : o_slices_Concat_Claim_j2 P T D N K t h = f_slices_Concat_Claim_j2 P T D N K (t 6) h := by kernel_rfl
theorem f_slices_Concat_Claim_b3_eq (P : Program) (T : Tab) (D : DTab) (N : Nat) {β : Type} (xn : AV → AV → AV → AV → Hp → Option β) (x2 : AV → Hp → Option β) (xd : Nat → St → Option β) (xq : St → Option β) (t : Tm) (h : Hp) : o_slices_Concat_Claim_L3 P T D N t h (fun (e : Ex) (s : St) => e.on (xn (s.1 6) (s.1 25) (s.1 26) (s.1 27) s.2) (fun i => (bif i == 2 then x2 (s.1 6) s.2 else (xd i s))) (xq s)) = f_slices_Concat_Claim_b3 P T D N xn x2 (t 6) (t 25) (t 26) (t 27) h := by kernel_rfl
theorem f_slices_Concat_Claim_L3_eq (P : Program) (T : Tab) (D : DTab) (N : Nat) {β : Type} (A : Ex → St → Option β) (x2 : AV → Hp → Option β) (q2 : ∀ s, A (.exit 2) s = x2 (s.1 6) s.2) : ∀ (n : Nat) (s : St), iterK (fun s k => o_slices_Concat_Claim_L3 P T D N s.1 s.2 k) n s A = f_slices_Concat_Claim_L3 P T D N x2 n (s.1 6) (s.1 25) (s.1 26) (s.1 27) s.2 := by
  intro n
  induction n with
  | zero => intro s; rfl
  | succ n ih =>
    intro s
    have hk : (fun (e : Ex) (s' : St) => Ex.on e (iterK (fun s k => o_slices_Concat_Claim_L3 P T D N s.1 s.2 k) n s' A) (fun i => A (.exit i) s') (A .ret s')) = (fun (e : Ex) (s : St) => e.on ((f_slices_Concat_Claim_L3 P T D N x2 n) (s.1 6) (s.1 25) (s.1 26) (s.1 27) s.2) (fun i => (bif i == 2 then x2 (s.1 6) s.2 else (A (.exit i) s))) (A .ret s)) := by
      funext e s'
      cases e with
      | normal => exact ih s'
      | ret => exact rfl
      | exit i =>
        by_cases r2 : i = 2
        · subst r2; exact q2 s'
        simp only [Ex.on, beq_false_of_ne r2, cond_false]
    show o_slices_Concat_Claim_L3 P T D N s.1 s.2 (fun (e : Ex) (s' : St) => Ex.on e (iterK (fun s k => o_slices_Concat_Claim_L3 P T D N s.1 s.2 k) n s' A) (fun i => A (.exit i) s') (A .ret s')) = _
    rw [hk]
    exact f_slices_Concat_Claim_b3_eq P T D N (f_slices_Concat_Claim_L3 P T D N x2 n) x2 (fun i s => A (.exit i) s) (fun s => A .ret s) s.1 s.2
theorem f_slices_Concat_Claim_j1_eq (P : Program) (T : Tab) (D : DTab) (N : Nat) {β : Type} (K : AV → Hp → Option β) (t : Tm) (h : Hp) : o_slices_Concat_Claim_j1 P T D N K t h = f_slices_Concat_Claim_j1 P T D N K (t 0) (t 3) h := by
  have eL3 : (fun s : St => iterK (fun s k => o_slices_Concat_Claim_L3 P T D N s.1 s.2 k) N s (o_slices_Concat_Claim_aL3 P T D N K)) = (fun s : St => f_slices_Concat_Claim_L3 P T D N (fun w11_6 h => f_slices_Concat_Claim_j2 P T D N K w11_6 h) N (s.1 6) (s.1 25) (s.1 26) (s.1 27) s.2) := funext fun s => f_slices_Concat_Claim_L3_eq P T D N (o_slices_Concat_Claim_aL3 P T D N K) (fun w11_6 h => f_slices_Concat_Claim_j2 P T D N K w11_6 h) (fun s => rfl) N s
  show o_slices_Concat_Claim_j1_G P T D N (fun s => iterK (fun s k => o_slices_Concat_Claim_L3 P T D N s.1 s.2 k) N s (o_slices_Concat_Claim_aL3 P T D N K)) K t h = _
  rw [eL3]
  kernel_rfl
theorem f_slices_Concat_Claim_j5_eq (P : Program) (T : Tab) (D : DTab) (N : Nat) {β : Type} (xn : AV → AV → AV → AV → AV → Hp → Option β) (x0 : AV → AV → Hp → Option β) (xd : Nat → St → Option β) (xq : St → Option β) (t : Tm) (h : Hp) : o_slices_Concat_Claim_j5 P T D N (fun (e : Ex) (s : St) => e.on (xn (s.1 0) (s.1 3) (s.1 9) (s.1 10) (s.1 11) s.2) (fun i => (bif i == 0 then x0 (s.1 0) (s.1 3) s.2 else (xd i s))) (xq s)) t h = f_slices_Concat_Claim_j5 P T D N xn x0 (t 0) (t 3) (t 9) (t 10) (t 11) h := by kernel_rfl
theorem f_slices_Concat_Claim_j6_eq (P : Program) (T : Tab) (D : DTab) (N : Nat) {β : Type} (xn : AV → AV → AV → AV → AV → Hp → Option β) (x0 : AV → AV → Hp → Option β) (xd : Nat → St → Option β) (xq : St → Option β) (t : Tm) (h : Hp) : o_slices_Concat_Claim_j6 P T D N (fun (e : Ex) (s : St) => e.on (xn (s.1 0) (s.1 3) (s.1 9) (s.1 10) (s.1 11) s.2) (fun i => (bif i == 0 then x0 (s.1 0) (s.1 3) s.2 else (xd i s))) (xq s)) t h = f_slices_Concat_Claim_j6 P T D N xn x0 (t 0) (t 3) (t 9) (t 10) (t 11) h := by kernel_rfl
theorem f_slices_Concat_Claim_b4_eq (P : Program) (T : Tab) (D : DTab) (N : Nat) {β : Type} (xn : AV → AV → AV → AV → AV → Hp → Option β) (x0 : AV → AV → Hp → Option β) (xd : Nat → St → Option β) (xq : St → Option β) (t : Tm) (h : Hp) : o_slices_Concat_Claim_L4 P T D N t h (fun (e : Ex) (s : St) => e.on (xn (s.1 0) (s.1 3) (s.1 9) (s.1 10) (s.1 11) s.2) (fun i => (bif i == 0 then x0 (s.1 0) (s.1 3) s.2 else (xd i s))) (xq s)) = f_slices_Concat_Claim_b4 P T D N xn x0 (t 0) (t 3) (t 9) (t 10) (t 11) h := by kernel_rfl
theorem f_slices_Concat_Claim_L4_eq (P : Program) (T : Tab) (D : DTab) (N : Nat) {β : Type} (A : Ex → St → Option β) (x0 : AV → AV → Hp → Option β) (q0 : ∀ s, A (.exit 0) s = x0 (s.1 0) (s.1 3) s.2) : ∀ (n : Nat) (s : St), iterK (fun s k => o_slices_Concat_Claim_L4 P T D N s.1 s.2 k) n s A = f_slices_Concat_Claim_L4 P T D N x0 n (s.1 0) (s.1 3) (s.1 9) (s.1 10) (s.1 11) s.2 := by
  intro n
  induction n with
  | zero => intro s; rfl
  | succ n ih =>
    intro s
    have hk : (fun (e : Ex) (s' : St) => Ex.on e (iterK (fun s k => o_slices_Concat_Claim_L4 P T D N s.1 s.2 k) n s' A) (fun i => A (.exit i) s') (A .ret s')) = (fun (e : Ex) (s : St) => e.on ((f_slices_Concat_Claim_L4 P T D N x0 n) (s.1 0) (s.1 3) (s.1 9) (s.1 10) (s.1 11) s.2) (fun i => (bif i == 0 then x0 (s.1 0) (s.1 3) s.2 else (A (.exit i) s))) (A .ret s)) := by
      funext e s'
      cases e with
      | normal => exact ih s'
      | ret => exact rfl
      | exit i =>
        by_cases r0 : i = 0
        · subst r0; exact q0 s'
        simp only [Ex.on, beq_false_of_ne r0, cond_false]
    show o_slices_Concat_Claim_L4 P T D N s.1 s.2 (fun (e : Ex) (s' : St) => Ex.on e (iterK (fun s k => o_slices_Concat_Claim_L4 P T D N s.1 s.2 k) n s' A) (fun i => A (.exit i) s') (A .ret s')) = _
    rw [hk]
    exact f_slices_Concat_Claim_b4_eq P T D N (f_slices_Concat_Claim_L4 P T D N x0 n) x0 (fun i s => A (.exit i) s) (fun s => A .ret s) s.1 s.2
theorem f_slices_Concat_Claim_old_eq (P : Program) (T : Tab) (D : DTab) (N : Nat) {β : Type} (K : AV → Hp → Option β) (a0 : AV) (h : Hp) : o_slices_Concat_Claim P T D N K a0 h = f_slices_Concat_Claim P T D N K a0 h := by
  have eL4 : (fun s : St => iterK (fun s k => o_slices_Concat_Claim_L4 P T D N s.1 s.2 k) N s (o_slices_Concat_Claim_aL4 P T D N K)) = (fun s : St => f_slices_Concat_Claim_L4 P T D N (fun w19_0 w19_3 h => f_slices_Concat_Claim_j1 P T D N K w19_0 w19_3 h) N (s.1 0) (s.1 3) (s.1 9) (s.1 10) (s.1 11) s.2) := funext fun s => f_slices_Concat_Claim_L4_eq P T D N (o_slices_Concat_Claim_aL4 P T D N K) (fun w19_0 w19_3 h => f_slices_Concat_Claim_j1 P T D N K w19_0 w19_3 h) (fun s => f_slices_Concat_Claim_j1_eq P T D N K s.1 s.2) N s
  show o_slices_Concat_Claim_G P T D N (fun s => iterK (fun s k => o_slices_Concat_Claim_L4 P T D N s.1 s.2 k) N s (o_slices_Concat_Claim_aL4 P T D N K)) K a0 h = _
  rw [eL4]
  kernel_rfl
theorem o_slices_Concat_Claim_run (T : Tab) (D : DTab) (N : Nat) {β : Type} (K : AV → Hp → Option β) (a0 : AV) (h : Hp) : runK Try.prog T D N [0, 2, 3, 5, 6, 8, 9, 10, 11, 12, 20, 25, 26, 27, 28] Try.f26 K [a0] h = o_slices_Concat_Claim Try.prog T D N K a0 h := by kernel_rfl
theorem f_slices_Concat_Claim_run (T : Tab) (D : DTab) (N : Nat) {β : Type} (K : AV → Hp → Option β) (a0 : AV) (h : Hp) : runK Try.prog T D N [0, 2, 3, 5, 6, 8, 9, 10, 11, 12, 20, 25, 26, 27, 28] Try.f26 K [a0] h = f_slices_Concat_Claim Try.prog T D N K a0 h := (o_slices_Concat_Claim_run T D N K a0 h).trans (f_slices_Concat_Claim_old_eq Try.prog T D N K a0 h)
/-- spile/drawback.within -/
def f_drawback_within (P : Program) (T : Tab) (D : DTab) (N : Nat) {β : Type} (K : AV → Hp → Option β) (a0 : AV) (a1 : AV) (a2 : AV) (h : Hp) : Option β :=
arithK .geq a0 a1 fun x1 =>
grpK true x1 h (fun k2 =>
arithK .leq a0 a2 fun x3 =>
k2 x3 h) fun x4 h5 =>
K x4 h5
theorem f_drawback_within_run (T : Tab) (D : DTab) (N : Nat) {β : Type} (K : AV → Hp → Option β) (a0 : AV) (a1 : AV) (a2 : AV) (h : Hp) : runK Try.prog T D N [0, 1, 2, 6] Try.f27 K [a0, a1, a2] h = f_drawback_within Try.prog T D N K a0 a1 a2 h := by kernel_rfl
/-- spile/spileref48.between -/
def f_ref48_between (P : Program) (T : Tab) (D : DTab) (N : Nat) {β : Type} (K : AV → Hp → Option β) (a0 : AV) (a1 : AV) (a2 : AV) (h : Hp) : Option β :=
callK (T 38) [a0, a1, a2] h fun x1 h2 =>
K x1 h2
theorem f_ref48_between_run (T : Tab) (D : DTab) (N : Nat) {β : Type} (K : AV → Hp → Option β) (a0 : AV) (a1 : AV) (a2 : AV) (h : Hp) : runK Try.prog T D N [0, 1, 2, 6] Try.f28 K [a0, a1, a2] h = f_ref48_between Try.prog T D N K a0 a1 a2 h := by kernel_rfl
def o_drawback_carry_j2 (P : Program) (T : Tab) (D : DTab) (N : Nat) {β : Type} (K : AV → Hp → Option β) (t : Tm) (h : Hp) : Option β :=
K (.tup [(t 12), (t 16), (.s (.int .i64 (-1))), (.s (.int .i64 0))]) h
def o_drawback_carry_j4 (P : Program) (T : Tab) (D : DTab) (N : Nat) {β : Type} (k : Ex → St → Option β) (t : Tm) (h : Hp) : Option β :=
arithK .add (t 61) (.s (.int .i64 1)) fun x23 =>
k .normal ((upd t 61 x23), h)
def o_drawback_carry_j5 (P : Program) (T : Tab) (D : DTab) (N : Nat) {β : Type} (k : Ex → St → Option β) (t : Tm) (h : Hp) : Option β :=
nilK (t 12) fun x31 =>
faK 0 x31 fun x32 =>
ldK 1 false x32 h fun x33 =>
faK 0 (t 18) fun x34 =>
ldK 1 false x34 h fun x35 =>
lookK P 3 (.agg [.s (.int .i64 0), .s (.int .i64 0), .s (.int .i64 0), .s (.int .i64 0), .s (.int .i64 0)]) false x33 x35 h fun x36 =>
nilK (t 12) fun x37 =>
faK 1 x37 fun x38 =>
ldK 1 false x38 h fun x39 =>
faK 0 (t 18) fun x40 =>
ldK 1 false x40 h fun x41 =>
lookK P 3 (.s (.int .i64 0)) false x39 x41 h fun x42 =>
effD (boxE 5 (.agg [.s (.int .i64 0), .s (.int .i64 0), .s (.int .i64 0), .s (.int .i64 0), .s (.int .i64 0)]) (List.length h)) h fun x43 h44 e45 =>
effD (stE 5 x43 x36 h44) h44 fun x46 h47 e48 =>
bif disjAll [(3, 14), (5, 14), (6, 14), (10, 14), (12, 14), (13, 14), (10, 15), (12, 15), (13, 15)] [([], []), ([], []), ([], []), ((idsOf x32), []), ([], []), ((idsOf x34), []), ((idsOf x33), []), ([], []), ([], []), ([], []), ((idsOf x38), []), ([], []), ((idsOf x40), []), ((idsOf x39), []), e45, e48, ([], [])] then (
ldK 5 true x43 h47 fun x49 =>
faK 2 (t 18) fun x50 =>
ldK 1 false x50 h47 fun x51 =>
arithK .add x42 x51 fun x52 =>
effD (callE (D 34) [x49, x52] h47 (List.length h47)) h47 fun x53 h54 e55 =>
ldK 5 true x43 h54 fun x56 =>
effD (callE (D 34) [x56, x42] h54 (List.length h54)) h54 fun x57 h58 e59 =>
arithK .sub x53 x57 fun x60 =>
effD (bsE 1 [.s (.int .i64 0)] 1 [(0, x60)] (List.length h58)) h58 fun x61 h62 e63 =>
effD (appE 1 8 (t 16) x61 h62 (List.length h62)) h62 fun x64 h65 e66 =>
bif disjAll [(6, 7)] [([], []), ((idsOf x43), []), ([], []), ([], []), ((idsOf x50), []), ([], []), e55, ((idsOf x43), []), ([], []), e59, ([], []), e63, e66, ([], [])] then (
nilK (t 12) fun x67 =>
faK 1 x67 fun x68 =>
ldK 1 false x68 h65 fun x69 =>
faK 0 (t 18) fun x70 =>
ldK 1 false x70 h65 fun x71 =>
lookK P 3 (.s (.int .i64 0)) false x69 x71 h65 fun x72 =>
faK 2 (t 18) fun x73 =>
ldK 1 false x73 h65 fun x74 =>
arithK .add x72 x74 fun x75 =>
effK (mupE P 3 x69 x71 x75 h65) h65 fun x76 h77 =>
faK 1 (t 18) fun x78 =>
ldK 1 false x78 h77 fun x79 =>
nilK (t 12) fun x80 =>
faK 2 x80 fun x81 =>
effK (stE 1 x81 x79 h77) h77 fun x82 h83 =>
(o_drawback_carry_j4 P T D N k (upd (upd (upd t 21 x43) 22 x42) 16 x64) h83)) else none) else none
def o_drawback_carry_L6 (P : Program) (T : Tab) (D : DTab) (N : Nat) {β : Type} (t : Tm) (h : Hp) (k : Ex → St → Option β) : Option β :=
arithK .lss (t 68) (t 67) fun x84 =>
condK x84 (
iaK 2 (t 66) (t 68) fun x85 =>
ldK 2 true x85 h fun x86 =>
effK (boxE 2 (.agg [.s .nilFunc, .s (.int .i64 0)]) (List.length h)) h fun x87 h88 =>
effK (stE 2 x87 x86 h88) h88 fun x89 h90 =>
faK 0 x87 fun x91 =>
ldK 1 false x91 h90 fun x92 =>
ldK 3 true (t 18) h90 fun x93 =>
callVK T x92 [(t 12), x93] h90 fun x94 h95 =>
condK x94 (
faK 1 x87 fun x96 =>
ldK 1 false x96 h95 fun x97 =>
k .ret ((upd (upd (upd (upd (upd (upd (upd t 69 x84) 20 x87) 76 x94) 6 (.s (.pointer none))) 7 (.s (.slice none 0 0))) 8 (t 17)) 9 x97), h95)) (
arithK .add (t 68) (.s (.int .i64 1)) fun x98 =>
k .normal ((upd (upd (upd (upd t 69 x84) 20 x87) 76 x94) 68 x98), h95))) (
k (.exit 5) ((upd t 69 x84), h))
def o_drawback_carry_aL6 (P : Program) (T : Tab) (D : DTab) (N : Nat) {β : Type} (k : Ex → St → Option β) (e : Ex) (s : St) : Option β :=
  e.on ((o_drawback_carry_j5 P T D N k s.1 s.2))
  (fun i => bif i == 5 then ((o_drawback_carry_j5 P T D N k s.1 s.2)) else (bif i == 4 then ((o_drawback_carry_j4 P T D N k s.1 s.2)) else (k (.exit i) (s.1, s.2))))
  (k .ret (s.1, s.2))
def o_drawback_carry_L3_G (P : Program) (T : Tab) (D : DTab) (N : Nat) {β : Type} (cL6 : St → Option β) (t : Tm) (h : Hp) (k : Ex → St → Option β) :  Option β :=
arithK .lss (t 61) (t 60) fun x22 =>
condK x22 (
iaK 3 (t 59) (t 61) fun x24 =>
ldK 3 true x24 h fun x25 =>
effK (boxE 3 (.agg [.s (.int .i64 0), .s (.int .i64 0), .s (.int .i64 0)]) (List.length h)) h fun x26 h27 =>
effK (stE 3 x26 x25 h27) h27 fun x28 h29 =>
lenK (t 15) fun x30 =>
cL6 ((upd (upd (upd (upd (upd (upd t 62 x22) 18 x26) 17 (t 61)) 66 (t 15)) 67 x30) 68 (.s (.int .i64 0))), h29)) (
k (.exit 3) ((upd t 62 x22), h))
def o_drawback_carry_L3 (P : Program) (T : Tab) (D : DTab) (N : Nat) {β : Type} (t : Tm) (h : Hp) (k : Ex → St → Option β) : Option β := o_drawback_carry_L3_G P T D N (fun s => iterK (fun s k => o_drawback_carry_L6 P T D N s.1 s.2 k) N s (o_drawback_carry_aL6 P T D N k)) t h k
def o_drawback_carry_aL3 (P : Program) (T : Tab) (D : DTab) (N : Nat) {β : Type} (K : AV → Hp → Option β) (e : Ex) (s : St) : Option β :=
  e.on ((o_drawback_carry_j2 P T D N K s.1 s.2))
  (fun i => bif i == 3 then ((o_drawback_carry_j2 P T D N K s.1 s.2)) else (none))
  (K (.tup [(s.1 6), (s.1 7), (s.1 8), (s.1 9)]) s.2)
def o_drawback_carry_j1_G (P : Program) (T : Tab) (D : DTab) (N : Nat) {β : Type} (cL3 : St → Option β) (K : AV → Hp → Option β) (t : Tm) (h : Hp) :  Option β :=
callK (T 39) [] h fun x19 h20 =>
lenK (t 1) fun x21 =>
cL3 ((upd (upd (upd (upd (upd t 15 x19) 16 (.s (.slice none 0 0))) 59 (t 1)) 60 x21) 61 (.s (.int .i64 0))), h20)
def o_drawback_carry_j1 (P : Program) (T : Tab) (D : DTab) (N : Nat) {β : Type} (K : AV → Hp → Option β) (t : Tm) (h : Hp) : Option β := o_drawback_carry_j1_G P T D N (fun s => iterK (fun s k => o_drawback_carry_L3 P T D N s.1 s.2 k) N s (o_drawback_carry_aL3 P T D N K)) K t h
def o_drawback_carry_L7 (P : Program) (T : Tab) (D : DTab) (N : Nat) {β : Type} (t : Tm) (h : Hp) (k : Ex → St → Option β) : Option β :=
arithK .lss (t 46) (t 45) fun x99 =>
condK x99 (
iaK 5 (t 44) (t 46) fun x100 =>
ldK 5 true x100 h fun x101 =>
effK (boxE 5 (.agg [.s (.int .i64 0), .s (.int .i64 0), .s (.int .i64 0), .s (.int .i64 0), .s (.int .i64 0)]) (List.length h)) h fun x102 h103 =>
effK (stE 5 x102 x101 h103) h103 fun x104 h105 =>
nilK (t 12) fun x106 =>
faK 0 x106 fun x107 =>
ldK 1 false x107 h105 fun x108 =>
faK 0 x102 fun x109 =>
ldK 1 false x109 h105 fun x110 =>
ldK 5 true x102 h105 fun x111 =>
effK (mupE P 3 x108 x110 x111 h105) h105 fun x112 h113 =>
arithK .add (t 46) (.s (.int .i64 1)) fun x114 =>
k .normal ((upd (upd (upd t 47 x99) 14 x102) 46 x114), h113)) (
k (.exit 1) ((upd t 47 x99), h))
def o_drawback_carry_aL7 (P : Program) (T : Tab) (D : DTab) (N : Nat) {β : Type} (K : AV → Hp → Option β) (e : Ex) (s : St) : Option β :=
  e.on ((o_drawback_carry_j1 P T D N K s.1 s.2))
  (fun i => bif i == 1 then ((o_drawback_carry_j1 P T D N K s.1 s.2)) else (none))
  (K (.tup [(s.1 6), (s.1 7), (s.1 8), (s.1 9)]) s.2)
def o_drawback_carry_G (P : Program) (T : Tab) (D : DTab) (N : Nat) {β : Type} (cL7 : St → Option β) (K : AV → Hp → Option β) (a0 : AV) (a1 : AV) (a2 : AV) (h : Hp) :  Option β :=
callK (T 12) [a0] h fun x1 h2 =>
exK x1 0 fun x3 =>
exK x1 1 fun x4 =>
eqK P true 26 x4 (.s (.int .i64 0)) h2 fun x5 =>
condK x5 (
K (.tup [(.s (.pointer none)), (.s (.slice none 0 0)), (.s (.int .i64 (-1))), (.s (.int .i64 1))]) h2) (
callK (T 27) [a2, (.s (.int .i64 0)), (.s (.int .i64 100000))] h2 fun x6 h7 =>
notK x6 fun x8 =>
condK x8 (
K (.tup [(.s (.pointer none)), (.s (.slice none 0 0)), (.s (.int .i64 (-1))), (.s (.int .i64 2))]) h7) (
lenK a1 fun x9 =>
arithK .gtr x9 (.s (.int .i64 64)) fun x10 =>
condK x10 (
K (.tup [(.s (.pointer none)), (.s (.slice none 0 0)), (.s (.int .i64 (-1))), (.s (.int .i64 8))]) h7) (
effK (some (.mp (List.length h7), EN (.map []))) h7 fun x11 h12 =>
effK (some (.mp (List.length h12), EN (.map []))) h12 fun x13 h14 =>
buildK [.s (.map none), .s (.map none), .s (.int .i64 0), .s (.int .i64 0)] [(some (0, 1), x11), (some (1, 1), x13), (some (3, 1), a2)] fun x15 =>
effK (boxE 4 x15 (List.length h14)) h14 fun x16 h17 =>
lenK a0 fun x18 =>
cL7 ((upd (upd (upd (upd (upd (upd (upd (upd (upd (upd (upd (upd (tm0 [a0, a1, a2]) 6 (.s (.pointer none))) 7 (.s (.slice none 0 0))) 8 (.s (.int .i64 0))) 9 (.s (.int .i64 0))) 11 x4) 28 x5) 31 x8) 35 x10) 12 x16) 44 a0) 45 x18) 46 (.s (.int .i64 0))), h17))))
def o_drawback_carry (P : Program) (T : Tab) (D : DTab) (N : Nat) {β : Type} (K : AV → Hp → Option β) (a0 : AV) (a1 : AV) (a2 : AV) (h : Hp) : Option β := o_drawback_carry_G P T D N (fun s => iterK (fun s k => o_drawback_carry_L7 P T D N s.1 s.2 k) N s (o_drawback_carry_aL7 P T D N K)) K a0 a1 a2 h
def f_drawback_carry_j2 (P : Program) (T : Tab) (D : DTab) (N : Nat) {β : Type} (K : AV → Hp → Option β) (v12 : AV) (v16 : AV) (h : Hp) : Option β :=
K (.tup [v12, v16, (.s (.int .i64 (-1))), (.s (.int .i64 0))]) h
def f_drawback_carry_j4 (P : Program) (T : Tab) (D : DTab) (N : Nat) {β : Type} (xn : AV → AV → AV → AV → AV → AV → Hp → Option β) (x3 : AV → AV → Hp → Option β) (xr : AV → AV → AV → AV → Hp → Option β) (v12 : AV) (v15 : AV) (v16 : AV) (v59 : AV) (v60 : AV) (v61 : AV) (h : Hp) : Option β :=
arithK .add v61 (.s (.int .i64 1)) fun x23 =>
xn v12 v15 v16 v59 v60 x23 h
def f_drawback_carry_j5 (P : Program) (T : Tab) (D : DTab) (N : Nat) {β : Type} (xn : AV → AV → AV → AV → AV → AV → Hp → Option β) (x3 : AV → AV → Hp → Option β) (xr : AV → AV → AV → AV → Hp → Option β) (v12 : AV) (v15 : AV) (v16 : AV) (v18 : AV) (v59 : AV) (v60 : AV) (v61 : AV) (h : Hp) : Option β :=
nilK v12 fun x31 =>
faK 0 x31 fun x32 =>
ldK 1 false x32 h fun x33 =>
faK 0 v18 fun x34 =>
ldK 1 false x34 h fun x35 =>
lookK P 3 (.agg [.s (.int .i64 0), .s (.int .i64 0), .s (.int .i64 0), .s (.int .i64 0), .s (.int .i64 0)]) false x33 x35 h fun x36 =>
nilK v12 fun x37 =>
faK 1 x37 fun x38 =>
ldK 1 false x38 h fun x39 =>
faK 0 v18 fun x40 =>
ldK 1 false x40 h fun x41 =>
lookK P 3 (.s (.int .i64 0)) false x39 x41 h fun x42 =>
effD (boxE 5 (.agg [.s (.int .i64 0), .s (.int .i64 0), .s (.int .i64 0), .s (.int .i64 0), .s (.int .i64 0)]) (List.length h)) h fun x43 h44 e45 =>
effD (stE 5 x43 x36 h44) h44 fun x46 h47 e48 =>
bif disjAll [(3, 14), (5, 14), (6, 14), (10, 14), (12, 14), (13, 14), (10, 15), (12, 15), (13, 15)] [([], []), ([], []), ([], []), ((idsOf x32), []), ([], []), ((idsOf x34), []), ((idsOf x33), []), ([], []), ([], []), ([], []), ((idsOf x38), []), ([], []), ((idsOf x40), []), ((idsOf x39), []), e45, e48, ([], [])] then (
ldK 5 true x43 h47 fun x49 =>
faK 2 v18 fun x50 =>
ldK 1 false x50 h47 fun x51 =>
arithK .add x42 x51 fun x52 =>
effD (callE (D 34) [x49, x52] h47 (List.length h47)) h47 fun x53 h54 e55 =>
ldK 5 true x43 h54 fun x56 =>
effD (callE (D 34) [x56, x42] h54 (List.length h54)) h54 fun x57 h58 e59 =>
arithK .sub x53 x57 fun x60 =>
effD (bsE 1 [.s (.int .i64 0)] 1 [(0, x60)] (List.length h58)) h58 fun x61 h62 e63 =>
effD (appE 1 8 v16 x61 h62 (List.length h62)) h62 fun x64 h65 e66 =>
bif disjAll [(6, 7)] [([], []), ((idsOf x43), []), ([], []), ([], []), ((idsOf x50), []), ([], []), e55, ((idsOf x43), []), ([], []), e59, ([], []), e63, e66, ([], [])] then (
nilK v12 fun x67 =>
faK 1 x67 fun x68 =>
ldK 1 false x68 h65 fun x69 =>
faK 0 v18 fun x70 =>
ldK 1 false x70 h65 fun x71 =>
lookK P 3 (.s (.int .i64 0)) false x69 x71 h65 fun x72 =>
faK 2 v18 fun x73 =>
ldK 1 false x73 h65 fun x74 =>
arithK .add x72 x74 fun x75 =>
effK (mupE P 3 x69 x71 x75 h65) h65 fun x76 h77 =>
faK 1 v18 fun x78 =>
ldK 1 false x78 h77 fun x79 =>
nilK v12 fun x80 =>
faK 2 x80 fun x81 =>
effK (stE 1 x81 x79 h77) h77 fun x82 h83 =>
f_drawback_carry_j4 P T D N xn x3 xr v12 v15 x64 v59 v60 v61 h83) else none) else none
def f_drawback_carry_b6 (P : Program) (T : Tab) (D : DTab) (N : Nat) {β : Type} (xn : AV → AV → AV → AV → AV → AV → AV → AV → AV → AV → AV → Hp → Option β) (x5 : AV → AV → AV → AV → AV → AV → AV → Hp → Option β) (xr : AV → AV → AV → AV → Hp → Option β) (v12 : AV) (v15 : AV) (v16 : AV) (v17 : AV) (v18 : AV) (v59 : AV) (v60 : AV) (v61 : AV) (v66 : AV) (v67 : AV) (v68 : AV) (h : Hp) : Option β :=
arithK .lss v68 v67 fun x84 =>
condK x84 (
iaK 2 v66 v68 fun x85 =>
ldK 2 true x85 h fun x86 =>
effK (boxE 2 (.agg [.s .nilFunc, .s (.int .i64 0)]) (List.length h)) h fun x87 h88 =>
effK (stE 2 x87 x86 h88) h88 fun x89 h90 =>
faK 0 x87 fun x91 =>
ldK 1 false x91 h90 fun x92 =>
ldK 3 true v18 h90 fun x93 =>
callVK T x92 [v12, x93] h90 fun x94 h95 =>
condK x94 (
faK 1 x87 fun x96 =>
ldK 1 false x96 h95 fun x97 =>
xr (.s (.pointer none)) (.s (.slice none 0 0)) v17 x97 h95) (
arithK .add v68 (.s (.int .i64 1)) fun x98 =>
xn v12 v15 v16 v17 v18 v59 v60 v61 v66 v67 x98 h95)) (
x5 v12 v15 v16 v18 v59 v60 v61 h)
def f_drawback_carry_L6 (P : Program) (T : Tab) (D : DTab) (N : Nat) {β : Type} (x5 : AV → AV → AV → AV → AV → AV → AV → Hp → Option β) (xr : AV → AV → AV → AV → Hp → Option β) : Nat → AV → AV → AV → AV → AV → AV → AV → AV → AV → AV → AV → Hp → Option β
  | 0 => fun _ _ _ _ _ _ _ _ _ _ _ _ => none
  | n + 1 => fun v12 v15 v16 v17 v18 v59 v60 v61 v66 v67 v68 h => f_drawback_carry_b6 P T D N (f_drawback_carry_L6 P T D N x5 xr n) x5 xr v12 v15 v16 v17 v18 v59 v60 v61 v66 v67 v68 h
def f_drawback_carry_b3 (P : Program) (T : Tab) (D : DTab) (N : Nat) {β : Type} (xn : AV → AV → AV → AV → AV → AV → Hp → Option β) (x3 : AV → AV → Hp → Option β) (xr : AV → AV → AV → AV → Hp → Option β) (v12 : AV) (v15 : AV) (v16 : AV) (v59 : AV) (v60 : AV) (v61 : AV) (h : Hp) : Option β :=
arithK .lss v61 v60 fun x22 =>
condK x22 (
iaK 3 v59 v61 fun x24 =>
ldK 3 true x24 h fun x25 =>
effK (boxE 3 (.agg [.s (.int .i64 0), .s (.int .i64 0), .s (.int .i64 0)]) (List.length h)) h fun x26 h27 =>
effK (stE 3 x26 x25 h27) h27 fun x28 h29 =>
lenK v15 fun x30 =>
f_drawback_carry_L6 P T D N (fun w99_12 w99_15 w99_16 w99_18 w99_59 w99_60 w99_61 h => f_drawback_carry_j5 P T D N xn x3 xr w99_12 w99_15 w99_16 w99_18 w99_59 w99_60 w99_61 h) (fun w100_6 w100_7 w100_8 w100_9 h => xr w100_6 w100_7 w100_8 w100_9 h) N v12 v15 v16 v61 x26 v59 v60 v61 v15 x30 (.s (.int .i64 0)) h29) (
x3 v12 v16 h)
def f_drawback_carry_L3 (P : Program) (T : Tab) (D : DTab) (N : Nat) {β : Type} (x3 : AV → AV → Hp → Option β) (xr : AV → AV → AV → AV → Hp → Option β) : Nat → AV → AV → AV → AV → AV → AV → Hp → Option β
  | 0 => fun _ _ _ _ _ _ _ => none
  | n + 1 => fun v12 v15 v16 v59 v60 v61 h => f_drawback_carry_b3 P T D N (f_drawback_carry_L3 P T D N x3 xr n) x3 xr v12 v15 v16 v59 v60 v61 h
def f_drawback_carry_j1 (P : Program) (T : Tab) (D : DTab) (N : Nat) {β : Type} (K : AV → Hp → Option β) (v1 : AV) (v12 : AV) (h : Hp) : Option β :=
callK (T 39) [] h fun x19 h20 =>
lenK v1 fun x21 =>
f_drawback_carry_L3 P T D N (fun w101_12 w101_16 h => f_drawback_carry_j2 P T D N K w101_12 w101_16 h) (fun w102_6 w102_7 w102_8 w102_9 h => K (.tup [w102_6, w102_7, w102_8, w102_9]) h) N v12 x19 (.s (.slice none 0 0)) v1 x21 (.s (.int .i64 0)) h20
def f_drawback_carry_b7 (P : Program) (T : Tab) (D : DTab) (N : Nat) {β : Type} (xn : AV → AV → AV → AV → AV → Hp → Option β) (x1 : AV → AV → Hp → Option β) (v1 : AV) (v12 : AV) (v44 : AV) (v45 : AV) (v46 : AV) (h : Hp) : Option β :=
arithK .lss v46 v45 fun x103 =>
condK x103 (
iaK 5 v44 v46 fun x104 =>
ldK 5 true x104 h fun x105 =>
effK (boxE 5 (.agg [.s (.int .i64 0), .s (.int .i64 0), .s (.int .i64 0), .s (.int .i64 0), .s (.int .i64 0)]) (List.length h)) h fun x106 h107 =>
effK (stE 5 x106 x105 h107) h107 fun x108 h109 =>
nilK v12 fun x110 =>
faK 0 x110 fun x111 =>
ldK 1 false x111 h109 fun x112 =>
faK 0 x106 fun x113 =>
ldK 1 false x113 h109 fun x114 =>
ldK 5 true x106 h109 fun x115 =>
effK (mupE P 3 x112 x114 x115 h109) h109 fun x116 h117 =>
arithK .add v46 (.s (.int .i64 1)) fun x118 =>
xn v1 v12 v44 v45 x118 h117) (
x1 v1 v12 h)
def f_drawback_carry_L7 (P : Program) (T : Tab) (D : DTab) (N : Nat) {β : Type} (x1 : AV → AV → Hp → Option β) : Nat → AV → AV → AV → AV → AV → Hp → Option β
  | 0 => fun _ _ _ _ _ _ => none
  | n + 1 => fun v1 v12 v44 v45 v46 h => f_drawback_carry_b7 P T D N (f_drawback_carry_L7 P T D N x1 n) x1 v1 v12 v44 v45 v46 h
/-- spile/drawback.carry -/
def f_drawback_carry (P : Program) (T : Tab) (D : DTab) (N : Nat) {β : Type} (K : AV → Hp → Option β) (a0 : AV) (a1 : AV) (a2 : AV) (h : Hp) : Option β :=
callK (T 12) [a0] h fun x1 h2 =>
exK x1 0 fun x3 =>
exK x1 1 fun x4 =>
eqK P true 26 x4 (.s (.int .i64 0)) h2 fun x5 =>
condK x5 (
K (.tup [(.s (.pointer none)), (.s (.slice none 0 0)), (.s (.int .i64 (-1))), (.s (.int .i64 1))]) h2) (
callK (T 27) [a2, (.s (.int .i64 0)), (.s (.int .i64 100000))] h2 fun x6 h7 =>
notK x6 fun x8 =>
condK x8 (
K (.tup [(.s (.pointer none)), (.s (.slice none 0 0)), (.s (.int .i64 (-1))), (.s (.int .i64 2))]) h7) (
lenK a1 fun x9 =>
arithK .gtr x9 (.s (.int .i64 64)) fun x10 =>
condK x10 (
K (.tup [(.s (.pointer none)), (.s (.slice none 0 0)), (.s (.int .i64 (-1))), (.s (.int .i64 8))]) h7) (
effK (some (.mp (List.length h7), EN (.map []))) h7 fun x11 h12 =>
effK (some (.mp (List.length h12), EN (.map []))) h12 fun x13 h14 =>
buildK [.s (.map none), .s (.map none), .s (.int .i64 0), .s (.int .i64 0)] [(some (0, 1), x11), (some (1, 1), x13), (some (3, 1), a2)] fun x15 =>
effK (boxE 4 x15 (List.length h14)) h14 fun x16 h17 =>
lenK a0 fun x18 =>
f_drawback_carry_L7 P T D N (fun w119_1 w119_12 h => f_drawback_carry_j1 P T D N K w119_1 w119_12 h) N a1 x16 a0 x18 (.s (.int .i64 0)) h17)))
theorem f_drawback_carry_j2_eq (P : Program) (T : Tab) (D : DTab) (N : Nat) {β : Type} (K : AV → Hp → Option β) (t : Tm) (h : Hp) : o_drawback_carry_j2 P T D N K t h = f_drawback_carry_j2 P T D N K (t 12) (t 16) h := by kernel_rfl
theorem f_drawback_carry_j4_eq (P : Program) (T : Tab) (D : DTab) (N : Nat) {β : Type} (xn : AV → AV → AV → AV → AV → AV → Hp → Option β) (x3 : AV → AV → Hp → Option β) (xr : AV → AV → AV → AV → Hp → Option β) (xd : Nat → St → Option β) (xq : St → Option β) (t : Tm) (h : Hp) : o_drawback_carry_j4 P T D N (fun (e : Ex) (s : St) => e.on (xn (s.1 12) (s.1 15) (s.1 16) (s.1 59) (s.1 60) (s.1 61) s.2) (fun i => (bif i == 3 then x3 (s.1 12) (s.1 16) s.2 else (xd i s))) (xr (s.1 6) (s.1 7) (s.1 8) (s.1 9) s.2)) t h = f_drawback_carry_j4 P T D N xn x3 xr (t 12) (t 15) (t 16) (t 59) (t 60) (t 61) h := by kernel_rfl
theorem f_drawback_carry_j5_eq (P : Program) (T : Tab) (D : DTab) (N : Nat) {β : Type} (xn : AV → AV → AV → AV → AV → AV → Hp → Option β) (x3 : AV → AV → Hp → Option β) (xr : AV → AV → AV → AV → Hp → Option β) (xd : Nat → St → Option β) (xq : St → Option β) (t : Tm) (h : Hp) : o_drawback_carry_j5 P T D N (fun (e : Ex) (s : St) => e.on (xn (s.1 12) (s.1 15) (s.1 16) (s.1 59) (s.1 60) (s.1 61) s.2) (fun i => (bif i == 3 then x3 (s.1 12) (s.1 16) s.2 else (xd i s))) (xr (s.1 6) (s.1 7) (s.1 8) (s.1 9) s.2)) t h = f_drawback_carry_j5 P T D N xn x3 xr (t 12) (t 15) (t 16) (t 18) (t 59) (t 60) (t 61) h := by kernel_rfl
theorem f_drawback_carry_b6_eq (P : Program) (T : Tab) (D : DTab) (N : Nat) {β : Type} (xn : AV → AV → AV → AV → AV → AV → AV → AV → AV → AV → AV → Hp → Option β) (x5 : AV → AV → AV → AV → AV → AV → AV → Hp → Option β) (xr : AV → AV → AV → AV → Hp → Option β) (xd : Nat → St → Option β) (xq : St → Option β) (t : Tm) (h : Hp) : o_drawback_carry_L6 P T D N t h (fun (e : Ex) (s : St) => e.on (xn (s.1 12) (s.1 15) (s.1 16) (s.1 17) (s.1 18) (s.1 59) (s.1 60) (s.1 61) (s.1 66) (s.1 67) (s.1 68) s.2) (fun i => (bif i == 5 then x5 (s.1 12) (s.1 15) (s.1 16) (s.1 18) (s.1 59) (s.1 60) (s.1 61) s.2 else (xd i s))) (xr (s.1 6) (s.1 7) (s.1 8) (s.1 9) s.2)) = f_drawback_carry_b6 P T D N xn x5 xr (t 12) (t 15) (t 16) (t 17) (t 18) (t 59) (t 60) (t 61) (t 66) (t 67) (t 68) h := by kernel_rfl
theorem f_drawback_carry_L6_eq (P : Program) (T : Tab) (D : DTab) (N : Nat) {β : Type} (A : Ex → St → Option β) (x5 : AV → AV → AV → AV → AV → AV → AV → Hp → Option β) (xr : AV → AV → AV → AV → Hp → Option β) (q5 : ∀ s, A (.exit 5) s = x5 (s.1 12) (s.1 15) (s.1 16) (s.1 18) (s.1 59) (s.1 60) (s.1 61) s.2) (qr : ∀ s, A .ret s = xr (s.1 6) (s.1 7) (s.1 8) (s.1 9) s.2) : ∀ (n : Nat) (s : St), iterK (fun s k => o_drawback_carry_L6 P T D N s.1 s.2 k) n s A = f_drawback_carry_L6 P T D N x5 xr n (s.1 12) (s.1 15) (s.1 16) (s.1 17) (s.1 18) (s.1 59) (s.1 60) (s.1 61) (s.1 66) (s.1 67) (s.1 68) s.2 := by
  intro n
  induction n with
  | zero => intro s; rfl
  | succ n ih =>
    intro s
    have hk : (fun (e : Ex) (s' : St) => Ex.on e (iterK (fun s k => o_drawback_carry_L6 P T D N s.1 s.2 k) n s' A) (fun i => A (.exit i) s') (A .ret s')) = (fun (e : Ex) (s : St) => e.on ((f_drawback_carry_L6 P T D N x5 xr n) (s.1 12) (s.1 15) (s.1 16) (s.1 17) (s.1 18) (s.1 59) (s.1 60) (s.1 61) (s.1 66) (s.1 67) (s.1 68) s.2) (fun i => (bif i == 5 then x5 (s.1 12) (s.1 15) (s.1 16) (s.1 18) (s.1 59) (s.1 60) (s.1 61) s.2 else (A (.exit i) s))) (xr (s.1 6) (s.1 7) (s.1 8) (s.1 9) s.2)) := by
      funext e s'
      cases e with
      | normal => exact ih s'
      | ret => exact qr s'
      | exit i =>
        by_cases r5 : i = 5
        · subst r5; exact q5 s'
        simp only [Ex.on, beq_false_of_ne r5, cond_false]
    show o_drawback_carry_L6 P T D N s.1 s.2 (fun (e : Ex) (s' : St) => Ex.on e (iterK (fun s k => o_drawback_carry_L6 P T D N s.1 s.2 k) n s' A) (fun i => A (.exit i) s') (A .ret s')) = _
    rw [hk]
    exact f_drawback_carry_b6_eq P T D N (f_drawback_carry_L6 P T D N x5 xr n) x5 xr (fun i s => A (.exit i) s) (fun s => A .ret s) s.1 s.2
theorem f_drawback_carry_b3_eq (P : Program) (T : Tab) (D : DTab) (N : Nat) {β : Type} (xn : AV → AV → AV → AV → AV → AV → Hp → Option β) (x3 : AV → AV → Hp → Option β) (xr : AV → AV → AV → AV → Hp → Option β) (xd : Nat → St → Option β) (xq : St → Option β) (t : Tm) (h : Hp) : o_drawback_carry_L3 P T D N t h (fun (e : Ex) (s : St) => e.on (xn (s.1 12) (s.1 15) (s.1 16) (s.1 59) (s.1 60) (s.1 61) s.2) (fun i => (bif i == 3 then x3 (s.1 12) (s.1 16) s.2 else (xd i s))) (xr (s.1 6) (s.1 7) (s.1 8) (s.1 9) s.2)) = f_drawback_carry_b3 P T D N xn x3 xr (t 12) (t 15) (t 16) (t 59) (t 60) (t 61) h := by
  have eL6 : (fun s : St => iterK (fun s k => o_drawback_carry_L6 P T D N s.1 s.2 k) N s (o_drawback_carry_aL6 P T D N (fun (e : Ex) (s : St) => e.on (xn (s.1 12) (s.1 15) (s.1 16) (s.1 59) (s.1 60) (s.1 61) s.2) (fun i => (bif i == 3 then x3 (s.1 12) (s.1 16) s.2 else (xd i s))) (xr (s.1 6) (s.1 7) (s.1 8) (s.1 9) s.2)))) = (fun s : St => f_drawback_carry_L6 P T D N (fun w99_12 w99_15 w99_16 w99_18 w99_59 w99_60 w99_61 h => f_drawback_carry_j5 P T D N xn x3 xr w99_12 w99_15 w99_16 w99_18 w99_59 w99_60 w99_61 h) (fun w100_6 w100_7 w100_8 w100_9 h => xr w100_6 w100_7 w100_8 w100_9 h) N (s.1 12) (s.1 15) (s.1 16) (s.1 17) (s.1 18) (s.1 59) (s.1 60) (s.1 61) (s.1 66) (s.1 67) (s.1 68) s.2) := funext fun s => f_drawback_carry_L6_eq P T D N (o_drawback_carry_aL6 P T D N (fun (e : Ex) (s : St) => e.on (xn (s.1 12) (s.1 15) (s.1 16) (s.1 59) (s.1 60) (s.1 61) s.2) (fun i => (bif i == 3 then x3 (s.1 12) (s.1 16) s.2 else (xd i s))) (xr (s.1 6) (s.1 7) (s.1 8) (s.1 9) s.2))) (fun w99_12 w99_15 w99_16 w99_18 w99_59 w99_60 w99_61 h => f_drawback_carry_j5 P T D N xn x3 xr w99_12 w99_15 w99_16 w99_18 w99_59 w99_60 w99_61 h) (fun w100_6 w100_7 w100_8 w100_9 h => xr w100_6 w100_7 w100_8 w100_9 h) (fun s => rfl) (fun s => rfl) N s
  show o_drawback_carry_L3_G P T D N (fun s => iterK (fun s k => o_drawback_carry_L6 P T D N s.1 s.2 k) N s (o_drawback_carry_aL6 P T D N (fun (e : Ex) (s : St) => e.on (xn (s.1 12) (s.1 15) (s.1 16) (s.1 59) (s.1 60) (s.1 61) s.2) (fun i => (bif i == 3 then x3 (s.1 12) (s.1 16) s.2 else (xd i s))) (xr (s.1 6) (s.1 7) (s.1 8) (s.1 9) s.2)))) t h (fun (e : Ex) (s : St) => e.on (xn (s.1 12) (s.1 15) (s.1 16) (s.1 59) (s.1 60) (s.1 61) s.2) (fun i => (bif i == 3 then x3 (s.1 12) (s.1 16) s.2 else (xd i s))) (xr (s.1 6) (s.1 7) (s.1 8) (s.1 9) s.2)) = _
  rw [eL6]
  kernel_rfl
theorem f_drawback_carry_L3_eq (P : Program) (T : Tab) (D : DTab) (N : Nat) {β : Type} (A : Ex → St → Option β) (x3 : AV → AV → Hp → Option β) (xr : AV → AV → AV → AV → Hp → Option β) (q3 : ∀ s, A (.exit 3) s = x3 (s.1 12) (s.1 16) s.2) (qr : ∀ s, A .ret s = xr (s.1 6) (s.1 7) (s.1 8) (s.1 9) s.2) : ∀ (n : Nat) (s : St), iterK (fun s k => o_drawback_carry_L3 P T D N s.1 s.2 k) n s A = f_drawback_carry_L3 P T D N x3 xr n (s.1 12) (s.1 15) (s.1 16) (s.1 59) (s.1 60) (s.1 61) s.2 := by
  intro n
  induction n with
  | zero => intro s; rfl
  | succ n ih =>
    intro s
    have hk : (fun (e : Ex) (s' : St) => Ex.on e (iterK (fun s k => o_drawback_carry_L3 P T D N s.1 s.2 k) n s' A) (fun i => A (.exit i) s') (A .ret s')) = (fun (e : Ex) (s : St) => e.on ((f_drawback_carry_L3 P T D N x3 xr n) (s.1 12) (s.1 15) (s.1 16) (s.1 59) (s.1 60) (s.1 61) s.2) (fun i => (bif i == 3 then x3 (s.1 12) (s.1 16) s.2 else (A (.exit i) s))) (xr (s.1 6) (s.1 7) (s.1 8) (s.1 9) s.2)) := by
      funext e s'
      cases e with
      | normal => exact ih s'
      | ret => exact qr s'
      | exit i =>
        by_cases r3 : i = 3
        · subst r3; exact q3 s'
        simp only [Ex.on, beq_false_of_ne r3, cond_false]
    show o_drawback_carry_L3 P T D N s.1 s.2 (fun (e : Ex) (s' : St) => Ex.on e (iterK (fun s k => o_drawback_carry_L3 P T D N s.1 s.2 k) n s' A) (fun i => A (.exit i) s') (A .ret s')) = _
    rw [hk]
    exact f_drawback_carry_b3_eq P T D N (f_drawback_carry_L3 P T D N x3 xr n) x3 xr (fun i s => A (.exit i) s) (fun s => A .ret s) s.1 s.2
theorem f_drawback_carry_j1_eq (P : Program) (T : Tab) (D : DTab) (N : Nat) {β : Type} (K : AV → Hp → Option β) (t : Tm) (h : Hp) : o_drawback_carry_j1 P T D N K t h = f_drawback_carry_j1 P T D N K (t 1) (t 12) h := by
  have eL3 : (fun s : St => iterK (fun s k => o_drawback_carry_L3 P T D N s.1 s.2 k) N s (o_drawback_carry_aL3 P T D N K)) = (fun s : St => f_drawback_carry_L3 P T D N (fun w101_12 w101_16 h => f_drawback_carry_j2 P T D N K w101_12 w101_16 h) (fun w102_6 w102_7 w102_8 w102_9 h => K (.tup [w102_6, w102_7, w102_8, w102_9]) h) N (s.1 12) (s.1 15) (s.1 16) (s.1 59) (s.1 60) (s.1 61) s.2) := funext fun s => f_drawback_carry_L3_eq P T D N (o_drawback_carry_aL3 P T D N K) (fun w101_12 w101_16 h => f_drawback_carry_j2 P T D N K w101_12 w101_16 h) (fun w102_6 w102_7 w102_8 w102_9 h => K (.tup [w102_6, w102_7, w102_8, w102_9]) h) (fun s => rfl) (fun s => rfl) N s
  show o_drawback_carry_j1_G P T D N (fun s => iterK (fun s k => o_drawback_carry_L3 P T D N s.1 s.2 k) N s (o_drawback_carry_aL3 P T D N K)) K t h = _
  rw [eL3]
  kernel_rfl
theorem f_drawback_carry_b7_eq (P : Program) (T : Tab) (D : DTab) (N : Nat) {β : Type} (xn : AV → AV → AV → AV → AV → Hp → Option β) (x1 : AV → AV → Hp → Option β) (xd : Nat → St → Option β) (xq : St → Option β) (t : Tm) (h : Hp) : o_drawback_carry_L7 P T D N t h (fun (e : Ex) (s : St) => e.on (xn (s.1 1) (s.1 12) (s.1 44) (s.1 45) (s.1 46) s.2) (fun i => (bif i == 1 then x1 (s.1 1) (s.1 12) s.2 else (xd i s))) (xq s)) = f_drawback_carry_b7 P T D N xn x1 (t 1) (t 12) (t 44) (t 45) (t 46) h := by kernel_rfl
theorem f_drawback_carry_L7_eq (P : Program) (T : Tab) (D : DTab) (N : Nat) {β : Type} (A : Ex → St → Option β) (x1 : AV → AV → Hp → Option β) (q1 : ∀ s, A (.exit 1) s = x1 (s.1 1) (s.1 12) s.2) : ∀ (n : Nat) (s : St), iterK (fun s k => o_drawback_carry_L7 P T D N s.1 s.2 k) n s A = f_drawback_carry_L7 P T D N x1 n (s.1 1) (s.1 12) (s.1 44) (s.1 45) (s.1 46) s.2 := by
  intro n
  induction n with
  | zero => intro s; rfl
  | succ n ih =>
    intro s
    have hk : (fun (e : Ex) (s' : St) => Ex.on e (iterK (fun s k => o_drawback_carry_L7 P T D N s.1 s.2 k) n s' A) (fun i => A (.exit i) s') (A .ret s')) = (fun (e : Ex) (s : St) => e.on ((f_drawback_carry_L7 P T D N x1 n) (s.1 1) (s.1 12) (s.1 44) (s.1 45) (s.1 46) s.2) (fun i => (bif i == 1 then x1 (s.1 1) (s.1 12) s.2 else (A (.exit i) s))) (A .ret s)) := by
      funext e s'
      cases e with
      | normal => exact ih s'
      | ret => exact rfl
      | exit i =>
        by_cases r1 : i = 1
        · subst r1; exact q1 s'
        simp only [Ex.on, beq_false_of_ne r1, cond_false]
    show o_drawback_carry_L7 P T D N s.1 s.2 (fun (e : Ex) (s' : St) => Ex.on e (iterK (fun s k => o_drawback_carry_L7 P T D N s.1 s.2 k) n s' A) (fun i => A (.exit i) s') (A .ret s')) = _
    rw [hk]
    exact f_drawback_carry_b7_eq P T D N (f_drawback_carry_L7 P T D N x1 n) x1 (fun i s => A (.exit i) s) (fun s => A .ret s) s.1 s.2
theorem f_drawback_carry_old_eq (P : Program) (T : Tab) (D : DTab) (N : Nat) {β : Type} (K : AV → Hp → Option β) (a0 : AV) (a1 : AV) (a2 : AV) (h : Hp) : o_drawback_carry P T D N K a0 a1 a2 h = f_drawback_carry P T D N K a0 a1 a2 h := by
  have eL7 : (fun s : St => iterK (fun s k => o_drawback_carry_L7 P T D N s.1 s.2 k) N s (o_drawback_carry_aL7 P T D N K)) = (fun s : St => f_drawback_carry_L7 P T D N (fun w119_1 w119_12 h => f_drawback_carry_j1 P T D N K w119_1 w119_12 h) N (s.1 1) (s.1 12) (s.1 44) (s.1 45) (s.1 46) s.2) := funext fun s => f_drawback_carry_L7_eq P T D N (o_drawback_carry_aL7 P T D N K) (fun w119_1 w119_12 h => f_drawback_carry_j1 P T D N K w119_1 w119_12 h) (fun s => f_drawback_carry_j1_eq P T D N K s.1 s.2) N s
  show o_drawback_carry_G P T D N (fun s => iterK (fun s k => o_drawback_carry_L7 P T D N s.1 s.2 k) N s (o_drawback_carry_aL7 P T D N K)) K a0 a1 a2 h = _
  rw [eL7]
  kernel_rfl
theorem o_drawback_carry_run (T : Tab) (D : DTab) (N : Nat) {β : Type} (K : AV → Hp → Option β) (a0 : AV) (a1 : AV) (a2 : AV) (h : Hp) : runK Try.prog T D N [0, 1, 2, 6, 7, 8, 9, 11, 12, 14, 15, 16, 17, 18, 20, 21, 22, 28, 31, 35, 44, 45, 46, 47, 59, 60, 61, 62, 66, 67, 68, 69, 76] Try.f29 K [a0, a1, a2] h = o_drawback_carry Try.prog T D N K a0 a1 a2 h := by kernel_rfl
theorem f_drawback_carry_run (T : Tab) (D : DTab) (N : Nat) {β : Type} (K : AV → Hp → Option β) (a0 : AV) (a1 : AV) (a2 : AV) (h : Hp) : runK Try.prog T D N [0, 1, 2, 6, 7, 8, 9, 11, 12, 14, 15, 16, 17, 18, 20, 21, 22, 28, 31, 35, 44, 45, 46, 47, 59, 60, 61, 62, 66, 67, 68, 69, 76] Try.f29 K [a0, a1, a2] h = f_drawback_carry Try.prog T D N K a0 a1 a2 h := (o_drawback_carry_run T D N K a0 a1 a2 h).trans (f_drawback_carry_old_eq Try.prog T D N K a0 a1 a2 h)
/-- spile/spileref48.refused -/
def f_ref48_refused (P : Program) (T : Tab) (D : DTab) (N : Nat) {β : Type} (K : AV → Hp → Option β) (a0 : AV) (a1 : AV) (a2 : AV) (a3 : AV) (h : Hp) : Option β :=
effK (boxE 3 a2 (List.length h)) h fun x1 h2 =>
faK 0 x1 fun x3 =>
ldK 1 false x3 h2 fun x4 =>
callK (T 28) [x4, (.s (.int .i64 1)), (.s (.int .i64 1073741824))] h2 fun x5 h6 =>
notK x5 fun x7 =>
grpK false x7 h6 (fun k8 =>
faK 1 x1 fun x9 =>
ldK 1 false x9 h6 fun x10 =>
callK (T 28) [x10, (.s (.int .i64 0)), (.s (.int .i64 100000))] h6 fun x11 h12 =>
notK x11 fun x13 =>
k8 x13 h12) fun x14 h15 =>
grpK false x14 h15 (fun k16 =>
faK 2 x1 fun x17 =>
ldK 1 false x17 h15 fun x18 =>
callK (T 28) [x18, (.s (.int .i64 1)), (.s (.int .i64 10737418240000))] h15 fun x19 h20 =>
notK x19 fun x21 =>
k16 x21 h20) fun x22 h23 =>
condK x22 (
K (.s (.int .i64 2)) h23) (
lenK a1 fun x24 =>
arithK .gtr x24 (.s (.int .i64 0)) fun x25 =>
grpK true x25 h23 (fun k26 =>
faK 1 x1 fun x27 =>
ldK 1 false x27 h23 fun x28 =>
lenK a1 fun x29 =>
arithK .sub x29 (.s (.int .i64 1)) fun x30 =>
iaK 3 a1 x30 fun x31 =>
faK 1 x31 fun x32 =>
ldK 1 false x32 h23 fun x33 =>
arithK .lss x28 x33 fun x34 =>
k26 x34 h23) fun x35 h36 =>
condK x35 (
K (.s (.int .i64 5)) h36) (
faK 0 x1 fun x37 =>
ldK 1 false x37 h36 fun x38 =>
callK (T 31) [a0, x38] h36 fun x39 h40 =>
arithK .lss x39 (.s (.int .i64 0)) fun x41 =>
condK x41 (
K (.s (.int .i64 7)) h40) (
faK 1 x1 fun x42 =>
ldK 1 false x42 h40 fun x43 =>
iaK 5 a0 x39 fun x44 =>
faK 2 x44 fun x45 =>
ldK 1 false x45 h40 fun x46 =>
arithK .lss x43 x46 fun x47 =>
condK x47 (
K (.s (.int .i64 11)) h40) (
faK 1 x1 fun x48 =>
ldK 1 false x48 h40 fun x49 =>
iaK 5 a0 x39 fun x50 =>
faK 2 x50 fun x51 =>
ldK 1 false x51 h40 fun x52 =>
arithK .sub x49 x52 fun x53 =>
arithK .gtr x53 a3 fun x54 =>
condK x54 (
K (.s (.int .i64 23)) h40) (
faK 0 x1 fun x55 =>
ldK 1 false x55 h40 fun x56 =>
effD (callE (D 32) [a1, x56] h40 (List.length h40)) h40 fun x57 h58 e59 =>
faK 2 x1 fun x60 =>
ldK 1 false x60 h58 fun x61 =>
arithK .add x57 x61 fun x62 =>
iaK 5 a0 x39 fun x63 =>
faK 3 x63 fun x64 =>
ldK 1 false x64 h58 fun x65 =>
arithK .gtr x62 x65 fun x66 =>
bif disjAll [(3, 5), (3, 11)] [([], []), ([], []), ((idsOf x55), []), e59, ([], []), ((idsOf x60), []), ([], []), ([], []), ([], []), ([], []), ([], []), ((idsOf x64), []), ([], []), ([], [])] then (
condK x66 (
K (.s (.int .i64 17)) h58) (
K (.s (.int .i64 0)) h58)) else none)))))
theorem f_ref48_refused_run (T : Tab) (D : DTab) (N : Nat) {β : Type} (K : AV → Hp → Option β) (a0 : AV) (a1 : AV) (a2 : AV) (a3 : AV) (h : Hp) : runK Try.prog T D N [0, 1, 2, 3, 6, 8, 9, 25, 40, 45, 48, 57, 68] Try.f30 K [a0, a1, a2, a3] h = f_ref48_refused Try.prog T D N K a0 a1 a2 a3 h := by kernel_rfl
def o_ref48_find_j1 (P : Program) (T : Tab) (D : DTab) (N : Nat) {β : Type} (K : AV → Hp → Option β) (t : Tm) (h : Hp) : Option β :=
K (.s (.int .i64 (-1))) h
def o_ref48_find_L2 (P : Program) (T : Tab) (D : DTab) (N : Nat) {β : Type} (t : Tm) (h : Hp) (k : Ex → St → Option β) : Option β :=
lenK (t 0) fun x1 =>
arithK .lss (t 5) x1 fun x2 =>
condK x2 (
iaK 5 (t 0) (t 5) fun x3 =>
faK 0 x3 fun x4 =>
ldK 1 false x4 h fun x5 =>
eqK P false 3 x5 (t 1) h fun x6 =>
condK x6 (
k .ret ((upd (upd (upd t 9 x2) 18 x6) 4 (t 5)), h)) (
arithK .add (t 5) (.s (.int .i64 1)) fun x7 =>
k .normal ((upd (upd (upd t 9 x2) 18 x6) 5 x7), h))) (
k (.exit 0) ((upd t 9 x2), h))
def o_ref48_find_aL2 (P : Program) (T : Tab) (D : DTab) (N : Nat) {β : Type} (K : AV → Hp → Option β) (e : Ex) (s : St) : Option β :=
  e.on ((o_ref48_find_j1 P T D N K s.1 s.2))
  (fun i => bif i == 0 then ((o_ref48_find_j1 P T D N K s.1 s.2)) else (none))
  (K (s.1 4) s.2)
def o_ref48_find_G (P : Program) (T : Tab) (D : DTab) (N : Nat) {β : Type} (cL2 : St → Option β) (K : AV → Hp → Option β) (a0 : AV) (a1 : AV) (h : Hp) :  Option β :=
cL2 ((upd (upd (tm0 [a0, a1]) 4 (.s (.int .i64 0))) 5 (.s (.int .i64 0))), h)
def o_ref48_find (P : Program) (T : Tab) (D : DTab) (N : Nat) {β : Type} (K : AV → Hp → Option β) (a0 : AV) (a1 : AV) (h : Hp) : Option β := o_ref48_find_G P T D N (fun s => iterK (fun s k => o_ref48_find_L2 P T D N s.1 s.2 k) N s (o_ref48_find_aL2 P T D N K)) K a0 a1 h
def f_ref48_find_j1 (P : Program) (T : Tab) (D : DTab) (N : Nat) {β : Type} (K : AV → Hp → Option β) (h : Hp) : Option β :=
K (.s (.int .i64 (-1))) h
def f_ref48_find_b2 (P : Program) (T : Tab) (D : DTab) (N : Nat) {β : Type} (xn : AV → AV → AV → Hp → Option β) (x0 : Hp → Option β) (xr : AV → Hp → Option β) (v0 : AV) (v1 : AV) (v5 : AV) (h : Hp) : Option β :=
lenK v0 fun x1 =>
arithK .lss v5 x1 fun x2 =>
condK x2 (
iaK 5 v0 v5 fun x3 =>
faK 0 x3 fun x4 =>
ldK 1 false x4 h fun x5 =>
eqK P false 3 x5 v1 h fun x6 =>
condK x6 (
xr v5 h) (
arithK .add v5 (.s (.int .i64 1)) fun x7 =>
xn v0 v1 x7 h)) (
x0 h)
def f_ref48_find_L2 (P : Program) (T : Tab) (D : DTab) (N : Nat) {β : Type} (x0 : Hp → Option β) (xr : AV → Hp → Option β) : Nat → AV → AV → AV → Hp → Option β
  | 0 => fun _ _ _ _ => none
  | n + 1 => fun v0 v1 v5 h => f_ref48_find_b2 P T D N (f_ref48_find_L2 P T D N x0 xr n) x0 xr v0 v1 v5 h
/-- spile/spileref48.find -/
def f_ref48_find (P : Program) (T : Tab) (D : DTab) (N : Nat) {β : Type} (K : AV → Hp → Option β) (a0 : AV) (a1 : AV) (h : Hp) : Option β :=
f_ref48_find_L2 P T D N (fun h => f_ref48_find_j1 P T D N K h) (fun w9_4 h => K w9_4 h) N a0 a1 (.s (.int .i64 0)) h
theorem f_ref48_find_j1_eq (P : Program) (T : Tab) (D : DTab) (N : Nat) {β : Type} (K : AV → Hp → Option β) (t : Tm) (h : Hp) : o_ref48_find_j1 P T D N K t h = f_ref48_find_j1 P T D N K h := by kernel_rfl
theorem f_ref48_find_b2_eq (P : Program) (T : Tab) (D : DTab) (N : Nat) {β : Type} (xn : AV → AV → AV → Hp → Option β) (x0 : Hp → Option β) (xr : AV → Hp → Option β) (xd : Nat → St → Option β) (xq : St → Option β) (t : Tm) (h : Hp) : o_ref48_find_L2 P T D N t h (fun (e : Ex) (s : St) => e.on (xn (s.1 0) (s.1 1) (s.1 5) s.2) (fun i => (bif i == 0 then x0 s.2 else (xd i s))) (xr (s.1 4) s.2)) = f_ref48_find_b2 P T D N xn x0 xr (t 0) (t 1) (t 5) h := by kernel_rfl
theorem f_ref48_find_L2_eq (P : Program) (T : Tab) (D : DTab) (N : Nat) {β : Type} (A : Ex → St → Option β) (x0 : Hp → Option β) (xr : AV → Hp → Option β) (q0 : ∀ s, A (.exit 0) s = x0 s.2) (qr : ∀ s, A .ret s = xr (s.1 4) s.2) : ∀ (n : Nat) (s : St), iterK (fun s k => o_ref48_find_L2 P T D N s.1 s.2 k) n s A = f_ref48_find_L2 P T D N x0 xr n (s.1 0) (s.1 1) (s.1 5) s.2 := by
  intro n
  induction n with
  | zero => intro s; rfl
  | succ n ih =>
    intro s
    have hk : (fun (e : Ex) (s' : St) => Ex.on e (iterK (fun s k => o_ref48_find_L2 P T D N s.1 s.2 k) n s' A) (fun i => A (.exit i) s') (A .ret s')) = (fun (e : Ex) (s : St) => e.on ((f_ref48_find_L2 P T D N x0 xr n) (s.1 0) (s.1 1) (s.1 5) s.2) (fun i => (bif i == 0 then x0 s.2 else (A (.exit i) s))) (xr (s.1 4) s.2)) := by
      funext e s'
      cases e with
      | normal => exact ih s'
      | ret => exact qr s'
      | exit i =>
        by_cases r0 : i = 0
        · subst r0; exact q0 s'
        simp only [Ex.on, beq_false_of_ne r0, cond_false]
    show o_ref48_find_L2 P T D N s.1 s.2 (fun (e : Ex) (s' : St) => Ex.on e (iterK (fun s k => o_ref48_find_L2 P T D N s.1 s.2 k) n s' A) (fun i => A (.exit i) s') (A .ret s')) = _
    rw [hk]
    exact f_ref48_find_b2_eq P T D N (f_ref48_find_L2 P T D N x0 xr n) x0 xr (fun i s => A (.exit i) s) (fun s => A .ret s) s.1 s.2
theorem f_ref48_find_old_eq (P : Program) (T : Tab) (D : DTab) (N : Nat) {β : Type} (K : AV → Hp → Option β) (a0 : AV) (a1 : AV) (h : Hp) : o_ref48_find P T D N K a0 a1 h = f_ref48_find P T D N K a0 a1 h := by
  have eL2 : (fun s : St => iterK (fun s k => o_ref48_find_L2 P T D N s.1 s.2 k) N s (o_ref48_find_aL2 P T D N K)) = (fun s : St => f_ref48_find_L2 P T D N (fun h => f_ref48_find_j1 P T D N K h) (fun w9_4 h => K w9_4 h) N (s.1 0) (s.1 1) (s.1 5) s.2) := funext fun s => f_ref48_find_L2_eq P T D N (o_ref48_find_aL2 P T D N K) (fun h => f_ref48_find_j1 P T D N K h) (fun w9_4 h => K w9_4 h) (fun s => rfl) (fun s => rfl) N s
  show o_ref48_find_G P T D N (fun s => iterK (fun s k => o_ref48_find_L2 P T D N s.1 s.2 k) N s (o_ref48_find_aL2 P T D N K)) K a0 a1 h = _
  rw [eL2]
  kernel_rfl
theorem o_ref48_find_run (T : Tab) (D : DTab) (N : Nat) {β : Type} (K : AV → Hp → Option β) (a0 : AV) (a1 : AV) (h : Hp) : runK Try.prog T D N [0, 1, 4, 5, 9, 18] Try.f31 K [a0, a1] h = o_ref48_find Try.prog T D N K a0 a1 h := by kernel_rfl
theorem f_ref48_find_run (T : Tab) (D : DTab) (N : Nat) {β : Type} (K : AV → Hp → Option β) (a0 : AV) (a1 : AV) (h : Hp) : runK Try.prog T D N [0, 1, 4, 5, 9, 18] Try.f31 K [a0, a1] h = f_ref48_find Try.prog T D N K a0 a1 h := (o_ref48_find_run T D N K a0 a1 h).trans (f_ref48_find_old_eq Try.prog T D N K a0 a1 h)
def o_ref48_claimed_j1 (P : Program) (T : Tab) (D : DTab) (N : Nat) {β : Type} (K : AV → Hp → Option β) (t : Tm) (h : Hp) : Option β :=
K (t 5) h
def o_ref48_claimed_j3 (P : Program) (T : Tab) (D : DTab) (N : Nat) {β : Type} (k : Ex → St → Option β) (t : Tm) (h : Hp) : Option β :=
arithK .add (t 6) (.s (.int .i64 1)) fun x3 =>
k .normal ((upd t 6 x3), h)
def o_ref48_claimed_j4 (P : Program) (T : Tab) (D : DTab) (N : Nat) {β : Type} (k : Ex → St → Option β) (t : Tm) (h : Hp) : Option β :=
(o_ref48_claimed_j3 P T D N k t h)
def o_ref48_claimed_L2 (P : Program) (T : Tab) (D : DTab) (N : Nat) {β : Type} (t : Tm) (h : Hp) (k : Ex → St → Option β) : Option β :=
lenK (t 0) fun x1 =>
arithK .lss (t 6) x1 fun x2 =>
condK x2 (
iaK 3 (t 0) (t 6) fun x4 =>
faK 0 x4 fun x5 =>
ldK 1 false x5 h fun x6 =>
eqK P false 3 x6 (t 1) h fun x7 =>
condK x7 (
iaK 3 (t 0) (t 6) fun x8 =>
faK 2 x8 fun x9 =>
ldK 1 false x9 h fun x10 =>
arithK .add (t 5) x10 fun x11 =>
(o_ref48_claimed_j4 P T D N k (upd (upd (upd t 10 x2) 19 x7) 5 x11) h)) (
(o_ref48_claimed_j4 P T D N k (upd (upd t 10 x2) 19 x7) h))) (
k (.exit 0) ((upd t 10 x2), h))
def o_ref48_claimed_aL2 (P : Program) (T : Tab) (D : DTab) (N : Nat) {β : Type} (K : AV → Hp → Option β) (e : Ex) (s : St) : Option β :=
  e.on ((o_ref48_claimed_j1 P T D N K s.1 s.2))
  (fun i => bif i == 0 then ((o_ref48_claimed_j1 P T D N K s.1 s.2)) else (none))
  (K (s.1 4) s.2)
def o_ref48_claimed_G (P : Program) (T : Tab) (D : DTab) (N : Nat) {β : Type} (cL2 : St → Option β) (K : AV → Hp → Option β) (a0 : AV) (a1 : AV) (h : Hp) :  Option β :=
cL2 ((upd (upd (upd (tm0 [a0, a1]) 4 (.s (.int .i64 0))) 5 (.s (.int .i64 0))) 6 (.s (.int .i64 0))), h)
def o_ref48_claimed (P : Program) (T : Tab) (D : DTab) (N : Nat) {β : Type} (K : AV → Hp → Option β) (a0 : AV) (a1 : AV) (h : Hp) : Option β := o_ref48_claimed_G P T D N (fun s => iterK (fun s k => o_ref48_claimed_L2 P T D N s.1 s.2 k) N s (o_ref48_claimed_aL2 P T D N K)) K a0 a1 h
def f_ref48_claimed_j1 (P : Program) (T : Tab) (D : DTab) (N : Nat) {β : Type} (K : AV → Hp → Option β) (v5 : AV) (h : Hp) : Option β :=
K v5 h
def f_ref48_claimed_j3 (P : Program) (T : Tab) (D : DTab) (N : Nat) {β : Type} (xn : AV → AV → AV → AV → Hp → Option β) (x0 : AV → Hp → Option β) (v0 : AV) (v1 : AV) (v5 : AV) (v6 : AV) (h : Hp) : Option β :=
arithK .add v6 (.s (.int .i64 1)) fun x3 =>
xn v0 v1 v5 x3 h
def f_ref48_claimed_j4 (P : Program) (T : Tab) (D : DTab) (N : Nat) {β : Type} (xn : AV → AV → AV → AV → Hp → Option β) (x0 : AV → Hp → Option β) (v0 : AV) (v1 : AV) (v5 : AV) (v6 : AV) (h : Hp) : Option β :=
f_ref48_claimed_j3 P T D N xn x0 v0 v1 v5 v6 h
def f_ref48_claimed_b2 (P : Program) (T : Tab) (D : DTab) (N : Nat) {β : Type} (xn : AV → AV → AV → AV → Hp → Option β) (x0 : AV → Hp → Option β) (v0 : AV) (v1 : AV) (v5 : AV) (v6 : AV) (h : Hp) : Option β :=
lenK v0 fun x1 =>
arithK .lss v6 x1 fun x2 =>
condK x2 (
iaK 3 v0 v6 fun x4 =>
faK 0 x4 fun x5 =>
ldK 1 false x5 h fun x6 =>
eqK P false 3 x6 v1 h fun x7 =>
condK x7 (
iaK 3 v0 v6 fun x8 =>
faK 2 x8 fun x9 =>
ldK 1 false x9 h fun x10 =>
arithK .add v5 x10 fun x11 =>
f_ref48_claimed_j4 P T D N xn x0 v0 v1 x11 v6 h) (
f_ref48_claimed_j4 P T D N xn x0 v0 v1 v5 v6 h)) (
x0 v5 h)
def f_ref48_claimed_L2 (P : Program) (T : Tab) (D : DTab) (N : Nat) {β : Type} (x0 : AV → Hp → Option β) : Nat → AV → AV → AV → AV → Hp → Option β
  | 0 => fun _ _ _ _ _ => none
  | n + 1 => fun v0 v1 v5 v6 h => f_ref48_claimed_b2 P T D N (f_ref48_claimed_L2 P T D N x0 n) x0 v0 v1 v5 v6 h
/-- spile/spileref48.claimed -/
def f_ref48_claimed (P : Program) (T : Tab) (D : DTab) (N : Nat) {β : Type} (K : AV → Hp → Option β) (a0 : AV) (a1 : AV) (h : Hp) : Option β :=
f_ref48_claimed_L2 P T D N (fun w12_5 h => f_ref48_claimed_j1 P T D N K w12_5 h) N a0 a1 (.s (.int .i64 0)) (.s (.int .i64 0)) h
theorem f_ref48_claimed_j1_eq (P : Program) (T : Tab) (D : DTab) (N : Nat) {β : Type} (K : AV → Hp → Option β) (t : Tm) (h : Hp) : o_ref48_claimed_j1 P T D N K t h = f_ref48_claimed_j1 P T D N K (t 5) h := by kernel_rfl
theorem f_ref48_claimed_j3_eq (P : Program) (T : Tab) (D : DTab) (N : Nat) {β : Type} (xn : AV → AV → AV → AV → Hp → Option β) (x0 : AV → Hp → Option β) (xd : Nat → St → Option β) (xq : St → Option β) (t : Tm) (h : Hp) : o_ref48_claimed_j3 P T D N (fun (e : Ex) (s : St) => e.on (xn (s.1 0) (s.1 1) (s.1 5) (s.1 6) s.2) (fun i => (bif i == 0 then x0 (s.1 5) s.2 else (xd i s))) (xq s)) t h = f_ref48_claimed_j3 P T D N xn x0 (t 0) (t 1) (t 5) (t 6) h := by kernel_rfl
theorem f_ref48_claimed_j4_eq (P : Program) (T : Tab) (D : DTab) (N : Nat) {β : Type} (xn : AV → AV → AV → AV → Hp → Option β) (x0 : AV → Hp → Option β) (xd : Nat → St → Option β) (xq : St → Option β) (t : Tm) (h : Hp) : o_ref48_claimed_j4 P T D N (fun (e : Ex) (s : St) => e.on (xn (s.1 0) (s.1 1) (s.1 5) (s.1 6) s.2) (fun i => (bif i == 0 then x0 (s.1 5) s.2 else (xd i s))) (xq s)) t h = f_ref48_claimed_j4 P T D N xn x0 (t 0) (t 1) (t 5) (t 6) h := by kernel_rfl
theorem f_ref48_claimed_b2_eq (P : Program) (T : Tab) (D : DTab) (N : Nat) {β : Type} (xn : AV → AV → AV → AV → Hp → Option β) (x0 : AV → Hp → Option β) (xd : Nat → St → Option β) (xq : St → Option β) (t : Tm) (h : Hp) : o_ref48_claimed_L2 P T D N t h (fun (e : Ex) (s : St) => e.on (xn (s.1 0) (s.1 1) (s.1 5) (s.1 6) s.2) (fun i => (bif i == 0 then x0 (s.1 5) s.2 else (xd i s))) (xq s)) = f_ref48_claimed_b2 P T D N xn x0 (t 0) (t 1) (t 5) (t 6) h := by kernel_rfl
theorem f_ref48_claimed_L2_eq (P : Program) (T : Tab) (D : DTab) (N : Nat) {β : Type} (A : Ex → St → Option β) (x0 : AV → Hp → Option β) (q0 : ∀ s, A (.exit 0) s = x0 (s.1 5) s.2) : ∀ (n : Nat) (s : St), iterK (fun s k => o_ref48_claimed_L2 P T D N s.1 s.2 k) n s A = f_ref48_claimed_L2 P T D N x0 n (s.1 0) (s.1 1) (s.1 5) (s.1 6) s.2 := by
  intro n
  induction n with
  | zero => intro s; rfl
  | succ n ih =>
    intro s
    have hk : (fun (e : Ex) (s' : St) => Ex.on e (iterK (fun s k => o_ref48_claimed_L2 P T D N s.1 s.2 k) n s' A) (fun i => A (.exit i) s') (A .ret s')) = (fun (e : Ex) (s : St) => e.on ((f_ref48_claimed_L2 P T D N x0 n) (s.1 0) (s.1 1) (s.1 5) (s.1 6) s.2) (fun i => (bif i == 0 then x0 (s.1 5) s.2 else (A (.exit i) s))) (A .ret s)) := by
      funext e s'
      cases e with
      | normal => exact ih s'
      | ret => exact rfl
      | exit i =>
        by_cases r0 : i = 0
        · subst r0; exact q0 s'
        simp only [Ex.on, beq_false_of_ne r0, cond_false]
    show o_ref48_claimed_L2 P T D N s.1 s.2 (fun (e : Ex) (s' : St) => Ex.on e (iterK (fun s k => o_ref48_claimed_L2 P T D N s.1 s.2 k) n s' A) (fun i => A (.exit i) s') (A .ret s')) = _
    rw [hk]
    exact f_ref48_claimed_b2_eq P T D N (f_ref48_claimed_L2 P T D N x0 n) x0 (fun i s => A (.exit i) s) (fun s => A .ret s) s.1 s.2
theorem f_ref48_claimed_old_eq (P : Program) (T : Tab) (D : DTab) (N : Nat) {β : Type} (K : AV → Hp → Option β) (a0 : AV) (a1 : AV) (h : Hp) : o_ref48_claimed P T D N K a0 a1 h = f_ref48_claimed P T D N K a0 a1 h := by
  have eL2 : (fun s : St => iterK (fun s k => o_ref48_claimed_L2 P T D N s.1 s.2 k) N s (o_ref48_claimed_aL2 P T D N K)) = (fun s : St => f_ref48_claimed_L2 P T D N (fun w12_5 h => f_ref48_claimed_j1 P T D N K w12_5 h) N (s.1 0) (s.1 1) (s.1 5) (s.1 6) s.2) := funext fun s => f_ref48_claimed_L2_eq P T D N (o_ref48_claimed_aL2 P T D N K) (fun w12_5 h => f_ref48_claimed_j1 P T D N K w12_5 h) (fun s => rfl) N s
  show o_ref48_claimed_G P T D N (fun s => iterK (fun s k => o_ref48_claimed_L2 P T D N s.1 s.2 k) N s (o_ref48_claimed_aL2 P T D N K)) K a0 a1 h = _
  rw [eL2]
  kernel_rfl
theorem o_ref48_claimed_run (T : Tab) (D : DTab) (N : Nat) {β : Type} (K : AV → Hp → Option β) (a0 : AV) (a1 : AV) (h : Hp) : runK Try.prog T D N [0, 1, 4, 5, 6, 10, 19] Try.f32 K [a0, a1] h = o_ref48_claimed Try.prog T D N K a0 a1 h := by kernel_rfl
theorem f_ref48_claimed_run (T : Tab) (D : DTab) (N : Nat) {β : Type} (K : AV → Hp → Option β) (a0 : AV) (a1 : AV) (h : Hp) : runK Try.prog T D N [0, 1, 4, 5, 6, 10, 19] Try.f32 K [a0, a1] h = f_ref48_claimed Try.prog T D N K a0 a1 h := (o_ref48_claimed_run T D N K a0 a1 h).trans (f_ref48_claimed_old_eq Try.prog T D N K a0 a1 h)
/-- spile/spileref48.share -/
def f_ref48_share (P : Program) (T : Tab) (D : DTab) (N : Nat) {β : Type} (K : AV → Hp → Option β) (a0 : AV) (a1 : AV) (h : Hp) : Option β :=
effK (boxE 5 a0 (List.length h)) h fun x1 h2 =>
faK 4 x1 fun x3 =>
ldK 1 false x3 h2 fun x4 =>
faK 3 x1 fun x5 =>
ldK 1 false x5 h2 fun x6 =>
callK (T 40) [x4, a1, x6] h2 fun x7 h8 =>
exK x7 0 fun x9 =>
exK x7 1 fun x10 =>
K x9 h8
theorem f_ref48_share_run (T : Tab) (D : DTab) (N : Nat) {β : Type} (K : AV → Hp → Option β) (a0 : AV) (a1 : AV) (h : Hp) : runK Try.prog T D N [0, 1, 2, 4, 5] Try.f33 K [a0, a1] h = f_ref48_share Try.prog T D N K a0 a1 h := by kernel_rfl
/-- spile/drawback.part -/
def f_drawback_part (P : Program) (T : Tab) (D : DTab) (N : Nat) {β : Type} (K : AV → Hp → Option β) (a0 : AV) (a1 : AV) (h : Hp) : Option β :=
effK (boxE 5 a0 (List.length h)) h fun x1 h2 =>
faK 4 x1 fun x3 =>
ldK 1 false x3 h2 fun x4 =>
faK 3 x1 fun x5 =>
ldK 1 false x5 h2 fun x6 =>
callK (T 25) [x4, a1, x6] h2 fun x7 h8 =>
exK x7 0 fun x9 =>
exK x7 1 fun x10 =>
exK x7 2 fun x11 =>
K x9 h8
theorem f_drawback_part_run (T : Tab) (D : DTab) (N : Nat) {β : Type} (K : AV → Hp → Option β) (a0 : AV) (a1 : AV) (h : Hp) : runK Try.prog T D N [0, 1, 2, 4, 5] Try.f34 K [a0, a1] h = f_drawback_part Try.prog T D N K a0 a1 h := by kernel_rfl
/-- spile/proportion.amounts -/
def f_proportion_amounts (P : Program) (T : Tab) (D : DTab) (N : Nat) {β : Type} (K : AV → Hp → Option β) (a0 : AV) (h : Hp) : Option β :=
callK (T 41) [a0, (.fn 42 [])] h fun x1 h2 =>
notK x1 fun x3 =>
K x3 h2
theorem f_proportion_amounts_run (T : Tab) (D : DTab) (N : Nat) {β : Type} (K : AV → Hp → Option β) (a0 : AV) (h : Hp) : runK Try.prog T D N [0, 2] Try.f35 K [a0] h = f_proportion_amounts Try.prog T D N K a0 h := by kernel_rfl
/-- spile/proportion.divided -/
def f_proportion_divided (P : Program) (T : Tab) (D : DTab) (N : Nat) {β : Type} (K : AV → Hp → Option β) (a0 : AV) (a1 : AV) (a2 : AV) (h : Hp) : Option β :=
callK (T 44) [a0, a1] h fun x1 h2 =>
effK (boxE 2 (.agg [.s (.int .u64 0), .s (.int .u64 0)]) (List.length h2)) h2 fun x3 h4 =>
effK (stE 2 x3 x1 h4) h4 fun x5 h6 =>
iaA 1 2 x3 (.s (.int .i64 0)) fun x7 =>
ldK 1 false x7 h6 fun x8 =>
convK P 3 77 a2 fun x9 =>
arithK .geq x8 x9 fun x10 =>
condK x10 (
K (.tup [(.s (.int .i64 0)), (.s (.int .i64 0)), (.s (.bool false))]) h6) (
iaA 1 2 x3 (.s (.int .i64 0)) fun x11 =>
ldK 1 false x11 h6 fun x12 =>
iaA 1 2 x3 (.s (.int .i64 1)) fun x13 =>
ldK 1 false x13 h6 fun x14 =>
convK P 3 77 a2 fun x15 =>
callK (T 45) [x12, x14, x15] h6 fun x16 h17 =>
exK x16 0 fun x18 =>
exK x16 1 fun x19 =>
arithK .gtr x18 (.s (.int .u64 128849018880000)) fun x20 =>
condK x20 (
K (.tup [(.s (.int .i64 0)), (.s (.int .i64 0)), (.s (.bool false))]) h17) (
convK P 77 3 x18 fun x21 =>
convK P 77 3 x19 fun x22 =>
K (.tup [x21, x22, (.s (.bool true))]) h17))
theorem f_proportion_divided_run (T : Tab) (D : DTab) (N : Nat) {β : Type} (K : AV → Hp → Option β) (a0 : AV) (a1 : AV) (a2 : AV) (h : Hp) : runK Try.prog T D N [0, 1, 2, 6, 7, 8, 9, 10, 11, 19, 31] Try.f36 K [a0, a1, a2] h = f_proportion_divided Try.prog T D N K a0 a1 a2 h := by kernel_rfl
def f_slices_Grow_Claim_j2 (P : Program) (T : Tab) (D : DTab) (N : Nat) {β : Type} (K : AV → Hp → Option β) (v0 : AV) (h : Hp) : Option β :=
K v0 h
def f_slices_Grow_Claim_j1 (P : Program) (T : Tab) (D : DTab) (N : Nat) {β : Type} (K : AV → Hp → Option β) (v0 : AV) (v1 : AV) (h : Hp) : Option β :=
capK v0 fun x1 =>
lenK v0 fun x2 =>
arithK .sub x1 x2 fun x3 =>
arithK .sub v1 x3 fun x4 =>
arithK .gtr x4 (.s (.int .i64 0)) fun x5 =>
condK x5 (
capK v0 fun x6 =>
sliceK 3 v0 none (some x6) none fun x7 =>
effK (mkE 3 24 [.s (.int .i64 0), .s (.int .i64 0), .s (.int .i64 0)] x7 x4 (List.length h)) h fun x8 h9 =>
lenK v0 fun x10 =>
sliceK 3 x8 none (some x10) none fun x11 =>
f_slices_Grow_Claim_j2 P T D N K x11 h9) (
f_slices_Grow_Claim_j2 P T D N K v0 h)
/-- slices.Grow[[]spile/api.Claim,spile/api.Claim] -/
def f_slices_Grow_Claim (P : Program) (T : Tab) (D : DTab) (N : Nat) {β : Type} (K : AV → Hp → Option β) (a0 : AV) (a1 : AV) (h : Hp) : Option β :=
arithK .lss a1 (.s (.int .i64 0)) fun x12 =>
condK x12 (
none) (
f_slices_Grow_Claim_j1 P T D N K a0 a1 h)
theorem f_slices_Grow_Claim_run (T : Tab) (D : DTab) (N : Nat) {β : Type} (K : AV → Hp → Option β) (a0 : AV) (a1 : AV) (h : Hp) : runK Try.prog T D N [0, 1, 4, 6, 16] Try.f37 K [a0, a1] h = f_slices_Grow_Claim Try.prog T D N K a0 a1 h := by kernel_rfl
/-- spile/spileref47.Between -/
def f_ref47_Between (P : Program) (T : Tab) (D : DTab) (N : Nat) {β : Type} (K : AV → Hp → Option β) (a0 : AV) (a1 : AV) (a2 : AV) (h : Hp) : Option β :=
arithK .geq a0 a1 fun x1 =>
grpK true x1 h (fun k2 =>
arithK .leq a0 a2 fun x3 =>
k2 x3 h) fun x4 h5 =>
K x4 h5
theorem f_ref47_Between_run (T : Tab) (D : DTab) (N : Nat) {β : Type} (K : AV → Hp → Option β) (a0 : AV) (a1 : AV) (a2 : AV) (h : Hp) : runK Try.prog T D N [0, 1, 2, 6] Try.f38 K [a0, a1, a2] h = f_ref47_Between Try.prog T D N K a0 a1 a2 h := by kernel_rfl
/-- spile/drawback.faults -/
def f_drawback_faults (P : Program) (T : Tab) (D : DTab) (N : Nat) {β : Type} (K : AV → Hp → Option β) (h : Hp) : Option β :=
buildK [.s .nilFunc, .s (.int .i64 0)] [(some (0, 1), (.fn 46 [])), (some (1, 1), (.s (.int .i64 2)))] fun x1 =>
buildK [.s .nilFunc, .s (.int .i64 0)] [(some (0, 1), (.fn 47 [])), (some (1, 1), (.s (.int .i64 5)))] fun x2 =>
buildK [.s .nilFunc, .s (.int .i64 0)] [(some (0, 1), (.fn 48 [])), (some (1, 1), (.s (.int .i64 7)))] fun x3 =>
buildK [.s .nilFunc, .s (.int .i64 0)] [(some (0, 1), (.fn 49 [])), (some (1, 1), (.s (.int .i64 11)))] fun x4 =>
buildK [.s .nilFunc, .s (.int .i64 0)] [(some (0, 1), (.fn 50 [])), (some (1, 1), (.s (.int .i64 23)))] fun x5 =>
buildK [.s .nilFunc, .s (.int .i64 0)] [(some (0, 1), (.fn 51 [])), (some (1, 1), (.s (.int .i64 17)))] fun x6 =>
effK (bsE 2 [.s .nilFunc, .s (.int .i64 0)] 6 [(0, x1), (1, x2), (2, x3), (3, x4), (4, x5), (5, x6)] (List.length h)) h fun x7 h8 =>
K x7 h8
theorem f_drawback_faults_run (T : Tab) (D : DTab) (N : Nat) {β : Type} (K : AV → Hp → Option β) (h : Hp) : runK Try.prog T D N [0] Try.f39 K [] h = f_drawback_faults Try.prog T D N K  h := by kernel_rfl
/-- spile/spileref01.Proportion -/
def f_ref01_Proportion (P : Program) (T : Tab) (D : DTab) (N : Nat) {β : Type} (K : AV → Hp → Option β) (a0 : AV) (a1 : AV) (a2 : AV) (h : Hp) : Option β :=
callK (T 52) [a0, a1, a2, (.s (.int .i64 128849018880000))] h fun x1 h2 =>
exK x1 0 fun x3 =>
exK x1 1 fun x4 =>
exK x1 2 fun x5 =>
K (.tup [x3, x4]) h2
theorem f_ref01_Proportion_run (T : Tab) (D : DTab) (N : Nat) {β : Type} (K : AV → Hp → Option β) (a0 : AV) (a1 : AV) (a2 : AV) (h : Hp) : runK Try.prog T D N [0, 1, 2, 6, 7, 8, 9] Try.f40 K [a0, a1, a2] h = f_ref01_Proportion Try.prog T D N K a0 a1 a2 h := by kernel_rfl
/-- slices.ContainsFunc[[]int,int] -/
def f_slices_ContainsFunc_int (P : Program) (T : Tab) (D : DTab) (N : Nat) {β : Type} (K : AV → Hp → Option β) (a0 : AV) (a1 : AV) (h : Hp) : Option β :=
callK (T 53) [a0, a1] h fun x1 h2 =>
arithK .geq x1 (.s (.int .i64 0)) fun x3 =>
K x3 h2
theorem f_slices_ContainsFunc_int_run (T : Tab) (D : DTab) (N : Nat) {β : Type} (K : AV → Hp → Option β) (a0 : AV) (a1 : AV) (h : Hp) : runK Try.prog T D N [0, 1, 4] Try.f41 K [a0, a1] h = f_slices_ContainsFunc_int Try.prog T D N K a0 a1 h := by kernel_rfl
/-- spile/proportion.amounts$1 -/
def f_proportion_amounts_1 (P : Program) (T : Tab) (D : DTab) (N : Nat) {β : Type} (K : AV → Hp → Option β) (a0 : AV) (h : Hp) : Option β :=
callK (T 43) [a0] h fun x1 h2 =>
notK x1 fun x3 =>
K x3 h2
theorem f_proportion_amounts_1_run (T : Tab) (D : DTab) (N : Nat) {β : Type} (K : AV → Hp → Option β) (a0 : AV) (h : Hp) : runK Try.prog T D N [0, 2] Try.f42 K [a0] h = f_proportion_amounts_1 Try.prog T D N K a0 h := by kernel_rfl
/-- spile/proportion.amount -/
def f_proportion_amount (P : Program) (T : Tab) (D : DTab) (N : Nat) {β : Type} (K : AV → Hp → Option β) (a0 : AV) (h : Hp) : Option β :=
arithK .geq a0 (.s (.int .i64 0)) fun x1 =>
grpK true x1 h (fun k2 =>
arithK .leq a0 (.s (.int .i64 128849018880000)) fun x3 =>
k2 x3 h) fun x4 h5 =>
K x4 h5
theorem f_proportion_amount_run (T : Tab) (D : DTab) (N : Nat) {β : Type} (K : AV → Hp → Option β) (a0 : AV) (h : Hp) : runK Try.prog T D N [0, 2] Try.f43 K [a0] h = f_proportion_amount Try.prog T D N K a0 h := by kernel_rfl
/-- spile/proportion.product -/
def f_proportion_product (P : Program) (T : Tab) (D : DTab) (N : Nat) {β : Type} (K : AV → Hp → Option β) (a0 : AV) (a1 : AV) (h : Hp) : Option β :=
effK (boxE 2 (.agg [.s (.int .u64 0), .s (.int .u64 0)]) (List.length h)) h fun x1 h2 =>
convK P 3 77 a0 fun x3 =>
convK P 3 77 a1 fun x4 =>
callK (T 54) [x3, x4] h2 fun x5 h6 =>
exK x5 0 fun x7 =>
exK x5 1 fun x8 =>
buildK [.s (.int .u64 0), .s (.int .u64 0)] [(some (0, 1), x7), (some (1, 1), x8)] fun x9 =>
effK (stE 2 x1 x9 h6) h6 fun x10 h11 =>
ldK 2 true x1 h11 fun r12 =>
K r12 h11
theorem f_proportion_product_run (T : Tab) (D : DTab) (N : Nat) {β : Type} (K : AV → Hp → Option β) (a0 : AV) (a1 : AV) (h : Hp) : runK Try.prog T D N [0, 1, 4, 5, 6] Try.f44 K [a0, a1] h = f_proportion_product Try.prog T D N K a0 a1 h := by kernel_rfl
def o_bits_Div64_j4 (P : Program) (T : Tab) (D : DTab) (N : Nat) {β : Type} (K : AV → Hp → Option β) (t : Tm) (h : Hp) : Option β :=
arithK .mul (t 15) (.s (.int .u64 4294967296)) fun x27 =>
arithK .add x27 (t 18) fun x28 =>
arithK .mul (t 17) (.s (.int .u64 4294967296)) fun x29 =>
arithK .add x29 (t 14) fun x30 =>
arithK .mul (t 18) (t 2) fun x31 =>
arithK .sub x30 x31 fun x32 =>
reckK P .shr 77 x32 (t 8) fun x33 =>
K (.tup [x28, x33]) h
def o_bits_Div64_j5 (P : Program) (T : Tab) (D : DTab) (N : Nat) {β : Type} (K : AV → Hp → Option β) (t : Tm) (h : Hp) : Option β :=
(o_bits_Div64_j4 P T D N K t h)
def o_bits_Div64_L6 (P : Program) (T : Tab) (D : DTab) (N : Nat) {β : Type} (t : Tm) (h : Hp) (k : Ex → St → Option β) : Option β :=
arithK .geq (t 18) (.s (.int .u64 4294967296)) fun x34 =>
grpK false x34 h (fun k35 =>
arithK .mul (t 18) (t 10) fun x36 =>
arithK .mul (.s (.int .u64 4294967296)) (t 16) fun x37 =>
arithK .add x37 (t 14) fun x38 =>
arithK .gtr x36 x38 fun x39 =>
k35 x39 h) fun x40 h41 =>
condK x40 (
arithK .sub (t 18) (.s (.int .u64 1)) fun x42 =>
arithK .add (t 16) (t 9) fun x43 =>
arithK .geq x43 (.s (.int .u64 4294967296)) fun x44 =>
condK x44 (
k (.exit 2) ((upd (upd (upd (upd t 113 x40) 18 x42) 16 x43) 120 x44), h41)) (
k .normal ((upd (upd (upd (upd t 113 x40) 18 x42) 16 x43) 120 x44), h41))) (
k (.exit 2) ((upd t 113 x40), h41))
def o_bits_Div64_aL6 (P : Program) (T : Tab) (D : DTab) (N : Nat) {β : Type} (K : AV → Hp → Option β) (e : Ex) (s : St) : Option β :=
  e.on ((o_bits_Div64_j5 P T D N K s.1 s.2))
  (fun i => bif i == 2 then ((o_bits_Div64_j5 P T D N K s.1 s.2)) else (none))
  (K (.tup [(s.1 6), (s.1 7)]) s.2)
def o_bits_Div64_j3_G (P : Program) (T : Tab) (D : DTab) (N : Nat) {β : Type} (cL6 : St → Option β) (K : AV → Hp → Option β) (t : Tm) (h : Hp) :  Option β :=
arithK .mul (t 11) (.s (.int .u64 4294967296)) fun x20 =>
arithK .add x20 (t 13) fun x21 =>
arithK .mul (t 15) (t 2) fun x22 =>
arithK .sub x21 x22 fun x23 =>
reckK P .quo 77 x23 (t 9) fun x24 =>
arithK .mul x24 (t 9) fun x25 =>
arithK .sub x23 x25 fun x26 =>
cL6 ((upd (upd (upd t 17 x23) 18 x24) 16 x26), h)
def o_bits_Div64_j3 (P : Program) (T : Tab) (D : DTab) (N : Nat) {β : Type} (K : AV → Hp → Option β) (t : Tm) (h : Hp) : Option β := o_bits_Div64_j3_G P T D N (fun s => iterK (fun s k => o_bits_Div64_L6 P T D N s.1 s.2 k) N s (o_bits_Div64_aL6 P T D N K)) K t h
def o_bits_Div64_j7_G (P : Program) (T : Tab) (D : DTab) (N : Nat) {β : Type} (cj3 : St → Option β) (K : AV → Hp → Option β) (t : Tm) (h : Hp) :  Option β :=
cj3 (t, h)
def o_bits_Div64_j7 (P : Program) (T : Tab) (D : DTab) (N : Nat) {β : Type} (K : AV → Hp → Option β) (t : Tm) (h : Hp) : Option β := o_bits_Div64_j7_G P T D N (fun s => (o_bits_Div64_j3 P T D N K s.1 s.2)) K t h
def o_bits_Div64_L8 (P : Program) (T : Tab) (D : DTab) (N : Nat) {β : Type} (t : Tm) (h : Hp) (k : Ex → St → Option β) : Option β :=
arithK .geq (t 15) (.s (.int .u64 4294967296)) fun x45 =>
grpK false x45 h (fun k46 =>
arithK .mul (t 15) (t 10) fun x47 =>
arithK .mul (.s (.int .u64 4294967296)) (t 16) fun x48 =>
arithK .add x48 (t 13) fun x49 =>
arithK .gtr x47 x49 fun x50 =>
k46 x50 h) fun x51 h52 =>
condK x51 (
arithK .sub (t 15) (.s (.int .u64 1)) fun x53 =>
arithK .add (t 16) (t 9) fun x54 =>
arithK .geq x54 (.s (.int .u64 4294967296)) fun x55 =>
condK x55 (
k (.exit 0) ((upd (upd (upd (upd t 78 x51) 15 x53) 16 x54) 85 x55), h52)) (
k .normal ((upd (upd (upd (upd t 78 x51) 15 x53) 16 x54) 85 x55), h52))) (
k (.exit 0) ((upd t 78 x51), h52))
def o_bits_Div64_aL8 (P : Program) (T : Tab) (D : DTab) (N : Nat) {β : Type} (K : AV → Hp → Option β) (e : Ex) (s : St) : Option β :=
  e.on ((o_bits_Div64_j7 P T D N K s.1 s.2))
  (fun i => bif i == 0 then ((o_bits_Div64_j7 P T D N K s.1 s.2)) else (none))
  (K (.tup [(s.1 6), (s.1 7)]) s.2)
def o_bits_Div64_j2_G (P : Program) (T : Tab) (D : DTab) (N : Nat) {β : Type} (cL8 : St → Option β) (K : AV → Hp → Option β) (t : Tm) (h : Hp) :  Option β :=
eqK P false 77 (t 0) (.s (.int .u64 0)) h fun x1 =>
condK x1 (
reckK P .quo 77 (t 1) (t 2) fun x2 =>
reckK P .rem 77 (t 1) (t 2) fun x3 =>
K (.tup [x2, x3]) h) (
callK (T 55) [(t 2)] h fun x4 h5 =>
convK P 3 88 x4 fun x6 =>
reckK P .shl 77 (t 2) x6 fun x7 =>
reckK P .shr 77 x7 (.s (.int .u64 32)) fun x8 =>
reckK P .and 77 x7 (.s (.int .u64 4294967295)) fun x9 =>
reckK P .shl 77 (t 0) x6 fun x10 =>
arithK .sub (.s (.int .u64 64)) x6 fun x11 =>
reckK P .shr 77 (t 1) x11 fun x12 =>
reckK P .or 77 x10 x12 fun x13 =>
reckK P .shl 77 (t 1) x6 fun x14 =>
reckK P .shr 77 x14 (.s (.int .u64 32)) fun x15 =>
reckK P .and 77 x14 (.s (.int .u64 4294967295)) fun x16 =>
reckK P .quo 77 x13 x8 fun x17 =>
arithK .mul x17 x8 fun x18 =>
arithK .sub x13 x18 fun x19 =>
cL8 ((upd (upd (upd (upd (upd (upd (upd (upd (upd (upd (upd t 27 x1) 8 x6) 2 x7) 9 x8) 10 x9) 11 x13) 12 x14) 13 x15) 14 x16) 15 x17) 16 x19), h5))
def o_bits_Div64_j2 (P : Program) (T : Tab) (D : DTab) (N : Nat) {β : Type} (K : AV → Hp → Option β) (t : Tm) (h : Hp) : Option β := o_bits_Div64_j2_G P T D N (fun s => iterK (fun s k => o_bits_Div64_L8 P T D N s.1 s.2 k) N s (o_bits_Div64_aL8 P T D N K)) K t h
def o_bits_Div64_j1_G (P : Program) (T : Tab) (D : DTab) (N : Nat) {β : Type} (cj2 : St → Option β) (K : AV → Hp → Option β) (t : Tm) (h : Hp) :  Option β :=
arithK .leq (t 2) (t 0) fun x56 =>
condK x56 (
ldK 1 false AV.u h fun x57 =>
none) (
cj2 ((upd t 24 x56), h))
def o_bits_Div64_j1 (P : Program) (T : Tab) (D : DTab) (N : Nat) {β : Type} (K : AV → Hp → Option β) (t : Tm) (h : Hp) : Option β := o_bits_Div64_j1_G P T D N (fun s => (o_bits_Div64_j2 P T D N K s.1 s.2)) K t h
def o_bits_Div64_G (P : Program) (T : Tab) (D : DTab) (N : Nat) {β : Type} (cj1 : St → Option β) (K : AV → Hp → Option β) (a0 : AV) (a1 : AV) (a2 : AV) (h : Hp) :  Option β :=
eqK P false 77 a2 (.s (.int .u64 0)) h fun x58 =>
condK x58 (
ldK 1 false AV.u h fun x59 =>
none) (
cj1 ((upd (upd (upd (tm0 [a0, a1, a2]) 6 (.s (.int .u64 0))) 7 (.s (.int .u64 0))) 20 x58), h))
def o_bits_Div64 (P : Program) (T : Tab) (D : DTab) (N : Nat) {β : Type} (K : AV → Hp → Option β) (a0 : AV) (a1 : AV) (a2 : AV) (h : Hp) : Option β := o_bits_Div64_G P T D N (fun s => (o_bits_Div64_j1 P T D N K s.1 s.2)) K a0 a1 a2 h
def f_bits_Div64_j4 (P : Program) (T : Tab) (D : DTab) (N : Nat) {β : Type} (K : AV → Hp → Option β) (v2 : AV) (v8 : AV) (v14 : AV) (v15 : AV) (v17 : AV) (v18 : AV) (h : Hp) : Option β :=
arithK .mul v15 (.s (.int .u64 4294967296)) fun x27 =>
arithK .add x27 v18 fun x28 =>
arithK .mul v17 (.s (.int .u64 4294967296)) fun x29 =>
arithK .add x29 v14 fun x30 =>
arithK .mul v18 v2 fun x31 =>
arithK .sub x30 x31 fun x32 =>
reckK P .shr 77 x32 v8 fun x33 =>
K (.tup [x28, x33]) h
def f_bits_Div64_j5 (P : Program) (T : Tab) (D : DTab) (N : Nat) {β : Type} (K : AV → Hp → Option β) (v2 : AV) (v8 : AV) (v14 : AV) (v15 : AV) (v17 : AV) (v18 : AV) (h : Hp) : Option β :=
f_bits_Div64_j4 P T D N K v2 v8 v14 v15 v17 v18 h
def f_bits_Div64_b6 (P : Program) (T : Tab) (D : DTab) (N : Nat) {β : Type} (xn : AV → AV → AV → AV → AV → AV → AV → AV → AV → Hp → Option β) (x2 : AV → AV → AV → AV → AV → AV → Hp → Option β) (v2 : AV) (v8 : AV) (v9 : AV) (v10 : AV) (v14 : AV) (v15 : AV) (v16 : AV) (v17 : AV) (v18 : AV) (h : Hp) : Option β :=
arithK .geq v18 (.s (.int .u64 4294967296)) fun x34 =>
grpK false x34 h (fun k35 =>
arithK .mul v18 v10 fun x36 =>
arithK .mul (.s (.int .u64 4294967296)) v16 fun x37 =>
arithK .add x37 v14 fun x38 =>
arithK .gtr x36 x38 fun x39 =>
k35 x39 h) fun x40 h41 =>
condK x40 (
arithK .sub v18 (.s (.int .u64 1)) fun x42 =>
arithK .add v16 v9 fun x43 =>
arithK .geq x43 (.s (.int .u64 4294967296)) fun x44 =>
condK x44 (
x2 v2 v8 v14 v15 v17 x42 h41) (
xn v2 v8 v9 v10 v14 v15 x43 v17 x42 h41)) (
x2 v2 v8 v14 v15 v17 v18 h41)
def f_bits_Div64_L6 (P : Program) (T : Tab) (D : DTab) (N : Nat) {β : Type} (x2 : AV → AV → AV → AV → AV → AV → Hp → Option β) : Nat → AV → AV → AV → AV → AV → AV → AV → AV → AV → Hp → Option β
  | 0 => fun _ _ _ _ _ _ _ _ _ _ => none
  | n + 1 => fun v2 v8 v9 v10 v14 v15 v16 v17 v18 h => f_bits_Div64_b6 P T D N (f_bits_Div64_L6 P T D N x2 n) x2 v2 v8 v9 v10 v14 v15 v16 v17 v18 h
def f_bits_Div64_j3 (P : Program) (T : Tab) (D : DTab) (N : Nat) {β : Type} (K : AV → Hp → Option β) (v2 : AV) (v8 : AV) (v9 : AV) (v10 : AV) (v11 : AV) (v13 : AV) (v14 : AV) (v15 : AV) (h : Hp) : Option β :=
arithK .mul v11 (.s (.int .u64 4294967296)) fun x20 =>
arithK .add x20 v13 fun x21 =>
arithK .mul v15 v2 fun x22 =>
arithK .sub x21 x22 fun x23 =>
reckK P .quo 77 x23 v9 fun x24 =>
arithK .mul x24 v9 fun x25 =>
arithK .sub x23 x25 fun x26 =>
f_bits_Div64_L6 P T D N (fun w45_2 w45_8 w45_14 w45_15 w45_17 w45_18 h => f_bits_Div64_j5 P T D N K w45_2 w45_8 w45_14 w45_15 w45_17 w45_18 h) N v2 v8 v9 v10 v14 v15 x26 x23 x24 h
def f_bits_Div64_j7 (P : Program) (T : Tab) (D : DTab) (N : Nat) {β : Type} (K : AV → Hp → Option β) (v2 : AV) (v8 : AV) (v9 : AV) (v10 : AV) (v11 : AV) (v13 : AV) (v14 : AV) (v15 : AV) (h : Hp) : Option β :=
f_bits_Div64_j3 P T D N K v2 v8 v9 v10 v11 v13 v14 v15 h
def f_bits_Div64_b8 (P : Program) (T : Tab) (D : DTab) (N : Nat) {β : Type} (xn : AV → AV → AV → AV → AV → AV → AV → AV → AV → Hp → Option β) (x0 : AV → AV → AV → AV → AV → AV → AV → AV → Hp → Option β) (v2 : AV) (v8 : AV) (v9 : AV) (v10 : AV) (v11 : AV) (v13 : AV) (v14 : AV) (v15 : AV) (v16 : AV) (h : Hp) : Option β :=
arithK .geq v15 (.s (.int .u64 4294967296)) fun x46 =>
grpK false x46 h (fun k47 =>
arithK .mul v15 v10 fun x48 =>
arithK .mul (.s (.int .u64 4294967296)) v16 fun x49 =>
arithK .add x49 v13 fun x50 =>
arithK .gtr x48 x50 fun x51 =>
k47 x51 h) fun x52 h53 =>
condK x52 (
arithK .sub v15 (.s (.int .u64 1)) fun x54 =>
arithK .add v16 v9 fun x55 =>
arithK .geq x55 (.s (.int .u64 4294967296)) fun x56 =>
condK x56 (
x0 v2 v8 v9 v10 v11 v13 v14 x54 h53) (
xn v2 v8 v9 v10 v11 v13 v14 x54 x55 h53)) (
x0 v2 v8 v9 v10 v11 v13 v14 v15 h53)
def f_bits_Div64_L8 (P : Program) (T : Tab) (D : DTab) (N : Nat) {β : Type} (x0 : AV → AV → AV → AV → AV → AV → AV → AV → Hp → Option β) : Nat → AV → AV → AV → AV → AV → AV → AV → AV → AV → Hp → Option β
  | 0 => fun _ _ _ _ _ _ _ _ _ _ => none
  | n + 1 => fun v2 v8 v9 v10 v11 v13 v14 v15 v16 h => f_bits_Div64_b8 P T D N (f_bits_Div64_L8 P T D N x0 n) x0 v2 v8 v9 v10 v11 v13 v14 v15 v16 h
def f_bits_Div64_j2 (P : Program) (T : Tab) (D : DTab) (N : Nat) {β : Type} (K : AV → Hp → Option β) (v0 : AV) (v1 : AV) (v2 : AV) (h : Hp) : Option β :=
eqK P false 77 v0 (.s (.int .u64 0)) h fun x1 =>
condK x1 (
reckK P .quo 77 v1 v2 fun x2 =>
reckK P .rem 77 v1 v2 fun x3 =>
K (.tup [x2, x3]) h) (
callK (T 55) [v2] h fun x4 h5 =>
convK P 3 88 x4 fun x6 =>
reckK P .shl 77 v2 x6 fun x7 =>
reckK P .shr 77 x7 (.s (.int .u64 32)) fun x8 =>
reckK P .and 77 x7 (.s (.int .u64 4294967295)) fun x9 =>
reckK P .shl 77 v0 x6 fun x10 =>
arithK .sub (.s (.int .u64 64)) x6 fun x11 =>
reckK P .shr 77 v1 x11 fun x12 =>
reckK P .or 77 x10 x12 fun x13 =>
reckK P .shl 77 v1 x6 fun x14 =>
reckK P .shr 77 x14 (.s (.int .u64 32)) fun x15 =>
reckK P .and 77 x14 (.s (.int .u64 4294967295)) fun x16 =>
reckK P .quo 77 x13 x8 fun x17 =>
arithK .mul x17 x8 fun x18 =>
arithK .sub x13 x18 fun x19 =>
f_bits_Div64_L8 P T D N (fun w57_2 w57_8 w57_9 w57_10 w57_11 w57_13 w57_14 w57_15 h => f_bits_Div64_j7 P T D N K w57_2 w57_8 w57_9 w57_10 w57_11 w57_13 w57_14 w57_15 h) N x7 x6 x8 x9 x13 x15 x16 x17 x19 h5)
def f_bits_Div64_j1 (P : Program) (T : Tab) (D : DTab) (N : Nat) {β : Type} (K : AV → Hp → Option β) (v0 : AV) (v1 : AV) (v2 : AV) (h : Hp) : Option β :=
arithK .leq v2 v0 fun x58 =>
condK x58 (
ldK 1 false AV.u h fun x59 =>
none) (
f_bits_Div64_j2 P T D N K v0 v1 v2 h)
/-- math/bits.Div64 -/
def f_bits_Div64 (P : Program) (T : Tab) (D : DTab) (N : Nat) {β : Type} (K : AV → Hp → Option β) (a0 : AV) (a1 : AV) (a2 : AV) (h : Hp) : Option β :=
eqK P false 77 a2 (.s (.int .u64 0)) h fun x60 =>
condK x60 (
ldK 1 false AV.u h fun x61 =>
none) (
f_bits_Div64_j1 P T D N K a0 a1 a2 h)
theorem f_bits_Div64_j4_eq (P : Program) (T : Tab) (D : DTab) (N : Nat) {β : Type} (K : AV → Hp → Option β) (t : Tm) (h : Hp) : o_bits_Div64_j4 P T D N K t h = f_bits_Div64_j4 P T D N K (t 2) (t 8) (t 14) (t 15) (t 17) (t 18) h := by kernel_rfl
theorem f_bits_Div64_j5_eq (P : Program) (T : Tab) (D : DTab) (N : Nat) {β : Type} (K : AV → Hp → Option β) (t : Tm) (h : Hp) : o_bits_Div64_j5 P T D N K t h = f_bits_Div64_j5 P T D N K (t 2) (t 8) (t 14) (t 15) (t 17) (t 18) h := by kernel_rfl
theorem f_bits_Div64_b6_eq (P : Program) (T : Tab) (D : DTab) (N : Nat) {β : Type} (xn : AV → AV → AV → AV → AV → AV → AV → AV → AV → Hp → Option β) (x2 : AV → AV → AV → AV → AV → AV → Hp → Option β) (xd : Nat → St → Option β) (xq : St → Option β) (t : Tm) (h : Hp) : o_bits_Div64_L6 P T D N t h (fun (e : Ex) (s : St) => e.on (xn (s.1 2) (s.1 8) (s.1 9) (s.1 10) (s.1 14) (s.1 15) (s.1 16) (s.1 17) (s.1 18) s.2) (fun i => (bif i == 2 then x2 (s.1 2) (s.1 8) (s.1 14) (s.1 15) (s.1 17) (s.1 18) s.2 else (xd i s))) (xq s)) = f_bits_Div64_b6 P T D N xn x2 (t 2) (t 8) (t 9) (t 10) (t 14) (t 15) (t 16) (t 17) (t 18) h := by kernel_rfl
theorem f_bits_Div64_L6_eq (P : Program) (T : Tab) (D : DTab) (N : Nat) {β : Type} (A : Ex → St → Option β) (x2 : AV → AV → AV → AV → AV → AV → Hp → Option β) (q2 : ∀ s, A (.exit 2) s = x2 (s.1 2) (s.1 8) (s.1 14) (s.1 15) (s.1 17) (s.1 18) s.2) : ∀ (n : Nat) (s : St), iterK (fun s k => o_bits_Div64_L6 P T D N s.1 s.2 k) n s A = f_bits_Div64_L6 P T D N x2 n (s.1 2) (s.1 8) (s.1 9) (s.1 10) (s.1 14) (s.1 15) (s.1 16) (s.1 17) (s.1 18) s.2 := by
  intro n
  induction n with
  | zero => intro s; rfl
  | succ n ih =>
    intro s
    have hk : (fun (e : Ex) (s' : St) => Ex.on e (iterK (fun s k => o_bits_Div64_L6 P T D N s.1 s.2 k) n s' A) (fun i => A (.exit i) s') (A .ret s')) = (fun (e : Ex) (s : St) => e.on ((f_bits_Div64_L6 P T D N x2 n) (s.1 2) (s.1 8) (s.1 9) (s.1 10) (s.1 14) (s.1 15) (s.1 16) (s.1 17) (s.1 18) s.2) (fun i => (bif i == 2 then x2 (s.1 2) (s.1 8) (s.1 14) (s.1 15) (s.1 17) (s.1 18) s.2 else (A (.exit i) s))) (A .ret s)) := by
      funext e s'
      cases e with
      | normal => exact ih s'
      | ret => exact rfl
      | exit i =>
        by_cases r2 : i = 2
        · subst r2; exact q2 s'
        simp only [Ex.on, beq_false_of_ne r2, cond_false]
    show o_bits_Div64_L6 P T D N s.1 s.2 (fun (e : Ex) (s' : St) => Ex.on e (iterK (fun s k => o_bits_Div64_L6 P T D N s.1 s.2 k) n s' A) (fun i => A (.exit i) s') (A .ret s')) = _
    rw [hk]
    exact f_bits_Div64_b6_eq P T D N (f_bits_Div64_L6 P T D N x2 n) x2 (fun i s => A (.exit i) s) (fun s => A .ret s) s.1 s.2
theorem f_bits_Div64_j3_eq (P : Program) (T : Tab) (D : DTab) (N : Nat) {β : Type} (K : AV → Hp → Option β) (t : Tm) (h : Hp) : o_bits_Div64_j3 P T D N K t h = f_bits_Div64_j3 P T D N K (t 2) (t 8) (t 9) (t 10) (t 11) (t 13) (t 14) (t 15) h := by
  have eL6 : (fun s : St => iterK (fun s k => o_bits_Div64_L6 P T D N s.1 s.2 k) N s (o_bits_Div64_aL6 P T D N K)) = (fun s : St => f_bits_Div64_L6 P T D N (fun w45_2 w45_8 w45_14 w45_15 w45_17 w45_18 h => f_bits_Div64_j5 P T D N K w45_2 w45_8 w45_14 w45_15 w45_17 w45_18 h) N (s.1 2) (s.1 8) (s.1 9) (s.1 10) (s.1 14) (s.1 15) (s.1 16) (s.1 17) (s.1 18) s.2) := funext fun s => f_bits_Div64_L6_eq P T D N (o_bits_Div64_aL6 P T D N K) (fun w45_2 w45_8 w45_14 w45_15 w45_17 w45_18 h => f_bits_Div64_j5 P T D N K w45_2 w45_8 w45_14 w45_15 w45_17 w45_18 h) (fun s => rfl) N s
  show o_bits_Div64_j3_G P T D N (fun s => iterK (fun s k => o_bits_Div64_L6 P T D N s.1 s.2 k) N s (o_bits_Div64_aL6 P T D N K)) K t h = _
  rw [eL6]
  kernel_rfl
theorem f_bits_Div64_j7_eq (P : Program) (T : Tab) (D : DTab) (N : Nat) {β : Type} (K : AV → Hp → Option β) (t : Tm) (h : Hp) : o_bits_Div64_j7 P T D N K t h = f_bits_Div64_j7 P T D N K (t 2) (t 8) (t 9) (t 10) (t 11) (t 13) (t 14) (t 15) h := by
  have ej3 : (fun s : St => o_bits_Div64_j3 P T D N K s.1 s.2) = (fun s : St => f_bits_Div64_j3 P T D N K (s.1 2) (s.1 8) (s.1 9) (s.1 10) (s.1 11) (s.1 13) (s.1 14) (s.1 15) s.2) := funext fun s => f_bits_Div64_j3_eq P T D N K s.1 s.2
  show o_bits_Div64_j7_G P T D N (fun s => o_bits_Div64_j3 P T D N K s.1 s.2) K t h = _
  rw [ej3]
  kernel_rfl
theorem f_bits_Div64_b8_eq (P : Program) (T : Tab) (D : DTab) (N : Nat) {β : Type} (xn : AV → AV → AV → AV → AV → AV → AV → AV → AV → Hp → Option β) (x0 : AV → AV → AV → AV → AV → AV → AV → AV → Hp → Option β) (xd : Nat → St → Option β) (xq : St → Option β) (t : Tm) (h : Hp) : o_bits_Div64_L8 P T D N t h (fun (e : Ex) (s : St) => e.on (xn (s.1 2) (s.1 8) (s.1 9) (s.1 10) (s.1 11) (s.1 13) (s.1 14) (s.1 15) (s.1 16) s.2) (fun i => (bif i == 0 then x0 (s.1 2) (s.1 8) (s.1 9) (s.1 10) (s.1 11) (s.1 13) (s.1 14) (s.1 15) s.2 else (xd i s))) (xq s)) = f_bits_Div64_b8 P T D N xn x0 (t 2) (t 8) (t 9) (t 10) (t 11) (t 13) (t 14) (t 15) (t 16) h := by kernel_rfl
theorem f_bits_Div64_L8_eq (P : Program) (T : Tab) (D : DTab) (N : Nat) {β : Type} (A : Ex → St → Option β) (x0 : AV → AV → AV → AV → AV → AV → AV → AV → Hp → Option β) (q0 : ∀ s, A (.exit 0) s = x0 (s.1 2) (s.1 8) (s.1 9) (s.1 10) (s.1 11) (s.1 13) (s.1 14) (s.1 15) s.2) : ∀ (n : Nat) (s : St), iterK (fun s k => o_bits_Div64_L8 P T D N s.1 s.2 k) n s A = f_bits_Div64_L8 P T D N x0 n (s.1 2) (s.1 8) (s.1 9) (s.1 10) (s.1 11) (s.1 13) (s.1 14) (s.1 15) (s.1 16) s.2 := by
  intro n
  induction n with
  | zero => intro s; rfl
  | succ n ih =>
    intro s
    have hk : (fun (e : Ex) (s' : St) => Ex.on e (iterK (fun s k => o_bits_Div64_L8 P T D N s.1 s.2 k) n s' A) (fun i => A (.exit i) s') (A .ret s')) = (fun (e : Ex) (s : St) => e.on ((f_bits_Div64_L8 P T D N x0 n) (s.1 2) (s.1 8) (s.1 9) (s.1 10) (s.1 11) (s.1 13) (s.1 14) (s.1 15) (s.1 16) s.2) (fun i => (bif i == 0 then x0 (s.1 2) (s.1 8) (s.1 9) (s.1 10) (s.1 11) (s.1 13) (s.1 14) (s.1 15) s.2 else (A (.exit i) s))) (A .ret s)) := by
      funext e s'
      cases e with
      | normal => exact ih s'
      | ret => exact rfl
      | exit i =>
        by_cases r0 : i = 0
        · subst r0; exact q0 s'
        simp only [Ex.on, beq_false_of_ne r0, cond_false]
    show o_bits_Div64_L8 P T D N s.1 s.2 (fun (e : Ex) (s' : St) => Ex.on e (iterK (fun s k => o_bits_Div64_L8 P T D N s.1 s.2 k) n s' A) (fun i => A (.exit i) s') (A .ret s')) = _
    rw [hk]
    exact f_bits_Div64_b8_eq P T D N (f_bits_Div64_L8 P T D N x0 n) x0 (fun i s => A (.exit i) s) (fun s => A .ret s) s.1 s.2
theorem f_bits_Div64_j2_eq (P : Program) (T : Tab) (D : DTab) (N : Nat) {β : Type} (K : AV → Hp → Option β) (t : Tm) (h : Hp) : o_bits_Div64_j2 P T D N K t h = f_bits_Div64_j2 P T D N K (t 0) (t 1) (t 2) h := by
  have eL8 : (fun s : St => iterK (fun s k => o_bits_Div64_L8 P T D N s.1 s.2 k) N s (o_bits_Div64_aL8 P T D N K)) = (fun s : St => f_bits_Div64_L8 P T D N (fun w57_2 w57_8 w57_9 w57_10 w57_11 w57_13 w57_14 w57_15 h => f_bits_Div64_j7 P T D N K w57_2 w57_8 w57_9 w57_10 w57_11 w57_13 w57_14 w57_15 h) N (s.1 2) (s.1 8) (s.1 9) (s.1 10) (s.1 11) (s.1 13) (s.1 14) (s.1 15) (s.1 16) s.2) := funext fun s => f_bits_Div64_L8_eq P T D N (o_bits_Div64_aL8 P T D N K) (fun w57_2 w57_8 w57_9 w57_10 w57_11 w57_13 w57_14 w57_15 h => f_bits_Div64_j7 P T D N K w57_2 w57_8 w57_9 w57_10 w57_11 w57_13 w57_14 w57_15 h) (fun s => f_bits_Div64_j7_eq P T D N K s.1 s.2) N s
  show o_bits_Div64_j2_G P T D N (fun s => iterK (fun s k => o_bits_Div64_L8 P T D N s.1 s.2 k) N s (o_bits_Div64_aL8 P T D N K)) K t h = _
  rw [eL8]
  kernel_rfl
theorem f_bits_Div64_j1_eq (P : Program) (T : Tab) (D : DTab) (N : Nat) {β : Type} (K : AV → Hp → Option β) (t : Tm) (h : Hp) : o_bits_Div64_j1 P T D N K t h = f_bits_Div64_j1 P T D N K (t 0) (t 1) (t 2) h := by
  have ej2 : (fun s : St => o_bits_Div64_j2 P T D N K s.1 s.2) = (fun s : St => f_bits_Div64_j2 P T D N K (s.1 0) (s.1 1) (s.1 2) s.2) := funext fun s => f_bits_Div64_j2_eq P T D N K s.1 s.2
  show o_bits_Div64_j1_G P T D N (fun s => o_bits_Div64_j2 P T D N K s.1 s.2) K t h = _
  rw [ej2]
  kernel_rfl
theorem f_bits_Div64_old_eq (P : Program) (T : Tab) (D : DTab) (N : Nat) {β : Type} (K : AV → Hp → Option β) (a0 : AV) (a1 : AV) (a2 : AV) (h : Hp) : o_bits_Div64 P T D N K a0 a1 a2 h = f_bits_Div64 P T D N K a0 a1 a2 h := by
  have ej1 : (fun s : St => o_bits_Div64_j1 P T D N K s.1 s.2) = (fun s : St => f_bits_Div64_j1 P T D N K (s.1 0) (s.1 1) (s.1 2) s.2) := funext fun s => f_bits_Div64_j1_eq P T D N K s.1 s.2
  show o_bits_Div64_G P T D N (fun s => o_bits_Div64_j1 P T D N K s.1 s.2) K a0 a1 a2 h = _
  rw [ej1]
  kernel_rfl
theorem o_bits_Div64_run (T : Tab) (D : DTab) (N : Nat) {β : Type} (K : AV → Hp → Option β) (a0 : AV) (a1 : AV) (a2 : AV) (h : Hp) : runK Try.prog T D N [0, 1, 2, 6, 7, 8, 9, 10, 11, 12, 13, 14, 15, 16, 17, 18, 20, 24, 27, 78, 85, 113, 120] Try.f45 K [a0, a1, a2] h = o_bits_Div64 Try.prog T D N K a0 a1 a2 h := by kernel_rfl
theorem f_bits_Div64_run (T : Tab) (D : DTab) (N : Nat) {β : Type} (K : AV → Hp → Option β) (a0 : AV) (a1 : AV) (a2 : AV) (h : Hp) : runK Try.prog T D N [0, 1, 2, 6, 7, 8, 9, 10, 11, 12, 13, 14, 15, 16, 17, 18, 20, 24, 27, 78, 85, 113, 120] Try.f45 K [a0, a1, a2] h = f_bits_Div64 Try.prog T D N K a0 a1 a2 h := (o_bits_Div64_run T D N K a0 a1 a2 h).trans (f_bits_Div64_old_eq Try.prog T D N K a0 a1 a2 h)
/-- spile/drawback.faults$1 -/
def f_drawback_faults_1 (P : Program) (T : Tab) (D : DTab) (N : Nat) {β : Type} (K : AV → Hp → Option β) (a0 : AV) (a1 : AV) (h : Hp) : Option β :=
effK (boxE 3 a1 (List.length h)) h fun x1 h2 =>
faK 0 x1 fun x3 =>
ldK 1 false x3 h2 fun x4 =>
callK (T 27) [x4, (.s (.int .i64 1)), (.s (.int .i64 1073741824))] h2 fun x5 h6 =>
notK x5 fun x7 =>
grpK false x7 h6 (fun k8 =>
faK 1 x1 fun x9 =>
ldK 1 false x9 h6 fun x10 =>
callK (T 27) [x10, (.s (.int .i64 0)), (.s (.int .i64 100000))] h6 fun x11 h12 =>
notK x11 fun x13 =>
k8 x13 h12) fun x14 h15 =>
grpK false x14 h15 (fun k16 =>
faK 2 x1 fun x17 =>
ldK 1 false x17 h15 fun x18 =>
callK (T 27) [x18, (.s (.int .i64 1)), (.s (.int .i64 10737418240000))] h15 fun x19 h20 =>
notK x19 fun x21 =>
k16 x21 h20) fun x22 h23 =>
K x22 h23
theorem f_drawback_faults_1_run (T : Tab) (D : DTab) (N : Nat) {β : Type} (K : AV → Hp → Option β) (a0 : AV) (a1 : AV) (h : Hp) : runK Try.prog T D N [1, 3, 4] Try.f46 K [a0, a1] h = f_drawback_faults_1 Try.prog T D N K a0 a1 h := by kernel_rfl
/-- spile/drawback.faults$2 -/
def f_drawback_faults_2 (P : Program) (T : Tab) (D : DTab) (N : Nat) {β : Type} (K : AV → Hp → Option β) (a0 : AV) (a1 : AV) (h : Hp) : Option β :=
effK (boxE 3 a1 (List.length h)) h fun x1 h2 =>
faK 1 x1 fun x3 =>
ldK 1 false x3 h2 fun x4 =>
nilK a0 fun x5 =>
faK 2 x5 fun x6 =>
ldK 1 false x6 h2 fun x7 =>
arithK .lss x4 x7 fun x8 =>
K x8 h2
theorem f_drawback_faults_2_run (T : Tab) (D : DTab) (N : Nat) {β : Type} (K : AV → Hp → Option β) (a0 : AV) (a1 : AV) (h : Hp) : runK Try.prog T D N [0, 1, 3, 4] Try.f47 K [a0, a1] h = f_drawback_faults_2 Try.prog T D N K a0 a1 h := by kernel_rfl
/-- spile/drawback.faults$3 -/
def f_drawback_faults_3 (P : Program) (T : Tab) (D : DTab) (N : Nat) {β : Type} (K : AV → Hp → Option β) (a0 : AV) (a1 : AV) (h : Hp) : Option β :=
effK (boxE 3 a1 (List.length h)) h fun x1 h2 =>
nilK a0 fun x3 =>
faK 0 x3 fun x4 =>
ldK 1 false x4 h2 fun x5 =>
faK 0 x1 fun x6 =>
ldK 1 false x6 h2 fun x7 =>
lookK P 3 (.agg [.s (.int .i64 0), .s (.int .i64 0), .s (.int .i64 0), .s (.int .i64 0), .s (.int .i64 0)]) true x5 x7 h2 fun x8 =>
exK x8 0 fun x9 =>
exK x8 1 fun x10 =>
effD (boxE 5 (.agg [.s (.int .i64 0), .s (.int .i64 0), .s (.int .i64 0), .s (.int .i64 0), .s (.int .i64 0)]) (List.length h2)) h2 fun x11 h12 e13 =>
effD (stE 5 x11 x9 h12) h12 fun x14 h15 e16 =>
bif disjAll [(3, 10), (5, 10), (6, 10)] [([], []), ([], []), ([], []), ((idsOf x4), []), ([], []), ((idsOf x6), []), ((idsOf x5), []), ([], []), ([], []), ([], []), e13, e16, ([], [])] then (
notK x10 fun x17 =>
K x17 h15) else none
theorem f_drawback_faults_3_run (T : Tab) (D : DTab) (N : Nat) {β : Type} (K : AV → Hp → Option β) (a0 : AV) (a1 : AV) (h : Hp) : runK Try.prog T D N [0, 1, 3, 4, 6] Try.f48 K [a0, a1] h = f_drawback_faults_3 Try.prog T D N K a0 a1 h := by kernel_rfl
/-- spile/drawback.faults$4 -/
def f_drawback_faults_4 (P : Program) (T : Tab) (D : DTab) (N : Nat) {β : Type} (K : AV → Hp → Option β) (a0 : AV) (a1 : AV) (h : Hp) : Option β :=
effK (boxE 3 a1 (List.length h)) h fun x1 h2 =>
faK 1 x1 fun x3 =>
ldK 1 false x3 h2 fun x4 =>
nilK a0 fun x5 =>
faK 0 x5 fun x6 =>
ldK 1 false x6 h2 fun x7 =>
faK 0 x1 fun x8 =>
ldK 1 false x8 h2 fun x9 =>
lookK P 3 (.agg [.s (.int .i64 0), .s (.int .i64 0), .s (.int .i64 0), .s (.int .i64 0), .s (.int .i64 0)]) false x7 x9 h2 fun x10 =>
fldK 1 false 2 x10 fun x11 =>
arithK .lss x4 x11 fun x12 =>
K x12 h2
theorem f_drawback_faults_4_run (T : Tab) (D : DTab) (N : Nat) {β : Type} (K : AV → Hp → Option β) (a0 : AV) (a1 : AV) (h : Hp) : runK Try.prog T D N [0, 1, 3, 4] Try.f49 K [a0, a1] h = f_drawback_faults_4 Try.prog T D N K a0 a1 h := by kernel_rfl
/-- spile/drawback.faults$5 -/
def f_drawback_faults_5 (P : Program) (T : Tab) (D : DTab) (N : Nat) {β : Type} (K : AV → Hp → Option β) (a0 : AV) (a1 : AV) (h : Hp) : Option β :=
effK (boxE 3 a1 (List.length h)) h fun x1 h2 =>
faK 1 x1 fun x3 =>
ldK 1 false x3 h2 fun x4 =>
nilK a0 fun x5 =>
faK 0 x5 fun x6 =>
ldK 1 false x6 h2 fun x7 =>
faK 0 x1 fun x8 =>
ldK 1 false x8 h2 fun x9 =>
lookK P 3 (.agg [.s (.int .i64 0), .s (.int .i64 0), .s (.int .i64 0), .s (.int .i64 0), .s (.int .i64 0)]) false x7 x9 h2 fun x10 =>
fldK 1 false 2 x10 fun x11 =>
arithK .sub x4 x11 fun x12 =>
nilK a0 fun x13 =>
faK 3 x13 fun x14 =>
ldK 1 false x14 h2 fun x15 =>
arithK .gtr x12 x15 fun x16 =>
K x16 h2
theorem f_drawback_faults_5_run (T : Tab) (D : DTab) (N : Nat) {β : Type} (K : AV → Hp → Option β) (a0 : AV) (a1 : AV) (h : Hp) : runK Try.prog T D N [0, 1, 3, 4] Try.f50 K [a0, a1] h = f_drawback_faults_5 Try.prog T D N K a0 a1 h := by kernel_rfl
/-- spile/drawback.faults$6 -/
def f_drawback_faults_6 (P : Program) (T : Tab) (D : DTab) (N : Nat) {β : Type} (K : AV → Hp → Option β) (a0 : AV) (a1 : AV) (h : Hp) : Option β :=
effK (boxE 3 a1 (List.length h)) h fun x1 h2 =>
nilK a0 fun x3 =>
faK 1 x3 fun x4 =>
ldK 1 false x4 h2 fun x5 =>
faK 0 x1 fun x6 =>
ldK 1 false x6 h2 fun x7 =>
lookK P 3 (.s (.int .i64 0)) false x5 x7 h2 fun x8 =>
faK 2 x1 fun x9 =>
ldK 1 false x9 h2 fun x10 =>
arithK .add x8 x10 fun x11 =>
nilK a0 fun x12 =>
faK 0 x12 fun x13 =>
ldK 1 false x13 h2 fun x14 =>
faK 0 x1 fun x15 =>
ldK 1 false x15 h2 fun x16 =>
lookK P 3 (.agg [.s (.int .i64 0), .s (.int .i64 0), .s (.int .i64 0), .s (.int .i64 0), .s (.int .i64 0)]) false x14 x16 h2 fun x17 =>
fldK 1 false 3 x17 fun x18 =>
arithK .gtr x11 x18 fun x19 =>
K x19 h2
theorem f_drawback_faults_6_run (T : Tab) (D : DTab) (N : Nat) {β : Type} (K : AV → Hp → Option β) (a0 : AV) (a1 : AV) (h : Hp) : runK Try.prog T D N [0, 1, 3, 4] Try.f51 K [a0, a1] h = f_drawback_faults_6 Try.prog T D N K a0 a1 h := by kernel_rfl
def o_ref01_Of_j1 (P : Program) (T : Tab) (D : DTab) (N : Nat) {β : Type} (K : AV → Hp → Option β) (t : Tm) (h : Hp) : Option β :=
ldK 2 true (t 11) h fun x45 =>
effD (callE (D 56) [(t 12), (t 2)] h (List.length h)) h fun x46 h47 e48 =>
effD (callE (D 58) [x45, x46] h47 (List.length h47)) h47 fun x49 h50 e51 =>
fldK 1 false 1 x49 fun x52 =>
convK P 77 3 x52 fun x53 =>
bif disjAll [(1, 4)] [([], []), ((idsOf (t 11)), []), ([], []), ([], []), e48, e51, ([], []), ([], []), ([], []), ([], []), ([], [])] then (
K (.tup [(t 12), x53, (.s (.bool true))]) h50) else none
def o_ref01_Of_j3 (P : Program) (T : Tab) (D : DTab) (N : Nat) {β : Type} (k : Ex → St → Option β) (t : Tm) (h : Hp) : Option β :=
reckK P .quo 3 (t 13) (.s (.int .i64 2)) fun x55 =>
k .normal ((upd t 13 x55), h)
def o_ref01_Of_j4 (P : Program) (T : Tab) (D : DTab) (N : Nat) {β : Type} (k : Ex → St → Option β) (t : Tm) (h : Hp) : Option β :=
(o_ref01_Of_j3 P T D N k t h)
def o_ref01_Of_L2 (P : Program) (T : Tab) (D : DTab) (N : Nat) {β : Type} (t : Tm) (h : Hp) (k : Ex → St → Option β) : Option β :=
arithK .gtr (t 13) (.s (.int .i64 0)) fun x54 =>
condK x54 (
arithK .add (t 12) (t 13) fun x56 =>
arithK .leq x56 (t 3) fun x57 =>
gopD (wB x57 true) h (fun k => ldK 2 true (t 11) h fun v => k v h ((idsOf (t 11)), [])) fun x58 h59 e60 =>
gopD (wB x57 true) h59 (fun k => k (t 12) h59 ([], [])) fun x61 h62 e63 =>
gopD (wB x57 true) h62 (fun k => k (t 13) h62 ([], [])) fun x64 h65 e66 =>
gopD (wB x57 true) h65 (fun k => arithK .add x61 x64 fun v => k v h65 ([], [])) fun x67 h68 e69 =>
gopD (wB x57 true) h68 (fun k => k (t 2) h68 ([], [])) fun x70 h71 e72 =>
gopD (wB x57 true) h71 (fun k => effD (callE (D 56) [x67, x70] h71 (List.length h71)) h71 k) fun x73 h74 e75 =>
gopD (wB x57 true) h74 (fun k => effD (callE (D 57) [x58, x73] h74 (List.length h74)) h74 k) fun x76 h77 e78 =>
gopD (wB x57 true) h77 (fun k => notK x76 fun v => k v h77 ([], [])) fun x79 h80 e81 =>
pickK x57 x79 (.s (.bool false)) fun x82 =>
bif disjAll [(6, 11)] [([], []), ([], []), ([], []), ([], []), ([], []), ([], []), e60, e63, e66, e69, e72, e75, e78, e81, ([], [])] then (
condK x82 (
arithK .add (t 12) (t 13) fun x83 =>
(o_ref01_Of_j4 P T D N k (upd (upd (upd t 35 x54) 52 x82) 12 x83) h80)) (
(o_ref01_Of_j4 P T D N k (upd (upd t 35 x54) 52 x82) h80))) else none) (
k (.exit 0) ((upd t 35 x54), h))
def o_ref01_Of_aL2 (P : Program) (T : Tab) (D : DTab) (N : Nat) {β : Type} (K : AV → Hp → Option β) (e : Ex) (s : St) : Option β :=
  e.on ((o_ref01_Of_j1 P T D N K s.1 s.2))
  (fun i => bif i == 0 then ((o_ref01_Of_j1 P T D N K s.1 s.2)) else (none))
  (K (.tup [(s.1 8), (s.1 9), (s.1 10)]) s.2)
def o_ref01_Of_G (P : Program) (T : Tab) (D : DTab) (N : Nat) {β : Type} (cL2 : St → Option β) (K : AV → Hp → Option β) (a0 : AV) (a1 : AV) (a2 : AV) (a3 : AV) (h : Hp) :  Option β :=
callK (T 56) [a0, a1] h fun x1 h2 =>
effK (boxE 2 (.agg [.s (.int .u64 0), .s (.int .u64 0)]) (List.length h2)) h2 fun x3 h4 =>
effK (stE 2 x3 x1 h4) h4 fun x5 h6 =>
effD (callE (D 56) [a3, a2] h6 (List.length h6)) h6 fun x7 h8 e9 =>
ldK 2 true x3 h8 fun x10 =>
effD (callE (D 57) [x7, x10] h8 (List.length h8)) h8 fun x11 h12 e13 =>
gopD (wB x11 true) h12 (fun k => ldK 2 true x3 h12 fun v => k v h12 ((idsOf x3), [])) fun x14 h15 e16 =>
gopD (wB x11 true) h15 (fun k => k a3 h15 ([], [])) fun x17 h18 e19 =>
gopD (wB x11 true) h18 (fun k => k a2 h18 ([], [])) fun x20 h21 e22 =>
gopD (wB x11 true) h21 (fun k => effD (callE (D 56) [x17, x20] h21 (List.length h21)) h21 k) fun x23 h24 e25 =>
gopD (wB x11 true) h24 (fun k => effD (callE (D 58) [x14, x23] h24 (List.length h24)) h24 k) fun x26 h27 e28 =>
gopD (wB x11 true) h27 (fun k => k a2 h27 ([], [])) fun x29 h30 e31 =>
gopD (wB x11 true) h30 (fun k => convK P 3 77 x29 fun v => k v h30 ([], [])) fun x32 h33 e34 =>
gopD (wB x11 true) h33 (fun k => buildK [.s (.int .u64 0), .s (.int .u64 0)] [(some (0, 1), (.s (.int .u64 0))), (some (1, 1), x32)] fun v => k v h33 ([], [])) fun x35 h36 e37 =>
gopD (wB x11 true) h36 (fun k => effD (callE (D 57) [x26, x35] h36 (List.length h36)) h36 k) fun x38 h39 e40 =>
gopD (wB x11 true) h39 (fun k => notK x38 fun v => k v h39 ([], [])) fun x41 h42 e43 =>
pickK x11 x41 (.s (.bool false)) fun x44 =>
bif disjAll [(2, 3), (6, 9)] [([], []), ([], []), e9, ((idsOf x3), []), e13, ([], []), e16, e19, e22, e25, e28, e31, e34, e37, e40, e43, ([], [])] then (
condK x44 (
K (.tup [(.s (.int .i64 0)), (.s (.int .i64 0)), (.s (.bool false))]) h42) (
cL2 ((upd (upd (upd (upd (upd (upd (upd (tm0 [a0, a1, a2, a3]) 8 (.s (.int .i64 0))) 9 (.s (.int .i64 0))) 10 (.s (.bool false))) 11 x3) 33 x44) 12 (.s (.int .i64 0))) 13 (.s (.int .i64 2305843009213693952))), h42))) else none
def o_ref01_Of (P : Program) (T : Tab) (D : DTab) (N : Nat) {β : Type} (K : AV → Hp → Option β) (a0 : AV) (a1 : AV) (a2 : AV) (a3 : AV) (h : Hp) : Option β := o_ref01_Of_G P T D N (fun s => iterK (fun s k => o_ref01_Of_L2 P T D N s.1 s.2 k) N s (o_ref01_Of_aL2 P T D N K)) K a0 a1 a2 a3 h
def f_ref01_Of_j1 (P : Program) (T : Tab) (D : DTab) (N : Nat) {β : Type} (K : AV → Hp → Option β) (v2 : AV) (v11 : AV) (v12 : AV) (h : Hp) : Option β :=
ldK 2 true v11 h fun x45 =>
effD (callE (D 56) [v12, v2] h (List.length h)) h fun x46 h47 e48 =>
effD (callE (D 58) [x45, x46] h47 (List.length h47)) h47 fun x49 h50 e51 =>
fldK 1 false 1 x49 fun x52 =>
convK P 77 3 x52 fun x53 =>
bif disjAll [(1, 4)] [([], []), ((idsOf v11), []), ([], []), ([], []), e48, e51, ([], []), ([], []), ([], []), ([], []), ([], [])] then (
K (.tup [v12, x53, (.s (.bool true))]) h50) else none
def f_ref01_Of_j3 (P : Program) (T : Tab) (D : DTab) (N : Nat) {β : Type} (xn : AV → AV → AV → AV → AV → Hp → Option β) (x0 : AV → AV → AV → Hp → Option β) (v2 : AV) (v3 : AV) (v11 : AV) (v12 : AV) (v13 : AV) (h : Hp) : Option β :=
reckK P .quo 3 v13 (.s (.int .i64 2)) fun x55 =>
xn v2 v3 v11 v12 x55 h
def f_ref01_Of_j4 (P : Program) (T : Tab) (D : DTab) (N : Nat) {β : Type} (xn : AV → AV → AV → AV → AV → Hp → Option β) (x0 : AV → AV → AV → Hp → Option β) (v2 : AV) (v3 : AV) (v11 : AV) (v12 : AV) (v13 : AV) (h : Hp) : Option β :=
f_ref01_Of_j3 P T D N xn x0 v2 v3 v11 v12 v13 h
def f_ref01_Of_b2 (P : Program) (T : Tab) (D : DTab) (N : Nat) {β : Type} (xn : AV → AV → AV → AV → AV → Hp → Option β) (x0 : AV → AV → AV → Hp → Option β) (v2 : AV) (v3 : AV) (v11 : AV) (v12 : AV) (v13 : AV) (h : Hp) : Option β :=
arithK .gtr v13 (.s (.int .i64 0)) fun x54 =>
condK x54 (
arithK .add v12 v13 fun x56 =>
arithK .leq x56 v3 fun x57 =>
gopD (wB x57 true) h (fun k => ldK 2 true v11 h fun v => k v h ((idsOf v11), [])) fun x58 h59 e60 =>
gopD (wB x57 true) h59 (fun k => k v12 h59 ([], [])) fun x61 h62 e63 =>
gopD (wB x57 true) h62 (fun k => k v13 h62 ([], [])) fun x64 h65 e66 =>
gopD (wB x57 true) h65 (fun k => arithK .add x61 x64 fun v => k v h65 ([], [])) fun x67 h68 e69 =>
gopD (wB x57 true) h68 (fun k => k v2 h68 ([], [])) fun x70 h71 e72 =>
gopD (wB x57 true) h71 (fun k => effD (callE (D 56) [x67, x70] h71 (List.length h71)) h71 k) fun x73 h74 e75 =>
gopD (wB x57 true) h74 (fun k => effD (callE (D 57) [x58, x73] h74 (List.length h74)) h74 k) fun x76 h77 e78 =>
gopD (wB x57 true) h77 (fun k => notK x76 fun v => k v h77 ([], [])) fun x79 h80 e81 =>
pickK x57 x79 (.s (.bool false)) fun x82 =>
bif disjAll [(6, 11)] [([], []), ([], []), ([], []), ([], []), ([], []), ([], []), e60, e63, e66, e69, e72, e75, e78, e81, ([], [])] then (
condK x82 (
arithK .add v12 v13 fun x83 =>
f_ref01_Of_j4 P T D N xn x0 v2 v3 v11 x83 v13 h80) (
f_ref01_Of_j4 P T D N xn x0 v2 v3 v11 v12 v13 h80)) else none) (
x0 v2 v11 v12 h)
def f_ref01_Of_L2 (P : Program) (T : Tab) (D : DTab) (N : Nat) {β : Type} (x0 : AV → AV → AV → Hp → Option β) : Nat → AV → AV → AV → AV → AV → Hp → Option β
  | 0 => fun _ _ _ _ _ _ => none
  | n + 1 => fun v2 v3 v11 v12 v13 h => f_ref01_Of_b2 P T D N (f_ref01_Of_L2 P T D N x0 n) x0 v2 v3 v11 v12 v13 h
/-- spile/spileref01.Of -/
def f_ref01_Of (P : Program) (T : Tab) (D : DTab) (N : Nat) {β : Type} (K : AV → Hp → Option β) (a0 : AV) (a1 : AV) (a2 : AV) (a3 : AV) (h : Hp) : Option β :=
callK (T 56) [a0, a1] h fun x1 h2 =>
effK (boxE 2 (.agg [.s (.int .u64 0), .s (.int .u64 0)]) (List.length h2)) h2 fun x3 h4 =>
effK (stE 2 x3 x1 h4) h4 fun x5 h6 =>
effD (callE (D 56) [a3, a2] h6 (List.length h6)) h6 fun x7 h8 e9 =>
ldK 2 true x3 h8 fun x10 =>
effD (callE (D 57) [x7, x10] h8 (List.length h8)) h8 fun x11 h12 e13 =>
gopD (wB x11 true) h12 (fun k => ldK 2 true x3 h12 fun v => k v h12 ((idsOf x3), [])) fun x14 h15 e16 =>
gopD (wB x11 true) h15 (fun k => k a3 h15 ([], [])) fun x17 h18 e19 =>
gopD (wB x11 true) h18 (fun k => k a2 h18 ([], [])) fun x20 h21 e22 =>
gopD (wB x11 true) h21 (fun k => effD (callE (D 56) [x17, x20] h21 (List.length h21)) h21 k) fun x23 h24 e25 =>
gopD (wB x11 true) h24 (fun k => effD (callE (D 58) [x14, x23] h24 (List.length h24)) h24 k) fun x26 h27 e28 =>
gopD (wB x11 true) h27 (fun k => k a2 h27 ([], [])) fun x29 h30 e31 =>
gopD (wB x11 true) h30 (fun k => convK P 3 77 x29 fun v => k v h30 ([], [])) fun x32 h33 e34 =>
gopD (wB x11 true) h33 (fun k => buildK [.s (.int .u64 0), .s (.int .u64 0)] [(some (0, 1), (.s (.int .u64 0))), (some (1, 1), x32)] fun v => k v h33 ([], [])) fun x35 h36 e37 =>
gopD (wB x11 true) h36 (fun k => effD (callE (D 57) [x26, x35] h36 (List.length h36)) h36 k) fun x38 h39 e40 =>
gopD (wB x11 true) h39 (fun k => notK x38 fun v => k v h39 ([], [])) fun x41 h42 e43 =>
pickK x11 x41 (.s (.bool false)) fun x44 =>
bif disjAll [(2, 3), (6, 9)] [([], []), ([], []), e9, ((idsOf x3), []), e13, ([], []), e16, e19, e22, e25, e28, e31, e34, e37, e40, e43, ([], [])] then (
condK x44 (
K (.tup [(.s (.int .i64 0)), (.s (.int .i64 0)), (.s (.bool false))]) h42) (
f_ref01_Of_L2 P T D N (fun w84_2 w84_11 w84_12 h => f_ref01_Of_j1 P T D N K w84_2 w84_11 w84_12 h) N a2 a3 x3 (.s (.int .i64 0)) (.s (.int .i64 2305843009213693952)) h42)) else none
theorem f_ref01_Of_j1_eq (P : Program) (T : Tab) (D : DTab) (N : Nat) {β : Type} (K : AV → Hp → Option β) (t : Tm) (h : Hp) : o_ref01_Of_j1 P T D N K t h = f_ref01_Of_j1 P T D N K (t 2) (t 11) (t 12) h := by kernel_rfl
theorem f_ref01_Of_j3_eq (P : Program) (T : Tab) (D : DTab) (N : Nat) {β : Type} (xn : AV → AV → AV → AV → AV → Hp → Option β) (x0 : AV → AV → AV → Hp → Option β) (xd : Nat → St → Option β) (xq : St → Option β) (t : Tm) (h : Hp) : o_ref01_Of_j3 P T D N (fun (e : Ex) (s : St) => e.on (xn (s.1 2) (s.1 3) (s.1 11) (s.1 12) (s.1 13) s.2) (fun i => (bif i == 0 then x0 (s.1 2) (s.1 11) (s.1 12) s.2 else (xd i s))) (xq s)) t h = f_ref01_Of_j3 P T D N xn x0 (t 2) (t 3) (t 11) (t 12) (t 13) h := by kernel_rfl
theorem f_ref01_Of_j4_eq (P : Program) (T : Tab) (D : DTab) (N : Nat) {β : Type} (xn : AV → AV → AV → AV → AV → Hp → Option β) (x0 : AV → AV → AV → Hp → Option β) (xd : Nat → St → Option β) (xq : St → Option β) (t : Tm) (h : Hp) : o_ref01_Of_j4 P T D N (fun (e : Ex) (s : St) => e.on (xn (s.1 2) (s.1 3) (s.1 11) (s.1 12) (s.1 13) s.2) (fun i => (bif i == 0 then x0 (s.1 2) (s.1 11) (s.1 12) s.2 else (xd i s))) (xq s)) t h = f_ref01_Of_j4 P T D N xn x0 (t 2) (t 3) (t 11) (t 12) (t 13) h := by kernel_rfl
theorem f_ref01_Of_b2_eq (P : Program) (T : Tab) (D : DTab) (N : Nat) {β : Type} (xn : AV → AV → AV → AV → AV → Hp → Option β) (x0 : AV → AV → AV → Hp → Option β) (xd : Nat → St → Option β) (xq : St → Option β) (t : Tm) (h : Hp) : o_ref01_Of_L2 P T D N t h (fun (e : Ex) (s : St) => e.on (xn (s.1 2) (s.1 3) (s.1 11) (s.1 12) (s.1 13) s.2) (fun i => (bif i == 0 then x0 (s.1 2) (s.1 11) (s.1 12) s.2 else (xd i s))) (xq s)) = f_ref01_Of_b2 P T D N xn x0 (t 2) (t 3) (t 11) (t 12) (t 13) h := by kernel_rfl
theorem f_ref01_Of_L2_eq (P : Program) (T : Tab) (D : DTab) (N : Nat) {β : Type} (A : Ex → St → Option β) (x0 : AV → AV → AV → Hp → Option β) (q0 : ∀ s, A (.exit 0) s = x0 (s.1 2) (s.1 11) (s.1 12) s.2) : ∀ (n : Nat) (s : St), iterK (fun s k => o_ref01_Of_L2 P T D N s.1 s.2 k) n s A = f_ref01_Of_L2 P T D N x0 n (s.1 2) (s.1 3) (s.1 11) (s.1 12) (s.1 13) s.2 := by
  intro n
  induction n with
  | zero => intro s; rfl
  | succ n ih =>
    intro s
    have hk : (fun (e : Ex) (s' : St) => Ex.on e (iterK (fun s k => o_ref01_Of_L2 P T D N s.1 s.2 k) n s' A) (fun i => A (.exit i) s') (A .ret s')) = (fun (e : Ex) (s : St) => e.on ((f_ref01_Of_L2 P T D N x0 n) (s.1 2) (s.1 3) (s.1 11) (s.1 12) (s.1 13) s.2) (fun i => (bif i == 0 then x0 (s.1 2) (s.1 11) (s.1 12) s.2 else (A (.exit i) s))) (A .ret s)) := by
      funext e s'
      cases e with
      | normal => exact ih s'
      | ret => exact rfl
      | exit i =>
        by_cases r0 : i = 0
        · subst r0; exact q0 s'
        simp only [Ex.on, beq_false_of_ne r0, cond_false]
    show o_ref01_Of_L2 P T D N s.1 s.2 (fun (e : Ex) (s' : St) => Ex.on e (iterK (fun s k => o_ref01_Of_L2 P T D N s.1 s.2 k) n s' A) (fun i => A (.exit i) s') (A .ret s')) = _
    rw [hk]
    exact f_ref01_Of_b2_eq P T D N (f_ref01_Of_L2 P T D N x0 n) x0 (fun i s => A (.exit i) s) (fun s => A .ret s) s.1 s.2
theorem f_ref01_Of_old_eq (P : Program) (T : Tab) (D : DTab) (N : Nat) {β : Type} (K : AV → Hp → Option β) (a0 : AV) (a1 : AV) (a2 : AV) (a3 : AV) (h : Hp) : o_ref01_Of P T D N K a0 a1 a2 a3 h = f_ref01_Of P T D N K a0 a1 a2 a3 h := by
  have eL2 : (fun s : St => iterK (fun s k => o_ref01_Of_L2 P T D N s.1 s.2 k) N s (o_ref01_Of_aL2 P T D N K)) = (fun s : St => f_ref01_Of_L2 P T D N (fun w84_2 w84_11 w84_12 h => f_ref01_Of_j1 P T D N K w84_2 w84_11 w84_12 h) N (s.1 2) (s.1 3) (s.1 11) (s.1 12) (s.1 13) s.2) := funext fun s => f_ref01_Of_L2_eq P T D N (o_ref01_Of_aL2 P T D N K) (fun w84_2 w84_11 w84_12 h => f_ref01_Of_j1 P T D N K w84_2 w84_11 w84_12 h) (fun s => rfl) N s
  show o_ref01_Of_G P T D N (fun s => iterK (fun s k => o_ref01_Of_L2 P T D N s.1 s.2 k) N s (o_ref01_Of_aL2 P T D N K)) K a0 a1 a2 a3 h = _
  rw [eL2]
  kernel_rfl
theorem o_ref01_Of_run (T : Tab) (D : DTab) (N : Nat) {β : Type} (K : AV → Hp → Option β) (a0 : AV) (a1 : AV) (a2 : AV) (a3 : AV) (h : Hp) : runK Try.prog T D N [0, 1, 2, 3, 8, 9, 10, 11, 12, 13, 33, 35, 52] Try.f52 K [a0, a1, a2, a3] h = o_ref01_Of Try.prog T D N K a0 a1 a2 a3 h := by kernel_rfl
theorem f_ref01_Of_run (T : Tab) (D : DTab) (N : Nat) {β : Type} (K : AV → Hp → Option β) (a0 : AV) (a1 : AV) (a2 : AV) (a3 : AV) (h : Hp) : runK Try.prog T D N [0, 1, 2, 3, 8, 9, 10, 11, 12, 13, 33, 35, 52] Try.f52 K [a0, a1, a2, a3] h = f_ref01_Of Try.prog T D N K a0 a1 a2 a3 h := (o_ref01_Of_run T D N K a0 a1 a2 a3 h).trans (f_ref01_Of_old_eq Try.prog T D N K a0 a1 a2 a3 h)
def o_slices_IndexFunc_int_j1 (P : Program) (T : Tab) (D : DTab) (N : Nat) {β : Type} (K : AV → Hp → Option β) (t : Tm) (h : Hp) : Option β :=
K (.s (.int .i64 (-1))) h
def o_slices_IndexFunc_int_L2 (P : Program) (T : Tab) (D : DTab) (N : Nat) {β : Type} (t : Tm) (h : Hp) (k : Ex → St → Option β) : Option β :=
arithK .lss (t 8) (t 7) fun x2 =>
condK x2 (
iaK 1 (t 0) (t 8) fun x3 =>
ldK 1 false x3 h fun x4 =>
callVK T (t 1) [x4] h fun x5 h6 =>
condK x5 (
k .ret ((upd (upd (upd (upd t 9 x2) 5 (t 8)) 16 x5) 4 (t 8)), h6)) (
arithK .add (t 8) (.s (.int .i64 1)) fun x7 =>
k .normal ((upd (upd (upd (upd t 9 x2) 5 (t 8)) 16 x5) 8 x7), h6))) (
k (.exit 0) ((upd t 9 x2), h))
def o_slices_IndexFunc_int_aL2 (P : Program) (T : Tab) (D : DTab) (N : Nat) {β : Type} (K : AV → Hp → Option β) (e : Ex) (s : St) : Option β :=
  e.on ((o_slices_IndexFunc_int_j1 P T D N K s.1 s.2))
  (fun i => bif i == 0 then ((o_slices_IndexFunc_int_j1 P T D N K s.1 s.2)) else (none))
  (K (s.1 4) s.2)
def o_slices_IndexFunc_int_G (P : Program) (T : Tab) (D : DTab) (N : Nat) {β : Type} (cL2 : St → Option β) (K : AV → Hp → Option β) (a0 : AV) (a1 : AV) (h : Hp) :  Option β :=
lenK a0 fun x1 =>
cL2 ((upd (upd (upd (tm0 [a0, a1]) 4 (.s (.int .i64 0))) 7 x1) 8 (.s (.int .i64 0))), h)
def o_slices_IndexFunc_int (P : Program) (T : Tab) (D : DTab) (N : Nat) {β : Type} (K : AV → Hp → Option β) (a0 : AV) (a1 : AV) (h : Hp) : Option β := o_slices_IndexFunc_int_G P T D N (fun s => iterK (fun s k => o_slices_IndexFunc_int_L2 P T D N s.1 s.2 k) N s (o_slices_IndexFunc_int_aL2 P T D N K)) K a0 a1 h
def f_slices_IndexFunc_int_j1 (P : Program) (T : Tab) (D : DTab) (N : Nat) {β : Type} (K : AV → Hp → Option β) (h : Hp) : Option β :=
K (.s (.int .i64 (-1))) h
def f_slices_IndexFunc_int_b2 (P : Program) (T : Tab) (D : DTab) (N : Nat) {β : Type} (xn : AV → AV → AV → AV → Hp → Option β) (x0 : Hp → Option β) (xr : AV → Hp → Option β) (v0 : AV) (v1 : AV) (v7 : AV) (v8 : AV) (h : Hp) : Option β :=
arithK .lss v8 v7 fun x2 =>
condK x2 (
iaK 1 v0 v8 fun x3 =>
ldK 1 false x3 h fun x4 =>
callVK T v1 [x4] h fun x5 h6 =>
condK x5 (
xr v8 h6) (
arithK .add v8 (.s (.int .i64 1)) fun x7 =>
xn v0 v1 v7 x7 h6)) (
x0 h)
def f_slices_IndexFunc_int_L2 (P : Program) (T : Tab) (D : DTab) (N : Nat) {β : Type} (x0 : Hp → Option β) (xr : AV → Hp → Option β) : Nat → AV → AV → AV → AV → Hp → Option β
  | 0 => fun _ _ _ _ _ => none
  | n + 1 => fun v0 v1 v7 v8 h => f_slices_IndexFunc_int_b2 P T D N (f_slices_IndexFunc_int_L2 P T D N x0 xr n) x0 xr v0 v1 v7 v8 h
/-- slices.IndexFunc[[]int,int] -/
def f_slices_IndexFunc_int (P : Program) (T : Tab) (D : DTab) (N : Nat) {β : Type} (K : AV → Hp → Option β) (a0 : AV) (a1 : AV) (h : Hp) : Option β :=
lenK a0 fun x1 =>
f_slices_IndexFunc_int_L2 P T D N (fun h => f_slices_IndexFunc_int_j1 P T D N K h) (fun w9_4 h => K w9_4 h) N a0 a1 x1 (.s (.int .i64 0)) h
theorem f_slices_IndexFunc_int_j1_eq (P : Program) (T : Tab) (D : DTab) (N : Nat) {β : Type} (K : AV → Hp → Option β) (t : Tm) (h : Hp) : o_slices_IndexFunc_int_j1 P T D N K t h = f_slices_IndexFunc_int_j1 P T D N K h := by kernel_rfl
theorem f_slices_IndexFunc_int_b2_eq (P : Program) (T : Tab) (D : DTab) (N : Nat) {β : Type} (xn : AV → AV → AV → AV → Hp → Option β) (x0 : Hp → Option β) (xr : AV → Hp → Option β) (xd : Nat → St → Option β) (xq : St → Option β) (t : Tm) (h : Hp) : o_slices_IndexFunc_int_L2 P T D N t h (fun (e : Ex) (s : St) => e.on (xn (s.1 0) (s.1 1) (s.1 7) (s.1 8) s.2) (fun i => (bif i == 0 then x0 s.2 else (xd i s))) (xr (s.1 4) s.2)) = f_slices_IndexFunc_int_b2 P T D N xn x0 xr (t 0) (t 1) (t 7) (t 8) h := by kernel_rfl
theorem f_slices_IndexFunc_int_L2_eq (P : Program) (T : Tab) (D : DTab) (N : Nat) {β : Type} (A : Ex → St → Option β) (x0 : Hp → Option β) (xr : AV → Hp → Option β) (q0 : ∀ s, A (.exit 0) s = x0 s.2) (qr : ∀ s, A .ret s = xr (s.1 4) s.2) : ∀ (n : Nat) (s : St), iterK (fun s k => o_slices_IndexFunc_int_L2 P T D N s.1 s.2 k) n s A = f_slices_IndexFunc_int_L2 P T D N x0 xr n (s.1 0) (s.1 1) (s.1 7) (s.1 8) s.2 := by
  intro n
  induction n with
  | zero => intro s; rfl
  | succ n ih =>
    intro s
    have hk : (fun (e : Ex) (s' : St) => Ex.on e (iterK (fun s k => o_slices_IndexFunc_int_L2 P T D N s.1 s.2 k) n s' A) (fun i => A (.exit i) s') (A .ret s')) = (fun (e : Ex) (s : St) => e.on ((f_slices_IndexFunc_int_L2 P T D N x0 xr n) (s.1 0) (s.1 1) (s.1 7) (s.1 8) s.2) (fun i => (bif i == 0 then x0 s.2 else (A (.exit i) s))) (xr (s.1 4) s.2)) := by
      funext e s'
      cases e with
      | normal => exact ih s'
      | ret => exact qr s'
      | exit i =>
        by_cases r0 : i = 0
        · subst r0; exact q0 s'
        simp only [Ex.on, beq_false_of_ne r0, cond_false]
    show o_slices_IndexFunc_int_L2 P T D N s.1 s.2 (fun (e : Ex) (s' : St) => Ex.on e (iterK (fun s k => o_slices_IndexFunc_int_L2 P T D N s.1 s.2 k) n s' A) (fun i => A (.exit i) s') (A .ret s')) = _
    rw [hk]
    exact f_slices_IndexFunc_int_b2_eq P T D N (f_slices_IndexFunc_int_L2 P T D N x0 xr n) x0 xr (fun i s => A (.exit i) s) (fun s => A .ret s) s.1 s.2
theorem f_slices_IndexFunc_int_old_eq (P : Program) (T : Tab) (D : DTab) (N : Nat) {β : Type} (K : AV → Hp → Option β) (a0 : AV) (a1 : AV) (h : Hp) : o_slices_IndexFunc_int P T D N K a0 a1 h = f_slices_IndexFunc_int P T D N K a0 a1 h := by
  have eL2 : (fun s : St => iterK (fun s k => o_slices_IndexFunc_int_L2 P T D N s.1 s.2 k) N s (o_slices_IndexFunc_int_aL2 P T D N K)) = (fun s : St => f_slices_IndexFunc_int_L2 P T D N (fun h => f_slices_IndexFunc_int_j1 P T D N K h) (fun w9_4 h => K w9_4 h) N (s.1 0) (s.1 1) (s.1 7) (s.1 8) s.2) := funext fun s => f_slices_IndexFunc_int_L2_eq P T D N (o_slices_IndexFunc_int_aL2 P T D N K) (fun h => f_slices_IndexFunc_int_j1 P T D N K h) (fun w9_4 h => K w9_4 h) (fun s => rfl) (fun s => rfl) N s
  show o_slices_IndexFunc_int_G P T D N (fun s => iterK (fun s k => o_slices_IndexFunc_int_L2 P T D N s.1 s.2 k) N s (o_slices_IndexFunc_int_aL2 P T D N K)) K a0 a1 h = _
  rw [eL2]
  kernel_rfl
theorem o_slices_IndexFunc_int_run (T : Tab) (D : DTab) (N : Nat) {β : Type} (K : AV → Hp → Option β) (a0 : AV) (a1 : AV) (h : Hp) : runK Try.prog T D N [0, 1, 4, 5, 7, 8, 9, 16] Try.f53 K [a0, a1] h = o_slices_IndexFunc_int Try.prog T D N K a0 a1 h := by kernel_rfl
theorem f_slices_IndexFunc_int_run (T : Tab) (D : DTab) (N : Nat) {β : Type} (K : AV → Hp → Option β) (a0 : AV) (a1 : AV) (h : Hp) : runK Try.prog T D N [0, 1, 4, 5, 7, 8, 9, 16] Try.f53 K [a0, a1] h = f_slices_IndexFunc_int Try.prog T D N K a0 a1 h := (o_slices_IndexFunc_int_run T D N K a0 a1 h).trans (f_slices_IndexFunc_int_old_eq Try.prog T D N K a0 a1 h)
/-- math/bits.Mul64 -/
def f_bits_Mul64 (P : Program) (T : Tab) (D : DTab) (N : Nat) {β : Type} (K : AV → Hp → Option β) (a0 : AV) (a1 : AV) (h : Hp) : Option β :=
reckK P .and 77 a0 (.s (.int .u64 4294967295)) fun x1 =>
reckK P .shr 77 a0 (.s (.int .u64 32)) fun x2 =>
reckK P .and 77 a1 (.s (.int .u64 4294967295)) fun x3 =>
reckK P .shr 77 a1 (.s (.int .u64 32)) fun x4 =>
arithK .mul x1 x3 fun x5 =>
arithK .mul x2 x3 fun x6 =>
reckK P .shr 77 x5 (.s (.int .u64 32)) fun x7 =>
arithK .add x6 x7 fun x8 =>
reckK P .and 77 x8 (.s (.int .u64 4294967295)) fun x9 =>
reckK P .shr 77 x8 (.s (.int .u64 32)) fun x10 =>
arithK .mul x1 x4 fun x11 =>
arithK .add x9 x11 fun x12 =>
arithK .mul x2 x4 fun x13 =>
arithK .add x13 x10 fun x14 =>
reckK P .shr 77 x12 (.s (.int .u64 32)) fun x15 =>
arithK .add x14 x15 fun x16 =>
arithK .mul a0 a1 fun x17 =>
K (.tup [x16, x17]) h
theorem f_bits_Mul64_run (T : Tab) (D : DTab) (N : Nat) {β : Type} (K : AV → Hp → Option β) (a0 : AV) (a1 : AV) (h : Hp) : runK Try.prog T D N [0, 1, 4, 5, 6, 7, 8, 9, 10, 11, 12, 13] Try.f54 K [a0, a1] h = f_bits_Mul64 Try.prog T D N K a0 a1 h := by kernel_rfl
/-- math/bits.LeadingZeros64 -/
def f_bits_LeadingZeros64 (P : Program) (T : Tab) (D : DTab) (N : Nat) {β : Type} (K : AV → Hp → Option β) (a0 : AV) (h : Hp) : Option β :=
callK (T 59) [a0] h fun x1 h2 =>
arithK .sub (.s (.int .i64 64)) x1 fun x3 =>
K x3 h2
theorem f_bits_LeadingZeros64_run (T : Tab) (D : DTab) (N : Nat) {β : Type} (K : AV → Hp → Option β) (a0 : AV) (h : Hp) : runK Try.prog T D N [0, 2] Try.f55 K [a0] h = f_bits_LeadingZeros64 Try.prog T D N K a0 h := by kernel_rfl
/-- spile/spileref01.Product -/
def f_ref01_Product (P : Program) (T : Tab) (D : DTab) (N : Nat) {β : Type} (K : AV → Hp → Option β) (a0 : AV) (a1 : AV) (h : Hp) : Option β :=
effK (boxE 2 (.agg [.s (.int .u64 0), .s (.int .u64 0)]) (List.length h)) h fun x1 h2 =>
convK P 3 77 a0 fun x3 =>
convK P 3 77 a1 fun x4 =>
reckK P .and 77 x3 (.s (.int .u64 2147483647)) fun x5 =>
reckK P .and 77 x4 (.s (.int .u64 2147483647)) fun x6 =>
arithK .mul x5 x6 fun x7 =>
reckK P .and 77 x3 (.s (.int .u64 2147483647)) fun x8 =>
reckK P .shr 77 x4 (.s (.int .u64 31)) fun x9 =>
arithK .mul x8 x9 fun x10 =>
reckK P .shr 77 x7 (.s (.int .u64 31)) fun x11 =>
arithK .add x10 x11 fun x12 =>
reckK P .shr 77 x3 (.s (.int .u64 31)) fun x13 =>
reckK P .and 77 x4 (.s (.int .u64 2147483647)) fun x14 =>
arithK .mul x13 x14 fun x15 =>
reckK P .and 77 x12 (.s (.int .u64 2147483647)) fun x16 =>
arithK .add x15 x16 fun x17 =>
reckK P .shr 77 x3 (.s (.int .u64 31)) fun x18 =>
reckK P .shr 77 x4 (.s (.int .u64 31)) fun x19 =>
arithK .mul x18 x19 fun x20 =>
reckK P .shr 77 x12 (.s (.int .u64 31)) fun x21 =>
arithK .add x20 x21 fun x22 =>
reckK P .shr 77 x17 (.s (.int .u64 31)) fun x23 =>
arithK .add x22 x23 fun x24 =>
reckK P .and 77 x17 (.s (.int .u64 2147483647)) fun x25 =>
reckK P .shl 77 x25 (.s (.int .u64 31)) fun x26 =>
reckK P .and 77 x7 (.s (.int .u64 2147483647)) fun x27 =>
reckK P .or 77 x26 x27 fun x28 =>
buildK [.s (.int .u64 0), .s (.int .u64 0)] [(some (0, 1), x24), (some (1, 1), x28)] fun x29 =>
effK (stE 2 x1 x29 h2) h2 fun x30 h31 =>
ldK 2 true x1 h31 fun r32 =>
K r32 h31
theorem f_ref01_Product_run (T : Tab) (D : DTab) (N : Nat) {β : Type} (K : AV → Hp → Option β) (a0 : AV) (a1 : AV) (h : Hp) : runK Try.prog T D N [0, 1, 4, 5, 6, 7, 8, 9] Try.f56 K [a0, a1] h = f_ref01_Product Try.prog T D N K a0 a1 h := by kernel_rfl
/-- spile/spileref01.Less -/
def f_ref01_Less (P : Program) (T : Tab) (D : DTab) (N : Nat) {β : Type} (K : AV → Hp → Option β) (a0 : AV) (a1 : AV) (h : Hp) : Option β :=
effK (boxE 2 a0 (List.length h)) h fun x1 h2 =>
effK (boxE 2 a1 (List.length h2)) h2 fun x3 h4 =>
faK 0 x1 fun x5 =>
ldK 1 false x5 h4 fun x6 =>
faK 0 x3 fun x7 =>
ldK 1 false x7 h4 fun x8 =>
arithK .lss x6 x8 fun x9 =>
grpK false x9 h4 (fun k10 =>
faK 0 x1 fun x11 =>
ldK 1 false x11 h4 fun x12 =>
faK 0 x3 fun x13 =>
ldK 1 false x13 h4 fun x14 =>
eqK P false 77 x12 x14 h4 fun x15 =>
grpK true x15 h4 (fun k16 =>
faK 1 x1 fun x17 =>
ldK 1 false x17 h4 fun x18 =>
faK 1 x3 fun x19 =>
ldK 1 false x19 h4 fun x20 =>
arithK .lss x18 x20 fun x21 =>
k16 x21 h4) fun x22 h23 =>
k10 x22 h23) fun x24 h25 =>
K x24 h25
theorem f_ref01_Less_run (T : Tab) (D : DTab) (N : Nat) {β : Type} (K : AV → Hp → Option β) (a0 : AV) (a1 : AV) (h : Hp) : runK Try.prog T D N [0, 1, 2, 3, 4] Try.f57 K [a0, a1] h = f_ref01_Less Try.prog T D N K a0 a1 h := by kernel_rfl
/-- spile/spileref01.minus -/
def f_ref01_minus (P : Program) (T : Tab) (D : DTab) (N : Nat) {β : Type} (K : AV → Hp → Option β) (a0 : AV) (a1 : AV) (h : Hp) : Option β :=
effK (boxE 2 a0 (List.length h)) h fun x1 h2 =>
effK (boxE 2 a1 (List.length h2)) h2 fun x3 h4 =>
effK (boxE 2 (.agg [.s (.int .u64 0), .s (.int .u64 0)]) (List.length h4)) h4 fun x5 h6 =>
faK 1 x1 fun x7 =>
ldK 1 false x7 h6 fun x8 =>
faK 1 x3 fun x9 =>
ldK 1 false x9 h6 fun x10 =>
arithK .lss x8 x10 fun x11 =>
condK x11 (
faK 0 x1 fun x12 =>
ldK 1 false x12 h6 fun x13 =>
faK 0 x3 fun x14 =>
ldK 1 false x14 h6 fun x15 =>
arithK .sub x13 x15 fun x16 =>
arithK .sub x16 (.s (.int .u64 1)) fun x17 =>
faK 1 x1 fun x18 =>
ldK 1 false x18 h6 fun x19 =>
arithK .add x19 (.s (.int .u64 4611686018427387904)) fun x20 =>
faK 1 x3 fun x21 =>
ldK 1 false x21 h6 fun x22 =>
arithK .sub x20 x22 fun x23 =>
buildK [.s (.int .u64 0), .s (.int .u64 0)] [(some (0, 1), x17), (some (1, 1), x23)] fun x24 =>
effK (stE 2 x5 x24 h6) h6 fun x25 h26 =>
ldK 2 true x5 h26 fun r27 =>
K r27 h26) (
faK 0 x1 fun x28 =>
ldK 1 false x28 h6 fun x29 =>
faK 0 x3 fun x30 =>
ldK 1 false x30 h6 fun x31 =>
arithK .sub x29 x31 fun x32 =>
faK 1 x1 fun x33 =>
ldK 1 false x33 h6 fun x34 =>
faK 1 x3 fun x35 =>
ldK 1 false x35 h6 fun x36 =>
arithK .sub x34 x36 fun x37 =>
buildK [.s (.int .u64 0), .s (.int .u64 0)] [(some (0, 1), x32), (some (1, 1), x37)] fun x38 =>
effK (stE 2 x5 x38 h6) h6 fun x39 h40 =>
ldK 2 true x5 h40 fun r41 =>
K r41 h40)
theorem f_ref01_minus_run (T : Tab) (D : DTab) (N : Nat) {β : Type} (K : AV → Hp → Option β) (a0 : AV) (a1 : AV) (h : Hp) : runK Try.prog T D N [0, 1, 2, 3, 4, 9] Try.f58 K [a0, a1] h = f_ref01_minus Try.prog T D N K a0 a1 h := by kernel_rfl
def f_bits_Len64_j3 (P : Program) (T : Tab) (D : DTab) (N : Nat) {β : Type} (K : AV → Hp → Option β) (v0 : AV) (v2 : AV) (h : Hp) : Option β :=
convK P 77 5 v0 fun x1 =>
chK (.s (.string ⟨([0, 1, 2, 2, 3, 3, 3, 3, 4, 4, 4, 4, 4, 4, 4, 4, 5, 5, 5, 5, 5, 5, 5, 5, 5, 5, 5, 5, 5, 5, 5, 5, 6, 6, 6, 6, 6, 6, 6, 6, 6, 6, 6, 6, 6, 6, 6, 6, 6, 6, 6, 6, 6, 6, 6, 6, 6, 6, 6, 6, 6, 6, 6, 6] ++ [7, 7, 7, 7, 7, 7, 7, 7, 7, 7, 7, 7, 7, 7, 7, 7, 7, 7, 7, 7, 7, 7, 7, 7, 7, 7, 7, 7, 7, 7, 7, 7, 7, 7, 7, 7, 7, 7, 7, 7, 7, 7, 7, 7, 7, 7, 7, 7, 7, 7, 7, 7, 7, 7, 7, 7, 7, 7, 7, 7, 7, 7, 7, 7] ++ [8, 8, 8, 8, 8, 8, 8, 8, 8, 8, 8, 8, 8, 8, 8, 8, 8, 8, 8, 8, 8, 8, 8, 8, 8, 8, 8, 8, 8, 8, 8, 8, 8, 8, 8, 8, 8, 8, 8, 8, 8, 8, 8, 8, 8, 8, 8, 8, 8, 8, 8, 8, 8, 8, 8, 8, 8, 8, 8, 8, 8, 8, 8, 8] ++ [8, 8, 8, 8, 8, 8, 8, 8, 8, 8, 8, 8, 8, 8, 8, 8, 8, 8, 8, 8, 8, 8, 8, 8, 8, 8, 8, 8, 8, 8, 8, 8, 8, 8, 8, 8, 8, 8, 8, 8, 8, 8, 8, 8, 8, 8, 8, 8, 8, 8, 8, 8, 8, 8, 8, 8, 8, 8, 8, 8, 8, 8, 8, 8] : List UInt8).toArray⟩)) x1 fun x2 =>
convK P 5 3 x2 fun x3 =>
arithK .add v2 x3 fun x4 =>
K x4 h
def f_bits_Len64_j2 (P : Program) (T : Tab) (D : DTab) (N : Nat) {β : Type} (K : AV → Hp → Option β) (v0 : AV) (v2 : AV) (h : Hp) : Option β :=
arithK .geq v0 (.s (.int .u64 256)) fun x5 =>
condK x5 (
reckK P .shr 77 v0 (.s (.int .u64 8)) fun x6 =>
arithK .add v2 (.s (.int .i64 8)) fun x7 =>
f_bits_Len64_j3 P T D N K x6 x7 h) (
f_bits_Len64_j3 P T D N K v0 v2 h)
def f_bits_Len64_j1 (P : Program) (T : Tab) (D : DTab) (N : Nat) {β : Type} (K : AV → Hp → Option β) (v0 : AV) (v2 : AV) (h : Hp) : Option β :=
arithK .geq v0 (.s (.int .u64 65536)) fun x8 =>
condK x8 (
reckK P .shr 77 v0 (.s (.int .u64 16)) fun x9 =>
arithK .add v2 (.s (.int .i64 16)) fun x10 =>
f_bits_Len64_j2 P T D N K x9 x10 h) (
f_bits_Len64_j2 P T D N K v0 v2 h)
/-- math/bits.Len64 -/
def f_bits_Len64 (P : Program) (T : Tab) (D : DTab) (N : Nat) {β : Type} (K : AV → Hp → Option β) (a0 : AV) (h : Hp) : Option β :=
arithK .geq a0 (.s (.int .u64 4294967296)) fun x11 =>
condK x11 (
reckK P .shr 77 a0 (.s (.int .u64 32)) fun x12 =>
f_bits_Len64_j1 P T D N K x12 (.s (.int .i64 32)) h) (
f_bits_Len64_j1 P T D N K a0 (.s (.int .i64 0)) h)
theorem f_bits_Len64_run (T : Tab) (D : DTab) (N : Nat) {β : Type} (K : AV → Hp → Option β) (a0 : AV) (h : Hp) : runK Try.prog T D N [0, 2, 4, 8, 14] Try.f59 K [a0] h = f_bits_Len64 Try.prog T D N K a0 h := by kernel_rfl
end Go.AM
