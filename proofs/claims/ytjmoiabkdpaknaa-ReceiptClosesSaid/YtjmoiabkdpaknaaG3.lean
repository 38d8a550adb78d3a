import Derived.Test.YtjmoiabkdpaknaaG2
import Derived.Test.YtjmoiabkdpaknaaProg
set_option linter.unusedSectionVars false
set_option linter.unusedVariables false
set_option linter.unusedSimpArgs false
set_option linter.constructorNameAsVariable false
namespace Go.AM
open Go.Proofs
set_option linter.unusedVariables false
set_option maxRecDepth 100000
theorem un_3 : Try.prog.underlying 3 = some (.int .i64) := by kernel_rfl
theorem un_99 : Try.prog.underlying 99 = some (.int .u64) := by kernel_rfl
@[simp] theorem cv_3_99 {β : Type} (n : Int) (k : K β) : convK Try.prog 3 99 (.s (.int .i64 n)) k = k (.s (.int .u64 (IntKind.u64.wrap n))) := convK_int un_3 un_99 k
theorem un_110 : Try.prog.underlying 110 = some (.int .u64) := by kernel_rfl
@[simp] theorem cv_3_110 {β : Type} (n : Int) (k : K β) : convK Try.prog 3 110 (.s (.int .i64 n)) k = k (.s (.int .u64 (IntKind.u64.wrap n))) := convK_int un_3 un_110 k
theorem un_5 : Try.prog.underlying 5 = some (.int .u8) := by kernel_rfl
@[simp] theorem cv_5_3 {β : Type} (n : Int) (k : K β) : convK Try.prog 5 3 (.s (.int .u8 n)) k = k (.s (.int .i64 (IntKind.i64.wrap n))) := convK_int un_5 un_3 k
theorem un_53 : Try.prog.underlying 53 = some (.int .u16) := by kernel_rfl
@[simp] theorem cv_53_3 {β : Type} (n : Int) (k : K β) : convK Try.prog 53 3 (.s (.int .u16 n)) k = k (.s (.int .i64 (IntKind.i64.wrap n))) := convK_int un_53 un_3 k
@[simp] theorem cv_99_3 {β : Type} (n : Int) (k : K β) : convK Try.prog 99 3 (.s (.int .u64 n)) k = k (.s (.int .i64 (IntKind.i64.wrap n))) := convK_int un_99 un_3 k
@[simp] theorem cv_99_5 {β : Type} (n : Int) (k : K β) : convK Try.prog 99 5 (.s (.int .u64 n)) k = k (.s (.int .u8 (IntKind.u8.wrap n))) := convK_int un_99 un_5 k
@[simp] theorem el_22 : elemOf Try.prog 22 = some 35 := by kernel_rfl
@[simp] theorem eqn_22_false {β : Type} (h : Hp) (k : K β) : eqK Try.prog false 22 (.s (.slice none 0 0)) (.s (.slice none 0 0)) h k = k (.s (.bool true)) := by kernel_rfl
@[simp] theorem eqn_22_true {β : Type} (h : Hp) (k : K β) : eqK Try.prog true 22 (.s (.slice none 0 0)) (.s (.slice none 0 0)) h k = k (.s (.bool false)) := by kernel_rfl
@[simp] theorem el_23 : elemOf Try.prog 23 = some 3 := by kernel_rfl
@[simp] theorem eqn_23_false {β : Type} (h : Hp) (k : K β) : eqK Try.prog false 23 (.s (.slice none 0 0)) (.s (.slice none 0 0)) h k = k (.s (.bool true)) := by kernel_rfl
@[simp] theorem eqn_23_true {β : Type} (h : Hp) (k : K β) : eqK Try.prog true 23 (.s (.slice none 0 0)) (.s (.slice none 0 0)) h k = k (.s (.bool false)) := by kernel_rfl
@[simp] theorem el_26 : elemOf Try.prog 26 = some 46 := by kernel_rfl
@[simp] theorem eqn_26_false {β : Type} (h : Hp) (k : K β) : eqK Try.prog false 26 (.s (.slice none 0 0)) (.s (.slice none 0 0)) h k = k (.s (.bool true)) := by kernel_rfl
@[simp] theorem eqn_26_true {β : Type} (h : Hp) (k : K β) : eqK Try.prog true 26 (.s (.slice none 0 0)) (.s (.slice none 0 0)) h k = k (.s (.bool false)) := by kernel_rfl
@[simp] theorem eqs_35 {β : Type} (neq : Bool) (a0 : Int) (a1 : Int) (a2 : Int) (b0 : Int) (b1 : Int) (b2 : Int) (h : Hp) (k : K β) : eqK Try.prog neq 35 (.agg [.s (.int .i64 a0), .s (.int .i64 a1), .s (.int .i64 a2)]) (.agg [.s (.int .i64 b0), .s (.int .i64 b1), .s (.int .i64 b2)]) h k = k (.s (.bool (xor neq ((a0 == b0) && ((a1 == b1) && ((a2 == b2) && (true))))))) := by
  have e1 : Try.prog.eqGuardType Try.prog.depth 35 = false := by kernel_rfl
  have e2 : aggT Try.prog 35 = true := by kernel_rfl
  have e3 : eqFlat Try.prog 8 35 [.s (.int .i64 a0), .s (.int .i64 a1), .s (.int .i64 a2)] [.s (.int .i64 b0), .s (.int .i64 b1), .s (.int .i64 b2)] = some ((a0 == b0) && ((a1 == b1) && ((a2 == b2) && (true)))) := by kernel_rfl
  simp only [eqK, e1, e2, e3]
@[simp] theorem eqs_44 {β : Type} (neq : Bool) (a0 : Int) (a1 : Int) (a2 : Int) (a3 : Int) (b0 : Int) (b1 : Int) (b2 : Int) (b3 : Int) (h : Hp) (k : K β) : eqK Try.prog neq 44 (.agg [.s (.int .i64 a0), .s (.int .i64 a1), .s (.int .i64 a2), .s (.int .i64 a3)]) (.agg [.s (.int .i64 b0), .s (.int .i64 b1), .s (.int .i64 b2), .s (.int .i64 b3)]) h k = k (.s (.bool (xor neq ((a0 == b0) && ((a1 == b1) && ((a2 == b2) && ((a3 == b3) && (true)))))))) := by
  have e1 : Try.prog.eqGuardType Try.prog.depth 44 = false := by kernel_rfl
  have e2 : aggT Try.prog 44 = true := by kernel_rfl
  have e3 : eqFlat Try.prog 8 44 [.s (.int .i64 a0), .s (.int .i64 a1), .s (.int .i64 a2), .s (.int .i64 a3)] [.s (.int .i64 b0), .s (.int .i64 b1), .s (.int .i64 b2), .s (.int .i64 b3)] = some ((a0 == b0) && ((a1 == b1) && ((a2 == b2) && ((a3 == b3) && (true))))) := by kernel_rfl
  simp only [eqK, e1, e2, e3]
@[simp] theorem eqs_46 {β : Type} (neq : Bool) (a0 : Int) (a1 : Int) (a2 : Int) (a3 : Int) (a4 : Int) (a5 : Int) (a6 : Int) (a7 : Int) (b0 : Int) (b1 : Int) (b2 : Int) (b3 : Int) (b4 : Int) (b5 : Int) (b6 : Int) (b7 : Int) (h : Hp) (k : K β) : eqK Try.prog neq 46 (.agg [.s (.int .i64 a0), .s (.int .i64 a1), .s (.int .i64 a2), .s (.int .i64 a3), .s (.int .i64 a4), .s (.int .i64 a5), .s (.int .i64 a6), .s (.int .i64 a7)]) (.agg [.s (.int .i64 b0), .s (.int .i64 b1), .s (.int .i64 b2), .s (.int .i64 b3), .s (.int .i64 b4), .s (.int .i64 b5), .s (.int .i64 b6), .s (.int .i64 b7)]) h k = k (.s (.bool (xor neq ((a0 == b0) && ((a1 == b1) && ((a2 == b2) && ((a3 == b3) && (((a4 == b4) && ((a5 == b5) && ((a6 == b6) && ((a7 == b7) && (true))))) && (true))))))))) := by
  have e1 : Try.prog.eqGuardType Try.prog.depth 46 = false := by kernel_rfl
  have e2 : aggT Try.prog 46 = true := by kernel_rfl
  have e3 : eqFlat Try.prog 8 46 [.s (.int .i64 a0), .s (.int .i64 a1), .s (.int .i64 a2), .s (.int .i64 a3), .s (.int .i64 a4), .s (.int .i64 a5), .s (.int .i64 a6), .s (.int .i64 a7)] [.s (.int .i64 b0), .s (.int .i64 b1), .s (.int .i64 b2), .s (.int .i64 b3), .s (.int .i64 b4), .s (.int .i64 b5), .s (.int .i64 b6), .s (.int .i64 b7)] = some ((a0 == b0) && ((a1 == b1) && ((a2 == b2) && ((a3 == b3) && (((a4 == b4) && ((a5 == b5) && ((a6 == b6) && ((a7 == b7) && (true))))) && (true)))))) := by kernel_rfl
  simp only [eqK, e1, e2, e3]
def o_law44_ReceiptCloses_j2 (P : Program) (T : Tab) (D : DTab) (N : Nat) {β : Type} (K : AV → Hp → Option β) (t : Tm) (h : Hp) : Option β :=
callK (T 21) [(t 3)] h fun x42 h43 =>
callK (T 26) [x42] h43 fun x44 h45 =>
exK x44 0 fun x46 =>
exK x44 1 fun x47 =>
exK x44 2 fun x48 =>
exK x44 3 fun x49 =>
effK (boxE 4 (.agg [.s (.int .i64 0), .s (.int .i64 0), .s (.int .i64 0), .s (.int .i64 0)]) (List.length h45)) h45 fun x50 h51 =>
effK (stE 4 x50 x48 h51) h51 fun x52 h53 =>
eqK P true 30 x49 (.s (.int .i64 0)) h53 fun x54 =>
condK x54 (
eqK P false 30 x49 (.s (.int .i64 15)) h53 fun x55 =>
K x55 h53) (
faK 0 (t 1) fun x56 =>
ldK 1 false x56 h53 fun x57 =>
callK (T 29) [x57] h53 fun x58 h59 =>
eqK P false 3 x46 x58 h59 fun x60 =>
grpK true x60 h59 (fun k61 =>
faK 1 (t 1) fun x62 =>
ldK 1 false x62 h59 fun x63 =>
callK (T 29) [x63] h59 fun x64 h65 =>
eqK P false 3 x47 x64 h65 fun x66 =>
k61 x66 h65) fun x67 h68 =>
grpK true x67 h68 (fun k69 =>
faK 3 x50 fun x70 =>
ldK 1 false x70 h68 fun x71 =>
arithK .add x46 x71 fun x72 =>
faK 0 x50 fun x73 =>
ldK 1 false x73 h68 fun x74 =>
arithK .add x47 x74 fun x75 =>
faK 1 x50 fun x76 =>
ldK 1 false x76 h68 fun x77 =>
arithK .add x75 x77 fun x78 =>
faK 2 x50 fun x79 =>
ldK 1 false x79 h68 fun x80 =>
arithK .add x78 x80 fun x81 =>
eqK P false 3 x72 x81 h68 fun x82 =>
k69 x82 h68) fun x83 h84 =>
grpK true x83 h84 (fun k85 =>
faK 1 x50 fun x86 =>
ldK 1 false x86 h84 fun x87 =>
eqK P false 3 x87 (.s (.int .i64 0)) h84 fun x88 =>
k85 x88 h84) fun x89 h90 =>
K x89 h90)
def o_law44_ReceiptCloses_L3 (P : Program) (T : Tab) (D : DTab) (N : Nat) {β : Type} (t : Tm) (h : Hp) (k : Ex → St → Option β) : Option β :=
arithK .lss (t 69) (t 68) fun x91 =>
condK x91 (
iaK 3 (t 67) (t 69) fun x92 =>
ldK 3 true x92 h fun x93 =>
effK (boxE 3 (.agg [.s (.int .i64 0), .s (.int .i64 0), .s (.int .i64 0)]) (List.length h)) h fun x94 h95 =>
effK (stE 3 x94 x93 h95) h95 fun x96 h97 =>
callK (T 24) [(t 3), (.fn 28 [x94])] h97 fun x98 h99 =>
notK x98 fun x100 =>
condK x100 (
k .ret ((upd (upd (upd (upd t 70 x91) 8 x94) 76 x100) 2 (.s (.bool false))), h99)) (
arithK .add (t 69) (.s (.int .i64 1)) fun x101 =>
k .normal ((upd (upd (upd (upd t 70 x91) 8 x94) 76 x100) 69 x101), h99))) (
k (.exit 2) ((upd t 70 x91), h))
def o_law44_ReceiptCloses_aL3 (P : Program) (T : Tab) (D : DTab) (N : Nat) {β : Type} (K : AV → Hp → Option β) (e : Ex) (s : St) : Option β :=
  e.on ((o_law44_ReceiptCloses_j2 P T D N K s.1 s.2))
  (fun i => bif i == 2 then ((o_law44_ReceiptCloses_j2 P T D N K s.1 s.2)) else (none))
  (K (s.1 2) s.2)
def o_law44_ReceiptCloses_j1_G (P : Program) (T : Tab) (D : DTab) (N : Nat) {β : Type} (cL3 : St → Option β) (K : AV → Hp → Option β) (t : Tm) (h : Hp) :  Option β :=
faK 0 (t 1) fun x33 =>
ldK 1 false x33 h fun x34 =>
faK 1 (t 1) fun x35 =>
ldK 1 false x35 h fun x36 =>
effK (bsE 1 [.s (.slice none 0 0)] 2 [(0, x34), (1, x36)] (List.length h)) h fun x37 h38 =>
callK (T 27) [x37] h38 fun x39 h40 =>
lenK x39 fun x41 =>
cL3 ((upd (upd (upd t 67 x39) 68 x41) 69 (.s (.int .i64 0))), h40)
def o_law44_ReceiptCloses_j1 (P : Program) (T : Tab) (D : DTab) (N : Nat) {β : Type} (K : AV → Hp → Option β) (t : Tm) (h : Hp) : Option β := o_law44_ReceiptCloses_j1_G P T D N (fun s => iterK (fun s k => o_law44_ReceiptCloses_L3 P T D N s.1 s.2 k) N s (o_law44_ReceiptCloses_aL3 P T D N K)) K t h
def o_law44_ReceiptCloses_L4 (P : Program) (T : Tab) (D : DTab) (N : Nat) {β : Type} (t : Tm) (h : Hp) (k : Ex → St → Option β) : Option β :=
arithK .lss (t 43) (t 42) fun x102 =>
condK x102 (
iaK 8 (t 41) (t 43) fun x103 =>
ldK 8 true x103 h fun x104 =>
effK (boxE 8 (.agg [.s (.int .i64 0), .s (.int .i64 0), .s (.int .i64 0), .s (.int .i64 0), .s (.int .i64 0), .s (.int .i64 0), .s (.int .i64 0), .s (.int .i64 0)]) (List.length h)) h fun x105 h106 =>
effK (stE 8 x105 x104 h106) h106 fun x107 h108 =>
arithK .gtr (t 43) (.s (.int .i64 0)) fun x109 =>
grpK true x109 h108 (fun k110 =>
arithK .sub (t 43) (.s (.int .i64 1)) fun x111 =>
iaK 8 (t 3) x111 fun x112 =>
faK 0 x112 fun x113 =>
ldK 1 false x113 h108 fun x114 =>
faK 0 x105 fun x115 =>
ldK 1 false x115 h108 fun x116 =>
arithK .geq x114 x116 fun x117 =>
k110 x117 h108) fun x118 h119 =>
condK x118 (
k .ret ((upd (upd (upd (upd (upd t 44 x102) 6 x105) 5 (t 43)) 60 x118) 2 (.s (.bool false))), h119)) (
arithK .add (t 43) (.s (.int .i64 1)) fun x120 =>
k .normal ((upd (upd (upd (upd (upd t 44 x102) 6 x105) 5 (t 43)) 60 x118) 43 x120), h119))) (
k (.exit 0) ((upd t 44 x102), h))
def o_law44_ReceiptCloses_aL4 (P : Program) (T : Tab) (D : DTab) (N : Nat) {β : Type} (K : AV → Hp → Option β) (e : Ex) (s : St) : Option β :=
  e.on ((o_law44_ReceiptCloses_j1 P T D N K s.1 s.2))
  (fun i => bif i == 0 then ((o_law44_ReceiptCloses_j1 P T D N K s.1 s.2)) else (none))
  (K (s.1 2) s.2)
def o_law44_ReceiptCloses_G (P : Program) (T : Tab) (D : DTab) (N : Nat) {β : Type} (cL4 : St → Option β) (K : AV → Hp → Option β) (a0 : AV) (h : Hp) :  Option β :=
effK (boxE 3 a0 (List.length h)) h fun x1 h2 =>
callK (T 10) [] h2 fun x3 h4 =>
notK x3 fun x5 =>
condK x5 (
K (.s (.bool false)) h4) (
faK 0 x1 fun x6 =>
ldK 1 false x6 h4 fun x7 =>
lenK x7 fun x8 =>
arithK .gtr x8 (.s (.int .i64 12)) fun x9 =>
grpK false x9 h4 (fun k10 =>
faK 1 x1 fun x11 =>
ldK 1 false x11 h4 fun x12 =>
lenK x12 fun x13 =>
arithK .gtr x13 (.s (.int .i64 12)) fun x14 =>
k10 x14 h4) fun x15 h16 =>
grpK false x15 h16 (fun k17 =>
faK 2 x1 fun x18 =>
ldK 1 false x18 h16 fun x19 =>
lenK x19 fun x20 =>
arithK .gtr x20 (.s (.int .i64 12)) fun x21 =>
k17 x21 h16) fun x22 h23 =>
condK x22 (
K (.s (.bool true)) h23) (
ldK 3 true x1 h23 fun x24 =>
callK (T 16) [x24] h23 fun x25 h26 =>
exK x25 0 fun x27 =>
exK x25 1 fun x28 =>
eqK P true 30 x28 (.s (.int .i64 0)) h26 fun x29 =>
condK x29 (
lenK x27 fun x30 =>
eqK P false 3 x30 (.s (.int .i64 0)) h26 fun x31 =>
K x31 h26) (
lenK x27 fun x32 =>
cL4 ((upd (upd (upd (upd (upd (upd (upd (upd (upd (upd (tm0 [a0]) 1 x1) 2 (.s (.bool false))) 14 x5) 30 x22) 3 x27) 4 x28) 37 x29) 41 x27) 42 x32) 43 (.s (.int .i64 0))), h26))))
def o_law44_ReceiptCloses (P : Program) (T : Tab) (D : DTab) (N : Nat) {β : Type} (K : AV → Hp → Option β) (a0 : AV) (h : Hp) : Option β := o_law44_ReceiptCloses_G P T D N (fun s => iterK (fun s k => o_law44_ReceiptCloses_L4 P T D N s.1 s.2 k) N s (o_law44_ReceiptCloses_aL4 P T D N K)) K a0 h
def f_law44_ReceiptCloses_j2 (P : Program) (T : Tab) (D : DTab) (N : Nat) {β : Type} (K : AV → Hp → Option β) (v1 : AV) (v3 : AV) (h : Hp) : Option β :=
callK (T 21) [v3] h fun x42 h43 =>
callK (T 26) [x42] h43 fun x44 h45 =>
exK x44 0 fun x46 =>
exK x44 1 fun x47 =>
exK x44 2 fun x48 =>
exK x44 3 fun x49 =>
effK (boxE 4 (.agg [.s (.int .i64 0), .s (.int .i64 0), .s (.int .i64 0), .s (.int .i64 0)]) (List.length h45)) h45 fun x50 h51 =>
effK (stE 4 x50 x48 h51) h51 fun x52 h53 =>
eqK P true 30 x49 (.s (.int .i64 0)) h53 fun x54 =>
condK x54 (
eqK P false 30 x49 (.s (.int .i64 15)) h53 fun x55 =>
K x55 h53) (
faK 0 v1 fun x56 =>
ldK 1 false x56 h53 fun x57 =>
callK (T 29) [x57] h53 fun x58 h59 =>
eqK P false 3 x46 x58 h59 fun x60 =>
grpK true x60 h59 (fun k61 =>
faK 1 v1 fun x62 =>
ldK 1 false x62 h59 fun x63 =>
callK (T 29) [x63] h59 fun x64 h65 =>
eqK P false 3 x47 x64 h65 fun x66 =>
k61 x66 h65) fun x67 h68 =>
grpK true x67 h68 (fun k69 =>
faK 3 x50 fun x70 =>
ldK 1 false x70 h68 fun x71 =>
arithK .add x46 x71 fun x72 =>
faK 0 x50 fun x73 =>
ldK 1 false x73 h68 fun x74 =>
arithK .add x47 x74 fun x75 =>
faK 1 x50 fun x76 =>
ldK 1 false x76 h68 fun x77 =>
arithK .add x75 x77 fun x78 =>
faK 2 x50 fun x79 =>
ldK 1 false x79 h68 fun x80 =>
arithK .add x78 x80 fun x81 =>
eqK P false 3 x72 x81 h68 fun x82 =>
k69 x82 h68) fun x83 h84 =>
grpK true x83 h84 (fun k85 =>
faK 1 x50 fun x86 =>
ldK 1 false x86 h84 fun x87 =>
eqK P false 3 x87 (.s (.int .i64 0)) h84 fun x88 =>
k85 x88 h84) fun x89 h90 =>
K x89 h90)
def f_law44_ReceiptCloses_b3 (P : Program) (T : Tab) (D : DTab) (N : Nat) {β : Type} (xn : AV → AV → AV → AV → AV → Hp → Option β) (x2 : AV → AV → Hp → Option β) (xr : AV → Hp → Option β) (v1 : AV) (v3 : AV) (v67 : AV) (v68 : AV) (v69 : AV) (h : Hp) : Option β :=
arithK .lss v69 v68 fun x91 =>
condK x91 (
iaK 3 v67 v69 fun x92 =>
ldK 3 true x92 h fun x93 =>
effK (boxE 3 (.agg [.s (.int .i64 0), .s (.int .i64 0), .s (.int .i64 0)]) (List.length h)) h fun x94 h95 =>
effK (stE 3 x94 x93 h95) h95 fun x96 h97 =>
callK (T 24) [v3, (.fn 28 [x94])] h97 fun x98 h99 =>
notK x98 fun x100 =>
condK x100 (
xr (.s (.bool false)) h99) (
arithK .add v69 (.s (.int .i64 1)) fun x101 =>
xn v1 v3 v67 v68 x101 h99)) (
x2 v1 v3 h)
def f_law44_ReceiptCloses_L3 (P : Program) (T : Tab) (D : DTab) (N : Nat) {β : Type} (x2 : AV → AV → Hp → Option β) (xr : AV → Hp → Option β) : Nat → AV → AV → AV → AV → AV → Hp → Option β
  | 0 => fun _ _ _ _ _ _ => none
  | n + 1 => fun v1 v3 v67 v68 v69 h => f_law44_ReceiptCloses_b3 P T D N (f_law44_ReceiptCloses_L3 P T D N x2 xr n) x2 xr v1 v3 v67 v68 v69 h
def f_law44_ReceiptCloses_j1 (P : Program) (T : Tab) (D : DTab) (N : Nat) {β : Type} (K : AV → Hp → Option β) (v1 : AV) (v3 : AV) (h : Hp) : Option β :=
faK 0 v1 fun x33 =>
ldK 1 false x33 h fun x34 =>
faK 1 v1 fun x35 =>
ldK 1 false x35 h fun x36 =>
effK (bsE 1 [.s (.slice none 0 0)] 2 [(0, x34), (1, x36)] (List.length h)) h fun x37 h38 =>
callK (T 27) [x37] h38 fun x39 h40 =>
lenK x39 fun x41 =>
f_law44_ReceiptCloses_L3 P T D N (fun w102_1 w102_3 h => f_law44_ReceiptCloses_j2 P T D N K w102_1 w102_3 h) (fun w103_2 h => K w103_2 h) N v1 v3 x39 x41 (.s (.int .i64 0)) h40
def f_law44_ReceiptCloses_b4 (P : Program) (T : Tab) (D : DTab) (N : Nat) {β : Type} (xn : AV → AV → AV → AV → AV → Hp → Option β) (x0 : AV → AV → Hp → Option β) (xr : AV → Hp → Option β) (v1 : AV) (v3 : AV) (v41 : AV) (v42 : AV) (v43 : AV) (h : Hp) : Option β :=
arithK .lss v43 v42 fun x104 =>
condK x104 (
iaK 8 v41 v43 fun x105 =>
ldK 8 true x105 h fun x106 =>
effK (boxE 8 (.agg [.s (.int .i64 0), .s (.int .i64 0), .s (.int .i64 0), .s (.int .i64 0), .s (.int .i64 0), .s (.int .i64 0), .s (.int .i64 0), .s (.int .i64 0)]) (List.length h)) h fun x107 h108 =>
effK (stE 8 x107 x106 h108) h108 fun x109 h110 =>
arithK .gtr v43 (.s (.int .i64 0)) fun x111 =>
grpK true x111 h110 (fun k112 =>
arithK .sub v43 (.s (.int .i64 1)) fun x113 =>
iaK 8 v3 x113 fun x114 =>
faK 0 x114 fun x115 =>
ldK 1 false x115 h110 fun x116 =>
faK 0 x107 fun x117 =>
ldK 1 false x117 h110 fun x118 =>
arithK .geq x116 x118 fun x119 =>
k112 x119 h110) fun x120 h121 =>
condK x120 (
xr (.s (.bool false)) h121) (
arithK .add v43 (.s (.int .i64 1)) fun x122 =>
xn v1 v3 v41 v42 x122 h121)) (
x0 v1 v3 h)
def f_law44_ReceiptCloses_L4 (P : Program) (T : Tab) (D : DTab) (N : Nat) {β : Type} (x0 : AV → AV → Hp → Option β) (xr : AV → Hp → Option β) : Nat → AV → AV → AV → AV → AV → Hp → Option β
  | 0 => fun _ _ _ _ _ _ => none
  | n + 1 => fun v1 v3 v41 v42 v43 h => f_law44_ReceiptCloses_b4 P T D N (f_law44_ReceiptCloses_L4 P T D N x0 xr n) x0 xr v1 v3 v41 v42 v43 h
def f_law44_ReceiptCloses (P : Program) (T : Tab) (D : DTab) (N : Nat) {β : Type} (K : AV → Hp → Option β) (a0 : AV) (h : Hp) : Option β :=
effK (boxE 3 a0 (List.length h)) h fun x1 h2 =>
callK (T 10) [] h2 fun x3 h4 =>
notK x3 fun x5 =>
condK x5 (
K (.s (.bool false)) h4) (
faK 0 x1 fun x6 =>
ldK 1 false x6 h4 fun x7 =>
lenK x7 fun x8 =>
arithK .gtr x8 (.s (.int .i64 12)) fun x9 =>
grpK false x9 h4 (fun k10 =>
faK 1 x1 fun x11 =>
ldK 1 false x11 h4 fun x12 =>
lenK x12 fun x13 =>
arithK .gtr x13 (.s (.int .i64 12)) fun x14 =>
k10 x14 h4) fun x15 h16 =>
grpK false x15 h16 (fun k17 =>
faK 2 x1 fun x18 =>
ldK 1 false x18 h16 fun x19 =>
lenK x19 fun x20 =>
arithK .gtr x20 (.s (.int .i64 12)) fun x21 =>
k17 x21 h16) fun x22 h23 =>
condK x22 (
K (.s (.bool true)) h23) (
ldK 3 true x1 h23 fun x24 =>
callK (T 16) [x24] h23 fun x25 h26 =>
exK x25 0 fun x27 =>
exK x25 1 fun x28 =>
eqK P true 30 x28 (.s (.int .i64 0)) h26 fun x29 =>
condK x29 (
lenK x27 fun x30 =>
eqK P false 3 x30 (.s (.int .i64 0)) h26 fun x31 =>
K x31 h26) (
lenK x27 fun x32 =>
f_law44_ReceiptCloses_L4 P T D N (fun w123_1 w123_3 h => f_law44_ReceiptCloses_j1 P T D N K w123_1 w123_3 h) (fun w124_2 h => K w124_2 h) N x1 x27 x27 x32 (.s (.int .i64 0)) h26)))
theorem f_law44_ReceiptCloses_b3_eq (P : Program) (T : Tab) (D : DTab) (N : Nat) {β : Type} (xn : AV → AV → AV → AV → AV → Hp → Option β) (x2 : AV → AV → Hp → Option β) (xr : AV → Hp → Option β) (xd : Nat → St → Option β) (xq : St → Option β) (t : Tm) (h : Hp) : o_law44_ReceiptCloses_L3 P T D N t h (fun (e : Ex) (s : St) => e.on (xn (s.1 1) (s.1 3) (s.1 67) (s.1 68) (s.1 69) s.2) (fun i => (bif i == 2 then x2 (s.1 1) (s.1 3) s.2 else (xd i s))) (xr (s.1 2) s.2)) = f_law44_ReceiptCloses_b3 P T D N xn x2 xr (t 1) (t 3) (t 67) (t 68) (t 69) h := by kernel_rfl
theorem f_law44_ReceiptCloses_L3_eq (P : Program) (T : Tab) (D : DTab) (N : Nat) {β : Type} (A : Ex → St → Option β) (x2 : AV → AV → Hp → Option β) (xr : AV → Hp → Option β) (q2 : ∀ s, A (.exit 2) s = x2 (s.1 1) (s.1 3) s.2) (qr : ∀ s, A .ret s = xr (s.1 2) s.2) : ∀ (n : Nat) (s : St), iterK (fun s k => o_law44_ReceiptCloses_L3 P T D N s.1 s.2 k) n s A = f_law44_ReceiptCloses_L3 P T D N x2 xr n (s.1 1) (s.1 3) (s.1 67) (s.1 68) (s.1 69) s.2 := by
  intro n
  induction n with
  | zero => intro s; rfl
  | succ n ih =>
    intro s
    have hk : (fun (e : Ex) (s' : St) => Ex.on e (iterK (fun s k => o_law44_ReceiptCloses_L3 P T D N s.1 s.2 k) n s' A) (fun i => A (.exit i) s') (A .ret s')) = (fun (e : Ex) (s : St) => e.on ((f_law44_ReceiptCloses_L3 P T D N x2 xr n) (s.1 1) (s.1 3) (s.1 67) (s.1 68) (s.1 69) s.2) (fun i => (bif i == 2 then x2 (s.1 1) (s.1 3) s.2 else (A (.exit i) s))) (xr (s.1 2) s.2)) := by
      funext e s'
      cases e with
      | normal => exact ih s'
      | ret => exact qr s'
      | exit i =>
        by_cases r2 : i = 2
        · subst r2; exact q2 s'
        simp only [Ex.on, beq_false_of_ne r2, cond_false]
    show o_law44_ReceiptCloses_L3 P T D N s.1 s.2 (fun (e : Ex) (s' : St) => Ex.on e (iterK (fun s k => o_law44_ReceiptCloses_L3 P T D N s.1 s.2 k) n s' A) (fun i => A (.exit i) s') (A .ret s')) = _
    rw [hk]
    exact f_law44_ReceiptCloses_b3_eq P T D N (f_law44_ReceiptCloses_L3 P T D N x2 xr n) x2 xr (fun i s => A (.exit i) s) (fun s => A .ret s) s.1 s.2
theorem f_law44_ReceiptCloses_j1_eq (P : Program) (T : Tab) (D : DTab) (N : Nat) {β : Type} (K : AV → Hp → Option β) (t : Tm) (h : Hp) : o_law44_ReceiptCloses_j1 P T D N K t h = f_law44_ReceiptCloses_j1 P T D N K (t 1) (t 3) h := by
  have eL3 : (fun s : St => iterK (fun s k => o_law44_ReceiptCloses_L3 P T D N s.1 s.2 k) N s (o_law44_ReceiptCloses_aL3 P T D N K)) = (fun s : St => f_law44_ReceiptCloses_L3 P T D N (fun w102_1 w102_3 h => f_law44_ReceiptCloses_j2 P T D N K w102_1 w102_3 h) (fun w103_2 h => K w103_2 h) N (s.1 1) (s.1 3) (s.1 67) (s.1 68) (s.1 69) s.2) := funext fun s => f_law44_ReceiptCloses_L3_eq P T D N (o_law44_ReceiptCloses_aL3 P T D N K) (fun w102_1 w102_3 h => f_law44_ReceiptCloses_j2 P T D N K w102_1 w102_3 h) (fun w103_2 h => K w103_2 h) (fun s => rfl) (fun s => rfl) N s
  show o_law44_ReceiptCloses_j1_G P T D N (fun s => iterK (fun s k => o_law44_ReceiptCloses_L3 P T D N s.1 s.2 k) N s (o_law44_ReceiptCloses_aL3 P T D N K)) K t h = _
  rw [eL3]
  kernel_rfl
theorem f_law44_ReceiptCloses_b4_eq (P : Program) (T : Tab) (D : DTab) (N : Nat) {β : Type} (xn : AV → AV → AV → AV → AV → Hp → Option β) (x0 : AV → AV → Hp → Option β) (xr : AV → Hp → Option β) (xd : Nat → St → Option β) (xq : St → Option β) (t : Tm) (h : Hp) : o_law44_ReceiptCloses_L4 P T D N t h (fun (e : Ex) (s : St) => e.on (xn (s.1 1) (s.1 3) (s.1 41) (s.1 42) (s.1 43) s.2) (fun i => (bif i == 0 then x0 (s.1 1) (s.1 3) s.2 else (xd i s))) (xr (s.1 2) s.2)) = f_law44_ReceiptCloses_b4 P T D N xn x0 xr (t 1) (t 3) (t 41) (t 42) (t 43) h := by kernel_rfl
theorem f_law44_ReceiptCloses_L4_eq (P : Program) (T : Tab) (D : DTab) (N : Nat) {β : Type} (A : Ex → St → Option β) (x0 : AV → AV → Hp → Option β) (xr : AV → Hp → Option β) (q0 : ∀ s, A (.exit 0) s = x0 (s.1 1) (s.1 3) s.2) (qr : ∀ s, A .ret s = xr (s.1 2) s.2) : ∀ (n : Nat) (s : St), iterK (fun s k => o_law44_ReceiptCloses_L4 P T D N s.1 s.2 k) n s A = f_law44_ReceiptCloses_L4 P T D N x0 xr n (s.1 1) (s.1 3) (s.1 41) (s.1 42) (s.1 43) s.2 := by
  intro n
  induction n with
  | zero => intro s; rfl
  | succ n ih =>
    intro s
    have hk : (fun (e : Ex) (s' : St) => Ex.on e (iterK (fun s k => o_law44_ReceiptCloses_L4 P T D N s.1 s.2 k) n s' A) (fun i => A (.exit i) s') (A .ret s')) = (fun (e : Ex) (s : St) => e.on ((f_law44_ReceiptCloses_L4 P T D N x0 xr n) (s.1 1) (s.1 3) (s.1 41) (s.1 42) (s.1 43) s.2) (fun i => (bif i == 0 then x0 (s.1 1) (s.1 3) s.2 else (A (.exit i) s))) (xr (s.1 2) s.2)) := by
      funext e s'
      cases e with
      | normal => exact ih s'
      | ret => exact qr s'
      | exit i =>
        by_cases r0 : i = 0
        · subst r0; exact q0 s'
        simp only [Ex.on, beq_false_of_ne r0, cond_false]
    show o_law44_ReceiptCloses_L4 P T D N s.1 s.2 (fun (e : Ex) (s' : St) => Ex.on e (iterK (fun s k => o_law44_ReceiptCloses_L4 P T D N s.1 s.2 k) n s' A) (fun i => A (.exit i) s') (A .ret s')) = _
    rw [hk]
    exact f_law44_ReceiptCloses_b4_eq P T D N (f_law44_ReceiptCloses_L4 P T D N x0 xr n) x0 xr (fun i s => A (.exit i) s) (fun s => A .ret s) s.1 s.2
theorem f_law44_ReceiptCloses_old_eq (P : Program) (T : Tab) (D : DTab) (N : Nat) {β : Type} (K : AV → Hp → Option β) (a0 : AV) (h : Hp) : o_law44_ReceiptCloses P T D N K a0 h = f_law44_ReceiptCloses P T D N K a0 h := by
  have eL4 : (fun s : St => iterK (fun s k => o_law44_ReceiptCloses_L4 P T D N s.1 s.2 k) N s (o_law44_ReceiptCloses_aL4 P T D N K)) = (fun s : St => f_law44_ReceiptCloses_L4 P T D N (fun w123_1 w123_3 h => f_law44_ReceiptCloses_j1 P T D N K w123_1 w123_3 h) (fun w124_2 h => K w124_2 h) N (s.1 1) (s.1 3) (s.1 41) (s.1 42) (s.1 43) s.2) := funext fun s => f_law44_ReceiptCloses_L4_eq P T D N (o_law44_ReceiptCloses_aL4 P T D N K) (fun w123_1 w123_3 h => f_law44_ReceiptCloses_j1 P T D N K w123_1 w123_3 h) (fun w124_2 h => K w124_2 h) (fun s => f_law44_ReceiptCloses_j1_eq P T D N K s.1 s.2) (fun s => rfl) N s
  show o_law44_ReceiptCloses_G P T D N (fun s => iterK (fun s k => o_law44_ReceiptCloses_L4 P T D N s.1 s.2 k) N s (o_law44_ReceiptCloses_aL4 P T D N K)) K a0 h = _
  rw [eL4]
  kernel_rfl
theorem o_law44_ReceiptCloses_run (T : Tab) (D : DTab) (N : Nat) {β : Type} (K : AV → Hp → Option β) (a0 : AV) (h : Hp) : runK Try.prog T D N [0, 1, 2, 3, 4, 5, 6, 8, 9, 10, 11, 12, 14, 30, 37, 41, 42, 43, 44, 60, 67, 68, 69, 70, 76, 87] Try.f7 K [a0] h = o_law44_ReceiptCloses Try.prog T D N K a0 h := by kernel_rfl
theorem f_law44_ReceiptCloses_run (T : Tab) (D : DTab) (N : Nat) {β : Type} (K : AV → Hp → Option β) (a0 : AV) (h : Hp) : runK Try.prog T D N [0, 1, 2, 3, 4, 5, 6, 8, 9, 10, 11, 12, 14, 30, 37, 41, 42, 43, 44, 60, 67, 68, 69, 70, 76, 87] Try.f7 K [a0] h = f_law44_ReceiptCloses Try.prog T D N K a0 h := (o_law44_ReceiptCloses_run T D N K a0 h).trans (f_law44_ReceiptCloses_old_eq Try.prog T D N K a0 h)
def f_law44_awake (P : Program) (T : Tab) (D : DTab) (N : Nat) {β : Type} (K : AV → Hp → Option β) (h : Hp) : Option β :=
callK (T 37) [] h fun x1 h2 =>
exK x1 0 fun x3 =>
exK x1 1 fun x4 =>
exK x1 2 fun x5 =>
callK (T 38) [x3, x4, x5] h2 fun x6 h7 =>
exK x6 0 fun x8 =>
exK x6 1 fun x9 =>
callK (T 26) [x8] h7 fun x10 h11 =>
exK x10 0 fun x12 =>
exK x10 1 fun x13 =>
exK x10 2 fun x14 =>
exK x10 3 fun x15 =>
effK (boxE 4 (.agg [.s (.int .i64 0), .s (.int .i64 0), .s (.int .i64 0), .s (.int .i64 0)]) (List.length h11)) h11 fun x16 h17 =>
effK (stE 4 x16 x14 h17) h17 fun x18 h19 =>
callK (T 23) [x8, (.s (.int .i64 510))] h19 fun x20 h21 =>
exK x20 0 fun x22 =>
exK x20 1 fun x23 =>
callK (T 23) [x8, (.s (.int .i64 509))] h21 fun x24 h25 =>
exK x24 0 fun x26 =>
exK x24 1 fun x27 =>
buildK [.s (.int .i64 0), .s (.int .i64 0), .s (.int .i64 0), .s (.int .i64 0)] [(some (0, 1), (.s (.int .i64 30))), (some (2, 1), (.s (.int .i64 10)))] fun x28 =>
buildK [.s (.int .i64 0), .s (.int .i64 0), .s (.int .i64 0), .s (.int .i64 0), .s (.int .i64 0), .s (.int .i64 0), .s (.int .i64 0), .s (.int .i64 0)] [(some (0, 1), (.s (.int .i64 1))), (some (1, 1), (.s (.int .i64 1))), (some (2, 1), (.s (.int .i64 1000))), (some (3, 1), (.s (.int .i64 960))), (some (4, 4), x28)] fun x29 =>
buildK [.s (.int .i64 0), .s (.int .i64 0), .s (.int .i64 0), .s (.int .i64 0)] [(some (2, 1), (.s (.int .i64 500)))] fun x30 =>
buildK [.s (.int .i64 0), .s (.int .i64 0), .s (.int .i64 0), .s (.int .i64 0), .s (.int .i64 0), .s (.int .i64 0), .s (.int .i64 0), .s (.int .i64 0)] [(some (0, 1), (.s (.int .i64 2))), (some (1, 1), (.s (.int .i64 2))), (some (2, 1), (.s (.int .i64 500))), (some (4, 4), x30)] fun x31 =>
buildK [.s (.int .i64 0), .s (.int .i64 0), .s (.int .i64 0), .s (.int .i64 0)] [(some (3, 1), (.s (.int .i64 7)))] fun x32 =>
buildK [.s (.int .i64 0), .s (.int .i64 0), .s (.int .i64 0), .s (.int .i64 0), .s (.int .i64 0), .s (.int .i64 0), .s (.int .i64 0), .s (.int .i64 0)] [(some (0, 1), (.s (.int .i64 3))), (some (1, 1), (.s (.int .i64 2))), (some (3, 1), (.s (.int .i64 7))), (some (4, 4), x32)] fun x33 =>
effK (bsE 8 [.s (.int .i64 0), .s (.int .i64 0), .s (.int .i64 0), .s (.int .i64 0), .s (.int .i64 0), .s (.int .i64 0), .s (.int .i64 0), .s (.int .i64 0)] 3 [(0, x29), (1, x31), (2, x33)] (List.length h25)) h25 fun x34 h35 =>
callK (T 39) [x8, x34] h35 fun x36 h37 =>
grpK true x36 h37 (fun k38 =>
eqK P false 3 x12 (.s (.int .i64 1500)) h37 fun x39 =>
k38 x39 h37) fun x40 h41 =>
grpK true x40 h41 (fun k42 =>
eqK P false 3 x13 (.s (.int .i64 967)) h41 fun x43 =>
k42 x43 h41) fun x44 h45 =>
grpK true x44 h45 (fun k46 =>
ldK 4 true x16 h45 fun x47 =>
buildK [.s (.int .i64 0), .s (.int .i64 0), .s (.int .i64 0), .s (.int .i64 0)] [(some (0, 1), (.s (.int .i64 30))), (some (2, 1), (.s (.int .i64 510))), (some (3, 1), (.s (.int .i64 7)))] fun x48 =>
eqK P false 44 x47 x48 h45 fun x49 =>
k46 x49 h45) fun x50 h51 =>
grpK true x50 h51 (fun k52 =>
k52 x22 h51) fun x53 h54 =>
grpK true x53 h54 (fun k55 =>
notK x26 fun x56 =>
k55 x56 h54) fun x57 h58 =>
grpK true x57 h58 (fun k59 =>
callK (T 19) [x3, x4, x5, x34] h58 fun x60 h61 =>
eqK P false 30 x60 (.s (.int .i64 0)) h61 fun x62 =>
k59 x62 h61) fun x63 h64 =>
grpK true x63 h64 (fun k65 =>
arithK .add x9 x15 fun x66 =>
arithK .add x66 x23 fun x67 =>
arithK .add x67 x27 fun x68 =>
eqK P false 30 x68 (.s (.int .i64 0)) h64 fun x69 =>
k65 x69 h64) fun x70 h71 =>
K x70 h71
theorem f_law44_awake_run (T : Tab) (D : DTab) (N : Nat) {β : Type} (K : AV → Hp → Option β) (h : Hp) : runK Try.prog T D N [0, 1, 2, 3, 4, 5, 6, 7, 8, 9, 10, 11, 12, 13, 14] Try.f10 K [] h = f_law44_awake Try.prog T D N K  h := by kernel_rfl
def o_receipt_Check_j1 (P : Program) (T : Tab) (D : DTab) (N : Nat) {β : Type} (K : AV → Hp → Option β) (t : Tm) (h : Hp) : Option β :=
K (.tup [(.s (.int .i64 (-1))), (.s (.int .i64 0))]) h
def o_receipt_Check_L2 (P : Program) (T : Tab) (D : DTab) (N : Nat) {β : Type} (t : Tm) (h : Hp) (k : Ex → St → Option β) : Option β :=
arithK .lss (t 11) (t 10) fun x4 =>
condK x4 (
iaK 3 (t 9) (t 11) fun x5 =>
ldK 3 true x5 h fun x6 =>
effK (boxE 3 (.agg [.s (.int .i64 0), .s (.int .i64 0), .s (.int .i64 0)]) (List.length h)) h fun x7 h8 =>
effK (stE 3 x7 x6 h8) h8 fun x9 h10 =>
faK 0 x7 fun x11 =>
ldK 1 false x11 h10 fun x12 =>
callK (T 41) [x12, (.s (.int .i64 1)), (.s (.int .i64 1073741824))] h10 fun x13 h14 =>
notK x13 fun x15 =>
grpK false x15 h14 (fun k16 =>
faK 1 x7 fun x17 =>
ldK 1 false x17 h14 fun x18 =>
callK (T 41) [x18, (.s (.int .i64 1)), (.s (.int .i64 9))] h14 fun x19 h20 =>
notK x19 fun x21 =>
k16 x21 h20) fun x22 h23 =>
grpK false x22 h23 (fun k24 =>
faK 2 x7 fun x25 =>
ldK 1 false x25 h23 fun x26 =>
callK (T 41) [x26, (.s (.int .i64 1)), (.s (.int .i64 10737418240000))] h23 fun x27 h28 =>
notK x27 fun x29 =>
k24 x29 h28) fun x30 h31 =>
condK x30 (
k .ret ((upd (upd (upd (upd (upd (upd t 12 x4) 5 x7) 4 (t 11)) 16 x30) 2 (t 11)) 3 (.s (.int .i64 2))), h31)) (
arithK .gtr (t 11) (.s (.int .i64 0)) fun x32 =>
grpK true x32 h31 (fun k33 =>
faK 0 x7 fun x34 =>
ldK 1 false x34 h31 fun x35 =>
arithK .sub (t 11) (.s (.int .i64 1)) fun x36 =>
iaK 3 (t 0) x36 fun x37 =>
faK 0 x37 fun x38 =>
ldK 1 false x38 h31 fun x39 =>
arithK .leq x35 x39 fun x40 =>
k33 x40 h31) fun x41 h42 =>
condK x41 (
k .ret ((upd (upd (upd (upd (upd (upd (upd t 12 x4) 5 x7) 4 (t 11)) 16 x30) 34 x41) 2 (t 11)) 3 (.s (.int .i64 5))), h42)) (
arithK .add (t 11) (.s (.int .i64 1)) fun x43 =>
k .normal ((upd (upd (upd (upd (upd (upd t 12 x4) 5 x7) 4 (t 11)) 16 x30) 34 x41) 11 x43), h42)))) (
k (.exit 0) ((upd t 12 x4), h))
def o_receipt_Check_aL2 (P : Program) (T : Tab) (D : DTab) (N : Nat) {β : Type} (K : AV → Hp → Option β) (e : Ex) (s : St) : Option β :=
  e.on ((o_receipt_Check_j1 P T D N K s.1 s.2))
  (fun i => bif i == 0 then ((o_receipt_Check_j1 P T D N K s.1 s.2)) else (none))
  (K (.tup [(s.1 2), (s.1 3)]) s.2)
def o_receipt_Check_G (P : Program) (T : Tab) (D : DTab) (N : Nat) {β : Type} (cL2 : St → Option β) (K : AV → Hp → Option β) (a0 : AV) (h : Hp) :  Option β :=
lenK a0 fun x1 =>
arithK .gtr x1 (.s (.int .i64 64)) fun x2 =>
condK x2 (
K (.tup [(.s (.int .i64 (-1))), (.s (.int .i64 8))]) h) (
lenK a0 fun x3 =>
cL2 ((upd (upd (upd (upd (upd (upd (tm0 [a0]) 2 (.s (.int .i64 0))) 3 (.s (.int .i64 0))) 8 x2) 9 a0) 10 x3) 11 (.s (.int .i64 0))), h))
def o_receipt_Check (P : Program) (T : Tab) (D : DTab) (N : Nat) {β : Type} (K : AV → Hp → Option β) (a0 : AV) (h : Hp) : Option β := o_receipt_Check_G P T D N (fun s => iterK (fun s k => o_receipt_Check_L2 P T D N s.1 s.2 k) N s (o_receipt_Check_aL2 P T D N K)) K a0 h
def f_receipt_Check_j1 (P : Program) (T : Tab) (D : DTab) (N : Nat) {β : Type} (K : AV → Hp → Option β) (h : Hp) : Option β :=
K (.tup [(.s (.int .i64 (-1))), (.s (.int .i64 0))]) h
def f_receipt_Check_b2 (P : Program) (T : Tab) (D : DTab) (N : Nat) {β : Type} (xn : AV → AV → AV → AV → Hp → Option β) (x0 : Hp → Option β) (xr : AV → AV → Hp → Option β) (v0 : AV) (v9 : AV) (v10 : AV) (v11 : AV) (h : Hp) : Option β :=
arithK .lss v11 v10 fun x4 =>
condK x4 (
iaK 3 v9 v11 fun x5 =>
ldK 3 true x5 h fun x6 =>
effK (boxE 3 (.agg [.s (.int .i64 0), .s (.int .i64 0), .s (.int .i64 0)]) (List.length h)) h fun x7 h8 =>
effK (stE 3 x7 x6 h8) h8 fun x9 h10 =>
faK 0 x7 fun x11 =>
ldK 1 false x11 h10 fun x12 =>
callK (T 41) [x12, (.s (.int .i64 1)), (.s (.int .i64 1073741824))] h10 fun x13 h14 =>
notK x13 fun x15 =>
grpK false x15 h14 (fun k16 =>
faK 1 x7 fun x17 =>
ldK 1 false x17 h14 fun x18 =>
callK (T 41) [x18, (.s (.int .i64 1)), (.s (.int .i64 9))] h14 fun x19 h20 =>
notK x19 fun x21 =>
k16 x21 h20) fun x22 h23 =>
grpK false x22 h23 (fun k24 =>
faK 2 x7 fun x25 =>
ldK 1 false x25 h23 fun x26 =>
callK (T 41) [x26, (.s (.int .i64 1)), (.s (.int .i64 10737418240000))] h23 fun x27 h28 =>
notK x27 fun x29 =>
k24 x29 h28) fun x30 h31 =>
condK x30 (
xr v11 (.s (.int .i64 2)) h31) (
arithK .gtr v11 (.s (.int .i64 0)) fun x32 =>
grpK true x32 h31 (fun k33 =>
faK 0 x7 fun x34 =>
ldK 1 false x34 h31 fun x35 =>
arithK .sub v11 (.s (.int .i64 1)) fun x36 =>
iaK 3 v0 x36 fun x37 =>
faK 0 x37 fun x38 =>
ldK 1 false x38 h31 fun x39 =>
arithK .leq x35 x39 fun x40 =>
k33 x40 h31) fun x41 h42 =>
condK x41 (
xr v11 (.s (.int .i64 5)) h42) (
arithK .add v11 (.s (.int .i64 1)) fun x43 =>
xn v0 v9 v10 x43 h42))) (
x0 h)
def f_receipt_Check_L2 (P : Program) (T : Tab) (D : DTab) (N : Nat) {β : Type} (x0 : Hp → Option β) (xr : AV → AV → Hp → Option β) : Nat → AV → AV → AV → AV → Hp → Option β
  | 0 => fun _ _ _ _ _ => none
  | n + 1 => fun v0 v9 v10 v11 h => f_receipt_Check_b2 P T D N (f_receipt_Check_L2 P T D N x0 xr n) x0 xr v0 v9 v10 v11 h
def f_receipt_Check (P : Program) (T : Tab) (D : DTab) (N : Nat) {β : Type} (K : AV → Hp → Option β) (a0 : AV) (h : Hp) : Option β :=
lenK a0 fun x1 =>
arithK .gtr x1 (.s (.int .i64 64)) fun x2 =>
condK x2 (
K (.tup [(.s (.int .i64 (-1))), (.s (.int .i64 8))]) h) (
lenK a0 fun x3 =>
f_receipt_Check_L2 P T D N (fun h => f_receipt_Check_j1 P T D N K h) (fun w45_2 w45_3 h => K (.tup [w45_2, w45_3]) h) N a0 a0 x3 (.s (.int .i64 0)) h)
theorem f_receipt_Check_b2_eq (P : Program) (T : Tab) (D : DTab) (N : Nat) {β : Type} (xn : AV → AV → AV → AV → Hp → Option β) (x0 : Hp → Option β) (xr : AV → AV → Hp → Option β) (xd : Nat → St → Option β) (xq : St → Option β) (t : Tm) (h : Hp) : o_receipt_Check_L2 P T D N t h (fun (e : Ex) (s : St) => e.on (xn (s.1 0) (s.1 9) (s.1 10) (s.1 11) s.2) (fun i => (bif i == 0 then x0 s.2 else (xd i s))) (xr (s.1 2) (s.1 3) s.2)) = f_receipt_Check_b2 P T D N xn x0 xr (t 0) (t 9) (t 10) (t 11) h := by kernel_rfl
theorem f_receipt_Check_L2_eq (P : Program) (T : Tab) (D : DTab) (N : Nat) {β : Type} (A : Ex → St → Option β) (x0 : Hp → Option β) (xr : AV → AV → Hp → Option β) (q0 : ∀ s, A (.exit 0) s = x0 s.2) (qr : ∀ s, A .ret s = xr (s.1 2) (s.1 3) s.2) : ∀ (n : Nat) (s : St), iterK (fun s k => o_receipt_Check_L2 P T D N s.1 s.2 k) n s A = f_receipt_Check_L2 P T D N x0 xr n (s.1 0) (s.1 9) (s.1 10) (s.1 11) s.2 := by
  intro n
  induction n with
  | zero => intro s; rfl
  | succ n ih =>
    intro s
    have hk : (fun (e : Ex) (s' : St) => Ex.on e (iterK (fun s k => o_receipt_Check_L2 P T D N s.1 s.2 k) n s' A) (fun i => A (.exit i) s') (A .ret s')) = (fun (e : Ex) (s : St) => e.on ((f_receipt_Check_L2 P T D N x0 xr n) (s.1 0) (s.1 9) (s.1 10) (s.1 11) s.2) (fun i => (bif i == 0 then x0 s.2 else (A (.exit i) s))) (xr (s.1 2) (s.1 3) s.2)) := by
      funext e s'
      cases e with
      | normal => exact ih s'
      | ret => exact qr s'
      | exit i =>
        by_cases r0 : i = 0
        · subst r0; exact q0 s'
        simp only [Ex.on, beq_false_of_ne r0, cond_false]
    show o_receipt_Check_L2 P T D N s.1 s.2 (fun (e : Ex) (s' : St) => Ex.on e (iterK (fun s k => o_receipt_Check_L2 P T D N s.1 s.2 k) n s' A) (fun i => A (.exit i) s') (A .ret s')) = _
    rw [hk]
    exact f_receipt_Check_b2_eq P T D N (f_receipt_Check_L2 P T D N x0 xr n) x0 xr (fun i s => A (.exit i) s) (fun s => A .ret s) s.1 s.2
theorem f_receipt_Check_old_eq (P : Program) (T : Tab) (D : DTab) (N : Nat) {β : Type} (K : AV → Hp → Option β) (a0 : AV) (h : Hp) : o_receipt_Check P T D N K a0 h = f_receipt_Check P T D N K a0 h := by
  have eL2 : (fun s : St => iterK (fun s k => o_receipt_Check_L2 P T D N s.1 s.2 k) N s (o_receipt_Check_aL2 P T D N K)) = (fun s : St => f_receipt_Check_L2 P T D N (fun h => f_receipt_Check_j1 P T D N K h) (fun w45_2 w45_3 h => K (.tup [w45_2, w45_3]) h) N (s.1 0) (s.1 9) (s.1 10) (s.1 11) s.2) := funext fun s => f_receipt_Check_L2_eq P T D N (o_receipt_Check_aL2 P T D N K) (fun h => f_receipt_Check_j1 P T D N K h) (fun w45_2 w45_3 h => K (.tup [w45_2, w45_3]) h) (fun s => rfl) (fun s => rfl) N s
  show o_receipt_Check_G P T D N (fun s => iterK (fun s k => o_receipt_Check_L2 P T D N s.1 s.2 k) N s (o_receipt_Check_aL2 P T D N K)) K a0 h = _
  rw [eL2]
  kernel_rfl
theorem o_receipt_Check_run (T : Tab) (D : DTab) (N : Nat) {β : Type} (K : AV → Hp → Option β) (a0 : AV) (h : Hp) : runK Try.prog T D N [0, 2, 3, 4, 5, 8, 9, 10, 11, 12, 16, 34] Try.f13 K [a0] h = o_receipt_Check Try.prog T D N K a0 h := by kernel_rfl
theorem f_receipt_Check_run (T : Tab) (D : DTab) (N : Nat) {β : Type} (K : AV → Hp → Option β) (a0 : AV) (h : Hp) : runK Try.prog T D N [0, 2, 3, 4, 5, 8, 9, 10, 11, 12, 16, 34] Try.f13 K [a0] h = f_receipt_Check Try.prog T D N K a0 h := (o_receipt_Check_run T D N K a0 h).trans (f_receipt_Check_old_eq Try.prog T D N K a0 h)
def f_slices_Clone_Good (P : Program) (T : Tab) (D : DTab) (N : Nat) {β : Type} (K : AV → Hp → Option β) (a0 : AV) (h : Hp) : Option β :=
eqK P false 22 a0 (.s (.slice none 0 0)) h fun x1 =>
condK x1 (
K (.s (.slice none 0 0)) h) (
effK (bsE 3 [.s (.int .i64 0), .s (.int .i64 0), .s (.int .i64 0)] 0 [] (List.length h)) h fun x2 h3 =>
effK (appE 3 24 x2 a0 h3 (List.length h3)) h3 fun x4 h5 =>
K x4 h5)
theorem f_slices_Clone_Good_run (T : Tab) (D : DTab) (N : Nat) {β : Type} (K : AV → Hp → Option β) (a0 : AV) (h : Hp) : runK Try.prog T D N [0, 2, 4] Try.f14 K [a0] h = f_slices_Clone_Good Try.prog T D N K a0 h := by kernel_rfl
def f_law44_compare (P : Program) (T : Tab) (D : DTab) (N : Nat) {β : Type} (K : AV → Hp → Option β) (a0 : AV) (h : Hp) : Option β :=
effK (boxE 3 a0 (List.length h)) h fun x1 h2 =>
faK 0 x1 fun x3 =>
ldK 1 false x3 h2 fun x4 =>
effD (callE (D 14) [x4] h2 (List.length h2)) h2 fun x5 h6 e7 =>
faK 1 x1 fun x8 =>
ldK 1 false x8 h6 fun x9 =>
effD (callE (D 14) [x9] h6 (List.length h6)) h6 fun x10 h11 e12 =>
faK 2 x1 fun x13 =>
ldK 1 false x13 h11 fun x14 =>
effD (callE (D 20) [x14] h11 (List.length h11)) h11 fun x15 h16 e17 =>
effD (callE (D 38) [x5, x10, x15] h16 (List.length h16)) h16 fun x18 h19 e20 =>
exK x18 0 fun x21 =>
exK x18 1 fun x22 =>
bif disjAll [(2, 4), (2, 7), (5, 7)] [([], []), ((idsOf x3), []), e7, ([], []), ((idsOf x8), []), e12, ([], []), ((idsOf x13), []), e17, e20, ([], []), ([], []), ([], []), ([], [])] then (
K (.tup [x21, x22]) h19) else none
theorem f_law44_compare_run (T : Tab) (D : DTab) (N : Nat) {β : Type} (K : AV → Hp → Option β) (a0 : AV) (h : Hp) : runK Try.prog T D N [0, 1, 2, 3] Try.f16 K [a0] h = f_law44_compare Try.prog T D N K a0 h := by kernel_rfl
def f_receipt_Verify (P : Program) (T : Tab) (D : DTab) (N : Nat) {β : Type} (K : AV → Hp → Option β) (a0 : AV) (a1 : AV) (a2 : AV) (a3 : AV) (h : Hp) : Option β :=
callK (T 38) [a0, a1, a2] h fun x1 h2 =>
exK x1 0 fun x3 =>
exK x1 1 fun x4 =>
eqK P true 30 x4 (.s (.int .i64 0)) h2 fun x5 =>
condK x5 (
K x4 h2) (
callK (T 39) [x3, a3] h2 fun x6 h7 =>
notK x6 fun x8 =>
condK x8 (
K (.s (.int .i64 14)) h7) (
K (.s (.int .i64 0)) h7))
theorem f_receipt_Verify_run (T : Tab) (D : DTab) (N : Nat) {β : Type} (K : AV → Hp → Option β) (a0 : AV) (a1 : AV) (a2 : AV) (a3 : AV) (h : Hp) : runK Try.prog T D N [0, 1, 2, 3, 8, 9, 10, 19, 24] Try.f19 K [a0, a1, a2, a3] h = f_receipt_Verify Try.prog T D N K a0 a1 a2 a3 h := by kernel_rfl
def f_slices_Clone_int (P : Program) (T : Tab) (D : DTab) (N : Nat) {β : Type} (K : AV → Hp → Option β) (a0 : AV) (h : Hp) : Option β :=
eqK P false 23 a0 (.s (.slice none 0 0)) h fun x1 =>
condK x1 (
K (.s (.slice none 0 0)) h) (
effK (bsE 1 [.s (.int .i64 0)] 0 [] (List.length h)) h fun x2 h3 =>
effK (appE 1 8 x2 a0 h3 (List.length h3)) h3 fun x4 h5 =>
K x4 h5)
theorem f_slices_Clone_int_run (T : Tab) (D : DTab) (N : Nat) {β : Type} (K : AV → Hp → Option β) (a0 : AV) (h : Hp) : runK Try.prog T D N [0, 2, 4] Try.f20 K [a0] h = f_slices_Clone_int Try.prog T D N K a0 h := by kernel_rfl
def f_slices_Clone_Line (P : Program) (T : Tab) (D : DTab) (N : Nat) {β : Type} (K : AV → Hp → Option β) (a0 : AV) (h : Hp) : Option β :=
eqK P false 26 a0 (.s (.slice none 0 0)) h fun x1 =>
condK x1 (
K (.s (.slice none 0 0)) h) (
effK (bsE 8 [.s (.int .i64 0), .s (.int .i64 0), .s (.int .i64 0), .s (.int .i64 0), .s (.int .i64 0), .s (.int .i64 0), .s (.int .i64 0), .s (.int .i64 0)] 0 [] (List.length h)) h fun x2 h3 =>
effK (appE 8 64 x2 a0 h3 (List.length h3)) h3 fun x4 h5 =>
K x4 h5)
theorem f_slices_Clone_Line_run (T : Tab) (D : DTab) (N : Nat) {β : Type} (K : AV → Hp → Option β) (a0 : AV) (h : Hp) : runK Try.prog T D N [0, 2, 4] Try.f21 K [a0] h = f_slices_Clone_Line Try.prog T D N K a0 h := by kernel_rfl
def f_receipt_Accepts (P : Program) (T : Tab) (D : DTab) (N : Nat) {β : Type} (K : AV → Hp → Option β) (a0 : AV) (a1 : AV) (h : Hp) : Option β :=
callK (T 26) [a0] h fun x1 h2 =>
exK x1 0 fun x3 =>
exK x1 1 fun x4 =>
exK x1 2 fun x5 =>
exK x1 3 fun x6 =>
effK (boxE 4 (.agg [.s (.int .i64 0), .s (.int .i64 0), .s (.int .i64 0), .s (.int .i64 0)]) (List.length h2)) h2 fun x7 h8 =>
effK (stE 4 x7 x5 h8) h8 fun x9 h10 =>
eqK P true 30 x6 (.s (.int .i64 0)) h10 fun x11 =>
condK x11 (
K (.tup [(.s (.bool false)), x6]) h10) (
callK (T 41) [a1, (.s (.int .i64 0)), (.s (.int .i64 10737418240000))] h10 fun x12 h13 =>
notK x12 fun x14 =>
condK x14 (
K (.tup [(.s (.bool false)), (.s (.int .i64 2))]) h13) (
faK 2 x7 fun x15 =>
ldK 1 false x15 h13 fun x16 =>
arithK .leq x16 a1 fun x17 =>
K (.tup [x17, (.s (.int .i64 0))]) h13))
theorem f_receipt_Accepts_run (T : Tab) (D : DTab) (N : Nat) {β : Type} (K : AV → Hp → Option β) (a0 : AV) (a1 : AV) (h : Hp) : runK Try.prog T D N [0, 1, 4, 5, 8, 9, 17, 21] Try.f23 K [a0, a1] h = f_receipt_Accepts Try.prog T D N K a0 a1 h := by kernel_rfl
def f_slices_ContainsFunc_Line (P : Program) (T : Tab) (D : DTab) (N : Nat) {β : Type} (K : AV → Hp → Option β) (a0 : AV) (a1 : AV) (h : Hp) : Option β :=
callK (T 46) [a0, a1] h fun x1 h2 =>
arithK .geq x1 (.s (.int .i64 0)) fun x3 =>
K x3 h2
theorem f_slices_ContainsFunc_Line_run (T : Tab) (D : DTab) (N : Nat) {β : Type} (K : AV → Hp → Option β) (a0 : AV) (a1 : AV) (h : Hp) : runK Try.prog T D N [0, 1, 4] Try.f24 K [a0, a1] h = f_slices_ContainsFunc_Line Try.prog T D N K a0 a1 h := by kernel_rfl
def o_receipt_Total_j1 (P : Program) (T : Tab) (D : DTab) (N : Nat) {β : Type} (K : AV → Hp → Option β) (t : Tm) (h : Hp) : Option β :=
callK (T 48) [(t 8)] h fun x11 h12 =>
exK x11 0 fun x13 =>
exK x11 1 fun x14 =>
effK (boxE 4 (.agg [.s (.int .i64 0), .s (.int .i64 0), .s (.int .i64 0), .s (.int .i64 0)]) (List.length h12)) h12 fun x15 h16 =>
effK (stE 4 x15 x13 h16) h16 fun x17 h18 =>
eqK P true 30 x14 (.s (.int .i64 0)) h18 fun x19 =>
grpK false x19 h18 (fun k20 =>
arithK .gtr (t 6) (.s (.int .i64 10737418240000)) fun x21 =>
k20 x21 h18) fun x22 h23 =>
grpK false x22 h23 (fun k24 =>
arithK .gtr (t 7) (.s (.int .i64 10737418240000)) fun x25 =>
k24 x25 h23) fun x26 h27 =>
condK x26 (
buildK [.s (.int .i64 0), .s (.int .i64 0), .s (.int .i64 0), .s (.int .i64 0)] [] fun x28 =>
effK (stE 4 (t 4) x28 h27) h27 fun x29 h30 =>
ldK 4 true (t 4) h30 fun r31 =>
K (.tup [(.s (.int .i64 0)), (.s (.int .i64 0)), r31, (.s (.int .i64 15))]) h30) (
ldK 4 true x15 h27 fun x32 =>
effK (stE 4 (t 4) x32 h27) h27 fun x33 h34 =>
ldK 4 true (t 4) h34 fun r35 =>
K (.tup [(t 6), (t 7), r35, (.s (.int .i64 0))]) h34)
def o_receipt_Total_L2 (P : Program) (T : Tab) (D : DTab) (N : Nat) {β : Type} (t : Tm) (h : Hp) (k : Ex → St → Option β) : Option β :=
arithK .lss (t 19) (t 18) fun x36 =>
condK x36 (
iaK 8 (t 17) (t 19) fun x37 =>
ldK 8 true x37 h fun x38 =>
effK (boxE 8 (.agg [.s (.int .i64 0), .s (.int .i64 0), .s (.int .i64 0), .s (.int .i64 0), .s (.int .i64 0), .s (.int .i64 0), .s (.int .i64 0), .s (.int .i64 0)]) (List.length h)) h fun x39 h40 =>
effK (stE 8 x39 x38 h40) h40 fun x41 h42 =>
faK 2 x39 fun x43 =>
ldK 1 false x43 h42 fun x44 =>
arithK .add (t 6) x44 fun x45 =>
faK 3 x39 fun x46 =>
ldK 1 false x46 h42 fun x47 =>
arithK .add (t 7) x47 fun x48 =>
faK 4 x39 fun x49 =>
ldK 4 true x49 h42 fun x50 =>
effK (bsE 4 [.s (.int .i64 0), .s (.int .i64 0), .s (.int .i64 0), .s (.int .i64 0)] 1 [(0, x50)] (List.length h42)) h42 fun x51 h52 =>
effK (appE 4 32 (t 8) x51 h52 (List.length h52)) h52 fun x53 h54 =>
arithK .add (t 19) (.s (.int .i64 1)) fun x55 =>
k .normal ((upd (upd (upd (upd (upd (upd t 20 x36) 10 x39) 6 x45) 7 x48) 8 x53) 19 x55), h54)) (
k (.exit 0) ((upd t 20 x36), h))
def o_receipt_Total_aL2 (P : Program) (T : Tab) (D : DTab) (N : Nat) {β : Type} (K : AV → Hp → Option β) (e : Ex) (s : St) : Option β :=
  e.on ((o_receipt_Total_j1 P T D N K s.1 s.2))
  (fun i => bif i == 0 then ((o_receipt_Total_j1 P T D N K s.1 s.2)) else (none))
  (ldK 4 true (s.1 4) s.2 fun r56 =>
K (.tup [(s.1 2), (s.1 3), r56, (s.1 5)]) s.2)
def o_receipt_Total_G (P : Program) (T : Tab) (D : DTab) (N : Nat) {β : Type} (cL2 : St → Option β) (K : AV → Hp → Option β) (a0 : AV) (h : Hp) :  Option β :=
effK (boxE 4 (.agg [.s (.int .i64 0), .s (.int .i64 0), .s (.int .i64 0), .s (.int .i64 0)]) (List.length h)) h fun x1 h2 =>
callK (T 47) [a0] h2 fun x3 h4 =>
notK x3 fun x5 =>
condK x5 (
buildK [.s (.int .i64 0), .s (.int .i64 0), .s (.int .i64 0), .s (.int .i64 0)] [] fun x6 =>
effK (stE 4 x1 x6 h4) h4 fun x7 h8 =>
ldK 4 true x1 h8 fun r9 =>
K (.tup [(.s (.int .i64 0)), (.s (.int .i64 0)), r9, (.s (.int .i64 1))]) h8) (
lenK a0 fun x10 =>
cL2 ((upd (upd (upd (upd (upd (upd (upd (upd (upd (upd (upd (tm0 [a0]) 2 (.s (.int .i64 0))) 3 (.s (.int .i64 0))) 4 x1) 5 (.s (.int .i64 0))) 15 x5) 6 (.s (.int .i64 0))) 7 (.s (.int .i64 0))) 8 (.s (.slice none 0 0))) 17 a0) 18 x10) 19 (.s (.int .i64 0))), h4))
def o_receipt_Total (P : Program) (T : Tab) (D : DTab) (N : Nat) {β : Type} (K : AV → Hp → Option β) (a0 : AV) (h : Hp) : Option β := o_receipt_Total_G P T D N (fun s => iterK (fun s k => o_receipt_Total_L2 P T D N s.1 s.2 k) N s (o_receipt_Total_aL2 P T D N K)) K a0 h
def f_receipt_Total_j1 (P : Program) (T : Tab) (D : DTab) (N : Nat) {β : Type} (K : AV → Hp → Option β) (v4 : AV) (v6 : AV) (v7 : AV) (v8 : AV) (h : Hp) : Option β :=
callK (T 48) [v8] h fun x11 h12 =>
exK x11 0 fun x13 =>
exK x11 1 fun x14 =>
effK (boxE 4 (.agg [.s (.int .i64 0), .s (.int .i64 0), .s (.int .i64 0), .s (.int .i64 0)]) (List.length h12)) h12 fun x15 h16 =>
effK (stE 4 x15 x13 h16) h16 fun x17 h18 =>
eqK P true 30 x14 (.s (.int .i64 0)) h18 fun x19 =>
grpK false x19 h18 (fun k20 =>
arithK .gtr v6 (.s (.int .i64 10737418240000)) fun x21 =>
k20 x21 h18) fun x22 h23 =>
grpK false x22 h23 (fun k24 =>
arithK .gtr v7 (.s (.int .i64 10737418240000)) fun x25 =>
k24 x25 h23) fun x26 h27 =>
condK x26 (
buildK [.s (.int .i64 0), .s (.int .i64 0), .s (.int .i64 0), .s (.int .i64 0)] [] fun x28 =>
effK (stE 4 v4 x28 h27) h27 fun x29 h30 =>
ldK 4 true v4 h30 fun r31 =>
K (.tup [(.s (.int .i64 0)), (.s (.int .i64 0)), r31, (.s (.int .i64 15))]) h30) (
ldK 4 true x15 h27 fun x32 =>
effK (stE 4 v4 x32 h27) h27 fun x33 h34 =>
ldK 4 true v4 h34 fun r35 =>
K (.tup [v6, v7, r35, (.s (.int .i64 0))]) h34)
def f_receipt_Total_b2 (P : Program) (T : Tab) (D : DTab) (N : Nat) {β : Type} (xn : AV → AV → AV → AV → AV → AV → AV → Hp → Option β) (x0 : AV → AV → AV → AV → Hp → Option β) (v4 : AV) (v6 : AV) (v7 : AV) (v8 : AV) (v17 : AV) (v18 : AV) (v19 : AV) (h : Hp) : Option β :=
arithK .lss v19 v18 fun x36 =>
condK x36 (
iaK 8 v17 v19 fun x37 =>
ldK 8 true x37 h fun x38 =>
effK (boxE 8 (.agg [.s (.int .i64 0), .s (.int .i64 0), .s (.int .i64 0), .s (.int .i64 0), .s (.int .i64 0), .s (.int .i64 0), .s (.int .i64 0), .s (.int .i64 0)]) (List.length h)) h fun x39 h40 =>
effK (stE 8 x39 x38 h40) h40 fun x41 h42 =>
faK 2 x39 fun x43 =>
ldK 1 false x43 h42 fun x44 =>
arithK .add v6 x44 fun x45 =>
faK 3 x39 fun x46 =>
ldK 1 false x46 h42 fun x47 =>
arithK .add v7 x47 fun x48 =>
faK 4 x39 fun x49 =>
ldK 4 true x49 h42 fun x50 =>
effK (bsE 4 [.s (.int .i64 0), .s (.int .i64 0), .s (.int .i64 0), .s (.int .i64 0)] 1 [(0, x50)] (List.length h42)) h42 fun x51 h52 =>
effK (appE 4 32 v8 x51 h52 (List.length h52)) h52 fun x53 h54 =>
arithK .add v19 (.s (.int .i64 1)) fun x55 =>
xn v4 x45 x48 x53 v17 v18 x55 h54) (
x0 v4 v6 v7 v8 h)
def f_receipt_Total_L2 (P : Program) (T : Tab) (D : DTab) (N : Nat) {β : Type} (x0 : AV → AV → AV → AV → Hp → Option β) : Nat → AV → AV → AV → AV → AV → AV → AV → Hp → Option β
  | 0 => fun _ _ _ _ _ _ _ _ => none
  | n + 1 => fun v4 v6 v7 v8 v17 v18 v19 h => f_receipt_Total_b2 P T D N (f_receipt_Total_L2 P T D N x0 n) x0 v4 v6 v7 v8 v17 v18 v19 h
def f_receipt_Total (P : Program) (T : Tab) (D : DTab) (N : Nat) {β : Type} (K : AV → Hp → Option β) (a0 : AV) (h : Hp) : Option β :=
effK (boxE 4 (.agg [.s (.int .i64 0), .s (.int .i64 0), .s (.int .i64 0), .s (.int .i64 0)]) (List.length h)) h fun x1 h2 =>
callK (T 47) [a0] h2 fun x3 h4 =>
notK x3 fun x5 =>
condK x5 (
buildK [.s (.int .i64 0), .s (.int .i64 0), .s (.int .i64 0), .s (.int .i64 0)] [] fun x6 =>
effK (stE 4 x1 x6 h4) h4 fun x7 h8 =>
ldK 4 true x1 h8 fun r9 =>
K (.tup [(.s (.int .i64 0)), (.s (.int .i64 0)), r9, (.s (.int .i64 1))]) h8) (
lenK a0 fun x10 =>
f_receipt_Total_L2 P T D N (fun w56_4 w56_6 w56_7 w56_8 h => f_receipt_Total_j1 P T D N K w56_4 w56_6 w56_7 w56_8 h) N x1 (.s (.int .i64 0)) (.s (.int .i64 0)) (.s (.slice none 0 0)) a0 x10 (.s (.int .i64 0)) h4)
theorem f_receipt_Total_b2_eq (P : Program) (T : Tab) (D : DTab) (N : Nat) {β : Type} (xn : AV → AV → AV → AV → AV → AV → AV → Hp → Option β) (x0 : AV → AV → AV → AV → Hp → Option β) (xd : Nat → St → Option β) (xq : St → Option β) (t : Tm) (h : Hp) : o_receipt_Total_L2 P T D N t h (fun (e : Ex) (s : St) => e.on (xn (s.1 4) (s.1 6) (s.1 7) (s.1 8) (s.1 17) (s.1 18) (s.1 19) s.2) (fun i => (bif i == 0 then x0 (s.1 4) (s.1 6) (s.1 7) (s.1 8) s.2 else (xd i s))) (xq s)) = f_receipt_Total_b2 P T D N xn x0 (t 4) (t 6) (t 7) (t 8) (t 17) (t 18) (t 19) h := by kernel_rfl
theorem f_receipt_Total_L2_eq (P : Program) (T : Tab) (D : DTab) (N : Nat) {β : Type} (A : Ex → St → Option β) (x0 : AV → AV → AV → AV → Hp → Option β) (q0 : ∀ s, A (.exit 0) s = x0 (s.1 4) (s.1 6) (s.1 7) (s.1 8) s.2) : ∀ (n : Nat) (s : St), iterK (fun s k => o_receipt_Total_L2 P T D N s.1 s.2 k) n s A = f_receipt_Total_L2 P T D N x0 n (s.1 4) (s.1 6) (s.1 7) (s.1 8) (s.1 17) (s.1 18) (s.1 19) s.2 := by
  intro n
  induction n with
  | zero => intro s; rfl
  | succ n ih =>
    intro s
    have hk : (fun (e : Ex) (s' : St) => Ex.on e (iterK (fun s k => o_receipt_Total_L2 P T D N s.1 s.2 k) n s' A) (fun i => A (.exit i) s') (A .ret s')) = (fun (e : Ex) (s : St) => e.on ((f_receipt_Total_L2 P T D N x0 n) (s.1 4) (s.1 6) (s.1 7) (s.1 8) (s.1 17) (s.1 18) (s.1 19) s.2) (fun i => (bif i == 0 then x0 (s.1 4) (s.1 6) (s.1 7) (s.1 8) s.2 else (A (.exit i) s))) (A .ret s)) := by
      funext e s'
      cases e with
      | normal => exact ih s'
      | ret => exact rfl
      | exit i =>
        by_cases r0 : i = 0
        · subst r0; exact q0 s'
        simp only [Ex.on, beq_false_of_ne r0, cond_false]
    show o_receipt_Total_L2 P T D N s.1 s.2 (fun (e : Ex) (s' : St) => Ex.on e (iterK (fun s k => o_receipt_Total_L2 P T D N s.1 s.2 k) n s' A) (fun i => A (.exit i) s') (A .ret s')) = _
    rw [hk]
    exact f_receipt_Total_b2_eq P T D N (f_receipt_Total_L2 P T D N x0 n) x0 (fun i s => A (.exit i) s) (fun s => A .ret s) s.1 s.2
theorem f_receipt_Total_old_eq (P : Program) (T : Tab) (D : DTab) (N : Nat) {β : Type} (K : AV → Hp → Option β) (a0 : AV) (h : Hp) : o_receipt_Total P T D N K a0 h = f_receipt_Total P T D N K a0 h := by
  have eL2 : (fun s : St => iterK (fun s k => o_receipt_Total_L2 P T D N s.1 s.2 k) N s (o_receipt_Total_aL2 P T D N K)) = (fun s : St => f_receipt_Total_L2 P T D N (fun w56_4 w56_6 w56_7 w56_8 h => f_receipt_Total_j1 P T D N K w56_4 w56_6 w56_7 w56_8 h) N (s.1 4) (s.1 6) (s.1 7) (s.1 8) (s.1 17) (s.1 18) (s.1 19) s.2) := funext fun s => f_receipt_Total_L2_eq P T D N (o_receipt_Total_aL2 P T D N K) (fun w56_4 w56_6 w56_7 w56_8 h => f_receipt_Total_j1 P T D N K w56_4 w56_6 w56_7 w56_8 h) (fun s => rfl) N s
  show o_receipt_Total_G P T D N (fun s => iterK (fun s k => o_receipt_Total_L2 P T D N s.1 s.2 k) N s (o_receipt_Total_aL2 P T D N K)) K a0 h = _
  rw [eL2]
  kernel_rfl
theorem o_receipt_Total_run (T : Tab) (D : DTab) (N : Nat) {β : Type} (K : AV → Hp → Option β) (a0 : AV) (h : Hp) : runK Try.prog T D N [0, 2, 3, 4, 5, 6, 7, 8, 10, 11, 12, 15, 17, 18, 19, 20, 51] Try.f26 K [a0] h = o_receipt_Total Try.prog T D N K a0 h := by kernel_rfl
theorem f_receipt_Total_run (T : Tab) (D : DTab) (N : Nat) {β : Type} (K : AV → Hp → Option β) (a0 : AV) (h : Hp) : runK Try.prog T D N [0, 2, 3, 4, 5, 6, 7, 8, 10, 11, 12, 15, 17, 18, 19, 20, 51] Try.f26 K [a0] h = f_receipt_Total Try.prog T D N K a0 h := (o_receipt_Total_run T D N K a0 h).trans (f_receipt_Total_old_eq Try.prog T D N K a0 h)
def o_slices_Concat_Good_j2 (P : Program) (T : Tab) (D : DTab) (N : Nat) {β : Type} (K : AV → Hp → Option β) (t : Tm) (h : Hp) : Option β :=
K (t 6) h
def o_slices_Concat_Good_L3 (P : Program) (T : Tab) (D : DTab) (N : Nat) {β : Type} (t : Tm) (h : Hp) (k : Ex → St → Option β) : Option β :=
arithK .lss (t 27) (t 26) fun x5 =>
condK x5 (
iaK 1 (t 25) (t 27) fun x6 =>
ldK 1 false x6 h fun x7 =>
effK (appE 3 24 (t 6) x7 h (List.length h)) h fun x8 h9 =>
arithK .add (t 27) (.s (.int .i64 1)) fun x10 =>
k .normal ((upd (upd (upd (upd t 28 x5) 8 x7) 6 x8) 27 x10), h9)) (
k (.exit 2) ((upd t 28 x5), h))
def o_slices_Concat_Good_aL3 (P : Program) (T : Tab) (D : DTab) (N : Nat) {β : Type} (K : AV → Hp → Option β) (e : Ex) (s : St) : Option β :=
  e.on ((o_slices_Concat_Good_j2 P T D N K s.1 s.2))
  (fun i => bif i == 2 then ((o_slices_Concat_Good_j2 P T D N K s.1 s.2)) else (none))
  (K (s.1 2) s.2)
def o_slices_Concat_Good_j1_G (P : Program) (T : Tab) (D : DTab) (N : Nat) {β : Type} (cL3 : St → Option β) (K : AV → Hp → Option β) (t : Tm) (h : Hp) :  Option β :=
callK (T 49) [(.s (.slice none 0 0)), (t 3)] h fun x2 h3 =>
lenK (t 0) fun x4 =>
cL3 ((upd (upd (upd (upd t 6 x2) 25 (t 0)) 26 x4) 27 (.s (.int .i64 0))), h3)
def o_slices_Concat_Good_j1 (P : Program) (T : Tab) (D : DTab) (N : Nat) {β : Type} (K : AV → Hp → Option β) (t : Tm) (h : Hp) : Option β := o_slices_Concat_Good_j1_G P T D N (fun s => iterK (fun s k => o_slices_Concat_Good_L3 P T D N s.1 s.2 k) N s (o_slices_Concat_Good_aL3 P T D N K)) K t h
def o_slices_Concat_Good_j5 (P : Program) (T : Tab) (D : DTab) (N : Nat) {β : Type} (k : Ex → St → Option β) (t : Tm) (h : Hp) : Option β :=
arithK .add (t 11) (.s (.int .i64 1)) fun x12 =>
k .normal ((upd t 11 x12), h)
def o_slices_Concat_Good_j6 (P : Program) (T : Tab) (D : DTab) (N : Nat) {β : Type} (k : Ex → St → Option β) (t : Tm) (h : Hp) : Option β :=
(o_slices_Concat_Good_j5 P T D N k t h)
def o_slices_Concat_Good_L4 (P : Program) (T : Tab) (D : DTab) (N : Nat) {β : Type} (t : Tm) (h : Hp) (k : Ex → St → Option β) : Option β :=
arithK .lss (t 11) (t 10) fun x11 =>
condK x11 (
iaK 1 (t 9) (t 11) fun x13 =>
ldK 1 false x13 h fun x14 =>
lenK x14 fun x15 =>
arithK .add (t 3) x15 fun x16 =>
arithK .lss x16 (.s (.int .i64 0)) fun x17 =>
condK x17 (
none) (
(o_slices_Concat_Good_j6 P T D N k (upd (upd (upd (upd t 12 x11) 5 x14) 3 x16) 20 x17) h))) (
k (.exit 0) ((upd t 12 x11), h))
def o_slices_Concat_Good_aL4 (P : Program) (T : Tab) (D : DTab) (N : Nat) {β : Type} (K : AV → Hp → Option β) (e : Ex) (s : St) : Option β :=
  e.on ((o_slices_Concat_Good_j1 P T D N K s.1 s.2))
  (fun i => bif i == 0 then ((o_slices_Concat_Good_j1 P T D N K s.1 s.2)) else (none))
  (K (s.1 2) s.2)
def o_slices_Concat_Good_G (P : Program) (T : Tab) (D : DTab) (N : Nat) {β : Type} (cL4 : St → Option β) (K : AV → Hp → Option β) (a0 : AV) (h : Hp) :  Option β :=
lenK a0 fun x1 =>
cL4 ((upd (upd (upd (upd (upd (tm0 [a0]) 2 (.s (.slice none 0 0))) 3 (.s (.int .i64 0))) 9 a0) 10 x1) 11 (.s (.int .i64 0))), h)
def o_slices_Concat_Good (P : Program) (T : Tab) (D : DTab) (N : Nat) {β : Type} (K : AV → Hp → Option β) (a0 : AV) (h : Hp) : Option β := o_slices_Concat_Good_G P T D N (fun s => iterK (fun s k => o_slices_Concat_Good_L4 P T D N s.1 s.2 k) N s (o_slices_Concat_Good_aL4 P T D N K)) K a0 h
def f_slices_Concat_Good_j2 (P : Program) (T : Tab) (D : DTab) (N : Nat) {β : Type} (K : AV → Hp → Option β) (v6 : AV) (h : Hp) : Option β :=
K v6 h
def f_slices_Concat_Good_b3 (P : Program) (T : Tab) (D : DTab) (N : Nat) {β : Type} (xn : AV → AV → AV → AV → Hp → Option β) (x2 : AV → Hp → Option β) (v6 : AV) (v25 : AV) (v26 : AV) (v27 : AV) (h : Hp) : Option β :=
arithK .lss v27 v26 fun x5 =>
condK x5 (
iaK 1 v25 v27 fun x6 =>
ldK 1 false x6 h fun x7 =>
effK (appE 3 24 v6 x7 h (List.length h)) h fun x8 h9 =>
arithK .add v27 (.s (.int .i64 1)) fun x10 =>
xn x8 v25 v26 x10 h9) (
x2 v6 h)
def f_slices_Concat_Good_L3 (P : Program) (T : Tab) (D : DTab) (N : Nat) {β : Type} (x2 : AV → Hp → Option β) : Nat → AV → AV → AV → AV → Hp → Option β
  | 0 => fun _ _ _ _ _ => none
  | n + 1 => fun v6 v25 v26 v27 h => f_slices_Concat_Good_b3 P T D N (f_slices_Concat_Good_L3 P T D N x2 n) x2 v6 v25 v26 v27 h
def f_slices_Concat_Good_j1 (P : Program) (T : Tab) (D : DTab) (N : Nat) {β : Type} (K : AV → Hp → Option β) (v0 : AV) (v3 : AV) (h : Hp) : Option β :=
callK (T 49) [(.s (.slice none 0 0)), v3] h fun x2 h3 =>
lenK v0 fun x4 =>
f_slices_Concat_Good_L3 P T D N (fun w11_6 h => f_slices_Concat_Good_j2 P T D N K w11_6 h) N x2 v0 x4 (.s (.int .i64 0)) h3
def f_slices_Concat_Good_j5 (P : Program) (T : Tab) (D : DTab) (N : Nat) {β : Type} (xn : AV → AV → AV → AV → AV → Hp → Option β) (x0 : AV → AV → Hp → Option β) (v0 : AV) (v3 : AV) (v9 : AV) (v10 : AV) (v11 : AV) (h : Hp) : Option β :=
arithK .add v11 (.s (.int .i64 1)) fun x13 =>
xn v0 v3 v9 v10 x13 h
def f_slices_Concat_Good_j6 (P : Program) (T : Tab) (D : DTab) (N : Nat) {β : Type} (xn : AV → AV → AV → AV → AV → Hp → Option β) (x0 : AV → AV → Hp → Option β) (v0 : AV) (v3 : AV) (v9 : AV) (v10 : AV) (v11 : AV) (h : Hp) : Option β :=
f_slices_Concat_Good_j5 P T D N xn x0 v0 v3 v9 v10 v11 h
def f_slices_Concat_Good_b4 (P : Program) (T : Tab) (D : DTab) (N : Nat) {β : Type} (xn : AV → AV → AV → AV → AV → Hp → Option β) (x0 : AV → AV → Hp → Option β) (v0 : AV) (v3 : AV) (v9 : AV) (v10 : AV) (v11 : AV) (h : Hp) : Option β :=
arithK .lss v11 v10 fun x12 =>
condK x12 (
iaK 1 v9 v11 fun x14 =>
ldK 1 false x14 h fun x15 =>
lenK x15 fun x16 =>
arithK .add v3 x16 fun x17 =>
arithK .lss x17 (.s (.int .i64 0)) fun x18 =>
condK x18 (
none) (
f_slices_Concat_Good_j6 P T D N xn x0 v0 x17 v9 v10 v11 h)) (
x0 v0 v3 h)
def f_slices_Concat_Good_L4 (P : Program) (T : Tab) (D : DTab) (N : Nat) {β : Type} (x0 : AV → AV → Hp → Option β) : Nat → AV → AV → AV → AV → AV → Hp → Option β
  | 0 => fun _ _ _ _ _ _ => none
  | n + 1 => fun v0 v3 v9 v10 v11 h => f_slices_Concat_Good_b4 P T D N (f_slices_Concat_Good_L4 P T D N x0 n) x0 v0 v3 v9 v10 v11 h
def f_slices_Concat_Good (P : Program) (T : Tab) (D : DTab) (N : Nat) {β : Type} (K : AV → Hp → Option β) (a0 : AV) (h : Hp) : Option β :=
lenK a0 fun x1 =>
f_slices_Concat_Good_L4 P T D N (fun w19_0 w19_3 h => f_slices_Concat_Good_j1 P T D N K w19_0 w19_3 h) N a0 (.s (.int .i64 0)) a0 x1 (.s (.int .i64 0)) h
theorem f_slices_Concat_Good_b3_eq (P : Program) (T : Tab) (D : DTab) (N : Nat) {β : Type} (xn : AV → AV → AV → AV → Hp → Option β) (x2 : AV → Hp → Option β) (xd : Nat → St → Option β) (xq : St → Option β) (t : Tm) (h : Hp) : o_slices_Concat_Good_L3 P T D N t h (fun (e : Ex) (s : St) => e.on (xn (s.1 6) (s.1 25) (s.1 26) (s.1 27) s.2) (fun i => (bif i == 2 then x2 (s.1 6) s.2 else (xd i s))) (xq s)) = f_slices_Concat_Good_b3 P T D N xn x2 (t 6) (t 25) (t 26) (t 27) h := by kernel_rfl
theorem f_slices_Concat_Good_L3_eq (P : Program) (T : Tab) (D : DTab) (N : Nat) {β : Type} (A : Ex → St → Option β) (x2 : AV → Hp → Option β) (q2 : ∀ s, A (.exit 2) s = x2 (s.1 6) s.2) : ∀ (n : Nat) (s : St), iterK (fun s k => o_slices_Concat_Good_L3 P T D N s.1 s.2 k) n s A = f_slices_Concat_Good_L3 P T D N x2 n (s.1 6) (s.1 25) (s.1 26) (s.1 27) s.2 := by
  intro n
  induction n with
  | zero => intro s; rfl
  | succ n ih =>
    intro s
    have hk : (fun (e : Ex) (s' : St) => Ex.on e (iterK (fun s k => o_slices_Concat_Good_L3 P T D N s.1 s.2 k) n s' A) (fun i => A (.exit i) s') (A .ret s')) = (fun (e : Ex) (s : St) => e.on ((f_slices_Concat_Good_L3 P T D N x2 n) (s.1 6) (s.1 25) (s.1 26) (s.1 27) s.2) (fun i => (bif i == 2 then x2 (s.1 6) s.2 else (A (.exit i) s))) (A .ret s)) := by
      funext e s'
      cases e with
      | normal => exact ih s'
      | ret => exact rfl
      | exit i =>
        by_cases r2 : i = 2
        · subst r2; exact q2 s'
        simp only [Ex.on, beq_false_of_ne r2, cond_false]
    show o_slices_Concat_Good_L3 P T D N s.1 s.2 (fun (e : Ex) (s' : St) => Ex.on e (iterK (fun s k => o_slices_Concat_Good_L3 P T D N s.1 s.2 k) n s' A) (fun i => A (.exit i) s') (A .ret s')) = _
    rw [hk]
    exact f_slices_Concat_Good_b3_eq P T D N (f_slices_Concat_Good_L3 P T D N x2 n) x2 (fun i s => A (.exit i) s) (fun s => A .ret s) s.1 s.2
theorem f_slices_Concat_Good_j1_eq (P : Program) (T : Tab) (D : DTab) (N : Nat) {β : Type} (K : AV → Hp → Option β) (t : Tm) (h : Hp) : o_slices_Concat_Good_j1 P T D N K t h = f_slices_Concat_Good_j1 P T D N K (t 0) (t 3) h := by
  have eL3 : (fun s : St => iterK (fun s k => o_slices_Concat_Good_L3 P T D N s.1 s.2 k) N s (o_slices_Concat_Good_aL3 P T D N K)) = (fun s : St => f_slices_Concat_Good_L3 P T D N (fun w11_6 h => f_slices_Concat_Good_j2 P T D N K w11_6 h) N (s.1 6) (s.1 25) (s.1 26) (s.1 27) s.2) := funext fun s => f_slices_Concat_Good_L3_eq P T D N (o_slices_Concat_Good_aL3 P T D N K) (fun w11_6 h => f_slices_Concat_Good_j2 P T D N K w11_6 h) (fun s => rfl) N s
  show o_slices_Concat_Good_j1_G P T D N (fun s => iterK (fun s k => o_slices_Concat_Good_L3 P T D N s.1 s.2 k) N s (o_slices_Concat_Good_aL3 P T D N K)) K t h = _
  rw [eL3]
  kernel_rfl
theorem f_slices_Concat_Good_b4_eq (P : Program) (T : Tab) (D : DTab) (N : Nat) {β : Type} (xn : AV → AV → AV → AV → AV → Hp → Option β) (x0 : AV → AV → Hp → Option β) (xd : Nat → St → Option β) (xq : St → Option β) (t : Tm) (h : Hp) : o_slices_Concat_Good_L4 P T D N t h (fun (e : Ex) (s : St) => e.on (xn (s.1 0) (s.1 3) (s.1 9) (s.1 10) (s.1 11) s.2) (fun i => (bif i == 0 then x0 (s.1 0) (s.1 3) s.2 else (xd i s))) (xq s)) = f_slices_Concat_Good_b4 P T D N xn x0 (t 0) (t 3) (t 9) (t 10) (t 11) h := by kernel_rfl
theorem f_slices_Concat_Good_L4_eq (P : Program) (T : Tab) (D : DTab) (N : Nat) {β : Type} (A : Ex → St → Option β) (x0 : AV → AV → Hp → Option β) (q0 : ∀ s, A (.exit 0) s = x0 (s.1 0) (s.1 3) s.2) : ∀ (n : Nat) (s : St), iterK (fun s k => o_slices_Concat_Good_L4 P T D N s.1 s.2 k) n s A = f_slices_Concat_Good_L4 P T D N x0 n (s.1 0) (s.1 3) (s.1 9) (s.1 10) (s.1 11) s.2 := by
  intro n
  induction n with
  | zero => intro s; rfl
  | succ n ih =>
    intro s
    have hk : (fun (e : Ex) (s' : St) => Ex.on e (iterK (fun s k => o_slices_Concat_Good_L4 P T D N s.1 s.2 k) n s' A) (fun i => A (.exit i) s') (A .ret s')) = (fun (e : Ex) (s : St) => e.on ((f_slices_Concat_Good_L4 P T D N x0 n) (s.1 0) (s.1 3) (s.1 9) (s.1 10) (s.1 11) s.2) (fun i => (bif i == 0 then x0 (s.1 0) (s.1 3) s.2 else (A (.exit i) s))) (A .ret s)) := by
      funext e s'
      cases e with
      | normal => exact ih s'
      | ret => exact rfl
      | exit i =>
        by_cases r0 : i = 0
        · subst r0; exact q0 s'
        simp only [Ex.on, beq_false_of_ne r0, cond_false]
    show o_slices_Concat_Good_L4 P T D N s.1 s.2 (fun (e : Ex) (s' : St) => Ex.on e (iterK (fun s k => o_slices_Concat_Good_L4 P T D N s.1 s.2 k) n s' A) (fun i => A (.exit i) s') (A .ret s')) = _
    rw [hk]
    exact f_slices_Concat_Good_b4_eq P T D N (f_slices_Concat_Good_L4 P T D N x0 n) x0 (fun i s => A (.exit i) s) (fun s => A .ret s) s.1 s.2
theorem f_slices_Concat_Good_old_eq (P : Program) (T : Tab) (D : DTab) (N : Nat) {β : Type} (K : AV → Hp → Option β) (a0 : AV) (h : Hp) : o_slices_Concat_Good P T D N K a0 h = f_slices_Concat_Good P T D N K a0 h := by
  have eL4 : (fun s : St => iterK (fun s k => o_slices_Concat_Good_L4 P T D N s.1 s.2 k) N s (o_slices_Concat_Good_aL4 P T D N K)) = (fun s : St => f_slices_Concat_Good_L4 P T D N (fun w19_0 w19_3 h => f_slices_Concat_Good_j1 P T D N K w19_0 w19_3 h) N (s.1 0) (s.1 3) (s.1 9) (s.1 10) (s.1 11) s.2) := funext fun s => f_slices_Concat_Good_L4_eq P T D N (o_slices_Concat_Good_aL4 P T D N K) (fun w19_0 w19_3 h => f_slices_Concat_Good_j1 P T D N K w19_0 w19_3 h) (fun s => f_slices_Concat_Good_j1_eq P T D N K s.1 s.2) N s
  show o_slices_Concat_Good_G P T D N (fun s => iterK (fun s k => o_slices_Concat_Good_L4 P T D N s.1 s.2 k) N s (o_slices_Concat_Good_aL4 P T D N K)) K a0 h = _
  rw [eL4]
  kernel_rfl
theorem o_slices_Concat_Good_run (T : Tab) (D : DTab) (N : Nat) {β : Type} (K : AV → Hp → Option β) (a0 : AV) (h : Hp) : runK Try.prog T D N [0, 2, 3, 5, 6, 8, 9, 10, 11, 12, 20, 25, 26, 27, 28] Try.f27 K [a0] h = o_slices_Concat_Good Try.prog T D N K a0 h := by kernel_rfl
theorem f_slices_Concat_Good_run (T : Tab) (D : DTab) (N : Nat) {β : Type} (K : AV → Hp → Option β) (a0 : AV) (h : Hp) : runK Try.prog T D N [0, 2, 3, 5, 6, 8, 9, 10, 11, 12, 20, 25, 26, 27, 28] Try.f27 K [a0] h = f_slices_Concat_Good Try.prog T D N K a0 h := (o_slices_Concat_Good_run T D N K a0 h).trans (f_slices_Concat_Good_old_eq Try.prog T D N K a0 h)
def f_law44_ReceiptCloses_1 (P : Program) (T : Tab) (D : DTab) (N : Nat) {β : Type} (K : AV → Hp → Option β) (a0 : AV) (a1 : AV) (h : Hp) : Option β :=
effK (boxE 8 a0 (List.length h)) h fun x1 h2 =>
faK 0 x1 fun x3 =>
ldK 1 false x3 h2 fun x4 =>
faK 0 a1 fun x5 =>
ldK 1 false x5 h2 fun x6 =>
eqK P false 3 x4 x6 h2 fun x7 =>
grpK true x7 h2 (fun k8 =>
faK 1 x1 fun x9 =>
ldK 1 false x9 h2 fun x10 =>
faK 1 a1 fun x11 =>
ldK 1 false x11 h2 fun x12 =>
eqK P false 3 x10 x12 h2 fun x13 =>
k8 x13 h2) fun x14 h15 =>
K x14 h15
theorem f_law44_ReceiptCloses_1_run (T : Tab) (D : DTab) (N : Nat) {β : Type} (K : AV → Hp → Option β) (a0 : AV) (a1 : AV) (h : Hp) : runK Try.prog T D N [0, 1, 2, 3] Try.f28 K [a0, a1] h = f_law44_ReceiptCloses_1 Try.prog T D N K a0 a1 h := by kernel_rfl
def o_law44_sum_j1 (P : Program) (T : Tab) (D : DTab) (N : Nat) {β : Type} (K : AV → Hp → Option β) (t : Tm) (h : Hp) : Option β :=
K (t 3) h
def o_law44_sum_L2 (P : Program) (T : Tab) (D : DTab) (N : Nat) {β : Type} (t : Tm) (h : Hp) (k : Ex → St → Option β) : Option β :=
arithK .lss (t 8) (t 7) fun x2 =>
condK x2 (
iaK 3 (t 6) (t 8) fun x3 =>
ldK 3 true x3 h fun x4 =>
effK (boxE 3 (.agg [.s (.int .i64 0), .s (.int .i64 0), .s (.int .i64 0)]) (List.length h)) h fun x5 h6 =>
effK (stE 3 x5 x4 h6) h6 fun x7 h8 =>
faK 2 x5 fun x9 =>
ldK 1 false x9 h8 fun x10 =>
arithK .add (t 3) x10 fun x11 =>
arithK .add (t 8) (.s (.int .i64 1)) fun x12 =>
k .normal ((upd (upd (upd (upd t 9 x2) 5 x5) 3 x11) 8 x12), h8)) (
k (.exit 0) ((upd t 9 x2), h))
def o_law44_sum_aL2 (P : Program) (T : Tab) (D : DTab) (N : Nat) {β : Type} (K : AV → Hp → Option β) (e : Ex) (s : St) : Option β :=
  e.on ((o_law44_sum_j1 P T D N K s.1 s.2))
  (fun i => bif i == 0 then ((o_law44_sum_j1 P T D N K s.1 s.2)) else (none))
  (K (s.1 2) s.2)
def o_law44_sum_G (P : Program) (T : Tab) (D : DTab) (N : Nat) {β : Type} (cL2 : St → Option β) (K : AV → Hp → Option β) (a0 : AV) (h : Hp) :  Option β :=
lenK a0 fun x1 =>
cL2 ((upd (upd (upd (upd (upd (tm0 [a0]) 2 (.s (.int .i64 0))) 3 (.s (.int .i64 0))) 6 a0) 7 x1) 8 (.s (.int .i64 0))), h)
def o_law44_sum (P : Program) (T : Tab) (D : DTab) (N : Nat) {β : Type} (K : AV → Hp → Option β) (a0 : AV) (h : Hp) : Option β := o_law44_sum_G P T D N (fun s => iterK (fun s k => o_law44_sum_L2 P T D N s.1 s.2 k) N s (o_law44_sum_aL2 P T D N K)) K a0 h
def f_law44_sum_j1 (P : Program) (T : Tab) (D : DTab) (N : Nat) {β : Type} (K : AV → Hp → Option β) (v3 : AV) (h : Hp) : Option β :=
K v3 h
def f_law44_sum_b2 (P : Program) (T : Tab) (D : DTab) (N : Nat) {β : Type} (xn : AV → AV → AV → AV → Hp → Option β) (x0 : AV → Hp → Option β) (v3 : AV) (v6 : AV) (v7 : AV) (v8 : AV) (h : Hp) : Option β :=
arithK .lss v8 v7 fun x2 =>
condK x2 (
iaK 3 v6 v8 fun x3 =>
ldK 3 true x3 h fun x4 =>
effK (boxE 3 (.agg [.s (.int .i64 0), .s (.int .i64 0), .s (.int .i64 0)]) (List.length h)) h fun x5 h6 =>
effK (stE 3 x5 x4 h6) h6 fun x7 h8 =>
faK 2 x5 fun x9 =>
ldK 1 false x9 h8 fun x10 =>
arithK .add v3 x10 fun x11 =>
arithK .add v8 (.s (.int .i64 1)) fun x12 =>
xn x11 v6 v7 x12 h8) (
x0 v3 h)
def f_law44_sum_L2 (P : Program) (T : Tab) (D : DTab) (N : Nat) {β : Type} (x0 : AV → Hp → Option β) : Nat → AV → AV → AV → AV → Hp → Option β
  | 0 => fun _ _ _ _ _ => none
  | n + 1 => fun v3 v6 v7 v8 h => f_law44_sum_b2 P T D N (f_law44_sum_L2 P T D N x0 n) x0 v3 v6 v7 v8 h
def f_law44_sum (P : Program) (T : Tab) (D : DTab) (N : Nat) {β : Type} (K : AV → Hp → Option β) (a0 : AV) (h : Hp) : Option β :=
lenK a0 fun x1 =>
f_law44_sum_L2 P T D N (fun w13_3 h => f_law44_sum_j1 P T D N K w13_3 h) N (.s (.int .i64 0)) a0 x1 (.s (.int .i64 0)) h
theorem f_law44_sum_b2_eq (P : Program) (T : Tab) (D : DTab) (N : Nat) {β : Type} (xn : AV → AV → AV → AV → Hp → Option β) (x0 : AV → Hp → Option β) (xd : Nat → St → Option β) (xq : St → Option β) (t : Tm) (h : Hp) : o_law44_sum_L2 P T D N t h (fun (e : Ex) (s : St) => e.on (xn (s.1 3) (s.1 6) (s.1 7) (s.1 8) s.2) (fun i => (bif i == 0 then x0 (s.1 3) s.2 else (xd i s))) (xq s)) = f_law44_sum_b2 P T D N xn x0 (t 3) (t 6) (t 7) (t 8) h := by kernel_rfl
theorem f_law44_sum_L2_eq (P : Program) (T : Tab) (D : DTab) (N : Nat) {β : Type} (A : Ex → St → Option β) (x0 : AV → Hp → Option β) (q0 : ∀ s, A (.exit 0) s = x0 (s.1 3) s.2) : ∀ (n : Nat) (s : St), iterK (fun s k => o_law44_sum_L2 P T D N s.1 s.2 k) n s A = f_law44_sum_L2 P T D N x0 n (s.1 3) (s.1 6) (s.1 7) (s.1 8) s.2 := by
  intro n
  induction n with
  | zero => intro s; rfl
  | succ n ih =>
    intro s
    have hk : (fun (e : Ex) (s' : St) => Ex.on e (iterK (fun s k => o_law44_sum_L2 P T D N s.1 s.2 k) n s' A) (fun i => A (.exit i) s') (A .ret s')) = (fun (e : Ex) (s : St) => e.on ((f_law44_sum_L2 P T D N x0 n) (s.1 3) (s.1 6) (s.1 7) (s.1 8) s.2) (fun i => (bif i == 0 then x0 (s.1 3) s.2 else (A (.exit i) s))) (A .ret s)) := by
      funext e s'
      cases e with
      | normal => exact ih s'
      | ret => exact rfl
      | exit i =>
        by_cases r0 : i = 0
        · subst r0; exact q0 s'
        simp only [Ex.on, beq_false_of_ne r0, cond_false]
    show o_law44_sum_L2 P T D N s.1 s.2 (fun (e : Ex) (s' : St) => Ex.on e (iterK (fun s k => o_law44_sum_L2 P T D N s.1 s.2 k) n s' A) (fun i => A (.exit i) s') (A .ret s')) = _
    rw [hk]
    exact f_law44_sum_b2_eq P T D N (f_law44_sum_L2 P T D N x0 n) x0 (fun i s => A (.exit i) s) (fun s => A .ret s) s.1 s.2
theorem f_law44_sum_old_eq (P : Program) (T : Tab) (D : DTab) (N : Nat) {β : Type} (K : AV → Hp → Option β) (a0 : AV) (h : Hp) : o_law44_sum P T D N K a0 h = f_law44_sum P T D N K a0 h := by
  have eL2 : (fun s : St => iterK (fun s k => o_law44_sum_L2 P T D N s.1 s.2 k) N s (o_law44_sum_aL2 P T D N K)) = (fun s : St => f_law44_sum_L2 P T D N (fun w13_3 h => f_law44_sum_j1 P T D N K w13_3 h) N (s.1 3) (s.1 6) (s.1 7) (s.1 8) s.2) := funext fun s => f_law44_sum_L2_eq P T D N (o_law44_sum_aL2 P T D N K) (fun w13_3 h => f_law44_sum_j1 P T D N K w13_3 h) (fun s => rfl) N s
  show o_law44_sum_G P T D N (fun s => iterK (fun s k => o_law44_sum_L2 P T D N s.1 s.2 k) N s (o_law44_sum_aL2 P T D N K)) K a0 h = _
  rw [eL2]
  kernel_rfl
theorem o_law44_sum_run (T : Tab) (D : DTab) (N : Nat) {β : Type} (K : AV → Hp → Option β) (a0 : AV) (h : Hp) : runK Try.prog T D N [0, 2, 3, 5, 6, 7, 8, 9] Try.f29 K [a0] h = o_law44_sum Try.prog T D N K a0 h := by kernel_rfl
theorem f_law44_sum_run (T : Tab) (D : DTab) (N : Nat) {β : Type} (K : AV → Hp → Option β) (a0 : AV) (h : Hp) : runK Try.prog T D N [0, 2, 3, 5, 6, 7, 8, 9] Try.f29 K [a0] h = f_law44_sum Try.prog T D N K a0 h := (o_law44_sum_run T D N K a0 h).trans (f_law44_sum_old_eq Try.prog T D N K a0 h)
def f_law44_example (P : Program) (T : Tab) (D : DTab) (N : Nat) {β : Type} (K : AV → Hp → Option β) (h : Hp) : Option β :=
buildK [.s (.int .i64 0), .s (.int .i64 0), .s (.int .i64 0)] [(some (0, 1), (.s (.int .i64 1))), (some (1, 1), (.s (.int .i64 1))), (some (2, 1), (.s (.int .i64 1000)))] fun x1 =>
buildK [.s (.int .i64 0), .s (.int .i64 0), .s (.int .i64 0)] [(some (0, 1), (.s (.int .i64 2))), (some (1, 1), (.s (.int .i64 2))), (some (2, 1), (.s (.int .i64 500)))] fun x2 =>
effK (bsE 3 [.s (.int .i64 0), .s (.int .i64 0), .s (.int .i64 0)] 2 [(0, x1), (1, x2)] (List.length h)) h fun x3 h4 =>
buildK [.s (.int .i64 0), .s (.int .i64 0), .s (.int .i64 0)] [(some (0, 1), (.s (.int .i64 1))), (some (1, 1), (.s (.int .i64 1))), (some (2, 1), (.s (.int .i64 960)))] fun x5 =>
buildK [.s (.int .i64 0), .s (.int .i64 0), .s (.int .i64 0)] [(some (0, 1), (.s (.int .i64 3))), (some (1, 1), (.s (.int .i64 2))), (some (2, 1), (.s (.int .i64 7)))] fun x6 =>
effK (bsE 3 [.s (.int .i64 0), .s (.int .i64 0), .s (.int .i64 0)] 2 [(0, x5), (1, x6)] (List.length h4)) h4 fun x7 h8 =>
effK (bsE 1 [.s (.int .i64 0)] 9 [(0, (.s (.int .i64 300))), (1, (.s (.int .i64 0))), (2, (.s (.int .i64 0))), (3, (.s (.int .i64 0))), (4, (.s (.int .i64 0))), (5, (.s (.int .i64 0))), (6, (.s (.int .i64 0))), (7, (.s (.int .i64 0))), (8, (.s (.int .i64 0)))] (List.length h8)) h8 fun x9 h10 =>
K (.tup [x3, x7, x9]) h10
theorem f_law44_example_run (T : Tab) (D : DTab) (N : Nat) {β : Type} (K : AV → Hp → Option β) (h : Hp) : runK Try.prog T D N [0, 1, 2] Try.f37 K [] h = f_law44_example Try.prog T D N K  h := by kernel_rfl
noncomputable def lpp_receipt_Compare_0 : Array Tmp := (rangeOf Try.f38 0).1
noncomputable def lpa_receipt_Compare_0 : Code := (rangeOf Try.f38 0).2.1
noncomputable def lpb_receipt_Compare_0 : Code := (rangeOf Try.f38 0).2.2
noncomputable def lpm_receipt_Compare_0 : Nat := needR lpa_receipt_Compare_0 lpb_receipt_Compare_0
noncomputable def f_receipt_Compare_j1 (P : Program) (T : Tab) (D : DTab) (N : Nat) {β : Type} (K : AV → Hp → Option β) (v6 : AV) (v7 : AV) (v8 : AV) (h : Hp) : Option β :=
ldK 1 false v8 h fun x44 =>
lenK x44 fun x45 =>
arithK .gtr x45 (.s (.int .i64 64)) fun x46 =>
condK x46 (
effK (stE 1 v6 (.s (.slice none 0 0)) h) h fun x47 h48 =>
effK (stE 1 v7 (.s (.int .i64 8)) h48) h48 fun x49 h50 =>
ldK 1 false v6 h50 fun r51 =>
ldK 1 false v7 h50 fun r52 =>
K (.tup [r51, r52]) h50) (
ldK 1 false v8 h fun x53 =>
effK (stE 1 v6 x53 h) h fun x54 h55 =>
effK (stE 1 v7 (.s (.int .i64 0)) h55) h55 fun x56 h57 =>
ldK 1 false v6 h57 fun r58 =>
ldK 1 false v7 h57 fun r59 =>
K (.tup [r58, r59]) h57)
noncomputable def f_receipt_Compare_R0 (P : Program) (T : Tab) (D : DTab) (N : Nat) {β : Type} (L : Nat) (ts : Tm) (xn : Hp → Option β) (xr : Hp → Option β) (v5 : AV) (v6 : AV) (v7 : AV) (v8 : AV) (v36 : AV) (v37 : AV) (h : Hp) : Option β :=
effK (boxE 3 (.agg [.s (.int .i64 0), .s (.int .i64 0), .s (.int .i64 0)]) (List.length h)) h fun x60 h61 =>
effK (stE 3 x60 v36 h61) h61 fun x62 h63 =>
effK (boxE 3 (.agg [.s (.int .i64 0), .s (.int .i64 0), .s (.int .i64 0)]) (List.length h63)) h63 fun x64 h65 =>
effK (stE 3 x64 v37 h65) h65 fun x66 h67 =>
beginX L (lpm_receipt_Compare_0) (lpp_receipt_Compare_0) (lpa_receipt_Compare_0) (lpb_receipt_Compare_0) ts h67 fun h68 =>
faK 0 x60 fun x69 =>
ldK 1 false x69 h68 fun x70 =>
arithK .gtr x70 (.s (.int .i64 0)) fun x71 =>
grpK true x71 h68 (fun k72 =>
faK 0 x64 fun x73 =>
ldK 1 false x73 h68 fun x74 =>
arithK .gtr x74 (.s (.int .i64 0)) fun x75 =>
k72 x75 h68) fun x76 h77 =>
grpK true x76 h77 (fun k78 =>
faK 1 x60 fun x79 =>
ldK 1 false x79 h77 fun x80 =>
faK 1 x64 fun x81 =>
ldK 1 false x81 h77 fun x82 =>
eqK P true 3 x80 x82 h77 fun x83 =>
k78 x83 h77) fun x84 h85 =>
condK x84 (
effK (stE 1 v6 (.s (.slice none 0 0)) h85) h85 fun x86 h87 =>
effK (stE 1 v7 (.s (.int .i64 18)) h87) h87 fun x88 h89 =>
xr h89) (
faK 1 x60 fun x90 =>
ldK 1 false x90 h85 fun x91 =>
faK 1 x64 fun x92 =>
ldK 1 false x92 h85 fun x93 =>
maxK x91 x93 fun x94 =>
faK 2 x60 fun x95 =>
ldK 1 false x95 h85 fun x96 =>
ldK 1 false v5 h85 fun x97 =>
arithK .sub x94 (.s (.int .i64 1)) fun x98 =>
iaK 1 x97 x98 fun x99 =>
ldK 1 false x99 h85 fun x100 =>
callK (T 63) [x96, x100, (.s (.int .i64 10000))] h85 fun x101 h102 =>
exK x101 0 fun x103 =>
exK x101 1 fun x104 =>
exK x101 2 fun x105 =>
faK 2 x60 fun x106 =>
ldK 1 false x106 h102 fun x107 =>
faK 2 x64 fun x108 =>
ldK 1 false x108 h102 fun x109 =>
callK (T 64) [x107, x109, x103, (.s (.int .i64 0))] h102 fun x110 h111 =>
exK x110 0 fun x112 =>
exK x110 1 fun x113 =>
effK (boxE 4 (.agg [.s (.int .i64 0), .s (.int .i64 0), .s (.int .i64 0), .s (.int .i64 0)]) (List.length h111)) h111 fun x114 h115 =>
effK (stE 4 x114 x112 h115) h115 fun x116 h117 =>
ldK 1 false v8 h117 fun x118 =>
faK 0 x60 fun x119 =>
ldK 1 false x119 h117 fun x120 =>
faK 0 x64 fun x121 =>
ldK 1 false x121 h117 fun x122 =>
maxK x120 x122 fun x123 =>
faK 2 x60 fun x124 =>
ldK 1 false x124 h117 fun x125 =>
faK 2 x64 fun x126 =>
ldK 1 false x126 h117 fun x127 =>
ldK 4 true x114 h117 fun x128 =>
buildK [.s (.int .i64 0), .s (.int .i64 0), .s (.int .i64 0), .s (.int .i64 0), .s (.int .i64 0), .s (.int .i64 0), .s (.int .i64 0), .s (.int .i64 0)] [(some (0, 1), x123), (some (1, 1), x94), (some (2, 1), x125), (some (3, 1), x127), (some (4, 4), x128)] fun x129 =>
effK (bsE 8 [.s (.int .i64 0), .s (.int .i64 0), .s (.int .i64 0), .s (.int .i64 0), .s (.int .i64 0), .s (.int .i64 0), .s (.int .i64 0), .s (.int .i64 0)] 1 [(0, x129)] (List.length h117)) h117 fun x130 h131 =>
effK (appE 8 64 x118 x130 h131 (List.length h131)) h131 fun x132 h133 =>
effK (stE 1 v8 x132 h133) h133 fun x134 h135 =>
xn h135)
theorem f_receipt_Compare_R0_run (T : Tab) (D : DTab) (N L : Nat) (v5 : AV) (v6 : AV) (v7 : AV) (v8 : AV) (v36 : AV) (v37 : AV) (h : Hp) : roundF Try.prog T D N [0, 1, 2, 5, 6, 7, 8, 9, 10, 11, 12, 15, 17, 26, 30, 35, 36, 37, 52, 96] 3 L (lpm_receipt_Compare_0) (lpp_receipt_Compare_0) (lpa_receipt_Compare_0) (lpb_receipt_Compare_0) (envT [(5, v5), (6, v6), (7, v7), (8, v8)]) [v36, v37] h = f_receipt_Compare_R0 Try.prog T D N L (envT [(5, v5), (6, v6), (7, v7), (8, v8)]) (fun h => some (.s (.bool true), h.set L (.loop (lpm_receipt_Compare_0) (lpp_receipt_Compare_0) (lpa_receipt_Compare_0) (lpb_receipt_Compare_0) (envT [(5, v5), (6, v6), (7, v7), (8, v8)]) .ready none))) (fun h => some (.s (.bool false), h.set L (.loop (lpm_receipt_Compare_0) (lpp_receipt_Compare_0) (lpa_receipt_Compare_0) (lpb_receipt_Compare_0) (envT [(5, v5), (6, v6), (7, v7), (8, v8)]) .done (some .ret)))) v5 v6 v7 v8 v36 v37 h := by kernel_rfl
noncomputable def f_receipt_Compare (P : Program) (T : Tab) (D : DTab) (N : Nat) {β : Type} (K : AV → Hp → Option β) (a0 : AV) (a1 : AV) (a2 : AV) (h : Hp) : Option β :=
effK (boxE 1 a2 (List.length h)) h fun x1 h2 =>
effK (boxE 1 (.s (.slice none 0 0)) (List.length h2)) h2 fun x3 h4 =>
effK (boxE 1 (.s (.int .i64 0)) (List.length h4)) h4 fun x5 h6 =>
callK (T 60) [a0] h6 fun x7 h8 =>
notK x7 fun x9 =>
grpK false x9 h8 (fun k10 =>
callK (T 60) [a1] h8 fun x11 h12 =>
notK x11 fun x13 =>
k10 x13 h12) fun x14 h15 =>
condK x14 (
effK (stE 1 x3 (.s (.slice none 0 0)) h15) h15 fun x16 h17 =>
effK (stE 1 x5 (.s (.int .i64 1)) h17) h17 fun x18 h19 =>
ldK 1 false x3 h19 fun r20 =>
ldK 1 false x5 h19 fun r21 =>
K (.tup [r20, r21]) h19) (
ldK 1 false x1 h15 fun x22 =>
lenK x22 fun x23 =>
eqK P true 3 x23 (.s (.int .i64 9)) h15 fun x24 =>
condK x24 (
effK (stE 1 x3 (.s (.slice none 0 0)) h15) h15 fun x25 h26 =>
effK (stE 1 x5 (.s (.int .i64 10)) h26) h26 fun x27 h28 =>
ldK 1 false x3 h28 fun r29 =>
ldK 1 false x5 h28 fun r30 =>
K (.tup [r29, r30]) h28) (
ldK 1 false x1 h15 fun x31 =>
callK (T 55) [x31, (.fn 61 [])] h15 fun x32 h33 =>
condK x32 (
effK (stE 1 x3 (.s (.slice none 0 0)) h33) h33 fun x34 h35 =>
effK (stE 1 x5 (.s (.int .i64 2)) h35) h35 fun x36 h37 =>
ldK 1 false x3 h37 fun r38 =>
ldK 1 false x5 h37 fun r39 =>
K (.tup [r38, r39]) h37) (
effK (boxE 1 (.s (.slice none 0 0)) (List.length h33)) h33 fun x40 h41 =>
callK (T 62) [a0, a1] h41 fun x42 h43 =>
rangeX T x42 (lpm_receipt_Compare_0) (lpp_receipt_Compare_0) (lpa_receipt_Compare_0) (lpb_receipt_Compare_0) (envT [(5, x1), (6, x3), (7, x5), (8, x40)]) h43 fun pd h136 =>
jumpC pd (
f_receipt_Compare_j1 P T D N K x3 x5 x40 h136) (fun i137 => bif i137 == 1 then (f_receipt_Compare_j1 P T D N K x3 x5 x40 h136) else (none)) (
ldK 1 false x3 h136 fun r138 =>
ldK 1 false x5 h136 fun r139 =>
K (.tup [r138, r139]) h136))))
theorem f_receipt_Compare_run (T : Tab) (D : DTab) (N : Nat) {β : Type} (K : AV → Hp → Option β) (a0 : AV) (a1 : AV) (a2 : AV) (h : Hp) : runK Try.prog T D N [0, 1, 2, 5, 6, 7, 8, 9, 10, 11, 12, 15, 17, 26, 30, 35, 36, 37, 52, 96] Try.f38 K [a0, a1, a2] h = f_receipt_Compare Try.prog T D N K a0 a1 a2 h := by kernel_rfl
def o_slices_Equal_Line_j1 (P : Program) (T : Tab) (D : DTab) (N : Nat) {β : Type} (K : AV → Hp → Option β) (t : Tm) (h : Hp) : Option β :=
K (.s (.bool true)) h
def o_slices_Equal_Line_L2 (P : Program) (T : Tab) (D : DTab) (N : Nat) {β : Type} (t : Tm) (h : Hp) (k : Ex → St → Option β) : Option β :=
arithK .lss (t 13) (t 12) fun x5 =>
condK x5 (
iaK 8 (t 0) (t 13) fun x6 =>
ldK 8 true x6 h fun x7 =>
iaK 8 (t 1) (t 13) fun x8 =>
ldK 8 true x8 h fun x9 =>
eqK P true 46 x7 x9 h fun x10 =>
condK x10 (
k .ret ((upd (upd (upd (upd t 14 x5) 5 (t 13)) 24 x10) 4 (.s (.bool false))), h)) (
arithK .add (t 13) (.s (.int .i64 1)) fun x11 =>
k .normal ((upd (upd (upd (upd t 14 x5) 5 (t 13)) 24 x10) 13 x11), h))) (
k (.exit 0) ((upd t 14 x5), h))
def o_slices_Equal_Line_aL2 (P : Program) (T : Tab) (D : DTab) (N : Nat) {β : Type} (K : AV → Hp → Option β) (e : Ex) (s : St) : Option β :=
  e.on ((o_slices_Equal_Line_j1 P T D N K s.1 s.2))
  (fun i => bif i == 0 then ((o_slices_Equal_Line_j1 P T D N K s.1 s.2)) else (none))
  (K (s.1 4) s.2)
def o_slices_Equal_Line_G (P : Program) (T : Tab) (D : DTab) (N : Nat) {β : Type} (cL2 : St → Option β) (K : AV → Hp → Option β) (a0 : AV) (a1 : AV) (h : Hp) :  Option β :=
lenK a0 fun x1 =>
lenK a1 fun x2 =>
eqK P true 3 x1 x2 h fun x3 =>
condK x3 (
K (.s (.bool false)) h) (
lenK a0 fun x4 =>
cL2 ((upd (upd (upd (upd (tm0 [a0, a1]) 4 (.s (.bool false))) 10 x3) 12 x4) 13 (.s (.int .i64 0))), h))
def o_slices_Equal_Line (P : Program) (T : Tab) (D : DTab) (N : Nat) {β : Type} (K : AV → Hp → Option β) (a0 : AV) (a1 : AV) (h : Hp) : Option β := o_slices_Equal_Line_G P T D N (fun s => iterK (fun s k => o_slices_Equal_Line_L2 P T D N s.1 s.2 k) N s (o_slices_Equal_Line_aL2 P T D N K)) K a0 a1 h
def f_slices_Equal_Line_j1 (P : Program) (T : Tab) (D : DTab) (N : Nat) {β : Type} (K : AV → Hp → Option β) (h : Hp) : Option β :=
K (.s (.bool true)) h
def f_slices_Equal_Line_b2 (P : Program) (T : Tab) (D : DTab) (N : Nat) {β : Type} (xn : AV → AV → AV → AV → Hp → Option β) (x0 : Hp → Option β) (xr : AV → Hp → Option β) (v0 : AV) (v1 : AV) (v12 : AV) (v13 : AV) (h : Hp) : Option β :=
arithK .lss v13 v12 fun x5 =>
condK x5 (
iaK 8 v0 v13 fun x6 =>
ldK 8 true x6 h fun x7 =>
iaK 8 v1 v13 fun x8 =>
ldK 8 true x8 h fun x9 =>
eqK P true 46 x7 x9 h fun x10 =>
condK x10 (
xr (.s (.bool false)) h) (
arithK .add v13 (.s (.int .i64 1)) fun x11 =>
xn v0 v1 v12 x11 h)) (
x0 h)
def f_slices_Equal_Line_L2 (P : Program) (T : Tab) (D : DTab) (N : Nat) {β : Type} (x0 : Hp → Option β) (xr : AV → Hp → Option β) : Nat → AV → AV → AV → AV → Hp → Option β
  | 0 => fun _ _ _ _ _ => none
  | n + 1 => fun v0 v1 v12 v13 h => f_slices_Equal_Line_b2 P T D N (f_slices_Equal_Line_L2 P T D N x0 xr n) x0 xr v0 v1 v12 v13 h
def f_slices_Equal_Line (P : Program) (T : Tab) (D : DTab) (N : Nat) {β : Type} (K : AV → Hp → Option β) (a0 : AV) (a1 : AV) (h : Hp) : Option β :=
lenK a0 fun x1 =>
lenK a1 fun x2 =>
eqK P true 3 x1 x2 h fun x3 =>
condK x3 (
K (.s (.bool false)) h) (
lenK a0 fun x4 =>
f_slices_Equal_Line_L2 P T D N (fun h => f_slices_Equal_Line_j1 P T D N K h) (fun w13_4 h => K w13_4 h) N a0 a1 x4 (.s (.int .i64 0)) h)
theorem f_slices_Equal_Line_b2_eq (P : Program) (T : Tab) (D : DTab) (N : Nat) {β : Type} (xn : AV → AV → AV → AV → Hp → Option β) (x0 : Hp → Option β) (xr : AV → Hp → Option β) (xd : Nat → St → Option β) (xq : St → Option β) (t : Tm) (h : Hp) : o_slices_Equal_Line_L2 P T D N t h (fun (e : Ex) (s : St) => e.on (xn (s.1 0) (s.1 1) (s.1 12) (s.1 13) s.2) (fun i => (bif i == 0 then x0 s.2 else (xd i s))) (xr (s.1 4) s.2)) = f_slices_Equal_Line_b2 P T D N xn x0 xr (t 0) (t 1) (t 12) (t 13) h := by kernel_rfl
theorem f_slices_Equal_Line_L2_eq (P : Program) (T : Tab) (D : DTab) (N : Nat) {β : Type} (A : Ex → St → Option β) (x0 : Hp → Option β) (xr : AV → Hp → Option β) (q0 : ∀ s, A (.exit 0) s = x0 s.2) (qr : ∀ s, A .ret s = xr (s.1 4) s.2) : ∀ (n : Nat) (s : St), iterK (fun s k => o_slices_Equal_Line_L2 P T D N s.1 s.2 k) n s A = f_slices_Equal_Line_L2 P T D N x0 xr n (s.1 0) (s.1 1) (s.1 12) (s.1 13) s.2 := by
  intro n
  induction n with
  | zero => intro s; rfl
  | succ n ih =>
    intro s
    have hk : (fun (e : Ex) (s' : St) => Ex.on e (iterK (fun s k => o_slices_Equal_Line_L2 P T D N s.1 s.2 k) n s' A) (fun i => A (.exit i) s') (A .ret s')) = (fun (e : Ex) (s : St) => e.on ((f_slices_Equal_Line_L2 P T D N x0 xr n) (s.1 0) (s.1 1) (s.1 12) (s.1 13) s.2) (fun i => (bif i == 0 then x0 s.2 else (A (.exit i) s))) (xr (s.1 4) s.2)) := by
      funext e s'
      cases e with
      | normal => exact ih s'
      | ret => exact qr s'
      | exit i =>
        by_cases r0 : i = 0
        · subst r0; exact q0 s'
        simp only [Ex.on, beq_false_of_ne r0, cond_false]
    show o_slices_Equal_Line_L2 P T D N s.1 s.2 (fun (e : Ex) (s' : St) => Ex.on e (iterK (fun s k => o_slices_Equal_Line_L2 P T D N s.1 s.2 k) n s' A) (fun i => A (.exit i) s') (A .ret s')) = _
    rw [hk]
    exact f_slices_Equal_Line_b2_eq P T D N (f_slices_Equal_Line_L2 P T D N x0 xr n) x0 xr (fun i s => A (.exit i) s) (fun s => A .ret s) s.1 s.2
theorem f_slices_Equal_Line_old_eq (P : Program) (T : Tab) (D : DTab) (N : Nat) {β : Type} (K : AV → Hp → Option β) (a0 : AV) (a1 : AV) (h : Hp) : o_slices_Equal_Line P T D N K a0 a1 h = f_slices_Equal_Line P T D N K a0 a1 h := by
  have eL2 : (fun s : St => iterK (fun s k => o_slices_Equal_Line_L2 P T D N s.1 s.2 k) N s (o_slices_Equal_Line_aL2 P T D N K)) = (fun s : St => f_slices_Equal_Line_L2 P T D N (fun h => f_slices_Equal_Line_j1 P T D N K h) (fun w13_4 h => K w13_4 h) N (s.1 0) (s.1 1) (s.1 12) (s.1 13) s.2) := funext fun s => f_slices_Equal_Line_L2_eq P T D N (o_slices_Equal_Line_aL2 P T D N K) (fun h => f_slices_Equal_Line_j1 P T D N K h) (fun w13_4 h => K w13_4 h) (fun s => rfl) (fun s => rfl) N s
  show o_slices_Equal_Line_G P T D N (fun s => iterK (fun s k => o_slices_Equal_Line_L2 P T D N s.1 s.2 k) N s (o_slices_Equal_Line_aL2 P T D N K)) K a0 a1 h = _
  rw [eL2]
  kernel_rfl
theorem o_slices_Equal_Line_run (T : Tab) (D : DTab) (N : Nat) {β : Type} (K : AV → Hp → Option β) (a0 : AV) (a1 : AV) (h : Hp) : runK Try.prog T D N [0, 1, 4, 5, 10, 12, 13, 14, 24] Try.f39 K [a0, a1] h = o_slices_Equal_Line Try.prog T D N K a0 a1 h := by kernel_rfl
theorem f_slices_Equal_Line_run (T : Tab) (D : DTab) (N : Nat) {β : Type} (K : AV → Hp → Option β) (a0 : AV) (a1 : AV) (h : Hp) : runK Try.prog T D N [0, 1, 4, 5, 10, 12, 13, 14, 24] Try.f39 K [a0, a1] h = f_slices_Equal_Line Try.prog T D N K a0 a1 h := (o_slices_Equal_Line_run T D N K a0 a1 h).trans (f_slices_Equal_Line_old_eq Try.prog T D N K a0 a1 h)
def f_receipt_in (P : Program) (T : Tab) (D : DTab) (N : Nat) {β : Type} (K : AV → Hp → Option β) (a0 : AV) (a1 : AV) (a2 : AV) (h : Hp) : Option β :=
arithK .geq a0 a1 fun x1 =>
grpK true x1 h (fun k2 =>
arithK .leq a0 a2 fun x3 =>
k2 x3 h) fun x4 h5 =>
K x4 h5
theorem f_receipt_in_run (T : Tab) (D : DTab) (N : Nat) {β : Type} (K : AV → Hp → Option β) (a0 : AV) (a1 : AV) (a2 : AV) (h : Hp) : runK Try.prog T D N [0, 1, 2, 6] Try.f41 K [a0, a1, a2] h = f_receipt_in Try.prog T D N K a0 a1 a2 h := by kernel_rfl
def o_slices_IndexFunc_Line_j1 (P : Program) (T : Tab) (D : DTab) (N : Nat) {β : Type} (K : AV → Hp → Option β) (t : Tm) (h : Hp) : Option β :=
K (.s (.int .i64 (-1))) h
def o_slices_IndexFunc_Line_L2 (P : Program) (T : Tab) (D : DTab) (N : Nat) {β : Type} (t : Tm) (h : Hp) (k : Ex → St → Option β) : Option β :=
arithK .lss (t 8) (t 7) fun x2 =>
condK x2 (
iaK 8 (t 0) (t 8) fun x3 =>
ldK 8 true x3 h fun x4 =>
callVK T (t 1) [x4] h fun x5 h6 =>
condK x5 (
k .ret ((upd (upd (upd (upd t 9 x2) 5 (t 8)) 16 x5) 4 (t 8)), h6)) (
arithK .add (t 8) (.s (.int .i64 1)) fun x7 =>
k .normal ((upd (upd (upd (upd t 9 x2) 5 (t 8)) 16 x5) 8 x7), h6))) (
k (.exit 0) ((upd t 9 x2), h))
def o_slices_IndexFunc_Line_aL2 (P : Program) (T : Tab) (D : DTab) (N : Nat) {β : Type} (K : AV → Hp → Option β) (e : Ex) (s : St) : Option β :=
  e.on ((o_slices_IndexFunc_Line_j1 P T D N K s.1 s.2))
  (fun i => bif i == 0 then ((o_slices_IndexFunc_Line_j1 P T D N K s.1 s.2)) else (none))
  (K (s.1 4) s.2)
def o_slices_IndexFunc_Line_G (P : Program) (T : Tab) (D : DTab) (N : Nat) {β : Type} (cL2 : St → Option β) (K : AV → Hp → Option β) (a0 : AV) (a1 : AV) (h : Hp) :  Option β :=
lenK a0 fun x1 =>
cL2 ((upd (upd (upd (tm0 [a0, a1]) 4 (.s (.int .i64 0))) 7 x1) 8 (.s (.int .i64 0))), h)
def o_slices_IndexFunc_Line (P : Program) (T : Tab) (D : DTab) (N : Nat) {β : Type} (K : AV → Hp → Option β) (a0 : AV) (a1 : AV) (h : Hp) : Option β := o_slices_IndexFunc_Line_G P T D N (fun s => iterK (fun s k => o_slices_IndexFunc_Line_L2 P T D N s.1 s.2 k) N s (o_slices_IndexFunc_Line_aL2 P T D N K)) K a0 a1 h
def f_slices_IndexFunc_Line_j1 (P : Program) (T : Tab) (D : DTab) (N : Nat) {β : Type} (K : AV → Hp → Option β) (h : Hp) : Option β :=
K (.s (.int .i64 (-1))) h
def f_slices_IndexFunc_Line_b2 (P : Program) (T : Tab) (D : DTab) (N : Nat) {β : Type} (xn : AV → AV → AV → AV → Hp → Option β) (x0 : Hp → Option β) (xr : AV → Hp → Option β) (v0 : AV) (v1 : AV) (v7 : AV) (v8 : AV) (h : Hp) : Option β :=
arithK .lss v8 v7 fun x2 =>
condK x2 (
iaK 8 v0 v8 fun x3 =>
ldK 8 true x3 h fun x4 =>
callVK T v1 [x4] h fun x5 h6 =>
condK x5 (
xr v8 h6) (
arithK .add v8 (.s (.int .i64 1)) fun x7 =>
xn v0 v1 v7 x7 h6)) (
x0 h)
def f_slices_IndexFunc_Line_L2 (P : Program) (T : Tab) (D : DTab) (N : Nat) {β : Type} (x0 : Hp → Option β) (xr : AV → Hp → Option β) : Nat → AV → AV → AV → AV → Hp → Option β
  | 0 => fun _ _ _ _ _ => none
  | n + 1 => fun v0 v1 v7 v8 h => f_slices_IndexFunc_Line_b2 P T D N (f_slices_IndexFunc_Line_L2 P T D N x0 xr n) x0 xr v0 v1 v7 v8 h
def f_slices_IndexFunc_Line (P : Program) (T : Tab) (D : DTab) (N : Nat) {β : Type} (K : AV → Hp → Option β) (a0 : AV) (a1 : AV) (h : Hp) : Option β :=
lenK a0 fun x1 =>
f_slices_IndexFunc_Line_L2 P T D N (fun h => f_slices_IndexFunc_Line_j1 P T D N K h) (fun w9_4 h => K w9_4 h) N a0 a1 x1 (.s (.int .i64 0)) h
theorem f_slices_IndexFunc_Line_b2_eq (P : Program) (T : Tab) (D : DTab) (N : Nat) {β : Type} (xn : AV → AV → AV → AV → Hp → Option β) (x0 : Hp → Option β) (xr : AV → Hp → Option β) (xd : Nat → St → Option β) (xq : St → Option β) (t : Tm) (h : Hp) : o_slices_IndexFunc_Line_L2 P T D N t h (fun (e : Ex) (s : St) => e.on (xn (s.1 0) (s.1 1) (s.1 7) (s.1 8) s.2) (fun i => (bif i == 0 then x0 s.2 else (xd i s))) (xr (s.1 4) s.2)) = f_slices_IndexFunc_Line_b2 P T D N xn x0 xr (t 0) (t 1) (t 7) (t 8) h := by kernel_rfl
theorem f_slices_IndexFunc_Line_L2_eq (P : Program) (T : Tab) (D : DTab) (N : Nat) {β : Type} (A : Ex → St → Option β) (x0 : Hp → Option β) (xr : AV → Hp → Option β) (q0 : ∀ s, A (.exit 0) s = x0 s.2) (qr : ∀ s, A .ret s = xr (s.1 4) s.2) : ∀ (n : Nat) (s : St), iterK (fun s k => o_slices_IndexFunc_Line_L2 P T D N s.1 s.2 k) n s A = f_slices_IndexFunc_Line_L2 P T D N x0 xr n (s.1 0) (s.1 1) (s.1 7) (s.1 8) s.2 := by
  intro n
  induction n with
  | zero => intro s; rfl
  | succ n ih =>
    intro s
    have hk : (fun (e : Ex) (s' : St) => Ex.on e (iterK (fun s k => o_slices_IndexFunc_Line_L2 P T D N s.1 s.2 k) n s' A) (fun i => A (.exit i) s') (A .ret s')) = (fun (e : Ex) (s : St) => e.on ((f_slices_IndexFunc_Line_L2 P T D N x0 xr n) (s.1 0) (s.1 1) (s.1 7) (s.1 8) s.2) (fun i => (bif i == 0 then x0 s.2 else (A (.exit i) s))) (xr (s.1 4) s.2)) := by
      funext e s'
      cases e with
      | normal => exact ih s'
      | ret => exact qr s'
      | exit i =>
        by_cases r0 : i = 0
        · subst r0; exact q0 s'
        simp only [Ex.on, beq_false_of_ne r0, cond_false]
    show o_slices_IndexFunc_Line_L2 P T D N s.1 s.2 (fun (e : Ex) (s' : St) => Ex.on e (iterK (fun s k => o_slices_IndexFunc_Line_L2 P T D N s.1 s.2 k) n s' A) (fun i => A (.exit i) s') (A .ret s')) = _
    rw [hk]
    exact f_slices_IndexFunc_Line_b2_eq P T D N (f_slices_IndexFunc_Line_L2 P T D N x0 xr n) x0 xr (fun i s => A (.exit i) s) (fun s => A .ret s) s.1 s.2
theorem f_slices_IndexFunc_Line_old_eq (P : Program) (T : Tab) (D : DTab) (N : Nat) {β : Type} (K : AV → Hp → Option β) (a0 : AV) (a1 : AV) (h : Hp) : o_slices_IndexFunc_Line P T D N K a0 a1 h = f_slices_IndexFunc_Line P T D N K a0 a1 h := by
  have eL2 : (fun s : St => iterK (fun s k => o_slices_IndexFunc_Line_L2 P T D N s.1 s.2 k) N s (o_slices_IndexFunc_Line_aL2 P T D N K)) = (fun s : St => f_slices_IndexFunc_Line_L2 P T D N (fun h => f_slices_IndexFunc_Line_j1 P T D N K h) (fun w9_4 h => K w9_4 h) N (s.1 0) (s.1 1) (s.1 7) (s.1 8) s.2) := funext fun s => f_slices_IndexFunc_Line_L2_eq P T D N (o_slices_IndexFunc_Line_aL2 P T D N K) (fun h => f_slices_IndexFunc_Line_j1 P T D N K h) (fun w9_4 h => K w9_4 h) (fun s => rfl) (fun s => rfl) N s
  show o_slices_IndexFunc_Line_G P T D N (fun s => iterK (fun s k => o_slices_IndexFunc_Line_L2 P T D N s.1 s.2 k) N s (o_slices_IndexFunc_Line_aL2 P T D N K)) K a0 a1 h = _
  rw [eL2]
  kernel_rfl
theorem o_slices_IndexFunc_Line_run (T : Tab) (D : DTab) (N : Nat) {β : Type} (K : AV → Hp → Option β) (a0 : AV) (a1 : AV) (h : Hp) : runK Try.prog T D N [0, 1, 4, 5, 7, 8, 9, 16] Try.f46 K [a0, a1] h = o_slices_IndexFunc_Line Try.prog T D N K a0 a1 h := by kernel_rfl
theorem f_slices_IndexFunc_Line_run (T : Tab) (D : DTab) (N : Nat) {β : Type} (K : AV → Hp → Option β) (a0 : AV) (a1 : AV) (h : Hp) : runK Try.prog T D N [0, 1, 4, 5, 7, 8, 9, 16] Try.f46 K [a0, a1] h = f_slices_IndexFunc_Line Try.prog T D N K a0 a1 h := (o_slices_IndexFunc_Line_run T D N K a0 a1 h).trans (f_slices_IndexFunc_Line_old_eq Try.prog T D N K a0 a1 h)
def o_receipt_lines_j1 (P : Program) (T : Tab) (D : DTab) (N : Nat) {β : Type} (K : AV → Hp → Option β) (t : Tm) (h : Hp) : Option β :=
lenK (t 0) fun x2 =>
arithK .leq x2 (.s (.int .i64 64)) fun x3 =>
K x3 h
def o_receipt_lines_j3 (P : Program) (T : Tab) (D : DTab) (N : Nat) {β : Type} (k : Ex → St → Option β) (t : Tm) (h : Hp) : Option β :=
arithK .add (t 10) (.s (.int .i64 1)) fun x5 =>
k .normal ((upd t 10 x5), h)
def o_receipt_lines_j4 (P : Program) (T : Tab) (D : DTab) (N : Nat) {β : Type} (k : Ex → St → Option β) (t : Tm) (h : Hp) : Option β :=
faK 0 (t 4) fun x33 =>
ldK 1 false x33 h fun x34 =>
callK (T 41) [x34, (.s (.int .i64 1)), (.s (.int .i64 1073741824))] h fun x35 h36 =>
notK x35 fun x37 =>
grpK false x37 h36 (fun k38 =>
arithK .gtr (t 3) (.s (.int .i64 0)) fun x39 =>
grpK true x39 h36 (fun k40 =>
faK 0 (t 4) fun x41 =>
ldK 1 false x41 h36 fun x42 =>
arithK .sub (t 3) (.s (.int .i64 1)) fun x43 =>
iaK 8 (t 0) x43 fun x44 =>
faK 0 x44 fun x45 =>
ldK 1 false x45 h36 fun x46 =>
arithK .leq x42 x46 fun x47 =>
k40 x47 h36) fun x48 h49 =>
k38 x48 h49) fun x50 h51 =>
grpK false x50 h51 (fun k52 =>
faK 1 (t 4) fun x53 =>
ldK 1 false x53 h51 fun x54 =>
callK (T 41) [x54, (.s (.int .i64 1)), (.s (.int .i64 9))] h51 fun x55 h56 =>
notK x55 fun x57 =>
k52 x57 h56) fun x58 h59 =>
grpK false x58 h59 (fun k60 =>
faK 2 (t 4) fun x61 =>
ldK 1 false x61 h59 fun x62 =>
eqK P false 3 x62 (.s (.int .i64 0)) h59 fun x63 =>
grpK true x63 h59 (fun k64 =>
faK 3 (t 4) fun x65 =>
ldK 1 false x65 h59 fun x66 =>
eqK P false 3 x66 (.s (.int .i64 0)) h59 fun x67 =>
k64 x67 h59) fun x68 h69 =>
k60 x68 h69) fun x70 h71 =>
grpK false x70 h71 (fun k72 =>
faK 2 (t 4) fun x73 =>
ldK 1 false x73 h71 fun x74 =>
faK 3 (t 5) fun x75 =>
ldK 1 false x75 h71 fun x76 =>
arithK .add x74 x76 fun x77 =>
faK 3 (t 4) fun x78 =>
ldK 1 false x78 h71 fun x79 =>
faK 0 (t 5) fun x80 =>
ldK 1 false x80 h71 fun x81 =>
arithK .add x79 x81 fun x82 =>
faK 1 (t 5) fun x83 =>
ldK 1 false x83 h71 fun x84 =>
arithK .add x82 x84 fun x85 =>
faK 2 (t 5) fun x86 =>
ldK 1 false x86 h71 fun x87 =>
arithK .add x85 x87 fun x88 =>
eqK P true 3 x77 x88 h71 fun x89 =>
k72 x89 h71) fun x90 h91 =>
condK x90 (
k .ret ((upd (upd t 92 x90) 2 (.s (.bool false))), h91)) (
(o_receipt_lines_j3 P T D N k (upd t 92 x90) h91))
def o_receipt_lines_L5 (P : Program) (T : Tab) (D : DTab) (N : Nat) {β : Type} (t : Tm) (h : Hp) (k : Ex → St → Option β) : Option β :=
arithK .lss (t 31) (t 30) fun x92 =>
condK x92 (
iaK 1 (t 29) (t 31) fun x93 =>
ldK 1 false x93 h fun x94 =>
callK (T 41) [x94, (.s (.int .i64 0)), (.s (.int .i64 10737418240000))] h fun x95 h96 =>
notK x95 fun x97 =>
condK x97 (
k .ret ((upd (upd (upd (upd t 32 x92) 7 x94) 37 x97) 2 (.s (.bool false))), h96)) (
arithK .add (t 31) (.s (.int .i64 1)) fun x98 =>
k .normal ((upd (upd (upd (upd t 32 x92) 7 x94) 37 x97) 31 x98), h96))) (
k (.exit 2) ((upd t 32 x92), h))
def o_receipt_lines_aL5 (P : Program) (T : Tab) (D : DTab) (N : Nat) {β : Type} (k : Ex → St → Option β) (e : Ex) (s : St) : Option β :=
  e.on ((o_receipt_lines_j4 P T D N k s.1 s.2))
  (fun i => bif i == 2 then ((o_receipt_lines_j4 P T D N k s.1 s.2)) else (bif i == 1 then ((o_receipt_lines_j3 P T D N k s.1 s.2)) else (k (.exit i) (s.1, s.2))))
  (k .ret (s.1, s.2))
def o_receipt_lines_L2_G (P : Program) (T : Tab) (D : DTab) (N : Nat) {β : Type} (cL5 : St → Option β) (t : Tm) (h : Hp) (k : Ex → St → Option β) :  Option β :=
arithK .lss (t 10) (t 9) fun x4 =>
condK x4 (
iaK 8 (t 8) (t 10) fun x6 =>
ldK 8 true x6 h fun x7 =>
effK (boxE 8 (.agg [.s (.int .i64 0), .s (.int .i64 0), .s (.int .i64 0), .s (.int .i64 0), .s (.int .i64 0), .s (.int .i64 0), .s (.int .i64 0), .s (.int .i64 0)]) (List.length h)) h fun x8 h9 =>
effK (stE 8 x8 x7 h9) h9 fun x10 h11 =>
faK 4 x8 fun x12 =>
ldK 4 true x12 h11 fun x13 =>
effK (boxE 4 (.agg [.s (.int .i64 0), .s (.int .i64 0), .s (.int .i64 0), .s (.int .i64 0)]) (List.length h11)) h11 fun x14 h15 =>
effK (stE 4 x14 x13 h15) h15 fun x16 h17 =>
faK 2 x8 fun x18 =>
ldK 1 false x18 h17 fun x19 =>
faK 3 x8 fun x20 =>
ldK 1 false x20 h17 fun x21 =>
faK 0 x14 fun x22 =>
ldK 1 false x22 h17 fun x23 =>
faK 1 x14 fun x24 =>
ldK 1 false x24 h17 fun x25 =>
faK 2 x14 fun x26 =>
ldK 1 false x26 h17 fun x27 =>
faK 3 x14 fun x28 =>
ldK 1 false x28 h17 fun x29 =>
effK (bsE 1 [.s (.int .i64 0)] 6 [(0, x19), (1, x21), (2, x23), (3, x25), (4, x27), (5, x29)] (List.length h17)) h17 fun x30 h31 =>
lenK x30 fun x32 =>
cL5 ((upd (upd (upd (upd (upd (upd (upd t 11 x4) 4 x8) 3 (t 10)) 5 x14) 29 x30) 30 x32) 31 (.s (.int .i64 0))), h31)) (
k (.exit 0) ((upd t 11 x4), h))
def o_receipt_lines_L2 (P : Program) (T : Tab) (D : DTab) (N : Nat) {β : Type} (t : Tm) (h : Hp) (k : Ex → St → Option β) : Option β := o_receipt_lines_L2_G P T D N (fun s => iterK (fun s k => o_receipt_lines_L5 P T D N s.1 s.2 k) N s (o_receipt_lines_aL5 P T D N k)) t h k
def o_receipt_lines_aL2 (P : Program) (T : Tab) (D : DTab) (N : Nat) {β : Type} (K : AV → Hp → Option β) (e : Ex) (s : St) : Option β :=
  e.on ((o_receipt_lines_j1 P T D N K s.1 s.2))
  (fun i => bif i == 0 then ((o_receipt_lines_j1 P T D N K s.1 s.2)) else (none))
  (K (s.1 2) s.2)
def o_receipt_lines_G (P : Program) (T : Tab) (D : DTab) (N : Nat) {β : Type} (cL2 : St → Option β) (K : AV → Hp → Option β) (a0 : AV) (h : Hp) :  Option β :=
lenK a0 fun x1 =>
cL2 ((upd (upd (upd (upd (tm0 [a0]) 2 (.s (.bool false))) 8 a0) 9 x1) 10 (.s (.int .i64 0))), h)
def o_receipt_lines (P : Program) (T : Tab) (D : DTab) (N : Nat) {β : Type} (K : AV → Hp → Option β) (a0 : AV) (h : Hp) : Option β := o_receipt_lines_G P T D N (fun s => iterK (fun s k => o_receipt_lines_L2 P T D N s.1 s.2 k) N s (o_receipt_lines_aL2 P T D N K)) K a0 h
def f_receipt_lines_j1 (P : Program) (T : Tab) (D : DTab) (N : Nat) {β : Type} (K : AV → Hp → Option β) (v0 : AV) (h : Hp) : Option β :=
lenK v0 fun x2 =>
arithK .leq x2 (.s (.int .i64 64)) fun x3 =>
K x3 h
def f_receipt_lines_j3 (P : Program) (T : Tab) (D : DTab) (N : Nat) {β : Type} (xn : AV → AV → AV → AV → Hp → Option β) (x0 : AV → Hp → Option β) (xr : AV → Hp → Option β) (v0 : AV) (v8 : AV) (v9 : AV) (v10 : AV) (h : Hp) : Option β :=
arithK .add v10 (.s (.int .i64 1)) fun x5 =>
xn v0 v8 v9 x5 h
def f_receipt_lines_j4 (P : Program) (T : Tab) (D : DTab) (N : Nat) {β : Type} (xn : AV → AV → AV → AV → Hp → Option β) (x0 : AV → Hp → Option β) (xr : AV → Hp → Option β) (v0 : AV) (v3 : AV) (v4 : AV) (v5 : AV) (v8 : AV) (v9 : AV) (v10 : AV) (h : Hp) : Option β :=
faK 0 v4 fun x33 =>
ldK 1 false x33 h fun x34 =>
callK (T 41) [x34, (.s (.int .i64 1)), (.s (.int .i64 1073741824))] h fun x35 h36 =>
notK x35 fun x37 =>
grpK false x37 h36 (fun k38 =>
arithK .gtr v3 (.s (.int .i64 0)) fun x39 =>
grpK true x39 h36 (fun k40 =>
faK 0 v4 fun x41 =>
ldK 1 false x41 h36 fun x42 =>
arithK .sub v3 (.s (.int .i64 1)) fun x43 =>
iaK 8 v0 x43 fun x44 =>
faK 0 x44 fun x45 =>
ldK 1 false x45 h36 fun x46 =>
arithK .leq x42 x46 fun x47 =>
k40 x47 h36) fun x48 h49 =>
k38 x48 h49) fun x50 h51 =>
grpK false x50 h51 (fun k52 =>
faK 1 v4 fun x53 =>
ldK 1 false x53 h51 fun x54 =>
callK (T 41) [x54, (.s (.int .i64 1)), (.s (.int .i64 9))] h51 fun x55 h56 =>
notK x55 fun x57 =>
k52 x57 h56) fun x58 h59 =>
grpK false x58 h59 (fun k60 =>
faK 2 v4 fun x61 =>
ldK 1 false x61 h59 fun x62 =>
eqK P false 3 x62 (.s (.int .i64 0)) h59 fun x63 =>
grpK true x63 h59 (fun k64 =>
faK 3 v4 fun x65 =>
ldK 1 false x65 h59 fun x66 =>
eqK P false 3 x66 (.s (.int .i64 0)) h59 fun x67 =>
k64 x67 h59) fun x68 h69 =>
k60 x68 h69) fun x70 h71 =>
grpK false x70 h71 (fun k72 =>
faK 2 v4 fun x73 =>
ldK 1 false x73 h71 fun x74 =>
faK 3 v5 fun x75 =>
ldK 1 false x75 h71 fun x76 =>
arithK .add x74 x76 fun x77 =>
faK 3 v4 fun x78 =>
ldK 1 false x78 h71 fun x79 =>
faK 0 v5 fun x80 =>
ldK 1 false x80 h71 fun x81 =>
arithK .add x79 x81 fun x82 =>
faK 1 v5 fun x83 =>
ldK 1 false x83 h71 fun x84 =>
arithK .add x82 x84 fun x85 =>
faK 2 v5 fun x86 =>
ldK 1 false x86 h71 fun x87 =>
arithK .add x85 x87 fun x88 =>
eqK P true 3 x77 x88 h71 fun x89 =>
k72 x89 h71) fun x90 h91 =>
condK x90 (
xr (.s (.bool false)) h91) (
f_receipt_lines_j3 P T D N xn x0 xr v0 v8 v9 v10 h91)
def f_receipt_lines_b5 (P : Program) (T : Tab) (D : DTab) (N : Nat) {β : Type} (xn : AV → AV → AV → AV → AV → AV → AV → AV → AV → AV → Hp → Option β) (x2 : AV → AV → AV → AV → AV → AV → AV → Hp → Option β) (xr : AV → Hp → Option β) (v0 : AV) (v3 : AV) (v4 : AV) (v5 : AV) (v8 : AV) (v9 : AV) (v10 : AV) (v29 : AV) (v30 : AV) (v31 : AV) (h : Hp) : Option β :=
arithK .lss v31 v30 fun x92 =>
condK x92 (
iaK 1 v29 v31 fun x93 =>
ldK 1 false x93 h fun x94 =>
callK (T 41) [x94, (.s (.int .i64 0)), (.s (.int .i64 10737418240000))] h fun x95 h96 =>
notK x95 fun x97 =>
condK x97 (
xr (.s (.bool false)) h96) (
arithK .add v31 (.s (.int .i64 1)) fun x98 =>
xn v0 v3 v4 v5 v8 v9 v10 v29 v30 x98 h96)) (
x2 v0 v3 v4 v5 v8 v9 v10 h)
def f_receipt_lines_L5 (P : Program) (T : Tab) (D : DTab) (N : Nat) {β : Type} (x2 : AV → AV → AV → AV → AV → AV → AV → Hp → Option β) (xr : AV → Hp → Option β) : Nat → AV → AV → AV → AV → AV → AV → AV → AV → AV → AV → Hp → Option β
  | 0 => fun _ _ _ _ _ _ _ _ _ _ _ => none
  | n + 1 => fun v0 v3 v4 v5 v8 v9 v10 v29 v30 v31 h => f_receipt_lines_b5 P T D N (f_receipt_lines_L5 P T D N x2 xr n) x2 xr v0 v3 v4 v5 v8 v9 v10 v29 v30 v31 h
def f_receipt_lines_b2 (P : Program) (T : Tab) (D : DTab) (N : Nat) {β : Type} (xn : AV → AV → AV → AV → Hp → Option β) (x0 : AV → Hp → Option β) (xr : AV → Hp → Option β) (v0 : AV) (v8 : AV) (v9 : AV) (v10 : AV) (h : Hp) : Option β :=
arithK .lss v10 v9 fun x4 =>
condK x4 (
iaK 8 v8 v10 fun x6 =>
ldK 8 true x6 h fun x7 =>
effK (boxE 8 (.agg [.s (.int .i64 0), .s (.int .i64 0), .s (.int .i64 0), .s (.int .i64 0), .s (.int .i64 0), .s (.int .i64 0), .s (.int .i64 0), .s (.int .i64 0)]) (List.length h)) h fun x8 h9 =>
effK (stE 8 x8 x7 h9) h9 fun x10 h11 =>
faK 4 x8 fun x12 =>
ldK 4 true x12 h11 fun x13 =>
effK (boxE 4 (.agg [.s (.int .i64 0), .s (.int .i64 0), .s (.int .i64 0), .s (.int .i64 0)]) (List.length h11)) h11 fun x14 h15 =>
effK (stE 4 x14 x13 h15) h15 fun x16 h17 =>
faK 2 x8 fun x18 =>
ldK 1 false x18 h17 fun x19 =>
faK 3 x8 fun x20 =>
ldK 1 false x20 h17 fun x21 =>
faK 0 x14 fun x22 =>
ldK 1 false x22 h17 fun x23 =>
faK 1 x14 fun x24 =>
ldK 1 false x24 h17 fun x25 =>
faK 2 x14 fun x26 =>
ldK 1 false x26 h17 fun x27 =>
faK 3 x14 fun x28 =>
ldK 1 false x28 h17 fun x29 =>
effK (bsE 1 [.s (.int .i64 0)] 6 [(0, x19), (1, x21), (2, x23), (3, x25), (4, x27), (5, x29)] (List.length h17)) h17 fun x30 h31 =>
lenK x30 fun x32 =>
f_receipt_lines_L5 P T D N (fun w99_0 w99_3 w99_4 w99_5 w99_8 w99_9 w99_10 h => f_receipt_lines_j4 P T D N xn x0 xr w99_0 w99_3 w99_4 w99_5 w99_8 w99_9 w99_10 h) (fun w100_2 h => xr w100_2 h) N v0 v10 x8 x14 v8 v9 v10 x30 x32 (.s (.int .i64 0)) h31) (
x0 v0 h)
def f_receipt_lines_L2 (P : Program) (T : Tab) (D : DTab) (N : Nat) {β : Type} (x0 : AV → Hp → Option β) (xr : AV → Hp → Option β) : Nat → AV → AV → AV → AV → Hp → Option β
  | 0 => fun _ _ _ _ _ => none
  | n + 1 => fun v0 v8 v9 v10 h => f_receipt_lines_b2 P T D N (f_receipt_lines_L2 P T D N x0 xr n) x0 xr v0 v8 v9 v10 h
def f_receipt_lines (P : Program) (T : Tab) (D : DTab) (N : Nat) {β : Type} (K : AV → Hp → Option β) (a0 : AV) (h : Hp) : Option β :=
lenK a0 fun x1 =>
f_receipt_lines_L2 P T D N (fun w101_0 h => f_receipt_lines_j1 P T D N K w101_0 h) (fun w102_2 h => K w102_2 h) N a0 a0 x1 (.s (.int .i64 0)) h
theorem f_receipt_lines_b5_eq (P : Program) (T : Tab) (D : DTab) (N : Nat) {β : Type} (xn : AV → AV → AV → AV → AV → AV → AV → AV → AV → AV → Hp → Option β) (x2 : AV → AV → AV → AV → AV → AV → AV → Hp → Option β) (xr : AV → Hp → Option β) (xd : Nat → St → Option β) (xq : St → Option β) (t : Tm) (h : Hp) : o_receipt_lines_L5 P T D N t h (fun (e : Ex) (s : St) => e.on (xn (s.1 0) (s.1 3) (s.1 4) (s.1 5) (s.1 8) (s.1 9) (s.1 10) (s.1 29) (s.1 30) (s.1 31) s.2) (fun i => (bif i == 2 then x2 (s.1 0) (s.1 3) (s.1 4) (s.1 5) (s.1 8) (s.1 9) (s.1 10) s.2 else (xd i s))) (xr (s.1 2) s.2)) = f_receipt_lines_b5 P T D N xn x2 xr (t 0) (t 3) (t 4) (t 5) (t 8) (t 9) (t 10) (t 29) (t 30) (t 31) h := by kernel_rfl
theorem f_receipt_lines_L5_eq (P : Program) (T : Tab) (D : DTab) (N : Nat) {β : Type} (A : Ex → St → Option β) (x2 : AV → AV → AV → AV → AV → AV → AV → Hp → Option β) (xr : AV → Hp → Option β) (q2 : ∀ s, A (.exit 2) s = x2 (s.1 0) (s.1 3) (s.1 4) (s.1 5) (s.1 8) (s.1 9) (s.1 10) s.2) (qr : ∀ s, A .ret s = xr (s.1 2) s.2) : ∀ (n : Nat) (s : St), iterK (fun s k => o_receipt_lines_L5 P T D N s.1 s.2 k) n s A = f_receipt_lines_L5 P T D N x2 xr n (s.1 0) (s.1 3) (s.1 4) (s.1 5) (s.1 8) (s.1 9) (s.1 10) (s.1 29) (s.1 30) (s.1 31) s.2 := by
  intro n
  induction n with
  | zero => intro s; rfl
  | succ n ih =>
    intro s
    have hk : (fun (e : Ex) (s' : St) => Ex.on e (iterK (fun s k => o_receipt_lines_L5 P T D N s.1 s.2 k) n s' A) (fun i => A (.exit i) s') (A .ret s')) = (fun (e : Ex) (s : St) => e.on ((f_receipt_lines_L5 P T D N x2 xr n) (s.1 0) (s.1 3) (s.1 4) (s.1 5) (s.1 8) (s.1 9) (s.1 10) (s.1 29) (s.1 30) (s.1 31) s.2) (fun i => (bif i == 2 then x2 (s.1 0) (s.1 3) (s.1 4) (s.1 5) (s.1 8) (s.1 9) (s.1 10) s.2 else (A (.exit i) s))) (xr (s.1 2) s.2)) := by
      funext e s'
      cases e with
      | normal => exact ih s'
      | ret => exact qr s'
      | exit i =>
        by_cases r2 : i = 2
        · subst r2; exact q2 s'
        simp only [Ex.on, beq_false_of_ne r2, cond_false]
    show o_receipt_lines_L5 P T D N s.1 s.2 (fun (e : Ex) (s' : St) => Ex.on e (iterK (fun s k => o_receipt_lines_L5 P T D N s.1 s.2 k) n s' A) (fun i => A (.exit i) s') (A .ret s')) = _
    rw [hk]
    exact f_receipt_lines_b5_eq P T D N (f_receipt_lines_L5 P T D N x2 xr n) x2 xr (fun i s => A (.exit i) s) (fun s => A .ret s) s.1 s.2
theorem f_receipt_lines_b2_eq (P : Program) (T : Tab) (D : DTab) (N : Nat) {β : Type} (xn : AV → AV → AV → AV → Hp → Option β) (x0 : AV → Hp → Option β) (xr : AV → Hp → Option β) (xd : Nat → St → Option β) (xq : St → Option β) (t : Tm) (h : Hp) : o_receipt_lines_L2 P T D N t h (fun (e : Ex) (s : St) => e.on (xn (s.1 0) (s.1 8) (s.1 9) (s.1 10) s.2) (fun i => (bif i == 0 then x0 (s.1 0) s.2 else (xd i s))) (xr (s.1 2) s.2)) = f_receipt_lines_b2 P T D N xn x0 xr (t 0) (t 8) (t 9) (t 10) h := by
  have eL5 : (fun s : St => iterK (fun s k => o_receipt_lines_L5 P T D N s.1 s.2 k) N s (o_receipt_lines_aL5 P T D N (fun (e : Ex) (s : St) => e.on (xn (s.1 0) (s.1 8) (s.1 9) (s.1 10) s.2) (fun i => (bif i == 0 then x0 (s.1 0) s.2 else (xd i s))) (xr (s.1 2) s.2)))) = (fun s : St => f_receipt_lines_L5 P T D N (fun w99_0 w99_3 w99_4 w99_5 w99_8 w99_9 w99_10 h => f_receipt_lines_j4 P T D N xn x0 xr w99_0 w99_3 w99_4 w99_5 w99_8 w99_9 w99_10 h) (fun w100_2 h => xr w100_2 h) N (s.1 0) (s.1 3) (s.1 4) (s.1 5) (s.1 8) (s.1 9) (s.1 10) (s.1 29) (s.1 30) (s.1 31) s.2) := funext fun s => f_receipt_lines_L5_eq P T D N (o_receipt_lines_aL5 P T D N (fun (e : Ex) (s : St) => e.on (xn (s.1 0) (s.1 8) (s.1 9) (s.1 10) s.2) (fun i => (bif i == 0 then x0 (s.1 0) s.2 else (xd i s))) (xr (s.1 2) s.2))) (fun w99_0 w99_3 w99_4 w99_5 w99_8 w99_9 w99_10 h => f_receipt_lines_j4 P T D N xn x0 xr w99_0 w99_3 w99_4 w99_5 w99_8 w99_9 w99_10 h) (fun w100_2 h => xr w100_2 h) (fun s => rfl) (fun s => rfl) N s
  show o_receipt_lines_L2_G P T D N (fun s => iterK (fun s k => o_receipt_lines_L5 P T D N s.1 s.2 k) N s (o_receipt_lines_aL5 P T D N (fun (e : Ex) (s : St) => e.on (xn (s.1 0) (s.1 8) (s.1 9) (s.1 10) s.2) (fun i => (bif i == 0 then x0 (s.1 0) s.2 else (xd i s))) (xr (s.1 2) s.2)))) t h (fun (e : Ex) (s : St) => e.on (xn (s.1 0) (s.1 8) (s.1 9) (s.1 10) s.2) (fun i => (bif i == 0 then x0 (s.1 0) s.2 else (xd i s))) (xr (s.1 2) s.2)) = _
  rw [eL5]
  kernel_rfl
theorem f_receipt_lines_L2_eq (P : Program) (T : Tab) (D : DTab) (N : Nat) {β : Type} (A : Ex → St → Option β) (x0 : AV → Hp → Option β) (xr : AV → Hp → Option β) (q0 : ∀ s, A (.exit 0) s = x0 (s.1 0) s.2) (qr : ∀ s, A .ret s = xr (s.1 2) s.2) : ∀ (n : Nat) (s : St), iterK (fun s k => o_receipt_lines_L2 P T D N s.1 s.2 k) n s A = f_receipt_lines_L2 P T D N x0 xr n (s.1 0) (s.1 8) (s.1 9) (s.1 10) s.2 := by
  intro n
  induction n with
  | zero => intro s; rfl
  | succ n ih =>
    intro s
    have hk : (fun (e : Ex) (s' : St) => Ex.on e (iterK (fun s k => o_receipt_lines_L2 P T D N s.1 s.2 k) n s' A) (fun i => A (.exit i) s') (A .ret s')) = (fun (e : Ex) (s : St) => e.on ((f_receipt_lines_L2 P T D N x0 xr n) (s.1 0) (s.1 8) (s.1 9) (s.1 10) s.2) (fun i => (bif i == 0 then x0 (s.1 0) s.2 else (A (.exit i) s))) (xr (s.1 2) s.2)) := by
      funext e s'
      cases e with
      | normal => exact ih s'
      | ret => exact qr s'
      | exit i =>
        by_cases r0 : i = 0
        · subst r0; exact q0 s'
        simp only [Ex.on, beq_false_of_ne r0, cond_false]
    show o_receipt_lines_L2 P T D N s.1 s.2 (fun (e : Ex) (s' : St) => Ex.on e (iterK (fun s k => o_receipt_lines_L2 P T D N s.1 s.2 k) n s' A) (fun i => A (.exit i) s') (A .ret s')) = _
    rw [hk]
    exact f_receipt_lines_b2_eq P T D N (f_receipt_lines_L2 P T D N x0 xr n) x0 xr (fun i s => A (.exit i) s) (fun s => A .ret s) s.1 s.2
theorem f_receipt_lines_old_eq (P : Program) (T : Tab) (D : DTab) (N : Nat) {β : Type} (K : AV → Hp → Option β) (a0 : AV) (h : Hp) : o_receipt_lines P T D N K a0 h = f_receipt_lines P T D N K a0 h := by
  have eL2 : (fun s : St => iterK (fun s k => o_receipt_lines_L2 P T D N s.1 s.2 k) N s (o_receipt_lines_aL2 P T D N K)) = (fun s : St => f_receipt_lines_L2 P T D N (fun w101_0 h => f_receipt_lines_j1 P T D N K w101_0 h) (fun w102_2 h => K w102_2 h) N (s.1 0) (s.1 8) (s.1 9) (s.1 10) s.2) := funext fun s => f_receipt_lines_L2_eq P T D N (o_receipt_lines_aL2 P T D N K) (fun w101_0 h => f_receipt_lines_j1 P T D N K w101_0 h) (fun w102_2 h => K w102_2 h) (fun s => rfl) (fun s => rfl) N s
  show o_receipt_lines_G P T D N (fun s => iterK (fun s k => o_receipt_lines_L2 P T D N s.1 s.2 k) N s (o_receipt_lines_aL2 P T D N K)) K a0 h = _
  rw [eL2]
  kernel_rfl
theorem o_receipt_lines_run (T : Tab) (D : DTab) (N : Nat) {β : Type} (K : AV → Hp → Option β) (a0 : AV) (h : Hp) : runK Try.prog T D N [0, 2, 3, 4, 5, 7, 8, 9, 10, 11, 29, 30, 31, 32, 37, 92] Try.f47 K [a0] h = o_receipt_lines Try.prog T D N K a0 h := by kernel_rfl
theorem f_receipt_lines_run (T : Tab) (D : DTab) (N : Nat) {β : Type} (K : AV → Hp → Option β) (a0 : AV) (h : Hp) : runK Try.prog T D N [0, 2, 3, 4, 5, 7, 8, 9, 10, 11, 29, 30, 31, 32, 37, 92] Try.f47 K [a0] h = f_receipt_lines Try.prog T D N K a0 h := (o_receipt_lines_run T D N K a0 h).trans (f_receipt_lines_old_eq Try.prog T D N K a0 h)
def o_loss_Sum_j1 (P : Program) (T : Tab) (D : DTab) (N : Nat) {β : Type} (K : AV → Hp → Option β) (t : Tm) (h : Hp) : Option β :=
faK 0 (t 4) fun x12 =>
ldK 1 false x12 h fun x13 =>
faK 1 (t 4) fun x14 =>
ldK 1 false x14 h fun x15 =>
faK 2 (t 4) fun x16 =>
ldK 1 false x16 h fun x17 =>
faK 3 (t 4) fun x18 =>
ldK 1 false x18 h fun x19 =>
effK (bsE 1 [.s (.int .i64 0)] 4 [(0, x13), (1, x15), (2, x17), (3, x19)] (List.length h)) h fun x20 h21 =>
callK (T 66) [x20] h21 fun x22 h23 =>
notK x22 fun x24 =>
condK x24 (
buildK [.s (.int .i64 0), .s (.int .i64 0), .s (.int .i64 0), .s (.int .i64 0)] [] fun x25 =>
effK (stE 4 (t 2) x25 h23) h23 fun x26 h27 =>
ldK 4 true (t 2) h27 fun r28 =>
K (.tup [r28, (.s (.int .i64 15))]) h27) (
ldK 4 true (t 4) h23 fun x29 =>
effK (stE 4 (t 2) x29 h23) h23 fun x30 h31 =>
ldK 4 true (t 2) h31 fun r32 =>
K (.tup [r32, (.s (.int .i64 0))]) h31)
def o_loss_Sum_L2 (P : Program) (T : Tab) (D : DTab) (N : Nat) {β : Type} (t : Tm) (h : Hp) (k : Ex → St → Option β) : Option β :=
arithK .lss (t 13) (t 12) fun x33 =>
condK x33 (
iaK 4 (t 11) (t 13) fun x34 =>
ldK 4 true x34 h fun x35 =>
effK (boxE 4 (.agg [.s (.int .i64 0), .s (.int .i64 0), .s (.int .i64 0), .s (.int .i64 0)]) (List.length h)) h fun x36 h37 =>
effK (stE 4 x36 x35 h37) h37 fun x38 h39 =>
faK 0 x36 fun x40 =>
ldK 1 false x40 h39 fun x41 =>
faK 1 x36 fun x42 =>
ldK 1 false x42 h39 fun x43 =>
faK 2 x36 fun x44 =>
ldK 1 false x44 h39 fun x45 =>
faK 3 x36 fun x46 =>
ldK 1 false x46 h39 fun x47 =>
effK (bsE 1 [.s (.int .i64 0)] 4 [(0, x41), (1, x43), (2, x45), (3, x47)] (List.length h39)) h39 fun x48 h49 =>
callK (T 66) [x48] h49 fun x50 h51 =>
notK x50 fun x52 =>
condK x52 (
buildK [.s (.int .i64 0), .s (.int .i64 0), .s (.int .i64 0), .s (.int .i64 0)] [] fun x53 =>
effK (stE 4 (t 2) x53 h51) h51 fun x54 h55 =>
k .ret ((upd (upd (upd (upd t 14 x33) 6 x36) 27 x52) 3 (.s (.int .i64 2))), h55)) (
faK 0 (t 4) fun x56 =>
ldK 1 false x56 h51 fun x57 =>
faK 0 x36 fun x58 =>
ldK 1 false x58 h51 fun x59 =>
arithK .add x57 x59 fun x60 =>
faK 0 (t 4) fun x61 =>
effK (stE 1 x61 x60 h51) h51 fun x62 h63 =>
faK 1 (t 4) fun x64 =>
ldK 1 false x64 h63 fun x65 =>
faK 1 x36 fun x66 =>
ldK 1 false x66 h63 fun x67 =>
arithK .add x65 x67 fun x68 =>
faK 1 (t 4) fun x69 =>
effK (stE 1 x69 x68 h63) h63 fun x70 h71 =>
faK 2 (t 4) fun x72 =>
ldK 1 false x72 h71 fun x73 =>
faK 2 x36 fun x74 =>
ldK 1 false x74 h71 fun x75 =>
arithK .add x73 x75 fun x76 =>
faK 2 (t 4) fun x77 =>
effK (stE 1 x77 x76 h71) h71 fun x78 h79 =>
faK 3 (t 4) fun x80 =>
ldK 1 false x80 h79 fun x81 =>
faK 3 x36 fun x82 =>
ldK 1 false x82 h79 fun x83 =>
arithK .add x81 x83 fun x84 =>
faK 3 (t 4) fun x85 =>
effK (stE 1 x85 x84 h79) h79 fun x86 h87 =>
arithK .add (t 13) (.s (.int .i64 1)) fun x88 =>
k .normal ((upd (upd (upd (upd t 14 x33) 6 x36) 27 x52) 13 x88), h87))) (
k (.exit 0) ((upd t 14 x33), h))
def o_loss_Sum_aL2 (P : Program) (T : Tab) (D : DTab) (N : Nat) {β : Type} (K : AV → Hp → Option β) (e : Ex) (s : St) : Option β :=
  e.on ((o_loss_Sum_j1 P T D N K s.1 s.2))
  (fun i => bif i == 0 then ((o_loss_Sum_j1 P T D N K s.1 s.2)) else (none))
  (ldK 4 true (s.1 2) s.2 fun r89 =>
K (.tup [r89, (s.1 3)]) s.2)
def o_loss_Sum_G (P : Program) (T : Tab) (D : DTab) (N : Nat) {β : Type} (cL2 : St → Option β) (K : AV → Hp → Option β) (a0 : AV) (h : Hp) :  Option β :=
effK (boxE 4 (.agg [.s (.int .i64 0), .s (.int .i64 0), .s (.int .i64 0), .s (.int .i64 0)]) (List.length h)) h fun x1 h2 =>
lenK a0 fun x3 =>
arithK .gtr x3 (.s (.int .i64 1024)) fun x4 =>
condK x4 (
buildK [.s (.int .i64 0), .s (.int .i64 0), .s (.int .i64 0), .s (.int .i64 0)] [] fun x5 =>
effK (stE 4 x1 x5 h2) h2 fun x6 h7 =>
ldK 4 true x1 h7 fun r8 =>
K (.tup [r8, (.s (.int .i64 8))]) h7) (
effK (boxE 4 (.agg [.s (.int .i64 0), .s (.int .i64 0), .s (.int .i64 0), .s (.int .i64 0)]) (List.length h2)) h2 fun x9 h10 =>
lenK a0 fun x11 =>
cL2 ((upd (upd (upd (upd (upd (upd (upd (tm0 [a0]) 2 x1) 3 (.s (.int .i64 0))) 9 x4) 4 x9) 11 a0) 12 x11) 13 (.s (.int .i64 0))), h10))
def o_loss_Sum (P : Program) (T : Tab) (D : DTab) (N : Nat) {β : Type} (K : AV → Hp → Option β) (a0 : AV) (h : Hp) : Option β := o_loss_Sum_G P T D N (fun s => iterK (fun s k => o_loss_Sum_L2 P T D N s.1 s.2 k) N s (o_loss_Sum_aL2 P T D N K)) K a0 h
def f_loss_Sum_j1 (P : Program) (T : Tab) (D : DTab) (N : Nat) {β : Type} (K : AV → Hp → Option β) (v2 : AV) (v4 : AV) (h : Hp) : Option β :=
faK 0 v4 fun x12 =>
ldK 1 false x12 h fun x13 =>
faK 1 v4 fun x14 =>
ldK 1 false x14 h fun x15 =>
faK 2 v4 fun x16 =>
ldK 1 false x16 h fun x17 =>
faK 3 v4 fun x18 =>
ldK 1 false x18 h fun x19 =>
effK (bsE 1 [.s (.int .i64 0)] 4 [(0, x13), (1, x15), (2, x17), (3, x19)] (List.length h)) h fun x20 h21 =>
callK (T 66) [x20] h21 fun x22 h23 =>
notK x22 fun x24 =>
condK x24 (
buildK [.s (.int .i64 0), .s (.int .i64 0), .s (.int .i64 0), .s (.int .i64 0)] [] fun x25 =>
effK (stE 4 v2 x25 h23) h23 fun x26 h27 =>
ldK 4 true v2 h27 fun r28 =>
K (.tup [r28, (.s (.int .i64 15))]) h27) (
ldK 4 true v4 h23 fun x29 =>
effK (stE 4 v2 x29 h23) h23 fun x30 h31 =>
ldK 4 true v2 h31 fun r32 =>
K (.tup [r32, (.s (.int .i64 0))]) h31)
def f_loss_Sum_b2 (P : Program) (T : Tab) (D : DTab) (N : Nat) {β : Type} (xn : AV → AV → AV → AV → AV → Hp → Option β) (x0 : AV → AV → Hp → Option β) (xr : AV → AV → Hp → Option β) (v2 : AV) (v4 : AV) (v11 : AV) (v12 : AV) (v13 : AV) (h : Hp) : Option β :=
arithK .lss v13 v12 fun x33 =>
condK x33 (
iaK 4 v11 v13 fun x34 =>
ldK 4 true x34 h fun x35 =>
effK (boxE 4 (.agg [.s (.int .i64 0), .s (.int .i64 0), .s (.int .i64 0), .s (.int .i64 0)]) (List.length h)) h fun x36 h37 =>
effK (stE 4 x36 x35 h37) h37 fun x38 h39 =>
faK 0 x36 fun x40 =>
ldK 1 false x40 h39 fun x41 =>
faK 1 x36 fun x42 =>
ldK 1 false x42 h39 fun x43 =>
faK 2 x36 fun x44 =>
ldK 1 false x44 h39 fun x45 =>
faK 3 x36 fun x46 =>
ldK 1 false x46 h39 fun x47 =>
effK (bsE 1 [.s (.int .i64 0)] 4 [(0, x41), (1, x43), (2, x45), (3, x47)] (List.length h39)) h39 fun x48 h49 =>
callK (T 66) [x48] h49 fun x50 h51 =>
notK x50 fun x52 =>
condK x52 (
buildK [.s (.int .i64 0), .s (.int .i64 0), .s (.int .i64 0), .s (.int .i64 0)] [] fun x53 =>
effK (stE 4 v2 x53 h51) h51 fun x54 h55 =>
xr v2 (.s (.int .i64 2)) h55) (
faK 0 v4 fun x56 =>
ldK 1 false x56 h51 fun x57 =>
faK 0 x36 fun x58 =>
ldK 1 false x58 h51 fun x59 =>
arithK .add x57 x59 fun x60 =>
faK 0 v4 fun x61 =>
effK (stE 1 x61 x60 h51) h51 fun x62 h63 =>
faK 1 v4 fun x64 =>
ldK 1 false x64 h63 fun x65 =>
faK 1 x36 fun x66 =>
ldK 1 false x66 h63 fun x67 =>
arithK .add x65 x67 fun x68 =>
faK 1 v4 fun x69 =>
effK (stE 1 x69 x68 h63) h63 fun x70 h71 =>
faK 2 v4 fun x72 =>
ldK 1 false x72 h71 fun x73 =>
faK 2 x36 fun x74 =>
ldK 1 false x74 h71 fun x75 =>
arithK .add x73 x75 fun x76 =>
faK 2 v4 fun x77 =>
effK (stE 1 x77 x76 h71) h71 fun x78 h79 =>
faK 3 v4 fun x80 =>
ldK 1 false x80 h79 fun x81 =>
faK 3 x36 fun x82 =>
ldK 1 false x82 h79 fun x83 =>
arithK .add x81 x83 fun x84 =>
faK 3 v4 fun x85 =>
effK (stE 1 x85 x84 h79) h79 fun x86 h87 =>
arithK .add v13 (.s (.int .i64 1)) fun x88 =>
xn v2 v4 v11 v12 x88 h87)) (
x0 v2 v4 h)
def f_loss_Sum_L2 (P : Program) (T : Tab) (D : DTab) (N : Nat) {β : Type} (x0 : AV → AV → Hp → Option β) (xr : AV → AV → Hp → Option β) : Nat → AV → AV → AV → AV → AV → Hp → Option β
  | 0 => fun _ _ _ _ _ _ => none
  | n + 1 => fun v2 v4 v11 v12 v13 h => f_loss_Sum_b2 P T D N (f_loss_Sum_L2 P T D N x0 xr n) x0 xr v2 v4 v11 v12 v13 h
def f_loss_Sum (P : Program) (T : Tab) (D : DTab) (N : Nat) {β : Type} (K : AV → Hp → Option β) (a0 : AV) (h : Hp) : Option β :=
effK (boxE 4 (.agg [.s (.int .i64 0), .s (.int .i64 0), .s (.int .i64 0), .s (.int .i64 0)]) (List.length h)) h fun x1 h2 =>
lenK a0 fun x3 =>
arithK .gtr x3 (.s (.int .i64 1024)) fun x4 =>
condK x4 (
buildK [.s (.int .i64 0), .s (.int .i64 0), .s (.int .i64 0), .s (.int .i64 0)] [] fun x5 =>
effK (stE 4 x1 x5 h2) h2 fun x6 h7 =>
ldK 4 true x1 h7 fun r8 =>
K (.tup [r8, (.s (.int .i64 8))]) h7) (
effK (boxE 4 (.agg [.s (.int .i64 0), .s (.int .i64 0), .s (.int .i64 0), .s (.int .i64 0)]) (List.length h2)) h2 fun x9 h10 =>
lenK a0 fun x11 =>
f_loss_Sum_L2 P T D N (fun w89_2 w89_4 h => f_loss_Sum_j1 P T D N K w89_2 w89_4 h) (fun w90_2 w90_3 h => ldK 4 true w90_2 h fun r91 =>
K (.tup [r91, w90_3]) h) N x1 x9 a0 x11 (.s (.int .i64 0)) h10)
theorem f_loss_Sum_b2_eq (P : Program) (T : Tab) (D : DTab) (N : Nat) {β : Type} (xn : AV → AV → AV → AV → AV → Hp → Option β) (x0 : AV → AV → Hp → Option β) (xr : AV → AV → Hp → Option β) (xd : Nat → St → Option β) (xq : St → Option β) (t : Tm) (h : Hp) : o_loss_Sum_L2 P T D N t h (fun (e : Ex) (s : St) => e.on (xn (s.1 2) (s.1 4) (s.1 11) (s.1 12) (s.1 13) s.2) (fun i => (bif i == 0 then x0 (s.1 2) (s.1 4) s.2 else (xd i s))) (xr (s.1 2) (s.1 3) s.2)) = f_loss_Sum_b2 P T D N xn x0 xr (t 2) (t 4) (t 11) (t 12) (t 13) h := by kernel_rfl
theorem f_loss_Sum_L2_eq (P : Program) (T : Tab) (D : DTab) (N : Nat) {β : Type} (A : Ex → St → Option β) (x0 : AV → AV → Hp → Option β) (xr : AV → AV → Hp → Option β) (q0 : ∀ s, A (.exit 0) s = x0 (s.1 2) (s.1 4) s.2) (qr : ∀ s, A .ret s = xr (s.1 2) (s.1 3) s.2) : ∀ (n : Nat) (s : St), iterK (fun s k => o_loss_Sum_L2 P T D N s.1 s.2 k) n s A = f_loss_Sum_L2 P T D N x0 xr n (s.1 2) (s.1 4) (s.1 11) (s.1 12) (s.1 13) s.2 := by
  intro n
  induction n with
  | zero => intro s; rfl
  | succ n ih =>
    intro s
    have hk : (fun (e : Ex) (s' : St) => Ex.on e (iterK (fun s k => o_loss_Sum_L2 P T D N s.1 s.2 k) n s' A) (fun i => A (.exit i) s') (A .ret s')) = (fun (e : Ex) (s : St) => e.on ((f_loss_Sum_L2 P T D N x0 xr n) (s.1 2) (s.1 4) (s.1 11) (s.1 12) (s.1 13) s.2) (fun i => (bif i == 0 then x0 (s.1 2) (s.1 4) s.2 else (A (.exit i) s))) (xr (s.1 2) (s.1 3) s.2)) := by
      funext e s'
      cases e with
      | normal => exact ih s'
      | ret => exact qr s'
      | exit i =>
        by_cases r0 : i = 0
        · subst r0; exact q0 s'
        simp only [Ex.on, beq_false_of_ne r0, cond_false]
    show o_loss_Sum_L2 P T D N s.1 s.2 (fun (e : Ex) (s' : St) => Ex.on e (iterK (fun s k => o_loss_Sum_L2 P T D N s.1 s.2 k) n s' A) (fun i => A (.exit i) s') (A .ret s')) = _
    rw [hk]
    exact f_loss_Sum_b2_eq P T D N (f_loss_Sum_L2 P T D N x0 xr n) x0 xr (fun i s => A (.exit i) s) (fun s => A .ret s) s.1 s.2
theorem f_loss_Sum_old_eq (P : Program) (T : Tab) (D : DTab) (N : Nat) {β : Type} (K : AV → Hp → Option β) (a0 : AV) (h : Hp) : o_loss_Sum P T D N K a0 h = f_loss_Sum P T D N K a0 h := by
  have eL2 : (fun s : St => iterK (fun s k => o_loss_Sum_L2 P T D N s.1 s.2 k) N s (o_loss_Sum_aL2 P T D N K)) = (fun s : St => f_loss_Sum_L2 P T D N (fun w89_2 w89_4 h => f_loss_Sum_j1 P T D N K w89_2 w89_4 h) (fun w90_2 w90_3 h => ldK 4 true w90_2 h fun r91 =>
K (.tup [r91, w90_3]) h) N (s.1 2) (s.1 4) (s.1 11) (s.1 12) (s.1 13) s.2) := funext fun s => f_loss_Sum_L2_eq P T D N (o_loss_Sum_aL2 P T D N K) (fun w89_2 w89_4 h => f_loss_Sum_j1 P T D N K w89_2 w89_4 h) (fun w90_2 w90_3 h => ldK 4 true w90_2 h fun r91 =>
K (.tup [r91, w90_3]) h) (fun s => rfl) (fun s => rfl) N s
  show o_loss_Sum_G P T D N (fun s => iterK (fun s k => o_loss_Sum_L2 P T D N s.1 s.2 k) N s (o_loss_Sum_aL2 P T D N K)) K a0 h = _
  rw [eL2]
  kernel_rfl
theorem o_loss_Sum_run (T : Tab) (D : DTab) (N : Nat) {β : Type} (K : AV → Hp → Option β) (a0 : AV) (h : Hp) : runK Try.prog T D N [0, 2, 3, 4, 6, 9, 11, 12, 13, 14, 27, 64] Try.f48 K [a0] h = o_loss_Sum Try.prog T D N K a0 h := by kernel_rfl
theorem f_loss_Sum_run (T : Tab) (D : DTab) (N : Nat) {β : Type} (K : AV → Hp → Option β) (a0 : AV) (h : Hp) : runK Try.prog T D N [0, 2, 3, 4, 6, 9, 11, 12, 13, 14, 27, 64] Try.f48 K [a0] h = f_loss_Sum Try.prog T D N K a0 h := (o_loss_Sum_run T D N K a0 h).trans (f_loss_Sum_old_eq Try.prog T D N K a0 h)
def f_slices_Grow_Good_j2 (P : Program) (T : Tab) (D : DTab) (N : Nat) {β : Type} (K : AV → Hp → Option β) (v0 : AV) (h : Hp) : Option β :=
K v0 h
def f_slices_Grow_Good_j1 (P : Program) (T : Tab) (D : DTab) (N : Nat) {β : Type} (K : AV → Hp → Option β) (v0 : AV) (v1 : AV) (h : Hp) : Option β :=
capK v0 fun x1 =>
lenK v0 fun x2 =>
arithK .sub x1 x2 fun x3 =>
arithK .sub v1 x3 fun x4 =>
arithK .gtr x4 (.s (.int .i64 0)) fun x5 =>
condK x5 (
capK v0 fun x6 =>
sliceK 3 v0 none (some x6) none fun x7 =>
effK (mkE 3 24 [.s (.int .i64 0), .s (.int .i64 0), .s (.int .i64 0)] x7 x4 (List.length h)) h fun x8 h9 =>
lenK v0 fun x10 =>
sliceK 3 x8 none (some x10) none fun x11 =>
f_slices_Grow_Good_j2 P T D N K x11 h9) (
f_slices_Grow_Good_j2 P T D N K v0 h)
def f_slices_Grow_Good (P : Program) (T : Tab) (D : DTab) (N : Nat) {β : Type} (K : AV → Hp → Option β) (a0 : AV) (a1 : AV) (h : Hp) : Option β :=
arithK .lss a1 (.s (.int .i64 0)) fun x12 =>
condK x12 (
none) (
f_slices_Grow_Good_j1 P T D N K a0 a1 h)
theorem f_slices_Grow_Good_run (T : Tab) (D : DTab) (N : Nat) {β : Type} (K : AV → Hp → Option β) (a0 : AV) (a1 : AV) (h : Hp) : runK Try.prog T D N [0, 1, 4, 6, 16] Try.f49 K [a0, a1] h = f_slices_Grow_Good Try.prog T D N K a0 a1 h := by kernel_rfl
def f_slices_ContainsFunc_int (P : Program) (T : Tab) (D : DTab) (N : Nat) {β : Type} (K : AV → Hp → Option β) (a0 : AV) (a1 : AV) (h : Hp) : Option β :=
callK (T 68) [a0, a1] h fun x1 h2 =>
arithK .geq x1 (.s (.int .i64 0)) fun x3 =>
K x3 h2
theorem f_slices_ContainsFunc_int_run (T : Tab) (D : DTab) (N : Nat) {β : Type} (K : AV → Hp → Option β) (a0 : AV) (a1 : AV) (h : Hp) : runK Try.prog T D N [0, 1, 4] Try.f55 K [a0, a1] h = f_slices_ContainsFunc_int Try.prog T D N K a0 a1 h := by kernel_rfl
def f_receipt_right (P : Program) (T : Tab) (D : DTab) (N : Nat) {β : Type} (K : AV → Hp → Option β) (a0 : AV) (h : Hp) : Option β :=
callK (T 13) [a0] h fun x1 h2 =>
exK x1 0 fun x3 =>
exK x1 1 fun x4 =>
eqK P false 30 x4 (.s (.int .i64 0)) h2 fun x5 =>
K x5 h2
theorem f_receipt_right_run (T : Tab) (D : DTab) (N : Nat) {β : Type} (K : AV → Hp → Option β) (a0 : AV) (h : Hp) : runK Try.prog T D N [0, 2, 4] Try.f60 K [a0] h = f_receipt_right Try.prog T D N K a0 h := by kernel_rfl
def f_receipt_Compare_1 (P : Program) (T : Tab) (D : DTab) (N : Nat) {β : Type} (K : AV → Hp → Option β) (a0 : AV) (h : Hp) : Option β :=
callK (T 41) [a0, (.s (.int .i64 0)), (.s (.int .i64 10000))] h fun x1 h2 =>
notK x1 fun x3 =>
K x3 h2
theorem f_receipt_Compare_1_run (T : Tab) (D : DTab) (N : Nat) {β : Type} (K : AV → Hp → Option β) (a0 : AV) (h : Hp) : runK Try.prog T D N [0, 2] Try.f61 K [a0] h = f_receipt_Compare_1 Try.prog T D N K a0 h := by kernel_rfl
def f_receipt_merged (P : Program) (T : Tab) (D : DTab) (N : Nat) {β : Type} (K : AV → Hp → Option β) (a0 : AV) (a1 : AV) (h : Hp) : Option β :=
effK (boxE 1 a0 (List.length h)) h fun x1 h2 =>
effK (boxE 1 a1 (List.length h2)) h2 fun x3 h4 =>
K (.fn 69 [x1, x3]) h4
theorem f_receipt_merged_run (T : Tab) (D : DTab) (N : Nat) {β : Type} (K : AV → Hp → Option β) (a0 : AV) (a1 : AV) (h : Hp) : runK Try.prog T D N [0, 1, 2, 3, 4] Try.f62 K [a0, a1] h = f_receipt_merged Try.prog T D N K a0 a1 h := by kernel_rfl
def f_proportion_Of (P : Program) (T : Tab) (D : DTab) (N : Nat) {β : Type} (K : AV → Hp → Option β) (a0 : AV) (a1 : AV) (a2 : AV) (h : Hp) : Option β :=
effK (bsE 1 [.s (.int .i64 0)] 3 [(0, a0), (1, a1), (2, a2)] (List.length h)) h fun x1 h2 =>
callK (T 70) [x1] h2 fun x3 h4 =>
notK x3 fun x5 =>
condK x5 (
K (.tup [(.s (.int .i64 0)), (.s (.int .i64 0)), (.s (.int .i64 2))]) h4) (
eqK P false 3 a2 (.s (.int .i64 0)) h4 fun x6 =>
condK x6 (
K (.tup [(.s (.int .i64 0)), (.s (.int .i64 0)), (.s (.int .i64 16))]) h4) (
callK (T 71) [a0, a1, a2] h4 fun x7 h8 =>
exK x7 0 fun x9 =>
exK x7 1 fun x10 =>
exK x7 2 fun x11 =>
notK x11 fun x12 =>
condK x12 (
K (.tup [(.s (.int .i64 0)), (.s (.int .i64 0)), (.s (.int .i64 15))]) h8) (
K (.tup [x9, x10, (.s (.int .i64 0))]) h8)))
theorem f_proportion_Of_run (T : Tab) (D : DTab) (N : Nat) {β : Type} (K : AV → Hp → Option β) (a0 : AV) (a1 : AV) (a2 : AV) (h : Hp) : runK Try.prog T D N [0, 1, 2, 6, 7, 8, 9, 10, 11, 17, 19, 29] Try.f63 K [a0, a1, a2] h = f_proportion_Of Try.prog T D N K a0 a1 a2 h := by kernel_rfl
def f_loss_Split (P : Program) (T : Tab) (D : DTab) (N : Nat) {β : Type} (K : AV → Hp → Option β) (a0 : AV) (a1 : AV) (a2 : AV) (a3 : AV) (h : Hp) : Option β :=
effK (boxE 4 (.agg [.s (.int .i64 0), .s (.int .i64 0), .s (.int .i64 0), .s (.int .i64 0)]) (List.length h)) h fun x1 h2 =>
effK (bsE 1 [.s (.int .i64 0)] 4 [(0, a0), (1, a1), (2, a2), (3, a3)] (List.length h2)) h2 fun x3 h4 =>
callK (T 66) [x3] h4 fun x5 h6 =>
notK x5 fun x7 =>
condK x7 (
buildK [.s (.int .i64 0), .s (.int .i64 0), .s (.int .i64 0), .s (.int .i64 0)] [] fun x8 =>
effK (stE 4 x1 x8 h6) h6 fun x9 h10 =>
ldK 4 true x1 h10 fun r11 =>
K (.tup [r11, (.s (.int .i64 2))]) h10) (
callK (T 72) [a0, a1, a2, a3] h6 fun x12 h13 =>
effK (stE 4 x1 x12 h13) h13 fun x14 h15 =>
ldK 4 true x1 h15 fun r16 =>
K (.tup [r16, (.s (.int .i64 0))]) h15)
theorem f_loss_Split_run (T : Tab) (D : DTab) (N : Nat) {β : Type} (K : AV → Hp → Option β) (a0 : AV) (a1 : AV) (a2 : AV) (a3 : AV) (h : Hp) : runK Try.prog T D N [0, 1, 2, 3, 8, 9, 16] Try.f64 K [a0, a1, a2, a3] h = f_loss_Split Try.prog T D N K a0 a1 a2 a3 h := by kernel_rfl
def o_loss_amount_j1 (P : Program) (T : Tab) (D : DTab) (N : Nat) {β : Type} (K : AV → Hp → Option β) (t : Tm) (h : Hp) : Option β :=
K (.s (.bool true)) h
def o_loss_amount_L2 (P : Program) (T : Tab) (D : DTab) (N : Nat) {β : Type} (t : Tm) (h : Hp) (k : Ex → St → Option β) : Option β :=
arithK .lss (t 7) (t 6) fun x2 =>
condK x2 (
iaK 1 (t 5) (t 7) fun x3 =>
ldK 1 false x3 h fun x4 =>
arithK .lss x4 (.s (.int .i64 0)) fun x5 =>
grpK false x5 h (fun k6 =>
arithK .gtr x4 (.s (.int .i64 10737418240000)) fun x7 =>
k6 x7 h) fun x8 h9 =>
condK x8 (
k .ret ((upd (upd (upd (upd t 8 x2) 4 x4) 16 x8) 2 (.s (.bool false))), h9)) (
arithK .add (t 7) (.s (.int .i64 1)) fun x10 =>
k .normal ((upd (upd (upd (upd t 8 x2) 4 x4) 16 x8) 7 x10), h9))) (
k (.exit 0) ((upd t 8 x2), h))
def o_loss_amount_aL2 (P : Program) (T : Tab) (D : DTab) (N : Nat) {β : Type} (K : AV → Hp → Option β) (e : Ex) (s : St) : Option β :=
  e.on ((o_loss_amount_j1 P T D N K s.1 s.2))
  (fun i => bif i == 0 then ((o_loss_amount_j1 P T D N K s.1 s.2)) else (none))
  (K (s.1 2) s.2)
def o_loss_amount_G (P : Program) (T : Tab) (D : DTab) (N : Nat) {β : Type} (cL2 : St → Option β) (K : AV → Hp → Option β) (a0 : AV) (h : Hp) :  Option β :=
lenK a0 fun x1 =>
cL2 ((upd (upd (upd (upd (tm0 [a0]) 2 (.s (.bool false))) 5 a0) 6 x1) 7 (.s (.int .i64 0))), h)
def o_loss_amount (P : Program) (T : Tab) (D : DTab) (N : Nat) {β : Type} (K : AV → Hp → Option β) (a0 : AV) (h : Hp) : Option β := o_loss_amount_G P T D N (fun s => iterK (fun s k => o_loss_amount_L2 P T D N s.1 s.2 k) N s (o_loss_amount_aL2 P T D N K)) K a0 h
def f_loss_amount_j1 (P : Program) (T : Tab) (D : DTab) (N : Nat) {β : Type} (K : AV → Hp → Option β) (h : Hp) : Option β :=
K (.s (.bool true)) h
def f_loss_amount_b2 (P : Program) (T : Tab) (D : DTab) (N : Nat) {β : Type} (xn : AV → AV → AV → Hp → Option β) (x0 : Hp → Option β) (xr : AV → Hp → Option β) (v5 : AV) (v6 : AV) (v7 : AV) (h : Hp) : Option β :=
arithK .lss v7 v6 fun x2 =>
condK x2 (
iaK 1 v5 v7 fun x3 =>
ldK 1 false x3 h fun x4 =>
arithK .lss x4 (.s (.int .i64 0)) fun x5 =>
grpK false x5 h (fun k6 =>
arithK .gtr x4 (.s (.int .i64 10737418240000)) fun x7 =>
k6 x7 h) fun x8 h9 =>
condK x8 (
xr (.s (.bool false)) h9) (
arithK .add v7 (.s (.int .i64 1)) fun x10 =>
xn v5 v6 x10 h9)) (
x0 h)
def f_loss_amount_L2 (P : Program) (T : Tab) (D : DTab) (N : Nat) {β : Type} (x0 : Hp → Option β) (xr : AV → Hp → Option β) : Nat → AV → AV → AV → Hp → Option β
  | 0 => fun _ _ _ _ => none
  | n + 1 => fun v5 v6 v7 h => f_loss_amount_b2 P T D N (f_loss_amount_L2 P T D N x0 xr n) x0 xr v5 v6 v7 h
def f_loss_amount (P : Program) (T : Tab) (D : DTab) (N : Nat) {β : Type} (K : AV → Hp → Option β) (a0 : AV) (h : Hp) : Option β :=
lenK a0 fun x1 =>
f_loss_amount_L2 P T D N (fun h => f_loss_amount_j1 P T D N K h) (fun w12_2 h => K w12_2 h) N a0 x1 (.s (.int .i64 0)) h
theorem f_loss_amount_b2_eq (P : Program) (T : Tab) (D : DTab) (N : Nat) {β : Type} (xn : AV → AV → AV → Hp → Option β) (x0 : Hp → Option β) (xr : AV → Hp → Option β) (xd : Nat → St → Option β) (xq : St → Option β) (t : Tm) (h : Hp) : o_loss_amount_L2 P T D N t h (fun (e : Ex) (s : St) => e.on (xn (s.1 5) (s.1 6) (s.1 7) s.2) (fun i => (bif i == 0 then x0 s.2 else (xd i s))) (xr (s.1 2) s.2)) = f_loss_amount_b2 P T D N xn x0 xr (t 5) (t 6) (t 7) h := by kernel_rfl
theorem f_loss_amount_L2_eq (P : Program) (T : Tab) (D : DTab) (N : Nat) {β : Type} (A : Ex → St → Option β) (x0 : Hp → Option β) (xr : AV → Hp → Option β) (q0 : ∀ s, A (.exit 0) s = x0 s.2) (qr : ∀ s, A .ret s = xr (s.1 2) s.2) : ∀ (n : Nat) (s : St), iterK (fun s k => o_loss_amount_L2 P T D N s.1 s.2 k) n s A = f_loss_amount_L2 P T D N x0 xr n (s.1 5) (s.1 6) (s.1 7) s.2 := by
  intro n
  induction n with
  | zero => intro s; rfl
  | succ n ih =>
    intro s
    have hk : (fun (e : Ex) (s' : St) => Ex.on e (iterK (fun s k => o_loss_amount_L2 P T D N s.1 s.2 k) n s' A) (fun i => A (.exit i) s') (A .ret s')) = (fun (e : Ex) (s : St) => e.on ((f_loss_amount_L2 P T D N x0 xr n) (s.1 5) (s.1 6) (s.1 7) s.2) (fun i => (bif i == 0 then x0 s.2 else (A (.exit i) s))) (xr (s.1 2) s.2)) := by
      funext e s'
      cases e with
      | normal => exact ih s'
      | ret => exact qr s'
      | exit i =>
        by_cases r0 : i = 0
        · subst r0; exact q0 s'
        simp only [Ex.on, beq_false_of_ne r0, cond_false]
    show o_loss_amount_L2 P T D N s.1 s.2 (fun (e : Ex) (s' : St) => Ex.on e (iterK (fun s k => o_loss_amount_L2 P T D N s.1 s.2 k) n s' A) (fun i => A (.exit i) s') (A .ret s')) = _
    rw [hk]
    exact f_loss_amount_b2_eq P T D N (f_loss_amount_L2 P T D N x0 xr n) x0 xr (fun i s => A (.exit i) s) (fun s => A .ret s) s.1 s.2
theorem f_loss_amount_old_eq (P : Program) (T : Tab) (D : DTab) (N : Nat) {β : Type} (K : AV → Hp → Option β) (a0 : AV) (h : Hp) : o_loss_amount P T D N K a0 h = f_loss_amount P T D N K a0 h := by
  have eL2 : (fun s : St => iterK (fun s k => o_loss_amount_L2 P T D N s.1 s.2 k) N s (o_loss_amount_aL2 P T D N K)) = (fun s : St => f_loss_amount_L2 P T D N (fun h => f_loss_amount_j1 P T D N K h) (fun w12_2 h => K w12_2 h) N (s.1 5) (s.1 6) (s.1 7) s.2) := funext fun s => f_loss_amount_L2_eq P T D N (o_loss_amount_aL2 P T D N K) (fun h => f_loss_amount_j1 P T D N K h) (fun w12_2 h => K w12_2 h) (fun s => rfl) (fun s => rfl) N s
  show o_loss_amount_G P T D N (fun s => iterK (fun s k => o_loss_amount_L2 P T D N s.1 s.2 k) N s (o_loss_amount_aL2 P T D N K)) K a0 h = _
  rw [eL2]
  kernel_rfl
theorem o_loss_amount_run (T : Tab) (D : DTab) (N : Nat) {β : Type} (K : AV → Hp → Option β) (a0 : AV) (h : Hp) : runK Try.prog T D N [0, 2, 4, 5, 6, 7, 8, 16] Try.f66 K [a0] h = o_loss_amount Try.prog T D N K a0 h := by kernel_rfl
theorem f_loss_amount_run (T : Tab) (D : DTab) (N : Nat) {β : Type} (K : AV → Hp → Option β) (a0 : AV) (h : Hp) : runK Try.prog T D N [0, 2, 4, 5, 6, 7, 8, 16] Try.f66 K [a0] h = f_loss_amount Try.prog T D N K a0 h := (o_loss_amount_run T D N K a0 h).trans (f_loss_amount_old_eq Try.prog T D N K a0 h)
def o_slices_IndexFunc_int_j1 (P : Program) (T : Tab) (D : DTab) (N : Nat) {β : Type} (K : AV → Hp → Option β) (t : Tm) (h : Hp) : Option β :=
K (.s (.int .i64 (-1))) h
def o_slices_IndexFunc_int_L2 (P : Program) (T : Tab) (D : DTab) (N : Nat) {β : Type} (t : Tm) (h : Hp) (k : Ex → St → Option β) : Option β :=
arithK .lss (t 8) (t 7) fun x2 =>
condK x2 (
iaK 1 (t 0) (t 8) fun x3 =>
ldK 1 false x3 h fun x4 =>
callVK T (t 1) [x4] h fun x5 h6 =>
condK x5 (
k .ret ((upd (upd (upd (upd t 9 x2) 5 (t 8)) 16 x5) 4 (t 8)), h6)) (
arithK .add (t 8) (.s (.int .i64 1)) fun x7 =>
k .normal ((upd (upd (upd (upd t 9 x2) 5 (t 8)) 16 x5) 8 x7), h6))) (
k (.exit 0) ((upd t 9 x2), h))
def o_slices_IndexFunc_int_aL2 (P : Program) (T : Tab) (D : DTab) (N : Nat) {β : Type} (K : AV → Hp → Option β) (e : Ex) (s : St) : Option β :=
  e.on ((o_slices_IndexFunc_int_j1 P T D N K s.1 s.2))
  (fun i => bif i == 0 then ((o_slices_IndexFunc_int_j1 P T D N K s.1 s.2)) else (none))
  (K (s.1 4) s.2)
def o_slices_IndexFunc_int_G (P : Program) (T : Tab) (D : DTab) (N : Nat) {β : Type} (cL2 : St → Option β) (K : AV → Hp → Option β) (a0 : AV) (a1 : AV) (h : Hp) :  Option β :=
lenK a0 fun x1 =>
cL2 ((upd (upd (upd (tm0 [a0, a1]) 4 (.s (.int .i64 0))) 7 x1) 8 (.s (.int .i64 0))), h)
def o_slices_IndexFunc_int (P : Program) (T : Tab) (D : DTab) (N : Nat) {β : Type} (K : AV → Hp → Option β) (a0 : AV) (a1 : AV) (h : Hp) : Option β := o_slices_IndexFunc_int_G P T D N (fun s => iterK (fun s k => o_slices_IndexFunc_int_L2 P T D N s.1 s.2 k) N s (o_slices_IndexFunc_int_aL2 P T D N K)) K a0 a1 h
def f_slices_IndexFunc_int_j1 (P : Program) (T : Tab) (D : DTab) (N : Nat) {β : Type} (K : AV → Hp → Option β) (h : Hp) : Option β :=
K (.s (.int .i64 (-1))) h
def f_slices_IndexFunc_int_b2 (P : Program) (T : Tab) (D : DTab) (N : Nat) {β : Type} (xn : AV → AV → AV → AV → Hp → Option β) (x0 : Hp → Option β) (xr : AV → Hp → Option β) (v0 : AV) (v1 : AV) (v7 : AV) (v8 : AV) (h : Hp) : Option β :=
arithK .lss v8 v7 fun x2 =>
condK x2 (
iaK 1 v0 v8 fun x3 =>
ldK 1 false x3 h fun x4 =>
callVK T v1 [x4] h fun x5 h6 =>
condK x5 (
xr v8 h6) (
arithK .add v8 (.s (.int .i64 1)) fun x7 =>
xn v0 v1 v7 x7 h6)) (
x0 h)
def f_slices_IndexFunc_int_L2 (P : Program) (T : Tab) (D : DTab) (N : Nat) {β : Type} (x0 : Hp → Option β) (xr : AV → Hp → Option β) : Nat → AV → AV → AV → AV → Hp → Option β
  | 0 => fun _ _ _ _ _ => none
  | n + 1 => fun v0 v1 v7 v8 h => f_slices_IndexFunc_int_b2 P T D N (f_slices_IndexFunc_int_L2 P T D N x0 xr n) x0 xr v0 v1 v7 v8 h
def f_slices_IndexFunc_int (P : Program) (T : Tab) (D : DTab) (N : Nat) {β : Type} (K : AV → Hp → Option β) (a0 : AV) (a1 : AV) (h : Hp) : Option β :=
lenK a0 fun x1 =>
f_slices_IndexFunc_int_L2 P T D N (fun h => f_slices_IndexFunc_int_j1 P T D N K h) (fun w9_4 h => K w9_4 h) N a0 a1 x1 (.s (.int .i64 0)) h
theorem f_slices_IndexFunc_int_b2_eq (P : Program) (T : Tab) (D : DTab) (N : Nat) {β : Type} (xn : AV → AV → AV → AV → Hp → Option β) (x0 : Hp → Option β) (xr : AV → Hp → Option β) (xd : Nat → St → Option β) (xq : St → Option β) (t : Tm) (h : Hp) : o_slices_IndexFunc_int_L2 P T D N t h (fun (e : Ex) (s : St) => e.on (xn (s.1 0) (s.1 1) (s.1 7) (s.1 8) s.2) (fun i => (bif i == 0 then x0 s.2 else (xd i s))) (xr (s.1 4) s.2)) = f_slices_IndexFunc_int_b2 P T D N xn x0 xr (t 0) (t 1) (t 7) (t 8) h := by kernel_rfl
theorem f_slices_IndexFunc_int_L2_eq (P : Program) (T : Tab) (D : DTab) (N : Nat) {β : Type} (A : Ex → St → Option β) (x0 : Hp → Option β) (xr : AV → Hp → Option β) (q0 : ∀ s, A (.exit 0) s = x0 s.2) (qr : ∀ s, A .ret s = xr (s.1 4) s.2) : ∀ (n : Nat) (s : St), iterK (fun s k => o_slices_IndexFunc_int_L2 P T D N s.1 s.2 k) n s A = f_slices_IndexFunc_int_L2 P T D N x0 xr n (s.1 0) (s.1 1) (s.1 7) (s.1 8) s.2 := by
  intro n
  induction n with
  | zero => intro s; rfl
  | succ n ih =>
    intro s
    have hk : (fun (e : Ex) (s' : St) => Ex.on e (iterK (fun s k => o_slices_IndexFunc_int_L2 P T D N s.1 s.2 k) n s' A) (fun i => A (.exit i) s') (A .ret s')) = (fun (e : Ex) (s : St) => e.on ((f_slices_IndexFunc_int_L2 P T D N x0 xr n) (s.1 0) (s.1 1) (s.1 7) (s.1 8) s.2) (fun i => (bif i == 0 then x0 s.2 else (A (.exit i) s))) (xr (s.1 4) s.2)) := by
      funext e s'
      cases e with
      | normal => exact ih s'
      | ret => exact qr s'
      | exit i =>
        by_cases r0 : i = 0
        · subst r0; exact q0 s'
        simp only [Ex.on, beq_false_of_ne r0, cond_false]
    show o_slices_IndexFunc_int_L2 P T D N s.1 s.2 (fun (e : Ex) (s' : St) => Ex.on e (iterK (fun s k => o_slices_IndexFunc_int_L2 P T D N s.1 s.2 k) n s' A) (fun i => A (.exit i) s') (A .ret s')) = _
    rw [hk]
    exact f_slices_IndexFunc_int_b2_eq P T D N (f_slices_IndexFunc_int_L2 P T D N x0 xr n) x0 xr (fun i s => A (.exit i) s) (fun s => A .ret s) s.1 s.2
theorem f_slices_IndexFunc_int_old_eq (P : Program) (T : Tab) (D : DTab) (N : Nat) {β : Type} (K : AV → Hp → Option β) (a0 : AV) (a1 : AV) (h : Hp) : o_slices_IndexFunc_int P T D N K a0 a1 h = f_slices_IndexFunc_int P T D N K a0 a1 h := by
  have eL2 : (fun s : St => iterK (fun s k => o_slices_IndexFunc_int_L2 P T D N s.1 s.2 k) N s (o_slices_IndexFunc_int_aL2 P T D N K)) = (fun s : St => f_slices_IndexFunc_int_L2 P T D N (fun h => f_slices_IndexFunc_int_j1 P T D N K h) (fun w9_4 h => K w9_4 h) N (s.1 0) (s.1 1) (s.1 7) (s.1 8) s.2) := funext fun s => f_slices_IndexFunc_int_L2_eq P T D N (o_slices_IndexFunc_int_aL2 P T D N K) (fun h => f_slices_IndexFunc_int_j1 P T D N K h) (fun w9_4 h => K w9_4 h) (fun s => rfl) (fun s => rfl) N s
  show o_slices_IndexFunc_int_G P T D N (fun s => iterK (fun s k => o_slices_IndexFunc_int_L2 P T D N s.1 s.2 k) N s (o_slices_IndexFunc_int_aL2 P T D N K)) K a0 a1 h = _
  rw [eL2]
  kernel_rfl
theorem o_slices_IndexFunc_int_run (T : Tab) (D : DTab) (N : Nat) {β : Type} (K : AV → Hp → Option β) (a0 : AV) (a1 : AV) (h : Hp) : runK Try.prog T D N [0, 1, 4, 5, 7, 8, 9, 16] Try.f68 K [a0, a1] h = o_slices_IndexFunc_int Try.prog T D N K a0 a1 h := by kernel_rfl
theorem f_slices_IndexFunc_int_run (T : Tab) (D : DTab) (N : Nat) {β : Type} (K : AV → Hp → Option β) (a0 : AV) (a1 : AV) (h : Hp) : runK Try.prog T D N [0, 1, 4, 5, 7, 8, 9, 16] Try.f68 K [a0, a1] h = f_slices_IndexFunc_int Try.prog T D N K a0 a1 h := (o_slices_IndexFunc_int_run T D N K a0 a1 h).trans (f_slices_IndexFunc_int_old_eq Try.prog T D N K a0 a1 h)
def o_receipt_merged_1_j1 (P : Program) (T : Tab) (D : DTab) (N : Nat) {β : Type} (K : AV → Hp → Option β) (t : Tm) (h : Hp) : Option β :=
K (.tup []) h
def o_receipt_merged_1_j6 (P : Program) (T : Tab) (D : DTab) (N : Nat) {β : Type} (k : Ex → St → Option β) (t : Tm) (h : Hp) : Option β :=
ldK 3 true (t 6) h fun x56 =>
ldK 3 true (t 7) h fun x57 =>
callVK T (t 0) [x56, x57] h fun x58 h59 =>
notK x58 fun x60 =>
condK x60 (
k .ret ((upd t 86 x60), h59)) (
k .normal ((upd t 86 x60), h59))
def o_receipt_merged_1_j5 (P : Program) (T : Tab) (D : DTab) (N : Nat) {β : Type} (k : Ex → St → Option β) (t : Tm) (h : Hp) : Option β :=
condK (t 9) (
arithK .add (t 5) (.s (.int .i64 1)) fun x61 =>
(o_receipt_merged_1_j6 P T D N k (upd (upd t 79 (t 9)) 5 x61) h)) (
(o_receipt_merged_1_j6 P T D N k (upd t 79 (t 9)) h))
def o_receipt_merged_1_j4 (P : Program) (T : Tab) (D : DTab) (N : Nat) {β : Type} (k : Ex → St → Option β) (t : Tm) (h : Hp) : Option β :=
condK (t 8) (
arithK .add (t 4) (.s (.int .i64 1)) fun x62 =>
(o_receipt_merged_1_j5 P T D N k (upd (upd t 76 (t 8)) 4 x62) h)) (
(o_receipt_merged_1_j5 P T D N k (upd t 76 (t 8)) h))
def o_receipt_merged_1_j3 (P : Program) (T : Tab) (D : DTab) (N : Nat) {β : Type} (k : Ex → St → Option β) (t : Tm) (h : Hp) : Option β :=
condK (t 9) (
ldK 1 false (t 2) h fun x63 =>
iaK 3 x63 (t 5) fun x64 =>
ldK 3 true x64 h fun x65 =>
effK (stE 3 (t 7) x65 h) h fun x66 h67 =>
(o_receipt_merged_1_j4 P T D N k (upd t 71 (t 9)) h67)) (
(o_receipt_merged_1_j4 P T D N k (upd t 71 (t 9)) h))
def o_receipt_merged_1_L2 (P : Program) (T : Tab) (D : DTab) (N : Nat) {β : Type} (t : Tm) (h : Hp) (k : Ex → St → Option β) : Option β :=
ldK 1 false (t 1) h fun x1 =>
lenK x1 fun x2 =>
arithK .lss (t 4) x2 fun x3 =>
grpK false x3 h (fun k4 =>
ldK 1 false (t 2) h fun x5 =>
lenK x5 fun x6 =>
arithK .lss (t 5) x6 fun x7 =>
k4 x7 h) fun x8 h9 =>
condK x8 (
effK (boxE 3 (.agg [.s (.int .i64 0), .s (.int .i64 0), .s (.int .i64 0)]) (List.length h9)) h9 fun x10 h11 =>
effK (boxE 3 (.agg [.s (.int .i64 0), .s (.int .i64 0), .s (.int .i64 0)]) (List.length h11)) h11 fun x12 h13 =>
ldK 1 false (t 2) h13 fun x14 =>
lenK x14 fun x15 =>
eqK P false 3 (t 5) x15 h13 fun x16 =>
grpK false x16 h13 (fun k17 =>
ldK 1 false (t 1) h13 fun x18 =>
lenK x18 fun x19 =>
arithK .lss (t 4) x19 fun x20 =>
grpK true x20 h13 (fun k21 =>
ldK 1 false (t 1) h13 fun x22 =>
iaK 3 x22 (t 4) fun x23 =>
faK 0 x23 fun x24 =>
ldK 1 false x24 h13 fun x25 =>
ldK 1 false (t 2) h13 fun x26 =>
iaK 3 x26 (t 5) fun x27 =>
faK 0 x27 fun x28 =>
ldK 1 false x28 h13 fun x29 =>
arithK .leq x25 x29 fun x30 =>
k21 x30 h13) fun x31 h32 =>
k17 x31 h32) fun x33 h34 =>
ldK 1 false (t 1) h34 fun x35 =>
lenK x35 fun x36 =>
eqK P false 3 (t 4) x36 h34 fun x37 =>
grpK false x37 h34 (fun k38 =>
ldK 1 false (t 2) h34 fun x39 =>
lenK x39 fun x40 =>
arithK .lss (t 5) x40 fun x41 =>
grpK true x41 h34 (fun k42 =>
ldK 1 false (t 2) h34 fun x43 =>
iaK 3 x43 (t 5) fun x44 =>
faK 0 x44 fun x45 =>
ldK 1 false x45 h34 fun x46 =>
ldK 1 false (t 1) h34 fun x47 =>
iaK 3 x47 (t 4) fun x48 =>
faK 0 x48 fun x49 =>
ldK 1 false x49 h34 fun x50 =>
arithK .leq x46 x50 fun x51 =>
k42 x51 h34) fun x52 h53 =>
k38 x52 h53) fun x54 h55 =>
condK x33 (
ldK 1 false (t 1) h55 fun x68 =>
iaK 3 x68 (t 4) fun x69 =>
ldK 3 true x69 h55 fun x70 =>
effK (stE 3 x10 x70 h55) h55 fun x71 h72 =>
(o_receipt_merged_1_j3 P T D N k (upd (upd (upd (upd (upd (upd t 19 x8) 6 x10) 7 x12) 8 x33) 9 x54) 66 x33) h72)) (
(o_receipt_merged_1_j3 P T D N k (upd (upd (upd (upd (upd (upd t 19 x8) 6 x10) 7 x12) 8 x33) 9 x54) 66 x33) h55))) (
k (.exit 0) ((upd t 19 x8), h9))
def o_receipt_merged_1_aL2 (P : Program) (T : Tab) (D : DTab) (N : Nat) {β : Type} (K : AV → Hp → Option β) (e : Ex) (s : St) : Option β :=
  e.on ((o_receipt_merged_1_j1 P T D N K s.1 s.2))
  (fun i => bif i == 0 then ((o_receipt_merged_1_j1 P T D N K s.1 s.2)) else (none))
  (K (.tup []) s.2)
def o_receipt_merged_1_G (P : Program) (T : Tab) (D : DTab) (N : Nat) {β : Type} (cL2 : St → Option β) (K : AV → Hp → Option β) (a0 : AV) (a1 : AV) (a2 : AV) (h : Hp) :  Option β :=
cL2 ((upd (upd (tm0 [a0, a1, a2]) 4 (.s (.int .i64 0))) 5 (.s (.int .i64 0))), h)
def o_receipt_merged_1 (P : Program) (T : Tab) (D : DTab) (N : Nat) {β : Type} (K : AV → Hp → Option β) (a0 : AV) (a1 : AV) (a2 : AV) (h : Hp) : Option β := o_receipt_merged_1_G P T D N (fun s => iterK (fun s k => o_receipt_merged_1_L2 P T D N s.1 s.2 k) N s (o_receipt_merged_1_aL2 P T D N K)) K a0 a1 a2 h
def f_receipt_merged_1_j1 (P : Program) (T : Tab) (D : DTab) (N : Nat) {β : Type} (K : AV → Hp → Option β) (h : Hp) : Option β :=
K (.tup []) h
def f_receipt_merged_1_j6 (P : Program) (T : Tab) (D : DTab) (N : Nat) {β : Type} (xn : AV → AV → AV → AV → AV → Hp → Option β) (x0 : Hp → Option β) (xr : Hp → Option β) (v0 : AV) (v1 : AV) (v2 : AV) (v4 : AV) (v5 : AV) (v6 : AV) (v7 : AV) (h : Hp) : Option β :=
ldK 3 true v6 h fun x56 =>
ldK 3 true v7 h fun x57 =>
callVK T v0 [x56, x57] h fun x58 h59 =>
notK x58 fun x60 =>
condK x60 (
xr h59) (
xn v0 v1 v2 v4 v5 h59)
def f_receipt_merged_1_j5 (P : Program) (T : Tab) (D : DTab) (N : Nat) {β : Type} (xn : AV → AV → AV → AV → AV → Hp → Option β) (x0 : Hp → Option β) (xr : Hp → Option β) (v0 : AV) (v1 : AV) (v2 : AV) (v4 : AV) (v5 : AV) (v6 : AV) (v7 : AV) (v9 : AV) (h : Hp) : Option β :=
condK v9 (
arithK .add v5 (.s (.int .i64 1)) fun x61 =>
f_receipt_merged_1_j6 P T D N xn x0 xr v0 v1 v2 v4 x61 v6 v7 h) (
f_receipt_merged_1_j6 P T D N xn x0 xr v0 v1 v2 v4 v5 v6 v7 h)
def f_receipt_merged_1_j4 (P : Program) (T : Tab) (D : DTab) (N : Nat) {β : Type} (xn : AV → AV → AV → AV → AV → Hp → Option β) (x0 : Hp → Option β) (xr : Hp → Option β) (v0 : AV) (v1 : AV) (v2 : AV) (v4 : AV) (v5 : AV) (v6 : AV) (v7 : AV) (v8 : AV) (v9 : AV) (h : Hp) : Option β :=
condK v8 (
arithK .add v4 (.s (.int .i64 1)) fun x62 =>
f_receipt_merged_1_j5 P T D N xn x0 xr v0 v1 v2 x62 v5 v6 v7 v9 h) (
f_receipt_merged_1_j5 P T D N xn x0 xr v0 v1 v2 v4 v5 v6 v7 v9 h)
def f_receipt_merged_1_j3 (P : Program) (T : Tab) (D : DTab) (N : Nat) {β : Type} (xn : AV → AV → AV → AV → AV → Hp → Option β) (x0 : Hp → Option β) (xr : Hp → Option β) (v0 : AV) (v1 : AV) (v2 : AV) (v4 : AV) (v5 : AV) (v6 : AV) (v7 : AV) (v8 : AV) (v9 : AV) (h : Hp) : Option β :=
condK v9 (
ldK 1 false v2 h fun x63 =>
iaK 3 x63 v5 fun x64 =>
ldK 3 true x64 h fun x65 =>
effK (stE 3 v7 x65 h) h fun x66 h67 =>
f_receipt_merged_1_j4 P T D N xn x0 xr v0 v1 v2 v4 v5 v6 v7 v8 v9 h67) (
f_receipt_merged_1_j4 P T D N xn x0 xr v0 v1 v2 v4 v5 v6 v7 v8 v9 h)
def f_receipt_merged_1_b2 (P : Program) (T : Tab) (D : DTab) (N : Nat) {β : Type} (xn : AV → AV → AV → AV → AV → Hp → Option β) (x0 : Hp → Option β) (xr : Hp → Option β) (v0 : AV) (v1 : AV) (v2 : AV) (v4 : AV) (v5 : AV) (h : Hp) : Option β :=
ldK 1 false v1 h fun x1 =>
lenK x1 fun x2 =>
arithK .lss v4 x2 fun x3 =>
grpK false x3 h (fun k4 =>
ldK 1 false v2 h fun x5 =>
lenK x5 fun x6 =>
arithK .lss v5 x6 fun x7 =>
k4 x7 h) fun x8 h9 =>
condK x8 (
effK (boxE 3 (.agg [.s (.int .i64 0), .s (.int .i64 0), .s (.int .i64 0)]) (List.length h9)) h9 fun x10 h11 =>
effK (boxE 3 (.agg [.s (.int .i64 0), .s (.int .i64 0), .s (.int .i64 0)]) (List.length h11)) h11 fun x12 h13 =>
ldK 1 false v2 h13 fun x14 =>
lenK x14 fun x15 =>
eqK P false 3 v5 x15 h13 fun x16 =>
grpK false x16 h13 (fun k17 =>
ldK 1 false v1 h13 fun x18 =>
lenK x18 fun x19 =>
arithK .lss v4 x19 fun x20 =>
grpK true x20 h13 (fun k21 =>
ldK 1 false v1 h13 fun x22 =>
iaK 3 x22 v4 fun x23 =>
faK 0 x23 fun x24 =>
ldK 1 false x24 h13 fun x25 =>
ldK 1 false v2 h13 fun x26 =>
iaK 3 x26 v5 fun x27 =>
faK 0 x27 fun x28 =>
ldK 1 false x28 h13 fun x29 =>
arithK .leq x25 x29 fun x30 =>
k21 x30 h13) fun x31 h32 =>
k17 x31 h32) fun x33 h34 =>
ldK 1 false v1 h34 fun x35 =>
lenK x35 fun x36 =>
eqK P false 3 v4 x36 h34 fun x37 =>
grpK false x37 h34 (fun k38 =>
ldK 1 false v2 h34 fun x39 =>
lenK x39 fun x40 =>
arithK .lss v5 x40 fun x41 =>
grpK true x41 h34 (fun k42 =>
ldK 1 false v2 h34 fun x43 =>
iaK 3 x43 v5 fun x44 =>
faK 0 x44 fun x45 =>
ldK 1 false x45 h34 fun x46 =>
ldK 1 false v1 h34 fun x47 =>
iaK 3 x47 v4 fun x48 =>
faK 0 x48 fun x49 =>
ldK 1 false x49 h34 fun x50 =>
arithK .leq x46 x50 fun x51 =>
k42 x51 h34) fun x52 h53 =>
k38 x52 h53) fun x54 h55 =>
condK x33 (
ldK 1 false v1 h55 fun x68 =>
iaK 3 x68 v4 fun x69 =>
ldK 3 true x69 h55 fun x70 =>
effK (stE 3 x10 x70 h55) h55 fun x71 h72 =>
f_receipt_merged_1_j3 P T D N xn x0 xr v0 v1 v2 v4 v5 x10 x12 x33 x54 h72) (
f_receipt_merged_1_j3 P T D N xn x0 xr v0 v1 v2 v4 v5 x10 x12 x33 x54 h55)) (
x0 h9)
def f_receipt_merged_1_L2 (P : Program) (T : Tab) (D : DTab) (N : Nat) {β : Type} (x0 : Hp → Option β) (xr : Hp → Option β) : Nat → AV → AV → AV → AV → AV → Hp → Option β
  | 0 => fun _ _ _ _ _ _ => none
  | n + 1 => fun v0 v1 v2 v4 v5 h => f_receipt_merged_1_b2 P T D N (f_receipt_merged_1_L2 P T D N x0 xr n) x0 xr v0 v1 v2 v4 v5 h
def f_receipt_merged_1 (P : Program) (T : Tab) (D : DTab) (N : Nat) {β : Type} (K : AV → Hp → Option β) (a0 : AV) (a1 : AV) (a2 : AV) (h : Hp) : Option β :=
f_receipt_merged_1_L2 P T D N (fun h => f_receipt_merged_1_j1 P T D N K h) (fun h => K (.tup []) h) N a0 a1 a2 (.s (.int .i64 0)) (.s (.int .i64 0)) h
theorem f_receipt_merged_1_b2_eq (P : Program) (T : Tab) (D : DTab) (N : Nat) {β : Type} (xn : AV → AV → AV → AV → AV → Hp → Option β) (x0 : Hp → Option β) (xr : Hp → Option β) (xd : Nat → St → Option β) (xq : St → Option β) (t : Tm) (h : Hp) : o_receipt_merged_1_L2 P T D N t h (fun (e : Ex) (s : St) => e.on (xn (s.1 0) (s.1 1) (s.1 2) (s.1 4) (s.1 5) s.2) (fun i => (bif i == 0 then x0 s.2 else (xd i s))) (xr s.2)) = f_receipt_merged_1_b2 P T D N xn x0 xr (t 0) (t 1) (t 2) (t 4) (t 5) h := by kernel_rfl
theorem f_receipt_merged_1_L2_eq (P : Program) (T : Tab) (D : DTab) (N : Nat) {β : Type} (A : Ex → St → Option β) (x0 : Hp → Option β) (xr : Hp → Option β) (q0 : ∀ s, A (.exit 0) s = x0 s.2) (qr : ∀ s, A .ret s = xr s.2) : ∀ (n : Nat) (s : St), iterK (fun s k => o_receipt_merged_1_L2 P T D N s.1 s.2 k) n s A = f_receipt_merged_1_L2 P T D N x0 xr n (s.1 0) (s.1 1) (s.1 2) (s.1 4) (s.1 5) s.2 := by
  intro n
  induction n with
  | zero => intro s; rfl
  | succ n ih =>
    intro s
    have hk : (fun (e : Ex) (s' : St) => Ex.on e (iterK (fun s k => o_receipt_merged_1_L2 P T D N s.1 s.2 k) n s' A) (fun i => A (.exit i) s') (A .ret s')) = (fun (e : Ex) (s : St) => e.on ((f_receipt_merged_1_L2 P T D N x0 xr n) (s.1 0) (s.1 1) (s.1 2) (s.1 4) (s.1 5) s.2) (fun i => (bif i == 0 then x0 s.2 else (A (.exit i) s))) (xr s.2)) := by
      funext e s'
      cases e with
      | normal => exact ih s'
      | ret => exact qr s'
      | exit i =>
        by_cases r0 : i = 0
        · subst r0; exact q0 s'
        simp only [Ex.on, beq_false_of_ne r0, cond_false]
    show o_receipt_merged_1_L2 P T D N s.1 s.2 (fun (e : Ex) (s' : St) => Ex.on e (iterK (fun s k => o_receipt_merged_1_L2 P T D N s.1 s.2 k) n s' A) (fun i => A (.exit i) s') (A .ret s')) = _
    rw [hk]
    exact f_receipt_merged_1_b2_eq P T D N (f_receipt_merged_1_L2 P T D N x0 xr n) x0 xr (fun i s => A (.exit i) s) (fun s => A .ret s) s.1 s.2
theorem f_receipt_merged_1_old_eq (P : Program) (T : Tab) (D : DTab) (N : Nat) {β : Type} (K : AV → Hp → Option β) (a0 : AV) (a1 : AV) (a2 : AV) (h : Hp) : o_receipt_merged_1 P T D N K a0 a1 a2 h = f_receipt_merged_1 P T D N K a0 a1 a2 h := by
  have eL2 : (fun s : St => iterK (fun s k => o_receipt_merged_1_L2 P T D N s.1 s.2 k) N s (o_receipt_merged_1_aL2 P T D N K)) = (fun s : St => f_receipt_merged_1_L2 P T D N (fun h => f_receipt_merged_1_j1 P T D N K h) (fun h => K (.tup []) h) N (s.1 0) (s.1 1) (s.1 2) (s.1 4) (s.1 5) s.2) := funext fun s => f_receipt_merged_1_L2_eq P T D N (o_receipt_merged_1_aL2 P T D N K) (fun h => f_receipt_merged_1_j1 P T D N K h) (fun h => K (.tup []) h) (fun s => rfl) (fun s => rfl) N s
  show o_receipt_merged_1_G P T D N (fun s => iterK (fun s k => o_receipt_merged_1_L2 P T D N s.1 s.2 k) N s (o_receipt_merged_1_aL2 P T D N K)) K a0 a1 a2 h = _
  rw [eL2]
  kernel_rfl
theorem o_receipt_merged_1_run (T : Tab) (D : DTab) (N : Nat) {β : Type} (K : AV → Hp → Option β) (a0 : AV) (a1 : AV) (a2 : AV) (h : Hp) : runK Try.prog T D N [0, 1, 2, 4, 5, 6, 7, 8, 9, 19, 66, 71, 76, 79, 86] Try.f69 K [a0, a1, a2] h = o_receipt_merged_1 Try.prog T D N K a0 a1 a2 h := by kernel_rfl
theorem f_receipt_merged_1_run (T : Tab) (D : DTab) (N : Nat) {β : Type} (K : AV → Hp → Option β) (a0 : AV) (a1 : AV) (a2 : AV) (h : Hp) : runK Try.prog T D N [0, 1, 2, 4, 5, 6, 7, 8, 9, 19, 66, 71, 76, 79, 86] Try.f69 K [a0, a1, a2] h = f_receipt_merged_1 Try.prog T D N K a0 a1 a2 h := (o_receipt_merged_1_run T D N K a0 a1 a2 h).trans (f_receipt_merged_1_old_eq Try.prog T D N K a0 a1 a2 h)
def f_proportion_amounts (P : Program) (T : Tab) (D : DTab) (N : Nat) {β : Type} (K : AV → Hp → Option β) (a0 : AV) (h : Hp) : Option β :=
callK (T 55) [a0, (.fn 76 [])] h fun x1 h2 =>
notK x1 fun x3 =>
K x3 h2
theorem f_proportion_amounts_run (T : Tab) (D : DTab) (N : Nat) {β : Type} (K : AV → Hp → Option β) (a0 : AV) (h : Hp) : runK Try.prog T D N [0, 2] Try.f70 K [a0] h = f_proportion_amounts Try.prog T D N K a0 h := by kernel_rfl
def f_proportion_divided (P : Program) (T : Tab) (D : DTab) (N : Nat) {β : Type} (K : AV → Hp → Option β) (a0 : AV) (a1 : AV) (a2 : AV) (h : Hp) : Option β :=
callK (T 78) [a0, a1] h fun x1 h2 =>
effK (boxE 2 (.agg [.s (.int .u64 0), .s (.int .u64 0)]) (List.length h2)) h2 fun x3 h4 =>
effK (stE 2 x3 x1 h4) h4 fun x5 h6 =>
iaA 1 2 x3 (.s (.int .i64 0)) fun x7 =>
ldK 1 false x7 h6 fun x8 =>
convK P 3 99 a2 fun x9 =>
arithK .geq x8 x9 fun x10 =>
condK x10 (
K (.tup [(.s (.int .i64 0)), (.s (.int .i64 0)), (.s (.bool false))]) h6) (
iaA 1 2 x3 (.s (.int .i64 0)) fun x11 =>
ldK 1 false x11 h6 fun x12 =>
iaA 1 2 x3 (.s (.int .i64 1)) fun x13 =>
ldK 1 false x13 h6 fun x14 =>
convK P 3 99 a2 fun x15 =>
callK (T 79) [x12, x14, x15] h6 fun x16 h17 =>
exK x16 0 fun x18 =>
exK x16 1 fun x19 =>
arithK .gtr x18 (.s (.int .u64 128849018880000)) fun x20 =>
condK x20 (
K (.tup [(.s (.int .i64 0)), (.s (.int .i64 0)), (.s (.bool false))]) h17) (
convK P 99 3 x18 fun x21 =>
convK P 99 3 x19 fun x22 =>
K (.tup [x21, x22, (.s (.bool true))]) h17))
theorem f_proportion_divided_run (T : Tab) (D : DTab) (N : Nat) {β : Type} (K : AV → Hp → Option β) (a0 : AV) (a1 : AV) (a2 : AV) (h : Hp) : runK Try.prog T D N [0, 1, 2, 6, 7, 8, 9, 10, 11, 19, 31] Try.f71 K [a0, a1, a2] h = f_proportion_divided Try.prog T D N K a0 a1 a2 h := by kernel_rfl
def f_loss_split (P : Program) (T : Tab) (D : DTab) (N : Nat) {β : Type} (K : AV → Hp → Option β) (a0 : AV) (a1 : AV) (a2 : AV) (a3 : AV) (h : Hp) : Option β :=
effK (boxE 4 (.agg [.s (.int .i64 0), .s (.int .i64 0), .s (.int .i64 0), .s (.int .i64 0)]) (List.length h)) h fun x1 h2 =>
arithK .gtr a1 a0 fun x3 =>
condK x3 (
arithK .sub a1 a0 fun x4 =>
buildK [.s (.int .i64 0), .s (.int .i64 0), .s (.int .i64 0), .s (.int .i64 0)] [(some (3, 1), x4)] fun x5 =>
effK (stE 4 x1 x5 h2) h2 fun x6 h7 =>
ldK 4 true x1 h7 fun r8 =>
K r8 h7) (
arithK .sub a0 a1 fun x9 =>
effK (boxE 1 (.s (.int .i64 0)) (List.length h2)) h2 fun x10 h11 =>
effK (stE 1 x10 x9 h11) h11 fun x12 h13 =>
callVK T (.fn 80 [x10]) [a2] h13 fun x14 h15 =>
buildK [.s (.int .i64 0), .s (.int .i64 0), .s (.int .i64 0), .s (.int .i64 0)] [(some (0, 1), x14)] fun x16 =>
effK (boxE 4 (.agg [.s (.int .i64 0), .s (.int .i64 0), .s (.int .i64 0), .s (.int .i64 0)]) (List.length h15)) h15 fun x17 h18 =>
effK (stE 4 x17 x16 h18) h18 fun x19 h20 =>
callVK T (.fn 80 [x10]) [a3] h20 fun x21 h22 =>
faK 1 x17 fun x23 =>
effK (stE 1 x23 x21 h22) h22 fun x24 h25 =>
ldK 1 false x10 h25 fun x26 =>
faK 2 x17 fun x27 =>
effK (stE 1 x27 x26 h25) h25 fun x28 h29 =>
ldK 4 true x17 h29 fun x30 =>
effK (stE 4 x1 x30 h29) h29 fun x31 h32 =>
ldK 4 true x1 h32 fun r33 =>
K r33 h32)
theorem f_loss_split_run (T : Tab) (D : DTab) (N : Nat) {β : Type} (K : AV → Hp → Option β) (a0 : AV) (a1 : AV) (a2 : AV) (a3 : AV) (h : Hp) : runK Try.prog T D N [0, 1, 2, 3, 8, 9, 10, 11, 14] Try.f72 K [a0, a1, a2, a3] h = f_loss_split Try.prog T D N K a0 a1 a2 a3 h := by kernel_rfl
def f_proportion_amounts_1 (P : Program) (T : Tab) (D : DTab) (N : Nat) {β : Type} (K : AV → Hp → Option β) (a0 : AV) (h : Hp) : Option β :=
callK (T 77) [a0] h fun x1 h2 =>
notK x1 fun x3 =>
K x3 h2
theorem f_proportion_amounts_1_run (T : Tab) (D : DTab) (N : Nat) {β : Type} (K : AV → Hp → Option β) (a0 : AV) (h : Hp) : runK Try.prog T D N [0, 2] Try.f76 K [a0] h = f_proportion_amounts_1 Try.prog T D N K a0 h := by kernel_rfl
def f_proportion_amount (P : Program) (T : Tab) (D : DTab) (N : Nat) {β : Type} (K : AV → Hp → Option β) (a0 : AV) (h : Hp) : Option β :=
arithK .geq a0 (.s (.int .i64 0)) fun x1 =>
grpK true x1 h (fun k2 =>
arithK .leq a0 (.s (.int .i64 128849018880000)) fun x3 =>
k2 x3 h) fun x4 h5 =>
K x4 h5
theorem f_proportion_amount_run (T : Tab) (D : DTab) (N : Nat) {β : Type} (K : AV → Hp → Option β) (a0 : AV) (h : Hp) : runK Try.prog T D N [0, 2] Try.f77 K [a0] h = f_proportion_amount Try.prog T D N K a0 h := by kernel_rfl
def f_proportion_product (P : Program) (T : Tab) (D : DTab) (N : Nat) {β : Type} (K : AV → Hp → Option β) (a0 : AV) (a1 : AV) (h : Hp) : Option β :=
effK (boxE 2 (.agg [.s (.int .u64 0), .s (.int .u64 0)]) (List.length h)) h fun x1 h2 =>
convK P 3 99 a0 fun x3 =>
convK P 3 99 a1 fun x4 =>
callK (T 81) [x3, x4] h2 fun x5 h6 =>
exK x5 0 fun x7 =>
exK x5 1 fun x8 =>
buildK [.s (.int .u64 0), .s (.int .u64 0)] [(some (0, 1), x7), (some (1, 1), x8)] fun x9 =>
effK (stE 2 x1 x9 h6) h6 fun x10 h11 =>
ldK 2 true x1 h11 fun r12 =>
K r12 h11
theorem f_proportion_product_run (T : Tab) (D : DTab) (N : Nat) {β : Type} (K : AV → Hp → Option β) (a0 : AV) (a1 : AV) (h : Hp) : runK Try.prog T D N [0, 1, 4, 5, 6] Try.f78 K [a0, a1] h = f_proportion_product Try.prog T D N K a0 a1 h := by kernel_rfl
def o_bits_Div64_j4 (P : Program) (T : Tab) (D : DTab) (N : Nat) {β : Type} (K : AV → Hp → Option β) (t : Tm) (h : Hp) : Option β :=
arithK .mul (t 15) (.s (.int .u64 4294967296)) fun x27 =>
arithK .add x27 (t 18) fun x28 =>
arithK .mul (t 17) (.s (.int .u64 4294967296)) fun x29 =>
arithK .add x29 (t 14) fun x30 =>
arithK .mul (t 18) (t 2) fun x31 =>
arithK .sub x30 x31 fun x32 =>
reckK P .shr 99 x32 (t 8) fun x33 =>
K (.tup [x28, x33]) h
def o_bits_Div64_j5 (P : Program) (T : Tab) (D : DTab) (N : Nat) {β : Type} (K : AV → Hp → Option β) (t : Tm) (h : Hp) : Option β :=
(o_bits_Div64_j4 P T D N K t h)
def o_bits_Div64_L6 (P : Program) (T : Tab) (D : DTab) (N : Nat) {β : Type} (t : Tm) (h : Hp) (k : Ex → St → Option β) : Option β :=
arithK .geq (t 18) (.s (.int .u64 4294967296)) fun x34 =>
grpK false x34 h (fun k35 =>
arithK .mul (t 18) (t 10) fun x36 =>
arithK .mul (.s (.int .u64 4294967296)) (t 16) fun x37 =>
arithK .add x37 (t 14) fun x38 =>
arithK .gtr x36 x38 fun x39 =>
k35 x39 h) fun x40 h41 =>
condK x40 (
arithK .sub (t 18) (.s (.int .u64 1)) fun x42 =>
arithK .add (t 16) (t 9) fun x43 =>
arithK .geq x43 (.s (.int .u64 4294967296)) fun x44 =>
condK x44 (
k (.exit 2) ((upd (upd (upd (upd t 113 x40) 18 x42) 16 x43) 120 x44), h41)) (
k .normal ((upd (upd (upd (upd t 113 x40) 18 x42) 16 x43) 120 x44), h41))) (
k (.exit 2) ((upd t 113 x40), h41))
def o_bits_Div64_aL6 (P : Program) (T : Tab) (D : DTab) (N : Nat) {β : Type} (K : AV → Hp → Option β) (e : Ex) (s : St) : Option β :=
  e.on ((o_bits_Div64_j5 P T D N K s.1 s.2))
  (fun i => bif i == 2 then ((o_bits_Div64_j5 P T D N K s.1 s.2)) else (none))
  (K (.tup [(s.1 6), (s.1 7)]) s.2)
def o_bits_Div64_j3_G (P : Program) (T : Tab) (D : DTab) (N : Nat) {β : Type} (cL6 : St → Option β) (K : AV → Hp → Option β) (t : Tm) (h : Hp) :  Option β :=
arithK .mul (t 11) (.s (.int .u64 4294967296)) fun x20 =>
arithK .add x20 (t 13) fun x21 =>
arithK .mul (t 15) (t 2) fun x22 =>
arithK .sub x21 x22 fun x23 =>
reckK P .quo 99 x23 (t 9) fun x24 =>
arithK .mul x24 (t 9) fun x25 =>
arithK .sub x23 x25 fun x26 =>
cL6 ((upd (upd (upd t 17 x23) 18 x24) 16 x26), h)
def o_bits_Div64_j3 (P : Program) (T : Tab) (D : DTab) (N : Nat) {β : Type} (K : AV → Hp → Option β) (t : Tm) (h : Hp) : Option β := o_bits_Div64_j3_G P T D N (fun s => iterK (fun s k => o_bits_Div64_L6 P T D N s.1 s.2 k) N s (o_bits_Div64_aL6 P T D N K)) K t h
def o_bits_Div64_j7_G (P : Program) (T : Tab) (D : DTab) (N : Nat) {β : Type} (cj3 : St → Option β) (K : AV → Hp → Option β) (t : Tm) (h : Hp) :  Option β :=
cj3 (t, h)
def o_bits_Div64_j7 (P : Program) (T : Tab) (D : DTab) (N : Nat) {β : Type} (K : AV → Hp → Option β) (t : Tm) (h : Hp) : Option β := o_bits_Div64_j7_G P T D N (fun s => (o_bits_Div64_j3 P T D N K s.1 s.2)) K t h
def o_bits_Div64_L8 (P : Program) (T : Tab) (D : DTab) (N : Nat) {β : Type} (t : Tm) (h : Hp) (k : Ex → St → Option β) : Option β :=
arithK .geq (t 15) (.s (.int .u64 4294967296)) fun x45 =>
grpK false x45 h (fun k46 =>
arithK .mul (t 15) (t 10) fun x47 =>
arithK .mul (.s (.int .u64 4294967296)) (t 16) fun x48 =>
arithK .add x48 (t 13) fun x49 =>
arithK .gtr x47 x49 fun x50 =>
k46 x50 h) fun x51 h52 =>
condK x51 (
arithK .sub (t 15) (.s (.int .u64 1)) fun x53 =>
arithK .add (t 16) (t 9) fun x54 =>
arithK .geq x54 (.s (.int .u64 4294967296)) fun x55 =>
condK x55 (
k (.exit 0) ((upd (upd (upd (upd t 78 x51) 15 x53) 16 x54) 85 x55), h52)) (
k .normal ((upd (upd (upd (upd t 78 x51) 15 x53) 16 x54) 85 x55), h52))) (
k (.exit 0) ((upd t 78 x51), h52))
def o_bits_Div64_aL8 (P : Program) (T : Tab) (D : DTab) (N : Nat) {β : Type} (K : AV → Hp → Option β) (e : Ex) (s : St) : Option β :=
  e.on ((o_bits_Div64_j7 P T D N K s.1 s.2))
  (fun i => bif i == 0 then ((o_bits_Div64_j7 P T D N K s.1 s.2)) else (none))
  (K (.tup [(s.1 6), (s.1 7)]) s.2)
def o_bits_Div64_j2_G (P : Program) (T : Tab) (D : DTab) (N : Nat) {β : Type} (cL8 : St → Option β) (K : AV → Hp → Option β) (t : Tm) (h : Hp) :  Option β :=
eqK P false 99 (t 0) (.s (.int .u64 0)) h fun x1 =>
condK x1 (
reckK P .quo 99 (t 1) (t 2) fun x2 =>
reckK P .rem 99 (t 1) (t 2) fun x3 =>
K (.tup [x2, x3]) h) (
callK (T 82) [(t 2)] h fun x4 h5 =>
convK P 3 110 x4 fun x6 =>
reckK P .shl 99 (t 2) x6 fun x7 =>
reckK P .shr 99 x7 (.s (.int .u64 32)) fun x8 =>
reckK P .and 99 x7 (.s (.int .u64 4294967295)) fun x9 =>
reckK P .shl 99 (t 0) x6 fun x10 =>
arithK .sub (.s (.int .u64 64)) x6 fun x11 =>
reckK P .shr 99 (t 1) x11 fun x12 =>
reckK P .or 99 x10 x12 fun x13 =>
reckK P .shl 99 (t 1) x6 fun x14 =>
reckK P .shr 99 x14 (.s (.int .u64 32)) fun x15 =>
reckK P .and 99 x14 (.s (.int .u64 4294967295)) fun x16 =>
reckK P .quo 99 x13 x8 fun x17 =>
arithK .mul x17 x8 fun x18 =>
arithK .sub x13 x18 fun x19 =>
cL8 ((upd (upd (upd (upd (upd (upd (upd (upd (upd (upd (upd t 27 x1) 8 x6) 2 x7) 9 x8) 10 x9) 11 x13) 12 x14) 13 x15) 14 x16) 15 x17) 16 x19), h5))
def o_bits_Div64_j2 (P : Program) (T : Tab) (D : DTab) (N : Nat) {β : Type} (K : AV → Hp → Option β) (t : Tm) (h : Hp) : Option β := o_bits_Div64_j2_G P T D N (fun s => iterK (fun s k => o_bits_Div64_L8 P T D N s.1 s.2 k) N s (o_bits_Div64_aL8 P T D N K)) K t h
def o_bits_Div64_j1_G (P : Program) (T : Tab) (D : DTab) (N : Nat) {β : Type} (cj2 : St → Option β) (K : AV → Hp → Option β) (t : Tm) (h : Hp) :  Option β :=
arithK .leq (t 2) (t 0) fun x56 =>
condK x56 (
ldK 1 false AV.u h fun x57 =>
none) (
cj2 ((upd t 24 x56), h))
def o_bits_Div64_j1 (P : Program) (T : Tab) (D : DTab) (N : Nat) {β : Type} (K : AV → Hp → Option β) (t : Tm) (h : Hp) : Option β := o_bits_Div64_j1_G P T D N (fun s => (o_bits_Div64_j2 P T D N K s.1 s.2)) K t h
def o_bits_Div64_G (P : Program) (T : Tab) (D : DTab) (N : Nat) {β : Type} (cj1 : St → Option β) (K : AV → Hp → Option β) (a0 : AV) (a1 : AV) (a2 : AV) (h : Hp) :  Option β :=
eqK P false 99 a2 (.s (.int .u64 0)) h fun x58 =>
condK x58 (
ldK 1 false AV.u h fun x59 =>
none) (
cj1 ((upd (upd (upd (tm0 [a0, a1, a2]) 6 (.s (.int .u64 0))) 7 (.s (.int .u64 0))) 20 x58), h))
def o_bits_Div64 (P : Program) (T : Tab) (D : DTab) (N : Nat) {β : Type} (K : AV → Hp → Option β) (a0 : AV) (a1 : AV) (a2 : AV) (h : Hp) : Option β := o_bits_Div64_G P T D N (fun s => (o_bits_Div64_j1 P T D N K s.1 s.2)) K a0 a1 a2 h
def f_bits_Div64_j4 (P : Program) (T : Tab) (D : DTab) (N : Nat) {β : Type} (K : AV → Hp → Option β) (v2 : AV) (v8 : AV) (v14 : AV) (v15 : AV) (v17 : AV) (v18 : AV) (h : Hp) : Option β :=
arithK .mul v15 (.s (.int .u64 4294967296)) fun x27 =>
arithK .add x27 v18 fun x28 =>
arithK .mul v17 (.s (.int .u64 4294967296)) fun x29 =>
arithK .add x29 v14 fun x30 =>
arithK .mul v18 v2 fun x31 =>
arithK .sub x30 x31 fun x32 =>
reckK P .shr 99 x32 v8 fun x33 =>
K (.tup [x28, x33]) h
def f_bits_Div64_j5 (P : Program) (T : Tab) (D : DTab) (N : Nat) {β : Type} (K : AV → Hp → Option β) (v2 : AV) (v8 : AV) (v14 : AV) (v15 : AV) (v17 : AV) (v18 : AV) (h : Hp) : Option β :=
f_bits_Div64_j4 P T D N K v2 v8 v14 v15 v17 v18 h
def f_bits_Div64_b6 (P : Program) (T : Tab) (D : DTab) (N : Nat) {β : Type} (xn : AV → AV → AV → AV → AV → AV → AV → AV → AV → Hp → Option β) (x2 : AV → AV → AV → AV → AV → AV → Hp → Option β) (v2 : AV) (v8 : AV) (v9 : AV) (v10 : AV) (v14 : AV) (v15 : AV) (v16 : AV) (v17 : AV) (v18 : AV) (h : Hp) : Option β :=
arithK .geq v18 (.s (.int .u64 4294967296)) fun x34 =>
grpK false x34 h (fun k35 =>
arithK .mul v18 v10 fun x36 =>
arithK .mul (.s (.int .u64 4294967296)) v16 fun x37 =>
arithK .add x37 v14 fun x38 =>
arithK .gtr x36 x38 fun x39 =>
k35 x39 h) fun x40 h41 =>
condK x40 (
arithK .sub v18 (.s (.int .u64 1)) fun x42 =>
arithK .add v16 v9 fun x43 =>
arithK .geq x43 (.s (.int .u64 4294967296)) fun x44 =>
condK x44 (
x2 v2 v8 v14 v15 v17 x42 h41) (
xn v2 v8 v9 v10 v14 v15 x43 v17 x42 h41)) (
x2 v2 v8 v14 v15 v17 v18 h41)
def f_bits_Div64_L6 (P : Program) (T : Tab) (D : DTab) (N : Nat) {β : Type} (x2 : AV → AV → AV → AV → AV → AV → Hp → Option β) : Nat → AV → AV → AV → AV → AV → AV → AV → AV → AV → Hp → Option β
  | 0 => fun _ _ _ _ _ _ _ _ _ _ => none
  | n + 1 => fun v2 v8 v9 v10 v14 v15 v16 v17 v18 h => f_bits_Div64_b6 P T D N (f_bits_Div64_L6 P T D N x2 n) x2 v2 v8 v9 v10 v14 v15 v16 v17 v18 h
def f_bits_Div64_j3 (P : Program) (T : Tab) (D : DTab) (N : Nat) {β : Type} (K : AV → Hp → Option β) (v2 : AV) (v8 : AV) (v9 : AV) (v10 : AV) (v11 : AV) (v13 : AV) (v14 : AV) (v15 : AV) (h : Hp) : Option β :=
arithK .mul v11 (.s (.int .u64 4294967296)) fun x20 =>
arithK .add x20 v13 fun x21 =>
arithK .mul v15 v2 fun x22 =>
arithK .sub x21 x22 fun x23 =>
reckK P .quo 99 x23 v9 fun x24 =>
arithK .mul x24 v9 fun x25 =>
arithK .sub x23 x25 fun x26 =>
f_bits_Div64_L6 P T D N (fun w45_2 w45_8 w45_14 w45_15 w45_17 w45_18 h => f_bits_Div64_j5 P T D N K w45_2 w45_8 w45_14 w45_15 w45_17 w45_18 h) N v2 v8 v9 v10 v14 v15 x26 x23 x24 h
def f_bits_Div64_j7 (P : Program) (T : Tab) (D : DTab) (N : Nat) {β : Type} (K : AV → Hp → Option β) (v2 : AV) (v8 : AV) (v9 : AV) (v10 : AV) (v11 : AV) (v13 : AV) (v14 : AV) (v15 : AV) (h : Hp) : Option β :=
f_bits_Div64_j3 P T D N K v2 v8 v9 v10 v11 v13 v14 v15 h
def f_bits_Div64_b8 (P : Program) (T : Tab) (D : DTab) (N : Nat) {β : Type} (xn : AV → AV → AV → AV → AV → AV → AV → AV → AV → Hp → Option β) (x0 : AV → AV → AV → AV → AV → AV → AV → AV → Hp → Option β) (v2 : AV) (v8 : AV) (v9 : AV) (v10 : AV) (v11 : AV) (v13 : AV) (v14 : AV) (v15 : AV) (v16 : AV) (h : Hp) : Option β :=
arithK .geq v15 (.s (.int .u64 4294967296)) fun x46 =>
grpK false x46 h (fun k47 =>
arithK .mul v15 v10 fun x48 =>
arithK .mul (.s (.int .u64 4294967296)) v16 fun x49 =>
arithK .add x49 v13 fun x50 =>
arithK .gtr x48 x50 fun x51 =>
k47 x51 h) fun x52 h53 =>
condK x52 (
arithK .sub v15 (.s (.int .u64 1)) fun x54 =>
arithK .add v16 v9 fun x55 =>
arithK .geq x55 (.s (.int .u64 4294967296)) fun x56 =>
condK x56 (
x0 v2 v8 v9 v10 v11 v13 v14 x54 h53) (
xn v2 v8 v9 v10 v11 v13 v14 x54 x55 h53)) (
x0 v2 v8 v9 v10 v11 v13 v14 v15 h53)
def f_bits_Div64_L8 (P : Program) (T : Tab) (D : DTab) (N : Nat) {β : Type} (x0 : AV → AV → AV → AV → AV → AV → AV → AV → Hp → Option β) : Nat → AV → AV → AV → AV → AV → AV → AV → AV → AV → Hp → Option β
  | 0 => fun _ _ _ _ _ _ _ _ _ _ => none
  | n + 1 => fun v2 v8 v9 v10 v11 v13 v14 v15 v16 h => f_bits_Div64_b8 P T D N (f_bits_Div64_L8 P T D N x0 n) x0 v2 v8 v9 v10 v11 v13 v14 v15 v16 h
def f_bits_Div64_j2 (P : Program) (T : Tab) (D : DTab) (N : Nat) {β : Type} (K : AV → Hp → Option β) (v0 : AV) (v1 : AV) (v2 : AV) (h : Hp) : Option β :=
eqK P false 99 v0 (.s (.int .u64 0)) h fun x1 =>
condK x1 (
reckK P .quo 99 v1 v2 fun x2 =>
reckK P .rem 99 v1 v2 fun x3 =>
K (.tup [x2, x3]) h) (
callK (T 82) [v2] h fun x4 h5 =>
convK P 3 110 x4 fun x6 =>
reckK P .shl 99 v2 x6 fun x7 =>
reckK P .shr 99 x7 (.s (.int .u64 32)) fun x8 =>
reckK P .and 99 x7 (.s (.int .u64 4294967295)) fun x9 =>
reckK P .shl 99 v0 x6 fun x10 =>
arithK .sub (.s (.int .u64 64)) x6 fun x11 =>
reckK P .shr 99 v1 x11 fun x12 =>
reckK P .or 99 x10 x12 fun x13 =>
reckK P .shl 99 v1 x6 fun x14 =>
reckK P .shr 99 x14 (.s (.int .u64 32)) fun x15 =>
reckK P .and 99 x14 (.s (.int .u64 4294967295)) fun x16 =>
reckK P .quo 99 x13 x8 fun x17 =>
arithK .mul x17 x8 fun x18 =>
arithK .sub x13 x18 fun x19 =>
f_bits_Div64_L8 P T D N (fun w57_2 w57_8 w57_9 w57_10 w57_11 w57_13 w57_14 w57_15 h => f_bits_Div64_j7 P T D N K w57_2 w57_8 w57_9 w57_10 w57_11 w57_13 w57_14 w57_15 h) N x7 x6 x8 x9 x13 x15 x16 x17 x19 h5)
def f_bits_Div64_j1 (P : Program) (T : Tab) (D : DTab) (N : Nat) {β : Type} (K : AV → Hp → Option β) (v0 : AV) (v1 : AV) (v2 : AV) (h : Hp) : Option β :=
arithK .leq v2 v0 fun x58 =>
condK x58 (
ldK 1 false AV.u h fun x59 =>
none) (
f_bits_Div64_j2 P T D N K v0 v1 v2 h)
def f_bits_Div64 (P : Program) (T : Tab) (D : DTab) (N : Nat) {β : Type} (K : AV → Hp → Option β) (a0 : AV) (a1 : AV) (a2 : AV) (h : Hp) : Option β :=
eqK P false 99 a2 (.s (.int .u64 0)) h fun x60 =>
condK x60 (
ldK 1 false AV.u h fun x61 =>
none) (
f_bits_Div64_j1 P T D N K a0 a1 a2 h)
theorem f_bits_Div64_b6_eq (P : Program) (T : Tab) (D : DTab) (N : Nat) {β : Type} (xn : AV → AV → AV → AV → AV → AV → AV → AV → AV → Hp → Option β) (x2 : AV → AV → AV → AV → AV → AV → Hp → Option β) (xd : Nat → St → Option β) (xq : St → Option β) (t : Tm) (h : Hp) : o_bits_Div64_L6 P T D N t h (fun (e : Ex) (s : St) => e.on (xn (s.1 2) (s.1 8) (s.1 9) (s.1 10) (s.1 14) (s.1 15) (s.1 16) (s.1 17) (s.1 18) s.2) (fun i => (bif i == 2 then x2 (s.1 2) (s.1 8) (s.1 14) (s.1 15) (s.1 17) (s.1 18) s.2 else (xd i s))) (xq s)) = f_bits_Div64_b6 P T D N xn x2 (t 2) (t 8) (t 9) (t 10) (t 14) (t 15) (t 16) (t 17) (t 18) h := by kernel_rfl
theorem f_bits_Div64_L6_eq (P : Program) (T : Tab) (D : DTab) (N : Nat) {β : Type} (A : Ex → St → Option β) (x2 : AV → AV → AV → AV → AV → AV → Hp → Option β) (q2 : ∀ s, A (.exit 2) s = x2 (s.1 2) (s.1 8) (s.1 14) (s.1 15) (s.1 17) (s.1 18) s.2) : ∀ (n : Nat) (s : St), iterK (fun s k => o_bits_Div64_L6 P T D N s.1 s.2 k) n s A = f_bits_Div64_L6 P T D N x2 n (s.1 2) (s.1 8) (s.1 9) (s.1 10) (s.1 14) (s.1 15) (s.1 16) (s.1 17) (s.1 18) s.2 := by
  intro n
  induction n with
  | zero => intro s; rfl
  | succ n ih =>
    intro s
    have hk : (fun (e : Ex) (s' : St) => Ex.on e (iterK (fun s k => o_bits_Div64_L6 P T D N s.1 s.2 k) n s' A) (fun i => A (.exit i) s') (A .ret s')) = (fun (e : Ex) (s : St) => e.on ((f_bits_Div64_L6 P T D N x2 n) (s.1 2) (s.1 8) (s.1 9) (s.1 10) (s.1 14) (s.1 15) (s.1 16) (s.1 17) (s.1 18) s.2) (fun i => (bif i == 2 then x2 (s.1 2) (s.1 8) (s.1 14) (s.1 15) (s.1 17) (s.1 18) s.2 else (A (.exit i) s))) (A .ret s)) := by
      funext e s'
      cases e with
      | normal => exact ih s'
      | ret => exact rfl
      | exit i =>
        by_cases r2 : i = 2
        · subst r2; exact q2 s'
        simp only [Ex.on, beq_false_of_ne r2, cond_false]
    show o_bits_Div64_L6 P T D N s.1 s.2 (fun (e : Ex) (s' : St) => Ex.on e (iterK (fun s k => o_bits_Div64_L6 P T D N s.1 s.2 k) n s' A) (fun i => A (.exit i) s') (A .ret s')) = _
    rw [hk]
    exact f_bits_Div64_b6_eq P T D N (f_bits_Div64_L6 P T D N x2 n) x2 (fun i s => A (.exit i) s) (fun s => A .ret s) s.1 s.2
theorem f_bits_Div64_j3_eq (P : Program) (T : Tab) (D : DTab) (N : Nat) {β : Type} (K : AV → Hp → Option β) (t : Tm) (h : Hp) : o_bits_Div64_j3 P T D N K t h = f_bits_Div64_j3 P T D N K (t 2) (t 8) (t 9) (t 10) (t 11) (t 13) (t 14) (t 15) h := by
  have eL6 : (fun s : St => iterK (fun s k => o_bits_Div64_L6 P T D N s.1 s.2 k) N s (o_bits_Div64_aL6 P T D N K)) = (fun s : St => f_bits_Div64_L6 P T D N (fun w45_2 w45_8 w45_14 w45_15 w45_17 w45_18 h => f_bits_Div64_j5 P T D N K w45_2 w45_8 w45_14 w45_15 w45_17 w45_18 h) N (s.1 2) (s.1 8) (s.1 9) (s.1 10) (s.1 14) (s.1 15) (s.1 16) (s.1 17) (s.1 18) s.2) := funext fun s => f_bits_Div64_L6_eq P T D N (o_bits_Div64_aL6 P T D N K) (fun w45_2 w45_8 w45_14 w45_15 w45_17 w45_18 h => f_bits_Div64_j5 P T D N K w45_2 w45_8 w45_14 w45_15 w45_17 w45_18 h) (fun s => rfl) N s
  show o_bits_Div64_j3_G P T D N (fun s => iterK (fun s k => o_bits_Div64_L6 P T D N s.1 s.2 k) N s (o_bits_Div64_aL6 P T D N K)) K t h = _
  rw [eL6]
  kernel_rfl
theorem f_bits_Div64_j7_eq (P : Program) (T : Tab) (D : DTab) (N : Nat) {β : Type} (K : AV → Hp → Option β) (t : Tm) (h : Hp) : o_bits_Div64_j7 P T D N K t h = f_bits_Div64_j7 P T D N K (t 2) (t 8) (t 9) (t 10) (t 11) (t 13) (t 14) (t 15) h := by
  have ej3 : (fun s : St => o_bits_Div64_j3 P T D N K s.1 s.2) = (fun s : St => f_bits_Div64_j3 P T D N K (s.1 2) (s.1 8) (s.1 9) (s.1 10) (s.1 11) (s.1 13) (s.1 14) (s.1 15) s.2) := funext fun s => f_bits_Div64_j3_eq P T D N K s.1 s.2
  show o_bits_Div64_j7_G P T D N (fun s => o_bits_Div64_j3 P T D N K s.1 s.2) K t h = _
  rw [ej3]
  kernel_rfl
theorem f_bits_Div64_b8_eq (P : Program) (T : Tab) (D : DTab) (N : Nat) {β : Type} (xn : AV → AV → AV → AV → AV → AV → AV → AV → AV → Hp → Option β) (x0 : AV → AV → AV → AV → AV → AV → AV → AV → Hp → Option β) (xd : Nat → St → Option β) (xq : St → Option β) (t : Tm) (h : Hp) : o_bits_Div64_L8 P T D N t h (fun (e : Ex) (s : St) => e.on (xn (s.1 2) (s.1 8) (s.1 9) (s.1 10) (s.1 11) (s.1 13) (s.1 14) (s.1 15) (s.1 16) s.2) (fun i => (bif i == 0 then x0 (s.1 2) (s.1 8) (s.1 9) (s.1 10) (s.1 11) (s.1 13) (s.1 14) (s.1 15) s.2 else (xd i s))) (xq s)) = f_bits_Div64_b8 P T D N xn x0 (t 2) (t 8) (t 9) (t 10) (t 11) (t 13) (t 14) (t 15) (t 16) h := by kernel_rfl
theorem f_bits_Div64_L8_eq (P : Program) (T : Tab) (D : DTab) (N : Nat) {β : Type} (A : Ex → St → Option β) (x0 : AV → AV → AV → AV → AV → AV → AV → AV → Hp → Option β) (q0 : ∀ s, A (.exit 0) s = x0 (s.1 2) (s.1 8) (s.1 9) (s.1 10) (s.1 11) (s.1 13) (s.1 14) (s.1 15) s.2) : ∀ (n : Nat) (s : St), iterK (fun s k => o_bits_Div64_L8 P T D N s.1 s.2 k) n s A = f_bits_Div64_L8 P T D N x0 n (s.1 2) (s.1 8) (s.1 9) (s.1 10) (s.1 11) (s.1 13) (s.1 14) (s.1 15) (s.1 16) s.2 := by
  intro n
  induction n with
  | zero => intro s; rfl
  | succ n ih =>
    intro s
    have hk : (fun (e : Ex) (s' : St) => Ex.on e (iterK (fun s k => o_bits_Div64_L8 P T D N s.1 s.2 k) n s' A) (fun i => A (.exit i) s') (A .ret s')) = (fun (e : Ex) (s : St) => e.on ((f_bits_Div64_L8 P T D N x0 n) (s.1 2) (s.1 8) (s.1 9) (s.1 10) (s.1 11) (s.1 13) (s.1 14) (s.1 15) (s.1 16) s.2) (fun i => (bif i == 0 then x0 (s.1 2) (s.1 8) (s.1 9) (s.1 10) (s.1 11) (s.1 13) (s.1 14) (s.1 15) s.2 else (A (.exit i) s))) (A .ret s)) := by
      funext e s'
      cases e with
      | normal => exact ih s'
      | ret => exact rfl
      | exit i =>
        by_cases r0 : i = 0
        · subst r0; exact q0 s'
        simp only [Ex.on, beq_false_of_ne r0, cond_false]
    show o_bits_Div64_L8 P T D N s.1 s.2 (fun (e : Ex) (s' : St) => Ex.on e (iterK (fun s k => o_bits_Div64_L8 P T D N s.1 s.2 k) n s' A) (fun i => A (.exit i) s') (A .ret s')) = _
    rw [hk]
    exact f_bits_Div64_b8_eq P T D N (f_bits_Div64_L8 P T D N x0 n) x0 (fun i s => A (.exit i) s) (fun s => A .ret s) s.1 s.2
theorem f_bits_Div64_j2_eq (P : Program) (T : Tab) (D : DTab) (N : Nat) {β : Type} (K : AV → Hp → Option β) (t : Tm) (h : Hp) : o_bits_Div64_j2 P T D N K t h = f_bits_Div64_j2 P T D N K (t 0) (t 1) (t 2) h := by
  have eL8 : (fun s : St => iterK (fun s k => o_bits_Div64_L8 P T D N s.1 s.2 k) N s (o_bits_Div64_aL8 P T D N K)) = (fun s : St => f_bits_Div64_L8 P T D N (fun w57_2 w57_8 w57_9 w57_10 w57_11 w57_13 w57_14 w57_15 h => f_bits_Div64_j7 P T D N K w57_2 w57_8 w57_9 w57_10 w57_11 w57_13 w57_14 w57_15 h) N (s.1 2) (s.1 8) (s.1 9) (s.1 10) (s.1 11) (s.1 13) (s.1 14) (s.1 15) (s.1 16) s.2) := funext fun s => f_bits_Div64_L8_eq P T D N (o_bits_Div64_aL8 P T D N K) (fun w57_2 w57_8 w57_9 w57_10 w57_11 w57_13 w57_14 w57_15 h => f_bits_Div64_j7 P T D N K w57_2 w57_8 w57_9 w57_10 w57_11 w57_13 w57_14 w57_15 h) (fun s => f_bits_Div64_j7_eq P T D N K s.1 s.2) N s
  show o_bits_Div64_j2_G P T D N (fun s => iterK (fun s k => o_bits_Div64_L8 P T D N s.1 s.2 k) N s (o_bits_Div64_aL8 P T D N K)) K t h = _
  rw [eL8]
  kernel_rfl
theorem f_bits_Div64_j1_eq (P : Program) (T : Tab) (D : DTab) (N : Nat) {β : Type} (K : AV → Hp → Option β) (t : Tm) (h : Hp) : o_bits_Div64_j1 P T D N K t h = f_bits_Div64_j1 P T D N K (t 0) (t 1) (t 2) h := by
  have ej2 : (fun s : St => o_bits_Div64_j2 P T D N K s.1 s.2) = (fun s : St => f_bits_Div64_j2 P T D N K (s.1 0) (s.1 1) (s.1 2) s.2) := funext fun s => f_bits_Div64_j2_eq P T D N K s.1 s.2
  show o_bits_Div64_j1_G P T D N (fun s => o_bits_Div64_j2 P T D N K s.1 s.2) K t h = _
  rw [ej2]
  kernel_rfl
theorem f_bits_Div64_old_eq (P : Program) (T : Tab) (D : DTab) (N : Nat) {β : Type} (K : AV → Hp → Option β) (a0 : AV) (a1 : AV) (a2 : AV) (h : Hp) : o_bits_Div64 P T D N K a0 a1 a2 h = f_bits_Div64 P T D N K a0 a1 a2 h := by
  have ej1 : (fun s : St => o_bits_Div64_j1 P T D N K s.1 s.2) = (fun s : St => f_bits_Div64_j1 P T D N K (s.1 0) (s.1 1) (s.1 2) s.2) := funext fun s => f_bits_Div64_j1_eq P T D N K s.1 s.2
  show o_bits_Div64_G P T D N (fun s => o_bits_Div64_j1 P T D N K s.1 s.2) K a0 a1 a2 h = _
  rw [ej1]
  kernel_rfl
theorem o_bits_Div64_run (T : Tab) (D : DTab) (N : Nat) {β : Type} (K : AV → Hp → Option β) (a0 : AV) (a1 : AV) (a2 : AV) (h : Hp) : runK Try.prog T D N [0, 1, 2, 6, 7, 8, 9, 10, 11, 12, 13, 14, 15, 16, 17, 18, 20, 24, 27, 78, 85, 113, 120] Try.f79 K [a0, a1, a2] h = o_bits_Div64 Try.prog T D N K a0 a1 a2 h := by kernel_rfl
theorem f_bits_Div64_run (T : Tab) (D : DTab) (N : Nat) {β : Type} (K : AV → Hp → Option β) (a0 : AV) (a1 : AV) (a2 : AV) (h : Hp) : runK Try.prog T D N [0, 1, 2, 6, 7, 8, 9, 10, 11, 12, 13, 14, 15, 16, 17, 18, 20, 24, 27, 78, 85, 113, 120] Try.f79 K [a0, a1, a2] h = f_bits_Div64 Try.prog T D N K a0 a1 a2 h := (o_bits_Div64_run T D N K a0 a1 a2 h).trans (f_bits_Div64_old_eq Try.prog T D N K a0 a1 a2 h)
def f_loss_split_1 (P : Program) (T : Tab) (D : DTab) (N : Nat) {β : Type} (K : AV → Hp → Option β) (a0 : AV) (a1 : AV) (h : Hp) : Option β :=
ldK 1 false a1 h fun x1 =>
minK a0 x1 fun x2 =>
ldK 1 false a1 h fun x3 =>
arithK .sub x3 x2 fun x4 =>
effK (stE 1 a1 x4 h) h fun x5 h6 =>
K x2 h6
theorem f_loss_split_1_run (T : Tab) (D : DTab) (N : Nat) {β : Type} (K : AV → Hp → Option β) (a0 : AV) (a1 : AV) (h : Hp) : runK Try.prog T D N [0, 1, 3, 4] Try.f80 K [a0, a1] h = f_loss_split_1 Try.prog T D N K a0 a1 h := by kernel_rfl
def f_bits_Mul64 (P : Program) (T : Tab) (D : DTab) (N : Nat) {β : Type} (K : AV → Hp → Option β) (a0 : AV) (a1 : AV) (h : Hp) : Option β :=
reckK P .and 99 a0 (.s (.int .u64 4294967295)) fun x1 =>
reckK P .shr 99 a0 (.s (.int .u64 32)) fun x2 =>
reckK P .and 99 a1 (.s (.int .u64 4294967295)) fun x3 =>
reckK P .shr 99 a1 (.s (.int .u64 32)) fun x4 =>
arithK .mul x1 x3 fun x5 =>
arithK .mul x2 x3 fun x6 =>
reckK P .shr 99 x5 (.s (.int .u64 32)) fun x7 =>
arithK .add x6 x7 fun x8 =>
reckK P .and 99 x8 (.s (.int .u64 4294967295)) fun x9 =>
reckK P .shr 99 x8 (.s (.int .u64 32)) fun x10 =>
arithK .mul x1 x4 fun x11 =>
arithK .add x9 x11 fun x12 =>
arithK .mul x2 x4 fun x13 =>
arithK .add x13 x10 fun x14 =>
reckK P .shr 99 x12 (.s (.int .u64 32)) fun x15 =>
arithK .add x14 x15 fun x16 =>
arithK .mul a0 a1 fun x17 =>
K (.tup [x16, x17]) h
theorem f_bits_Mul64_run (T : Tab) (D : DTab) (N : Nat) {β : Type} (K : AV → Hp → Option β) (a0 : AV) (a1 : AV) (h : Hp) : runK Try.prog T D N [0, 1, 4, 5, 6, 7, 8, 9, 10, 11, 12, 13] Try.f81 K [a0, a1] h = f_bits_Mul64 Try.prog T D N K a0 a1 h := by kernel_rfl
def f_bits_LeadingZeros64 (P : Program) (T : Tab) (D : DTab) (N : Nat) {β : Type} (K : AV → Hp → Option β) (a0 : AV) (h : Hp) : Option β :=
callK (T 83) [a0] h fun x1 h2 =>
arithK .sub (.s (.int .i64 64)) x1 fun x3 =>
K x3 h2
theorem f_bits_LeadingZeros64_run (T : Tab) (D : DTab) (N : Nat) {β : Type} (K : AV → Hp → Option β) (a0 : AV) (h : Hp) : runK Try.prog T D N [0, 2] Try.f82 K [a0] h = f_bits_LeadingZeros64 Try.prog T D N K a0 h := by kernel_rfl
def f_bits_Len64_j3 (P : Program) (T : Tab) (D : DTab) (N : Nat) {β : Type} (K : AV → Hp → Option β) (v0 : AV) (v2 : AV) (h : Hp) : Option β :=
convK P 99 5 v0 fun x1 =>
chK (.s (.string ⟨([0, 1, 2, 2, 3, 3, 3, 3, 4, 4, 4, 4, 4, 4, 4, 4, 5, 5, 5, 5, 5, 5, 5, 5, 5, 5, 5, 5, 5, 5, 5, 5, 6, 6, 6, 6, 6, 6, 6, 6, 6, 6, 6, 6, 6, 6, 6, 6, 6, 6, 6, 6, 6, 6, 6, 6, 6, 6, 6, 6, 6, 6, 6, 6] ++ [7, 7, 7, 7, 7, 7, 7, 7, 7, 7, 7, 7, 7, 7, 7, 7, 7, 7, 7, 7, 7, 7, 7, 7, 7, 7, 7, 7, 7, 7, 7, 7, 7, 7, 7, 7, 7, 7, 7, 7, 7, 7, 7, 7, 7, 7, 7, 7, 7, 7, 7, 7, 7, 7, 7, 7, 7, 7, 7, 7, 7, 7, 7, 7] ++ [8, 8, 8, 8, 8, 8, 8, 8, 8, 8, 8, 8, 8, 8, 8, 8, 8, 8, 8, 8, 8, 8, 8, 8, 8, 8, 8, 8, 8, 8, 8, 8, 8, 8, 8, 8, 8, 8, 8, 8, 8, 8, 8, 8, 8, 8, 8, 8, 8, 8, 8, 8, 8, 8, 8, 8, 8, 8, 8, 8, 8, 8, 8, 8] ++ [8, 8, 8, 8, 8, 8, 8, 8, 8, 8, 8, 8, 8, 8, 8, 8, 8, 8, 8, 8, 8, 8, 8, 8, 8, 8, 8, 8, 8, 8, 8, 8, 8, 8, 8, 8, 8, 8, 8, 8, 8, 8, 8, 8, 8, 8, 8, 8, 8, 8, 8, 8, 8, 8, 8, 8, 8, 8, 8, 8, 8, 8, 8, 8] : List UInt8).toArray⟩)) x1 fun x2 =>
convK P 5 3 x2 fun x3 =>
arithK .add v2 x3 fun x4 =>
K x4 h
def f_bits_Len64_j2 (P : Program) (T : Tab) (D : DTab) (N : Nat) {β : Type} (K : AV → Hp → Option β) (v0 : AV) (v2 : AV) (h : Hp) : Option β :=
arithK .geq v0 (.s (.int .u64 256)) fun x5 =>
condK x5 (
reckK P .shr 99 v0 (.s (.int .u64 8)) fun x6 =>
arithK .add v2 (.s (.int .i64 8)) fun x7 =>
f_bits_Len64_j3 P T D N K x6 x7 h) (
f_bits_Len64_j3 P T D N K v0 v2 h)
def f_bits_Len64_j1 (P : Program) (T : Tab) (D : DTab) (N : Nat) {β : Type} (K : AV → Hp → Option β) (v0 : AV) (v2 : AV) (h : Hp) : Option β :=
arithK .geq v0 (.s (.int .u64 65536)) fun x8 =>
condK x8 (
reckK P .shr 99 v0 (.s (.int .u64 16)) fun x9 =>
arithK .add v2 (.s (.int .i64 16)) fun x10 =>
f_bits_Len64_j2 P T D N K x9 x10 h) (
f_bits_Len64_j2 P T D N K v0 v2 h)
def f_bits_Len64 (P : Program) (T : Tab) (D : DTab) (N : Nat) {β : Type} (K : AV → Hp → Option β) (a0 : AV) (h : Hp) : Option β :=
arithK .geq a0 (.s (.int .u64 4294967296)) fun x11 =>
condK x11 (
reckK P .shr 99 a0 (.s (.int .u64 32)) fun x12 =>
f_bits_Len64_j1 P T D N K x12 (.s (.int .i64 32)) h) (
f_bits_Len64_j1 P T D N K a0 (.s (.int .i64 0)) h)
theorem f_bits_Len64_run (T : Tab) (D : DTab) (N : Nat) {β : Type} (K : AV → Hp → Option β) (a0 : AV) (h : Hp) : runK Try.prog T D N [0, 2, 4, 8, 14] Try.f83 K [a0] h = f_bits_Len64 Try.prog T D N K a0 h := by kernel_rfl
end Go.AM


namespace Go.AM
open Go.RowKit
set_option linter.unusedVariables false
set_option linter.unusedSimpArgs false
set_option linter.constructorNameAsVariable false
variable {P : Program} {μ μ' : Mu} {h h' h1 : Hp} {w w' : World}
def Near (h h1 : Hp) : Prop := h1.length = h.length ∧ ∀ (id : Nat) (o : AObj), h[id]? = some o → h1[id]? = some o ∨ ∃ sz es es' own nil, o = .arr sz es own nil ∧ h1[id]? = some (.arr sz es' own nil) ∧ es'.length = es.length ∧ ∀ e ∈ es', ∀ c ∈ e, plain c = true
theorem Near.back (n : Near h h1) {id : Nat} {o : AObj} (ho : h1[id]? = some o) : h[id]? = some o ∨ ∃ sz es es' own nil, o = .arr sz es' own nil ∧ h[id]? = some (.arr sz es own nil) ∧ es'.length = es.length ∧ ∀ e ∈ es', ∀ c ∈ e, plain c = true := by
  have hl : id < h.length := by rw [← n.1]; exact (List.getElem?_eq_some_iff.1 ho).1
  have hh : h[id]? = some h[id] := List.getElem?_eq_getElem hl
  rcases n.2 id _ hh with h2 | ⟨sz, es, es', own, nil, h2, h3, h4, h5⟩
  · left
    rw [h2] at ho
    rw [hh]; exact ho
  · right
    rw [h3] at ho
    injection ho with ho
    exact ⟨sz, es, es', own, nil, ho.symm, by rw [hh, h2], h4, h5⟩
end Go.AM

