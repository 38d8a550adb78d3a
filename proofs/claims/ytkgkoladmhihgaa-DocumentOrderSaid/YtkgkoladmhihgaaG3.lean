import Derived.Test.YtkgkoladmhihgaaG2
import Derived.Test.YtkgkoladmhihgaaProg
import Derived.Shelf.RegionOpenPlain
import Derived.WalkKit
import Derived.Lib.Walk
import Derived.Lib.SliceRun
import Derived.Lib.JoinLaws
import Derived.Lib.AppendZerosOnto
import Derived.Lib.Overlaps
import Derived.Laws.Externs
import Derived.Laws.IdiomCopy
import Derived.Laws.NewBlocks
import Derived.Laws.CopyRow
import Derived.Shelf.SlSortCmp.NoneTotal
set_option linter.unusedSectionVars false
set_option linter.unusedVariables false
set_option linter.unusedSimpArgs false
set_option linter.constructorNameAsVariable false
namespace Go.AM
open Go.Proofs
set_option linter.unusedVariables false
set_option maxRecDepth 100000
theorem un_5 : Try.prog.underlying 5 = some (.int .u8) := by kernel_rfl
theorem un_3 : Try.prog.underlying 3 = some (.int .i64) := by kernel_rfl
@[simp] theorem cv_5_3 {β : Type} (n : Int) (k : K β) : convK Try.prog 5 3 (.s (.int .u8 n)) k = k (.s (.int .i64 (IntKind.i64.wrap n))) := convK_int un_5 un_3 k
@[simp] theorem el_24 : elemOf Try.prog 24 = some 23 := by kernel_rfl
@[simp] theorem eqn_24_false {β : Type} (h : Hp) (k : K β) : eqK Try.prog false 24 (.s (.slice none 0 0)) (.s (.slice none 0 0)) h k = k (.s (.bool true)) := by kernel_rfl
@[simp] theorem eqn_24_true {β : Type} (h : Hp) (k : K β) : eqK Try.prog true 24 (.s (.slice none 0 0)) (.s (.slice none 0 0)) h k = k (.s (.bool false)) := by kernel_rfl
@[simp] theorem eqs_23 {β : Type} (neq : Bool) (a0 : Int) (a1 : Int) (a2 : Int) (a3 : Int) (a4 : Int) (a5 : Int) (a6 : Int) (b0 : Int) (b1 : Int) (b2 : Int) (b3 : Int) (b4 : Int) (b5 : Int) (b6 : Int) (h : Hp) (k : K β) : eqK Try.prog neq 23 (.agg [.s (.int .i64 a0), .s (.int .i64 a1), .s (.int .i64 a2), .s (.int .i64 a3), .s (.int .i64 a4), .s (.int .i64 a5), .s (.int .i64 a6)]) (.agg [.s (.int .i64 b0), .s (.int .i64 b1), .s (.int .i64 b2), .s (.int .i64 b3), .s (.int .i64 b4), .s (.int .i64 b5), .s (.int .i64 b6)]) h k = k (.s (.bool (xor neq ((a0 == b0) && ((a1 == b1) && ((a2 == b2) && ((a3 == b3) && ((a4 == b4) && ((a5 == b5) && ((a6 == b6) && (true))))))))))) := by
  have e1 : Try.prog.eqGuardType Try.prog.depth 23 = false := by kernel_rfl
  have e2 : aggT Try.prog 23 = true := by kernel_rfl
  have e3 : eqFlat Try.prog 8 23 [.s (.int .i64 a0), .s (.int .i64 a1), .s (.int .i64 a2), .s (.int .i64 a3), .s (.int .i64 a4), .s (.int .i64 a5), .s (.int .i64 a6)] [.s (.int .i64 b0), .s (.int .i64 b1), .s (.int .i64 b2), .s (.int .i64 b3), .s (.int .i64 b4), .s (.int .i64 b5), .s (.int .i64 b6)] = some ((a0 == b0) && ((a1 == b1) && ((a2 == b2) && ((a3 == b3) && ((a4 == b4) && ((a5 == b5) && ((a6 == b6) && (true)))))))) := by kernel_rfl
  simp only [eqK, e1, e2, e3]
@[simp] theorem eqs_35 {β : Type} (neq : Bool) (a0 : Int) (a1 : Int) (a2 : Int) (a3 : Int) (a4 : Int) (a5 : Int) (a6 : Int) (b0 : Int) (b1 : Int) (b2 : Int) (b3 : Int) (b4 : Int) (b5 : Int) (b6 : Int) (h : Hp) (k : K β) : eqK Try.prog neq 35 (.agg [.s (.int .i64 a0), .s (.int .i64 a1), .s (.int .i64 a2), .s (.int .i64 a3), .s (.int .i64 a4), .s (.int .i64 a5), .s (.int .i64 a6)]) (.agg [.s (.int .i64 b0), .s (.int .i64 b1), .s (.int .i64 b2), .s (.int .i64 b3), .s (.int .i64 b4), .s (.int .i64 b5), .s (.int .i64 b6)]) h k = k (.s (.bool (xor neq ((a0 == b0) && ((a1 == b1) && ((a2 == b2) && ((a3 == b3) && ((a4 == b4) && ((a5 == b5) && ((a6 == b6) && (true))))))))))) := by
  have e1 : Try.prog.eqGuardType Try.prog.depth 35 = false := by kernel_rfl
  have e2 : aggT Try.prog 35 = true := by kernel_rfl
  have e3 : eqFlat Try.prog 8 35 [.s (.int .i64 a0), .s (.int .i64 a1), .s (.int .i64 a2), .s (.int .i64 a3), .s (.int .i64 a4), .s (.int .i64 a5), .s (.int .i64 a6)] [.s (.int .i64 b0), .s (.int .i64 b1), .s (.int .i64 b2), .s (.int .i64 b3), .s (.int .i64 b4), .s (.int .i64 b5), .s (.int .i64 b6)] = some ((a0 == b0) && ((a1 == b1) && ((a2 == b2) && ((a3 == b3) && ((a4 == b4) && ((a5 == b5) && ((a6 == b6) && (true)))))))) := by kernel_rfl
  simp only [eqK, e1, e2, e3]
@[simp] theorem eqs_80 {β : Type} (neq : Bool) (a0 : Int) (a1 : Int) (b0 : Int) (b1 : Int) (h : Hp) (k : K β) : eqK Try.prog neq 80 (.agg [.s (.int .i64 a0), .s (.int .i64 a1)]) (.agg [.s (.int .i64 b0), .s (.int .i64 b1)]) h k = k (.s (.bool (xor neq ((a0 == b0) && ((a1 == b1) && (true)))))) := by
  have e1 : Try.prog.eqGuardType Try.prog.depth 80 = false := by kernel_rfl
  have e2 : aggT Try.prog 80 = true := by kernel_rfl
  have e3 : eqFlat Try.prog 8 80 [.s (.int .i64 a0), .s (.int .i64 a1)] [.s (.int .i64 b0), .s (.int .i64 b1)] = some ((a0 == b0) && ((a1 == b1) && (true))) := by kernel_rfl
  simp only [eqK, e1, e2, e3]
noncomputable def o_law40_DocumentOrder_j1 (P : Program) (T : Tab) (D : DTab) (N : Nat) {β : Type} (K : AV → Hp → Option β) (t : Tm) (h : Hp) : Option β :=
callK (T 13) [(t 0)] h fun x16 h17 =>
callK (T 20) [x16] h17 fun x18 h19 =>
exK x18 0 fun x20 =>
exK x18 1 fun x21 =>
callK (T 13) [(t 5)] h19 fun x22 h23 =>
callK (T 20) [x22] h23 fun x24 h25 =>
exK x24 0 fun x26 =>
exK x24 1 fun x27 =>
callK (T 13) [(t 0)] h25 fun x28 h29 =>
callK (T 12) [x28] h29 fun x30 h31 =>
exK x30 0 fun x32 =>
exK x30 1 fun x33 =>
callK (T 13) [(t 5)] h31 fun x34 h35 =>
callK (T 12) [x34] h35 fun x36 h37 =>
exK x36 0 fun x38 =>
exK x36 1 fun x39 =>
callK (T 34) [x20, x26] h37 fun x40 h41 =>
grpK true x40 h41 (fun k42 =>
eqK P false 27 x21 x27 h41 fun x43 =>
k42 x43 h41) fun x44 h45 =>
grpK true x44 h45 (fun k46 =>
callK (T 35) [x32, x38] h45 fun x47 h48 =>
k46 x47 h48) fun x49 h50 =>
grpK true x49 h50 (fun k51 =>
eqK P false 27 x33 x39 h50 fun x52 =>
k51 x52 h50) fun x53 h54 =>
K x53 h54
noncomputable def o_law40_DocumentOrder_j3 (P : Program) (T : Tab) (D : DTab) (N : Nat) {β : Type} (k : Ex → St → Option β) (t : Tm) (h : Hp) : Option β :=
arithK .add (t 33) (.s (.int .i64 1)) fun x56 =>
k .normal ((upd t 33 x56), h)
noncomputable def o_law40_DocumentOrder_j4 (P : Program) (T : Tab) (D : DTab) (N : Nat) {β : Type} (k : Ex → St → Option β) (t : Tm) (h : Hp) : Option β :=
(o_law40_DocumentOrder_j3 P T D N k t h)
noncomputable def o_law40_DocumentOrder_L2 (P : Program) (T : Tab) (D : DTab) (N : Nat) {β : Type} (t : Tm) (h : Hp) (k : Ex → St → Option β) : Option β :=
arithK .lss (t 33) (t 32) fun x55 =>
condK x55 (
iaK 1 (t 31) (t 33) fun x57 =>
ldK 1 false x57 h fun x58 =>
lenK (t 0) fun x59 =>
arithK .gtr x59 (.s (.int .i64 0)) fun x60 =>
condK x60 (
convK P 5 3 x58 fun x61 =>
lenK (t 5) fun x62 =>
arithK .add x62 (.s (.int .i64 1)) fun x63 =>
reckK P .rem 3 x61 x63 fun x64 =>
convK P 5 3 x58 fun x65 =>
lenK (t 0) fun x66 =>
reckK P .rem 3 x65 x66 fun x67 =>
iaK 7 (t 0) x67 fun x68 =>
ldK 7 true x68 h fun x69 =>
effK (bsE 7 [.s (.int .i64 0), .s (.int .i64 0), .s (.int .i64 0), .s (.int .i64 0), .s (.int .i64 0), .s (.int .i64 0), .s (.int .i64 0)] 1 [(0, x69)] (List.length h)) h fun x70 h71 =>
callK (T 33) [(t 5), x64, x70] h71 fun x72 h73 =>
(o_law40_DocumentOrder_j4 P T D N k (upd (upd (upd (upd (upd t 34 x55) 7 x58) 39 x60) 8 x64) 5 x72) h73)) (
(o_law40_DocumentOrder_j4 P T D N k (upd (upd (upd t 34 x55) 7 x58) 39 x60) h))) (
k (.exit 0) ((upd t 34 x55), h))
noncomputable def o_law40_DocumentOrder_aL2 (P : Program) (T : Tab) (D : DTab) (N : Nat) {β : Type} (K : AV → Hp → Option β) (e : Ex) (s : St) : Option β :=
  e.on ((o_law40_DocumentOrder_j1 P T D N K s.1 s.2))
  (fun i => bif i == 0 then ((o_law40_DocumentOrder_j1 P T D N K s.1 s.2)) else (none))
  (K (s.1 4) s.2)
noncomputable def o_law40_DocumentOrder_G (P : Program) (T : Tab) (D : DTab) (N : Nat) {β : Type} (cL2 : St → Option β) (K : AV → Hp → Option β) (a0 : AV) (a1 : AV) (h : Hp) :  Option β :=
callK (T 10) [] h fun x1 h2 =>
notK x1 fun x3 =>
condK x3 (
K (.s (.bool false)) h2) (
lenK a0 fun x4 =>
arithK .gtr x4 (.s (.int .i64 16)) fun x5 =>
grpK false x5 h2 (fun k6 =>
lenK a1 fun x7 =>
arithK .gtr x7 (.s (.int .i64 16)) fun x8 =>
k6 x8 h2) fun x9 h10 =>
condK x9 (
K (.s (.bool true)) h10) (
callK (T 13) [a0] h10 fun x11 h12 =>
callK (T 32) [x11] h12 fun x13 h14 =>
lenK a1 fun x15 =>
cL2 ((upd (upd (upd (upd (upd (upd (upd (tm0 [a0, a1]) 4 (.s (.bool false))) 18 x3) 26 x9) 5 x11) 31 a1) 32 x15) 33 (.s (.int .i64 0))), h14)))
noncomputable def o_law40_DocumentOrder (P : Program) (T : Tab) (D : DTab) (N : Nat) {β : Type} (K : AV → Hp → Option β) (a0 : AV) (a1 : AV) (h : Hp) : Option β := o_law40_DocumentOrder_G P T D N (fun s => iterK (fun s k => o_law40_DocumentOrder_L2 P T D N s.1 s.2 k) N s (o_law40_DocumentOrder_aL2 P T D N K)) K a0 a1 h
noncomputable def f_law40_DocumentOrder_j1 (P : Program) (T : Tab) (D : DTab) (N : Nat) {β : Type} (K : AV → Hp → Option β) (v0 : AV) (v5 : AV) (h : Hp) : Option β :=
callK (T 13) [v0] h fun x16 h17 =>
callK (T 20) [x16] h17 fun x18 h19 =>
exK x18 0 fun x20 =>
exK x18 1 fun x21 =>
callK (T 13) [v5] h19 fun x22 h23 =>
callK (T 20) [x22] h23 fun x24 h25 =>
exK x24 0 fun x26 =>
exK x24 1 fun x27 =>
callK (T 13) [v0] h25 fun x28 h29 =>
callK (T 12) [x28] h29 fun x30 h31 =>
exK x30 0 fun x32 =>
exK x30 1 fun x33 =>
callK (T 13) [v5] h31 fun x34 h35 =>
callK (T 12) [x34] h35 fun x36 h37 =>
exK x36 0 fun x38 =>
exK x36 1 fun x39 =>
callK (T 34) [x20, x26] h37 fun x40 h41 =>
grpK true x40 h41 (fun k42 =>
eqK P false 27 x21 x27 h41 fun x43 =>
k42 x43 h41) fun x44 h45 =>
grpK true x44 h45 (fun k46 =>
callK (T 35) [x32, x38] h45 fun x47 h48 =>
k46 x47 h48) fun x49 h50 =>
grpK true x49 h50 (fun k51 =>
eqK P false 27 x33 x39 h50 fun x52 =>
k51 x52 h50) fun x53 h54 =>
K x53 h54
noncomputable def f_law40_DocumentOrder_j3 (P : Program) (T : Tab) (D : DTab) (N : Nat) {β : Type} (xn : AV → AV → AV → AV → AV → Hp → Option β) (x0 : AV → AV → Hp → Option β) (v0 : AV) (v5 : AV) (v31 : AV) (v32 : AV) (v33 : AV) (h : Hp) : Option β :=
arithK .add v33 (.s (.int .i64 1)) fun x56 =>
xn v0 v5 v31 v32 x56 h
noncomputable def f_law40_DocumentOrder_j4 (P : Program) (T : Tab) (D : DTab) (N : Nat) {β : Type} (xn : AV → AV → AV → AV → AV → Hp → Option β) (x0 : AV → AV → Hp → Option β) (v0 : AV) (v5 : AV) (v31 : AV) (v32 : AV) (v33 : AV) (h : Hp) : Option β :=
f_law40_DocumentOrder_j3 P T D N xn x0 v0 v5 v31 v32 v33 h
noncomputable def f_law40_DocumentOrder_b2 (P : Program) (T : Tab) (D : DTab) (N : Nat) {β : Type} (xn : AV → AV → AV → AV → AV → Hp → Option β) (x0 : AV → AV → Hp → Option β) (v0 : AV) (v5 : AV) (v31 : AV) (v32 : AV) (v33 : AV) (h : Hp) : Option β :=
arithK .lss v33 v32 fun x55 =>
condK x55 (
iaK 1 v31 v33 fun x57 =>
ldK 1 false x57 h fun x58 =>
lenK v0 fun x59 =>
arithK .gtr x59 (.s (.int .i64 0)) fun x60 =>
condK x60 (
convK P 5 3 x58 fun x61 =>
lenK v5 fun x62 =>
arithK .add x62 (.s (.int .i64 1)) fun x63 =>
reckK P .rem 3 x61 x63 fun x64 =>
convK P 5 3 x58 fun x65 =>
lenK v0 fun x66 =>
reckK P .rem 3 x65 x66 fun x67 =>
iaK 7 v0 x67 fun x68 =>
ldK 7 true x68 h fun x69 =>
effK (bsE 7 [.s (.int .i64 0), .s (.int .i64 0), .s (.int .i64 0), .s (.int .i64 0), .s (.int .i64 0), .s (.int .i64 0), .s (.int .i64 0)] 1 [(0, x69)] (List.length h)) h fun x70 h71 =>
callK (T 33) [v5, x64, x70] h71 fun x72 h73 =>
f_law40_DocumentOrder_j4 P T D N xn x0 v0 x72 v31 v32 v33 h73) (
f_law40_DocumentOrder_j4 P T D N xn x0 v0 v5 v31 v32 v33 h)) (
x0 v0 v5 h)
noncomputable def f_law40_DocumentOrder_L2 (P : Program) (T : Tab) (D : DTab) (N : Nat) {β : Type} (x0 : AV → AV → Hp → Option β) : Nat → AV → AV → AV → AV → AV → Hp → Option β
  | 0 => fun _ _ _ _ _ _ => none
  | n + 1 => fun v0 v5 v31 v32 v33 h => f_law40_DocumentOrder_b2 P T D N (f_law40_DocumentOrder_L2 P T D N x0 n) x0 v0 v5 v31 v32 v33 h
noncomputable def f_law40_DocumentOrder (P : Program) (T : Tab) (D : DTab) (N : Nat) {β : Type} (K : AV → Hp → Option β) (a0 : AV) (a1 : AV) (h : Hp) : Option β :=
callK (T 10) [] h fun x1 h2 =>
notK x1 fun x3 =>
condK x3 (
K (.s (.bool false)) h2) (
lenK a0 fun x4 =>
arithK .gtr x4 (.s (.int .i64 16)) fun x5 =>
grpK false x5 h2 (fun k6 =>
lenK a1 fun x7 =>
arithK .gtr x7 (.s (.int .i64 16)) fun x8 =>
k6 x8 h2) fun x9 h10 =>
condK x9 (
K (.s (.bool true)) h10) (
callK (T 13) [a0] h10 fun x11 h12 =>
callK (T 32) [x11] h12 fun x13 h14 =>
lenK a1 fun x15 =>
f_law40_DocumentOrder_L2 P T D N (fun w74_0 w74_5 h => f_law40_DocumentOrder_j1 P T D N K w74_0 w74_5 h) N a0 x11 a1 x15 (.s (.int .i64 0)) h14))
theorem f_law40_DocumentOrder_b2_eq (P : Program) (T : Tab) (D : DTab) (N : Nat) {β : Type} (xn : AV → AV → AV → AV → AV → Hp → Option β) (x0 : AV → AV → Hp → Option β) (xd : Nat → St → Option β) (xq : St → Option β) (t : Tm) (h : Hp) : o_law40_DocumentOrder_L2 P T D N t h (fun (e : Ex) (s : St) => e.on (xn (s.1 0) (s.1 5) (s.1 31) (s.1 32) (s.1 33) s.2) (fun i => (bif i == 0 then x0 (s.1 0) (s.1 5) s.2 else (xd i s))) (xq s)) = f_law40_DocumentOrder_b2 P T D N xn x0 (t 0) (t 5) (t 31) (t 32) (t 33) h := by kernel_rfl
theorem f_law40_DocumentOrder_L2_eq (P : Program) (T : Tab) (D : DTab) (N : Nat) {β : Type} (A : Ex → St → Option β) (x0 : AV → AV → Hp → Option β) (q0 : ∀ s, A (.exit 0) s = x0 (s.1 0) (s.1 5) s.2) : ∀ (n : Nat) (s : St), iterK (fun s k => o_law40_DocumentOrder_L2 P T D N s.1 s.2 k) n s A = f_law40_DocumentOrder_L2 P T D N x0 n (s.1 0) (s.1 5) (s.1 31) (s.1 32) (s.1 33) s.2 := by
  intro n
  induction n with
  | zero => intro s; rfl
  | succ n ih =>
    intro s
    have hk : (fun (e : Ex) (s' : St) => Ex.on e (iterK (fun s k => o_law40_DocumentOrder_L2 P T D N s.1 s.2 k) n s' A) (fun i => A (.exit i) s') (A .ret s')) = (fun (e : Ex) (s : St) => e.on ((f_law40_DocumentOrder_L2 P T D N x0 n) (s.1 0) (s.1 5) (s.1 31) (s.1 32) (s.1 33) s.2) (fun i => (bif i == 0 then x0 (s.1 0) (s.1 5) s.2 else (A (.exit i) s))) (A .ret s)) := by
      funext e s'
      cases e with
      | normal => exact ih s'
      | ret => exact rfl
      | exit i =>
        by_cases r0 : i = 0
        · subst r0; exact q0 s'
        simp only [Ex.on, beq_false_of_ne r0, cond_false]
    show o_law40_DocumentOrder_L2 P T D N s.1 s.2 (fun (e : Ex) (s' : St) => Ex.on e (iterK (fun s k => o_law40_DocumentOrder_L2 P T D N s.1 s.2 k) n s' A) (fun i => A (.exit i) s') (A .ret s')) = _
    rw [hk]
    exact f_law40_DocumentOrder_b2_eq P T D N (f_law40_DocumentOrder_L2 P T D N x0 n) x0 (fun i s => A (.exit i) s) (fun s => A .ret s) s.1 s.2
theorem f_law40_DocumentOrder_old_eq (P : Program) (T : Tab) (D : DTab) (N : Nat) {β : Type} (K : AV → Hp → Option β) (a0 : AV) (a1 : AV) (h : Hp) : o_law40_DocumentOrder P T D N K a0 a1 h = f_law40_DocumentOrder P T D N K a0 a1 h := by
  have eL2 : (fun s : St => iterK (fun s k => o_law40_DocumentOrder_L2 P T D N s.1 s.2 k) N s (o_law40_DocumentOrder_aL2 P T D N K)) = (fun s : St => f_law40_DocumentOrder_L2 P T D N (fun w74_0 w74_5 h => f_law40_DocumentOrder_j1 P T D N K w74_0 w74_5 h) N (s.1 0) (s.1 5) (s.1 31) (s.1 32) (s.1 33) s.2) := funext fun s => f_law40_DocumentOrder_L2_eq P T D N (o_law40_DocumentOrder_aL2 P T D N K) (fun w74_0 w74_5 h => f_law40_DocumentOrder_j1 P T D N K w74_0 w74_5 h) (fun s => rfl) N s
  show o_law40_DocumentOrder_G P T D N (fun s => iterK (fun s k => o_law40_DocumentOrder_L2 P T D N s.1 s.2 k) N s (o_law40_DocumentOrder_aL2 P T D N K)) K a0 a1 h = _
  rw [eL2]
  kernel_rfl
theorem o_law40_DocumentOrder_run (T : Tab) (D : DTab) (N : Nat) {β : Type} (K : AV → Hp → Option β) (a0 : AV) (a1 : AV) (h : Hp) : runK Try.prog T D N [0, 1, 4, 5, 7, 8, 9, 10, 11, 12, 13, 14, 15, 16, 18, 26, 31, 32, 33, 34, 39] Try.f9 K [a0, a1] h = o_law40_DocumentOrder Try.prog T D N K a0 a1 h := by kernel_rfl
theorem f_law40_DocumentOrder_run (T : Tab) (D : DTab) (N : Nat) {β : Type} (K : AV → Hp → Option β) (a0 : AV) (a1 : AV) (h : Hp) : runK Try.prog T D N [0, 1, 4, 5, 7, 8, 9, 10, 11, 12, 13, 14, 15, 16, 18, 26, 31, 32, 33, 34, 39] Try.f9 K [a0, a1] h = f_law40_DocumentOrder Try.prog T D N K a0 a1 h := (o_law40_DocumentOrder_run T D N K a0 a1 h).trans (f_law40_DocumentOrder_old_eq Try.prog T D N K a0 a1 h)
noncomputable def f_law40_awake (P : Program) (T : Tab) (D : DTab) (N : Nat) {β : Type} (K : AV → Hp → Option β) (h : Hp) : Option β :=
callK (T 36) [] h fun x1 h2 =>
callK (T 18) [x1, (.s (.int .i64 5))] h2 fun x3 h4 =>
exK x3 0 fun x5 =>
exK x3 1 fun x6 =>
effK (boxE 7 (.agg [.s (.int .i64 0), .s (.int .i64 0), .s (.int .i64 0), .s (.int .i64 0), .s (.int .i64 0), .s (.int .i64 0), .s (.int .i64 0)]) (List.length h4)) h4 fun x7 h8 =>
effK (stE 7 x7 x5 h8) h8 fun x9 h10 =>
callK (T 36) [] h10 fun x11 h12 =>
buildK [.s (.int .i64 0), .s (.int .i64 0), .s (.int .i64 0), .s (.int .i64 0), .s (.int .i64 0), .s (.int .i64 0), .s (.int .i64 0)] [(some (0, 1), (.s (.int .i64 5))), (some (1, 1), (.s (.int .i64 3))), (some (3, 1), (.s (.int .i64 4))), (some (6, 1), (.s (.int .i64 97)))] fun x13 =>
effK (bsE 7 [.s (.int .i64 0), .s (.int .i64 0), .s (.int .i64 0), .s (.int .i64 0), .s (.int .i64 0), .s (.int .i64 0), .s (.int .i64 0)] 1 [(0, x13)] (List.length h12)) h12 fun x14 h15 =>
effK (appE 7 56 x11 x14 h15 (List.length h15)) h15 fun x16 h17 =>
callK (T 18) [x16, (.s (.int .i64 5))] h17 fun x18 h19 =>
exK x18 0 fun x20 =>
exK x18 1 fun x21 =>
effK (boxE 7 (.agg [.s (.int .i64 0), .s (.int .i64 0), .s (.int .i64 0), .s (.int .i64 0), .s (.int .i64 0), .s (.int .i64 0), .s (.int .i64 0)]) (List.length h19)) h19 fun x22 h23 =>
effK (stE 7 x22 x20 h23) h23 fun x24 h25 =>
callK (T 36) [] h25 fun x26 h27 =>
sliceK 7 x26 none (some (.s (.int .i64 1))) none fun x28 =>
callK (T 22) [x28, (.s (.int .i64 2))] h27 fun x29 h30 =>
exK x29 0 fun x31 =>
exK x29 1 fun x32 =>
callK (T 36) [] h30 fun x33 h34 =>
callK (T 20) [x33] h34 fun x35 h36 =>
exK x35 0 fun x37 =>
exK x35 1 fun x38 =>
buildK [.s (.int .i64 0), .s (.int .i64 0), .s (.int .i64 0), .s (.int .i64 0), .s (.int .i64 0), .s (.int .i64 0), .s (.int .i64 0)] [(some (0, 1), (.s (.int .i64 5))), (some (1, 1), (.s (.int .i64 2))), (some (2, 1), (.s (.int .i64 1))), (some (3, 1), (.s (.int .i64 3))), (some (4, 1), (.s (.int .i64 100))), (some (5, 1), (.s (.int .i64 98))), (some (6, 1), (.s (.int .i64 1)))] fun x39 =>
effK (boxE 7 (.agg [.s (.int .i64 0), .s (.int .i64 0), .s (.int .i64 0), .s (.int .i64 0), .s (.int .i64 0), .s (.int .i64 0), .s (.int .i64 0)]) (List.length h36)) h36 fun x40 h41 =>
effK (stE 7 x40 x39 h41) h41 fun x42 h43 =>
ldK 7 true x7 h43 fun x44 =>
ldK 7 true x40 h43 fun x45 =>
eqK P false 35 x44 x45 h43 fun x46 =>
grpK true x46 h43 (fun k47 =>
ldK 7 true x22 h43 fun x48 =>
buildK [.s (.int .i64 0), .s (.int .i64 0), .s (.int .i64 0), .s (.int .i64 0), .s (.int .i64 0), .s (.int .i64 0), .s (.int .i64 0)] [(some (0, 1), (.s (.int .i64 5))), (some (1, 1), (.s (.int .i64 5)))] fun x49 =>
eqK P false 35 x48 x49 h43 fun x50 =>
k47 x50 h43) fun x51 h52 =>
grpK true x51 h52 (fun k53 =>
eqK P false 3 x31 (.s (.int .i64 100)) h52 fun x54 =>
k53 x54 h52) fun x55 h56 =>
grpK true x55 h56 (fun k57 =>
ldK 7 true x40 h56 fun x58 =>
effK (bsE 7 [.s (.int .i64 0), .s (.int .i64 0), .s (.int .i64 0), .s (.int .i64 0), .s (.int .i64 0), .s (.int .i64 0), .s (.int .i64 0)] 1 [(0, x58)] (List.length h56)) h56 fun x59 h60 =>
callK (T 34) [x37, x59] h60 fun x61 h62 =>
k57 x61 h62) fun x63 h64 =>
grpK true x63 h64 (fun k65 =>
ldK 7 true x7 h64 fun x66 =>
ldK 7 true x22 h64 fun x67 =>
callK (T 25) [x66, x67] h64 fun x68 h69 =>
k65 x68 h69) fun x70 h71 =>
grpK true x70 h71 (fun k72 =>
ldK 7 true x22 h71 fun x73 =>
ldK 7 true x7 h71 fun x74 =>
callK (T 25) [x73, x74] h71 fun x75 h76 =>
notK x75 fun x77 =>
k72 x77 h76) fun x78 h79 =>
grpK true x78 h79 (fun k80 =>
callK (T 36) [] h79 fun x81 h82 =>
iaK 7 x81 (.s (.int .i64 0)) fun x83 =>
ldK 7 true x83 h82 fun x84 =>
callK (T 15) [x84] h82 fun x85 h86 =>
eqK P false 27 x85 (.s (.int .i64 0)) h86 fun x87 =>
k80 x87 h86) fun x88 h89 =>
grpK true x88 h89 (fun k90 =>
arithK .add x6 x21 fun x91 =>
arithK .add x91 x32 fun x92 =>
arithK .add x92 x38 fun x93 =>
eqK P false 27 x93 (.s (.int .i64 0)) h89 fun x94 =>
k90 x94 h89) fun x95 h96 =>
K x95 h96
theorem f_law40_awake_run (T : Tab) (D : DTab) (N : Nat) {β : Type} (K : AV → Hp → Option β) (h : Hp) : runK Try.prog T D N [0, 1, 2, 3, 4, 5, 6, 7, 8, 9] Try.f10 K [] h = f_law40_awake Try.prog T D N K  h := by kernel_rfl
noncomputable def f_document_Normal (P : Program) (T : Tab) (D : DTab) (N : Nat) {β : Type} (K : AV → Hp → Option β) (a0 : AV) (h : Hp) : Option β :=
lenK a0 fun x1 =>
arithK .gtr x1 (.s (.int .i64 64)) fun x2 =>
condK x2 (
K (.tup [(.s (.slice none 0 0)), (.s (.int .i64 8))]) h) (
callK (T 37) [a0, (.fn 38 [])] h fun x3 h4 =>
condK x3 (
K (.tup [(.s (.slice none 0 0)), (.s (.int .i64 1))]) h4) (
callK (T 13) [a0] h4 fun x5 h6 =>
callK (T 39) [x5, (.fn 40 [])] h6 fun x7 h8 =>
callK (T 41) [x5] h8 fun x9 h10 =>
K (.tup [x9, (.s (.int .i64 0))]) h10))
theorem f_document_Normal_run (T : Tab) (D : DTab) (N : Nat) {β : Type} (K : AV → Hp → Option β) (a0 : AV) (h : Hp) : runK Try.prog T D N [0, 2, 3, 4, 7, 9] Try.f12 K [a0] h = f_document_Normal Try.prog T D N K a0 h := by kernel_rfl
noncomputable def f_slices_Clone_Message (P : Program) (T : Tab) (D : DTab) (N : Nat) {β : Type} (K : AV → Hp → Option β) (a0 : AV) (h : Hp) : Option β :=
eqK P false 24 a0 (.s (.slice none 0 0)) h fun x1 =>
condK x1 (
K (.s (.slice none 0 0)) h) (
effK (bsE 7 [.s (.int .i64 0), .s (.int .i64 0), .s (.int .i64 0), .s (.int .i64 0), .s (.int .i64 0), .s (.int .i64 0), .s (.int .i64 0)] 0 [] (List.length h)) h fun x2 h3 =>
effK (appE 7 56 x2 a0 h3 (List.length h3)) h3 fun x4 h5 =>
K x4 h5)
theorem f_slices_Clone_Message_run (T : Tab) (D : DTab) (N : Nat) {β : Type} (K : AV → Hp → Option β) (a0 : AV) (h : Hp) : runK Try.prog T D N [0, 2, 4] Try.f13 K [a0] h = f_slices_Clone_Message Try.prog T D N K a0 h := by kernel_rfl
noncomputable def f_document_Check_j1 (P : Program) (T : Tab) (D : DTab) (N : Nat) {β : Type} (K : AV → Hp → Option β) (v1 : AV) (v3 : AV) (v4 : AV) (h : Hp) : Option β :=
notK v4 fun x47 =>
grpK false x47 h (fun k48 =>
ldK 7 true v1 h fun x49 =>
ldK 7 true v3 h fun x50 =>
eqK P true 23 x49 x50 h fun x51 =>
k48 x51 h) fun x52 h53 =>
condK x52 (
K (.s (.int .i64 1)) h53) (
K (.s (.int .i64 0)) h53)
noncomputable def f_document_Check_j2 (P : Program) (T : Tab) (D : DTab) (N : Nat) {β : Type} (K : AV → Hp → Option β) (v1 : AV) (v3 : AV) (v4 : AV) (h : Hp) : Option β :=
f_document_Check_j1 P T D N K v1 v3 v4 h
noncomputable def f_document_Check (P : Program) (T : Tab) (D : DTab) (N : Nat) {β : Type} (K : AV → Hp → Option β) (a0 : AV) (h : Hp) : Option β :=
effK (boxE 7 a0 (List.length h)) h fun x1 h2 =>
faK 0 x1 fun x3 =>
ldK 1 false x3 h2 fun x4 =>
arithK .lss x4 (.s (.int .i64 1)) fun x5 =>
grpK false x5 h2 (fun k6 =>
faK 0 x1 fun x7 =>
ldK 1 false x7 h2 fun x8 =>
arithK .gtr x8 (.s (.int .i64 1073741824)) fun x9 =>
k6 x9 h2) fun x10 h11 =>
grpK false x10 h11 (fun k12 =>
faK 1 x1 fun x13 =>
ldK 1 false x13 h11 fun x14 =>
arithK .lss x14 (.s (.int .i64 1)) fun x15 =>
k12 x15 h11) fun x16 h17 =>
grpK false x16 h17 (fun k18 =>
faK 1 x1 fun x19 =>
ldK 1 false x19 h17 fun x20 =>
arithK .gtr x20 (.s (.int .i64 5)) fun x21 =>
k18 x21 h17) fun x22 h23 =>
grpK false x22 h23 (fun k24 =>
faK 3 x1 fun x25 =>
ldK 1 false x25 h23 fun x26 =>
arithK .lss x26 (.s (.int .i64 0)) fun x27 =>
k24 x27 h23) fun x28 h29 =>
grpK false x28 h29 (fun k30 =>
faK 3 x1 fun x31 =>
ldK 1 false x31 h29 fun x32 =>
arithK .gtr x32 (.s (.int .i64 100000)) fun x33 =>
k30 x33 h29) fun x34 h35 =>
condK x34 (
K (.s (.int .i64 2)) h35) (
faK 0 x1 fun x36 =>
ldK 1 false x36 h35 fun x37 =>
faK 1 x1 fun x38 =>
ldK 1 false x38 h35 fun x39 =>
faK 3 x1 fun x40 =>
ldK 1 false x40 h35 fun x41 =>
buildK [.s (.int .i64 0), .s (.int .i64 0), .s (.int .i64 0), .s (.int .i64 0), .s (.int .i64 0), .s (.int .i64 0), .s (.int .i64 0)] [(some (0, 1), x37), (some (1, 1), x39), (some (3, 1), x41)] fun x42 =>
effK (boxE 7 (.agg [.s (.int .i64 0), .s (.int .i64 0), .s (.int .i64 0), .s (.int .i64 0), .s (.int .i64 0), .s (.int .i64 0), .s (.int .i64 0)]) (List.length h35)) h35 fun x43 h44 =>
effK (stE 7 x43 x42 h44) h44 fun x45 h46 =>
faK 1 x1 fun x54 =>
ldK 1 false x54 h46 fun x55 =>
eqK P false 3 x55 (.s (.int .i64 1)) h46 fun x56 =>
condK x56 (
faK 4 x1 fun x57 =>
ldK 1 false x57 h46 fun x58 =>
faK 5 x1 fun x59 =>
ldK 1 false x59 h46 fun x60 =>
faK 6 x1 fun x61 =>
ldK 1 false x61 h46 fun x62 =>
faK 4 x43 fun x63 =>
effD (stE 1 x63 x58 h46) h46 fun x64 h65 e66 =>
faK 5 x43 fun x67 =>
effD (stE 1 x67 x60 h65) h65 fun x68 h69 e70 =>
faK 6 x43 fun x71 =>
effD (stE 1 x71 x62 h69) h69 fun x72 h73 e74 =>
bif disjAll [(3, 7), (5, 7), (5, 9)] [([], []), ((idsOf x57), []), ([], []), ((idsOf x59), []), ([], []), ((idsOf x61), []), ([], []), e66, ([], []), e70, ([], []), e74] then (
faK 4 x1 fun x75 =>
ldK 1 false x75 h73 fun x76 =>
callK (T 44) [x76] h73 fun x77 h78 =>
grpK true x77 h78 (fun k79 =>
faK 5 x1 fun x80 =>
ldK 1 false x80 h78 fun x81 =>
callK (T 44) [x81] h78 fun x82 h83 =>
k79 x82 h83) fun x84 h85 =>
grpK true x84 h85 (fun k86 =>
faK 4 x1 fun x87 =>
ldK 1 false x87 h85 fun x88 =>
faK 5 x1 fun x89 =>
ldK 1 false x89 h85 fun x90 =>
eqK P true 3 x88 x90 h85 fun x91 =>
k86 x91 h85) fun x92 h93 =>
grpK true x92 h93 (fun k94 =>
faK 6 x1 fun x95 =>
ldK 1 false x95 h93 fun x96 =>
arithK .geq x96 (.s (.int .i64 1)) fun x97 =>
k94 x97 h93) fun x98 h99 =>
grpK true x98 h99 (fun k100 =>
faK 6 x1 fun x101 =>
ldK 1 false x101 h99 fun x102 =>
arithK .leq x102 (.s (.int .i64 10737418240000)) fun x103 =>
k100 x103 h99) fun x104 h105 =>
f_document_Check_j2 P T D N K x1 x43 x104 h105) else none) (
eqK P false 3 x55 (.s (.int .i64 2)) h46 fun x106 =>
condK x106 (
faK 2 x1 fun x107 =>
ldK 1 false x107 h46 fun x108 =>
faK 5 x1 fun x109 =>
ldK 1 false x109 h46 fun x110 =>
faK 2 x43 fun x111 =>
effD (stE 1 x111 x108 h46) h46 fun x112 h113 e114 =>
faK 5 x43 fun x115 =>
effD (stE 1 x115 x110 h113) h113 fun x116 h117 e118 =>
bif disjAll [(3, 5)] [([], []), ((idsOf x107), []), ([], []), ((idsOf x109), []), ([], []), e114, ([], []), e118] then (
faK 2 x1 fun x119 =>
ldK 1 false x119 h117 fun x120 =>
arithK .geq x120 (.s (.int .i64 1)) fun x121 =>
grpK true x121 h117 (fun k122 =>
faK 2 x1 fun x123 =>
ldK 1 false x123 h117 fun x124 =>
arithK .leq x124 (.s (.int .i64 64)) fun x125 =>
k122 x125 h117) fun x126 h127 =>
grpK true x126 h127 (fun k128 =>
faK 5 x1 fun x129 =>
ldK 1 false x129 h127 fun x130 =>
callK (T 44) [x130] h127 fun x131 h132 =>
k128 x131 h132) fun x133 h134 =>
f_document_Check_j2 P T D N K x1 x43 x133 h134) else none) (
eqK P false 3 x55 (.s (.int .i64 3)) h46 fun x135 =>
condK x135 (
faK 6 x1 fun x136 =>
ldK 1 false x136 h46 fun x137 =>
faK 6 x43 fun x138 =>
effK (stE 1 x138 x137 h46) h46 fun x139 h140 =>
faK 6 x1 fun x141 =>
ldK 1 false x141 h140 fun x142 =>
arithK .geq x142 (.s (.int .i64 0)) fun x143 =>
grpK true x143 h140 (fun k144 =>
faK 6 x1 fun x145 =>
ldK 1 false x145 h140 fun x146 =>
arithK .leq x146 (.s (.int .i64 10737418240000)) fun x147 =>
k144 x147 h140) fun x148 h149 =>
f_document_Check_j2 P T D N K x1 x43 x148 h149) (
f_document_Check_j2 P T D N K x1 x43 (.s (.bool true)) h46))))
theorem f_document_Check_run (T : Tab) (D : DTab) (N : Nat) {β : Type} (K : AV → Hp → Option β) (a0 : AV) (h : Hp) : runK Try.prog T D N [0, 1, 2, 3, 4, 32, 41, 42, 78, 99, 118] Try.f15 K [a0] h = f_document_Check Try.prog T D N K a0 h := by kernel_rfl
noncomputable def f_document_Of (P : Program) (T : Tab) (D : DTab) (N : Nat) {β : Type} (K : AV → Hp → Option β) (a0 : AV) (a1 : AV) (h : Hp) : Option β :=
effK (boxE 7 (.agg [.s (.int .i64 0), .s (.int .i64 0), .s (.int .i64 0), .s (.int .i64 0), .s (.int .i64 0), .s (.int .i64 0), .s (.int .i64 0)]) (List.length h)) h fun x1 h2 =>
callK (T 12) [a0] h2 fun x3 h4 =>
exK x3 0 fun x5 =>
exK x3 1 fun x6 =>
eqK P true 27 x6 (.s (.int .i64 0)) h4 fun x7 =>
condK x7 (
buildK [.s (.int .i64 0), .s (.int .i64 0), .s (.int .i64 0), .s (.int .i64 0), .s (.int .i64 0), .s (.int .i64 0), .s (.int .i64 0)] [] fun x8 =>
effK (stE 7 x1 x8 h4) h4 fun x9 h10 =>
ldK 7 true x1 h10 fun r11 =>
K (.tup [r11, x6]) h10) (
arithK .lss a1 (.s (.int .i64 1)) fun x12 =>
grpK false x12 h4 (fun k13 =>
arithK .gtr a1 (.s (.int .i64 1073741824)) fun x14 =>
k13 x14 h4) fun x15 h16 =>
condK x15 (
buildK [.s (.int .i64 0), .s (.int .i64 0), .s (.int .i64 0), .s (.int .i64 0), .s (.int .i64 0), .s (.int .i64 0), .s (.int .i64 0)] [] fun x17 =>
effK (stE 7 x1 x17 h16) h16 fun x18 h19 =>
ldK 7 true x1 h19 fun r20 =>
K (.tup [r20, (.s (.int .i64 2))]) h19) (
callK (T 46) [x5, a1] h16 fun x21 h22 =>
effK (stE 7 x1 x21 h22) h22 fun x23 h24 =>
ldK 7 true x1 h24 fun r25 =>
K (.tup [r25, (.s (.int .i64 0))]) h24))
theorem f_document_Of_run (T : Tab) (D : DTab) (N : Nat) {β : Type} (K : AV → Hp → Option β) (a0 : AV) (a1 : AV) (h : Hp) : runK Try.prog T D N [0, 1, 4, 5, 6, 7, 13, 18] Try.f18 K [a0, a1] h = f_document_Of Try.prog T D N K a0 a1 h := by kernel_rfl
noncomputable def o_document_All_j1 (P : Program) (T : Tab) (D : DTab) (N : Nat) {β : Type} (K : AV → Hp → Option β) (t : Tm) (h : Hp) : Option β :=
K (.tup [(t 6), (.s (.int .i64 0))]) h
noncomputable def o_document_All_j3 (P : Program) (T : Tab) (D : DTab) (N : Nat) {β : Type} (k : Ex → St → Option β) (t : Tm) (h : Hp) : Option β :=
arithK .add (t 19) (.s (.int .i64 1)) fun x8 =>
k .normal ((upd t 19 x8), h)
noncomputable def o_document_All_j4 (P : Program) (T : Tab) (D : DTab) (N : Nat) {β : Type} (k : Ex → St → Option β) (t : Tm) (h : Hp) : Option β :=
(o_document_All_j3 P T D N k t h)
noncomputable def o_document_All_L2 (P : Program) (T : Tab) (D : DTab) (N : Nat) {β : Type} (t : Tm) (h : Hp) (k : Ex → St → Option β) : Option β :=
arithK .lss (t 19) (t 18) fun x7 =>
condK x7 (
iaK 7 (t 17) (t 19) fun x9 =>
ldK 7 true x9 h fun x10 =>
effK (boxE 7 (.agg [.s (.int .i64 0), .s (.int .i64 0), .s (.int .i64 0), .s (.int .i64 0), .s (.int .i64 0), .s (.int .i64 0), .s (.int .i64 0)]) (List.length h)) h fun x11 h12 =>
effK (stE 7 x11 x10 h12) h12 fun x13 h14 =>
eqK P false 3 (t 19) (.s (.int .i64 0)) h14 fun x15 =>
grpK false x15 h14 (fun k16 =>
faK 0 x11 fun x17 =>
ldK 1 false x17 h14 fun x18 =>
arithK .sub (t 19) (.s (.int .i64 1)) fun x19 =>
iaK 7 (t 4) x19 fun x20 =>
faK 0 x20 fun x21 =>
ldK 1 false x21 h14 fun x22 =>
eqK P true 3 x18 x22 h14 fun x23 =>
k16 x23 h14) fun x24 h25 =>
condK x24 (
faK 0 x11 fun x26 =>
ldK 1 false x26 h25 fun x27 =>
callK (T 46) [(t 4), x27] h25 fun x28 h29 =>
effK (bsE 7 [.s (.int .i64 0), .s (.int .i64 0), .s (.int .i64 0), .s (.int .i64 0), .s (.int .i64 0), .s (.int .i64 0), .s (.int .i64 0)] 1 [(0, x28)] (List.length h29)) h29 fun x30 h31 =>
effK (appE 7 56 (t 6) x30 h31 (List.length h31)) h31 fun x32 h33 =>
(o_document_All_j4 P T D N k (upd (upd (upd (upd (upd t 20 x7) 8 x11) 7 (t 19)) 36 x24) 6 x32) h33)) (
(o_document_All_j4 P T D N k (upd (upd (upd (upd t 20 x7) 8 x11) 7 (t 19)) 36 x24) h25))) (
k (.exit 0) ((upd t 20 x7), h))
noncomputable def o_document_All_aL2 (P : Program) (T : Tab) (D : DTab) (N : Nat) {β : Type} (K : AV → Hp → Option β) (e : Ex) (s : St) : Option β :=
  e.on ((o_document_All_j1 P T D N K s.1 s.2))
  (fun i => bif i == 0 then ((o_document_All_j1 P T D N K s.1 s.2)) else (none))
  (K (.tup [(s.1 2), (s.1 3)]) s.2)
noncomputable def o_document_All_G (P : Program) (T : Tab) (D : DTab) (N : Nat) {β : Type} (cL2 : St → Option β) (K : AV → Hp → Option β) (a0 : AV) (h : Hp) :  Option β :=
callK (T 12) [a0] h fun x1 h2 =>
exK x1 0 fun x3 =>
exK x1 1 fun x4 =>
eqK P true 27 x4 (.s (.int .i64 0)) h2 fun x5 =>
condK x5 (
K (.tup [(.s (.slice none 0 0)), x4]) h2) (
lenK x3 fun x6 =>
cL2 ((upd (upd (upd (upd (upd (upd (upd (upd (upd (tm0 [a0]) 2 (.s (.slice none 0 0))) 3 (.s (.int .i64 0))) 4 x3) 5 x4) 15 x5) 6 (.s (.slice none 0 0))) 17 x3) 18 x6) 19 (.s (.int .i64 0))), h2))
noncomputable def o_document_All (P : Program) (T : Tab) (D : DTab) (N : Nat) {β : Type} (K : AV → Hp → Option β) (a0 : AV) (h : Hp) : Option β := o_document_All_G P T D N (fun s => iterK (fun s k => o_document_All_L2 P T D N s.1 s.2 k) N s (o_document_All_aL2 P T D N K)) K a0 h
noncomputable def f_document_All_j1 (P : Program) (T : Tab) (D : DTab) (N : Nat) {β : Type} (K : AV → Hp → Option β) (v6 : AV) (h : Hp) : Option β :=
K (.tup [v6, (.s (.int .i64 0))]) h
noncomputable def f_document_All_j3 (P : Program) (T : Tab) (D : DTab) (N : Nat) {β : Type} (xn : AV → AV → AV → AV → AV → Hp → Option β) (x0 : AV → Hp → Option β) (v4 : AV) (v6 : AV) (v17 : AV) (v18 : AV) (v19 : AV) (h : Hp) : Option β :=
arithK .add v19 (.s (.int .i64 1)) fun x8 =>
xn v4 v6 v17 v18 x8 h
noncomputable def f_document_All_j4 (P : Program) (T : Tab) (D : DTab) (N : Nat) {β : Type} (xn : AV → AV → AV → AV → AV → Hp → Option β) (x0 : AV → Hp → Option β) (v4 : AV) (v6 : AV) (v17 : AV) (v18 : AV) (v19 : AV) (h : Hp) : Option β :=
f_document_All_j3 P T D N xn x0 v4 v6 v17 v18 v19 h
noncomputable def f_document_All_b2 (P : Program) (T : Tab) (D : DTab) (N : Nat) {β : Type} (xn : AV → AV → AV → AV → AV → Hp → Option β) (x0 : AV → Hp → Option β) (v4 : AV) (v6 : AV) (v17 : AV) (v18 : AV) (v19 : AV) (h : Hp) : Option β :=
arithK .lss v19 v18 fun x7 =>
condK x7 (
iaK 7 v17 v19 fun x9 =>
ldK 7 true x9 h fun x10 =>
effK (boxE 7 (.agg [.s (.int .i64 0), .s (.int .i64 0), .s (.int .i64 0), .s (.int .i64 0), .s (.int .i64 0), .s (.int .i64 0), .s (.int .i64 0)]) (List.length h)) h fun x11 h12 =>
effK (stE 7 x11 x10 h12) h12 fun x13 h14 =>
eqK P false 3 v19 (.s (.int .i64 0)) h14 fun x15 =>
grpK false x15 h14 (fun k16 =>
faK 0 x11 fun x17 =>
ldK 1 false x17 h14 fun x18 =>
arithK .sub v19 (.s (.int .i64 1)) fun x19 =>
iaK 7 v4 x19 fun x20 =>
faK 0 x20 fun x21 =>
ldK 1 false x21 h14 fun x22 =>
eqK P true 3 x18 x22 h14 fun x23 =>
k16 x23 h14) fun x24 h25 =>
condK x24 (
faK 0 x11 fun x26 =>
ldK 1 false x26 h25 fun x27 =>
callK (T 46) [v4, x27] h25 fun x28 h29 =>
effK (bsE 7 [.s (.int .i64 0), .s (.int .i64 0), .s (.int .i64 0), .s (.int .i64 0), .s (.int .i64 0), .s (.int .i64 0), .s (.int .i64 0)] 1 [(0, x28)] (List.length h29)) h29 fun x30 h31 =>
effK (appE 7 56 v6 x30 h31 (List.length h31)) h31 fun x32 h33 =>
f_document_All_j4 P T D N xn x0 v4 x32 v17 v18 v19 h33) (
f_document_All_j4 P T D N xn x0 v4 v6 v17 v18 v19 h25)) (
x0 v6 h)
noncomputable def f_document_All_L2 (P : Program) (T : Tab) (D : DTab) (N : Nat) {β : Type} (x0 : AV → Hp → Option β) : Nat → AV → AV → AV → AV → AV → Hp → Option β
  | 0 => fun _ _ _ _ _ _ => none
  | n + 1 => fun v4 v6 v17 v18 v19 h => f_document_All_b2 P T D N (f_document_All_L2 P T D N x0 n) x0 v4 v6 v17 v18 v19 h
noncomputable def f_document_All (P : Program) (T : Tab) (D : DTab) (N : Nat) {β : Type} (K : AV → Hp → Option β) (a0 : AV) (h : Hp) : Option β :=
callK (T 12) [a0] h fun x1 h2 =>
exK x1 0 fun x3 =>
exK x1 1 fun x4 =>
eqK P true 27 x4 (.s (.int .i64 0)) h2 fun x5 =>
condK x5 (
K (.tup [(.s (.slice none 0 0)), x4]) h2) (
lenK x3 fun x6 =>
f_document_All_L2 P T D N (fun w34_6 h => f_document_All_j1 P T D N K w34_6 h) N x3 (.s (.slice none 0 0)) x3 x6 (.s (.int .i64 0)) h2)
theorem f_document_All_b2_eq (P : Program) (T : Tab) (D : DTab) (N : Nat) {β : Type} (xn : AV → AV → AV → AV → AV → Hp → Option β) (x0 : AV → Hp → Option β) (xd : Nat → St → Option β) (xq : St → Option β) (t : Tm) (h : Hp) : o_document_All_L2 P T D N t h (fun (e : Ex) (s : St) => e.on (xn (s.1 4) (s.1 6) (s.1 17) (s.1 18) (s.1 19) s.2) (fun i => (bif i == 0 then x0 (s.1 6) s.2 else (xd i s))) (xq s)) = f_document_All_b2 P T D N xn x0 (t 4) (t 6) (t 17) (t 18) (t 19) h := by kernel_rfl
theorem f_document_All_L2_eq (P : Program) (T : Tab) (D : DTab) (N : Nat) {β : Type} (A : Ex → St → Option β) (x0 : AV → Hp → Option β) (q0 : ∀ s, A (.exit 0) s = x0 (s.1 6) s.2) : ∀ (n : Nat) (s : St), iterK (fun s k => o_document_All_L2 P T D N s.1 s.2 k) n s A = f_document_All_L2 P T D N x0 n (s.1 4) (s.1 6) (s.1 17) (s.1 18) (s.1 19) s.2 := by
  intro n
  induction n with
  | zero => intro s; rfl
  | succ n ih =>
    intro s
    have hk : (fun (e : Ex) (s' : St) => Ex.on e (iterK (fun s k => o_document_All_L2 P T D N s.1 s.2 k) n s' A) (fun i => A (.exit i) s') (A .ret s')) = (fun (e : Ex) (s : St) => e.on ((f_document_All_L2 P T D N x0 n) (s.1 4) (s.1 6) (s.1 17) (s.1 18) (s.1 19) s.2) (fun i => (bif i == 0 then x0 (s.1 6) s.2 else (A (.exit i) s))) (A .ret s)) := by
      funext e s'
      cases e with
      | normal => exact ih s'
      | ret => exact rfl
      | exit i =>
        by_cases r0 : i = 0
        · subst r0; exact q0 s'
        simp only [Ex.on, beq_false_of_ne r0, cond_false]
    show o_document_All_L2 P T D N s.1 s.2 (fun (e : Ex) (s' : St) => Ex.on e (iterK (fun s k => o_document_All_L2 P T D N s.1 s.2 k) n s' A) (fun i => A (.exit i) s') (A .ret s')) = _
    rw [hk]
    exact f_document_All_b2_eq P T D N (f_document_All_L2 P T D N x0 n) x0 (fun i s => A (.exit i) s) (fun s => A .ret s) s.1 s.2
theorem f_document_All_old_eq (P : Program) (T : Tab) (D : DTab) (N : Nat) {β : Type} (K : AV → Hp → Option β) (a0 : AV) (h : Hp) : o_document_All P T D N K a0 h = f_document_All P T D N K a0 h := by
  have eL2 : (fun s : St => iterK (fun s k => o_document_All_L2 P T D N s.1 s.2 k) N s (o_document_All_aL2 P T D N K)) = (fun s : St => f_document_All_L2 P T D N (fun w34_6 h => f_document_All_j1 P T D N K w34_6 h) N (s.1 4) (s.1 6) (s.1 17) (s.1 18) (s.1 19) s.2) := funext fun s => f_document_All_L2_eq P T D N (o_document_All_aL2 P T D N K) (fun w34_6 h => f_document_All_j1 P T D N K w34_6 h) (fun s => rfl) N s
  show o_document_All_G P T D N (fun s => iterK (fun s k => o_document_All_L2 P T D N s.1 s.2 k) N s (o_document_All_aL2 P T D N K)) K a0 h = _
  rw [eL2]
  kernel_rfl
theorem o_document_All_run (T : Tab) (D : DTab) (N : Nat) {β : Type} (K : AV → Hp → Option β) (a0 : AV) (h : Hp) : runK Try.prog T D N [0, 2, 3, 4, 5, 6, 7, 8, 15, 17, 18, 19, 20, 36] Try.f20 K [a0] h = o_document_All Try.prog T D N K a0 h := by kernel_rfl
theorem f_document_All_run (T : Tab) (D : DTab) (N : Nat) {β : Type} (K : AV → Hp → Option β) (a0 : AV) (h : Hp) : runK Try.prog T D N [0, 2, 3, 4, 5, 6, 7, 8, 15, 17, 18, 19, 20, 36] Try.f20 K [a0] h = f_document_All Try.prog T D N K a0 h := (o_document_All_run T D N K a0 h).trans (f_document_All_old_eq Try.prog T D N K a0 h)
noncomputable def o_document_Open_j1 (P : Program) (T : Tab) (D : DTab) (N : Nat) {β : Type} (K : AV → Hp → Option β) (t : Tm) (h : Hp) : Option β :=
K (.tup [(t 8), (.s (.int .i64 0))]) h
noncomputable def o_document_Open_j3 (P : Program) (T : Tab) (D : DTab) (N : Nat) {β : Type} (k : Ex → St → Option β) (t : Tm) (h : Hp) : Option β :=
arithK .add (t 26) (.s (.int .i64 1)) fun x11 =>
k .normal ((upd t 26 x11), h)
noncomputable def o_document_Open_j4 (P : Program) (T : Tab) (D : DTab) (N : Nat) {β : Type} (k : Ex → St → Option β) (t : Tm) (h : Hp) : Option β :=
(o_document_Open_j3 P T D N k t h)
noncomputable def o_document_Open_L2 (P : Program) (T : Tab) (D : DTab) (N : Nat) {β : Type} (t : Tm) (h : Hp) (k : Ex → St → Option β) : Option β :=
arithK .lss (t 26) (t 25) fun x10 =>
condK x10 (
iaK 7 (t 24) (t 26) fun x12 =>
ldK 7 true x12 h fun x13 =>
effK (boxE 7 (.agg [.s (.int .i64 0), .s (.int .i64 0), .s (.int .i64 0), .s (.int .i64 0), .s (.int .i64 0), .s (.int .i64 0), .s (.int .i64 0)]) (List.length h)) h fun x14 h15 =>
effK (stE 7 x14 x13 h15) h15 fun x16 h17 =>
faK 1 x14 fun x18 =>
ldK 1 false x18 h17 fun x19 =>
eqK P false 3 x19 (.s (.int .i64 1)) h17 fun x20 =>
grpK true x20 h17 (fun k21 =>
faK 3 x14 fun x22 =>
ldK 1 false x22 h17 fun x23 =>
eqK P false 3 x23 (t 1) h17 fun x24 =>
k21 x24 h17) fun x25 h26 =>
condK x25 (
faK 4 x14 fun x27 =>
ldK 1 false x27 h26 fun x28 =>
arithK .add (t 8) x28 fun x29 =>
(o_document_Open_j4 P T D N k (upd (upd (upd (upd t 27 x10) 10 x14) 38 x25) 8 x29) h26)) (
(o_document_Open_j4 P T D N k (upd (upd (upd t 27 x10) 10 x14) 38 x25) h26))) (
k (.exit 1) ((upd t 27 x10), h))
noncomputable def o_document_Open_aL2 (P : Program) (T : Tab) (D : DTab) (N : Nat) {β : Type} (K : AV → Hp → Option β) (e : Ex) (s : St) : Option β :=
  e.on ((o_document_Open_j1 P T D N K s.1 s.2))
  (fun i => bif i == 1 then ((o_document_Open_j1 P T D N K s.1 s.2)) else (none))
  (K (.tup [(s.1 4), (s.1 5)]) s.2)
noncomputable def o_document_Open_G (P : Program) (T : Tab) (D : DTab) (N : Nat) {β : Type} (cL2 : St → Option β) (K : AV → Hp → Option β) (a0 : AV) (a1 : AV) (h : Hp) :  Option β :=
callK (T 20) [a0] h fun x1 h2 =>
exK x1 0 fun x3 =>
exK x1 1 fun x4 =>
eqK P true 27 x4 (.s (.int .i64 0)) h2 fun x5 =>
condK x5 (
K (.tup [(.s (.int .i64 0)), x4]) h2) (
callK (T 44) [a1] h2 fun x6 h7 =>
notK x6 fun x8 =>
condK x8 (
K (.tup [(.s (.int .i64 0)), (.s (.int .i64 2))]) h7) (
lenK x3 fun x9 =>
cL2 ((upd (upd (upd (upd (upd (upd (upd (upd (upd (upd (tm0 [a0, a1]) 4 (.s (.int .i64 0))) 5 (.s (.int .i64 0))) 6 x3) 7 x4) 16 x5) 20 x8) 8 (.s (.int .i64 0))) 24 x3) 25 x9) 26 (.s (.int .i64 0))), h7)))
noncomputable def o_document_Open (P : Program) (T : Tab) (D : DTab) (N : Nat) {β : Type} (K : AV → Hp → Option β) (a0 : AV) (a1 : AV) (h : Hp) : Option β := o_document_Open_G P T D N (fun s => iterK (fun s k => o_document_Open_L2 P T D N s.1 s.2 k) N s (o_document_Open_aL2 P T D N K)) K a0 a1 h
noncomputable def f_document_Open_j1 (P : Program) (T : Tab) (D : DTab) (N : Nat) {β : Type} (K : AV → Hp → Option β) (v8 : AV) (h : Hp) : Option β :=
K (.tup [v8, (.s (.int .i64 0))]) h
noncomputable def f_document_Open_j3 (P : Program) (T : Tab) (D : DTab) (N : Nat) {β : Type} (xn : AV → AV → AV → AV → AV → Hp → Option β) (x1 : AV → Hp → Option β) (v1 : AV) (v8 : AV) (v24 : AV) (v25 : AV) (v26 : AV) (h : Hp) : Option β :=
arithK .add v26 (.s (.int .i64 1)) fun x11 =>
xn v1 v8 v24 v25 x11 h
noncomputable def f_document_Open_j4 (P : Program) (T : Tab) (D : DTab) (N : Nat) {β : Type} (xn : AV → AV → AV → AV → AV → Hp → Option β) (x1 : AV → Hp → Option β) (v1 : AV) (v8 : AV) (v24 : AV) (v25 : AV) (v26 : AV) (h : Hp) : Option β :=
f_document_Open_j3 P T D N xn x1 v1 v8 v24 v25 v26 h
noncomputable def f_document_Open_b2 (P : Program) (T : Tab) (D : DTab) (N : Nat) {β : Type} (xn : AV → AV → AV → AV → AV → Hp → Option β) (x1 : AV → Hp → Option β) (v1 : AV) (v8 : AV) (v24 : AV) (v25 : AV) (v26 : AV) (h : Hp) : Option β :=
arithK .lss v26 v25 fun x10 =>
condK x10 (
iaK 7 v24 v26 fun x12 =>
ldK 7 true x12 h fun x13 =>
effK (boxE 7 (.agg [.s (.int .i64 0), .s (.int .i64 0), .s (.int .i64 0), .s (.int .i64 0), .s (.int .i64 0), .s (.int .i64 0), .s (.int .i64 0)]) (List.length h)) h fun x14 h15 =>
effK (stE 7 x14 x13 h15) h15 fun x16 h17 =>
faK 1 x14 fun x18 =>
ldK 1 false x18 h17 fun x19 =>
eqK P false 3 x19 (.s (.int .i64 1)) h17 fun x20 =>
grpK true x20 h17 (fun k21 =>
faK 3 x14 fun x22 =>
ldK 1 false x22 h17 fun x23 =>
eqK P false 3 x23 v1 h17 fun x24 =>
k21 x24 h17) fun x25 h26 =>
condK x25 (
faK 4 x14 fun x27 =>
ldK 1 false x27 h26 fun x28 =>
arithK .add v8 x28 fun x29 =>
f_document_Open_j4 P T D N xn x1 v1 x29 v24 v25 v26 h26) (
f_document_Open_j4 P T D N xn x1 v1 v8 v24 v25 v26 h26)) (
x1 v8 h)
noncomputable def f_document_Open_L2 (P : Program) (T : Tab) (D : DTab) (N : Nat) {β : Type} (x1 : AV → Hp → Option β) : Nat → AV → AV → AV → AV → AV → Hp → Option β
  | 0 => fun _ _ _ _ _ _ => none
  | n + 1 => fun v1 v8 v24 v25 v26 h => f_document_Open_b2 P T D N (f_document_Open_L2 P T D N x1 n) x1 v1 v8 v24 v25 v26 h
noncomputable def f_document_Open (P : Program) (T : Tab) (D : DTab) (N : Nat) {β : Type} (K : AV → Hp → Option β) (a0 : AV) (a1 : AV) (h : Hp) : Option β :=
callK (T 20) [a0] h fun x1 h2 =>
exK x1 0 fun x3 =>
exK x1 1 fun x4 =>
eqK P true 27 x4 (.s (.int .i64 0)) h2 fun x5 =>
condK x5 (
K (.tup [(.s (.int .i64 0)), x4]) h2) (
callK (T 44) [a1] h2 fun x6 h7 =>
notK x6 fun x8 =>
condK x8 (
K (.tup [(.s (.int .i64 0)), (.s (.int .i64 2))]) h7) (
lenK x3 fun x9 =>
f_document_Open_L2 P T D N (fun w30_8 h => f_document_Open_j1 P T D N K w30_8 h) N a1 (.s (.int .i64 0)) x3 x9 (.s (.int .i64 0)) h7))
theorem f_document_Open_b2_eq (P : Program) (T : Tab) (D : DTab) (N : Nat) {β : Type} (xn : AV → AV → AV → AV → AV → Hp → Option β) (x1 : AV → Hp → Option β) (xd : Nat → St → Option β) (xq : St → Option β) (t : Tm) (h : Hp) : o_document_Open_L2 P T D N t h (fun (e : Ex) (s : St) => e.on (xn (s.1 1) (s.1 8) (s.1 24) (s.1 25) (s.1 26) s.2) (fun i => (bif i == 1 then x1 (s.1 8) s.2 else (xd i s))) (xq s)) = f_document_Open_b2 P T D N xn x1 (t 1) (t 8) (t 24) (t 25) (t 26) h := by kernel_rfl
theorem f_document_Open_L2_eq (P : Program) (T : Tab) (D : DTab) (N : Nat) {β : Type} (A : Ex → St → Option β) (x1 : AV → Hp → Option β) (q1 : ∀ s, A (.exit 1) s = x1 (s.1 8) s.2) : ∀ (n : Nat) (s : St), iterK (fun s k => o_document_Open_L2 P T D N s.1 s.2 k) n s A = f_document_Open_L2 P T D N x1 n (s.1 1) (s.1 8) (s.1 24) (s.1 25) (s.1 26) s.2 := by
  intro n
  induction n with
  | zero => intro s; rfl
  | succ n ih =>
    intro s
    have hk : (fun (e : Ex) (s' : St) => Ex.on e (iterK (fun s k => o_document_Open_L2 P T D N s.1 s.2 k) n s' A) (fun i => A (.exit i) s') (A .ret s')) = (fun (e : Ex) (s : St) => e.on ((f_document_Open_L2 P T D N x1 n) (s.1 1) (s.1 8) (s.1 24) (s.1 25) (s.1 26) s.2) (fun i => (bif i == 1 then x1 (s.1 8) s.2 else (A (.exit i) s))) (A .ret s)) := by
      funext e s'
      cases e with
      | normal => exact ih s'
      | ret => exact rfl
      | exit i =>
        by_cases r1 : i = 1
        · subst r1; exact q1 s'
        simp only [Ex.on, beq_false_of_ne r1, cond_false]
    show o_document_Open_L2 P T D N s.1 s.2 (fun (e : Ex) (s' : St) => Ex.on e (iterK (fun s k => o_document_Open_L2 P T D N s.1 s.2 k) n s' A) (fun i => A (.exit i) s') (A .ret s')) = _
    rw [hk]
    exact f_document_Open_b2_eq P T D N (f_document_Open_L2 P T D N x1 n) x1 (fun i s => A (.exit i) s) (fun s => A .ret s) s.1 s.2
theorem f_document_Open_old_eq (P : Program) (T : Tab) (D : DTab) (N : Nat) {β : Type} (K : AV → Hp → Option β) (a0 : AV) (a1 : AV) (h : Hp) : o_document_Open P T D N K a0 a1 h = f_document_Open P T D N K a0 a1 h := by
  have eL2 : (fun s : St => iterK (fun s k => o_document_Open_L2 P T D N s.1 s.2 k) N s (o_document_Open_aL2 P T D N K)) = (fun s : St => f_document_Open_L2 P T D N (fun w30_8 h => f_document_Open_j1 P T D N K w30_8 h) N (s.1 1) (s.1 8) (s.1 24) (s.1 25) (s.1 26) s.2) := funext fun s => f_document_Open_L2_eq P T D N (o_document_Open_aL2 P T D N K) (fun w30_8 h => f_document_Open_j1 P T D N K w30_8 h) (fun s => rfl) N s
  show o_document_Open_G P T D N (fun s => iterK (fun s k => o_document_Open_L2 P T D N s.1 s.2 k) N s (o_document_Open_aL2 P T D N K)) K a0 a1 h = _
  rw [eL2]
  kernel_rfl
theorem o_document_Open_run (T : Tab) (D : DTab) (N : Nat) {β : Type} (K : AV → Hp → Option β) (a0 : AV) (a1 : AV) (h : Hp) : runK Try.prog T D N [0, 1, 4, 5, 6, 7, 8, 10, 16, 20, 24, 25, 26, 27, 38] Try.f22 K [a0, a1] h = o_document_Open Try.prog T D N K a0 a1 h := by kernel_rfl
theorem f_document_Open_run (T : Tab) (D : DTab) (N : Nat) {β : Type} (K : AV → Hp → Option β) (a0 : AV) (a1 : AV) (h : Hp) : runK Try.prog T D N [0, 1, 4, 5, 6, 7, 8, 10, 16, 20, 24, 25, 26, 27, 38] Try.f22 K [a0, a1] h = f_document_Open Try.prog T D N K a0 a1 h := (o_document_Open_run T D N K a0 a1 h).trans (f_document_Open_old_eq Try.prog T D N K a0 a1 h)
noncomputable def f_document_Later (P : Program) (T : Tab) (D : DTab) (N : Nat) {β : Type} (K : AV → Hp → Option β) (a0 : AV) (a1 : AV) (h : Hp) : Option β :=
effK (boxE 7 a0 (List.length h)) h fun x1 h2 =>
effK (boxE 7 a1 (List.length h2)) h2 fun x3 h4 =>
faK 0 x1 fun x5 =>
ldK 1 false x5 h4 fun x6 =>
faK 0 x3 fun x7 =>
ldK 1 false x7 h4 fun x8 =>
eqK P true 3 x6 x8 h4 fun x9 =>
condK x9 (
K (.s (.bool false)) h4) (
ldK 7 true x1 h4 fun x10 =>
ldK 7 true x3 h4 fun x11 =>
eqK P false 35 x10 x11 h4 fun x12 =>
grpK false x12 h4 (fun k13 =>
faK 1 x1 fun x14 =>
ldK 1 false x14 h4 fun x15 =>
eqK P false 3 x15 (.s (.int .i64 0)) h4 fun x16 =>
k13 x16 h4) fun x17 h18 =>
grpK false x17 h18 (fun k19 =>
faK 1 x3 fun x20 =>
ldK 1 false x20 h18 fun x21 =>
eqK P false 3 x21 (.s (.int .i64 5)) h18 fun x22 =>
k19 x22 h18) fun x23 h24 =>
condK x23 (
K (.s (.bool true)) h24) (
faK 2 x1 fun x25 =>
ldK 1 false x25 h24 fun x26 =>
faK 2 x3 fun x27 =>
ldK 1 false x27 h24 fun x28 =>
eqK P false 3 x26 x28 h24 fun x29 =>
grpK true x29 h24 (fun k30 =>
faK 4 x1 fun x31 =>
ldK 1 false x31 h24 fun x32 =>
faK 4 x3 fun x33 =>
ldK 1 false x33 h24 fun x34 =>
eqK P false 3 x32 x34 h24 fun x35 =>
k30 x35 h24) fun x36 h37 =>
grpK true x36 h37 (fun k38 =>
faK 6 x3 fun x39 =>
ldK 1 false x39 h37 fun x40 =>
faK 6 x1 fun x41 =>
ldK 1 false x41 h37 fun x42 =>
arithK .gtr x40 x42 fun x43 =>
grpK false x43 h37 (fun k44 =>
faK 6 x3 fun x45 =>
ldK 1 false x45 h37 fun x46 =>
faK 6 x1 fun x47 =>
ldK 1 false x47 h37 fun x48 =>
eqK P false 3 x46 x48 h37 fun x49 =>
grpK true x49 h37 (fun k50 =>
faK 3 x1 fun x51 =>
ldK 1 false x51 h37 fun x52 =>
faK 3 x3 fun x53 =>
ldK 1 false x53 h37 fun x54 =>
eqK P false 3 x52 x54 h37 fun x55 =>
k50 x55 h37) fun x56 h57 =>
k44 x56 h57) fun x58 h59 =>
k38 x58 h59) fun x60 h61 =>
grpK true x60 h61 (fun k62 =>
ldK 7 true x1 h61 fun x63 =>
ldK 7 true x3 h61 fun x64 =>
callK (T 50) [x63, x64] h61 fun x65 h66 =>
k62 x65 h66) fun x67 h68 =>
K x67 h68))
theorem f_document_Later_run (T : Tab) (D : DTab) (N : Nat) {β : Type} (K : AV → Hp → Option β) (a0 : AV) (a1 : AV) (h : Hp) : runK Try.prog T D N [0, 1, 2, 3, 4, 5, 11] Try.f25 K [a0, a1] h = f_document_Later Try.prog T D N K a0 a1 h := by kernel_rfl
noncomputable def o_slices_Reverse_Message_j1 (P : Program) (T : Tab) (D : DTab) (N : Nat) {β : Type} (K : AV → Hp → Option β) (t : Tm) (h : Hp) : Option β :=
K (.tup []) h
noncomputable def o_slices_Reverse_Message_L2 (P : Program) (T : Tab) (D : DTab) (N : Nat) {β : Type} (t : Tm) (h : Hp) (k : Ex → St → Option β) : Option β :=
arithK .lss (t 2) (t 3) fun x3 =>
condK x3 (
iaK 7 (t 0) (t 3) fun x4 =>
ldK 7 true x4 h fun x5 =>
iaK 7 (t 0) (t 2) fun x6 =>
ldK 7 true x6 h fun x7 =>
iaK 7 (t 0) (t 2) fun x8 =>
effK (stE 7 x8 x5 h) h fun x9 h10 =>
iaK 7 (t 0) (t 3) fun x11 =>
effK (stE 7 x11 x7 h10) h10 fun x12 h13 =>
arithK .add (t 2) (.s (.int .i64 1)) fun x14 =>
arithK .sub (t 3) (.s (.int .i64 1)) fun x15 =>
k .normal ((upd (upd (upd t 9 x3) 2 x14) 3 x15), h13)) (
k (.exit 0) ((upd t 9 x3), h))
noncomputable def o_slices_Reverse_Message_aL2 (P : Program) (T : Tab) (D : DTab) (N : Nat) {β : Type} (K : AV → Hp → Option β) (e : Ex) (s : St) : Option β :=
  e.on ((o_slices_Reverse_Message_j1 P T D N K s.1 s.2))
  (fun i => bif i == 0 then ((o_slices_Reverse_Message_j1 P T D N K s.1 s.2)) else (none))
  (K (.tup []) s.2)
noncomputable def o_slices_Reverse_Message_G (P : Program) (T : Tab) (D : DTab) (N : Nat) {β : Type} (cL2 : St → Option β) (K : AV → Hp → Option β) (a0 : AV) (h : Hp) :  Option β :=
lenK a0 fun x1 =>
arithK .sub x1 (.s (.int .i64 1)) fun x2 =>
cL2 ((upd (upd (tm0 [a0]) 2 (.s (.int .i64 0))) 3 x2), h)
noncomputable def o_slices_Reverse_Message (P : Program) (T : Tab) (D : DTab) (N : Nat) {β : Type} (K : AV → Hp → Option β) (a0 : AV) (h : Hp) : Option β := o_slices_Reverse_Message_G P T D N (fun s => iterK (fun s k => o_slices_Reverse_Message_L2 P T D N s.1 s.2 k) N s (o_slices_Reverse_Message_aL2 P T D N K)) K a0 h
noncomputable def f_slices_Reverse_Message_j1 (P : Program) (T : Tab) (D : DTab) (N : Nat) {β : Type} (K : AV → Hp → Option β) (h : Hp) : Option β :=
K (.tup []) h
noncomputable def f_slices_Reverse_Message_b2 (P : Program) (T : Tab) (D : DTab) (N : Nat) {β : Type} (xn : AV → AV → AV → Hp → Option β) (x0 : Hp → Option β) (v0 : AV) (v2 : AV) (v3 : AV) (h : Hp) : Option β :=
arithK .lss v2 v3 fun x3 =>
condK x3 (
iaK 7 v0 v3 fun x4 =>
ldK 7 true x4 h fun x5 =>
iaK 7 v0 v2 fun x6 =>
ldK 7 true x6 h fun x7 =>
iaK 7 v0 v2 fun x8 =>
effK (stE 7 x8 x5 h) h fun x9 h10 =>
iaK 7 v0 v3 fun x11 =>
effK (stE 7 x11 x7 h10) h10 fun x12 h13 =>
arithK .add v2 (.s (.int .i64 1)) fun x14 =>
arithK .sub v3 (.s (.int .i64 1)) fun x15 =>
xn v0 x14 x15 h13) (
x0 h)
noncomputable def f_slices_Reverse_Message_L2 (P : Program) (T : Tab) (D : DTab) (N : Nat) {β : Type} (x0 : Hp → Option β) : Nat → AV → AV → AV → Hp → Option β
  | 0 => fun _ _ _ _ => none
  | n + 1 => fun v0 v2 v3 h => f_slices_Reverse_Message_b2 P T D N (f_slices_Reverse_Message_L2 P T D N x0 n) x0 v0 v2 v3 h
noncomputable def f_slices_Reverse_Message (P : Program) (T : Tab) (D : DTab) (N : Nat) {β : Type} (K : AV → Hp → Option β) (a0 : AV) (h : Hp) : Option β :=
lenK a0 fun x1 =>
arithK .sub x1 (.s (.int .i64 1)) fun x2 =>
f_slices_Reverse_Message_L2 P T D N (fun h => f_slices_Reverse_Message_j1 P T D N K h) N a0 (.s (.int .i64 0)) x2 h
theorem f_slices_Reverse_Message_b2_eq (P : Program) (T : Tab) (D : DTab) (N : Nat) {β : Type} (xn : AV → AV → AV → Hp → Option β) (x0 : Hp → Option β) (xd : Nat → St → Option β) (xq : St → Option β) (t : Tm) (h : Hp) : o_slices_Reverse_Message_L2 P T D N t h (fun (e : Ex) (s : St) => e.on (xn (s.1 0) (s.1 2) (s.1 3) s.2) (fun i => (bif i == 0 then x0 s.2 else (xd i s))) (xq s)) = f_slices_Reverse_Message_b2 P T D N xn x0 (t 0) (t 2) (t 3) h := by kernel_rfl
theorem f_slices_Reverse_Message_L2_eq (P : Program) (T : Tab) (D : DTab) (N : Nat) {β : Type} (A : Ex → St → Option β) (x0 : Hp → Option β) (q0 : ∀ s, A (.exit 0) s = x0 s.2) : ∀ (n : Nat) (s : St), iterK (fun s k => o_slices_Reverse_Message_L2 P T D N s.1 s.2 k) n s A = f_slices_Reverse_Message_L2 P T D N x0 n (s.1 0) (s.1 2) (s.1 3) s.2 := by
  intro n
  induction n with
  | zero => intro s; rfl
  | succ n ih =>
    intro s
    have hk : (fun (e : Ex) (s' : St) => Ex.on e (iterK (fun s k => o_slices_Reverse_Message_L2 P T D N s.1 s.2 k) n s' A) (fun i => A (.exit i) s') (A .ret s')) = (fun (e : Ex) (s : St) => e.on ((f_slices_Reverse_Message_L2 P T D N x0 n) (s.1 0) (s.1 2) (s.1 3) s.2) (fun i => (bif i == 0 then x0 s.2 else (A (.exit i) s))) (A .ret s)) := by
      funext e s'
      cases e with
      | normal => exact ih s'
      | ret => exact rfl
      | exit i =>
        by_cases r0 : i = 0
        · subst r0; exact q0 s'
        simp only [Ex.on, beq_false_of_ne r0, cond_false]
    show o_slices_Reverse_Message_L2 P T D N s.1 s.2 (fun (e : Ex) (s' : St) => Ex.on e (iterK (fun s k => o_slices_Reverse_Message_L2 P T D N s.1 s.2 k) n s' A) (fun i => A (.exit i) s') (A .ret s')) = _
    rw [hk]
    exact f_slices_Reverse_Message_b2_eq P T D N (f_slices_Reverse_Message_L2 P T D N x0 n) x0 (fun i s => A (.exit i) s) (fun s => A .ret s) s.1 s.2
theorem f_slices_Reverse_Message_old_eq (P : Program) (T : Tab) (D : DTab) (N : Nat) {β : Type} (K : AV → Hp → Option β) (a0 : AV) (h : Hp) : o_slices_Reverse_Message P T D N K a0 h = f_slices_Reverse_Message P T D N K a0 h := by
  have eL2 : (fun s : St => iterK (fun s k => o_slices_Reverse_Message_L2 P T D N s.1 s.2 k) N s (o_slices_Reverse_Message_aL2 P T D N K)) = (fun s : St => f_slices_Reverse_Message_L2 P T D N (fun h => f_slices_Reverse_Message_j1 P T D N K h) N (s.1 0) (s.1 2) (s.1 3) s.2) := funext fun s => f_slices_Reverse_Message_L2_eq P T D N (o_slices_Reverse_Message_aL2 P T D N K) (fun h => f_slices_Reverse_Message_j1 P T D N K h) (fun s => rfl) N s
  show o_slices_Reverse_Message_G P T D N (fun s => iterK (fun s k => o_slices_Reverse_Message_L2 P T D N s.1 s.2 k) N s (o_slices_Reverse_Message_aL2 P T D N K)) K a0 h = _
  rw [eL2]
  kernel_rfl
theorem o_slices_Reverse_Message_run (T : Tab) (D : DTab) (N : Nat) {β : Type} (K : AV → Hp → Option β) (a0 : AV) (h : Hp) : runK Try.prog T D N [0, 2, 3, 9] Try.f32 K [a0] h = o_slices_Reverse_Message Try.prog T D N K a0 h := by kernel_rfl
theorem f_slices_Reverse_Message_run (T : Tab) (D : DTab) (N : Nat) {β : Type} (K : AV → Hp → Option β) (a0 : AV) (h : Hp) : runK Try.prog T D N [0, 2, 3, 9] Try.f32 K [a0] h = f_slices_Reverse_Message Try.prog T D N K a0 h := (o_slices_Reverse_Message_run T D N K a0 h).trans (f_slices_Reverse_Message_old_eq Try.prog T D N K a0 h)
noncomputable def o_slices_Equal_Document_j1 (P : Program) (T : Tab) (D : DTab) (N : Nat) {β : Type} (K : AV → Hp → Option β) (t : Tm) (h : Hp) : Option β :=
K (.s (.bool true)) h
noncomputable def o_slices_Equal_Document_L2 (P : Program) (T : Tab) (D : DTab) (N : Nat) {β : Type} (t : Tm) (h : Hp) (k : Ex → St → Option β) : Option β :=
arithK .lss (t 13) (t 12) fun x5 =>
condK x5 (
iaK 7 (t 0) (t 13) fun x6 =>
ldK 7 true x6 h fun x7 =>
iaK 7 (t 1) (t 13) fun x8 =>
ldK 7 true x8 h fun x9 =>
eqK P true 35 x7 x9 h fun x10 =>
condK x10 (
k .ret ((upd (upd (upd (upd t 14 x5) 5 (t 13)) 24 x10) 4 (.s (.bool false))), h)) (
arithK .add (t 13) (.s (.int .i64 1)) fun x11 =>
k .normal ((upd (upd (upd (upd t 14 x5) 5 (t 13)) 24 x10) 13 x11), h))) (
k (.exit 0) ((upd t 14 x5), h))
noncomputable def o_slices_Equal_Document_aL2 (P : Program) (T : Tab) (D : DTab) (N : Nat) {β : Type} (K : AV → Hp → Option β) (e : Ex) (s : St) : Option β :=
  e.on ((o_slices_Equal_Document_j1 P T D N K s.1 s.2))
  (fun i => bif i == 0 then ((o_slices_Equal_Document_j1 P T D N K s.1 s.2)) else (none))
  (K (s.1 4) s.2)
noncomputable def o_slices_Equal_Document_G (P : Program) (T : Tab) (D : DTab) (N : Nat) {β : Type} (cL2 : St → Option β) (K : AV → Hp → Option β) (a0 : AV) (a1 : AV) (h : Hp) :  Option β :=
lenK a0 fun x1 =>
lenK a1 fun x2 =>
eqK P true 3 x1 x2 h fun x3 =>
condK x3 (
K (.s (.bool false)) h) (
lenK a0 fun x4 =>
cL2 ((upd (upd (upd (upd (tm0 [a0, a1]) 4 (.s (.bool false))) 10 x3) 12 x4) 13 (.s (.int .i64 0))), h))
noncomputable def o_slices_Equal_Document (P : Program) (T : Tab) (D : DTab) (N : Nat) {β : Type} (K : AV → Hp → Option β) (a0 : AV) (a1 : AV) (h : Hp) : Option β := o_slices_Equal_Document_G P T D N (fun s => iterK (fun s k => o_slices_Equal_Document_L2 P T D N s.1 s.2 k) N s (o_slices_Equal_Document_aL2 P T D N K)) K a0 a1 h
noncomputable def f_slices_Equal_Document_j1 (P : Program) (T : Tab) (D : DTab) (N : Nat) {β : Type} (K : AV → Hp → Option β) (h : Hp) : Option β :=
K (.s (.bool true)) h
noncomputable def f_slices_Equal_Document_b2 (P : Program) (T : Tab) (D : DTab) (N : Nat) {β : Type} (xn : AV → AV → AV → AV → Hp → Option β) (x0 : Hp → Option β) (xr : AV → Hp → Option β) (v0 : AV) (v1 : AV) (v12 : AV) (v13 : AV) (h : Hp) : Option β :=
arithK .lss v13 v12 fun x5 =>
condK x5 (
iaK 7 v0 v13 fun x6 =>
ldK 7 true x6 h fun x7 =>
iaK 7 v1 v13 fun x8 =>
ldK 7 true x8 h fun x9 =>
eqK P true 35 x7 x9 h fun x10 =>
condK x10 (
xr (.s (.bool false)) h) (
arithK .add v13 (.s (.int .i64 1)) fun x11 =>
xn v0 v1 v12 x11 h)) (
x0 h)
noncomputable def f_slices_Equal_Document_L2 (P : Program) (T : Tab) (D : DTab) (N : Nat) {β : Type} (x0 : Hp → Option β) (xr : AV → Hp → Option β) : Nat → AV → AV → AV → AV → Hp → Option β
  | 0 => fun _ _ _ _ _ => none
  | n + 1 => fun v0 v1 v12 v13 h => f_slices_Equal_Document_b2 P T D N (f_slices_Equal_Document_L2 P T D N x0 xr n) x0 xr v0 v1 v12 v13 h
noncomputable def f_slices_Equal_Document (P : Program) (T : Tab) (D : DTab) (N : Nat) {β : Type} (K : AV → Hp → Option β) (a0 : AV) (a1 : AV) (h : Hp) : Option β :=
lenK a0 fun x1 =>
lenK a1 fun x2 =>
eqK P true 3 x1 x2 h fun x3 =>
condK x3 (
K (.s (.bool false)) h) (
lenK a0 fun x4 =>
f_slices_Equal_Document_L2 P T D N (fun h => f_slices_Equal_Document_j1 P T D N K h) (fun w13_4 h => K w13_4 h) N a0 a1 x4 (.s (.int .i64 0)) h)
theorem f_slices_Equal_Document_b2_eq (P : Program) (T : Tab) (D : DTab) (N : Nat) {β : Type} (xn : AV → AV → AV → AV → Hp → Option β) (x0 : Hp → Option β) (xr : AV → Hp → Option β) (xd : Nat → St → Option β) (xq : St → Option β) (t : Tm) (h : Hp) : o_slices_Equal_Document_L2 P T D N t h (fun (e : Ex) (s : St) => e.on (xn (s.1 0) (s.1 1) (s.1 12) (s.1 13) s.2) (fun i => (bif i == 0 then x0 s.2 else (xd i s))) (xr (s.1 4) s.2)) = f_slices_Equal_Document_b2 P T D N xn x0 xr (t 0) (t 1) (t 12) (t 13) h := by kernel_rfl
theorem f_slices_Equal_Document_L2_eq (P : Program) (T : Tab) (D : DTab) (N : Nat) {β : Type} (A : Ex → St → Option β) (x0 : Hp → Option β) (xr : AV → Hp → Option β) (q0 : ∀ s, A (.exit 0) s = x0 s.2) (qr : ∀ s, A .ret s = xr (s.1 4) s.2) : ∀ (n : Nat) (s : St), iterK (fun s k => o_slices_Equal_Document_L2 P T D N s.1 s.2 k) n s A = f_slices_Equal_Document_L2 P T D N x0 xr n (s.1 0) (s.1 1) (s.1 12) (s.1 13) s.2 := by
  intro n
  induction n with
  | zero => intro s; rfl
  | succ n ih =>
    intro s
    have hk : (fun (e : Ex) (s' : St) => Ex.on e (iterK (fun s k => o_slices_Equal_Document_L2 P T D N s.1 s.2 k) n s' A) (fun i => A (.exit i) s') (A .ret s')) = (fun (e : Ex) (s : St) => e.on ((f_slices_Equal_Document_L2 P T D N x0 xr n) (s.1 0) (s.1 1) (s.1 12) (s.1 13) s.2) (fun i => (bif i == 0 then x0 s.2 else (A (.exit i) s))) (xr (s.1 4) s.2)) := by
      funext e s'
      cases e with
      | normal => exact ih s'
      | ret => exact qr s'
      | exit i =>
        by_cases r0 : i = 0
        · subst r0; exact q0 s'
        simp only [Ex.on, beq_false_of_ne r0, cond_false]
    show o_slices_Equal_Document_L2 P T D N s.1 s.2 (fun (e : Ex) (s' : St) => Ex.on e (iterK (fun s k => o_slices_Equal_Document_L2 P T D N s.1 s.2 k) n s' A) (fun i => A (.exit i) s') (A .ret s')) = _
    rw [hk]
    exact f_slices_Equal_Document_b2_eq P T D N (f_slices_Equal_Document_L2 P T D N x0 xr n) x0 xr (fun i s => A (.exit i) s) (fun s => A .ret s) s.1 s.2
theorem f_slices_Equal_Document_old_eq (P : Program) (T : Tab) (D : DTab) (N : Nat) {β : Type} (K : AV → Hp → Option β) (a0 : AV) (a1 : AV) (h : Hp) : o_slices_Equal_Document P T D N K a0 a1 h = f_slices_Equal_Document P T D N K a0 a1 h := by
  have eL2 : (fun s : St => iterK (fun s k => o_slices_Equal_Document_L2 P T D N s.1 s.2 k) N s (o_slices_Equal_Document_aL2 P T D N K)) = (fun s : St => f_slices_Equal_Document_L2 P T D N (fun h => f_slices_Equal_Document_j1 P T D N K h) (fun w13_4 h => K w13_4 h) N (s.1 0) (s.1 1) (s.1 12) (s.1 13) s.2) := funext fun s => f_slices_Equal_Document_L2_eq P T D N (o_slices_Equal_Document_aL2 P T D N K) (fun h => f_slices_Equal_Document_j1 P T D N K h) (fun w13_4 h => K w13_4 h) (fun s => rfl) (fun s => rfl) N s
  show o_slices_Equal_Document_G P T D N (fun s => iterK (fun s k => o_slices_Equal_Document_L2 P T D N s.1 s.2 k) N s (o_slices_Equal_Document_aL2 P T D N K)) K a0 a1 h = _
  rw [eL2]
  kernel_rfl
theorem o_slices_Equal_Document_run (T : Tab) (D : DTab) (N : Nat) {β : Type} (K : AV → Hp → Option β) (a0 : AV) (a1 : AV) (h : Hp) : runK Try.prog T D N [0, 1, 4, 5, 10, 12, 13, 14, 24] Try.f34 K [a0, a1] h = o_slices_Equal_Document Try.prog T D N K a0 a1 h := by kernel_rfl
theorem f_slices_Equal_Document_run (T : Tab) (D : DTab) (N : Nat) {β : Type} (K : AV → Hp → Option β) (a0 : AV) (a1 : AV) (h : Hp) : runK Try.prog T D N [0, 1, 4, 5, 10, 12, 13, 14, 24] Try.f34 K [a0, a1] h = f_slices_Equal_Document Try.prog T D N K a0 a1 h := (o_slices_Equal_Document_run T D N K a0 a1 h).trans (f_slices_Equal_Document_old_eq Try.prog T D N K a0 a1 h)
noncomputable def o_slices_Equal_Message_j1 (P : Program) (T : Tab) (D : DTab) (N : Nat) {β : Type} (K : AV → Hp → Option β) (t : Tm) (h : Hp) : Option β :=
K (.s (.bool true)) h
noncomputable def o_slices_Equal_Message_L2 (P : Program) (T : Tab) (D : DTab) (N : Nat) {β : Type} (t : Tm) (h : Hp) (k : Ex → St → Option β) : Option β :=
arithK .lss (t 13) (t 12) fun x5 =>
condK x5 (
iaK 7 (t 0) (t 13) fun x6 =>
ldK 7 true x6 h fun x7 =>
iaK 7 (t 1) (t 13) fun x8 =>
ldK 7 true x8 h fun x9 =>
eqK P true 23 x7 x9 h fun x10 =>
condK x10 (
k .ret ((upd (upd (upd (upd t 14 x5) 5 (t 13)) 24 x10) 4 (.s (.bool false))), h)) (
arithK .add (t 13) (.s (.int .i64 1)) fun x11 =>
k .normal ((upd (upd (upd (upd t 14 x5) 5 (t 13)) 24 x10) 13 x11), h))) (
k (.exit 0) ((upd t 14 x5), h))
noncomputable def o_slices_Equal_Message_aL2 (P : Program) (T : Tab) (D : DTab) (N : Nat) {β : Type} (K : AV → Hp → Option β) (e : Ex) (s : St) : Option β :=
  e.on ((o_slices_Equal_Message_j1 P T D N K s.1 s.2))
  (fun i => bif i == 0 then ((o_slices_Equal_Message_j1 P T D N K s.1 s.2)) else (none))
  (K (s.1 4) s.2)
noncomputable def o_slices_Equal_Message_G (P : Program) (T : Tab) (D : DTab) (N : Nat) {β : Type} (cL2 : St → Option β) (K : AV → Hp → Option β) (a0 : AV) (a1 : AV) (h : Hp) :  Option β :=
lenK a0 fun x1 =>
lenK a1 fun x2 =>
eqK P true 3 x1 x2 h fun x3 =>
condK x3 (
K (.s (.bool false)) h) (
lenK a0 fun x4 =>
cL2 ((upd (upd (upd (upd (tm0 [a0, a1]) 4 (.s (.bool false))) 10 x3) 12 x4) 13 (.s (.int .i64 0))), h))
noncomputable def o_slices_Equal_Message (P : Program) (T : Tab) (D : DTab) (N : Nat) {β : Type} (K : AV → Hp → Option β) (a0 : AV) (a1 : AV) (h : Hp) : Option β := o_slices_Equal_Message_G P T D N (fun s => iterK (fun s k => o_slices_Equal_Message_L2 P T D N s.1 s.2 k) N s (o_slices_Equal_Message_aL2 P T D N K)) K a0 a1 h
noncomputable def f_slices_Equal_Message_j1 (P : Program) (T : Tab) (D : DTab) (N : Nat) {β : Type} (K : AV → Hp → Option β) (h : Hp) : Option β :=
K (.s (.bool true)) h
noncomputable def f_slices_Equal_Message_b2 (P : Program) (T : Tab) (D : DTab) (N : Nat) {β : Type} (xn : AV → AV → AV → AV → Hp → Option β) (x0 : Hp → Option β) (xr : AV → Hp → Option β) (v0 : AV) (v1 : AV) (v12 : AV) (v13 : AV) (h : Hp) : Option β :=
arithK .lss v13 v12 fun x5 =>
condK x5 (
iaK 7 v0 v13 fun x6 =>
ldK 7 true x6 h fun x7 =>
iaK 7 v1 v13 fun x8 =>
ldK 7 true x8 h fun x9 =>
eqK P true 23 x7 x9 h fun x10 =>
condK x10 (
xr (.s (.bool false)) h) (
arithK .add v13 (.s (.int .i64 1)) fun x11 =>
xn v0 v1 v12 x11 h)) (
x0 h)
noncomputable def f_slices_Equal_Message_L2 (P : Program) (T : Tab) (D : DTab) (N : Nat) {β : Type} (x0 : Hp → Option β) (xr : AV → Hp → Option β) : Nat → AV → AV → AV → AV → Hp → Option β
  | 0 => fun _ _ _ _ _ => none
  | n + 1 => fun v0 v1 v12 v13 h => f_slices_Equal_Message_b2 P T D N (f_slices_Equal_Message_L2 P T D N x0 xr n) x0 xr v0 v1 v12 v13 h
noncomputable def f_slices_Equal_Message (P : Program) (T : Tab) (D : DTab) (N : Nat) {β : Type} (K : AV → Hp → Option β) (a0 : AV) (a1 : AV) (h : Hp) : Option β :=
lenK a0 fun x1 =>
lenK a1 fun x2 =>
eqK P true 3 x1 x2 h fun x3 =>
condK x3 (
K (.s (.bool false)) h) (
lenK a0 fun x4 =>
f_slices_Equal_Message_L2 P T D N (fun h => f_slices_Equal_Message_j1 P T D N K h) (fun w13_4 h => K w13_4 h) N a0 a1 x4 (.s (.int .i64 0)) h)
theorem f_slices_Equal_Message_b2_eq (P : Program) (T : Tab) (D : DTab) (N : Nat) {β : Type} (xn : AV → AV → AV → AV → Hp → Option β) (x0 : Hp → Option β) (xr : AV → Hp → Option β) (xd : Nat → St → Option β) (xq : St → Option β) (t : Tm) (h : Hp) : o_slices_Equal_Message_L2 P T D N t h (fun (e : Ex) (s : St) => e.on (xn (s.1 0) (s.1 1) (s.1 12) (s.1 13) s.2) (fun i => (bif i == 0 then x0 s.2 else (xd i s))) (xr (s.1 4) s.2)) = f_slices_Equal_Message_b2 P T D N xn x0 xr (t 0) (t 1) (t 12) (t 13) h := by kernel_rfl
theorem f_slices_Equal_Message_L2_eq (P : Program) (T : Tab) (D : DTab) (N : Nat) {β : Type} (A : Ex → St → Option β) (x0 : Hp → Option β) (xr : AV → Hp → Option β) (q0 : ∀ s, A (.exit 0) s = x0 s.2) (qr : ∀ s, A .ret s = xr (s.1 4) s.2) : ∀ (n : Nat) (s : St), iterK (fun s k => o_slices_Equal_Message_L2 P T D N s.1 s.2 k) n s A = f_slices_Equal_Message_L2 P T D N x0 xr n (s.1 0) (s.1 1) (s.1 12) (s.1 13) s.2 := by
  intro n
  induction n with
  | zero => intro s; rfl
  | succ n ih =>
    intro s
    have hk : (fun (e : Ex) (s' : St) => Ex.on e (iterK (fun s k => o_slices_Equal_Message_L2 P T D N s.1 s.2 k) n s' A) (fun i => A (.exit i) s') (A .ret s')) = (fun (e : Ex) (s : St) => e.on ((f_slices_Equal_Message_L2 P T D N x0 xr n) (s.1 0) (s.1 1) (s.1 12) (s.1 13) s.2) (fun i => (bif i == 0 then x0 s.2 else (A (.exit i) s))) (xr (s.1 4) s.2)) := by
      funext e s'
      cases e with
      | normal => exact ih s'
      | ret => exact qr s'
      | exit i =>
        by_cases r0 : i = 0
        · subst r0; exact q0 s'
        simp only [Ex.on, beq_false_of_ne r0, cond_false]
    show o_slices_Equal_Message_L2 P T D N s.1 s.2 (fun (e : Ex) (s' : St) => Ex.on e (iterK (fun s k => o_slices_Equal_Message_L2 P T D N s.1 s.2 k) n s' A) (fun i => A (.exit i) s') (A .ret s')) = _
    rw [hk]
    exact f_slices_Equal_Message_b2_eq P T D N (f_slices_Equal_Message_L2 P T D N x0 xr n) x0 xr (fun i s => A (.exit i) s) (fun s => A .ret s) s.1 s.2
theorem f_slices_Equal_Message_old_eq (P : Program) (T : Tab) (D : DTab) (N : Nat) {β : Type} (K : AV → Hp → Option β) (a0 : AV) (a1 : AV) (h : Hp) : o_slices_Equal_Message P T D N K a0 a1 h = f_slices_Equal_Message P T D N K a0 a1 h := by
  have eL2 : (fun s : St => iterK (fun s k => o_slices_Equal_Message_L2 P T D N s.1 s.2 k) N s (o_slices_Equal_Message_aL2 P T D N K)) = (fun s : St => f_slices_Equal_Message_L2 P T D N (fun h => f_slices_Equal_Message_j1 P T D N K h) (fun w13_4 h => K w13_4 h) N (s.1 0) (s.1 1) (s.1 12) (s.1 13) s.2) := funext fun s => f_slices_Equal_Message_L2_eq P T D N (o_slices_Equal_Message_aL2 P T D N K) (fun h => f_slices_Equal_Message_j1 P T D N K h) (fun w13_4 h => K w13_4 h) (fun s => rfl) (fun s => rfl) N s
  show o_slices_Equal_Message_G P T D N (fun s => iterK (fun s k => o_slices_Equal_Message_L2 P T D N s.1 s.2 k) N s (o_slices_Equal_Message_aL2 P T D N K)) K a0 a1 h = _
  rw [eL2]
  kernel_rfl
theorem o_slices_Equal_Message_run (T : Tab) (D : DTab) (N : Nat) {β : Type} (K : AV → Hp → Option β) (a0 : AV) (a1 : AV) (h : Hp) : runK Try.prog T D N [0, 1, 4, 5, 10, 12, 13, 14, 24] Try.f35 K [a0, a1] h = o_slices_Equal_Message Try.prog T D N K a0 a1 h := by kernel_rfl
theorem f_slices_Equal_Message_run (T : Tab) (D : DTab) (N : Nat) {β : Type} (K : AV → Hp → Option β) (a0 : AV) (a1 : AV) (h : Hp) : runK Try.prog T D N [0, 1, 4, 5, 10, 12, 13, 14, 24] Try.f35 K [a0, a1] h = f_slices_Equal_Message Try.prog T D N K a0 a1 h := (o_slices_Equal_Message_run T D N K a0 a1 h).trans (f_slices_Equal_Message_old_eq Try.prog T D N K a0 a1 h)
noncomputable def f_law40_example (P : Program) (T : Tab) (D : DTab) (N : Nat) {β : Type} (K : AV → Hp → Option β) (h : Hp) : Option β :=
buildK [.s (.int .i64 0), .s (.int .i64 0), .s (.int .i64 0), .s (.int .i64 0), .s (.int .i64 0), .s (.int .i64 0), .s (.int .i64 0)] [(some (0, 1), (.s (.int .i64 5))), (some (1, 1), (.s (.int .i64 1))), (some (3, 1), (.s (.int .i64 1))), (some (4, 1), (.s (.int .i64 1))), (some (5, 1), (.s (.int .i64 2))), (some (6, 1), (.s (.int .i64 100)))] fun x1 =>
buildK [.s (.int .i64 0), .s (.int .i64 0), .s (.int .i64 0), .s (.int .i64 0), .s (.int .i64 0), .s (.int .i64 0), .s (.int .i64 0)] [(some (0, 1), (.s (.int .i64 5))), (some (1, 1), (.s (.int .i64 2))), (some (2, 1), (.s (.int .i64 1))), (some (3, 1), (.s (.int .i64 2))), (some (5, 1), (.s (.int .i64 3)))] fun x2 =>
buildK [.s (.int .i64 0), .s (.int .i64 0), .s (.int .i64 0), .s (.int .i64 0), .s (.int .i64 0), .s (.int .i64 0), .s (.int .i64 0)] [(some (0, 1), (.s (.int .i64 5))), (some (1, 1), (.s (.int .i64 3))), (some (3, 1), (.s (.int .i64 4))), (some (6, 1), (.s (.int .i64 98)))] fun x3 =>
effK (bsE 7 [.s (.int .i64 0), .s (.int .i64 0), .s (.int .i64 0), .s (.int .i64 0), .s (.int .i64 0), .s (.int .i64 0), .s (.int .i64 0)] 3 [(0, x1), (1, x2), (2, x3)] (List.length h)) h fun x4 h5 =>
K x4 h5
theorem f_law40_example_run (T : Tab) (D : DTab) (N : Nat) {β : Type} (K : AV → Hp → Option β) (h : Hp) : runK Try.prog T D N [0] Try.f36 K [] h = f_law40_example Try.prog T D N K  h := by kernel_rfl
noncomputable def f_slices_ContainsFunc_Message (P : Program) (T : Tab) (D : DTab) (N : Nat) {β : Type} (K : AV → Hp → Option β) (a0 : AV) (a1 : AV) (h : Hp) : Option β :=
callK (T 51) [a0, a1] h fun x1 h2 =>
arithK .geq x1 (.s (.int .i64 0)) fun x3 =>
K x3 h2
theorem f_slices_ContainsFunc_Message_run (T : Tab) (D : DTab) (N : Nat) {β : Type} (K : AV → Hp → Option β) (a0 : AV) (a1 : AV) (h : Hp) : runK Try.prog T D N [0, 1, 4] Try.f37 K [a0, a1] h = f_slices_ContainsFunc_Message Try.prog T D N K a0 a1 h := by kernel_rfl
noncomputable def f_document_Normal_1 (P : Program) (T : Tab) (D : DTab) (N : Nat) {β : Type} (K : AV → Hp → Option β) (a0 : AV) (h : Hp) : Option β :=
effK (boxE 7 a0 (List.length h)) h fun x1 h2 =>
ldK 7 true x1 h2 fun x3 =>
callK (T 15) [x3] h2 fun x4 h5 =>
eqK P true 27 x4 (.s (.int .i64 0)) h5 fun x6 =>
K x6 h5
theorem f_document_Normal_1_run (T : Tab) (D : DTab) (N : Nat) {β : Type} (K : AV → Hp → Option β) (a0 : AV) (h : Hp) : runK Try.prog T D N [0, 1, 2] Try.f38 K [a0] h = f_document_Normal_1 Try.prog T D N K a0 h := by kernel_rfl
noncomputable def f_document_compare (P : Program) (T : Tab) (D : DTab) (N : Nat) {β : Type} (K : AV → Hp → Option β) (a0 : AV) (a1 : AV) (h : Hp) : Option β :=
effK (boxE 7 a0 (List.length h)) h fun x1 h2 =>
effK (boxE 7 a1 (List.length h2)) h2 fun x3 h4 =>
faK 0 x1 fun x5 =>
ldK 1 false x5 h4 fun x6 =>
faK 0 x3 fun x7 =>
ldK 1 false x7 h4 fun x8 =>
effD (callE (D 58) [x6, x8] h4 (List.length h4)) h4 fun x9 h10 e11 =>
faK 1 x1 fun x12 =>
ldK 1 false x12 h10 fun x13 =>
faK 1 x3 fun x14 =>
ldK 1 false x14 h10 fun x15 =>
effD (callE (D 58) [x13, x15] h10 (List.length h10)) h10 fun x16 h17 e18 =>
faK 2 x1 fun x19 =>
ldK 1 false x19 h17 fun x20 =>
faK 2 x3 fun x21 =>
ldK 1 false x21 h17 fun x22 =>
effD (callE (D 58) [x20, x22] h17 (List.length h17)) h17 fun x23 h24 e25 =>
faK 3 x1 fun x26 =>
ldK 1 false x26 h24 fun x27 =>
faK 3 x3 fun x28 =>
ldK 1 false x28 h24 fun x29 =>
effD (callE (D 58) [x27, x29] h24 (List.length h24)) h24 fun x30 h31 e32 =>
faK 4 x1 fun x33 =>
ldK 1 false x33 h31 fun x34 =>
faK 4 x3 fun x35 =>
ldK 1 false x35 h31 fun x36 =>
effD (callE (D 58) [x34, x36] h31 (List.length h31)) h31 fun x37 h38 e39 =>
faK 5 x1 fun x40 =>
ldK 1 false x40 h38 fun x41 =>
faK 5 x3 fun x42 =>
ldK 1 false x42 h38 fun x43 =>
effD (callE (D 58) [x41, x43] h38 (List.length h38)) h38 fun x44 h45 e46 =>
faK 6 x1 fun x47 =>
ldK 1 false x47 h45 fun x48 =>
faK 6 x3 fun x49 =>
ldK 1 false x49 h45 fun x50 =>
effD (callE (D 58) [x48, x50] h45 (List.length h45)) h45 fun x51 h52 e53 =>
effD (bsE 1 [.s (.int .i64 0)] 7 [(0, x9), (1, x16), (2, x23), (3, x30), (4, x37), (5, x44), (6, x51)] (List.length h52)) h52 fun x54 h55 e56 =>
effD (callE (D 57) [x54] h55 (List.length h55)) h55 fun x57 h58 e59 =>
bif disjAll [(4, 6), (4, 8), (4, 11), (9, 11), (4, 13), (9, 13), (4, 16), (9, 16), (14, 16), (4, 18), (9, 18), (14, 18), (4, 21), (9, 21), (14, 21), (19, 21), (4, 23), (9, 23), (14, 23), (19, 23), (4, 26), (9, 26), (14, 26), (19, 26), (24, 26), (4, 28), (9, 28), (14, 28), (19, 28), (24, 28), (4, 31), (9, 31), (14, 31), (19, 31), (24, 31), (29, 31), (4, 33), (9, 33), (14, 33), (19, 33), (24, 33), (29, 33)] [([], []), ((idsOf x5), []), ([], []), ((idsOf x7), []), e11, ([], []), ((idsOf x12), []), ([], []), ((idsOf x14), []), e18, ([], []), ((idsOf x19), []), ([], []), ((idsOf x21), []), e25, ([], []), ((idsOf x26), []), ([], []), ((idsOf x28), []), e32, ([], []), ((idsOf x33), []), ([], []), ((idsOf x35), []), e39, ([], []), ((idsOf x40), []), ([], []), ((idsOf x42), []), e46, ([], []), ((idsOf x47), []), ([], []), ((idsOf x49), []), e53, e56, e59, ([], [])] then (
K x57 h58) else none
theorem f_document_compare_run (T : Tab) (D : DTab) (N : Nat) {β : Type} (K : AV → Hp → Option β) (a0 : AV) (a1 : AV) (h : Hp) : runK Try.prog T D N [0, 1, 2, 3, 4] Try.f40 K [a0, a1] h = f_document_compare Try.prog T D N K a0 a1 h := by kernel_rfl
noncomputable def o_slices_Compact_Message_j1 (P : Program) (T : Tab) (D : DTab) (N : Nat) {β : Type} (K : AV → Hp → Option β) (t : Tm) (h : Hp) : Option β :=
K (t 0) h
noncomputable def o_slices_Compact_Message_j3 (P : Program) (T : Tab) (D : DTab) (N : Nat) {β : Type} (k : Ex → St → Option β) (t : Tm) (h : Hp) : Option β :=
arithK .add (t 3) (.s (.int .i64 1)) fun x5 =>
k .normal ((upd t 3 x5), h)
noncomputable def o_slices_Compact_Message_j4 (P : Program) (T : Tab) (D : DTab) (N : Nat) {β : Type} (k : Ex → St → Option β) (t : Tm) (h : Hp) : Option β :=
sliceK 7 (t 0) (some (t 3)) none none fun x13 =>
effK (clrE 7 [.s (.int .i64 0), .s (.int .i64 0), .s (.int .i64 0), .s (.int .i64 0), .s (.int .i64 0), .s (.int .i64 0), .s (.int .i64 0)] x13 h) h fun x14 h15 =>
sliceK 7 (t 0) none (some (t 3)) none fun x16 =>
k .ret ((upd t 2 x16), h15)
noncomputable def o_slices_Compact_Message_j6 (P : Program) (T : Tab) (D : DTab) (N : Nat) {β : Type} (k : Ex → St → Option β) (t : Tm) (h : Hp) : Option β :=
arithK .add (t 5) (.s (.int .i64 1)) fun x19 =>
k .normal ((upd t 5 x19), h)
noncomputable def o_slices_Compact_Message_j7 (P : Program) (T : Tab) (D : DTab) (N : Nat) {β : Type} (k : Ex → St → Option β) (t : Tm) (h : Hp) : Option β :=
(o_slices_Compact_Message_j6 P T D N k t h)
noncomputable def o_slices_Compact_Message_L5 (P : Program) (T : Tab) (D : DTab) (N : Nat) {β : Type} (t : Tm) (h : Hp) (k : Ex → St → Option β) : Option β :=
lenK (t 4) fun x17 =>
arithK .lss (t 5) x17 fun x18 =>
condK x18 (
iaK 7 (t 4) (t 5) fun x20 =>
ldK 7 true x20 h fun x21 =>
arithK .sub (t 5) (.s (.int .i64 1)) fun x22 =>
iaK 7 (t 4) x22 fun x23 =>
ldK 7 true x23 h fun x24 =>
eqK P true 23 x21 x24 h fun x25 =>
condK x25 (
iaK 7 (t 4) (t 5) fun x26 =>
ldK 7 true x26 h fun x27 =>
iaK 7 (t 0) (t 3) fun x28 =>
effK (stE 7 x28 x27 h) h fun x29 h30 =>
arithK .add (t 3) (.s (.int .i64 1)) fun x31 =>
(o_slices_Compact_Message_j7 P T D N k (upd (upd (upd t 32 x18) 44 x25) 3 x31) h30)) (
(o_slices_Compact_Message_j7 P T D N k (upd (upd t 32 x18) 44 x25) h))) (
k (.exit 2) ((upd t 32 x18), h))
noncomputable def o_slices_Compact_Message_aL5 (P : Program) (T : Tab) (D : DTab) (N : Nat) {β : Type} (k : Ex → St → Option β) (e : Ex) (s : St) : Option β :=
  e.on ((o_slices_Compact_Message_j4 P T D N k s.1 s.2))
  (fun i => bif i == 2 then ((o_slices_Compact_Message_j4 P T D N k s.1 s.2)) else (bif i == 1 then ((o_slices_Compact_Message_j3 P T D N k s.1 s.2)) else (k (.exit i) (s.1, s.2))))
  (k .ret (s.1, s.2))
noncomputable def o_slices_Compact_Message_L2_G (P : Program) (T : Tab) (D : DTab) (N : Nat) {β : Type} (cL5 : St → Option β) (cj3 : St → Option β) (t : Tm) (h : Hp) (k : Ex → St → Option β) :  Option β :=
lenK (t 0) fun x3 =>
arithK .lss (t 3) x3 fun x4 =>
condK x4 (
iaK 7 (t 0) (t 3) fun x6 =>
ldK 7 true x6 h fun x7 =>
arithK .sub (t 3) (.s (.int .i64 1)) fun x8 =>
iaK 7 (t 0) x8 fun x9 =>
ldK 7 true x9 h fun x10 =>
eqK P false 23 x7 x10 h fun x11 =>
condK x11 (
sliceK 7 (t 0) (some (t 3)) none none fun x12 =>
cL5 ((upd (upd (upd (upd t 13 x4) 25 x11) 4 x12) 5 (.s (.int .i64 1))), h)) (
cj3 ((upd (upd t 13 x4) 25 x11), h))) (
k (.exit 0) ((upd t 13 x4), h))
noncomputable def o_slices_Compact_Message_L2 (P : Program) (T : Tab) (D : DTab) (N : Nat) {β : Type} (t : Tm) (h : Hp) (k : Ex → St → Option β) : Option β := o_slices_Compact_Message_L2_G P T D N (fun s => iterK (fun s k => o_slices_Compact_Message_L5 P T D N s.1 s.2 k) N s (o_slices_Compact_Message_aL5 P T D N k)) (fun s => (o_slices_Compact_Message_j3 P T D N k s.1 s.2)) t h k
noncomputable def o_slices_Compact_Message_aL2 (P : Program) (T : Tab) (D : DTab) (N : Nat) {β : Type} (K : AV → Hp → Option β) (e : Ex) (s : St) : Option β :=
  e.on ((o_slices_Compact_Message_j1 P T D N K s.1 s.2))
  (fun i => bif i == 0 then ((o_slices_Compact_Message_j1 P T D N K s.1 s.2)) else (none))
  (K (s.1 2) s.2)
noncomputable def o_slices_Compact_Message_G (P : Program) (T : Tab) (D : DTab) (N : Nat) {β : Type} (cL2 : St → Option β) (K : AV → Hp → Option β) (a0 : AV) (h : Hp) :  Option β :=
lenK a0 fun x1 =>
arithK .lss x1 (.s (.int .i64 2)) fun x2 =>
condK x2 (
K a0 h) (
cL2 ((upd (upd (upd (tm0 [a0]) 2 (.s (.slice none 0 0))) 8 x2) 3 (.s (.int .i64 1))), h))
noncomputable def o_slices_Compact_Message (P : Program) (T : Tab) (D : DTab) (N : Nat) {β : Type} (K : AV → Hp → Option β) (a0 : AV) (h : Hp) : Option β := o_slices_Compact_Message_G P T D N (fun s => iterK (fun s k => o_slices_Compact_Message_L2 P T D N s.1 s.2 k) N s (o_slices_Compact_Message_aL2 P T D N K)) K a0 h
noncomputable def f_slices_Compact_Message_j1 (P : Program) (T : Tab) (D : DTab) (N : Nat) {β : Type} (K : AV → Hp → Option β) (v0 : AV) (h : Hp) : Option β :=
K v0 h
noncomputable def f_slices_Compact_Message_j3 (P : Program) (T : Tab) (D : DTab) (N : Nat) {β : Type} (xn : AV → AV → Hp → Option β) (x0 : AV → Hp → Option β) (xr : AV → Hp → Option β) (v0 : AV) (v3 : AV) (h : Hp) : Option β :=
arithK .add v3 (.s (.int .i64 1)) fun x5 =>
xn v0 x5 h
noncomputable def f_slices_Compact_Message_j4 (P : Program) (T : Tab) (D : DTab) (N : Nat) {β : Type} (xn : AV → AV → Hp → Option β) (x0 : AV → Hp → Option β) (xr : AV → Hp → Option β) (v0 : AV) (v3 : AV) (h : Hp) : Option β :=
sliceK 7 v0 (some v3) none none fun x13 =>
effK (clrE 7 [.s (.int .i64 0), .s (.int .i64 0), .s (.int .i64 0), .s (.int .i64 0), .s (.int .i64 0), .s (.int .i64 0), .s (.int .i64 0)] x13 h) h fun x14 h15 =>
sliceK 7 v0 none (some v3) none fun x16 =>
xr x16 h15
noncomputable def f_slices_Compact_Message_j6 (P : Program) (T : Tab) (D : DTab) (N : Nat) {β : Type} (xn : AV → AV → AV → AV → Hp → Option β) (x2 : AV → AV → Hp → Option β) (v0 : AV) (v3 : AV) (v4 : AV) (v5 : AV) (h : Hp) : Option β :=
arithK .add v5 (.s (.int .i64 1)) fun x19 =>
xn v0 v3 v4 x19 h
noncomputable def f_slices_Compact_Message_j7 (P : Program) (T : Tab) (D : DTab) (N : Nat) {β : Type} (xn : AV → AV → AV → AV → Hp → Option β) (x2 : AV → AV → Hp → Option β) (v0 : AV) (v3 : AV) (v4 : AV) (v5 : AV) (h : Hp) : Option β :=
f_slices_Compact_Message_j6 P T D N xn x2 v0 v3 v4 v5 h
noncomputable def f_slices_Compact_Message_b5 (P : Program) (T : Tab) (D : DTab) (N : Nat) {β : Type} (xn : AV → AV → AV → AV → Hp → Option β) (x2 : AV → AV → Hp → Option β) (v0 : AV) (v3 : AV) (v4 : AV) (v5 : AV) (h : Hp) : Option β :=
lenK v4 fun x17 =>
arithK .lss v5 x17 fun x18 =>
condK x18 (
iaK 7 v4 v5 fun x20 =>
ldK 7 true x20 h fun x21 =>
arithK .sub v5 (.s (.int .i64 1)) fun x22 =>
iaK 7 v4 x22 fun x23 =>
ldK 7 true x23 h fun x24 =>
eqK P true 23 x21 x24 h fun x25 =>
condK x25 (
iaK 7 v4 v5 fun x26 =>
ldK 7 true x26 h fun x27 =>
iaK 7 v0 v3 fun x28 =>
effK (stE 7 x28 x27 h) h fun x29 h30 =>
arithK .add v3 (.s (.int .i64 1)) fun x31 =>
f_slices_Compact_Message_j7 P T D N xn x2 v0 x31 v4 v5 h30) (
f_slices_Compact_Message_j7 P T D N xn x2 v0 v3 v4 v5 h)) (
x2 v0 v3 h)
noncomputable def f_slices_Compact_Message_L5 (P : Program) (T : Tab) (D : DTab) (N : Nat) {β : Type} (x2 : AV → AV → Hp → Option β) : Nat → AV → AV → AV → AV → Hp → Option β
  | 0 => fun _ _ _ _ _ => none
  | n + 1 => fun v0 v3 v4 v5 h => f_slices_Compact_Message_b5 P T D N (f_slices_Compact_Message_L5 P T D N x2 n) x2 v0 v3 v4 v5 h
noncomputable def f_slices_Compact_Message_b2 (P : Program) (T : Tab) (D : DTab) (N : Nat) {β : Type} (xn : AV → AV → Hp → Option β) (x0 : AV → Hp → Option β) (xr : AV → Hp → Option β) (v0 : AV) (v3 : AV) (h : Hp) : Option β :=
lenK v0 fun x3 =>
arithK .lss v3 x3 fun x4 =>
condK x4 (
iaK 7 v0 v3 fun x6 =>
ldK 7 true x6 h fun x7 =>
arithK .sub v3 (.s (.int .i64 1)) fun x8 =>
iaK 7 v0 x8 fun x9 =>
ldK 7 true x9 h fun x10 =>
eqK P false 23 x7 x10 h fun x11 =>
condK x11 (
sliceK 7 v0 (some v3) none none fun x12 =>
f_slices_Compact_Message_L5 P T D N (fun w32_0 w32_3 h => f_slices_Compact_Message_j4 P T D N xn x0 xr w32_0 w32_3 h) N v0 v3 x12 (.s (.int .i64 1)) h) (
f_slices_Compact_Message_j3 P T D N xn x0 xr v0 v3 h)) (
x0 v0 h)
noncomputable def f_slices_Compact_Message_L2 (P : Program) (T : Tab) (D : DTab) (N : Nat) {β : Type} (x0 : AV → Hp → Option β) (xr : AV → Hp → Option β) : Nat → AV → AV → Hp → Option β
  | 0 => fun _ _ _ => none
  | n + 1 => fun v0 v3 h => f_slices_Compact_Message_b2 P T D N (f_slices_Compact_Message_L2 P T D N x0 xr n) x0 xr v0 v3 h
noncomputable def f_slices_Compact_Message (P : Program) (T : Tab) (D : DTab) (N : Nat) {β : Type} (K : AV → Hp → Option β) (a0 : AV) (h : Hp) : Option β :=
lenK a0 fun x1 =>
arithK .lss x1 (.s (.int .i64 2)) fun x2 =>
condK x2 (
K a0 h) (
f_slices_Compact_Message_L2 P T D N (fun w33_0 h => f_slices_Compact_Message_j1 P T D N K w33_0 h) (fun w34_2 h => K w34_2 h) N a0 (.s (.int .i64 1)) h)
theorem f_slices_Compact_Message_j3_eq (P : Program) (T : Tab) (D : DTab) (N : Nat) {β : Type} (xn : AV → AV → Hp → Option β) (x0 : AV → Hp → Option β) (xr : AV → Hp → Option β) (xd : Nat → St → Option β) (xq : St → Option β) (t : Tm) (h : Hp) : o_slices_Compact_Message_j3 P T D N (fun (e : Ex) (s : St) => e.on (xn (s.1 0) (s.1 3) s.2) (fun i => (bif i == 0 then x0 (s.1 0) s.2 else (xd i s))) (xr (s.1 2) s.2)) t h = f_slices_Compact_Message_j3 P T D N xn x0 xr (t 0) (t 3) h := by kernel_rfl
theorem f_slices_Compact_Message_b5_eq (P : Program) (T : Tab) (D : DTab) (N : Nat) {β : Type} (xn : AV → AV → AV → AV → Hp → Option β) (x2 : AV → AV → Hp → Option β) (xd : Nat → St → Option β) (xq : St → Option β) (t : Tm) (h : Hp) : o_slices_Compact_Message_L5 P T D N t h (fun (e : Ex) (s : St) => e.on (xn (s.1 0) (s.1 3) (s.1 4) (s.1 5) s.2) (fun i => (bif i == 2 then x2 (s.1 0) (s.1 3) s.2 else (xd i s))) (xq s)) = f_slices_Compact_Message_b5 P T D N xn x2 (t 0) (t 3) (t 4) (t 5) h := by kernel_rfl
theorem f_slices_Compact_Message_L5_eq (P : Program) (T : Tab) (D : DTab) (N : Nat) {β : Type} (A : Ex → St → Option β) (x2 : AV → AV → Hp → Option β) (q2 : ∀ s, A (.exit 2) s = x2 (s.1 0) (s.1 3) s.2) : ∀ (n : Nat) (s : St), iterK (fun s k => o_slices_Compact_Message_L5 P T D N s.1 s.2 k) n s A = f_slices_Compact_Message_L5 P T D N x2 n (s.1 0) (s.1 3) (s.1 4) (s.1 5) s.2 := by
  intro n
  induction n with
  | zero => intro s; rfl
  | succ n ih =>
    intro s
    have hk : (fun (e : Ex) (s' : St) => Ex.on e (iterK (fun s k => o_slices_Compact_Message_L5 P T D N s.1 s.2 k) n s' A) (fun i => A (.exit i) s') (A .ret s')) = (fun (e : Ex) (s : St) => e.on ((f_slices_Compact_Message_L5 P T D N x2 n) (s.1 0) (s.1 3) (s.1 4) (s.1 5) s.2) (fun i => (bif i == 2 then x2 (s.1 0) (s.1 3) s.2 else (A (.exit i) s))) (A .ret s)) := by
      funext e s'
      cases e with
      | normal => exact ih s'
      | ret => exact rfl
      | exit i =>
        by_cases r2 : i = 2
        · subst r2; exact q2 s'
        simp only [Ex.on, beq_false_of_ne r2, cond_false]
    show o_slices_Compact_Message_L5 P T D N s.1 s.2 (fun (e : Ex) (s' : St) => Ex.on e (iterK (fun s k => o_slices_Compact_Message_L5 P T D N s.1 s.2 k) n s' A) (fun i => A (.exit i) s') (A .ret s')) = _
    rw [hk]
    exact f_slices_Compact_Message_b5_eq P T D N (f_slices_Compact_Message_L5 P T D N x2 n) x2 (fun i s => A (.exit i) s) (fun s => A .ret s) s.1 s.2
theorem f_slices_Compact_Message_b2_eq (P : Program) (T : Tab) (D : DTab) (N : Nat) {β : Type} (xn : AV → AV → Hp → Option β) (x0 : AV → Hp → Option β) (xr : AV → Hp → Option β) (xd : Nat → St → Option β) (xq : St → Option β) (t : Tm) (h : Hp) : o_slices_Compact_Message_L2 P T D N t h (fun (e : Ex) (s : St) => e.on (xn (s.1 0) (s.1 3) s.2) (fun i => (bif i == 0 then x0 (s.1 0) s.2 else (xd i s))) (xr (s.1 2) s.2)) = f_slices_Compact_Message_b2 P T D N xn x0 xr (t 0) (t 3) h := by
  have eL5 : (fun s : St => iterK (fun s k => o_slices_Compact_Message_L5 P T D N s.1 s.2 k) N s (o_slices_Compact_Message_aL5 P T D N (fun (e : Ex) (s : St) => e.on (xn (s.1 0) (s.1 3) s.2) (fun i => (bif i == 0 then x0 (s.1 0) s.2 else (xd i s))) (xr (s.1 2) s.2)))) = (fun s : St => f_slices_Compact_Message_L5 P T D N (fun w32_0 w32_3 h => f_slices_Compact_Message_j4 P T D N xn x0 xr w32_0 w32_3 h) N (s.1 0) (s.1 3) (s.1 4) (s.1 5) s.2) := funext fun s => f_slices_Compact_Message_L5_eq P T D N (o_slices_Compact_Message_aL5 P T D N (fun (e : Ex) (s : St) => e.on (xn (s.1 0) (s.1 3) s.2) (fun i => (bif i == 0 then x0 (s.1 0) s.2 else (xd i s))) (xr (s.1 2) s.2))) (fun w32_0 w32_3 h => f_slices_Compact_Message_j4 P T D N xn x0 xr w32_0 w32_3 h) (fun s => rfl) N s
  have ej3 : (fun s : St => o_slices_Compact_Message_j3 P T D N (fun (e : Ex) (s : St) => e.on (xn (s.1 0) (s.1 3) s.2) (fun i => (bif i == 0 then x0 (s.1 0) s.2 else (xd i s))) (xr (s.1 2) s.2)) s.1 s.2) = (fun s : St => f_slices_Compact_Message_j3 P T D N xn x0 xr (s.1 0) (s.1 3) s.2) := funext fun s => f_slices_Compact_Message_j3_eq P T D N xn x0 xr xd xq s.1 s.2
  show o_slices_Compact_Message_L2_G P T D N (fun s => iterK (fun s k => o_slices_Compact_Message_L5 P T D N s.1 s.2 k) N s (o_slices_Compact_Message_aL5 P T D N (fun (e : Ex) (s : St) => e.on (xn (s.1 0) (s.1 3) s.2) (fun i => (bif i == 0 then x0 (s.1 0) s.2 else (xd i s))) (xr (s.1 2) s.2)))) (fun s => o_slices_Compact_Message_j3 P T D N (fun (e : Ex) (s : St) => e.on (xn (s.1 0) (s.1 3) s.2) (fun i => (bif i == 0 then x0 (s.1 0) s.2 else (xd i s))) (xr (s.1 2) s.2)) s.1 s.2) t h (fun (e : Ex) (s : St) => e.on (xn (s.1 0) (s.1 3) s.2) (fun i => (bif i == 0 then x0 (s.1 0) s.2 else (xd i s))) (xr (s.1 2) s.2)) = _
  rw [eL5, ej3]
  kernel_rfl
theorem f_slices_Compact_Message_L2_eq (P : Program) (T : Tab) (D : DTab) (N : Nat) {β : Type} (A : Ex → St → Option β) (x0 : AV → Hp → Option β) (xr : AV → Hp → Option β) (q0 : ∀ s, A (.exit 0) s = x0 (s.1 0) s.2) (qr : ∀ s, A .ret s = xr (s.1 2) s.2) : ∀ (n : Nat) (s : St), iterK (fun s k => o_slices_Compact_Message_L2 P T D N s.1 s.2 k) n s A = f_slices_Compact_Message_L2 P T D N x0 xr n (s.1 0) (s.1 3) s.2 := by
  intro n
  induction n with
  | zero => intro s; rfl
  | succ n ih =>
    intro s
    have hk : (fun (e : Ex) (s' : St) => Ex.on e (iterK (fun s k => o_slices_Compact_Message_L2 P T D N s.1 s.2 k) n s' A) (fun i => A (.exit i) s') (A .ret s')) = (fun (e : Ex) (s : St) => e.on ((f_slices_Compact_Message_L2 P T D N x0 xr n) (s.1 0) (s.1 3) s.2) (fun i => (bif i == 0 then x0 (s.1 0) s.2 else (A (.exit i) s))) (xr (s.1 2) s.2)) := by
      funext e s'
      cases e with
      | normal => exact ih s'
      | ret => exact qr s'
      | exit i =>
        by_cases r0 : i = 0
        · subst r0; exact q0 s'
        simp only [Ex.on, beq_false_of_ne r0, cond_false]
    show o_slices_Compact_Message_L2 P T D N s.1 s.2 (fun (e : Ex) (s' : St) => Ex.on e (iterK (fun s k => o_slices_Compact_Message_L2 P T D N s.1 s.2 k) n s' A) (fun i => A (.exit i) s') (A .ret s')) = _
    rw [hk]
    exact f_slices_Compact_Message_b2_eq P T D N (f_slices_Compact_Message_L2 P T D N x0 xr n) x0 xr (fun i s => A (.exit i) s) (fun s => A .ret s) s.1 s.2
theorem f_slices_Compact_Message_old_eq (P : Program) (T : Tab) (D : DTab) (N : Nat) {β : Type} (K : AV → Hp → Option β) (a0 : AV) (h : Hp) : o_slices_Compact_Message P T D N K a0 h = f_slices_Compact_Message P T D N K a0 h := by
  have eL2 : (fun s : St => iterK (fun s k => o_slices_Compact_Message_L2 P T D N s.1 s.2 k) N s (o_slices_Compact_Message_aL2 P T D N K)) = (fun s : St => f_slices_Compact_Message_L2 P T D N (fun w33_0 h => f_slices_Compact_Message_j1 P T D N K w33_0 h) (fun w34_2 h => K w34_2 h) N (s.1 0) (s.1 3) s.2) := funext fun s => f_slices_Compact_Message_L2_eq P T D N (o_slices_Compact_Message_aL2 P T D N K) (fun w33_0 h => f_slices_Compact_Message_j1 P T D N K w33_0 h) (fun w34_2 h => K w34_2 h) (fun s => rfl) (fun s => rfl) N s
  show o_slices_Compact_Message_G P T D N (fun s => iterK (fun s k => o_slices_Compact_Message_L2 P T D N s.1 s.2 k) N s (o_slices_Compact_Message_aL2 P T D N K)) K a0 h = _
  rw [eL2]
  kernel_rfl
theorem o_slices_Compact_Message_run (T : Tab) (D : DTab) (N : Nat) {β : Type} (K : AV → Hp → Option β) (a0 : AV) (h : Hp) : runK Try.prog T D N [0, 2, 3, 4, 5, 8, 13, 25, 32, 44] Try.f41 K [a0] h = o_slices_Compact_Message Try.prog T D N K a0 h := by kernel_rfl
theorem f_slices_Compact_Message_run (T : Tab) (D : DTab) (N : Nat) {β : Type} (K : AV → Hp → Option β) (a0 : AV) (h : Hp) : runK Try.prog T D N [0, 2, 3, 4, 5, 8, 13, 25, 32, 44] Try.f41 K [a0] h = f_slices_Compact_Message Try.prog T D N K a0 h := (o_slices_Compact_Message_run T D N K a0 h).trans (f_slices_Compact_Message_old_eq Try.prog T D N K a0 h)
noncomputable def f_document_node (P : Program) (T : Tab) (D : DTab) (N : Nat) {β : Type} (K : AV → Hp → Option β) (a0 : AV) (h : Hp) : Option β :=
arithK .geq a0 (.s (.int .i64 1)) fun x1 =>
grpK true x1 h (fun k2 =>
arithK .leq a0 (.s (.int .i64 99)) fun x3 =>
k2 x3 h) fun x4 h5 =>
K x4 h5
theorem f_document_node_run (T : Tab) (D : DTab) (N : Nat) {β : Type} (K : AV → Hp → Option β) (a0 : AV) (h : Hp) : runK Try.prog T D N [0, 2] Try.f44 K [a0] h = f_document_node Try.prog T D N K a0 h := by kernel_rfl
noncomputable def o_document_of_j3 (P : Program) (T : Tab) (D : DTab) (N : Nat) {β : Type} (K : AV → Hp → Option β) (t : Tm) (h : Hp) : Option β :=
ldK 7 true (t 6) h fun x20 =>
effK (stE 7 (t 4) x20 h) h fun x21 h22 =>
ldK 7 true (t 4) h22 fun r23 =>
K r23 h22
noncomputable def o_document_of_j4 (P : Program) (T : Tab) (D : DTab) (N : Nat) {β : Type} (K : AV → Hp → Option β) (t : Tm) (h : Hp) : Option β :=
(o_document_of_j3 P T D N K t h)
noncomputable def o_document_of_j2 (P : Program) (T : Tab) (D : DTab) (N : Nat) {β : Type} (K : AV → Hp → Option β) (t : Tm) (h : Hp) : Option β :=
eqK P false 3 (t 8) (.s (.int .i64 0)) h fun x24 =>
condK x24 (
(o_document_of_j4 P T D N K (upd t 89 x24) h)) (
condK (t 7) (
faK 1 (t 6) fun x25 =>
effK (stE 1 x25 (.s (.int .i64 4)) h) h fun x26 h27 =>
(o_document_of_j4 P T D N K (upd (upd t 89 x24) 92 (t 7)) h27)) (
faK 1 (t 6) fun x28 =>
effK (stE 1 x28 (t 8) h) h fun x29 h30 =>
(o_document_of_j4 P T D N K (upd (upd t 89 x24) 92 (t 7)) h30)))
noncomputable def o_document_of_L5 (P : Program) (T : Tab) (D : DTab) (N : Nat) {β : Type} (t : Tm) (h : Hp) (k : Ex → St → Option β) : Option β :=
nextK (t 78) h fun x31 h32 =>
exK x31 0 fun x33 =>
condK x33 (
entryK (t 78) h32 fun x34 =>
exK x34 1 fun x35 =>
arithK .gtr x35 (.s (.int .i64 1)) fun x36 =>
condK x36 (
buildK [.s (.int .i64 0), .s (.int .i64 0), .s (.int .i64 0), .s (.int .i64 0), .s (.int .i64 0), .s (.int .i64 0), .s (.int .i64 0)] [(some (0, 1), (t 1)), (some (1, 1), (.s (.int .i64 5)))] fun x37 =>
effK (stE 7 (t 4) x37 h32) h32 fun x38 h39 =>
k .ret ((upd (upd (upd t 80 x33) 13 x35) 84 x36), h39)) (
k .normal ((upd (upd (upd t 80 x33) 13 x35) 84 x36), h32))) (
k (.exit 3) ((upd t 80 x33), h32))
noncomputable def o_document_of_aL5 (P : Program) (T : Tab) (D : DTab) (N : Nat) {β : Type} (K : AV → Hp → Option β) (e : Ex) (s : St) : Option β :=
  e.on ((o_document_of_j2 P T D N K s.1 s.2))
  (fun i => bif i == 3 then ((o_document_of_j2 P T D N K s.1 s.2)) else (none))
  (ldK 7 true (s.1 4) s.2 fun r40 =>
K r40 s.2)
noncomputable def o_document_of_j1_G (P : Program) (T : Tab) (D : DTab) (N : Nat) {β : Type} (cL5 : St → Option β) (K : AV → Hp → Option β) (t : Tm) (h : Hp) :  Option β :=
faK 1 (t 6) fun x11 =>
ldK 1 false x11 h fun x12 =>
eqK P false 3 x12 (.s (.int .i64 0)) h fun x13 =>
condK x13 (
buildK [.s (.int .i64 0), .s (.int .i64 0), .s (.int .i64 0), .s (.int .i64 0), .s (.int .i64 0), .s (.int .i64 0), .s (.int .i64 0)] [(some (0, 1), (t 1))] fun x14 =>
effK (stE 7 (t 4) x14 h) h fun x15 h16 =>
ldK 7 true (t 4) h16 fun r17 =>
K r17 h16) (
effK (rngE (t 5) h (List.length h)) h fun x18 h19 =>
cL5 ((upd (upd t 74 x13) 78 x18), h19))
noncomputable def o_document_of_j1 (P : Program) (T : Tab) (D : DTab) (N : Nat) {β : Type} (K : AV → Hp → Option β) (t : Tm) (h : Hp) : Option β := o_document_of_j1_G P T D N (fun s => iterK (fun s k => o_document_of_L5 P T D N s.1 s.2 k) N s (o_document_of_aL5 P T D N K)) K t h
noncomputable def o_document_of_j7 (P : Program) (T : Tab) (D : DTab) (N : Nat) {β : Type} (k : Ex → St → Option β) (t : Tm) (h : Hp) : Option β :=
arithK .add (t 19) (.s (.int .i64 1)) fun x42 =>
k .normal ((upd t 19 x42), h)
noncomputable def o_document_of_j8 (P : Program) (T : Tab) (D : DTab) (N : Nat) {β : Type} (k : Ex → St → Option β) (t : Tm) (h : Hp) : Option β :=
(o_document_of_j7 P T D N k t h)
noncomputable def o_document_of_j9 (P : Program) (T : Tab) (D : DTab) (N : Nat) {β : Type} (k : Ex → St → Option β) (t : Tm) (h : Hp) : Option β :=
ldK 2 true (t 11) h fun x61 =>
lookK P 78 (.s (.int .i64 0)) false (t 5) x61 h fun x62 =>
arithK .add x62 (.s (.int .i64 1)) fun x63 =>
effD (mentE P 78 (.s (.int .i64 0)) (t 5) x61 h) h fun x64 h65 e66 =>
exK x64 1 fun x67 =>
effD (estE (t 5) x67 x63 h65) h65 fun x68 h69 e70 =>
bif disjAll [] [([], []), ((idsOf (t 11)), []), ((idsOf (t 5)), []), ([], []), e66, ([], []), e70] then (
(o_document_of_j8 P T D N k t h69)) else none
noncomputable def o_document_of_j10 (P : Program) (T : Tab) (D : DTab) (N : Nat) {β : Type} (k : Ex → St → Option β) (t : Tm) (h : Hp) : Option β :=
(o_document_of_j9 P T D N k t h)
noncomputable def o_document_of_L6 (P : Program) (T : Tab) (D : DTab) (N : Nat) {β : Type} (t : Tm) (h : Hp) (k : Ex → St → Option β) : Option β :=
arithK .lss (t 19) (t 18) fun x41 =>
condK x41 (
iaK 7 (t 17) (t 19) fun x43 =>
ldK 7 true x43 h fun x44 =>
effK (boxE 7 (.agg [.s (.int .i64 0), .s (.int .i64 0), .s (.int .i64 0), .s (.int .i64 0), .s (.int .i64 0), .s (.int .i64 0), .s (.int .i64 0)]) (List.length h)) h fun x45 h46 =>
effK (stE 7 x45 x44 h46) h46 fun x47 h48 =>
faK 0 x45 fun x49 =>
ldK 1 false x49 h48 fun x50 =>
eqK P true 3 x50 (t 1) h48 fun x51 =>
condK x51 (
(o_document_of_j8 P T D N k (upd (upd (upd t 20 x41) 10 x45) 26 x51) h48)) (
faK 1 x45 fun x52 =>
ldK 1 false x52 h48 fun x53 =>
faK 2 x45 fun x54 =>
ldK 1 false x54 h48 fun x55 =>
buildK [.s (.int .i64 0), .s (.int .i64 0)] [(some (0, 1), x53), (some (1, 1), x55)] fun x56 =>
effK (boxE 2 (.agg [.s (.int .i64 0), .s (.int .i64 0)]) (List.length h48)) h48 fun x57 h58 =>
effK (stE 2 x57 x56 h58) h58 fun x59 h60 =>
faK 1 x45 fun x71 =>
ldK 1 false x71 h60 fun x72 =>
eqK P false 3 x72 (.s (.int .i64 1)) h60 fun x73 =>
condK x73 (
faK 4 x45 fun x74 =>
ldK 1 false x74 h60 fun x75 =>
faK 5 x45 fun x76 =>
ldK 1 false x76 h60 fun x77 =>
faK 6 x45 fun x78 =>
ldK 1 false x78 h60 fun x79 =>
faK 1 (t 6) fun x80 =>
effD (stE 1 x80 (.s (.int .i64 1)) h60) h60 fun x81 h82 e83 =>
faK 2 (t 6) fun x84 =>
effD (stE 1 x84 x75 h82) h82 fun x85 h86 e87 =>
faK 3 (t 6) fun x88 =>
effD (stE 1 x88 x77 h86) h86 fun x89 h90 e91 =>
faK 4 (t 6) fun x92 =>
effD (stE 1 x92 x79 h90) h90 fun x93 h94 e95 =>
bif disjAll [(1, 7), (3, 7), (5, 7), (3, 9), (5, 9), (5, 11)] [([], []), ((idsOf x74), []), ([], []), ((idsOf x76), []), ([], []), ((idsOf x78), []), ([], []), e83, ([], []), e87, ([], []), e91, ([], []), e95] then (
(o_document_of_j10 P T D N k (upd (upd (upd (upd (upd (upd t 20 x41) 10 x45) 26 x51) 11 x57) 33 x72) 34 x73) h94)) else none) (
eqK P false 3 x72 (.s (.int .i64 2)) h60 fun x96 =>
condK x96 (
faK 5 x45 fun x97 =>
ldK 1 false x97 h60 fun x98 =>
faK 3 (t 6) fun x99 =>
effK (stE 1 x99 x98 h60) h60 fun x100 h101 =>
faK 6 (t 6) fun x102 =>
ldK 1 false x102 h101 fun x103 =>
arithK .add x103 (.s (.int .i64 1)) fun x104 =>
faK 6 (t 6) fun x105 =>
effK (stE 1 x105 x104 h101) h101 fun x106 h107 =>
(o_document_of_j10 P T D N k (upd (upd (upd (upd (upd (upd (upd t 20 x41) 10 x45) 26 x51) 11 x57) 33 x72) 34 x73) 46 x96) h107)) (
eqK P false 3 x72 (.s (.int .i64 3)) h60 fun x108 =>
condK x108 (
faK 6 x45 fun x109 =>
ldK 1 false x109 h60 fun x110 =>
faK 5 (t 6) fun x111 =>
effK (stE 1 x111 x110 h60) h60 fun x112 h113 =>
(o_document_of_j10 P T D N k (upd (upd (upd (upd (upd (upd (upd (upd (upd t 20 x41) 10 x45) 26 x51) 11 x57) 33 x72) 34 x73) 46 x96) 55 x108) 8 (.s (.int .i64 2))) h113)) (
eqK P false 3 x72 (.s (.int .i64 4)) h60 fun x114 =>
condK x114 (
faK 0 x57 fun x115 =>
effK (stE 1 x115 (.s (.int .i64 3)) h60) h60 fun x116 h117 =>
(o_document_of_j10 P T D N k (upd (upd (upd (upd (upd (upd (upd (upd (upd (upd t 20 x41) 10 x45) 26 x51) 11 x57) 33 x72) 34 x73) 46 x96) 55 x108) 60 x114) 8 (.s (.int .i64 3))) h117)) (
eqK P false 3 x72 (.s (.int .i64 5)) h60 fun x118 =>
condK x118 (
(o_document_of_j8 P T D N k (upd (upd (upd (upd (upd (upd (upd (upd (upd (upd (upd t 20 x41) 10 x45) 26 x51) 11 x57) 33 x72) 34 x73) 46 x96) 55 x108) 60 x114) 63 x118) 7 (.s (.bool true))) h60)) (
(o_document_of_j10 P T D N k (upd (upd (upd (upd (upd (upd (upd (upd (upd (upd t 20 x41) 10 x45) 26 x51) 11 x57) 33 x72) 34 x73) 46 x96) 55 x108) 60 x114) 63 x118) h60)))))))) (
k (.exit 0) ((upd t 20 x41), h))
noncomputable def o_document_of_aL6 (P : Program) (T : Tab) (D : DTab) (N : Nat) {β : Type} (K : AV → Hp → Option β) (e : Ex) (s : St) : Option β :=
  e.on ((o_document_of_j1 P T D N K s.1 s.2))
  (fun i => bif i == 0 then ((o_document_of_j1 P T D N K s.1 s.2)) else (none))
  (ldK 7 true (s.1 4) s.2 fun r119 =>
K r119 s.2)
noncomputable def o_document_of_G (P : Program) (T : Tab) (D : DTab) (N : Nat) {β : Type} (cL6 : St → Option β) (K : AV → Hp → Option β) (a0 : AV) (a1 : AV) (h : Hp) :  Option β :=
effK (boxE 7 (.agg [.s (.int .i64 0), .s (.int .i64 0), .s (.int .i64 0), .s (.int .i64 0), .s (.int .i64 0), .s (.int .i64 0), .s (.int .i64 0)]) (List.length h)) h fun x1 h2 =>
effK (some (.mp (List.length h2), EN (.map []))) h2 fun x3 h4 =>
buildK [.s (.int .i64 0), .s (.int .i64 0), .s (.int .i64 0), .s (.int .i64 0), .s (.int .i64 0), .s (.int .i64 0), .s (.int .i64 0)] [(some (0, 1), a1)] fun x5 =>
effK (boxE 7 (.agg [.s (.int .i64 0), .s (.int .i64 0), .s (.int .i64 0), .s (.int .i64 0), .s (.int .i64 0), .s (.int .i64 0), .s (.int .i64 0)]) (List.length h4)) h4 fun x6 h7 =>
effK (stE 7 x6 x5 h7) h7 fun x8 h9 =>
lenK a0 fun x10 =>
cL6 ((upd (upd (upd (upd (upd (upd (upd (upd (tm0 [a0, a1]) 4 x1) 5 x3) 6 x6) 7 (.s (.bool false))) 8 (.s (.int .i64 0))) 17 a0) 18 x10) 19 (.s (.int .i64 0))), h9)
noncomputable def o_document_of (P : Program) (T : Tab) (D : DTab) (N : Nat) {β : Type} (K : AV → Hp → Option β) (a0 : AV) (a1 : AV) (h : Hp) : Option β := o_document_of_G P T D N (fun s => iterK (fun s k => o_document_of_L6 P T D N s.1 s.2 k) N s (o_document_of_aL6 P T D N K)) K a0 a1 h
noncomputable def f_document_of_j3 (P : Program) (T : Tab) (D : DTab) (N : Nat) {β : Type} (K : AV → Hp → Option β) (v4 : AV) (v6 : AV) (h : Hp) : Option β :=
ldK 7 true v6 h fun x20 =>
effK (stE 7 v4 x20 h) h fun x21 h22 =>
ldK 7 true v4 h22 fun r23 =>
K r23 h22
noncomputable def f_document_of_j4 (P : Program) (T : Tab) (D : DTab) (N : Nat) {β : Type} (K : AV → Hp → Option β) (v4 : AV) (v6 : AV) (h : Hp) : Option β :=
f_document_of_j3 P T D N K v4 v6 h
noncomputable def f_document_of_j2 (P : Program) (T : Tab) (D : DTab) (N : Nat) {β : Type} (K : AV → Hp → Option β) (v4 : AV) (v6 : AV) (v7 : AV) (v8 : AV) (h : Hp) : Option β :=
eqK P false 3 v8 (.s (.int .i64 0)) h fun x24 =>
condK x24 (
f_document_of_j4 P T D N K v4 v6 h) (
condK v7 (
faK 1 v6 fun x25 =>
effK (stE 1 x25 (.s (.int .i64 4)) h) h fun x26 h27 =>
f_document_of_j4 P T D N K v4 v6 h27) (
faK 1 v6 fun x28 =>
effK (stE 1 x28 v8 h) h fun x29 h30 =>
f_document_of_j4 P T D N K v4 v6 h30))
noncomputable def f_document_of_b5 (P : Program) (T : Tab) (D : DTab) (N : Nat) {β : Type} (xn : AV → AV → AV → AV → AV → AV → Hp → Option β) (x3 : AV → AV → AV → AV → Hp → Option β) (xr : AV → Hp → Option β) (v1 : AV) (v4 : AV) (v6 : AV) (v7 : AV) (v8 : AV) (v78 : AV) (h : Hp) : Option β :=
nextK v78 h fun x31 h32 =>
exK x31 0 fun x33 =>
condK x33 (
entryK v78 h32 fun x34 =>
exK x34 1 fun x35 =>
arithK .gtr x35 (.s (.int .i64 1)) fun x36 =>
condK x36 (
buildK [.s (.int .i64 0), .s (.int .i64 0), .s (.int .i64 0), .s (.int .i64 0), .s (.int .i64 0), .s (.int .i64 0), .s (.int .i64 0)] [(some (0, 1), v1), (some (1, 1), (.s (.int .i64 5)))] fun x37 =>
effK (stE 7 v4 x37 h32) h32 fun x38 h39 =>
xr v4 h39) (
xn v1 v4 v6 v7 v8 v78 h32)) (
x3 v4 v6 v7 v8 h32)
noncomputable def f_document_of_L5 (P : Program) (T : Tab) (D : DTab) (N : Nat) {β : Type} (x3 : AV → AV → AV → AV → Hp → Option β) (xr : AV → Hp → Option β) : Nat → AV → AV → AV → AV → AV → AV → Hp → Option β
  | 0 => fun _ _ _ _ _ _ _ => none
  | n + 1 => fun v1 v4 v6 v7 v8 v78 h => f_document_of_b5 P T D N (f_document_of_L5 P T D N x3 xr n) x3 xr v1 v4 v6 v7 v8 v78 h
noncomputable def f_document_of_j1 (P : Program) (T : Tab) (D : DTab) (N : Nat) {β : Type} (K : AV → Hp → Option β) (v1 : AV) (v4 : AV) (v5 : AV) (v6 : AV) (v7 : AV) (v8 : AV) (h : Hp) : Option β :=
faK 1 v6 fun x11 =>
ldK 1 false x11 h fun x12 =>
eqK P false 3 x12 (.s (.int .i64 0)) h fun x13 =>
condK x13 (
buildK [.s (.int .i64 0), .s (.int .i64 0), .s (.int .i64 0), .s (.int .i64 0), .s (.int .i64 0), .s (.int .i64 0), .s (.int .i64 0)] [(some (0, 1), v1)] fun x14 =>
effK (stE 7 v4 x14 h) h fun x15 h16 =>
ldK 7 true v4 h16 fun r17 =>
K r17 h16) (
effK (rngE v5 h (List.length h)) h fun x18 h19 =>
f_document_of_L5 P T D N (fun w40_4 w40_6 w40_7 w40_8 h => f_document_of_j2 P T D N K w40_4 w40_6 w40_7 w40_8 h) (fun w41_4 h => ldK 7 true w41_4 h fun r42 =>
K r42 h) N v1 v4 v6 v7 v8 x18 h19)
noncomputable def f_document_of_j7 (P : Program) (T : Tab) (D : DTab) (N : Nat) {β : Type} (xn : AV → AV → AV → AV → AV → AV → AV → AV → AV → Hp → Option β) (x0 : AV → AV → AV → AV → AV → AV → Hp → Option β) (v1 : AV) (v4 : AV) (v5 : AV) (v6 : AV) (v7 : AV) (v8 : AV) (v17 : AV) (v18 : AV) (v19 : AV) (h : Hp) : Option β :=
arithK .add v19 (.s (.int .i64 1)) fun x44 =>
xn v1 v4 v5 v6 v7 v8 v17 v18 x44 h
noncomputable def f_document_of_j8 (P : Program) (T : Tab) (D : DTab) (N : Nat) {β : Type} (xn : AV → AV → AV → AV → AV → AV → AV → AV → AV → Hp → Option β) (x0 : AV → AV → AV → AV → AV → AV → Hp → Option β) (v1 : AV) (v4 : AV) (v5 : AV) (v6 : AV) (v7 : AV) (v8 : AV) (v17 : AV) (v18 : AV) (v19 : AV) (h : Hp) : Option β :=
f_document_of_j7 P T D N xn x0 v1 v4 v5 v6 v7 v8 v17 v18 v19 h
noncomputable def f_document_of_j9 (P : Program) (T : Tab) (D : DTab) (N : Nat) {β : Type} (xn : AV → AV → AV → AV → AV → AV → AV → AV → AV → Hp → Option β) (x0 : AV → AV → AV → AV → AV → AV → Hp → Option β) (v1 : AV) (v4 : AV) (v5 : AV) (v6 : AV) (v7 : AV) (v8 : AV) (v11 : AV) (v17 : AV) (v18 : AV) (v19 : AV) (h : Hp) : Option β :=
ldK 2 true v11 h fun x63 =>
lookK P 78 (.s (.int .i64 0)) false v5 x63 h fun x64 =>
arithK .add x64 (.s (.int .i64 1)) fun x65 =>
effD (mentE P 78 (.s (.int .i64 0)) v5 x63 h) h fun x66 h67 e68 =>
exK x66 1 fun x69 =>
effD (estE v5 x69 x65 h67) h67 fun x70 h71 e72 =>
bif disjAll [] [([], []), ((idsOf v11), []), ((idsOf v5), []), ([], []), e68, ([], []), e72] then (
f_document_of_j8 P T D N xn x0 v1 v4 v5 v6 v7 v8 v17 v18 v19 h71) else none
noncomputable def f_document_of_j10 (P : Program) (T : Tab) (D : DTab) (N : Nat) {β : Type} (xn : AV → AV → AV → AV → AV → AV → AV → AV → AV → Hp → Option β) (x0 : AV → AV → AV → AV → AV → AV → Hp → Option β) (v1 : AV) (v4 : AV) (v5 : AV) (v6 : AV) (v7 : AV) (v8 : AV) (v11 : AV) (v17 : AV) (v18 : AV) (v19 : AV) (h : Hp) : Option β :=
f_document_of_j9 P T D N xn x0 v1 v4 v5 v6 v7 v8 v11 v17 v18 v19 h
noncomputable def f_document_of_b6 (P : Program) (T : Tab) (D : DTab) (N : Nat) {β : Type} (xn : AV → AV → AV → AV → AV → AV → AV → AV → AV → Hp → Option β) (x0 : AV → AV → AV → AV → AV → AV → Hp → Option β) (v1 : AV) (v4 : AV) (v5 : AV) (v6 : AV) (v7 : AV) (v8 : AV) (v17 : AV) (v18 : AV) (v19 : AV) (h : Hp) : Option β :=
arithK .lss v19 v18 fun x43 =>
condK x43 (
iaK 7 v17 v19 fun x45 =>
ldK 7 true x45 h fun x46 =>
effK (boxE 7 (.agg [.s (.int .i64 0), .s (.int .i64 0), .s (.int .i64 0), .s (.int .i64 0), .s (.int .i64 0), .s (.int .i64 0), .s (.int .i64 0)]) (List.length h)) h fun x47 h48 =>
effK (stE 7 x47 x46 h48) h48 fun x49 h50 =>
faK 0 x47 fun x51 =>
ldK 1 false x51 h50 fun x52 =>
eqK P true 3 x52 v1 h50 fun x53 =>
condK x53 (
f_document_of_j8 P T D N xn x0 v1 v4 v5 v6 v7 v8 v17 v18 v19 h50) (
faK 1 x47 fun x54 =>
ldK 1 false x54 h50 fun x55 =>
faK 2 x47 fun x56 =>
ldK 1 false x56 h50 fun x57 =>
buildK [.s (.int .i64 0), .s (.int .i64 0)] [(some (0, 1), x55), (some (1, 1), x57)] fun x58 =>
effK (boxE 2 (.agg [.s (.int .i64 0), .s (.int .i64 0)]) (List.length h50)) h50 fun x59 h60 =>
effK (stE 2 x59 x58 h60) h60 fun x61 h62 =>
faK 1 x47 fun x73 =>
ldK 1 false x73 h62 fun x74 =>
eqK P false 3 x74 (.s (.int .i64 1)) h62 fun x75 =>
condK x75 (
faK 4 x47 fun x76 =>
ldK 1 false x76 h62 fun x77 =>
faK 5 x47 fun x78 =>
ldK 1 false x78 h62 fun x79 =>
faK 6 x47 fun x80 =>
ldK 1 false x80 h62 fun x81 =>
faK 1 v6 fun x82 =>
effD (stE 1 x82 (.s (.int .i64 1)) h62) h62 fun x83 h84 e85 =>
faK 2 v6 fun x86 =>
effD (stE 1 x86 x77 h84) h84 fun x87 h88 e89 =>
faK 3 v6 fun x90 =>
effD (stE 1 x90 x79 h88) h88 fun x91 h92 e93 =>
faK 4 v6 fun x94 =>
effD (stE 1 x94 x81 h92) h92 fun x95 h96 e97 =>
bif disjAll [(1, 7), (3, 7), (5, 7), (3, 9), (5, 9), (5, 11)] [([], []), ((idsOf x76), []), ([], []), ((idsOf x78), []), ([], []), ((idsOf x80), []), ([], []), e85, ([], []), e89, ([], []), e93, ([], []), e97] then (
f_document_of_j10 P T D N xn x0 v1 v4 v5 v6 v7 v8 x59 v17 v18 v19 h96) else none) (
eqK P false 3 x74 (.s (.int .i64 2)) h62 fun x98 =>
condK x98 (
faK 5 x47 fun x99 =>
ldK 1 false x99 h62 fun x100 =>
faK 3 v6 fun x101 =>
effK (stE 1 x101 x100 h62) h62 fun x102 h103 =>
faK 6 v6 fun x104 =>
ldK 1 false x104 h103 fun x105 =>
arithK .add x105 (.s (.int .i64 1)) fun x106 =>
faK 6 v6 fun x107 =>
effK (stE 1 x107 x106 h103) h103 fun x108 h109 =>
f_document_of_j10 P T D N xn x0 v1 v4 v5 v6 v7 v8 x59 v17 v18 v19 h109) (
eqK P false 3 x74 (.s (.int .i64 3)) h62 fun x110 =>
condK x110 (
faK 6 x47 fun x111 =>
ldK 1 false x111 h62 fun x112 =>
faK 5 v6 fun x113 =>
effK (stE 1 x113 x112 h62) h62 fun x114 h115 =>
f_document_of_j10 P T D N xn x0 v1 v4 v5 v6 v7 (.s (.int .i64 2)) x59 v17 v18 v19 h115) (
eqK P false 3 x74 (.s (.int .i64 4)) h62 fun x116 =>
condK x116 (
faK 0 x59 fun x117 =>
effK (stE 1 x117 (.s (.int .i64 3)) h62) h62 fun x118 h119 =>
f_document_of_j10 P T D N xn x0 v1 v4 v5 v6 v7 (.s (.int .i64 3)) x59 v17 v18 v19 h119) (
eqK P false 3 x74 (.s (.int .i64 5)) h62 fun x120 =>
condK x120 (
f_document_of_j8 P T D N xn x0 v1 v4 v5 v6 (.s (.bool true)) v8 v17 v18 v19 h62) (
f_document_of_j10 P T D N xn x0 v1 v4 v5 v6 v7 v8 x59 v17 v18 v19 h62))))))) (
x0 v1 v4 v5 v6 v7 v8 h)
noncomputable def f_document_of_L6 (P : Program) (T : Tab) (D : DTab) (N : Nat) {β : Type} (x0 : AV → AV → AV → AV → AV → AV → Hp → Option β) : Nat → AV → AV → AV → AV → AV → AV → AV → AV → AV → Hp → Option β
  | 0 => fun _ _ _ _ _ _ _ _ _ _ => none
  | n + 1 => fun v1 v4 v5 v6 v7 v8 v17 v18 v19 h => f_document_of_b6 P T D N (f_document_of_L6 P T D N x0 n) x0 v1 v4 v5 v6 v7 v8 v17 v18 v19 h
noncomputable def f_document_of (P : Program) (T : Tab) (D : DTab) (N : Nat) {β : Type} (K : AV → Hp → Option β) (a0 : AV) (a1 : AV) (h : Hp) : Option β :=
effK (boxE 7 (.agg [.s (.int .i64 0), .s (.int .i64 0), .s (.int .i64 0), .s (.int .i64 0), .s (.int .i64 0), .s (.int .i64 0), .s (.int .i64 0)]) (List.length h)) h fun x1 h2 =>
effK (some (.mp (List.length h2), EN (.map []))) h2 fun x3 h4 =>
buildK [.s (.int .i64 0), .s (.int .i64 0), .s (.int .i64 0), .s (.int .i64 0), .s (.int .i64 0), .s (.int .i64 0), .s (.int .i64 0)] [(some (0, 1), a1)] fun x5 =>
effK (boxE 7 (.agg [.s (.int .i64 0), .s (.int .i64 0), .s (.int .i64 0), .s (.int .i64 0), .s (.int .i64 0), .s (.int .i64 0), .s (.int .i64 0)]) (List.length h4)) h4 fun x6 h7 =>
effK (stE 7 x6 x5 h7) h7 fun x8 h9 =>
lenK a0 fun x10 =>
f_document_of_L6 P T D N (fun w121_1 w121_4 w121_5 w121_6 w121_7 w121_8 h => f_document_of_j1 P T D N K w121_1 w121_4 w121_5 w121_6 w121_7 w121_8 h) N a1 x1 x3 x6 (.s (.bool false)) (.s (.int .i64 0)) a0 x10 (.s (.int .i64 0)) h9
theorem f_document_of_b5_eq (P : Program) (T : Tab) (D : DTab) (N : Nat) {β : Type} (xn : AV → AV → AV → AV → AV → AV → Hp → Option β) (x3 : AV → AV → AV → AV → Hp → Option β) (xr : AV → Hp → Option β) (xd : Nat → St → Option β) (xq : St → Option β) (t : Tm) (h : Hp) : o_document_of_L5 P T D N t h (fun (e : Ex) (s : St) => e.on (xn (s.1 1) (s.1 4) (s.1 6) (s.1 7) (s.1 8) (s.1 78) s.2) (fun i => (bif i == 3 then x3 (s.1 4) (s.1 6) (s.1 7) (s.1 8) s.2 else (xd i s))) (xr (s.1 4) s.2)) = f_document_of_b5 P T D N xn x3 xr (t 1) (t 4) (t 6) (t 7) (t 8) (t 78) h := by kernel_rfl
theorem f_document_of_L5_eq (P : Program) (T : Tab) (D : DTab) (N : Nat) {β : Type} (A : Ex → St → Option β) (x3 : AV → AV → AV → AV → Hp → Option β) (xr : AV → Hp → Option β) (q3 : ∀ s, A (.exit 3) s = x3 (s.1 4) (s.1 6) (s.1 7) (s.1 8) s.2) (qr : ∀ s, A .ret s = xr (s.1 4) s.2) : ∀ (n : Nat) (s : St), iterK (fun s k => o_document_of_L5 P T D N s.1 s.2 k) n s A = f_document_of_L5 P T D N x3 xr n (s.1 1) (s.1 4) (s.1 6) (s.1 7) (s.1 8) (s.1 78) s.2 := by
  intro n
  induction n with
  | zero => intro s; rfl
  | succ n ih =>
    intro s
    have hk : (fun (e : Ex) (s' : St) => Ex.on e (iterK (fun s k => o_document_of_L5 P T D N s.1 s.2 k) n s' A) (fun i => A (.exit i) s') (A .ret s')) = (fun (e : Ex) (s : St) => e.on ((f_document_of_L5 P T D N x3 xr n) (s.1 1) (s.1 4) (s.1 6) (s.1 7) (s.1 8) (s.1 78) s.2) (fun i => (bif i == 3 then x3 (s.1 4) (s.1 6) (s.1 7) (s.1 8) s.2 else (A (.exit i) s))) (xr (s.1 4) s.2)) := by
      funext e s'
      cases e with
      | normal => exact ih s'
      | ret => exact qr s'
      | exit i =>
        by_cases r3 : i = 3
        · subst r3; exact q3 s'
        simp only [Ex.on, beq_false_of_ne r3, cond_false]
    show o_document_of_L5 P T D N s.1 s.2 (fun (e : Ex) (s' : St) => Ex.on e (iterK (fun s k => o_document_of_L5 P T D N s.1 s.2 k) n s' A) (fun i => A (.exit i) s') (A .ret s')) = _
    rw [hk]
    exact f_document_of_b5_eq P T D N (f_document_of_L5 P T D N x3 xr n) x3 xr (fun i s => A (.exit i) s) (fun s => A .ret s) s.1 s.2
theorem f_document_of_j1_eq (P : Program) (T : Tab) (D : DTab) (N : Nat) {β : Type} (K : AV → Hp → Option β) (t : Tm) (h : Hp) : o_document_of_j1 P T D N K t h = f_document_of_j1 P T D N K (t 1) (t 4) (t 5) (t 6) (t 7) (t 8) h := by
  have eL5 : (fun s : St => iterK (fun s k => o_document_of_L5 P T D N s.1 s.2 k) N s (o_document_of_aL5 P T D N K)) = (fun s : St => f_document_of_L5 P T D N (fun w40_4 w40_6 w40_7 w40_8 h => f_document_of_j2 P T D N K w40_4 w40_6 w40_7 w40_8 h) (fun w41_4 h => ldK 7 true w41_4 h fun r42 =>
K r42 h) N (s.1 1) (s.1 4) (s.1 6) (s.1 7) (s.1 8) (s.1 78) s.2) := funext fun s => f_document_of_L5_eq P T D N (o_document_of_aL5 P T D N K) (fun w40_4 w40_6 w40_7 w40_8 h => f_document_of_j2 P T D N K w40_4 w40_6 w40_7 w40_8 h) (fun w41_4 h => ldK 7 true w41_4 h fun r42 =>
K r42 h) (fun s => rfl) (fun s => rfl) N s
  show o_document_of_j1_G P T D N (fun s => iterK (fun s k => o_document_of_L5 P T D N s.1 s.2 k) N s (o_document_of_aL5 P T D N K)) K t h = _
  rw [eL5]
  kernel_rfl
theorem f_document_of_b6_eq (P : Program) (T : Tab) (D : DTab) (N : Nat) {β : Type} (xn : AV → AV → AV → AV → AV → AV → AV → AV → AV → Hp → Option β) (x0 : AV → AV → AV → AV → AV → AV → Hp → Option β) (xd : Nat → St → Option β) (xq : St → Option β) (t : Tm) (h : Hp) : o_document_of_L6 P T D N t h (fun (e : Ex) (s : St) => e.on (xn (s.1 1) (s.1 4) (s.1 5) (s.1 6) (s.1 7) (s.1 8) (s.1 17) (s.1 18) (s.1 19) s.2) (fun i => (bif i == 0 then x0 (s.1 1) (s.1 4) (s.1 5) (s.1 6) (s.1 7) (s.1 8) s.2 else (xd i s))) (xq s)) = f_document_of_b6 P T D N xn x0 (t 1) (t 4) (t 5) (t 6) (t 7) (t 8) (t 17) (t 18) (t 19) h := by kernel_rfl
theorem f_document_of_L6_eq (P : Program) (T : Tab) (D : DTab) (N : Nat) {β : Type} (A : Ex → St → Option β) (x0 : AV → AV → AV → AV → AV → AV → Hp → Option β) (q0 : ∀ s, A (.exit 0) s = x0 (s.1 1) (s.1 4) (s.1 5) (s.1 6) (s.1 7) (s.1 8) s.2) : ∀ (n : Nat) (s : St), iterK (fun s k => o_document_of_L6 P T D N s.1 s.2 k) n s A = f_document_of_L6 P T D N x0 n (s.1 1) (s.1 4) (s.1 5) (s.1 6) (s.1 7) (s.1 8) (s.1 17) (s.1 18) (s.1 19) s.2 := by
  intro n
  induction n with
  | zero => intro s; rfl
  | succ n ih =>
    intro s
    have hk : (fun (e : Ex) (s' : St) => Ex.on e (iterK (fun s k => o_document_of_L6 P T D N s.1 s.2 k) n s' A) (fun i => A (.exit i) s') (A .ret s')) = (fun (e : Ex) (s : St) => e.on ((f_document_of_L6 P T D N x0 n) (s.1 1) (s.1 4) (s.1 5) (s.1 6) (s.1 7) (s.1 8) (s.1 17) (s.1 18) (s.1 19) s.2) (fun i => (bif i == 0 then x0 (s.1 1) (s.1 4) (s.1 5) (s.1 6) (s.1 7) (s.1 8) s.2 else (A (.exit i) s))) (A .ret s)) := by
      funext e s'
      cases e with
      | normal => exact ih s'
      | ret => exact rfl
      | exit i =>
        by_cases r0 : i = 0
        · subst r0; exact q0 s'
        simp only [Ex.on, beq_false_of_ne r0, cond_false]
    show o_document_of_L6 P T D N s.1 s.2 (fun (e : Ex) (s' : St) => Ex.on e (iterK (fun s k => o_document_of_L6 P T D N s.1 s.2 k) n s' A) (fun i => A (.exit i) s') (A .ret s')) = _
    rw [hk]
    exact f_document_of_b6_eq P T D N (f_document_of_L6 P T D N x0 n) x0 (fun i s => A (.exit i) s) (fun s => A .ret s) s.1 s.2
theorem f_document_of_old_eq (P : Program) (T : Tab) (D : DTab) (N : Nat) {β : Type} (K : AV → Hp → Option β) (a0 : AV) (a1 : AV) (h : Hp) : o_document_of P T D N K a0 a1 h = f_document_of P T D N K a0 a1 h := by
  have eL6 : (fun s : St => iterK (fun s k => o_document_of_L6 P T D N s.1 s.2 k) N s (o_document_of_aL6 P T D N K)) = (fun s : St => f_document_of_L6 P T D N (fun w121_1 w121_4 w121_5 w121_6 w121_7 w121_8 h => f_document_of_j1 P T D N K w121_1 w121_4 w121_5 w121_6 w121_7 w121_8 h) N (s.1 1) (s.1 4) (s.1 5) (s.1 6) (s.1 7) (s.1 8) (s.1 17) (s.1 18) (s.1 19) s.2) := funext fun s => f_document_of_L6_eq P T D N (o_document_of_aL6 P T D N K) (fun w121_1 w121_4 w121_5 w121_6 w121_7 w121_8 h => f_document_of_j1 P T D N K w121_1 w121_4 w121_5 w121_6 w121_7 w121_8 h) (fun s => f_document_of_j1_eq P T D N K s.1 s.2) N s
  show o_document_of_G P T D N (fun s => iterK (fun s k => o_document_of_L6 P T D N s.1 s.2 k) N s (o_document_of_aL6 P T D N K)) K a0 a1 h = _
  rw [eL6]
  kernel_rfl
theorem o_document_of_run (T : Tab) (D : DTab) (N : Nat) {β : Type} (K : AV → Hp → Option β) (a0 : AV) (a1 : AV) (h : Hp) : runK Try.prog T D N [0, 1, 4, 5, 6, 7, 8, 10, 11, 13, 17, 18, 19, 20, 26, 33, 34, 46, 55, 60, 63, 74, 78, 80, 84, 89, 92] Try.f46 K [a0, a1] h = o_document_of Try.prog T D N K a0 a1 h := by kernel_rfl
theorem f_document_of_run (T : Tab) (D : DTab) (N : Nat) {β : Type} (K : AV → Hp → Option β) (a0 : AV) (a1 : AV) (h : Hp) : runK Try.prog T D N [0, 1, 4, 5, 6, 7, 8, 10, 11, 13, 17, 18, 19, 20, 26, 33, 34, 46, 55, 60, 63, 74, 78, 80, 84, 89, 92] Try.f46 K [a0, a1] h = f_document_of Try.prog T D N K a0 a1 h := (o_document_of_run T D N K a0 a1 h).trans (f_document_of_old_eq Try.prog T D N K a0 a1 h)
noncomputable def f_document_goes (P : Program) (T : Tab) (D : DTab) (N : Nat) {β : Type} (K : AV → Hp → Option β) (a0 : AV) (a1 : AV) (h : Hp) : Option β :=
effK (boxE 7 a0 (List.length h)) h fun x1 h2 =>
effK (boxE 7 a1 (List.length h2)) h2 fun x3 h4 =>
faK 1 x1 fun x5 =>
ldK 1 false x5 h4 fun x6 =>
faK 1 x3 fun x7 =>
ldK 1 false x7 h4 fun x8 =>
buildK [.s (.int .i64 0), .s (.int .i64 0)] [(some (0, 1), x6), (some (1, 1), x8)] fun x9 =>
effK (boxE 2 (.agg [.s (.int .i64 0), .s (.int .i64 0)]) (List.length h4)) h4 fun x10 h11 =>
effK (stE 2 x10 x9 h11) h11 fun x12 h13 =>
faK 1 x1 fun x14 =>
ldK 1 false x14 h13 fun x15 =>
eqK P false 3 x15 (.s (.int .i64 1)) h13 fun x16 =>
condK x16 (
faK 1 x3 fun x17 =>
ldK 1 false x17 h13 fun x18 =>
arithK .geq x18 (.s (.int .i64 1)) fun x19 =>
grpK true x19 h13 (fun k20 =>
faK 1 x3 fun x21 =>
ldK 1 false x21 h13 fun x22 =>
arithK .leq x22 (.s (.int .i64 4)) fun x23 =>
k20 x23 h13) fun x24 h25 =>
K x24 h25) (
ldK 2 true x10 h13 fun x26 =>
buildK [.s (.int .i64 0), .s (.int .i64 0)] [(some (0, 1), (.s (.int .i64 3))), (some (1, 1), (.s (.int .i64 3)))] fun x27 =>
eqK P false 80 x26 x27 h13 fun x28 =>
condK x28 (
K (.s (.bool true)) h13) (
ldK 2 true x10 h13 fun x29 =>
buildK [.s (.int .i64 0), .s (.int .i64 0)] [(some (0, 1), (.s (.int .i64 3))), (some (1, 1), (.s (.int .i64 4)))] fun x30 =>
eqK P false 80 x29 x30 h13 fun x31 =>
condK x31 (
faK 5 x3 fun x32 =>
ldK 1 false x32 h13 fun x33 =>
eqK P false 3 x33 (.s (.int .i64 0)) h13 fun x34 =>
K x34 h13) (
ldK 2 true x10 h13 fun x35 =>
buildK [.s (.int .i64 0), .s (.int .i64 0)] [(some (0, 1), (.s (.int .i64 2))), (some (1, 1), (.s (.int .i64 2)))] fun x36 =>
eqK P false 80 x35 x36 h13 fun x37 =>
grpK false x37 h13 (fun k38 =>
ldK 2 true x10 h13 fun x39 =>
buildK [.s (.int .i64 0), .s (.int .i64 0)] [(some (0, 1), (.s (.int .i64 2))), (some (1, 1), (.s (.int .i64 4)))] fun x40 =>
eqK P false 80 x39 x40 h13 fun x41 =>
k38 x41 h13) fun x42 h43 =>
grpK false x42 h43 (fun k44 =>
ldK 2 true x10 h43 fun x45 =>
buildK [.s (.int .i64 0), .s (.int .i64 0)] [(some (0, 1), (.s (.int .i64 4))), (some (1, 1), (.s (.int .i64 4)))] fun x46 =>
eqK P false 80 x45 x46 h43 fun x47 =>
k44 x47 h43) fun x48 h49 =>
condK x48 (
faK 5 x1 fun x50 =>
ldK 1 false x50 h49 fun x51 =>
faK 5 x3 fun x52 =>
ldK 1 false x52 h49 fun x53 =>
eqK P false 3 x51 x53 h49 fun x54 =>
K x54 h49) (
K (.s (.bool false)) h49))))
theorem f_document_goes_run (T : Tab) (D : DTab) (N : Nat) {β : Type} (K : AV → Hp → Option β) (a0 : AV) (a1 : AV) (h : Hp) : runK Try.prog T D N [0, 1, 2, 3, 4, 5, 11, 23, 27, 34] Try.f50 K [a0, a1] h = f_document_goes Try.prog T D N K a0 a1 h := by kernel_rfl
noncomputable def o_slices_IndexFunc_Message_j1 (P : Program) (T : Tab) (D : DTab) (N : Nat) {β : Type} (K : AV → Hp → Option β) (t : Tm) (h : Hp) : Option β :=
K (.s (.int .i64 (-1))) h
noncomputable def o_slices_IndexFunc_Message_L2 (P : Program) (T : Tab) (D : DTab) (N : Nat) {β : Type} (t : Tm) (h : Hp) (k : Ex → St → Option β) : Option β :=
arithK .lss (t 8) (t 7) fun x2 =>
condK x2 (
iaK 7 (t 0) (t 8) fun x3 =>
ldK 7 true x3 h fun x4 =>
callVK T (t 1) [x4] h fun x5 h6 =>
condK x5 (
k .ret ((upd (upd (upd (upd t 9 x2) 5 (t 8)) 16 x5) 4 (t 8)), h6)) (
arithK .add (t 8) (.s (.int .i64 1)) fun x7 =>
k .normal ((upd (upd (upd (upd t 9 x2) 5 (t 8)) 16 x5) 8 x7), h6))) (
k (.exit 0) ((upd t 9 x2), h))
noncomputable def o_slices_IndexFunc_Message_aL2 (P : Program) (T : Tab) (D : DTab) (N : Nat) {β : Type} (K : AV → Hp → Option β) (e : Ex) (s : St) : Option β :=
  e.on ((o_slices_IndexFunc_Message_j1 P T D N K s.1 s.2))
  (fun i => bif i == 0 then ((o_slices_IndexFunc_Message_j1 P T D N K s.1 s.2)) else (none))
  (K (s.1 4) s.2)
noncomputable def o_slices_IndexFunc_Message_G (P : Program) (T : Tab) (D : DTab) (N : Nat) {β : Type} (cL2 : St → Option β) (K : AV → Hp → Option β) (a0 : AV) (a1 : AV) (h : Hp) :  Option β :=
lenK a0 fun x1 =>
cL2 ((upd (upd (upd (tm0 [a0, a1]) 4 (.s (.int .i64 0))) 7 x1) 8 (.s (.int .i64 0))), h)
noncomputable def o_slices_IndexFunc_Message (P : Program) (T : Tab) (D : DTab) (N : Nat) {β : Type} (K : AV → Hp → Option β) (a0 : AV) (a1 : AV) (h : Hp) : Option β := o_slices_IndexFunc_Message_G P T D N (fun s => iterK (fun s k => o_slices_IndexFunc_Message_L2 P T D N s.1 s.2 k) N s (o_slices_IndexFunc_Message_aL2 P T D N K)) K a0 a1 h
noncomputable def f_slices_IndexFunc_Message_j1 (P : Program) (T : Tab) (D : DTab) (N : Nat) {β : Type} (K : AV → Hp → Option β) (h : Hp) : Option β :=
K (.s (.int .i64 (-1))) h
noncomputable def f_slices_IndexFunc_Message_b2 (P : Program) (T : Tab) (D : DTab) (N : Nat) {β : Type} (xn : AV → AV → AV → AV → Hp → Option β) (x0 : Hp → Option β) (xr : AV → Hp → Option β) (v0 : AV) (v1 : AV) (v7 : AV) (v8 : AV) (h : Hp) : Option β :=
arithK .lss v8 v7 fun x2 =>
condK x2 (
iaK 7 v0 v8 fun x3 =>
ldK 7 true x3 h fun x4 =>
callVK T v1 [x4] h fun x5 h6 =>
condK x5 (
xr v8 h6) (
arithK .add v8 (.s (.int .i64 1)) fun x7 =>
xn v0 v1 v7 x7 h6)) (
x0 h)
noncomputable def f_slices_IndexFunc_Message_L2 (P : Program) (T : Tab) (D : DTab) (N : Nat) {β : Type} (x0 : Hp → Option β) (xr : AV → Hp → Option β) : Nat → AV → AV → AV → AV → Hp → Option β
  | 0 => fun _ _ _ _ _ => none
  | n + 1 => fun v0 v1 v7 v8 h => f_slices_IndexFunc_Message_b2 P T D N (f_slices_IndexFunc_Message_L2 P T D N x0 xr n) x0 xr v0 v1 v7 v8 h
noncomputable def f_slices_IndexFunc_Message (P : Program) (T : Tab) (D : DTab) (N : Nat) {β : Type} (K : AV → Hp → Option β) (a0 : AV) (a1 : AV) (h : Hp) : Option β :=
lenK a0 fun x1 =>
f_slices_IndexFunc_Message_L2 P T D N (fun h => f_slices_IndexFunc_Message_j1 P T D N K h) (fun w9_4 h => K w9_4 h) N a0 a1 x1 (.s (.int .i64 0)) h
theorem f_slices_IndexFunc_Message_b2_eq (P : Program) (T : Tab) (D : DTab) (N : Nat) {β : Type} (xn : AV → AV → AV → AV → Hp → Option β) (x0 : Hp → Option β) (xr : AV → Hp → Option β) (xd : Nat → St → Option β) (xq : St → Option β) (t : Tm) (h : Hp) : o_slices_IndexFunc_Message_L2 P T D N t h (fun (e : Ex) (s : St) => e.on (xn (s.1 0) (s.1 1) (s.1 7) (s.1 8) s.2) (fun i => (bif i == 0 then x0 s.2 else (xd i s))) (xr (s.1 4) s.2)) = f_slices_IndexFunc_Message_b2 P T D N xn x0 xr (t 0) (t 1) (t 7) (t 8) h := by kernel_rfl
theorem f_slices_IndexFunc_Message_L2_eq (P : Program) (T : Tab) (D : DTab) (N : Nat) {β : Type} (A : Ex → St → Option β) (x0 : Hp → Option β) (xr : AV → Hp → Option β) (q0 : ∀ s, A (.exit 0) s = x0 s.2) (qr : ∀ s, A .ret s = xr (s.1 4) s.2) : ∀ (n : Nat) (s : St), iterK (fun s k => o_slices_IndexFunc_Message_L2 P T D N s.1 s.2 k) n s A = f_slices_IndexFunc_Message_L2 P T D N x0 xr n (s.1 0) (s.1 1) (s.1 7) (s.1 8) s.2 := by
  intro n
  induction n with
  | zero => intro s; rfl
  | succ n ih =>
    intro s
    have hk : (fun (e : Ex) (s' : St) => Ex.on e (iterK (fun s k => o_slices_IndexFunc_Message_L2 P T D N s.1 s.2 k) n s' A) (fun i => A (.exit i) s') (A .ret s')) = (fun (e : Ex) (s : St) => e.on ((f_slices_IndexFunc_Message_L2 P T D N x0 xr n) (s.1 0) (s.1 1) (s.1 7) (s.1 8) s.2) (fun i => (bif i == 0 then x0 s.2 else (A (.exit i) s))) (xr (s.1 4) s.2)) := by
      funext e s'
      cases e with
      | normal => exact ih s'
      | ret => exact qr s'
      | exit i =>
        by_cases r0 : i = 0
        · subst r0; exact q0 s'
        simp only [Ex.on, beq_false_of_ne r0, cond_false]
    show o_slices_IndexFunc_Message_L2 P T D N s.1 s.2 (fun (e : Ex) (s' : St) => Ex.on e (iterK (fun s k => o_slices_IndexFunc_Message_L2 P T D N s.1 s.2 k) n s' A) (fun i => A (.exit i) s') (A .ret s')) = _
    rw [hk]
    exact f_slices_IndexFunc_Message_b2_eq P T D N (f_slices_IndexFunc_Message_L2 P T D N x0 xr n) x0 xr (fun i s => A (.exit i) s) (fun s => A .ret s) s.1 s.2
theorem f_slices_IndexFunc_Message_old_eq (P : Program) (T : Tab) (D : DTab) (N : Nat) {β : Type} (K : AV → Hp → Option β) (a0 : AV) (a1 : AV) (h : Hp) : o_slices_IndexFunc_Message P T D N K a0 a1 h = f_slices_IndexFunc_Message P T D N K a0 a1 h := by
  have eL2 : (fun s : St => iterK (fun s k => o_slices_IndexFunc_Message_L2 P T D N s.1 s.2 k) N s (o_slices_IndexFunc_Message_aL2 P T D N K)) = (fun s : St => f_slices_IndexFunc_Message_L2 P T D N (fun h => f_slices_IndexFunc_Message_j1 P T D N K h) (fun w9_4 h => K w9_4 h) N (s.1 0) (s.1 1) (s.1 7) (s.1 8) s.2) := funext fun s => f_slices_IndexFunc_Message_L2_eq P T D N (o_slices_IndexFunc_Message_aL2 P T D N K) (fun h => f_slices_IndexFunc_Message_j1 P T D N K h) (fun w9_4 h => K w9_4 h) (fun s => rfl) (fun s => rfl) N s
  show o_slices_IndexFunc_Message_G P T D N (fun s => iterK (fun s k => o_slices_IndexFunc_Message_L2 P T D N s.1 s.2 k) N s (o_slices_IndexFunc_Message_aL2 P T D N K)) K a0 a1 h = _
  rw [eL2]
  kernel_rfl
theorem o_slices_IndexFunc_Message_run (T : Tab) (D : DTab) (N : Nat) {β : Type} (K : AV → Hp → Option β) (a0 : AV) (a1 : AV) (h : Hp) : runK Try.prog T D N [0, 1, 4, 5, 7, 8, 9, 16] Try.f51 K [a0, a1] h = o_slices_IndexFunc_Message Try.prog T D N K a0 a1 h := by kernel_rfl
theorem f_slices_IndexFunc_Message_run (T : Tab) (D : DTab) (N : Nat) {β : Type} (K : AV → Hp → Option β) (a0 : AV) (a1 : AV) (h : Hp) : runK Try.prog T D N [0, 1, 4, 5, 7, 8, 9, 16] Try.f51 K [a0, a1] h = f_slices_IndexFunc_Message Try.prog T D N K a0 a1 h := (o_slices_IndexFunc_Message_run T D N K a0 a1 h).trans (f_slices_IndexFunc_Message_old_eq Try.prog T D N K a0 a1 h)
noncomputable def o_cmp_Or_int_j1 (P : Program) (T : Tab) (D : DTab) (N : Nat) {β : Type} (K : AV → Hp → Option β) (t : Tm) (h : Hp) : Option β :=
K (t 3) h
noncomputable def o_cmp_Or_int_L2 (P : Program) (T : Tab) (D : DTab) (N : Nat) {β : Type} (t : Tm) (h : Hp) (k : Ex → St → Option β) : Option β :=
arithK .lss (t 8) (t 7) fun x2 =>
condK x2 (
iaK 1 (t 6) (t 8) fun x3 =>
ldK 1 false x3 h fun x4 =>
eqK P true 3 x4 (t 3) h fun x5 =>
condK x5 (
k .ret ((upd (upd (upd (upd t 9 x2) 5 x4) 14 x5) 2 x4), h)) (
arithK .add (t 8) (.s (.int .i64 1)) fun x6 =>
k .normal ((upd (upd (upd (upd t 9 x2) 5 x4) 14 x5) 8 x6), h))) (
k (.exit 0) ((upd t 9 x2), h))
noncomputable def o_cmp_Or_int_aL2 (P : Program) (T : Tab) (D : DTab) (N : Nat) {β : Type} (K : AV → Hp → Option β) (e : Ex) (s : St) : Option β :=
  e.on ((o_cmp_Or_int_j1 P T D N K s.1 s.2))
  (fun i => bif i == 0 then ((o_cmp_Or_int_j1 P T D N K s.1 s.2)) else (none))
  (K (s.1 2) s.2)
noncomputable def o_cmp_Or_int_G (P : Program) (T : Tab) (D : DTab) (N : Nat) {β : Type} (cL2 : St → Option β) (K : AV → Hp → Option β) (a0 : AV) (h : Hp) :  Option β :=
lenK a0 fun x1 =>
cL2 ((upd (upd (upd (upd (upd (tm0 [a0]) 2 (.s (.int .i64 0))) 3 (.s (.int .i64 0))) 6 a0) 7 x1) 8 (.s (.int .i64 0))), h)
noncomputable def o_cmp_Or_int (P : Program) (T : Tab) (D : DTab) (N : Nat) {β : Type} (K : AV → Hp → Option β) (a0 : AV) (h : Hp) : Option β := o_cmp_Or_int_G P T D N (fun s => iterK (fun s k => o_cmp_Or_int_L2 P T D N s.1 s.2 k) N s (o_cmp_Or_int_aL2 P T D N K)) K a0 h
noncomputable def f_cmp_Or_int_j1 (P : Program) (T : Tab) (D : DTab) (N : Nat) {β : Type} (K : AV → Hp → Option β) (v3 : AV) (h : Hp) : Option β :=
K v3 h
noncomputable def f_cmp_Or_int_b2 (P : Program) (T : Tab) (D : DTab) (N : Nat) {β : Type} (xn : AV → AV → AV → AV → Hp → Option β) (x0 : AV → Hp → Option β) (xr : AV → Hp → Option β) (v3 : AV) (v6 : AV) (v7 : AV) (v8 : AV) (h : Hp) : Option β :=
arithK .lss v8 v7 fun x2 =>
condK x2 (
iaK 1 v6 v8 fun x3 =>
ldK 1 false x3 h fun x4 =>
eqK P true 3 x4 v3 h fun x5 =>
condK x5 (
xr x4 h) (
arithK .add v8 (.s (.int .i64 1)) fun x6 =>
xn v3 v6 v7 x6 h)) (
x0 v3 h)
noncomputable def f_cmp_Or_int_L2 (P : Program) (T : Tab) (D : DTab) (N : Nat) {β : Type} (x0 : AV → Hp → Option β) (xr : AV → Hp → Option β) : Nat → AV → AV → AV → AV → Hp → Option β
  | 0 => fun _ _ _ _ _ => none
  | n + 1 => fun v3 v6 v7 v8 h => f_cmp_Or_int_b2 P T D N (f_cmp_Or_int_L2 P T D N x0 xr n) x0 xr v3 v6 v7 v8 h
noncomputable def f_cmp_Or_int (P : Program) (T : Tab) (D : DTab) (N : Nat) {β : Type} (K : AV → Hp → Option β) (a0 : AV) (h : Hp) : Option β :=
lenK a0 fun x1 =>
f_cmp_Or_int_L2 P T D N (fun w7_3 h => f_cmp_Or_int_j1 P T D N K w7_3 h) (fun w8_2 h => K w8_2 h) N (.s (.int .i64 0)) a0 x1 (.s (.int .i64 0)) h
theorem f_cmp_Or_int_b2_eq (P : Program) (T : Tab) (D : DTab) (N : Nat) {β : Type} (xn : AV → AV → AV → AV → Hp → Option β) (x0 : AV → Hp → Option β) (xr : AV → Hp → Option β) (xd : Nat → St → Option β) (xq : St → Option β) (t : Tm) (h : Hp) : o_cmp_Or_int_L2 P T D N t h (fun (e : Ex) (s : St) => e.on (xn (s.1 3) (s.1 6) (s.1 7) (s.1 8) s.2) (fun i => (bif i == 0 then x0 (s.1 3) s.2 else (xd i s))) (xr (s.1 2) s.2)) = f_cmp_Or_int_b2 P T D N xn x0 xr (t 3) (t 6) (t 7) (t 8) h := by kernel_rfl
theorem f_cmp_Or_int_L2_eq (P : Program) (T : Tab) (D : DTab) (N : Nat) {β : Type} (A : Ex → St → Option β) (x0 : AV → Hp → Option β) (xr : AV → Hp → Option β) (q0 : ∀ s, A (.exit 0) s = x0 (s.1 3) s.2) (qr : ∀ s, A .ret s = xr (s.1 2) s.2) : ∀ (n : Nat) (s : St), iterK (fun s k => o_cmp_Or_int_L2 P T D N s.1 s.2 k) n s A = f_cmp_Or_int_L2 P T D N x0 xr n (s.1 3) (s.1 6) (s.1 7) (s.1 8) s.2 := by
  intro n
  induction n with
  | zero => intro s; rfl
  | succ n ih =>
    intro s
    have hk : (fun (e : Ex) (s' : St) => Ex.on e (iterK (fun s k => o_cmp_Or_int_L2 P T D N s.1 s.2 k) n s' A) (fun i => A (.exit i) s') (A .ret s')) = (fun (e : Ex) (s : St) => e.on ((f_cmp_Or_int_L2 P T D N x0 xr n) (s.1 3) (s.1 6) (s.1 7) (s.1 8) s.2) (fun i => (bif i == 0 then x0 (s.1 3) s.2 else (A (.exit i) s))) (xr (s.1 2) s.2)) := by
      funext e s'
      cases e with
      | normal => exact ih s'
      | ret => exact qr s'
      | exit i =>
        by_cases r0 : i = 0
        · subst r0; exact q0 s'
        simp only [Ex.on, beq_false_of_ne r0, cond_false]
    show o_cmp_Or_int_L2 P T D N s.1 s.2 (fun (e : Ex) (s' : St) => Ex.on e (iterK (fun s k => o_cmp_Or_int_L2 P T D N s.1 s.2 k) n s' A) (fun i => A (.exit i) s') (A .ret s')) = _
    rw [hk]
    exact f_cmp_Or_int_b2_eq P T D N (f_cmp_Or_int_L2 P T D N x0 xr n) x0 xr (fun i s => A (.exit i) s) (fun s => A .ret s) s.1 s.2
theorem f_cmp_Or_int_old_eq (P : Program) (T : Tab) (D : DTab) (N : Nat) {β : Type} (K : AV → Hp → Option β) (a0 : AV) (h : Hp) : o_cmp_Or_int P T D N K a0 h = f_cmp_Or_int P T D N K a0 h := by
  have eL2 : (fun s : St => iterK (fun s k => o_cmp_Or_int_L2 P T D N s.1 s.2 k) N s (o_cmp_Or_int_aL2 P T D N K)) = (fun s : St => f_cmp_Or_int_L2 P T D N (fun w7_3 h => f_cmp_Or_int_j1 P T D N K w7_3 h) (fun w8_2 h => K w8_2 h) N (s.1 3) (s.1 6) (s.1 7) (s.1 8) s.2) := funext fun s => f_cmp_Or_int_L2_eq P T D N (o_cmp_Or_int_aL2 P T D N K) (fun w7_3 h => f_cmp_Or_int_j1 P T D N K w7_3 h) (fun w8_2 h => K w8_2 h) (fun s => rfl) (fun s => rfl) N s
  show o_cmp_Or_int_G P T D N (fun s => iterK (fun s k => o_cmp_Or_int_L2 P T D N s.1 s.2 k) N s (o_cmp_Or_int_aL2 P T D N K)) K a0 h = _
  rw [eL2]
  kernel_rfl
theorem o_cmp_Or_int_run (T : Tab) (D : DTab) (N : Nat) {β : Type} (K : AV → Hp → Option β) (a0 : AV) (h : Hp) : runK Try.prog T D N [0, 2, 3, 5, 6, 7, 8, 9, 14] Try.f57 K [a0] h = o_cmp_Or_int Try.prog T D N K a0 h := by kernel_rfl
theorem f_cmp_Or_int_run (T : Tab) (D : DTab) (N : Nat) {β : Type} (K : AV → Hp → Option β) (a0 : AV) (h : Hp) : runK Try.prog T D N [0, 2, 3, 5, 6, 7, 8, 9, 14] Try.f57 K [a0] h = f_cmp_Or_int Try.prog T D N K a0 h := (o_cmp_Or_int_run T D N K a0 h).trans (f_cmp_Or_int_old_eq Try.prog T D N K a0 h)
noncomputable def f_cmp_Compare_int (P : Program) (T : Tab) (D : DTab) (N : Nat) {β : Type} (K : AV → Hp → Option β) (a0 : AV) (a1 : AV) (h : Hp) : Option β :=
callK (T 71) [a0] h fun x1 h2 =>
callK (T 71) [a1] h2 fun x3 h4 =>
condK x1 (
condK x3 (
K (.s (.int .i64 0)) h4) (
K (.s (.int .i64 (-1))) h4)) (
condK x3 (
K (.s (.int .i64 1)) h4) (
arithK .lss a0 a1 fun x5 =>
condK x5 (
K (.s (.int .i64 (-1))) h4) (
arithK .gtr a0 a1 fun x6 =>
condK x6 (
K (.s (.int .i64 1)) h4) (
K (.s (.int .i64 0)) h4))))
theorem f_cmp_Compare_int_run (T : Tab) (D : DTab) (N : Nat) {β : Type} (K : AV → Hp → Option β) (a0 : AV) (a1 : AV) (h : Hp) : runK Try.prog T D N [0, 1, 4, 5, 6, 11, 12, 13, 16, 19] Try.f58 K [a0, a1] h = f_cmp_Compare_int Try.prog T D N K a0 a1 h := by kernel_rfl
noncomputable def f_cmp_isNaN_int (P : Program) (T : Tab) (D : DTab) (N : Nat) {β : Type} (K : AV → Hp → Option β) (a0 : AV) (h : Hp) : Option β :=
eqK P true 3 a0 a0 h fun x1 =>
K x1 h
theorem f_cmp_isNaN_int_run (T : Tab) (D : DTab) (N : Nat) {β : Type} (K : AV → Hp → Option β) (a0 : AV) (h : Hp) : runK Try.prog T D N [0, 2] Try.f71 K [a0] h = f_cmp_isNaN_int Try.prog T D N K a0 h := by kernel_rfl
end Go.AM


namespace Go.AM
open Go.RowKit
set_option linter.unusedVariables false
set_option linter.unusedSimpArgs false
set_option linter.constructorNameAsVariable false
variable {P : Program} {μ μ' : Mu} {h h' h1 : Hp} {w w' : World}
def Near (h h1 : Hp) : Prop := h1.length = h.length ∧ ∀ (id : Nat) (o : AObj), h[id]? = some o → h1[id]? = some o ∨ ∃ sz es es' own nil, o = .arr sz es own nil ∧ h1[id]? = some (.arr sz es' own nil) ∧ es'.length = es.length ∧ ∀ e ∈ es', ∀ c ∈ e, plain c = true
theorem Near.back (n : Near h h1) {id : Nat} {o : AObj} (ho : h1[id]? = some o) : h[id]? = some o ∨ ∃ sz es es' own nil, o = .arr sz es' own nil ∧ h[id]? = some (.arr sz es own nil) ∧ es'.length = es.length ∧ ∀ e ∈ es', ∀ c ∈ e, plain c = true := by
  have hl : id < h.length := by rw [← n.1]; exact (List.getElem?_eq_some_iff.1 ho).1
  have hh : h[id]? = some h[id] := List.getElem?_eq_getElem hl
  rcases n.2 id _ hh with h2 | ⟨sz, es, es', own, nil, h2, h3, h4, h5⟩
  · left
    rw [h2] at ho
    rw [hh]; exact ho
  · right
    rw [h3] at ho
    injection ho with ho
    exact ⟨sz, es, es', own, nil, ho.symm, by rw [hh, h2], h4, h5⟩
theorem Step.forget2 {g : List AObj} (R : Rel μ h w) (n : Near h h1) (S : Step μ h w μ' (h1 ++ g) w') : Step μ h w (μ.mix μ') h1 w' ∧ Ext (μ.mix μ') h1 μ' (h1 ++ g) := by
  have hin : ∀ i o, h1[i]? = some o → (h1 ++ g)[i]? = some o := fun i o hi => by
    rw [List.getElem?_append_left (List.getElem?_eq_some_iff.1 hi).1]; exact hi
  have hloc : ∀ (id : Nat) (o : AObj), h[id]? = some o → o ≠ .dead → μ' id = μ id := by
    intro id o ho hd
    have := S.evo.obj id o ho
    cases o with
    | dead => exact absurd rfl hd
    | loop m ps asg body ts st pend => obtain ⟨_, _, _, h2⟩ := this; exact h2
    | iter m n seen => obtain ⟨_, _, h2⟩ := this; exact h2
    | map kvs => obtain ⟨_, _, h2⟩ := this; exact h2
    | arr sz es own nil =>
      obtain ⟨es', nil', q1, q2, q3⟩ := this
      rcases n.2 id _ ho with h2 | ⟨sz2, es2, es3, own2, nil2, h2, h3, h4, h5⟩
      · rw [hin _ _ h2] at q1
        injection q1 with q1
        injection q1 with e1 e2 e3 e4
        exact q3 (by rw [e2])
      · rw [hin _ _ h3] at q1
        injection q1 with q1
        injection q1 with e1 e2 e3 e4
        injection h2 with f1 f2 f3 f4
        exact q3 (by rw [← e2, h4, f2])
  have hloc1 : ∀ (id : Nat) (o : AObj), h1[id]? = some o → o ≠ .dead → μ' id = μ id := by
    intro id o ho hd
    rcases n.back ho with h2 | ⟨sz, es, es', own, nil, h2, h3, h4, h5⟩
    · exact hloc id o h2 hd
    · exact hloc id _ h3 (by simp)
  have he : Ext (μ.mix μ') h1 μ' (h1 ++ g) := ⟨fun k hk => ⟨hk, rfl⟩, fun id o ho => ⟨hin _ _ ho, fun hd => hloc1 id o ho hd⟩⟩
  have hE : Evo μ h (μ.mix μ') h1 := by
    refine ⟨S.evo.imm, fun id o ho => ?_⟩
    rcases n.2 id _ ho with h2 | ⟨sz2, es2, es3, own2, nil2, rfl, h3, h4, h5⟩
    · cases o with
      | dead => trivial
      | loop m ps asg body ts st pend => exact ⟨st, pend, h2, rfl⟩
      | iter m n seen => exact ⟨seen, h2, rfl⟩
      | map kvs => exact ⟨kvs, h2, rfl⟩
      | arr sz es own nil => exact ⟨es, nil, h2, Nat.le_refl _, fun _ => rfl⟩
    · exact ⟨es3, nil2, h3, by omega, fun _ => rfl⟩
  have hmu : ∀ i o b x c, h1[i]? = some o → isOwn o = true → (μ.mix μ') i = .real b x c → μ' i = .real b x c := fun i o b x c p1 p2 p3 => by
    rw [hloc1 i o p1 (by rintro rfl; simp [isOwn] at p2)]; exact p3
  have hown : ∀ b, Own (μ.mix μ') h1 b → Own μ' (h1 ++ g) b := by
    rintro b ⟨id, o, x, c, p1, p2, p3⟩
    exact ⟨id, o, x, c, hin _ _ p1, p2, hmu _ _ _ _ _ p1 p2 p3⟩
  have hown0 : ∀ b, Own (μ.mix μ') h1 b → Own μ h b := by
    rintro b ⟨id, o, x, c, p1, p2, p3⟩
    rcases n.back p1 with h2 | ⟨sz, es, es', own, nil, rfl, h3, h4, h5⟩
    · exact ⟨id, o, x, c, h2, p2, p3⟩
    · exact ⟨id, _, x, c, h3, p2, p3⟩
  refine ⟨⟨⟨fun id o ho => ?_, ?_, ?_, ?_⟩, hE, S.frame, fun b hb => .inl (hown0 b hb), S.fresh⟩, he⟩
  · have H := S.rel.obj id o (hin _ _ ho)
    rcases n.back ho with h2 | ⟨sz, es, es', own, nil, rfl, h3, h4, h5⟩
    · exact ORel.back he ho (w := w) (ORel.mono hE rfl (fun _ _ _ _ => rfl) (Nat.le_refl _) (R.obj id o h2)) H
    · refine ⟨H.1, ?_⟩
      have H2 := H.2
      have hm : μ' id = (μ.mix μ') id := hloc1 id _ ho (by simp)
      rw [← hm]
      cases hmu2 : μ' id with
      | virt A => rw [hmu2] at H2; exact H2
      | real blk x c =>
        rw [hmu2] at H2
        obtain ⟨q1, q2, q3, q4, q5, q6⟩ := H2
        refine ⟨q1, q2, q3, q4, fun i e j a p q => ?_, q6⟩
        obtain ⟨v, r1, r2, r3⟩ := q5 i e j a p q
        exact ⟨v, r1, r2, plain_VR he.imm (h5 e (List.mem_of_getElem? p) a (List.mem_of_getElem? q)) r3⟩
  · intro i j o p b x c y d hi hj hoi hpj hmi hmj
    exact S.rel.sep i j o p b x c y d (hin _ _ hi) (hin _ _ hj) hoi hpj (hmu _ _ _ _ _ hi hoi hmi) (hmu _ _ _ _ _ hj hpj hmj)
  · intro i sz es nil b x c hi hmi hO
    rcases n.back hi with h2 | ⟨sz2, es2, es3, own2, nil2, h2, h3, h4, h5⟩
    · exact R.apart i sz es nil b x c h2 hmi (hown0 b hO)
    · injection h2 with f1 f2 f3 f4
      subst f1 f3 f4
      exact R.apart i _ es2 _ b x c h3 hmi (hown0 b hO)
  · intro k hk
    obtain ⟨p1, p2, p3⟩ := S.rel.imm k hk
    exact ⟨p1, p2, fun hO => p3 (hown k hO)⟩
def Writes (F : Fun) (id : Nat) (x : AV) (sz : Nat) (xs zs : List AV) : Prop :=
  (∀ c ∈ zs, plain c = true) ∧ ∀ H : Hp, H[id]? = some (.arr sz [xs] true false) → ∃ g, F [.ptr id 0 0 1, x] H = some (.tup [], H.set id (.arr sz [zs] true false) ++ g)
open Classical in
noncomputable def wrD (F : Fun) : DFun := fun args h base => match args with
  | [.ptr id 0 0 1, x] => match h[id]? with
    | some (.arr sz [xs] true false) => if hx : ∃ zs, Writes F id x sz xs zs then some (.tup [], ⟨[(id, .arr sz [hx.choose] true false)], [], [id]⟩) else none
    | _ => none
  | _ => none
theorem Writes.unique {F : Fun} {id : Nat} {x : AV} {sz : Nat} {xs zs ys : List AV} {h : Hp} (hid : h[id]? = some (.arr sz [xs] true false)) (h1 : Writes F id x sz xs zs) (h2 : Writes F id x sz xs ys) : zs = ys := by
  obtain ⟨g1, e1⟩ := h1.2 h hid
  obtain ⟨g2, e2⟩ := h2.2 h hid
  rw [e1] at e2
  injection e2 with e2
  injection e2 with _ e2
  have hl := (List.getElem?_eq_some_iff.1 hid).1
  have := congrArg (fun l : Hp => l[id]?) e2
  rw [List.getElem?_append_left (by simpa using hl), List.getElem?_append_left (by simpa using hl), List.getElem?_set_self hl, List.getElem?_set_self hl] at this
  injection this with this
  injection this with _ this
  injection this
theorem wrD_val {F : Fun} {id : Nat} {x : AV} {sz : Nat} {xs zs : List AV} {h : Hp} (hid : h[id]? = some (.arr sz [xs] true false)) (hw : Writes F id x sz xs zs) (base : Nat) : wrD F [.ptr id 0 0 1, x] h base = some (.tup [], ⟨[(id, .arr sz [zs] true false)], [], [id]⟩) := by
  have hx : ∃ zs, Writes F id x sz xs zs := ⟨zs, hw⟩
  simp only [wrD, hid]
  rw [dif_pos hx, Writes.unique hid hx.choose_spec hw]
theorem wrD_inv {F : Fun} {args : List AV} {h : Hp} {base : Nat} {v : AV} {e : Eff} (hk : wrD F args h base = some (v, e)) : ∃ id x sz xs zs, args = [.ptr id 0 0 1, x] ∧ h[id]? = some (.arr sz [xs] true false) ∧ Writes F id x sz xs zs ∧ v = .tup [] ∧ e = ⟨[(id, .arr sz [zs] true false)], [], [id]⟩ := by
  unfold wrD at hk
  split at hk <;> try (simp at hk; done)
  rename_i id x
  split at hk <;> try (simp at hk; done)
  rename_i sz xs hid
  split at hk <;> try (simp at hk; done)
  rename_i hx
  simp only [Option.some.injEq, Prod.mk.injEq] at hk
  exact ⟨id, x, sz, xs, hx.choose, rfl, hid, hx.choose_spec, hk.1.symm, hk.2.symm⟩
theorem wrD_loc (F : Fun) : DLoc (wrD F) := by
  refine ⟨fun args h base v e hk H hag => ?_, fun args h base v e hk p hp => ?_⟩
  · obtain ⟨id, x, sz, xs, zs, rfl, hid, hw, rfl, rfl⟩ := wrD_inv hk
    exact wrD_val (hag id (by simp) _ hid) hw base
  · obtain ⟨id, x, sz, xs, zs, rfl, hid, hw, rfl, rfl⟩ := wrD_inv hk
    simp only [List.mem_singleton] at hp
    subst hp
    exact ⟨_, hid, by simp⟩
theorem wrD_calls {F : Fun} {f : FuncId} (hc : CSound P f F) : DCalls P f (wrD F) := by
  intro args h base v e hk hd μ w cargs R hargs
  obtain ⟨id, x, sz, xs, zs, rfl, hid, hw, rfl, rfl⟩ := wrD_inv hk
  obtain ⟨g, hg⟩ := hw.2 h hid
  obtain ⟨hgo, hcall⟩ := hc _ _ _ _ hg μ w cargs R hargs
  refine ⟨hgo, Calls.mono hcall ?_⟩
  rintro en w' ⟨cv, μ', rfl, hst, hv⟩
  have hl := (List.getElem?_eq_some_iff.1 hid).1
  have hn : Near h (h.set id (.arr sz [zs] true false)) := by
    refine ⟨by simp, fun j o ho => ?_⟩
    by_cases hj : id = j
    · subst hj
      rw [hid] at ho
      injection ho with ho
      subst ho
      right
      refine ⟨sz, [xs], [zs], true, false, rfl, by rw [List.getElem?_set_self hl], rfl, ?_⟩
      intro e he c hc
      simp only [List.mem_singleton] at he
      subst he
      exact hw.1 c hc
    · left
      rw [List.getElem?_set_ne hj]
      exact ho
  obtain ⟨h1, h2⟩ := Step.forget2 R hn hst
  exact ⟨cv, _, rfl, by simpa [apAt] using h1, plain_VR h2.imm rfl hv⟩
theorem DSound.wr {D : DTab} (DS : DSound P D) {f : Nat} {F : Fun} (hc : CSound P f F) : DSound P (updD D f (wrD F)) := DS.upd (wrD_loc F) (wrD_calls hc)
end Go.AM


namespace Go.AM
open Go.RowKit
open Classical in
set_option linter.unusedVariables false
variable {P : Program} {μ μ' : Mu} {h h' : Hp} {w w' : World} {β : Type} {ks : List Nat} {np nt : Nat} {ds : List Deferred} {ρ : Option Nat}
def CSoundK (P : Program) (f : FuncId) (RK : {β : Type} → (AV → Hp → Option β) → List AV → Hp → Option β) : Prop := ∀ {β : Type} (K : AV → Hp → Option β) (args : List AV) (h : Hp) (res : β), RK K args h = some res → ∀ μ w (cargs : Array Value), Rel μ h w → VRs μ h args cargs.toList →
  Goes P f ∧ Calls P f cargs w fun e w' => ∃ v h' cv μ', K v h' = some res ∧ e = .returned cv ∧ Step μ h w μ' h' w' ∧ VR μ' h' v cv
theorem leavesK_sound (R0 : Rel μ h w) {h1 : Hp} {a : Act} {t : Tm} {fn : Func} {v : AV} {h' : Hp} (hx : outsK P t h1 fn.results.toList (fun vs => some (pack vs, h1)) = some (v, h')) {Q : Ending → World → Prop} (hQ : ∀ cv μ' w', Step μ h w μ' h' w' → VR μ' h' v cv → Q (.returned cv) w') : ∀ (rs : List Nat) (μ1 : Mu) (w1 : World), Step μ h w μ1 h1 w1 → rs.Nodup →
    (∀ r ∈ rs, w.heap.size ≤ r ∧ μ1.imm r ∧ μ1.base.heap[r]? = some (.deferred (some []))) → (∀ i, VR μ1 h1 (t i) (a.eval (.tmp i))) →
    LeavesInM (FW none) 0 P fn a.tmps Q (rs.map (fun r => { target := .collected r, args := #[] })) .returning w1
  | [], μ1, w1, S, _, _, hv => by
    obtain ⟨xs, u, e, r1, r2⟩ := results_sound S.rel hv hx
    simp only [Option.some.injEq, Prod.mk.injEq] at e
    obtain ⟨rfl, rfl⟩ := e
    exact ⟨u, r1, hQ u μ1 _ S r2⟩
  | r :: rs, μ1, w1, S, hn, hr, hv => by
    obtain ⟨p1, p2, p3⟩ := hr r (by simp)
    obtain ⟨q1, μ2, q2, q3, q4⟩ := Step.take (P := P) R0 S p1 p2 p3
    rw [List.nodup_cons] at hn
    refine ⟨by simp, .inl ⟨r, _, rfl, q1, ?_⟩⟩
    exact leavesK_sound R0 hx hQ rs μ2 _ q2 hn.2 (fun r' hr' => by
      obtain ⟨s1, s2, s3⟩ := hr r' (by simp [hr'])
      have hne : r' ≠ r := fun e => hn.1 (e ▸ hr')
      exact ⟨s1, (q4 r' hne s2).1, (q4 r' hne s2).2.trans s3⟩) fun i => q3 _ _ (hv i)
theorem runK_sound {T : Tab} {D : DTab} (TS : TSound P T) (DS : DSound P D) (hm : P.follows .mixedOrders = true) {f : FuncId} {fn : Func} (hf : P.funcs[f]? = some fn) (hok : fnOk ks np fn = true) (N : Nat) : CSoundK P f (fun {β} K args h => if args.length = np then runK P T D N ks fn K args h else none) := by
  intro β K args h res hk μ w cargs R hargs
  simp only [fnOk, Bool.and_eq_true, decide_eq_true_eq, Bool.not_eq_true'] at hok
  obtain ⟨⟨hnt, hname⟩, hc⟩ := hok
  cases hb : fn.body with
  | none => rw [hb] at hc; cases hc
  | some c =>
    rw [hb] at hc
    refine ⟨⟨fn, hf, hname, by rw [hb]; rfl⟩, ?_⟩
    dsimp only at hk
    split at hk <;> try (simp at hk; done)
    rename_i hlen
    unfold runK at hk
    rw [hb] at hk
    simp only at hk
    have hsz : cargs.size = np := by rw [← hlen, hargs.length]; simp
    have hfit : Fit ks np fn.ntmps [] μ h (tm0 args) { tmps := cargs ++ Array.replicate (fn.ntmps - cargs.size) undef, defers := [] } := by
      refine ⟨by simp; omega, rfl, fun i => ?_, fun i _ => rfl, fun i _ hi => ?_⟩
      · rw [look_nil, tm0_get]
        cases ha : args[i]? with
        | none => simp [VR]
        | some x =>
          obtain ⟨u, h1, h2⟩ := hargs.get i x ha
          have hlt : i < cargs.size := by
            rw [← Array.length_toList]; exact (List.getElem?_eq_some_iff.1 h1).1
          have : (Act.mk (cargs ++ Array.replicate (fn.ntmps - cargs.size) undef) []).eval (.tmp i) = u := by
            simp only [Act.eval, Array.getD_eq_getD_getElem?, Array.getElem?_append_left hlt]
            have : cargs[i]? = some u := by simpa using h1
            rw [this]; rfl
          rw [this]
          exact h2
      · rw [tm0_get, List.getElem?_eq_none (by omega)]; rfl
    refine callsIn_wide.1 (callsIn_of_wp_marks (n := 0) (F := FW none) hf hb trivial ?_)
    refine exec_sound (ρ := none) (b0 := w.heap.size) TS DS hm c hc (.inl rfl) [] _ _ _ _ _ _ _ _ hk hfit ⟨[], rfl, List.nodup_nil, fun r hr => by cases hr⟩ (Nat.le_refl _) R ?_
    intro e t' h1 a' w' μ' ds' q1 q2 qm q3
    have key : outsK P t' h1 fn.results.toList (fun vs => K (pack vs) h1) = some res → LeavesInM (FW none) 0 P fn a'.tmps (fun e w' => ∃ v h' cv μ', K v h' = some res ∧ e = .returned cv ∧ Step μ h w μ' h' w' ∧ VR μ' h' v cv) a'.defers .returning w' := by
      intro hx
      obtain ⟨rs, m1, m2, m3⟩ := qm
      rw [outsK_eq] at hx
      obtain ⟨vs, hvs, hKv⟩ := Option.bind_eq_some_iff.1 hx
      have hx2 : outsK P t' h1 fn.results.toList (fun vs => some (pack vs, h1)) = some (pack vs, h1) := by rw [outsK_eq, hvs]; rfl
      rw [q2.defers, m1]
      exact leavesK_sound R hx2 (fun cv μ' w' s1 s2 => ⟨_, _, cv, μ', hKv, rfl, s1, s2⟩) rs μ' w' q3 m2 m3 q2.val
    cases e with
    | normal => exact key q1
    | exit i => simp [finK, Ex.on] at q1
    | ret => exact key q1
noncomputable def closedXK (shp shr : List Sh) (RK : {β : Type} → (AV → Hp → Option β) → List AV → Hp → Option β) : Fun := fun args h =>
  match cvts false h args with
  | some asl => match RK (fun v g => cvt (!plains args) g v) (nrms shp asl) [] with
    | some v' => some (nrmR shr v', h)
    | none => none
  | none => none
theorem closedXK_sound {f : FuncId} {RK : {β : Type} → (AV → Hp → Option β) → List AV → Hp → Option β} (shp shr : List Sh) (hc : CSoundK P f RK) : CSound P f (closedXK shp shr RK) := by
  intro args h v h' hk μ w cargs R hargs
  unfold closedXK at hk
  split at hk <;> try (simp at hk; done)
  rename_i asl hcv
  split at hk <;> try (simp at hk; done)
  rename_i u' hF
  simp only [Option.some.injEq, Prod.mk.injEq] at hk
  obtain ⟨rfl, rfl⟩ := hk
  cases hpl : plains args with
  | true =>
    rw [cvts_plain hpl] at hcv
    injection hcv with hcv
    subst hcv
    have R1 : Rel μ [] w := Rel.nil fun k hk => ⟨(R.imm k hk).1, (R.imm k hk).2.1⟩
    obtain ⟨hg, hcall⟩ := hc _ _ _ _ hF μ w cargs R1 (nrms_VRs shp (plain_VRs (ImmLe.refl _) hpl hargs))
    refine ⟨hg, Calls.mono hcall ?_⟩
    rintro e w' ⟨u, g, cv, μ2, hu, rfl, S, hv⟩
    rw [hpl] at hu
    have hnew : ∀ k, Own μ2 g k → w.heap.size ≤ k := fun k hk => (S.own k hk).elim (fun q => (Own.nil q).elim) id
    have him : ∀ k, μ2.imm k → μ.imm k ∨ w.heap.size ≤ k := fun k hk => (S.fresh k hk).elim .inl fun q => q.elim (fun q => (Own.nil q).elim) .inr
    obtain ⟨ξ, hξ⟩ : ∃ ξ : Mu, ξ = { loc := μ.loc, base := w', imm := fun k => μ2.imm k ∨ Own μ2 g k } := ⟨_, rfl⟩
    have hle : ImmLe μ ξ := fun k hk => by
      subst hξ
      refine ⟨.inl (S.evo.imm k hk).1, ?_⟩
      exact ((S.rel.imm k (S.evo.imm k hk).1).2.1).trans (S.evo.imm k hk).2
    obtain ⟨r1, r2, r3⟩ := Rel.over (g := g) R S.frame (ξ := ξ) (by rw [hξ]) hle (fun k hk => by
      subst hξ
      rcases hk with hk | hk
      · exact ⟨(S.rel.imm k hk).1, rfl, fun hO => by
          have := R.own_lt hO
          rcases him k hk with q | q
          · exact (R.imm k q).2.2 hO
          · omega⟩
      · exact ⟨S.rel.own_lt hk, rfl, fun hO => by have := R.own_lt hO; have := hnew k hk; omega⟩)
    have hfin := cvt_sound (ν := ξ) S.rel (fun k hk => by subst hξ; rfl) (fun k hk => by subst hξ; exact .inr hk) (fun _ k hk => by subst hξ; exact .inl hk) hv hu
    refine ⟨cv, ξ, rfl, ⟨r1, r2, r3, fun b hb => .inl ?_, fun k hk => ?_⟩, nrmR_VR (VR.lift h hfin)⟩
    · subst hξ; exact hb
    · subst hξ
      rcases hk with hk | hk
      · exact (him k hk).elim .inl fun q => .inr (.inr q)
      · exact .inr (.inr (hnew k hk))
  | false =>
    obtain ⟨μ1, hμ1⟩ : ∃ μ1 : Mu, μ1 = { loc := μ.loc, base := w, imm := fun k => μ.imm k ∨ Own μ h k } := ⟨_, rfl⟩
    have R1 : Rel μ1 [] w := Rel.nil fun k hk => by
      subst hμ1
      rcases hk with hk | hk
      · exact ⟨(R.imm k hk).1, rfl⟩
      · exact ⟨R.own_lt hk, rfl⟩
    have hargs1 : VRs μ1 [] asl cargs.toList := cvts_sound R (fun k hk => by subst hμ1; rfl) (fun k hk => by subst hμ1; exact .inr hk) (fun _ k hk => by subst hμ1; exact .inl hk) hargs hcv
    obtain ⟨hg, hcall⟩ := hc _ _ _ _ hF μ1 w cargs R1 (nrms_VRs shp hargs1)
    refine ⟨hg, Calls.mono hcall ?_⟩
    rintro e w' ⟨u, g, cv, μ2, hu, rfl, S, hv⟩
    rw [hpl] at hu
    have hnew : ∀ k, Own μ2 g k → w.heap.size ≤ k := fun k hk => (S.own k hk).elim (fun q => (Own.nil q).elim) id
    have hbl : ∀ k, k < w.heap.size → w'.heap[k]? = w.heap[k]? := fun k hk => S.frame.block k hk Own.nil
    obtain ⟨ξ, hξ⟩ : ∃ ξ : Mu, ξ = { loc := μ.loc, base := w', imm := fun k => μ.imm k ∨ Own μ2 g k } := ⟨_, rfl⟩
    have hle : ImmLe μ ξ := fun k hk => by
      subst hξ
      exact ⟨.inl hk, (hbl k (R.imm k hk).1).trans (R.imm k hk).2.1⟩
    obtain ⟨r1, r2, r3⟩ := Rel.over (g := g) R S.frame (ξ := ξ) (by rw [hξ]) hle (fun k hk => by
      subst hξ
      rcases hk with hk | hk
      · exact ⟨Nat.lt_of_lt_of_le (R.imm k hk).1 S.frame.size, rfl, (R.imm k hk).2.2⟩
      · exact ⟨S.rel.own_lt hk, rfl, fun hO => by have := R.own_lt hO; have := hnew k hk; omega⟩)
    have hfin := cvt_sound (ν := ξ) S.rel (fun k hk => by subst hξ; rfl) (fun k hk => by subst hξ; exact .inr hk) (fun hst => by simp at hst) hv hu
    refine ⟨cv, ξ, rfl, ⟨r1, r2, r3, fun b hb => .inl ?_, fun k hk => ?_⟩, nrmR_VR (VR.lift h hfin)⟩
    · subst hξ; exact hb
    · subst hξ
      rcases hk with hk | hk
      · exact .inl hk
      · exact .inr (.inr (hnew k hk))

theorem closedXK_val {shp shr : List Sh} {RK : {β : Type} → (AV → Hp → Option β) → List AV → Hp → Option β} {args : List AV} {v : AV} (ha : plains args = true) (hv : RK (fun v g => cvt false g v) (nrms shp args) [] = some v) (h : Hp) : closedXK shp shr RK args h = some (nrmR shr v, h) := by
  unfold closedXK
  rw [cvts_plain ha]
  simp only [ha, Bool.not_true]
  rw [hv]
end Go.AM


namespace Go.AM
open Go.RowKit
set_option linter.unusedVariables false
set_option linter.unusedSimpArgs false
variable {P : Program} {μ μ' : Mu} {h h' : Hp} {w w' : World}
structure InsWalk (P : Program) (f : FuncId) (k by_ : Nat) (t el : TypeId) : Prop where
  goes : Goes P f
  ht : P.underlying t = some (.slice el)
  hs : szOf P el = some k
  hb : bytesOf P el = some by_
  hz : ∃ z, zeroAV P el = some z ∧ (cellsOf z).length = k ∧ (cellsOf z).all okC = true
  big : ∀ m, m * by_ ≤ 140737488355328 → m ≤ maxLen
  shift : ∀ (b n c i vb m vc : Nat) (cur : Array Value) (T : TypeId) (vs : List Value) (w : World), i < n → 0 < m → n + m ≤ c → c ≤ 9223372036854775807 → vb ≠ b → w.heap[b]? = some (.cells cur T (0, 0)) → c * k ≤ cur.size → (∀ v ∈ cur.toList.take (n * k), v.oneCell' = true) →
    vs.length = m * k → (∀ j v, vs[j]? = some v → w.cell? ⟨vb, j, none⟩ = some v) → (∀ v ∈ vs, v.oneCell' = true) → ∀ (tA tB : TypeId) (kA kB : Nat), w.shape? vb = some (tA, kA) → w.shape? b = some (tB, kB) → kB ≠ 0 → w.frozen? ⟨vb, 0, none⟩ = false → w.frozen? ⟨vb, kA, none⟩ = false →
    Calls P f #[.slice (some ⟨b, 0, none⟩) n c, .int .i64 i, .slice (some ⟨vb, 0, none⟩) m vc] w fun e w' =>
      e = .returned (.slice (some ⟨b, 0, none⟩) (n + m) c) ∧ w' = w.drew.setRow b (cur.toList.take (i * k) ++ vs ++ (cur.toList.drop (i * k)).take ((n - i) * k) ++ cur.toList.drop ((n + m) * k)).toArray
  grow : ∀ (b n c i vb m vc : Nat) (cur : Array Value) (T : TypeId) (vs : List Value) (w : World), i < n → 0 < m → n ≤ c → c < n + m → (n + m) * by_ ≤ 140737488355328 → w.heap[b]? = some (.cells cur T (0, 0)) → n * k ≤ cur.size → (∀ v ∈ cur.toList.take (n * k), v.oneCell' = true) →
    vs.length = m * k → (∀ j v, vs[j]? = some v → w.cell? ⟨vb, j, none⟩ = some v) → (∀ v ∈ vs, v.oneCell' = true) →
    Calls P f #[.slice (some ⟨b, 0, none⟩) n c, .int .i64 i, .slice (some ⟨vb, 0, none⟩) m vc] w fun e w' =>
      ∃ (G : Nat) (R : Array Value), n + m ≤ G ∧ G ≤ maxLen ∧ R.size = G * k ∧ R.toList.take ((n + m) * k) = cur.toList.take (i * k) ++ vs ++ (cur.toList.drop (i * k)).take ((n - i) * k) ∧ e = .returned (.slice (some ⟨w.heap.size, 0, none⟩) (n + m) G) ∧ w' = w.drew.drew.alloc (.cells R el)
  fin : ∀ (A B : Option Addr) (n c m vc : Nat) (u : Value) (w W' : World), 0 < m → n ≤ c → (A = none → c = 0) → (∀ ty, (Builtin.append_ #[t, t] ty #[.slice A n c, .slice B m vc]).run P w = .ok u W') →
    Calls P f #[.slice A n c, .int .i64 n, .slice B m vc] w fun e w' => e = .returned u ∧ w' = W'
def insF (k by_ : Nat) : Fun := fun args h =>
  match args with
  | [s, .s (.int .i64 i), .sl sx idx off m fr full] =>
    match readSl h (.sl sx idx off m fr full), h[idx]? with
    | some news, some (.arr _ _ true _) =>
      if news.length = m ∧ 0 < m ∧ news.all (fun e => e.length == k) = true ∧ off = 0 then
        match s with
        | .s (.slice none 0 0) => if i = 0 ∧ m * by_ ≤ 140737488355328 then some (.sl k h.length 0 m m false, h ++ [.arr k news true false]) else none
        | .sl sz id soff len sfr sfull =>
          match h[id]? with
          | some (.arr sz' es own nil) =>
            if sz = k ∧ sz' = k ∧ soff = 0 ∧ own = true ∧ sfull = false ∧ len = sfr ∧ es.length = len ∧ id ≠ idx ∧ (len + m) * by_ ≤ 140737488355328 ∧ 0 ≤ i ∧ i ≤ len then
              some (.sl k id 0 (len + m) (len + m) false, h.set id (.arr k (es.take i.toNat ++ news ++ es.drop i.toNat) true false))
            else none
          | _ => none
        | _ => none
      else none
    | _, _ => none
  | _ => none
theorem readSl_app {sx idx off m fr : Nat} {full : Bool} {news : List (List AV)} {l : List AObj} (hk : readSl h (.sl sx idx off m fr full) = some news) : readSl (h ++ l) (.sl sx idx off m fr full) = some news := by
  unfold readSl at hk ⊢
  dsimp only at hk ⊢
  split at hk <;> try (simp at hk; done)
  rename_i ho
  rw [List.getElem?_append_left (List.getElem?_eq_some_iff.1 ho).1, ho]
  exact hk
theorem flat_take {k : Nat} {es : List (List AV)} (hS : Sized k es) (i : Nat) (hi : i ≤ es.length) : (es.take i).flatten = es.flatten.take (i * k) ∧ (es.drop i).flatten = es.flatten.drop (i * k) := by
  have q1 : Sized k (es.take i) := fun e he => hS e (List.mem_of_mem_take he)
  have q2 := flat_length q1
  have q3 : (es.take i).length = i := by simp; omega
  rw [q3] at q2
  have q4 : es.flatten = (es.take i).flatten ++ (es.drop i).flatten := by rw [← List.flatten_append, List.take_append_drop]
  constructor
  · rw [q4, ← q2, List.take_left]
  · rw [q4, ← q2, List.drop_left]
theorem insF_sound {f : FuncId} {n0 by_ : Nat} {t el : TypeId} (W : InsWalk P f (n0 + 1) by_ t el) : CSound P f (insF (n0 + 1) by_) := by
  intro args h v h' hk μ w cargs R hargs
  refine ⟨W.goes, ?_⟩
  unfold insF at hk
  split at hk <;> try (simp at hk; done)
  rename_i s i sx idx off m fr full
  split at hk <;> try (simp at hk; done)
  rename_i news szx esx nilx hread hox
  split at hk <;> try (simp at hk; done)
  rename_i hcond
  obtain ⟨hnl, hm0, hall, rfl⟩ := hcond
  simp only [VRs] at hargs
  obtain ⟨v1, vs1, hq1, hv1, v2, vs2, rfl, hv2, v3, vs3, rfl, hv3, rfl⟩ := hargs
  have hcargs : cargs = #[v1, v2, v3] := by apply Array.ext'; simpa using hq1
  subst hcargs
  have e2 : v2 = .int .i64 i := by simp only [VR] at hv2; exact hv2.2
  subst e2
  have hRd := read_sound (P := P) R hv3 hread hall
  have hS := hRd.sized
  obtain ⟨A3, c3, rfl, hcell⟩ := hRd.val
  have hne : news ≠ [] := by intro e; rw [e] at hnl; simp at hnl; omega
  obtain ⟨ad, vs, rfl, hvs, hvl, hone, hat⟩ := hcell hne
  rw [hnl] at hvl
  have hv3' := hv3
  simp only [VR] at hv3'
  obtain ⟨A', c', hsl', hlc', -, -, es', own', nil', ho', -, hq'⟩ := hv3'
  rw [hox] at ho'
  injection ho' with ho'
  injection ho' with e1 e2 e3 e4
  subst e1 e2 e3 e4
  injection hsl' with e5 e6 e7
  subst e5 e7
  -- where the new elements lie
  have hx : ∃ (vb cap : Nat) (cur : Array Value) (T : TypeId), μ idx = .real vb 0 cap ∧ ad = ⟨vb, 0, none⟩ ∧ w.heap[vb]? = some (.cells cur T (0, 0)) := by
    have hread' := hread
    unfold readSl at hread'
    simp only [hox] at hread'
    split at hread' <;> try (simp at hread'; done)
    rename_i hc
    have hsl := hq' hc.1.symm
    unfold SlOk at hsl
    split at hsl
    · rename_i blk o cap hmu
      obtain ⟨a, ha, hcap, hne'⟩ := hsl
      obtain ⟨cur, T, hbk, hcur, rfl, -⟩ := ORel.own_flat (R.obj _ _ hox) hmu
      have := hne' (by omega)
      injection ha with ha
      subst ha
      exact ⟨blk, cap, cur, T, hmu, by simpa using this, hbk⟩
    · obtain ⟨-, hc0, -⟩ := hsl
      omega
  obtain ⟨vb, capx, curx, Tx, hmux, rfl, hbx⟩ := hx
  have hat' : ∀ j u, vs[j]? = some u → w.cell? ⟨vb, j, none⟩ = some u := fun j u hu => by
    have := hat j u hu
    rwa [Addr.add_lit, Nat.zero_add] at this
  obtain ⟨z, hz1, hz2, hz3⟩ := W.hz
  split at hk
  · -- into nil
    split at hk <;> try (simp at hk; done)
    rename_i hcc
    obtain ⟨rfl, hbig⟩ := hcc
    simp only [Option.some.injEq, Prod.mk.injEq] at hk
    obtain ⟨rfl, rfl⟩ := hk
    have e1 : v1 = .slice none 0 0 := by simp only [VR] at hv1; exact hv1.2
    subst e1
    have S0 := Step.pad R 1
    have hap : appE (n0 + 1) by_ (.s (.slice none 0 0)) (.sl szx idx 0 m fr full) (h ++ List.replicate 1 .dead) h.length = some (.sl (n0 + 1) h.length 0 m m false, ⟨[], [.arr (n0 + 1) news true false], idsOf (.sl szx idx 0 m fr full)⟩) := by
      unfold appE
      rw [readSl_app hread]
      simp only [hnl]
      rw [if_neg (by omega), if_pos ⟨hbig, hall⟩]
    obtain ⟨w2, u, μ2, hrun, S2, hu⟩ := app_sound (ty := t) S0.rel W.ht W.hs W.hb hz1 hz2 hz3 W.big (VR.evo S0.evo _ _ hv1) (VR.evo S0.evo _ _ hv3) hap (fun _ => by simp)
    have hrun' : ∀ ty, (Builtin.append_ #[t, t] ty #[.slice none 0 0, .slice (some ⟨vb, 0, none⟩) news.length c3]).run P w = .ok u w2 := fun ty => by
      obtain ⟨w2', u', μ2', hr', -⟩ := app_sound (ty := ty) S0.rel W.ht W.hs W.hb hz1 hz2 hz3 W.big (VR.evo S0.evo _ _ hv1) (VR.evo S0.evo _ _ hv3) hap (fun _ => by simp)
      have : (Builtin.append_ #[t, t] ty #[.slice none 0 0, .slice (some ⟨vb, 0, none⟩) news.length c3]).run P w = (Builtin.append_ #[t, t] t #[.slice none 0 0, .slice (some ⟨vb, 0, none⟩) news.length c3]).run P w := rfl
      rw [this]; exact hrun
    have key := W.fin none (some ⟨vb, 0, none⟩) 0 0 news.length c3 u w w2 (by omega) (Nat.le_refl _) (fun _ => rfl) hrun'
    refine key.mono ?_
    rintro e w' ⟨rfl, rfl⟩
    have ea := apAt_pad (h := h) (e := ⟨[], [.arr (n0 + 1) news true false], idsOf (.sl szx idx 0 m fr full)⟩) (by simp) 0
    simp only [List.length_singleton, Nat.add_zero, List.replicate_zero, List.append_nil] at ea
    rw [ea] at S2 hu
    have e9 : ap h ⟨[], [.arr (n0 + 1) news true false], idsOf (.sl szx idx 0 m fr full)⟩ = h ++ [.arr (n0 + 1) news true false] := rfl
    rw [e9] at S2 hu
    exact ⟨u, μ2, rfl, S0.trans S2, hu⟩
  · rename_i sz id soff len sfr sfull
    split at hk <;> try (simp at hk; done)
    rename_i sz' es own nil ho
    split at hk <;> try (simp at hk; done)
    rename_i hcc
    obtain ⟨rfl, rfl, rfl, rfl, rfl, rfl, hel, hid, hbig, hi0, hin⟩ := hcc
    simp only [Option.some.injEq, Prod.mk.injEq] at hk
    obtain ⟨rfl, rfl⟩ := hk
    obtain ⟨j, rfl⟩ : ∃ j : Nat, i = (j : Int) := ⟨i.toNat, by omega⟩
    have hjn : j ≤ len := by omega
    rw [Int.toNat_natCast]
    have hlt : id < h.length := (List.getElem?_eq_some_iff.1 ho).1
    have hv1' := hv1
    simp only [VR] at hv1'
    obtain ⟨A0, c0, rfl, hlc, hA0, hfull, es2, own2, nil2, ho2, -, hq⟩ := hv1'
    rw [ho] at ho2
    injection ho2 with ho2
    injection ho2 with e1 e2 e3 e4
    subst e2 e3 e4
    have hsl := hq hel.symm
    have hO := R.obj _ _ ho
    have hSe := hO.1
    have hlen' : (es.take j ++ news ++ es.drop j).length = len + m := by simp; omega
    rcases Nat.lt_or_ge j len with hj | hj
    · -- ahead of an element
      unfold SlOk at hsl
      split at hsl
      · rename_i blk o cap hmu
        obtain ⟨a', rfl, hcap, hne'⟩ := hsl
        obtain ⟨cur, T, hbk, hcur, rfl, hlec, hcapm, h1, hr⟩ := ORel.own_flat hO hmu
        have ha' := hne' (by omega)
        rw [Nat.zero_mul, Nat.add_zero] at ha'
        subst ha'
        rw [Nat.zero_add] at hcap
        have hvb : vb ≠ blk := fun e => hid (R.sep id idx _ _ blk 0 cap 0 capx ho hox rfl rfl hmu (by rw [hmux, e]))
        have hcm : c0 * (n0 + 1) ≤ cur.size := by rw [hcur]; exact Nat.mul_le_mul_right _ hcap
        have hnm : len * (n0 + 1) ≤ cur.size := Nat.le_trans (Nat.mul_le_mul_right _ hlc) hcm
        rw [hel] at h1 hr
        -- the cells of the elements
        have hflat : VRs μ h (es.take j ++ news ++ es.drop j).flatten (cur.toList.take (j * (n0 + 1)) ++ vs ++ (cur.toList.drop (j * (n0 + 1))).take ((len - j) * (n0 + 1))) := by
          obtain ⟨f1, f2⟩ := flat_take hSe j (by omega)
          rw [List.flatten_append, List.flatten_append, f1, f2]
          have m1 : j * (n0 + 1) ≤ len * (n0 + 1) := Nat.mul_le_mul_right _ hjn
          have t1 := VRs.take (j * (n0 + 1)) hr
          have t2 := VRs.drop (j * (n0 + 1)) hr
          rw [List.take_take, Nat.min_eq_left m1] at t1
          rw [List.drop_take, ← Nat.sub_mul] at t2
          exact VRs.append (VRs.append t1 hvs) t2
        have hone' : ∀ v ∈ cur.toList.take (j * (n0 + 1)) ++ vs ++ (cur.toList.drop (j * (n0 + 1))).take ((len - j) * (n0 + 1)), v.oneCell' = true := fun v hv => by
          have m1 : j * (n0 + 1) ≤ len * (n0 + 1) := Nat.mul_le_mul_right _ hjn
          rcases List.mem_append.1 hv with hv | hv
          · rcases List.mem_append.1 hv with hv | hv
            · refine h1 v ?_
              rw [← Nat.min_eq_left m1, ← List.take_take] at hv
              exact List.mem_of_mem_take hv
            · exact hone v hv
          · refine h1 v ?_
            rw [Nat.sub_mul, ← List.drop_take] at hv
            exact List.mem_of_mem_drop hv
        have hSall : Sized (n0 + 1) (es.take j ++ news ++ es.drop j) := Sized.append (Sized.append (fun e he => hSe e (List.mem_of_mem_take he)) hS) (fun e he => hSe e (List.mem_of_mem_drop he))
        have hml : len + m ≤ maxLen := W.big _ hbig
        by_cases hroom : len + m ≤ c0
        · have hmm : (len + m) * (n0 + 1) ≤ cur.size := Nat.le_trans (Nat.mul_le_mul_right _ hroom) hcm
          have key := W.shift blk len c0 j vb m c3 cur T vs w hj hm0 hroom (by unfold maxLen at hcapm; omega) hvb hbk hcm h1 hvl hat' hone Tx T curx.size cur.size (by simp [World.shape?, hbx]) (by simp [World.shape?, hbk]) (by
            have : 0 < len * (n0 + 1) := Nat.mul_pos (by omega) (by omega)
            omega) (by simp [World.frozen?, hbx]) (by simp [World.frozen?, hbx])
          rw [← hnl] at key
          refine key.mono ?_
          rintro e w' ⟨rfl, rfl⟩
          obtain ⟨row, hrow⟩ : ∃ row : Array Value, row = (cur.toList.take (j * (n0 + 1)) ++ vs ++ (cur.toList.drop (j * (n0 + 1))).take ((len - j) * (n0 + 1)) ++ cur.toList.drop ((len + m) * (n0 + 1))).toArray := ⟨_, rfl⟩
          rw [hnl, ← hrow]
          have hl3 : (cur.toList.take (j * (n0 + 1)) ++ vs ++ (cur.toList.drop (j * (n0 + 1))).take ((len - j) * (n0 + 1))).length = (len + m) * (n0 + 1) := by
            rw [← hflat.length, flat_length hSall, hlen']
          have htk : row.toList.take ((es.take j ++ news ++ es.drop j).length * (n0 + 1)) = cur.toList.take (j * (n0 + 1)) ++ vs ++ (cur.toList.drop (j * (n0 + 1))).take ((len - j) * (n0 + 1)) := by
            rw [hlen', hrow, ← hl3]
            exact List.take_left
          have hrs : row.size = cur.size := by
            rw [hrow, List.size_toArray, List.length_append, hl3, List.length_drop, Array.length_toList]
            omega
          have S1 := Step.drew R
          have hbk1 : w.drew.heap[blk]? = some (.cells cur T (0, 0)) := hbk
          have hset : (w.drew.setRow blk row).heap[blk]? = some (.cells row T (0, 0)) := setRow_heap w.drew blk cur row T (0, 0) hbk1
          refine ⟨_, μ.set id (μ id), rfl, S1.trans (Step.upd S1.rel (loc := μ id) ho ⟨_, false, rfl, by rw [hlen']; omega, fun _ => rfl⟩ ?_ ?_ rfl ?_), ?_⟩
          · exact ⟨rfl, rfl, rfl, Nat.le_refl _, by simp, fun k _ hk => setRow_other w.drew blk k _ (fun e => hk ⟨rfl, 0, cap, by rw [e]; exact hmu⟩)⟩
          · intro b x c e
            exact .inr ⟨rfl, x, c, e⟩
          · intro hE
            refine ORel.own_arr (cur := row) (T := T) (cap := cap) (blk := blk) (by simp [hmu]) hSall (by rw [hlen']; omega) hcapm hset (by rw [hrs]; exact hcur) ?_ ?_
            · rw [htk]; exact hone'
            · rw [htk]; exact VRs.evo hE _ _ hflat
          · simp only [VR]
            refine ⟨_, _, rfl, by omega, fun _ => rfl, .room (by omega), _, true, false, by simp [hlt]; rfl, by rw [← List.append_assoc, hlen']; exact Nat.le_refl _, fun _ => ?_⟩
            simp only [Mu.set_loc, if_true, hmu, SlOk]
            exact ⟨_, rfl, by omega, fun _ => by simp⟩
        · have key := W.grow blk len c0 j vb m c3 cur T vs w hj hm0 hlc (by omega) hbig hbk hnm h1 hvl hat' hone
          rw [← hnl] at key
          refine key.mono ?_
          rintro e w' ⟨G, row, hG1, hG2, hG3, hG4, rfl, rfl⟩
          rw [hnl] at hG1 hG4 ⊢
          have htk : row.toList.take ((es.take j ++ news ++ es.drop j).length * (n0 + 1)) = cur.toList.take (j * (n0 + 1)) ++ vs ++ (cur.toList.drop (j * (n0 + 1))).take ((len - j) * (n0 + 1)) := by
            rw [hlen']; exact hG4
          have S1 := (Step.drew R).trans (Step.drew (Step.drew R).rel)
          refine ⟨_, μ.set id (.real w.heap.size 0 G), rfl, S1.trans (Step.upd S1.rel (loc := .real w.heap.size 0 G) ho ⟨_, false, rfl, by rw [hlen']; omega, fun h => by rw [hlen'] at h; omega⟩ (Frame.alloc _ _ _) ?_ rfl ?_), ?_⟩
          · intro b x c e; injection e with e1 e2 e3; subst e1; exact .inl (Nat.le_refl _)
          · intro hE
            refine ORel.own_arr (cur := row) (T := el) (cap := G) (blk := w.heap.size) (by simp) hSall (by rw [hlen']; exact hG1) hG2 (heap_alloc_new w.drew.drew _) hG3 ?_ ?_
            · rw [htk]; exact hone'
            · rw [htk]; exact VRs.evo hE _ _ hflat
          · simp only [VR]
            refine ⟨_, _, rfl, hG1, fun _ => rfl, .room (by omega), _, true, false, by simp [hlt]; rfl, by rw [← List.append_assoc, hlen']; exact Nat.le_refl _, fun _ => ?_⟩
            simp only [Mu.set_loc, if_true, SlOk]
            exact ⟨_, rfl, by omega, fun _ => by simp⟩
      · obtain ⟨-, hc0, -⟩ := hsl
        omega
    · -- behind all
      have hjl : j = len := by omega
      subst hjl
      have hap : appE (n0 + 1) by_ (.sl (n0 + 1) id 0 j j false) (.sl szx idx 0 m fr full) h h.length = some (.sl (n0 + 1) id 0 (j + m) (j + m) false, ⟨[(id, .arr (n0 + 1) (es ++ news) true false)], [], id :: idsOf (.sl szx idx 0 m fr full)⟩) := by
        unfold appE
        rw [hread]
        simp only [ho, hnl]
        rw [if_pos (by simpa using ⟨hel, hbig, by simpa using hall⟩), if_neg (by simp), if_pos (by simp)]
        have : (m == 0) = false := by simp; omega
        rw [this, Bool.and_false]
      obtain ⟨w2, u, μ2, hrun, S2, hu⟩ := app_sound (ty := t) R W.ht W.hs W.hb hz1 hz2 hz3 W.big hv1 hv3 hap (fun h => absurd rfl h)
      have hrun' : ∀ ty, (Builtin.append_ #[t, t] ty #[.slice A0 j c0, .slice (some ⟨vb, 0, none⟩) news.length c3]).run P w = .ok u w2 := fun ty => by
        have : (Builtin.append_ #[t, t] ty #[.slice A0 j c0, .slice (some ⟨vb, 0, none⟩) news.length c3]).run P w = (Builtin.append_ #[t, t] t #[.slice A0 j c0, .slice (some ⟨vb, 0, none⟩) news.length c3]).run P w := rfl
        rw [this]; exact hrun
      have key := W.fin A0 (some ⟨vb, 0, none⟩) j c0 news.length c3 u w w2 (by omega) hlc (fun e => by
        rcases Nat.eq_zero_or_pos c0 with h0 | h0
        · exact h0
        · have := hA0 h0; rw [e] at this; cases this) hrun'
      refine key.mono ?_
      rintro e w' ⟨rfl, rfl⟩
      have ea : apAt h h.length ⟨[(id, .arr (n0 + 1) (es ++ news) true false)], [], id :: idsOf (.sl szx idx 0 m fr full)⟩ = h.set id (.arr (n0 + 1) (es.take j ++ news ++ es.drop j) true false) := by
        rw [List.take_of_length_le (by omega), List.drop_of_length_le (by omega), List.append_nil]
        rfl
      rw [ea] at S2 hu
      exact ⟨u, μ2, rfl, S2, hu⟩
  · simp at hk
theorem insF_at {α : Type} {f : α → List AV} {k by_ id idx : Nat} {full nil : Bool} {W : List α} {x : α} {h : Hp} {nilx : Bool} {i : Nat} (hid : h[id]? = some (.arr k (W.map f) true nil)) (hx : h[idx]? = some (.arr k [f x] true nilx)) (hne : id ≠ idx) (hf : ∀ x, (f x).length = k) (hi : i ≤ W.length) (hb : (W.length + 1) * by_ ≤ 140737488355328) :
    insF k by_ [.sl k id 0 W.length W.length false, .s (.int .i64 (i : Int)), .sl k idx 0 1 1 full] h = some (.sl k id 0 (W.length + 1) (W.length + 1) false, h.set id (.arr k ((W.take i ++ [x] ++ W.drop i).map f) true false)) := by
  have hr : readSl h (.sl k idx 0 1 1 full) = some [f x] := by
    unfold readSl
    simp [hx]
  unfold insF
  simp only [hr, hx]
  rw [if_pos (by simp [hf])]
  simp only [hid, List.length_map]
  rw [if_pos ⟨trivial, trivial, trivial, trivial, trivial, trivial, trivial, hne, hb, by omega, by omega⟩]
  rw [Int.toNat_natCast, List.map_append, List.map_append, List.map_take, List.map_drop]
  rfl
end Go.AM


namespace Go.AM
open Go.RowKit Go.Lib
set_option linter.unusedVariables false
set_option linter.unusedSimpArgs false
section
variable {P : Program}
theorem wpList_copyI (w : World) {ops : Array Oper} {rest : List Oper} {o : Oper} {a : Act} {Q : Exit → Act → World → Prop} (hgd : o.guard = none) (d s : Operand) (t t' : TypeId)
    (ho : o.op = .call { callee := .builtin .copy, args := #[d, s], argTypes := #[t, t'] }) (v u : Value) (hd : a.eval d = v) (hs : a.eval s = u) {v' : Value} {w' : World}
    (hr : (Builtin.copy_ #[t, t'] o.type #[v, u]).run P w = .ok v' w') (h : wpList P ops Q rest (a.put o.dst v') w') : wpList P ops Q (o :: rest) a w :=
  wpList_plain hgd fun _ hK => by
    unfold Oper.wp execOp
    simp only [ho, resolve, invoke, builtin, Sem.run_bind, Sem.run_pure, Result.andThen_ok, List.map_toArray, List.map_cons, List.map_nil, hd, hs, hr]
    exact hK _ _ h
theorem step_copyI {ops : Array Oper} {o : Oper} {a : Act} {w : World} {K : Act → World → Prop} {Q : Exit → Act → World → Prop} {E : Prop}
    (hg : o.guard = none) (d x : Operand) (dT sT : TypeId) (hop : o.op = Op.call { callee := Callee.builtin Builtin.copy, args := #[d, x], argTypes := #[dT, sT] })
    (v u : Value) (hd : a.eval d = v) (hx : a.eval x = u) {v' : Value} {w' : World} (hr : (Builtin.copy_ #[dT, sT] o.type #[v, u]).run P w = .ok v' w') (hK : K (a.put o.dst v') w') :
    if Region.wanted o (yielded ops a.tmps) = true then Oper.wp P o a w K Q else E := by
  have hw : Region.wanted o (yielded ops a.tmps) = true := by simp [Region.wanted, hg]
  rw [if_pos hw]
  unfold Oper.wp
  simp [execOp, hop, resolve, invoke, builtin, hd, hx, hr, Result.andThen]
  exact hK
theorem run_copyK (w : World) (dT sT ty elem : TypeId) (k g o dLen dCap : Nat) (a : Addr) (sLen sCap : Nat) (cur : Array Value) (t : TypeId) (cs : List Value)
    (hu : P.underlying dT = some (.slice elem)) (hs : (P.info? elem).map (·.size) = some k)
    (hg : w.heap[g]? = some (.cells cur t (0, 0))) {n : Nat} (hn : Nat.min sLen dLen = n) (hl : cs.length = n * k)
    (hsrc : ∀ j v, cs[j]? = some v → w.cell? (a.add j) = some v) (hfit : o + cs.length ≤ cur.size) (h1 : ∀ v ∈ cs, v.oneCell' = true) :
    (Builtin.copy_ #[dT, sT] ty #[.slice (some ⟨g, o, none⟩) dLen dCap, .slice (some a) sLen sCap]).run P w =
      .ok (goInt n) (w.setRow g (cur.toList.take o ++ cs ++ cur.toList.drop (o + cs.length)).toArray) := by
  have hl' := run_loadCells_list (P := P) w a cs hsrc
  rw [hl] at hl'
  have hst := run_storeCells_at P g o t cs 0 cur w hg (by simpa using hfit) h1
  cases hq : P.info? elem with
  | none => simp [hq] at hs
  | some i =>
    have hi : i.size = k := by simpa [hq] using hs
    simp [Builtin.copy_, run_underlying hu, Builtin.lenOf, Builtin.firstCells, sizeOf, typeInfo, hq, hi, hn, hl', hst]
end
theorem ins_row {k i n m : Nat} {l cs vs : List Value} (hcl : cs.length = (n - i) * k) (hl : (n + m) * k ≤ l.length) (hin : i ≤ n) :
    (l.take ((i + m) * k) ++ cs ++ l.drop ((i + m) * k + (n - i) * k)).take (i * k) ++ vs ++ (l.take ((i + m) * k) ++ cs ++ l.drop ((i + m) * k + (n - i) * k)).drop (i * k + m * k) = l.take (i * k) ++ vs ++ cs ++ l.drop ((n + m) * k) := by
  have e1 : (i + m) * k = i * k + m * k := Nat.add_mul ..
  have e2 : (n + m) * k = (i + m) * k + (n - i) * k := by rw [← Nat.add_mul]; congr 1; omega
  have e3 : (l.take ((i + m) * k)).length = (i + m) * k := by rw [List.length_take]; omega
  have h1 : (l.take ((i + m) * k) ++ cs ++ l.drop ((i + m) * k + (n - i) * k)).take (i * k) = l.take (i * k) := by
    rw [List.append_assoc, List.take_append_of_le_length (by omega), List.take_take, Nat.min_eq_left (by omega)]
  have h2 : (l.take ((i + m) * k) ++ cs ++ l.drop ((i + m) * k + (n - i) * k)).drop (i * k + m * k) = cs ++ l.drop ((i + m) * k + (n - i) * k) := by
    rw [← e1, List.append_assoc, List.drop_append_of_le_length (by omega), List.drop_of_length_le (by omega), List.nil_append]
  rw [h1, h2, e2, List.append_assoc, List.append_assoc, List.append_assoc]
theorem alloc_rows (w : World) (r r1 r2 : Array Value) (T : TypeId) : ((w.alloc (.cells r T)).setRow w.heap.size r1).drew.setRow w.heap.size r2 = w.drew.alloc (.cells r2 T) := by
  have h : ∀ (w : World) (r r1 : Array Value), (w.alloc (.cells r T)).setRow w.heap.size r1 = w.alloc (.cells r1 T) := fun w r r1 => by
    unfold World.setRow World.alloc
    congr 1
    apply Array.ext
    · simp
    · intro k h1 h2
      simp only [Array.getElem_modify, Array.getElem_push]
      split
      · rename_i hk
        subst hk
        simp
      · rename_i hk
        have hk2 : k < w.heap.size := by simp only [Array.size_push] at h2; omega
        rw [dif_pos hk2, dif_pos hk2]
  rw [h]
  exact h w.drew r1 r2
theorem ins_row2 {k i n m : Nat} {l cs vs r z : List Value} (hr : r = l.take (i * k) ++ z) (hcl : cs.length = (n - i) * k) (hvl : vs.length = m * k) (hl : n * k ≤ l.length) (hz : (n + m - i) * k ≤ z.length) (hin : i ≤ n) :
    ((r.take (i * k) ++ vs ++ r.drop (i * k + m * k)).take ((i + m) * k) ++ cs ++ (r.take (i * k) ++ vs ++ r.drop (i * k + m * k)).drop ((i + m) * k + (n - i) * k)).take ((n + m) * k) = l.take (i * k) ++ vs ++ cs ∧
      ((r.take (i * k) ++ vs ++ r.drop (i * k + m * k)).take ((i + m) * k) ++ cs ++ (r.take (i * k) ++ vs ++ r.drop (i * k + m * k)).drop ((i + m) * k + (n - i) * k)).length = r.length := by
  have e1 : (i + m) * k = i * k + m * k := Nat.add_mul ..
  have e2 : (n + m) * k = (i + m) * k + (n - i) * k := by rw [← Nat.add_mul]; congr 1; omega
  have e3 : (n + m - i) * k = m * k + (n - i) * k := by rw [← Nat.add_mul]; congr 1; omega
  have e4 : i * k ≤ n * k := Nat.mul_le_mul_right _ hin
  have l1 : (l.take (i * k)).length = i * k := by rw [List.length_take]; omega
  have hrl : r.length = i * k + z.length := by rw [hr, List.length_append, l1]
  have h1 : r.take (i * k) = l.take (i * k) := by
    rw [hr, List.take_append_of_le_length (by omega), List.take_take, Nat.min_self]
  have l2 : (l.take (i * k) ++ vs).length = (i + m) * k := by rw [List.length_append, l1, hvl, e1]
  rw [h1]
  have h2 : (l.take (i * k) ++ vs ++ r.drop (i * k + m * k)).take ((i + m) * k) = l.take (i * k) ++ vs := by
    rw [List.take_append_of_le_length (by omega), List.take_of_length_le (by omega)]
  rw [h2]
  constructor
  · rw [List.take_append_of_le_length (by rw [List.length_append, l2, hcl]; omega), List.take_of_length_le (by rw [List.length_append, l2, hcl]; omega)]
  · rw [List.length_append, List.length_append, l2, hcl, List.length_drop, List.length_append, l2, List.length_drop]
    omega
end Go.AM


namespace Go.AM
open Go.Proofs Go.RowKit Go.Lib
set_option linter.unusedVariables false
set_option linter.unusedSimpArgs false
set_option maxHeartbeats 4000000 in
set_option maxRecDepth 100000 in
theorem insW_shift_33 (b n c i vb m vc : Nat) (cur : Array Value) (T : TypeId) (vs : List Value) (w : World) (hi : i < n) (hm : 0 < m) (hroom : n + m ≤ c) (hc63 : c ≤ 9223372036854775807) (hvb : vb ≠ b)
    (hbk : w.heap[b]? = some (.cells cur T (0, 0))) (hcap : c * 7 ≤ cur.size) (h1 : ∀ v ∈ cur.toList.take (n * 7), v.oneCell' = true)
    (hvl : vs.length = m * 7) (hvs : ∀ j v, vs[j]? = some v → w.cell? ⟨vb, j, none⟩ = some v) (h1v : ∀ v ∈ vs, v.oneCell' = true)
    (tA tB : TypeId) (kA kB : Nat) (hsa : w.shape? vb = some (tA, kA)) (hsb : w.shape? b = some (tB, kB)) (hkB : kB ≠ 0) (hfa : w.frozen? ⟨vb, 0, none⟩ = false) (hfe : w.frozen? ⟨vb, kA, none⟩ = false) :
    Calls Try.prog 33 #[.slice (some ⟨b, 0, none⟩) n c, .int .i64 i, .slice (some ⟨vb, 0, none⟩) m vc] w fun e w' =>
      e = .returned (.slice (some ⟨b, 0, none⟩) (n + m) c) ∧ w' = w.drew.setRow b (cur.toList.take (i * 7) ++ vs ++ (cur.toList.drop (i * 7)).take ((n - i) * 7) ++ cur.toList.drop ((n + m) * 7)).toArray := by
  have u0 := run_underlying Try.underlying24; have u3 := run_underlying Try.underlying3; have u4 := run_underlying Try.underlying4
  have hz1 : ¬ ((m : Int) = 0) := by omega
  have hz2 : ¬ ((i : Int) = (n : Int)) := by omega
  have hsz : (Try.prog.info? 23).map (·.size) = some 7 := by kernel_rfl
  have hov : ∀ lb cb, (callFunc 53 #[.slice (some ⟨vb, 0, none⟩) m vc, .slice (some ⟨b, (i + m) * 7, none⟩) lb cb]).run Try.prog w = .ok (.value (.bool false)) w := fun lb cb => by
    rw [run_callFunc_extern Try.func53 (by kernel_rfl) (by kernel_rfl) (by kernel_rfl) (e := Extern.SlicesOverlaps.overlaps #[24, 24] #[4]) (by kernel_rfl),
      Lib.run_overlaps_apart w 24 4 23 Try.underlying24 7 Try.sizeOf23 ⟨vb, 0, none⟩ ⟨b, (i + m) * 7, none⟩ m vc lb cb hvb tA tB kA kB hsa hsb hkB hfa hfe]
    rfl
  have mixed : Try.prog.follows .mixedOrders = true := by kernel_rfl
  have hw1 : IntKind.i64.wrap ((i : Int) + (m : Int)) = (i : Int) + (m : Int) := by rw [IntKind.wrap_i64]; omega
  have hb1 : (0 : Int) ≤ (i : Int) + (m : Int) := by omega
  have hin : i ≤ n := by omega
  have htn : ((i : Int) + (m : Int)).toNat = i + m := by omega
  have hb2 : ¬ (c = i + m) := by omega
  have hb3 : (i : Int) ≤ (n : Int) + (m : Int) := by omega
  have hb4 : ¬ (c = i) := by omega
  obtain ⟨cs, hcs⟩ : ∃ cs, cs = (cur.toList.drop (i * 7)).take ((n - i) * 7) := ⟨_, rfl⟩
  have hcl : cs.length = (n - i) * 7 := by rw [hcs, List.length_take, List.length_drop, Array.length_toList]; omega
  have hcm : ∀ v ∈ cs, v.oneCell' = true := fun v hv => h1 v (by
    obtain ⟨j, hj⟩ := List.getElem?_of_mem hv
    rw [hcs, List.getElem?_take] at hj
    split at hj
    · rw [List.getElem?_drop] at hj
      refine List.mem_of_getElem? (i := i * 7 + j) ?_
      rw [List.getElem?_take, if_pos (by omega)]
      exact hj
    · cases hj)
  obtain ⟨row1, hr1⟩ : ∃ row1, row1 = (cur.toList.take ((i + m) * 7) ++ cs ++ cur.toList.drop ((i + m) * 7 + cs.length)).toArray := ⟨_, rfl⟩
  have hrs1 : row1.size = cur.size := by rw [hr1]; simp [hcl]; omega
  have hcp1 : ∀ ty dc sc, (Builtin.copy_ #[24, 24] ty #[.slice (some ⟨b, (i + m) * 7, none⟩) (n + m - (i + m)) dc, .slice (some ⟨b, i * 7, none⟩) (n + m - i) sc]).run Try.prog w.drew = .ok (goInt ((n - i : Nat) : Int)) (w.drew.setRow b row1) := fun ty dc sc => by
    rw [hr1]
    refine run_copyK (n := n - i) w.drew 24 24 ty 23 7 b _ _ dc _ _ sc cur T cs Try.underlying24 hsz hbk (by simp only [Nat.min_def]; split <;> omega) hcl (fun j v hj => ?_) (by rw [hcl]; omega) hcm
    rw [hcs, List.getElem?_take] at hj
    split at hj
    · rw [List.getElem?_drop] at hj
      rw [Addr.add_lit]
      rw [cell_of_row w.drew b _ cur T (0, 0) hbk]
      simpa using hj
    · cases hj
  have hh2 : (w.drew.setRow b row1).heap[b]? = some (.cells row1 T (0, 0)) := setRow_heap w.drew b cur row1 T (0, 0) hbk
  obtain ⟨row2, hr2⟩ : ∃ row2, row2 = (row1.toList.take (i * 7) ++ vs ++ row1.toList.drop (i * 7 + vs.length)).toArray := ⟨_, rfl⟩
  have hcp2 : ∀ ty dc, (Builtin.copy_ #[24, 24] ty #[.slice (some ⟨b, i * 7, none⟩) (n + m - i) dc, .slice (some ⟨vb, 0, none⟩) m vc]).run Try.prog (w.drew.setRow b row1) = .ok (goInt m) (w.drew.setRow b row2) := fun ty dc => by
    have := run_copyK (P := Try.prog) (w.drew.setRow b row1) 24 24 ty 23 7 b (i * 7) (n + m - i) dc ⟨vb, 0, none⟩ m vc row1 T vs Try.underlying24 hsz hh2 (n := m) (by simp only [Nat.min_def]; split <;> omega) hvl (fun j v hj => by
      rw [Addr.add_lit, Nat.zero_add, cell_same (w := w) (by rw [setRow_other w.drew b vb row1 hvb]; rfl)]
      exact hvs j v hj) (by omega) h1v
    rw [this, setRow_setRow, hr2]
  have hfin : row2 = (cur.toList.take (i * 7) ++ vs ++ (cur.toList.drop (i * 7)).take ((n - i) * 7) ++ cur.toList.drop ((n + m) * 7)).toArray := by
    rw [hr2, hr1, hvl, hcl, ← hcs]
    exact congrArg List.toArray (ins_row (k := 7) (i := i) (n := n) (m := m) hcl (by rw [Array.length_toList]; omega) hin)
  rw [← hfin]
  clear hfin hr1 hr2 hcs hcl hcm hrs1 hh2
  go_enter Try.func33, Try.ntmps33
  go_wp2_with (simp only [hov])
  go_region_law_o (go_loud (refine step_copyI rfl _ _ 24 24 rfl (.slice (some ⟨b, (i + m) * 7, none⟩) (n + m - (i + m)) (c - (i + m))) (.slice (some ⟨b, i * 7, none⟩) (n + m - i) (c - i)) (by simp [Act.eval, Act.put]) (by simp [Act.eval, Act.put]) (hcp1 3 (c - (i + m)) (c - i)) ?_))
  go_wp2_with (at_builtin; refine wpList_copyI _ rfl _ _ 24 24 rfl _ _ rfl rfl (hcp2 _ _) ?_)
  go_ret
  exact ⟨rfl, rfl⟩
set_option maxHeartbeats 4000000 in
set_option maxRecDepth 100000 in
theorem insW_grow_33 (b n c i vb m vc : Nat) (cur : Array Value) (T : TypeId) (vs : List Value) (w : World) (hi : i < n) (hm : 0 < m) (hnc : n ≤ c) (hroom : c < n + m) (hbig : (n + m) * 56 ≤ 140737488355328)
    (hbk : w.heap[b]? = some (.cells cur T (0, 0))) (hcap : n * 7 ≤ cur.size) (h1 : ∀ v ∈ cur.toList.take (n * 7), v.oneCell' = true)
    (hvl : vs.length = m * 7) (hvs : ∀ j v, vs[j]? = some v → w.cell? ⟨vb, j, none⟩ = some v) (h1v : ∀ v ∈ vs, v.oneCell' = true) :
    Calls Try.prog 33 #[.slice (some ⟨b, 0, none⟩) n c, .int .i64 i, .slice (some ⟨vb, 0, none⟩) m vc] w fun e w' =>
      ∃ (G : Nat) (R : Array Value), n + m ≤ G ∧ G ≤ maxLen ∧ R.size = G * 7 ∧ R.toList.take ((n + m) * 7) = cur.toList.take (i * 7) ++ vs ++ (cur.toList.drop (i * 7)).take ((n - i) * 7) ∧ e = .returned (.slice (some ⟨w.heap.size, 0, none⟩) (n + m) G) ∧ w' = w.drew.drew.alloc (.cells R 23) := by
  have u0 := run_underlying Try.underlying24; have u3 := run_underlying Try.underlying3; have u4 := run_underlying Try.underlying4
  have mixed : Try.prog.follows .mixedOrders = true := by kernel_rfl
  obtain ⟨i0, hi0, hz0, hzs, hzb⟩ := info_parts (P := Try.prog) (e := 23) (z := .agg #[.int .i64 0, .int .i64 0, .int .i64 0, .int .i64 0, .int .i64 0, .int .i64 0, .int .i64 0]) (size := 7) (bytes := 56) (by kernel_rfl)
  have hz1 : ¬ ((m : Int) = 0) := by omega
  have hz2 : ¬ ((i : Int) = (n : Int)) := by omega
  have hz3 : (c : Int) < (n : Int) + (m : Int) := by omega
  have hsz : (Try.prog.info? 23).map (·.size) = some 7 := by rw [hi0]; simp [hzs]
  have hkk : (n : Int) + (m : Int) - (i : Int) = ((n + m - i : Nat) : Int) := by omega
  have hik : i + (n + m - i) = n + m := by omega
  have hb8 : b < w.heap.size := (Array.getElem?_eq_some_iff.1 hbk).1
  have hvb : vb < w.heap.size := by
    have h0 : 0 < vs.length := by omega
    exact block_lt_of_cell (hvs 0 _ (List.getElem?_eq_getElem h0))
  have hcl0 : (cur.toList.take (i * 7)).length = i * 7 := by rw [List.length_take, Array.length_toList]; omega
  have hold : (Builtin.firstCells i0.size i (.slice (some ⟨b, 0, none⟩) i c)).run Try.prog w.drew = .ok (cur.toList.take (i * 7)).toArray w.drew := by
    rw [hzs]
    exact run_firstCells_some w.drew 7 i ⟨b, 0, none⟩ i c (cur.toList.take (i * 7)) hcl0 (fun j v hj => by
      rw [Addr.add_lit, cell_of_row w.drew b _ cur T (0, 0) hbk]
      rw [List.getElem?_take] at hj
      split at hj
      · simpa using hj
      · cases hj)
  obtain ⟨G, hG⟩ : ∃ G, G = grownCap w (n + m) c 23 := ⟨_, rfl⟩
  obtain ⟨zc, hzc⟩ : ∃ zc : Array Value, zc = Value.cells (.agg #[.int .i64 0, .int .i64 0, .int .i64 0, .int .i64 0, .int .i64 0, .int .i64 0, .int .i64 0]) := ⟨_, rfl⟩
  have hzc7 : zc.size = 7 := by rw [hzc]; rfl
  obtain ⟨ROW, hROW⟩ : ∃ ROW : Array Value, ROW = (cur.toList.take (i * 7)).toArray ++ Builtin.zeroCells zc (n + m - i) ++ Builtin.zeroCells zc (G - (n + m)) := ⟨_, rfl⟩
  have hrz : ∀ ty, (Builtin.append_ #[24, 3] ty #[.slice (some ⟨b, 0, none⟩) i c, .int .i64 ((n : Int) + (m : Int) - (i : Int))]).run Try.prog w =
      .ok (.slice (some ⟨w.heap.size, 0, none⟩) (n + m) G) (w.drew.alloc (.cells ROW 23)) := fun ty => by
    have h := Lib.run_append_grow_zeros w 24 3 ty 23 i0 _ .i64 .i64 Try.underlying24 Try.underlying3 hi0 hz0 (some ⟨b, 0, none⟩) i c (cur.toList.take (i * 7)) hold (n + m - i) (by omega) (by omega) (by omega) (by omega) (by rw [hzb]; omega) (by rw [hzb, hik]; exact growslice_fits hroom hbig)
    rw [hik] at h
    rw [hkk, hROW, hG, hzc]
    exact h
  have hGn : n + m ≤ G := by rw [hG]; exact grownCap_ge w _ _ _
  have hGx : G ≤ maxLen := by
    rw [hG]; exact grownCap_le_maxLen w (n + m) c 23 (by unfold maxLen; omega)
  have hG63 : G ≤ 9223372036854775807 := by unfold maxLen at hGx; omega
  have hRs : ROW.size = G * 7 := by
    rw [hROW]
    simp only [Array.size_append, size_zeroCells, List.size_toArray, hcl0, hzc7]
    omega
  obtain ⟨cs, hcs⟩ : ∃ cs, cs = (cur.toList.drop (i * 7)).take ((n - i) * 7) := ⟨_, rfl⟩
  have hcl : cs.length = (n - i) * 7 := by rw [hcs, List.length_take, List.length_drop, Array.length_toList]; omega
  have hcm : ∀ v ∈ cs, v.oneCell' = true := fun v hv => h1 v (by
    obtain ⟨j, hj⟩ := List.getElem?_of_mem hv
    rw [hcs, List.getElem?_take] at hj
    split at hj
    · rw [List.getElem?_drop] at hj
      refine List.mem_of_getElem? (i := i * 7 + j) ?_
      rw [List.getElem?_take, if_pos (by omega)]
      exact hj
    · cases hj)
  obtain ⟨r1, hr1⟩ : ∃ r1, r1 = (ROW.toList.take (i * 7) ++ vs ++ ROW.toList.drop (i * 7 + vs.length)).toArray := ⟨_, rfl⟩
  have hrs1 : r1.size = ROW.size := by rw [hr1]; simp; omega
  obtain ⟨r2, hr2⟩ : ∃ r2, r2 = (r1.toList.take ((i + m) * 7) ++ cs ++ r1.toList.drop ((i + m) * 7 + cs.length)).toArray := ⟨_, rfl⟩
  obtain ⟨W1, hW1⟩ : ∃ W1, W1 = w.drew.alloc (.cells ROW 23) := ⟨_, rfl⟩
  rw [← hW1] at hrz
  have hg1 : W1.heap[w.heap.size]? = some (.cells ROW 23 (0, 0)) := by rw [hW1]; exact heap_alloc_new w.drew _
  have hO : ∀ k, k < w.heap.size → W1.heap[k]? = w.heap[k]? := fun k hk => by
    rw [hW1]
    exact (Frame.alloc (S := fun _ => False) w.drew _).block k hk (fun h => h)
  have hcpA : ∀ ty dc, (Builtin.copy_ #[24, 24] ty #[.slice (some ⟨w.heap.size, i * 7, none⟩) (n + m - i) dc, .slice (some ⟨vb, 0, none⟩) m vc]).run Try.prog W1 = .ok (goInt m) (W1.setRow w.heap.size r1) := fun ty dc => by
    rw [hr1]
    exact run_copyK (P := Try.prog) (n := m) W1 24 24 ty 23 7 w.heap.size (i * 7) (n + m - i) dc ⟨vb, 0, none⟩ m vc ROW 23 vs Try.underlying24 hsz hg1 (by simp only [Nat.min_def]; split <;> omega) hvl (fun j v hj => by
      rw [Addr.add_lit, Nat.zero_add, cell_same (hO vb hvb)]
      exact hvs j v hj) (by omega) h1v
  have hg2 : (W1.setRow w.heap.size r1).heap[w.heap.size]? = some (.cells r1 23 (0, 0)) := setRow_heap W1 _ ROW r1 23 (0, 0) hg1
  have hcpB : ∀ ty dc sc, (Builtin.copy_ #[24, 24] ty #[.slice (some ⟨w.heap.size, (i + m) * 7, none⟩) (n + m - (i + m)) dc, .slice (some ⟨b, i * 7, none⟩) (n - i) sc]).run Try.prog (W1.setRow w.heap.size r1).drew = .ok (goInt ((n - i : Nat) : Int)) ((W1.setRow w.heap.size r1).drew.setRow w.heap.size r2) := fun ty dc sc => by
    rw [hr2]
    exact run_copyK (P := Try.prog) (n := n - i) (W1.setRow w.heap.size r1).drew 24 24 ty 23 7 w.heap.size _ _ dc _ _ sc r1 23 cs Try.underlying24 hsz hg2 (by simp only [Nat.min_def]; split <;> omega) hcl (fun j v hj => by
      rw [hcs, List.getElem?_take] at hj
      split at hj
      · rw [List.getElem?_drop] at hj
        have hbb : (W1.setRow w.heap.size r1).drew.heap[b]? = some (.cells cur T (0, 0)) := by
          show (W1.setRow w.heap.size r1).heap[b]? = _
          rw [setRow_other W1 _ b r1 (by omega), hO b hb8, hbk]
        rw [Addr.add_lit, cell_of_row _ b _ cur T (0, 0) hbb]
        simpa using hj
      · cases hj) (by omega) hcm
  have hGi : ¬ (G = i) := by omega
  have hGim : ¬ (G = i + m) := by omega
  have hci : ¬ (c = i) := by omega
  have hw1 : IntKind.i64.wrap ((i : Int) + (m : Int)) = (i : Int) + (m : Int) := by rw [IntKind.wrap_i64]; omega
  have hb1 : (0 : Int) ≤ (i : Int) + (m : Int) := by omega
  have hin : i ≤ n := by omega
  have htn : ((i : Int) + (m : Int)).toNat = i + m := by omega
  have hb3 : (i : Int) ≤ (n : Int) := by omega
  obtain ⟨q1, q2⟩ := ins_row2 (k := 7) (i := i) (n := n) (m := m) (l := cur.toList) (cs := cs) (vs := vs) (r := ROW.toList) (z := (Builtin.zeroCells zc (n + m - i) ++ Builtin.zeroCells zc (G - (n + m))).toList) (by rw [hROW]; simp) hcl hvl (by rw [Array.length_toList]; exact hcap) (by
    simp only [Array.toList_append, List.length_append, Array.length_toList, size_zeroCells, hzc7]; omega) hin
  have hR1 : r2.toList.take ((n + m) * 7) = cur.toList.take (i * 7) ++ vs ++ cs := by rw [hr2, hr1, hvl, hcl]; exact q1
  have hR2 : r2.size = G * 7 := by
    have : r2.toList.length = ROW.toList.length := by rw [hr2, hr1, hvl, hcl]; exact q2
    simpa [hRs] using this
  have hend : (W1.setRow w.heap.size r1).drew.setRow w.heap.size r2 = w.drew.drew.alloc (.cells r2 23) := by
    subst hW1
    exact alloc_rows w.drew ROW r1 r2 23
  refine Calls.mono (R := fun e w' => e = .returned (.slice (some ⟨w.heap.size, 0, none⟩) (n + m) G) ∧ w' = (W1.setRow w.heap.size r1).drew.setRow w.heap.size r2) ?_ (fun e w' ⟨h1, h2⟩ => ⟨G, r2, hGn, hGx, hR2, by rw [hR1, hcs], h1, h2.trans hend⟩)
  clear hkk hik hold hROW hG hend hW1 q1 q2 hR1 hR2 hr1 hr2 hcs hcl hcm hg1 hg2 hrs1 hRs hzc hzc7 hO hcl0 hbk
  go_enter Try.func33, Try.ntmps33
  go_wp2_with (first
    | (at_builtin; refine Lib.wpList_append_run _ rfl _ _ _ _ rfl _ _ rfl rfl _ _ (hrz _) ?_)
    | (at_builtin; refine wpList_copyI _ rfl _ _ 24 24 rfl _ _ rfl rfl (hcpA _ _) ?_)
    | (at_builtin; refine wpList_copyI _ rfl _ _ 24 24 rfl _ _ rfl rfl (hcpB _ _ _) ?_))
  go_region_law_o (go_loud (refine step_copyI rfl _ _ 24 24 rfl (.slice (some ⟨w.heap.size, (i + m) * 7, none⟩) (n + m - (i + m)) (G - (i + m))) (.slice (some ⟨b, i * 7, none⟩) (n - i) (c - i)) (by simp [Act.eval, Act.put]) (by simp [Act.eval, Act.put]) (hcpB 3 (G - (i + m)) (c - i)) ?_))
  go_wp2
  go_ret
  exact ⟨rfl, rfl⟩
set_option maxHeartbeats 4000000 in
set_option maxRecDepth 100000 in
theorem insW_end_33 (A B : Option Addr) (n c m vc : Nat) (u : Value) (w W' : World) (hm : 0 < m) (hnc : n ≤ c) (hA : A = none → c = 0)
    (hr : ∀ ty, (Builtin.append_ #[24, 24] ty #[.slice A n c, .slice B m vc]).run Try.prog w = .ok u W') :
    Calls Try.prog 33 #[.slice A n c, .int .i64 n, .slice B m vc] w fun e w' => e = .returned u ∧ w' = W' := by
  have u0 := run_underlying Try.underlying24; have u3 := run_underlying Try.underlying3; have u4 := run_underlying Try.underlying4
  have mixed : Try.prog.follows .mixedOrders = true := by kernel_rfl
  have hz1 : ¬ ((m : Int) = 0) := by omega
  go_enter Try.func33, Try.ntmps33
  cases A with
  | none =>
    have h0 := hA rfl
    subst h0
    have hn0 : n = 0 := by omega
    subst hn0
    go_wp2_with (at_builtin; refine Lib.wpList_append_run _ rfl _ _ _ _ rfl _ _ rfl rfl _ _ (hr _) ?_)
    go_ret
    exact ⟨rfl, rfl⟩
  | some a =>
    obtain ⟨ab, ao, asp⟩ := a
    go_wp2_with (at_builtin; refine Lib.wpList_append_run _ rfl _ _ _ _ rfl _ _ rfl rfl _ _ (hr _) ?_)
    all_goals (go_ret; exact ⟨rfl, rfl⟩)
theorem insW_33 : InsWalk Try.prog 33 7 56 24 23 := ⟨⟨Try.f33, Try.func33, by kernel_rfl, by kernel_rfl⟩, Try.underlying24, by kernel_rfl, by kernel_rfl, ⟨.agg [.s (.int .i64 0), .s (.int .i64 0), .s (.int .i64 0), .s (.int .i64 0), .s (.int .i64 0), .s (.int .i64 0), .s (.int .i64 0)], by kernel_rfl, by kernel_rfl, by kernel_rfl⟩, fun m hm => by unfold maxLen; omega, insW_shift_33, insW_grow_33, insW_end_33⟩
end Go.AM


namespace Go.AM
open Go.RowKit Go.Sort Go.Proofs
set_option linter.unusedVariables false
set_option linter.unusedSimpArgs false
variable {P : Program} {μ μ' : Mu} {h h' : Hp} {w w' : World}
abbrev RowE (k : Nat) (ok : List Value → Bool) := { e : List Value // e.length = k ∧ (∀ v ∈ e, gv v = true) ∧ ok e = true }
def encE (e : List Value) : List AV := e.map .s
def decE (k : Nat) (ok : List Value → Bool) (e : List AV) : Option (List Value) := match e.mapM cellV with | some l => if l.length = k ∧ ok l = true then some l else none | none => none
def ltF (Fc : Fun) (x y : List Value) : Bool := match Fc [.agg (encE x), .agg (encE y)] [] with | some (.s (.int .i64 n), _) => decide (n < 0) | _ => false
def SortOk (k : Nat) (ok : List Value → Bool) (Fc : Fun) : Prop := ∃ cf : RowE k ok → RowE k ok → Int, (∀ x y, Fc [.agg (encE x.1), .agg (encE y.1)] [] = some (.s (.int .i64 (cf x y)), [])) ∧ SWO (ltOf cf) ∧ ∀ x y, ltOf cf x y = false → ltOf cf y x = false → x = y
open Classical in
noncomputable def sortF (k : Nat) (ok : List Value → Bool) (g : Nat) (Fc : Fun) : Fun := fun args h =>
  match args with
  | [.sl sz id off len fr _, .fn g' []] =>
    match h[id]? with
    | some (.arr sz' es own nil) =>
      if g' = g ∧ sz = k ∧ sz' = k ∧ es.length = fr ∧ own = true ∧ off + len ≤ es.length ∧ len < 4611686018427387904 ∧ SortOk k ok Fc then
        match ((es.drop off).take len).mapM (decE k ok) with
        | some l => some (.tup [], h.set id (.arr k (es.take off ++ (l.mergeSort fun x y => !ltF Fc y x).map encE ++ es.drop (off + len)) true nil))
        | none => none
      else none
    | _ => none
  | [.s (.slice none 0 0), .fn _ _] => some (.tup [], h)
  | _ => none
theorem cellV_s {a : AV} {v : Value} (h : cellV a = some v) : a = .s v ∧ gv v = true := by
  unfold cellV at h
  split at h <;> try (simp at h; done)
  split at h <;> try (simp at h; done)
  rename_i hg
  simp only [Option.some.injEq] at h
  subst h
  exact ⟨rfl, hg⟩
theorem mapM_cellV : ∀ {e : List AV} {l : List Value}, e.mapM cellV = some l → e = encE l ∧ ∀ v ∈ l, gv v = true
  | [], l, h => by simp at h; subst h; exact ⟨rfl, by simp⟩
  | a :: e, l, h => by
    simp only [List.mapM_cons, Option.pure_def, Option.bind_eq_bind, Option.bind_eq_some_iff, Option.some.injEq] at h
    obtain ⟨v, hv, l', hl, rfl⟩ := h
    obtain ⟨rfl, hg⟩ := cellV_s hv
    obtain ⟨rfl, hgs⟩ := mapM_cellV hl
    exact ⟨rfl, fun u hu => (List.mem_cons.1 hu).elim (fun e => e ▸ hg) (hgs u)⟩
theorem decE_some {k : Nat} {ok : List Value → Bool} {e : List AV} {l : List Value} (h : decE k ok e = some l) : e = encE l ∧ l.length = k ∧ (∀ v ∈ l, gv v = true) ∧ ok l = true := by
  unfold decE at h
  split at h <;> try (simp at h; done)
  rename_i l' hl
  split at h <;> try (simp at h; done)
  rename_i hk
  simp only [Option.some.injEq] at h
  subst h
  obtain ⟨h1, h2⟩ := mapM_cellV hl
  exact ⟨h1, hk.1, h2, hk.2⟩
theorem mapM_decE {k : Nat} {ok : List Value → Bool} : ∀ {es : List (List AV)} {l : List (List Value)}, es.mapM (decE k ok) = some l → ∃ d : List (RowE k ok), l = d.map (·.1) ∧ es = d.map fun x => encE x.1
  | [], l, h => by simp at h; subst h; exact ⟨[], rfl, rfl⟩
  | e :: es, l, h => by
    simp only [List.mapM_cons, Option.pure_def, Option.bind_eq_bind, Option.bind_eq_some_iff, Option.some.injEq] at h
    obtain ⟨x, hx, l', hl, rfl⟩ := h
    obtain ⟨rfl, h1⟩ := decE_some hx
    obtain ⟨d, rfl, rfl⟩ := mapM_decE hl
    exact ⟨⟨x, h1⟩ :: d, rfl, rfl⟩
theorem VRs.encE : ∀ {e : List Value}, (∀ v ∈ e, gv v = true) → VRs μ h (encE e) e
  | [], _ => by simp [Go.AM.encE, VRs]
  | v :: e, hg => by
    simp only [Go.AM.encE, List.map_cons, VRs]
    exact ⟨v, e, rfl, by unfold VR; exact ⟨hg v (by simp), rfl⟩, VRs.encE fun u hu => hg u (by simp [hu])⟩
theorem VRs.encE_eq : ∀ {e vs : List Value}, VRs μ h (Go.AM.encE e) vs → vs = e
  | [], vs, hv => by simpa [Go.AM.encE, VRs] using hv
  | v :: e, vs, hv => by
    simp only [Go.AM.encE, List.map_cons, VRs] at hv
    obtain ⟨u, us, rfl, h1, h2⟩ := hv
    simp only [VR] at h1
    rw [h1.2, VRs.encE_eq h2]
theorem flat_val {k : Nat} : ∀ {l : List (List Value)}, (∀ e ∈ l, e.length = k) → l.flatten.length = l.length * k ∧ ∀ t, t < l.length * k → l.flatten[t]? = (l[t / k]!)[t % k]?
  | [], _ => ⟨by simp, fun t ht => by simp at ht⟩
  | e :: l, hl => by
    have he := hl e (by simp)
    obtain ⟨i1, i2⟩ := flat_val (l := l) fun x hx => hl x (by simp [hx])
    refine ⟨by simp [he, i1, Nat.add_mul]; omega, fun t ht => ?_⟩
    rw [List.flatten_cons]
    by_cases hk : t < k
    · rw [List.getElem?_append_left (by omega), Nat.div_eq_of_lt hk, Nat.mod_eq_of_lt hk]
      rfl
    · have hk0 : 0 < k := by rcases Nat.eq_zero_or_pos k with e0 | e0; · subst e0; simp at ht
                             · exact e0
      rw [List.getElem?_append_right (by omega), he, i2 (t - k) (by simp [Nat.add_mul] at ht; omega)]
      have h1 : t / k = (t - k) / k + 1 := by
        have := Nat.add_div_right (t - k) hk0
        rw [show t - k + k = t by omega] at this
        exact this
      have h2 : t % k = (t - k) % k := by
        have := Nat.add_mod_right (t - k) k
        rw [show t - k + k = t by omega] at this
        exact this
      rw [h1, h2]
      rfl
theorem flatK_list {α : Type} [Inhabited α] (enc : α → List Value) (k : Nat) (hk : ∀ x, (enc x).length = k) (d : List α) : (flatK enc k d.toArray).toList = (d.map enc).flatten := by
  obtain ⟨h1, h2⟩ := flat_val (l := d.map enc) (k := k) (by simp [hk])
  apply List.ext_getElem?
  intro t
  by_cases ht : t < d.length * k
  · rw [h2 t (by simpa using ht)]
    have hk0 : 0 < k := by rcases Nat.eq_zero_or_pos k with e0 | e0; · subst e0; simp at ht
                           · exact e0
    have hd : t / k < d.length := (Nat.div_lt_iff_lt_mul hk0).2 ht
    have hm : t % k < k := Nat.mod_lt _ hk0
    have e1 : (d.map enc)[t / k]! = enc d[t / k] := by
      rw [getElem!_pos _ _ (by simpa using hd)]; simp
    rw [e1]
    have hm' : t % k < (enc d[t / k]).length := by rw [hk]; exact hm
    rw [List.getElem?_eq_getElem hm']
    unfold flatK
    simp only [List.size_toArray, Array.toList_map, Array.toList_range, List.getElem?_map, List.getElem?_range ht, Option.map_some]
    congr 1
    rw [getElem!_pos d.toArray _ (by simpa using hd)]
    simp only [List.getElem_toArray]
    rw [getElem!_pos (enc d[t / k]) (t % k) hm']
  · rw [List.getElem?_eq_none (by rw [Array.length_toList, size_flatK]; simpa using ht), List.getElem?_eq_none (by rw [h1, List.length_map]; omega)]
theorem Step.draws (R : Rel μ h w) : ∀ n, Step μ h w μ h (Sort.ahead w n)
  | 0 => by rw [ahead_zero]; exact Step.refl R
  | n + 1 => by
    have S := Step.draws R n
    rw [← ahead_drew]
    exact S.trans (Step.drew S.rel)
theorem Step.grown : ∀ {w : World} {μ : Mu} (os : List Obj), Rel μ h w → ∃ μ', Step μ h w μ' h (grow w os.toArray)
  | w, μ, [], R => by rw [grow_empty]; exact ⟨μ, Step.refl R⟩
  | w, μ, o :: os, R => by
    obtain ⟨μ1, S1, -⟩ := Step.allocImm R o
    obtain ⟨μ2, S2⟩ := Step.grown os S1.rel
    refine ⟨μ2, ?_⟩
    have : grow w (o :: os).toArray = grow (w.alloc o) os.toArray := by
      rw [alloc_eq_grow, grow_grow]; congr 1; simp
    rw [this]
    exact S1.trans S2
theorem setRow_put {blk off k : Nat} {cur F row : Array Value} {T : TypeId} {fr : Nat × Nat} (hb : w.heap[blk]? = some (.cells cur T fr)) (hfit : off + F.size ≤ cur.size) (hrow : row = (cur.toList.take off ++ F.toList ++ cur.toList.drop (off + F.size)).toArray) : putRow id w blk off F = w.setRow blk row := by
  have hc : putCells id off F cur = row := by
    subst hrow
    apply Array.ext_getElem?
    intro i
    unfold putCells
    simp only [Array.getElem?_mapIdx, List.getElem?_toArray]
    by_cases hi : i < cur.size
    · rw [Array.getElem?_eq_getElem hi]
      simp only [Option.map_some, id]
      by_cases h1 : off ≤ i ∧ i < off + F.size
      · rw [if_pos h1, List.append_assoc, List.getElem?_append_right (by simp; omega), List.getElem?_append_left (by simp; omega)]
        simp only [List.length_take, Array.length_toList]
        rw [show i - min off cur.size = i - off by omega, Array.getElem?_toList, getElem!_pos F _ (by omega), Array.getElem?_eq_getElem (by omega)]
      · rw [if_neg h1]
        by_cases h2 : i < off
        · rw [List.append_assoc, List.getElem?_append_left (by simp; omega), List.getElem?_take, if_pos h2, Array.getElem?_toList, Array.getElem?_eq_getElem hi]
        · rw [List.getElem?_append_right (by simp; omega), List.getElem?_drop]
          simp only [List.length_append, List.length_take, Array.length_toList]
          rw [show off + F.size + (i - (min off cur.size + F.size)) = i by omega, Array.getElem?_toList, Array.getElem?_eq_getElem hi]
    · rw [Array.getElem?_eq_none (by omega), List.getElem?_eq_none (by simp; omega)]
      rfl
  unfold putRow
  rw [mapBlock_congr w blk _ (fun _ => row) fun c e f he => by
    rw [hb] at he
    injection he with he
    injection he with e1
    subst e1
    exact hc]
  unfold mapBlock World.setRow
  congr 1
theorem frame_grow {S : Nat → Prop} (F : Frame S w w') (hS : ∀ k, ¬ S k) : ∃ q os, w' = grow (w.drewN q) os := by
  refine ⟨w'.drawn - w.drawn, w'.heap.extract w.heap.size w'.heap.size, ?_⟩
  obtain ⟨f1, f2, f3, f4, f5, f6⟩ := F
  cases w with
  | mk hp tp dr os out =>
    cases w' with
    | mk hp' tp' dr' os' out' =>
      simp only [grow, World.drewN] at *
      subst f1 f2 f3
      congr 1
      · apply Array.ext_getElem?
        intro i
        by_cases hi : i < hp.size
        · rw [f6 i hi (hS i), Array.getElem?_append_left hi]
        · rw [Array.getElem?_append_right (by omega), Array.getElem?_extract]
          split
          · congr 1; omega
          · rw [Array.getElem?_eq_none (by omega)]
      · omega
theorem cmp_lays {k g : Nat} {ok : List Value → Bool} {Fc : Fun} (hc : CSound P g Fc) {cf : RowE k ok → RowE k ok → Int} (hcf : ∀ x y, Fc [.agg (encE x.1), .agg (encE y.1)] [] = some (.s (.int .i64 (cf x y)), [])) [Inhabited (RowE k ok)] (blk off size : Nat) (w : World) : CmpLays P g #[] (fun x : RowE k ok => x.1) k cf blk off size w := by
  intro m os dk hs x y
  obtain ⟨W, hW⟩ : ∃ W, W = sortWorldK (fun x : RowE k ok => x.1) k w blk off m dk os := ⟨_, rfl⟩
  rw [← hW]
  have R : Rel { loc := fun _ => .real 0 0 0, base := W, imm := fun _ => False } [] W := Rel.nil fun k hk => hk.elim
  obtain ⟨-, hcall⟩ := hc _ _ _ _ (hcf x y) _ W (#[.agg x.1.toArray, .agg y.1.toArray] ++ #[]) R (by
    simp only [VRs, VR]
    exact ⟨_, _, rfl, ⟨_, rfl, VRs.encE x.2.2.1⟩, _, _, rfl, ⟨_, rfl, VRs.encE y.2.2.1⟩, rfl⟩)
  refine hcall.mono ?_
  rintro e w' ⟨cv, μ2, rfl, S, hv⟩
  simp only [VR] at hv
  obtain ⟨-, rfl⟩ := hv
  exact ⟨rfl, frame_grow S.frame fun k hk => Own.nil hk⟩
theorem sortF_sound {ρ : Go.Shelf.Ren} {k g : Nat} {ok : List Value → Bool} {Fc : Fun} (L : SlLaysF0.n6 P ρ) (aE : ∀ w, (isAgg (ρ.t 24)).run P w = .ok true w) (zE : ∀ w, (Go.sizeOf (ρ.t 24)).run P w = .ok k w) (hgo : Goes P (ρ.f 6)) (hk0 : 0 < k) (hc : CSound P g Fc) (hg : Goes P g) : CSound P (ρ.f 6) (sortF k ok g Fc) := by
  intro args h v h' hk μ w cargs R hargs
  refine ⟨hgo, ?_⟩
  unfold sortF at hk
  split at hk <;> try (simp at hk; done)
  · rename_i sz id off len fr full g'
    split at hk <;> try (simp at hk; done)
    rename_i sz' es own nil ho
    split at hk <;> try (simp at hk; done)
    rename_i hcond
    obtain ⟨rfl, rfl, rfl, hfr, rfl, hle, hlen, cf, hcf, hswo, hanti⟩ := hcond
    split at hk <;> try (simp at hk; done)
    rename_i l hl
    simp only [Option.some.injEq, Prod.mk.injEq] at hk
    obtain ⟨rfl, rfl⟩ := hk
    obtain ⟨d, rfl, hd⟩ := mapM_decE hl
    have hdl : d.length = len := by
      have := congrArg List.length hd
      rw [List.length_map, List.length_take, List.length_drop] at this
      omega
    have elt : ∀ x y : RowE sz' ok, ltF Fc x.1 y.1 = ltOf cf x y := fun x y => by
      unfold ltF ltOf
      rw [hcf x y]
    have esort : (d.map (·.1)).mergeSort (fun x y => !ltF Fc y x) = (d.mergeSort fun x y => !ltOf cf y x).map (·.1) := by
      rw [List.map_mergeSort]
      intro a _ b _
      rw [elt]
    rw [esort, List.map_map]
    obtain ⟨d2, hd2⟩ : ∃ d2, d2 = d.mergeSort fun x y => !ltOf cf y x := ⟨_, rfl⟩
    have hd2l : d2.length = len := by rw [hd2, List.length_mergeSort]; exact hdl
    rw [← hd2]
    have e0 : cargs.toList = cargs.toList := rfl
    simp only [VRs] at hargs
    obtain ⟨v1, vs1, hq1, hv1, v2, vs2, rfl, hv2, rfl⟩ := hargs
    have hcargs : cargs = #[v1, v2] := by apply Array.ext'; simpa using hq1
    subst hcargs
    simp only [VR] at hv1 hv2
    obtain ⟨caps, rfl, hcaps⟩ := hv2
    have hcaps' : caps = #[] := by
      simp only [VRs] at hcaps
      apply Array.ext'; simpa using hcaps
    subst hcaps'
    obtain ⟨A, c, rfl, hlc, hA, -, es2, own', nil', ho', -, hq⟩ := hv1
    rw [ho] at ho'
    injection ho' with ho'
    injection ho' with e1 e2 e3 e4
    subst e2 e3 e4
    have hsl := hq hfr.symm
    by_cases h0 : len = 0
    · subst h0
      have hd0 : d2 = [] := List.eq_nil_of_length_eq_zero hd2l
      have e5 : h.set id (.arr sz' (es.take off ++ d2.map ((encE ·) ∘ (·.1)) ++ es.drop (off + 0)) true nil) = h := by
        rw [hd0]
        simp only [List.map_nil, List.append_nil, Nat.add_zero, List.take_append_drop]
        exact set_same ho
      rw [e5]
      refine (AnyF.slices_SortFunc_none L A c _ w).mono ?_
      rintro e w' ⟨rfl, rfl⟩
      exact ⟨_, μ, rfl, Step.refl R, by simp [VR, VRs]⟩
    · unfold SlOk at hsl
      split at hsl
      · rename_i blk o cap hmu
        obtain ⟨a', rfl, hcap, hne⟩ := hsl
        have ha' := hne (by omega)
        have hO := R.obj _ _ ho
        obtain ⟨cur, T, hbk, hcur, rfl, hlec, hcapm, h1, hr⟩ := ORel.own_flat hO hmu
        rw [Nat.zero_add] at ha'
        subst ha'
        obtain ⟨vs, g1, g2, g3, g4⟩ := arr_cells R ho hmu off len hle
        rw [Nat.zero_add] at g4
        haveI : Inhabited (RowE sz' ok) := ⟨d[0]'(by omega)⟩
        have hlenE : ∀ x : RowE sz' ok, x.1.length = sz' := fun x => x.2.1
        have hflat : ((es.drop off).take len).flatten = encE (d.map (·.1)).flatten := by
          rw [hd]
          unfold encE
          rw [List.map_flatten, List.map_map]
          rfl
        rw [hflat] at g1
        have hvs := VRs.encE_eq g1
        subst hvs
        have hfk := flatK_list (fun x : RowE sz' ok => x.1) sz' hlenE d
        have hH : HoldsK (fun x : RowE sz' ok => x.1) sz' w blk (off * sz') d.toArray := by
          intro j hj
          have hj2 : j < (flatK (fun x : RowE sz' ok => x.1) sz' d.toArray).toList.length := by simpa using hj
          refine ⟨g4 j _ ?_, ?_⟩
          · rw [← hfk, List.getElem?_eq_getElem hj2, getElem!_pos (flatK (fun x : RowE sz' ok => x.1) sz' d.toArray) j hj]
            rfl
          · simp only [World.frozen?, hbk]
            simp
        have hblk : blk < w.heap.size := (Array.getElem?_eq_some_iff.1 hbk).1
        have key := AnyQ.slices_SortFunc_total L sz' aE zE (fun x : RowE sz' ok => x.1) hlenE (fun x v hv => oneCell_gv (x.2.2.1 v hv)) cf hswo g' #[] blk (off * sz') c d.toArray w (fun a W => hg.run a W) (cmp_lays hc hcf blk (off * sz') _ w) hH hblk (by simp; omega) hanti
        have hds : d.toArray.size = len := by simpa using hdl
        rw [hds] at key
        refine key.mono ?_
        rintro e w' ⟨rfl, n, os, rfl⟩
        simp only []
        rw [← hd2]
        have S1 := Step.draws R n
        have hS : Sized sz' (d2.map ((encE ·) ∘ (·.1))) := by
          intro y hy
          obtain ⟨x, -, rfl⟩ := List.mem_map.1 hy
          refine ⟨by simp [encE, hlenE], fun c hc => ?_⟩
          simp only [Function.comp, encE, List.mem_map] at hc
          obtain ⟨u, hu, rfl⟩ := hc
          exact x.2.2.1 u hu
        have hgv : ∀ v ∈ (d2.map (·.1)).flatten, gv v = true := by
          intro v hv
          obtain ⟨l, hl, hvl⟩ := List.mem_flatten.1 hv
          obtain ⟨x, -, rfl⟩ := List.mem_map.1 hl
          exact x.2.2.1 v hvl
        have hfl2 : (d2.map ((encE ·) ∘ (·.1))).flatten = encE (d2.map (·.1)).flatten := by
          unfold encE
          rw [List.map_flatten, List.map_map]
        have hvr : VRs μ h (d2.map ((encE ·) ∘ (·.1))).flatten (d2.map (·.1)).flatten := by rw [hfl2]; exact VRs.encE hgv
        obtain ⟨cur', T', row, q1, q2, q3, q4⟩ := seg_put (P := P) (off := off) S1.rel ho hmu hS hvr (fun v hv => oneCell_gv (hgv v hv)) (by simpa [hd2l] using hle)
        rw [List.length_map, hd2l] at q4
        have hfk2 := flatK_list (fun x : RowE sz' ok => x.1) sz' hlenE d2
        have hF : (flatK (fun x : RowE sz' ok => x.1) sz' d2.toArray).size = (d2.map (·.1)).flatten.length := by
          rw [← hfk2]; simp
        have hcc : cur' = cur := by
          have : (Sort.ahead w n).heap[blk]? = w.heap[blk]? := rfl
          rw [this, hbk] at q1
          injection q1 with q1
          injection q1 with q1
          exact q1.symm
        subst hcc
        have hput : putRowK (fun x : RowE sz' ok => x.1) sz' (Sort.ahead w n) blk (off * sz') d2.toArray = (Sort.ahead w n).setRow blk row := by
          unfold putRowK
          refine setRow_put (k := sz') q1 ?_ (by rw [q2, hF, hfk2])
          rw [hF, (flat_val (l := d2.map (·.1)) (k := sz') (fun e he => by obtain ⟨x, -, rfl⟩ := List.mem_map.1 he; exact hlenE x)).1, List.length_map, hd2l, hcur, ← Nat.add_mul]
          exact Nat.le_trans (Nat.mul_le_mul_right _ hle) (Nat.mul_le_mul_right _ hlec)
        unfold sortWorldK
        rw [hput]
        obtain ⟨μ3, S3⟩ := Step.grown os.toList q4.rel
        exact ⟨_, μ3, rfl, (S1.trans q4).trans (by simpa using S3), by simp [VR, VRs]⟩
      · rename_i A' hmu
        obtain ⟨rfl, rfl, -⟩ := hsl
        have hz := (R.obj _ _ ho).2
        rw [hmu] at hz
        have := hz.1
        subst this
        simp at hle
        omega
  · rename_i f caps
    simp only [Option.some.injEq, Prod.mk.injEq] at hk
    obtain ⟨rfl, rfl⟩ := hk
    simp only [VRs] at hargs
    obtain ⟨v1, vs1, hq1, hv1, v2, vs2, rfl, hv2, rfl⟩ := hargs
    have hcargs : cargs = #[v1, v2] := by apply Array.ext'; simpa using hq1
    subst hcargs
    simp only [VR] at hv1
    obtain ⟨-, rfl⟩ := hv1
    refine (AnyF.slices_SortFunc_none L none 0 v2 w).mono ?_
    rintro e w' ⟨rfl, rfl⟩
    exact ⟨_, μ, rfl, Step.refl R, by simp [VR, VRs]⟩
theorem sortF_val {k g : Nat} {ok : List Value → Bool} {Fc : Fun} (hok : SortOk k ok Fc) {id off len fr : Nat} {full : Bool} {h : Hp} {es : List (List AV)} {nil : Bool} {l : List (List Value)} (ho : h[id]? = some (.arr k es true nil)) (hfr : es.length = fr) (hle : off + len ≤ es.length) (hlen : len < 4611686018427387904) (hl : ((es.drop off).take len).mapM (decE k ok) = some l) :
    sortF k ok g Fc [.sl k id off len fr full, .fn g []] h = some (.tup [], h.set id (.arr k (es.take off ++ (l.mergeSort fun x y => !ltF Fc y x).map encE ++ es.drop (off + len)) true nil)) := by
  unfold sortF
  simp only [ho]
  rw [if_pos ⟨rfl, rfl, rfl, hfr, rfl, hle, hlen, hok⟩, hl]
end Go.AM
namespace Go.AM
open Go.RowKit Go.Sort Go.Proofs
def isI : Value → Bool
  | .int .i64 _ => true
  | _ => false
def okI (e : List Value) : Bool := e.all isI
def unI : Value → Int
  | .int _ n => n
  | _ => 0
def encZ (l : List Int) : List AV := l.map fun n => .s (.int .i64 n)
def valZ (l : List Int) : List Value := l.map fun n => .int .i64 n
theorem encE_valZ (l : List Int) : encE (valZ l) = encZ l := by simp [encE, valZ, encZ]
theorem okI_val : ∀ {e : List Value}, okI e = true → e = valZ (e.map unI)
  | [], _ => rfl
  | v :: e, h => by
    simp only [okI, List.all_cons, Bool.and_eq_true] at h
    have ih := okI_val (e := e) h.2
    cases v <;> simp [isI] at h
    rename_i kd n
    cases kd <;> simp at h
    simp only [List.map_cons, valZ, unI] at ih ⊢
    rw [← ih]
theorem okI_valZ (l : List Int) : okI (valZ l) = true := by simp [okI, valZ, isI]
def lexZ : List Int → List Int → Int
  | a :: as_, b :: bs => if a < b then -1 else if b < a then 1 else lexZ as_ bs
  | _, _ => 0
def ltZ (a b : List Int) : Bool := decide (lexZ a b < 0)
theorem lexZ_self : ∀ a, lexZ a a = 0
  | [] => rfl
  | a :: l => by simp [lexZ, lexZ_self l]
theorem ltZ_cons (a b : Int) (l r : List Int) : ltZ (a :: l) (b :: r) = (decide (a < b) || (decide (a = b) && ltZ l r)) := by
  unfold ltZ
  simp only [lexZ]
  by_cases h1 : a < b
  · simp [h1]
  · by_cases h2 : b < a
    · have : a ≠ b := by omega
      simp [h1, h2, this]
    · have : a = b := by omega
      simp [this]
theorem ltZ_irrefl (a : List Int) : ltZ a a = false := by simp [ltZ, lexZ_self]
theorem ltZ_trans : ∀ {n : Nat} {a b c : List Int}, a.length = n → b.length = n → c.length = n → ltZ a b = true → ltZ b c = true → ltZ a c = true
  | 0, a, b, c, ha, hb, hc, h1, h2 => by
    have : a = [] := List.eq_nil_of_length_eq_zero ha
    subst this
    cases b <;> simp [ltZ, lexZ] at h1
  | n + 1, [], b, c, ha, hb, hc, h1, h2 => by simp at ha
  | n + 1, a :: l, [], c, ha, hb, hc, h1, h2 => by simp at hb
  | n + 1, a :: l, b :: r, [], ha, hb, hc, h1, h2 => by simp at hc
  | n + 1, a :: l, b :: r, c :: s, ha, hb, hc, h1, h2 => by
    rw [ltZ_cons] at h1 h2 ⊢
    simp only [Bool.or_eq_true, Bool.and_eq_true, decide_eq_true_eq] at h1 h2 ⊢
    rcases h1 with h1 | ⟨h1, h1'⟩ <;> rcases h2 with h2 | ⟨h2, h2'⟩
    · exact .inl (by omega)
    · exact .inl (by omega)
    · exact .inl (by omega)
    · exact .inr ⟨by omega, ltZ_trans (n := n) (by simpa using ha) (by simpa using hb) (by simpa using hc) h1' h2'⟩
theorem ltZ_total : ∀ {n : Nat} {a b : List Int}, a.length = n → b.length = n → ltZ a b = false → ltZ b a = false → a = b
  | 0, a, b, ha, hb, _, _ => by rw [List.eq_nil_of_length_eq_zero ha, List.eq_nil_of_length_eq_zero hb]
  | n + 1, [], b, ha, hb, _, _ => by simp at ha
  | n + 1, a :: l, [], ha, hb, _, _ => by simp at hb
  | n + 1, a :: l, b :: r, ha, hb, h1, h2 => by
    rw [ltZ_cons] at h1 h2
    simp only [Bool.or_eq_false_iff, Bool.and_eq_false_iff, decide_eq_false_iff_not] at h1 h2
    have e : a = b := by omega
    subst e
    rw [ltZ_total (n := n) (a := l) (b := r) (by simpa using ha) (by simpa using hb) (by simpa using h1.2) (by simpa using h2.2)]
theorem sortOk_lex {k : Nat} {Fc : Fun} (hf : ∀ x y : List Int, x.length = k → y.length = k → Fc [.agg (encZ x), .agg (encZ y)] [] = some (.s (.int .i64 (lexZ x y)), [])) :
    SortOk k okI Fc ∧ ∀ x y : List Int, x.length = k → y.length = k → ltF Fc (valZ x) (valZ y) = ltZ x y := by
  constructor
  · refine ⟨fun x y => lexZ (x.1.map unI) (y.1.map unI), fun x y => ?_, ⟨fun x => ?_, fun x y z h1 h2 => ?_, fun x y z h1 h2 => ?_⟩, fun x y h1 h2 => ?_⟩
    · have := hf (x.1.map unI) (y.1.map unI) (by simp [x.2.1]) (by simp [y.2.1])
      rw [← encE_valZ, ← encE_valZ, ← okI_val (e := x.1) x.2.2.2, ← okI_val (e := y.1) y.2.2.2] at this
      exact this
    · show ltZ _ _ = false
      exact ltZ_irrefl _
    · exact ltZ_trans (n := k) (a := x.1.map unI) (b := y.1.map unI) (c := z.1.map unI) (by simp [x.2.1]) (by simp [y.2.1]) (by simp [z.2.1]) h1 h2
    · have hx : (x.1.map unI).length = k := by simp [x.2.1]
      have hy : (y.1.map unI).length = k := by simp [y.2.1]
      have hz : (z.1.map unI).length = k := by simp [z.2.1]
      change ltZ (x.1.map unI) (y.1.map unI) = false at h1
      change ltZ (y.1.map unI) (z.1.map unI) = false at h2
      show ltZ (x.1.map unI) (z.1.map unI) = false
      cases h3 : ltZ (x.1.map unI) (z.1.map unI) with
      | false => rfl
      | true =>
        cases h4 : ltZ (z.1.map unI) (y.1.map unI) with
        | true => rw [ltZ_trans hx hz hy h3 h4] at h1; cases h1
        | false =>
          have := ltZ_total hy hz h2 h4
          rw [this] at h1
          rw [h1] at h3
          cases h3
    · have := ltZ_total (n := k) (a := x.1.map unI) (b := y.1.map unI) (by simp [x.2.1]) (by simp [y.2.1]) h1 h2
      apply Subtype.ext
      exact (okI_val (e := x.1) x.2.2.2).trans ((congrArg valZ this).trans (okI_val (e := y.1) y.2.2.2).symm)
  · intro x y hx hy
    unfold ltF ltZ
    rw [encE_valZ, encE_valZ, hf x y hx hy]
theorem decE_encZ {k : Nat} {l : List Int} (hl : l.length = k) : decE k okI (encZ l) = some (valZ l) := by
  have h1 : (encZ l).mapM cellV = some (valZ l) := by
    clear hl
    induction l with
    | nil => rfl
    | cons n l ih =>
      simp only [encZ, valZ, List.map_cons, List.mapM_cons] at ih ⊢
      rw [ih]
      rfl
  unfold decE
  rw [h1]
  simp [valZ, hl]
  exact okI_valZ l
theorem mapM_decZ {k : Nat} : ∀ {l : List (List Int)}, (∀ x ∈ l, x.length = k) → (l.map encZ).mapM (decE k okI) = some (l.map valZ)
  | [], _ => rfl
  | x :: l, h => by
    simp only [List.map_cons, List.mapM_cons]
    rw [decE_encZ (h x (by simp)), mapM_decZ fun y hy => h y (by simp [hy])]
    rfl
theorem sortZ_val {k g : Nat} {Fc : Fun} (hf : ∀ x y : List Int, x.length = k → y.length = k → Fc [.agg (encZ x), .agg (encZ y)] [] = some (.s (.int .i64 (lexZ x y)), [])) {id off len fr : Nat} {full : Bool} {h : Hp} {es : List (List AV)} {nil : Bool} {l : List (List Int)}
    (ho : h[id]? = some (.arr k es true nil)) (hfr : es.length = fr) (hle : off + len ≤ es.length) (hlen : len < 4611686018427387904) (hs : ∀ x ∈ l, x.length = k) (hl : (es.drop off).take len = l.map encZ) :
    sortF k okI g Fc [.sl k id off len fr full, .fn g []] h = some (.tup [], h.set id (.arr k (es.take off ++ (l.mergeSort fun x y => !ltZ y x).map encZ ++ es.drop (off + len)) true nil)) := by
  obtain ⟨h1, h2⟩ := sortOk_lex hf
  rw [sortF_val (g := g) (l := l.map valZ) h1 ho hfr hle hlen (by rw [hl]; exact mapM_decZ hs)]
  have e : (l.map valZ).mergeSort (fun x y => !ltF Fc y x) = (l.mergeSort fun x y => !ltZ y x).map valZ := by
    rw [List.map_mergeSort]
    intro a ha b hb
    rw [h2 b a (hs b hb) (hs a ha)]
  rw [e, List.map_map]
  have : encE ∘ valZ = encZ := by funext x; exact encE_valZ x
  rw [this]
end Go.AM


namespace Go.Proofs
open Go.Shelf
def Try.sort39_ren : Go.Shelf.Ren := ⟨fun | 6 => 39 | 15 => 56 | 14 => 55 | 28 => 69 | 29 => 70 | 20 => 61 | 21 => 62 | 22 => 63 | 23 => 64 | 24 => 65 | 25 => 66 | 26 => 67 | 27 => 68 | 46 => 72 | 47 => 73 | 48 => 74 | 49 => 75 | 50 => 76 | 57 => 77 | n => n, fun | 22 => 24 | 24 => 23 | 25 => 61 | 3 => 3 | 39 => 72 | 0 => 0 | 53 => 90 | 55 => 92 | 4 => 4 | 46 => 83 | 45 => 82 | 50 => 87 | 5 => 5 | 9 => 9 | 66 => 94 | 70 => 98 | 76 => 100 | 77 => 101 | n => n, fun | n => n⟩
theorem Try.sort39 : Go.Proofs.SlLaysF0.n6 Try.prog Try.sort39_ren := {
  mixed := by kernel_rfl
  f6 := ⟨Try.f39.name, by decide, Try.func39.trans (congrArg some (by kernel_rfl))⟩
  f14 := ⟨Try.f55.name, by decide, Try.func55.trans (congrArg some (by kernel_rfl))⟩
  f15 := Try.func56.trans (congrArg some (by kernel_rfl))
  f20 := ⟨Try.f61.name, by decide, Try.func61.trans (congrArg some (by kernel_rfl))⟩
  f21 := ⟨Try.f62.name, by decide, Try.func62.trans (congrArg some (by kernel_rfl))⟩
  f22 := ⟨Try.f63.name, by decide, Try.func63.trans (congrArg some (by kernel_rfl))⟩
  f23 := ⟨Try.f64.name, by decide, Try.func64.trans (congrArg some (by kernel_rfl))⟩
  f24 := ⟨Try.f65.name, by decide, Try.func65.trans (congrArg some (by kernel_rfl))⟩
  f25 := ⟨Try.f66.name, by decide, Try.func66.trans (congrArg some (by kernel_rfl))⟩
  f26 := ⟨Try.f67.name, by decide, Try.func67.trans (congrArg some (by kernel_rfl))⟩
  f27 := ⟨Try.f68.name, by decide, Try.func68.trans (congrArg some (by kernel_rfl))⟩
  f28 := Try.func69.trans (congrArg some (by kernel_rfl))
  f29 := Try.func70.trans (congrArg some (by kernel_rfl))
  f46 := ⟨Try.f72.name, by decide, Try.func72.trans (congrArg some (by kernel_rfl))⟩
  f47 := Try.func73.trans (congrArg some (by kernel_rfl))
  f48 := Try.func74.trans (congrArg some (by kernel_rfl))
  f49 := ⟨Try.f75.name, by decide, Try.func75.trans (congrArg some (by kernel_rfl))⟩
  f50 := ⟨Try.f76.name, by decide, Try.func76.trans (congrArg some (by kernel_rfl))⟩
  f57 := ⟨Try.f77.name, by decide, Try.func77.trans (congrArg some (by kernel_rfl))⟩
  t0 := Try.underlying0
  a0 := Try.isAgg0
  z0 := Try.sizeOf0
  v0 := Try.zeroValue0
  t3 := Try.underlying3
  a3 := Try.isAgg3
  z3 := Try.sizeOf3
  v3 := Try.zeroValue3
  t4 := Try.underlying4
  a4 := Try.isAgg4
  z4 := Try.sizeOf4
  v4 := Try.zeroValue4
  t5 := Try.underlying5
  a5 := Try.isAgg5
  z5 := Try.sizeOf5
  v5 := Try.zeroValue5
  t9 := Try.underlying9
  a9 := Try.isAgg9
  z9 := Try.sizeOf9
  v9 := Try.zeroValue9
  t22 := Try.underlying24
  a22 := Try.isAgg24
  z22 := Try.sizeOf24
  v22 := Try.zeroValue24
  t25 := Try.underlying61
  a25 := Try.isAgg61
  z25 := Try.sizeOf61
  v25 := Try.zeroValue61
  t39 := Try.underlying72
  a39 := Try.isAgg72
  z39 := Try.sizeOf72
  v39 := Try.zeroValue72
  t45 := Try.underlying82
  a45 := Try.isAgg82
  z45 := Try.sizeOf82
  v45 := Try.zeroValue82
  t46 := Try.underlying83
  a46 := Try.isAgg83
  z46 := Try.sizeOf83
  v46 := Try.zeroValue83
  t50 := Try.underlying87
  a50 := Try.isAgg87
  z50 := Try.sizeOf87
  v50 := Try.zeroValue87
  t53 := Try.underlying90
  a53 := Try.isAgg90
  z53 := Try.sizeOf90
  v53 := Try.zeroValue90
  t55 := Try.underlying92
  a55 := Try.isAgg92
  z55 := Try.sizeOf92
  v55 := Try.zeroValue92
  t66 := Try.underlying94
  a66 := Try.isAgg94
  z66 := Try.sizeOf94
  v66 := Try.zeroValue94
  t70 := Try.underlying98
  a70 := Try.isAgg98
  z70 := Try.sizeOf98
  v70 := Try.zeroValue98
  t76 := Try.underlying100
  a76 := Try.isAgg100
  z76 := Try.sizeOf100
  v76 := Try.zeroValue100
  t77 := Try.underlying101
  a77 := Try.isAgg101
  z77 := Try.sizeOf101
  v77 := Try.zeroValue101 }
end Go.Proofs

