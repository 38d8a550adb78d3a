import Derived.Test.YtoamikbdfedngaaGreatG3
set_option linter.unusedSectionVars false
set_option linter.unusedVariables false
set_option linter.unusedSimpArgs false
set_option linter.constructorNameAsVariable false
namespace Go.AM
open Go.Proofs
set_option linter.unusedVariables false
set_option maxRecDepth 100000
def o_slices_IndexFunc_Leg_G (P : Program) (T : Tab) (D : DTab) (N : Nat) {β : Type} (cL2 : St → Option β) (K : AV → Hp → Option β) (a0 : AV) (a1 : AV) (h : Hp) :  Option β :=
lenK a0 fun x1 =>
cL2 ((upd (upd (upd (tm0 [a0, a1]) 4 (.s (.int .i64 0))) 7 x1) 8 (.s (.int .i64 0))), h)
def o_slices_IndexFunc_Leg (P : Program) (T : Tab) (D : DTab) (N : Nat) {β : Type} (K : AV → Hp → Option β) (a0 : AV) (a1 : AV) (h : Hp) : Option β := o_slices_IndexFunc_Leg_G P T D N (fun s => iterK (fun s k => o_slices_IndexFunc_Leg_L2 P T D N s.1 s.2 k) N s (o_slices_IndexFunc_Leg_aL2 P T D N K)) K a0 a1 h
def f_slices_IndexFunc_Leg_j1 (P : Program) (T : Tab) (D : DTab) (N : Nat) {β : Type} (K : AV → Hp → Option β) (h : Hp) : Option β :=
K (.s (.int .i64 (-1))) h
def f_slices_IndexFunc_Leg_b2 (P : Program) (T : Tab) (D : DTab) (N : Nat) {β : Type} (xn : AV → AV → AV → AV → Hp → Option β) (x0 : Hp → Option β) (xr : AV → Hp → Option β) (v0 : AV) (v1 : AV) (v7 : AV) (v8 : AV) (h : Hp) : Option β :=
arithK .lss v8 v7 fun x2 =>
condK x2 (
iaK 1 v0 v8 fun x3 =>
ldK 1 false x3 h fun x4 =>
callVK T v1 [x4] h fun x5 h6 =>
condK x5 (
xr v8 h6) (
arithK .add v8 (.s (.int .i64 1)) fun x7 =>
xn v0 v1 v7 x7 h6)) (
x0 h)
def f_slices_IndexFunc_Leg_L2 (P : Program) (T : Tab) (D : DTab) (N : Nat) {β : Type} (x0 : Hp → Option β) (xr : AV → Hp → Option β) : Nat → AV → AV → AV → AV → Hp → Option β
  | 0 => fun _ _ _ _ _ => none
  | n + 1 => fun v0 v1 v7 v8 h => f_slices_IndexFunc_Leg_b2 P T D N (f_slices_IndexFunc_Leg_L2 P T D N x0 xr n) x0 xr v0 v1 v7 v8 h
def f_slices_IndexFunc_Leg (P : Program) (T : Tab) (D : DTab) (N : Nat) {β : Type} (K : AV → Hp → Option β) (a0 : AV) (a1 : AV) (h : Hp) : Option β :=
lenK a0 fun x1 =>
f_slices_IndexFunc_Leg_L2 P T D N (fun h => f_slices_IndexFunc_Leg_j1 P T D N K h) (fun w9_4 h => K w9_4 h) N a0 a1 x1 (.s (.int .i64 0)) h
theorem f_slices_IndexFunc_Leg_b2_eq (P : Program) (T : Tab) (D : DTab) (N : Nat) {β : Type} (xn : AV → AV → AV → AV → Hp → Option β) (x0 : Hp → Option β) (xr : AV → Hp → Option β) (xd : Nat → St → Option β) (xq : St → Option β) (t : Tm) (h : Hp) : o_slices_IndexFunc_Leg_L2 P T D N t h (fun (e : Ex) (s : St) => e.on (xn (s.1 0) (s.1 1) (s.1 7) (s.1 8) s.2) (fun i => (bif i == 0 then x0 s.2 else (xd i s))) (xr (s.1 4) s.2)) = f_slices_IndexFunc_Leg_b2 P T D N xn x0 xr (t 0) (t 1) (t 7) (t 8) h := by kernel_rfl
theorem f_slices_IndexFunc_Leg_L2_eq (P : Program) (T : Tab) (D : DTab) (N : Nat) {β : Type} (A : Ex → St → Option β) (x0 : Hp → Option β) (xr : AV → Hp → Option β) (q0 : ∀ s, A (.exit 0) s = x0 s.2) (qr : ∀ s, A .ret s = xr (s.1 4) s.2) : ∀ (n : Nat) (s : St), iterK (fun s k => o_slices_IndexFunc_Leg_L2 P T D N s.1 s.2 k) n s A = f_slices_IndexFunc_Leg_L2 P T D N x0 xr n (s.1 0) (s.1 1) (s.1 7) (s.1 8) s.2 := by
  intro n
  induction n with
  | zero => intro s; rfl
  | succ n ih =>
    intro s
    have hk : (fun (e : Ex) (s' : St) => Ex.on e (iterK (fun s k => o_slices_IndexFunc_Leg_L2 P T D N s.1 s.2 k) n s' A) (fun i => A (.exit i) s') (A .ret s')) = (fun (e : Ex) (s : St) => e.on ((f_slices_IndexFunc_Leg_L2 P T D N x0 xr n) (s.1 0) (s.1 1) (s.1 7) (s.1 8) s.2) (fun i => (bif i == 0 then x0 s.2 else (A (.exit i) s))) (xr (s.1 4) s.2)) := by
      funext e s'
      cases e with
      | normal => exact ih s'
      | ret => exact qr s'
      | exit i =>
        by_cases r0 : i = 0
        · subst r0; exact q0 s'
        simp only [Ex.on, beq_false_of_ne r0, cond_false]
    show o_slices_IndexFunc_Leg_L2 P T D N s.1 s.2 (fun (e : Ex) (s' : St) => Ex.on e (iterK (fun s k => o_slices_IndexFunc_Leg_L2 P T D N s.1 s.2 k) n s' A) (fun i => A (.exit i) s') (A .ret s')) = _
    rw [hk]
    exact f_slices_IndexFunc_Leg_b2_eq P T D N (f_slices_IndexFunc_Leg_L2 P T D N x0 xr n) x0 xr (fun i s => A (.exit i) s) (fun s => A .ret s) s.1 s.2
theorem f_slices_IndexFunc_Leg_old_eq (P : Program) (T : Tab) (D : DTab) (N : Nat) {β : Type} (K : AV → Hp → Option β) (a0 : AV) (a1 : AV) (h : Hp) : o_slices_IndexFunc_Leg P T D N K a0 a1 h = f_slices_IndexFunc_Leg P T D N K a0 a1 h := by
  have eL2 : (fun s : St => iterK (fun s k => o_slices_IndexFunc_Leg_L2 P T D N s.1 s.2 k) N s (o_slices_IndexFunc_Leg_aL2 P T D N K)) = (fun s : St => f_slices_IndexFunc_Leg_L2 P T D N (fun h => f_slices_IndexFunc_Leg_j1 P T D N K h) (fun w9_4 h => K w9_4 h) N (s.1 0) (s.1 1) (s.1 7) (s.1 8) s.2) := funext fun s => f_slices_IndexFunc_Leg_L2_eq P T D N (o_slices_IndexFunc_Leg_aL2 P T D N K) (fun h => f_slices_IndexFunc_Leg_j1 P T D N K h) (fun w9_4 h => K w9_4 h) (fun s => rfl) (fun s => rfl) N s
  show o_slices_IndexFunc_Leg_G P T D N (fun s => iterK (fun s k => o_slices_IndexFunc_Leg_L2 P T D N s.1 s.2 k) N s (o_slices_IndexFunc_Leg_aL2 P T D N K)) K a0 a1 h = _
  rw [eL2]
  kernel_rfl
theorem o_slices_IndexFunc_Leg_run (T : Tab) (D : DTab) (N : Nat) {β : Type} (K : AV → Hp → Option β) (a0 : AV) (a1 : AV) (h : Hp) : runK Tryz.prog T D N [0, 1, 4, 5, 7, 8, 9, 16] Tryz.f78 K [a0, a1] h = o_slices_IndexFunc_Leg Tryz.prog T D N K a0 a1 h := by kernel_rfl
theorem f_slices_IndexFunc_Leg_run (T : Tab) (D : DTab) (N : Nat) {β : Type} (K : AV → Hp → Option β) (a0 : AV) (a1 : AV) (h : Hp) : runK Tryz.prog T D N [0, 1, 4, 5, 7, 8, 9, 16] Tryz.f78 K [a0, a1] h = f_slices_IndexFunc_Leg Tryz.prog T D N K a0 a1 h := (o_slices_IndexFunc_Leg_run T D N K a0 a1 h).trans (f_slices_IndexFunc_Leg_old_eq Tryz.prog T D N K a0 a1 h)
def f_proportion_amounts (P : Program) (T : Tab) (D : DTab) (N : Nat) {β : Type} (K : AV → Hp → Option β) (a0 : AV) (h : Hp) : Option β :=
callK (T 93) [a0, (.fn 94 [])] h fun x1 h2 =>
notK x1 fun x3 =>
K x3 h2
theorem f_proportion_amounts_run (T : Tab) (D : DTab) (N : Nat) {β : Type} (K : AV → Hp → Option β) (a0 : AV) (h : Hp) : runK Tryz.prog T D N [0, 2] Tryz.f79 K [a0] h = f_proportion_amounts Tryz.prog T D N K a0 h := by kernel_rfl
def f_proportion_divided (P : Program) (T : Tab) (D : DTab) (N : Nat) {β : Type} (K : AV → Hp → Option β) (a0 : AV) (a1 : AV) (a2 : AV) (h : Hp) : Option β :=
callK (T 96) [a0, a1] h fun x1 h2 =>
effK (boxE 2 (.agg [.s (.int .u64 0), .s (.int .u64 0)]) (List.length h2)) h2 fun x3 h4 =>
effK (stE 2 x3 x1 h4) h4 fun x5 h6 =>
iaA 1 2 x3 (.s (.int .i64 0)) fun x7 =>
ldK 1 false x7 h6 fun x8 =>
convK P 3 115 a2 fun x9 =>
arithK .geq x8 x9 fun x10 =>
condK x10 (
K (.tup [(.s (.int .i64 0)), (.s (.int .i64 0)), (.s (.bool false))]) h6) (
iaA 1 2 x3 (.s (.int .i64 0)) fun x11 =>
ldK 1 false x11 h6 fun x12 =>
iaA 1 2 x3 (.s (.int .i64 1)) fun x13 =>
ldK 1 false x13 h6 fun x14 =>
convK P 3 115 a2 fun x15 =>
callK (T 97) [x12, x14, x15] h6 fun x16 h17 =>
exK x16 0 fun x18 =>
exK x16 1 fun x19 =>
arithK .gtr x18 (.s (.int .u64 128849018880000)) fun x20 =>
condK x20 (
K (.tup [(.s (.int .i64 0)), (.s (.int .i64 0)), (.s (.bool false))]) h17) (
convK P 115 3 x18 fun x21 =>
convK P 115 3 x19 fun x22 =>
K (.tup [x21, x22, (.s (.bool true))]) h17))
theorem f_proportion_divided_run (T : Tab) (D : DTab) (N : Nat) {β : Type} (K : AV → Hp → Option β) (a0 : AV) (a1 : AV) (a2 : AV) (h : Hp) : runK Tryz.prog T D N [0, 1, 2, 6, 7, 8, 9, 10, 11, 19, 31] Tryz.f80 K [a0, a1, a2] h = f_proportion_divided Tryz.prog T D N K a0 a1 a2 h := by kernel_rfl
def f_season_on_j3 (P : Program) (T : Tab) (D : DTab) (N : Nat) {β : Type} (K : AV → Hp → Option β) (v1 : AV) (v3 : AV) (v5 : AV) (v8 : AV) (v11 : AV) (h : Hp) : Option β :=
ldK 1 false v3 h fun x29 =>
ldK 1 false v5 h fun x30 =>
callK (T 102) [x29, x30] h fun x31 h32 =>
exK x31 0 fun x33 =>
exK x31 1 fun x34 =>
notK x34 fun x35 =>
condK x35 (
K (.tup [(.s (.int .i64 0)), v11]) h32) (
ldK 1 false v3 h32 fun x36 =>
faK 1 v8 fun x37 =>
ldK 1 false x37 h32 fun x38 =>
callK (T 103) [x36, x33, v1, x38] h32 fun x39 h40 =>
K (.tup [x39, v11]) h40)
def f_season_on_j2 (P : Program) (T : Tab) (D : DTab) (N : Nat) {β : Type} (K : AV → Hp → Option β) (v1 : AV) (v3 : AV) (v5 : AV) (v8 : AV) (v11 : AV) (h : Hp) : Option β :=
ldK 1 false v3 h fun x41 =>
lenK x41 fun x42 =>
callK (T 100) [x42, (.fn 101 [v3, v5])] h fun x43 h44 =>
ldK 1 false v3 h44 fun x45 =>
lenK x45 fun x46 =>
arithK .lss x43 x46 fun x47 =>
condK x47 (
ldK 1 false v3 h44 fun x48 =>
iaK 4 x48 x43 fun x49 =>
faK 0 x49 fun x50 =>
ldK 1 false x50 h44 fun x51 =>
minK v11 x51 fun x52 =>
f_season_on_j3 P T D N K v1 v3 v5 v8 x52 h44) (
f_season_on_j3 P T D N K v1 v3 v5 v8 v11 h44)
def f_season_on_j1 (P : Program) (T : Tab) (D : DTab) (N : Nat) {β : Type} (K : AV → Hp → Option β) (v1 : AV) (v3 : AV) (v5 : AV) (v8 : AV) (v10 : AV) (h : Hp) : Option β :=
ldK 3 true v10 h fun x24 =>
callK (T 99) [x24] h fun x25 h26 =>
exK x25 0 fun x27 =>
exK x25 1 fun x28 =>
eqK P true 28 x28 (.s (.int .i64 0)) h26 fun x53 =>
condK x53 (
f_season_on_j2 P T D N K v1 v3 v5 v8 (.s (.int .i64 100001)) h26) (
f_season_on_j2 P T D N K v1 v3 v5 v8 x27 h26)
def f_season_on (P : Program) (T : Tab) (D : DTab) (N : Nat) {β : Type} (K : AV → Hp → Option β) (a0 : AV) (a1 : AV) (a2 : AV) (h : Hp) : Option β :=
effK (boxE 1 a0 (List.length h)) h fun x1 h2 =>
effK (boxE 1 a2 (List.length h2)) h2 fun x3 h4 =>
ldK 1 false x3 h4 fun x5 =>
callK (T 98) [x5] h4 fun x6 h7 =>
exK x6 0 fun x8 =>
exK x6 1 fun x9 =>
effK (boxE 3 (.agg [.s (.int .i64 0), .s (.int .i64 0), .s (.int .i64 0)]) (List.length h7)) h7 fun x10 h11 =>
effK (stE 3 x10 x8 h11) h11 fun x12 h13 =>
faK 0 x10 fun x14 =>
ldK 1 false x14 h13 fun x15 =>
faK 1 x10 fun x16 =>
ldK 1 false x16 h13 fun x17 =>
arithK .add x17 (.s (.int .i64 1)) fun x18 =>
buildK [.s (.int .i64 0), .s (.int .i64 0), .s (.int .i64 0)] [(some (0, 1), x15), (some (1, 1), x18), (some (2, 1), (.s (.int .i64 1)))] fun x19 =>
effK (boxE 3 (.agg [.s (.int .i64 0), .s (.int .i64 0), .s (.int .i64 0)]) (List.length h13)) h13 fun x20 h21 =>
effK (stE 3 x20 x19 h21) h21 fun x22 h23 =>
faK 1 x10 fun x54 =>
ldK 1 false x54 h23 fun x55 =>
eqK P false 3 x55 (.s (.int .i64 12)) h23 fun x56 =>
condK x56 (
faK 0 x10 fun x57 =>
ldK 1 false x57 h23 fun x58 =>
arithK .add x58 (.s (.int .i64 1)) fun x59 =>
faK 0 x20 fun x60 =>
effK (stE 1 x60 x59 h23) h23 fun x61 h62 =>
faK 1 x20 fun x63 =>
effK (stE 1 x63 (.s (.int .i64 1)) h62) h62 fun x64 h65 =>
f_season_on_j1 P T D N K a1 x1 x3 x10 x20 h65) (
f_season_on_j1 P T D N K a1 x1 x3 x10 x20 h23)
theorem f_season_on_run (T : Tab) (D : DTab) (N : Nat) {β : Type} (K : AV → Hp → Option β) (a0 : AV) (a1 : AV) (a2 : AV) (h : Hp) : runK Tryz.prog T D N [0, 1, 2, 3, 5, 6, 7, 8, 10, 11, 12, 13, 14, 15, 29, 41, 49, 64] Tryz.f81 K [a0, a1, a2] h = f_season_on Tryz.prog T D N K a0 a1 a2 h := by kernel_rfl
def f_loss_split_1 (P : Program) (T : Tab) (D : DTab) (N : Nat) {β : Type} (K : AV → Hp → Option β) (a0 : AV) (a1 : AV) (h : Hp) : Option β :=
ldK 1 false a1 h fun x1 =>
minK a0 x1 fun x2 =>
ldK 1 false a1 h fun x3 =>
arithK .sub x3 x2 fun x4 =>
effK (stE 1 a1 x4 h) h fun x5 h6 =>
K x2 h6
theorem f_loss_split_1_run (T : Tab) (D : DTab) (N : Nat) {β : Type} (K : AV → Hp → Option β) (a0 : AV) (a1 : AV) (h : Hp) : runK Tryz.prog T D N [0, 1, 3, 4] Tryz.f82 K [a0, a1] h = f_loss_split_1 Tryz.prog T D N K a0 a1 h := by kernel_rfl
def f_ref31_Behind (P : Program) (T : Tab) (D : DTab) (N : Nat) {β : Type} (K : AV → Hp → Option β) (a0 : AV) (a1 : AV) (h : Hp) : Option β :=
effK (boxE 4 a0 (List.length h)) h fun x1 h2 =>
effK (boxE 4 a1 (List.length h2)) h2 fun x3 h4 =>
faK 0 x1 fun x5 =>
ldK 1 false x5 h4 fun x6 =>
faK 0 x3 fun x7 =>
ldK 1 false x7 h4 fun x8 =>
eqK P true 3 x6 x8 h4 fun x9 =>
condK x9 (
faK 0 x1 fun x10 =>
ldK 1 false x10 h4 fun x11 =>
faK 0 x3 fun x12 =>
ldK 1 false x12 h4 fun x13 =>
arithK .gtr x11 x13 fun x14 =>
K x14 h4) (
faK 1 x1 fun x15 =>
ldK 1 false x15 h4 fun x16 =>
faK 1 x3 fun x17 =>
ldK 1 false x17 h4 fun x18 =>
eqK P true 3 x16 x18 h4 fun x19 =>
condK x19 (
faK 1 x1 fun x20 =>
ldK 1 false x20 h4 fun x21 =>
faK 1 x3 fun x22 =>
ldK 1 false x22 h4 fun x23 =>
arithK .gtr x21 x23 fun x24 =>
K x24 h4) (
faK 2 x1 fun x25 =>
ldK 1 false x25 h4 fun x26 =>
faK 2 x3 fun x27 =>
ldK 1 false x27 h4 fun x28 =>
arithK .gtr x26 x28 fun x29 =>
K x29 h4))
theorem f_ref31_Behind_run (T : Tab) (D : DTab) (N : Nat) {β : Type} (K : AV → Hp → Option β) (a0 : AV) (a1 : AV) (h : Hp) : runK Tryz.prog T D N [0, 1, 2, 3, 4, 9, 19] Tryz.f83 K [a0, a1] h = f_ref31_Behind Tryz.prog T D N K a0 a1 h := by kernel_rfl
def f_ref45_form_j1 (P : Program) (T : Tab) (D : DTab) (N : Nat) {β : Type} (K : AV → Hp → Option β) (v1 : AV) (v4 : AV) (h : Hp) : Option β :=
faK 0 v1 fun x12 =>
ldK 1 false x12 h fun x13 =>
arithK .lss x13 (.s (.int .i64 0)) fun x14 =>
grpK false x14 h (fun k15 =>
faK 0 v1 fun x16 =>
ldK 1 false x16 h fun x17 =>
arithK .gtr x17 (.s (.int .i64 100000)) fun x18 =>
k15 x18 h) fun x19 h20 =>
grpK false x19 h20 (fun k21 =>
notK v4 fun x22 =>
k21 x22 h20) fun x23 h24 =>
condK x23 (
K (.s (.int .i64 2)) h24) (
K (.s (.int .i64 0)) h24)
def f_ref45_form_j2 (P : Program) (T : Tab) (D : DTab) (N : Nat) {β : Type} (K : AV → Hp → Option β) (v1 : AV) (v4 : AV) (h : Hp) : Option β :=
f_ref45_form_j1 P T D N K v1 v4 h
def f_ref45_form_j3 (P : Program) (T : Tab) (D : DTab) (N : Nat) {β : Type} (K : AV → Hp → Option β) (v1 : AV) (v3 : AV) (v4 : AV) (v14 : AV) (v80 : AV) (h : Hp) : Option β :=
condK v80 (
faK 2 v1 fun x100 =>
ldK 1 false x100 h fun x101 =>
eqK P false 3 x101 (.s (.int .i64 0)) h fun x102 =>
grpK true x102 h (fun k103 =>
faK 3 v1 fun x104 =>
ldK 1 false x104 h fun x105 =>
eqK P false 3 x105 (.s (.int .i64 0)) h fun x106 =>
k103 x106 h) fun x107 h108 =>
grpK true x107 h108 (fun k109 =>
k109 v3 h108) fun x110 h111 =>
f_ref45_form_j2 P T D N K v1 x110 h111) (
eqK P false 3 v14 (.s (.int .i64 7)) h fun x112 =>
condK x112 (
faK 2 v1 fun x113 =>
ldK 1 false x113 h fun x114 =>
callK (T 104) [x114] h fun x115 h116 =>
grpK true x115 h116 (fun k117 =>
faK 3 v1 fun x118 =>
ldK 1 false x118 h116 fun x119 =>
eqK P false 3 x119 (.s (.int .i64 0)) h116 fun x120 =>
k117 x120 h116) fun x121 h122 =>
grpK true x121 h122 (fun k123 =>
grpK false v3 h122 (fun k124 =>
faK 4 v1 fun x125 =>
ldK 1 false x125 h122 fun x126 =>
eqK P false 3 x126 (.s (.int .i64 0)) h122 fun x127 =>
k124 x127 h122) fun x128 h129 =>
k123 x128 h129) fun x130 h131 =>
f_ref45_form_j2 P T D N K v1 x130 h131) (
f_ref45_form_j2 P T D N K v1 v4 h))
def f_ref45_form (P : Program) (T : Tab) (D : DTab) (N : Nat) {β : Type} (K : AV → Hp → Option β) (a0 : AV) (h : Hp) : Option β :=
effK (boxE 5 a0 (List.length h)) h fun x1 h2 =>
faK 4 x1 fun x3 =>
ldK 1 false x3 h2 fun x4 =>
arithK .geq x4 (.s (.int .i64 1)) fun x5 =>
grpK true x5 h2 (fun k6 =>
faK 4 x1 fun x7 =>
ldK 1 false x7 h2 fun x8 =>
arithK .leq x8 (.s (.int .i64 10737418240000)) fun x9 =>
k6 x9 h2) fun x10 h11 =>
faK 1 x1 fun x25 =>
ldK 1 false x25 h11 fun x26 =>
eqK P false 3 x26 (.s (.int .i64 1)) h11 fun x27 =>
condK x27 (
faK 2 x1 fun x28 =>
ldK 1 false x28 h11 fun x29 =>
callK (T 104) [x29] h11 fun x30 h31 =>
grpK true x30 h31 (fun k32 =>
faK 3 x1 fun x33 =>
ldK 1 false x33 h31 fun x34 =>
callK (T 104) [x34] h31 fun x35 h36 =>
k32 x35 h36) fun x37 h38 =>
grpK true x37 h38 (fun k39 =>
faK 2 x1 fun x40 =>
ldK 1 false x40 h38 fun x41 =>
faK 3 x1 fun x42 =>
ldK 1 false x42 h38 fun x43 =>
eqK P true 3 x41 x43 h38 fun x44 =>
k39 x44 h38) fun x45 h46 =>
grpK true x45 h46 (fun k47 =>
k47 x10 h46) fun x48 h49 =>
f_ref45_form_j2 P T D N K x1 x48 h49) (
eqK P false 3 x26 (.s (.int .i64 2)) h11 fun x50 =>
condK x50 (
faK 2 x1 fun x51 =>
ldK 1 false x51 h11 fun x52 =>
callK (T 104) [x52] h11 fun x53 h54 =>
grpK true x53 h54 (fun k55 =>
faK 3 x1 fun x56 =>
ldK 1 false x56 h54 fun x57 =>
eqK P false 3 x57 (.s (.int .i64 0)) h54 fun x58 =>
k55 x58 h54) fun x59 h60 =>
grpK true x59 h60 (fun k61 =>
faK 4 x1 fun x62 =>
ldK 1 false x62 h60 fun x63 =>
eqK P false 3 x63 (.s (.int .i64 0)) h60 fun x64 =>
k61 x64 h60) fun x65 h66 =>
f_ref45_form_j2 P T D N K x1 x65 h66) (
eqK P false 3 x26 (.s (.int .i64 3)) h11 fun x67 =>
condK x67 (
faK 2 x1 fun x68 =>
ldK 1 false x68 h11 fun x69 =>
eqK P false 3 x69 (.s (.int .i64 0)) h11 fun x70 =>
grpK true x70 h11 (fun k71 =>
faK 3 x1 fun x72 =>
ldK 1 false x72 h11 fun x73 =>
eqK P false 3 x73 (.s (.int .i64 0)) h11 fun x74 =>
k71 x74 h11) fun x75 h76 =>
grpK true x75 h76 (fun k77 =>
faK 4 x1 fun x78 =>
ldK 1 false x78 h76 fun x79 =>
eqK P false 3 x79 (.s (.int .i64 0)) h76 fun x80 =>
k77 x80 h76) fun x81 h82 =>
f_ref45_form_j2 P T D N K x1 x81 h82) (
eqK P false 3 x26 (.s (.int .i64 4)) h11 fun x83 =>
condK x83 (
faK 2 x1 fun x84 =>
ldK 1 false x84 h11 fun x85 =>
eqK P false 3 x85 (.s (.int .i64 0)) h11 fun x86 =>
grpK true x86 h11 (fun k87 =>
faK 3 x1 fun x88 =>
ldK 1 false x88 h11 fun x89 =>
callK (T 104) [x89] h11 fun x90 h91 =>
k87 x90 h91) fun x92 h93 =>
grpK true x92 h93 (fun k94 =>
faK 4 x1 fun x95 =>
ldK 1 false x95 h93 fun x96 =>
eqK P false 3 x96 (.s (.int .i64 0)) h93 fun x97 =>
k94 x97 h93) fun x98 h99 =>
f_ref45_form_j2 P T D N K x1 x98 h99) (
eqK P false 3 x26 (.s (.int .i64 5)) h11 fun x132 =>
condK x132 (
f_ref45_form_j3 P T D N K x1 x10 (.s (.bool false)) x26 x132 h11) (
eqK P false 3 x26 (.s (.int .i64 6)) h11 fun x133 =>
f_ref45_form_j3 P T D N K x1 x10 (.s (.bool false)) x26 x133 h11)))))
theorem f_ref45_form_run (T : Tab) (D : DTab) (N : Nat) {β : Type} (K : AV → Hp → Option β) (a0 : AV) (h : Hp) : runK Tryz.prog T D N [0, 1, 2, 3, 4, 14, 15, 35, 50, 65, 80, 94, 123] Tryz.f84 K [a0] h = f_ref45_form Tryz.prog T D N K a0 h := by kernel_rfl
def o_ref31_rate_j1 (P : Program) (T : Tab) (D : DTab) (N : Nat) {β : Type} (K : AV → Hp → Option β) (t : Tm) (h : Hp) : Option β :=
K (.s (.int .i64 0)) h
def o_ref31_rate_L2 (P : Program) (T : Tab) (D : DTab) (N : Nat) {β : Type} (t : Tm) (h : Hp) (k : Ex → St → Option β) : Option β :=
lenK (t 0) fun x5 =>
arithK .lss (t 9) x5 fun x6 =>
condK x6 (
iaK 4 (t 0) (t 9) fun x7 =>
faK 0 x7 fun x8 =>
ldK 1 false x8 h fun x9 =>
eqK P false 3 x9 (t 7) h fun x10 =>
grpK true x10 h (fun k11 =>
iaK 4 (t 0) (t 9) fun x12 =>
faK 1 x12 fun x13 =>
ldK 1 false x13 h fun x14 =>
eqK P false 3 x14 (t 1) h fun x15 =>
k11 x15 h) fun x16 h17 =>
grpK true x16 h17 (fun k18 =>
iaK 4 (t 0) (t 9) fun x19 =>
faK 2 x19 fun x20 =>
ldK 1 false x20 h17 fun x21 =>
eqK P false 3 x21 (t 8) h17 fun x22 =>
k18 x22 h17) fun x23 h24 =>
condK x23 (
iaK 4 (t 0) (t 9) fun x25 =>
faK 3 x25 fun x26 =>
ldK 1 false x26 h24 fun x27 =>
k .ret ((upd (upd (upd t 18 x6) 45 x23) 6 x27), h24)) (
arithK .add (t 9) (.s (.int .i64 1)) fun x28 =>
k .normal ((upd (upd (upd t 18 x6) 45 x23) 9 x28), h24))) (
k (.exit 0) ((upd t 18 x6), h))
def o_ref31_rate_aL2 (P : Program) (T : Tab) (D : DTab) (N : Nat) {β : Type} (K : AV → Hp → Option β) (e : Ex) (s : St) : Option β :=
  e.on ((o_ref31_rate_j1 P T D N K s.1 s.2))
  (fun i => bif i == 0 then ((o_ref31_rate_j1 P T D N K s.1 s.2)) else (none))
  (K (s.1 6) s.2)
def o_ref31_rate_G (P : Program) (T : Tab) (D : DTab) (N : Nat) {β : Type} (cL2 : St → Option β) (K : AV → Hp → Option β) (a0 : AV) (a1 : AV) (a2 : AV) (h : Hp) :  Option β :=
callK (T 105) [a0, a2] h fun x1 h2 =>
callK (T 106) [a2] h2 fun x3 h4 =>
cL2 ((upd (upd (upd (upd (tm0 [a0, a1, a2]) 6 (.s (.int .i64 0))) 7 x1) 8 x3) 9 (.s (.int .i64 0))), h4)
def o_ref31_rate (P : Program) (T : Tab) (D : DTab) (N : Nat) {β : Type} (K : AV → Hp → Option β) (a0 : AV) (a1 : AV) (a2 : AV) (h : Hp) : Option β := o_ref31_rate_G P T D N (fun s => iterK (fun s k => o_ref31_rate_L2 P T D N s.1 s.2 k) N s (o_ref31_rate_aL2 P T D N K)) K a0 a1 a2 h
def f_ref31_rate_j1 (P : Program) (T : Tab) (D : DTab) (N : Nat) {β : Type} (K : AV → Hp → Option β) (h : Hp) : Option β :=
K (.s (.int .i64 0)) h
def f_ref31_rate_b2 (P : Program) (T : Tab) (D : DTab) (N : Nat) {β : Type} (xn : AV → AV → AV → AV → AV → Hp → Option β) (x0 : Hp → Option β) (xr : AV → Hp → Option β) (v0 : AV) (v1 : AV) (v7 : AV) (v8 : AV) (v9 : AV) (h : Hp) : Option β :=
lenK v0 fun x5 =>
arithK .lss v9 x5 fun x6 =>
condK x6 (
iaK 4 v0 v9 fun x7 =>
faK 0 x7 fun x8 =>
ldK 1 false x8 h fun x9 =>
eqK P false 3 x9 v7 h fun x10 =>
grpK true x10 h (fun k11 =>
iaK 4 v0 v9 fun x12 =>
faK 1 x12 fun x13 =>
ldK 1 false x13 h fun x14 =>
eqK P false 3 x14 v1 h fun x15 =>
k11 x15 h) fun x16 h17 =>
grpK true x16 h17 (fun k18 =>
iaK 4 v0 v9 fun x19 =>
faK 2 x19 fun x20 =>
ldK 1 false x20 h17 fun x21 =>
eqK P false 3 x21 v8 h17 fun x22 =>
k18 x22 h17) fun x23 h24 =>
condK x23 (
iaK 4 v0 v9 fun x25 =>
faK 3 x25 fun x26 =>
ldK 1 false x26 h24 fun x27 =>
xr x27 h24) (
arithK .add v9 (.s (.int .i64 1)) fun x28 =>
xn v0 v1 v7 v8 x28 h24)) (
x0 h)
def f_ref31_rate_L2 (P : Program) (T : Tab) (D : DTab) (N : Nat) {β : Type} (x0 : Hp → Option β) (xr : AV → Hp → Option β) : Nat → AV → AV → AV → AV → AV → Hp → Option β
  | 0 => fun _ _ _ _ _ _ => none
  | n + 1 => fun v0 v1 v7 v8 v9 h => f_ref31_rate_b2 P T D N (f_ref31_rate_L2 P T D N x0 xr n) x0 xr v0 v1 v7 v8 v9 h
def f_ref31_rate (P : Program) (T : Tab) (D : DTab) (N : Nat) {β : Type} (K : AV → Hp → Option β) (a0 : AV) (a1 : AV) (a2 : AV) (h : Hp) : Option β :=
callK (T 105) [a0, a2] h fun x1 h2 =>
callK (T 106) [a2] h2 fun x3 h4 =>
f_ref31_rate_L2 P T D N (fun h => f_ref31_rate_j1 P T D N K h) (fun w30_6 h => K w30_6 h) N a0 a1 x1 x3 (.s (.int .i64 0)) h4
theorem f_ref31_rate_b2_eq (P : Program) (T : Tab) (D : DTab) (N : Nat) {β : Type} (xn : AV → AV → AV → AV → AV → Hp → Option β) (x0 : Hp → Option β) (xr : AV → Hp → Option β) (xd : Nat → St → Option β) (xq : St → Option β) (t : Tm) (h : Hp) : o_ref31_rate_L2 P T D N t h (fun (e : Ex) (s : St) => e.on (xn (s.1 0) (s.1 1) (s.1 7) (s.1 8) (s.1 9) s.2) (fun i => (bif i == 0 then x0 s.2 else (xd i s))) (xr (s.1 6) s.2)) = f_ref31_rate_b2 P T D N xn x0 xr (t 0) (t 1) (t 7) (t 8) (t 9) h := by kernel_rfl
theorem f_ref31_rate_L2_eq (P : Program) (T : Tab) (D : DTab) (N : Nat) {β : Type} (A : Ex → St → Option β) (x0 : Hp → Option β) (xr : AV → Hp → Option β) (q0 : ∀ s, A (.exit 0) s = x0 s.2) (qr : ∀ s, A .ret s = xr (s.1 6) s.2) : ∀ (n : Nat) (s : St), iterK (fun s k => o_ref31_rate_L2 P T D N s.1 s.2 k) n s A = f_ref31_rate_L2 P T D N x0 xr n (s.1 0) (s.1 1) (s.1 7) (s.1 8) (s.1 9) s.2 := by
  intro n
  induction n with
  | zero => intro s; rfl
  | succ n ih =>
    intro s
    have hk : (fun (e : Ex) (s' : St) => Ex.on e (iterK (fun s k => o_ref31_rate_L2 P T D N s.1 s.2 k) n s' A) (fun i => A (.exit i) s') (A .ret s')) = (fun (e : Ex) (s : St) => e.on ((f_ref31_rate_L2 P T D N x0 xr n) (s.1 0) (s.1 1) (s.1 7) (s.1 8) (s.1 9) s.2) (fun i => (bif i == 0 then x0 s.2 else (A (.exit i) s))) (xr (s.1 6) s.2)) := by
      funext e s'
      cases e with
      | normal => exact ih s'
      | ret => exact qr s'
      | exit i =>
        by_cases r0 : i = 0
        · subst r0; exact q0 s'
        simp only [Ex.on, beq_false_of_ne r0, cond_false]
    show o_ref31_rate_L2 P T D N s.1 s.2 (fun (e : Ex) (s' : St) => Ex.on e (iterK (fun s k => o_ref31_rate_L2 P T D N s.1 s.2 k) n s' A) (fun i => A (.exit i) s') (A .ret s')) = _
    rw [hk]
    exact f_ref31_rate_b2_eq P T D N (f_ref31_rate_L2 P T D N x0 xr n) x0 xr (fun i s => A (.exit i) s) (fun s => A .ret s) s.1 s.2
theorem f_ref31_rate_old_eq (P : Program) (T : Tab) (D : DTab) (N : Nat) {β : Type} (K : AV → Hp → Option β) (a0 : AV) (a1 : AV) (a2 : AV) (h : Hp) : o_ref31_rate P T D N K a0 a1 a2 h = f_ref31_rate P T D N K a0 a1 a2 h := by
  have eL2 : (fun s : St => iterK (fun s k => o_ref31_rate_L2 P T D N s.1 s.2 k) N s (o_ref31_rate_aL2 P T D N K)) = (fun s : St => f_ref31_rate_L2 P T D N (fun h => f_ref31_rate_j1 P T D N K h) (fun w30_6 h => K w30_6 h) N (s.1 0) (s.1 1) (s.1 7) (s.1 8) (s.1 9) s.2) := funext fun s => f_ref31_rate_L2_eq P T D N (o_ref31_rate_aL2 P T D N K) (fun h => f_ref31_rate_j1 P T D N K h) (fun w30_6 h => K w30_6 h) (fun s => rfl) (fun s => rfl) N s
  show o_ref31_rate_G P T D N (fun s => iterK (fun s k => o_ref31_rate_L2 P T D N s.1 s.2 k) N s (o_ref31_rate_aL2 P T D N K)) K a0 a1 a2 h = _
  rw [eL2]
  kernel_rfl
theorem o_ref31_rate_run (T : Tab) (D : DTab) (N : Nat) {β : Type} (K : AV → Hp → Option β) (a0 : AV) (a1 : AV) (a2 : AV) (h : Hp) : runK Tryz.prog T D N [0, 1, 2, 6, 7, 8, 9, 18, 45] Tryz.f85 K [a0, a1, a2] h = o_ref31_rate Tryz.prog T D N K a0 a1 a2 h := by kernel_rfl
theorem f_ref31_rate_run (T : Tab) (D : DTab) (N : Nat) {β : Type} (K : AV → Hp → Option β) (a0 : AV) (a1 : AV) (a2 : AV) (h : Hp) : runK Tryz.prog T D N [0, 1, 2, 6, 7, 8, 9, 18, 45] Tryz.f85 K [a0, a1, a2] h = f_ref31_rate Tryz.prog T D N K a0 a1 a2 h := (o_ref31_rate_run T D N K a0 a1 a2 h).trans (f_ref31_rate_old_eq Tryz.prog T D N K a0 a1 a2 h)
def o_ref01_Of_j1 (P : Program) (T : Tab) (D : DTab) (N : Nat) {β : Type} (K : AV → Hp → Option β) (t : Tm) (h : Hp) : Option β :=
ldK 2 true (t 11) h fun x45 =>
effD (callE (D 107) [(t 12), (t 2)] h (List.length h)) h fun x46 h47 e48 =>
effD (callE (D 109) [x45, x46] h47 (List.length h47)) h47 fun x49 h50 e51 =>
fldK 1 false 1 x49 fun x52 =>
convK P 115 3 x52 fun x53 =>
bif disjAll [(1, 4)] [([], []), ((idsOf (t 11)), []), ([], []), ([], []), e48, e51, ([], []), ([], []), ([], []), ([], []), ([], [])] then (
K (.tup [(t 12), x53, (.s (.bool true))]) h50) else none
def o_ref01_Of_j3 (P : Program) (T : Tab) (D : DTab) (N : Nat) {β : Type} (k : Ex → St → Option β) (t : Tm) (h : Hp) : Option β :=
reckK P .quo 3 (t 13) (.s (.int .i64 2)) fun x55 =>
k .normal ((upd t 13 x55), h)
def o_ref01_Of_j4 (P : Program) (T : Tab) (D : DTab) (N : Nat) {β : Type} (k : Ex → St → Option β) (t : Tm) (h : Hp) : Option β :=
(o_ref01_Of_j3 P T D N k t h)
def o_ref01_Of_L2 (P : Program) (T : Tab) (D : DTab) (N : Nat) {β : Type} (t : Tm) (h : Hp) (k : Ex → St → Option β) : Option β :=
arithK .gtr (t 13) (.s (.int .i64 0)) fun x54 =>
condK x54 (
arithK .add (t 12) (t 13) fun x56 =>
arithK .leq x56 (t 3) fun x57 =>
gopD (wB x57 true) h (fun k => ldK 2 true (t 11) h fun v => k v h ((idsOf (t 11)), [])) fun x58 h59 e60 =>
gopD (wB x57 true) h59 (fun k => k (t 12) h59 ([], [])) fun x61 h62 e63 =>
gopD (wB x57 true) h62 (fun k => k (t 13) h62 ([], [])) fun x64 h65 e66 =>
gopD (wB x57 true) h65 (fun k => arithK .add x61 x64 fun v => k v h65 ([], [])) fun x67 h68 e69 =>
gopD (wB x57 true) h68 (fun k => k (t 2) h68 ([], [])) fun x70 h71 e72 =>
gopD (wB x57 true) h71 (fun k => effD (callE (D 107) [x67, x70] h71 (List.length h71)) h71 k) fun x73 h74 e75 =>
gopD (wB x57 true) h74 (fun k => effD (callE (D 108) [x58, x73] h74 (List.length h74)) h74 k) fun x76 h77 e78 =>
gopD (wB x57 true) h77 (fun k => notK x76 fun v => k v h77 ([], [])) fun x79 h80 e81 =>
pickK x57 x79 (.s (.bool false)) fun x82 =>
bif disjAll [(6, 11)] [([], []), ([], []), ([], []), ([], []), ([], []), ([], []), e60, e63, e66, e69, e72, e75, e78, e81, ([], [])] then (
condK x82 (
arithK .add (t 12) (t 13) fun x83 =>
(o_ref01_Of_j4 P T D N k (upd (upd (upd t 35 x54) 52 x82) 12 x83) h80)) (
(o_ref01_Of_j4 P T D N k (upd (upd t 35 x54) 52 x82) h80))) else none) (
k (.exit 0) ((upd t 35 x54), h))
def o_ref01_Of_aL2 (P : Program) (T : Tab) (D : DTab) (N : Nat) {β : Type} (K : AV → Hp → Option β) (e : Ex) (s : St) : Option β :=
  e.on ((o_ref01_Of_j1 P T D N K s.1 s.2))
  (fun i => bif i == 0 then ((o_ref01_Of_j1 P T D N K s.1 s.2)) else (none))
  (K (.tup [(s.1 8), (s.1 9), (s.1 10)]) s.2)
def o_ref01_Of_G (P : Program) (T : Tab) (D : DTab) (N : Nat) {β : Type} (cL2 : St → Option β) (K : AV → Hp → Option β) (a0 : AV) (a1 : AV) (a2 : AV) (a3 : AV) (h : Hp) :  Option β :=
callK (T 107) [a0, a1] h fun x1 h2 =>
effK (boxE 2 (.agg [.s (.int .u64 0), .s (.int .u64 0)]) (List.length h2)) h2 fun x3 h4 =>
effK (stE 2 x3 x1 h4) h4 fun x5 h6 =>
effD (callE (D 107) [a3, a2] h6 (List.length h6)) h6 fun x7 h8 e9 =>
ldK 2 true x3 h8 fun x10 =>
effD (callE (D 108) [x7, x10] h8 (List.length h8)) h8 fun x11 h12 e13 =>
gopD (wB x11 true) h12 (fun k => ldK 2 true x3 h12 fun v => k v h12 ((idsOf x3), [])) fun x14 h15 e16 =>
gopD (wB x11 true) h15 (fun k => k a3 h15 ([], [])) fun x17 h18 e19 =>
gopD (wB x11 true) h18 (fun k => k a2 h18 ([], [])) fun x20 h21 e22 =>
gopD (wB x11 true) h21 (fun k => effD (callE (D 107) [x17, x20] h21 (List.length h21)) h21 k) fun x23 h24 e25 =>
gopD (wB x11 true) h24 (fun k => effD (callE (D 109) [x14, x23] h24 (List.length h24)) h24 k) fun x26 h27 e28 =>
gopD (wB x11 true) h27 (fun k => k a2 h27 ([], [])) fun x29 h30 e31 =>
gopD (wB x11 true) h30 (fun k => convK P 3 115 x29 fun v => k v h30 ([], [])) fun x32 h33 e34 =>
gopD (wB x11 true) h33 (fun k => buildK [.s (.int .u64 0), .s (.int .u64 0)] [(some (0, 1), (.s (.int .u64 0))), (some (1, 1), x32)] fun v => k v h33 ([], [])) fun x35 h36 e37 =>
gopD (wB x11 true) h36 (fun k => effD (callE (D 108) [x26, x35] h36 (List.length h36)) h36 k) fun x38 h39 e40 =>
gopD (wB x11 true) h39 (fun k => notK x38 fun v => k v h39 ([], [])) fun x41 h42 e43 =>
pickK x11 x41 (.s (.bool false)) fun x44 =>
bif disjAll [(2, 3), (6, 9)] [([], []), ([], []), e9, ((idsOf x3), []), e13, ([], []), e16, e19, e22, e25, e28, e31, e34, e37, e40, e43, ([], [])] then (
condK x44 (
K (.tup [(.s (.int .i64 0)), (.s (.int .i64 0)), (.s (.bool false))]) h42) (
cL2 ((upd (upd (upd (upd (upd (upd (upd (tm0 [a0, a1, a2, a3]) 8 (.s (.int .i64 0))) 9 (.s (.int .i64 0))) 10 (.s (.bool false))) 11 x3) 33 x44) 12 (.s (.int .i64 0))) 13 (.s (.int .i64 2305843009213693952))), h42))) else none
def o_ref01_Of (P : Program) (T : Tab) (D : DTab) (N : Nat) {β : Type} (K : AV → Hp → Option β) (a0 : AV) (a1 : AV) (a2 : AV) (a3 : AV) (h : Hp) : Option β := o_ref01_Of_G P T D N (fun s => iterK (fun s k => o_ref01_Of_L2 P T D N s.1 s.2 k) N s (o_ref01_Of_aL2 P T D N K)) K a0 a1 a2 a3 h
def f_ref01_Of_j1 (P : Program) (T : Tab) (D : DTab) (N : Nat) {β : Type} (K : AV → Hp → Option β) (v2 : AV) (v11 : AV) (v12 : AV) (h : Hp) : Option β :=
ldK 2 true v11 h fun x45 =>
effD (callE (D 107) [v12, v2] h (List.length h)) h fun x46 h47 e48 =>
effD (callE (D 109) [x45, x46] h47 (List.length h47)) h47 fun x49 h50 e51 =>
fldK 1 false 1 x49 fun x52 =>
convK P 115 3 x52 fun x53 =>
bif disjAll [(1, 4)] [([], []), ((idsOf v11), []), ([], []), ([], []), e48, e51, ([], []), ([], []), ([], []), ([], []), ([], [])] then (
K (.tup [v12, x53, (.s (.bool true))]) h50) else none
def f_ref01_Of_j3 (P : Program) (T : Tab) (D : DTab) (N : Nat) {β : Type} (xn : AV → AV → AV → AV → AV → Hp → Option β) (x0 : AV → AV → AV → Hp → Option β) (v2 : AV) (v3 : AV) (v11 : AV) (v12 : AV) (v13 : AV) (h : Hp) : Option β :=
reckK P .quo 3 v13 (.s (.int .i64 2)) fun x55 =>
xn v2 v3 v11 v12 x55 h
def f_ref01_Of_j4 (P : Program) (T : Tab) (D : DTab) (N : Nat) {β : Type} (xn : AV → AV → AV → AV → AV → Hp → Option β) (x0 : AV → AV → AV → Hp → Option β) (v2 : AV) (v3 : AV) (v11 : AV) (v12 : AV) (v13 : AV) (h : Hp) : Option β :=
f_ref01_Of_j3 P T D N xn x0 v2 v3 v11 v12 v13 h
def f_ref01_Of_b2 (P : Program) (T : Tab) (D : DTab) (N : Nat) {β : Type} (xn : AV → AV → AV → AV → AV → Hp → Option β) (x0 : AV → AV → AV → Hp → Option β) (v2 : AV) (v3 : AV) (v11 : AV) (v12 : AV) (v13 : AV) (h : Hp) : Option β :=
arithK .gtr v13 (.s (.int .i64 0)) fun x54 =>
condK x54 (
arithK .add v12 v13 fun x56 =>
arithK .leq x56 v3 fun x57 =>
gopD (wB x57 true) h (fun k => ldK 2 true v11 h fun v => k v h ((idsOf v11), [])) fun x58 h59 e60 =>
gopD (wB x57 true) h59 (fun k => k v12 h59 ([], [])) fun x61 h62 e63 =>
gopD (wB x57 true) h62 (fun k => k v13 h62 ([], [])) fun x64 h65 e66 =>
gopD (wB x57 true) h65 (fun k => arithK .add x61 x64 fun v => k v h65 ([], [])) fun x67 h68 e69 =>
gopD (wB x57 true) h68 (fun k => k v2 h68 ([], [])) fun x70 h71 e72 =>
gopD (wB x57 true) h71 (fun k => effD (callE (D 107) [x67, x70] h71 (List.length h71)) h71 k) fun x73 h74 e75 =>
gopD (wB x57 true) h74 (fun k => effD (callE (D 108) [x58, x73] h74 (List.length h74)) h74 k) fun x76 h77 e78 =>
gopD (wB x57 true) h77 (fun k => notK x76 fun v => k v h77 ([], [])) fun x79 h80 e81 =>
pickK x57 x79 (.s (.bool false)) fun x82 =>
bif disjAll [(6, 11)] [([], []), ([], []), ([], []), ([], []), ([], []), ([], []), e60, e63, e66, e69, e72, e75, e78, e81, ([], [])] then (
condK x82 (
arithK .add v12 v13 fun x83 =>
f_ref01_Of_j4 P T D N xn x0 v2 v3 v11 x83 v13 h80) (
f_ref01_Of_j4 P T D N xn x0 v2 v3 v11 v12 v13 h80)) else none) (
x0 v2 v11 v12 h)
def f_ref01_Of_L2 (P : Program) (T : Tab) (D : DTab) (N : Nat) {β : Type} (x0 : AV → AV → AV → Hp → Option β) : Nat → AV → AV → AV → AV → AV → Hp → Option β
  | 0 => fun _ _ _ _ _ _ => none
  | n + 1 => fun v2 v3 v11 v12 v13 h => f_ref01_Of_b2 P T D N (f_ref01_Of_L2 P T D N x0 n) x0 v2 v3 v11 v12 v13 h
def f_ref01_Of (P : Program) (T : Tab) (D : DTab) (N : Nat) {β : Type} (K : AV → Hp → Option β) (a0 : AV) (a1 : AV) (a2 : AV) (a3 : AV) (h : Hp) : Option β :=
callK (T 107) [a0, a1] h fun x1 h2 =>
effK (boxE 2 (.agg [.s (.int .u64 0), .s (.int .u64 0)]) (List.length h2)) h2 fun x3 h4 =>
effK (stE 2 x3 x1 h4) h4 fun x5 h6 =>
effD (callE (D 107) [a3, a2] h6 (List.length h6)) h6 fun x7 h8 e9 =>
ldK 2 true x3 h8 fun x10 =>
effD (callE (D 108) [x7, x10] h8 (List.length h8)) h8 fun x11 h12 e13 =>
gopD (wB x11 true) h12 (fun k => ldK 2 true x3 h12 fun v => k v h12 ((idsOf x3), [])) fun x14 h15 e16 =>
gopD (wB x11 true) h15 (fun k => k a3 h15 ([], [])) fun x17 h18 e19 =>
gopD (wB x11 true) h18 (fun k => k a2 h18 ([], [])) fun x20 h21 e22 =>
gopD (wB x11 true) h21 (fun k => effD (callE (D 107) [x17, x20] h21 (List.length h21)) h21 k) fun x23 h24 e25 =>
gopD (wB x11 true) h24 (fun k => effD (callE (D 109) [x14, x23] h24 (List.length h24)) h24 k) fun x26 h27 e28 =>
gopD (wB x11 true) h27 (fun k => k a2 h27 ([], [])) fun x29 h30 e31 =>
gopD (wB x11 true) h30 (fun k => convK P 3 115 x29 fun v => k v h30 ([], [])) fun x32 h33 e34 =>
gopD (wB x11 true) h33 (fun k => buildK [.s (.int .u64 0), .s (.int .u64 0)] [(some (0, 1), (.s (.int .u64 0))), (some (1, 1), x32)] fun v => k v h33 ([], [])) fun x35 h36 e37 =>
gopD (wB x11 true) h36 (fun k => effD (callE (D 108) [x26, x35] h36 (List.length h36)) h36 k) fun x38 h39 e40 =>
gopD (wB x11 true) h39 (fun k => notK x38 fun v => k v h39 ([], [])) fun x41 h42 e43 =>
pickK x11 x41 (.s (.bool false)) fun x44 =>
bif disjAll [(2, 3), (6, 9)] [([], []), ([], []), e9, ((idsOf x3), []), e13, ([], []), e16, e19, e22, e25, e28, e31, e34, e37, e40, e43, ([], [])] then (
condK x44 (
K (.tup [(.s (.int .i64 0)), (.s (.int .i64 0)), (.s (.bool false))]) h42) (
f_ref01_Of_L2 P T D N (fun w84_2 w84_11 w84_12 h => f_ref01_Of_j1 P T D N K w84_2 w84_11 w84_12 h) N a2 a3 x3 (.s (.int .i64 0)) (.s (.int .i64 2305843009213693952)) h42)) else none
theorem f_ref01_Of_b2_eq (P : Program) (T : Tab) (D : DTab) (N : Nat) {β : Type} (xn : AV → AV → AV → AV → AV → Hp → Option β) (x0 : AV → AV → AV → Hp → Option β) (xd : Nat → St → Option β) (xq : St → Option β) (t : Tm) (h : Hp) : o_ref01_Of_L2 P T D N t h (fun (e : Ex) (s : St) => e.on (xn (s.1 2) (s.1 3) (s.1 11) (s.1 12) (s.1 13) s.2) (fun i => (bif i == 0 then x0 (s.1 2) (s.1 11) (s.1 12) s.2 else (xd i s))) (xq s)) = f_ref01_Of_b2 P T D N xn x0 (t 2) (t 3) (t 11) (t 12) (t 13) h := by kernel_rfl
theorem f_ref01_Of_L2_eq (P : Program) (T : Tab) (D : DTab) (N : Nat) {β : Type} (A : Ex → St → Option β) (x0 : AV → AV → AV → Hp → Option β) (q0 : ∀ s, A (.exit 0) s = x0 (s.1 2) (s.1 11) (s.1 12) s.2) : ∀ (n : Nat) (s : St), iterK (fun s k => o_ref01_Of_L2 P T D N s.1 s.2 k) n s A = f_ref01_Of_L2 P T D N x0 n (s.1 2) (s.1 3) (s.1 11) (s.1 12) (s.1 13) s.2 := by
  intro n
  induction n with
  | zero => intro s; rfl
  | succ n ih =>
    intro s
    have hk : (fun (e : Ex) (s' : St) => Ex.on e (iterK (fun s k => o_ref01_Of_L2 P T D N s.1 s.2 k) n s' A) (fun i => A (.exit i) s') (A .ret s')) = (fun (e : Ex) (s : St) => e.on ((f_ref01_Of_L2 P T D N x0 n) (s.1 2) (s.1 3) (s.1 11) (s.1 12) (s.1 13) s.2) (fun i => (bif i == 0 then x0 (s.1 2) (s.1 11) (s.1 12) s.2 else (A (.exit i) s))) (A .ret s)) := by
      funext e s'
      cases e with
      | normal => exact ih s'
      | ret => exact rfl
      | exit i =>
        by_cases r0 : i = 0
        · subst r0; exact q0 s'
        simp only [Ex.on, beq_false_of_ne r0, cond_false]
    show o_ref01_Of_L2 P T D N s.1 s.2 (fun (e : Ex) (s' : St) => Ex.on e (iterK (fun s k => o_ref01_Of_L2 P T D N s.1 s.2 k) n s' A) (fun i => A (.exit i) s') (A .ret s')) = _
    rw [hk]
    exact f_ref01_Of_b2_eq P T D N (f_ref01_Of_L2 P T D N x0 n) x0 (fun i s => A (.exit i) s) (fun s => A .ret s) s.1 s.2
theorem f_ref01_Of_old_eq (P : Program) (T : Tab) (D : DTab) (N : Nat) {β : Type} (K : AV → Hp → Option β) (a0 : AV) (a1 : AV) (a2 : AV) (a3 : AV) (h : Hp) : o_ref01_Of P T D N K a0 a1 a2 a3 h = f_ref01_Of P T D N K a0 a1 a2 a3 h := by
  have eL2 : (fun s : St => iterK (fun s k => o_ref01_Of_L2 P T D N s.1 s.2 k) N s (o_ref01_Of_aL2 P T D N K)) = (fun s : St => f_ref01_Of_L2 P T D N (fun w84_2 w84_11 w84_12 h => f_ref01_Of_j1 P T D N K w84_2 w84_11 w84_12 h) N (s.1 2) (s.1 3) (s.1 11) (s.1 12) (s.1 13) s.2) := funext fun s => f_ref01_Of_L2_eq P T D N (o_ref01_Of_aL2 P T D N K) (fun w84_2 w84_11 w84_12 h => f_ref01_Of_j1 P T D N K w84_2 w84_11 w84_12 h) (fun s => rfl) N s
  show o_ref01_Of_G P T D N (fun s => iterK (fun s k => o_ref01_Of_L2 P T D N s.1 s.2 k) N s (o_ref01_Of_aL2 P T D N K)) K a0 a1 a2 a3 h = _
  rw [eL2]
  kernel_rfl
theorem o_ref01_Of_run (T : Tab) (D : DTab) (N : Nat) {β : Type} (K : AV → Hp → Option β) (a0 : AV) (a1 : AV) (a2 : AV) (a3 : AV) (h : Hp) : runK Tryz.prog T D N [0, 1, 2, 3, 8, 9, 10, 11, 12, 13, 33, 35, 52] Tryz.f86 K [a0, a1, a2, a3] h = o_ref01_Of Tryz.prog T D N K a0 a1 a2 a3 h := by kernel_rfl
theorem f_ref01_Of_run (T : Tab) (D : DTab) (N : Nat) {β : Type} (K : AV → Hp → Option β) (a0 : AV) (a1 : AV) (a2 : AV) (a3 : AV) (h : Hp) : runK Tryz.prog T D N [0, 1, 2, 3, 8, 9, 10, 11, 12, 13, 33, 35, 52] Tryz.f86 K [a0, a1, a2, a3] h = f_ref01_Of Tryz.prog T D N K a0 a1 a2 a3 h := (o_ref01_Of_run T D N K a0 a1 a2 a3 h).trans (f_ref01_Of_old_eq Tryz.prog T D N K a0 a1 a2 a3 h)
def f_slices_ContainsFunc_int (P : Program) (T : Tab) (D : DTab) (N : Nat) {β : Type} (K : AV → Hp → Option β) (a0 : AV) (a1 : AV) (h : Hp) : Option β :=
callK (T 121) [a0, a1] h fun x1 h2 =>
arithK .geq x1 (.s (.int .i64 0)) fun x3 =>
K x3 h2
theorem f_slices_ContainsFunc_int_run (T : Tab) (D : DTab) (N : Nat) {β : Type} (K : AV → Hp → Option β) (a0 : AV) (a1 : AV) (h : Hp) : runK Tryz.prog T D N [0, 1, 4] Tryz.f93 K [a0, a1] h = f_slices_ContainsFunc_int Tryz.prog T D N K a0 a1 h := by kernel_rfl
def f_proportion_amounts_1 (P : Program) (T : Tab) (D : DTab) (N : Nat) {β : Type} (K : AV → Hp → Option β) (a0 : AV) (h : Hp) : Option β :=
callK (T 95) [a0] h fun x1 h2 =>
notK x1 fun x3 =>
K x3 h2
theorem f_proportion_amounts_1_run (T : Tab) (D : DTab) (N : Nat) {β : Type} (K : AV → Hp → Option β) (a0 : AV) (h : Hp) : runK Tryz.prog T D N [0, 2] Tryz.f94 K [a0] h = f_proportion_amounts_1 Tryz.prog T D N K a0 h := by kernel_rfl
def f_proportion_amount (P : Program) (T : Tab) (D : DTab) (N : Nat) {β : Type} (K : AV → Hp → Option β) (a0 : AV) (h : Hp) : Option β :=
arithK .geq a0 (.s (.int .i64 0)) fun x1 =>
grpK true x1 h (fun k2 =>
arithK .leq a0 (.s (.int .i64 128849018880000)) fun x3 =>
k2 x3 h) fun x4 h5 =>
K x4 h5
theorem f_proportion_amount_run (T : Tab) (D : DTab) (N : Nat) {β : Type} (K : AV → Hp → Option β) (a0 : AV) (h : Hp) : runK Tryz.prog T D N [0, 2] Tryz.f95 K [a0] h = f_proportion_amount Tryz.prog T D N K a0 h := by kernel_rfl
def f_proportion_product (P : Program) (T : Tab) (D : DTab) (N : Nat) {β : Type} (K : AV → Hp → Option β) (a0 : AV) (a1 : AV) (h : Hp) : Option β :=
effK (boxE 2 (.agg [.s (.int .u64 0), .s (.int .u64 0)]) (List.length h)) h fun x1 h2 =>
convK P 3 115 a0 fun x3 =>
convK P 3 115 a1 fun x4 =>
callK (T 122) [x3, x4] h2 fun x5 h6 =>
exK x5 0 fun x7 =>
exK x5 1 fun x8 =>
buildK [.s (.int .u64 0), .s (.int .u64 0)] [(some (0, 1), x7), (some (1, 1), x8)] fun x9 =>
effK (stE 2 x1 x9 h6) h6 fun x10 h11 =>
ldK 2 true x1 h11 fun r12 =>
K r12 h11
theorem f_proportion_product_run (T : Tab) (D : DTab) (N : Nat) {β : Type} (K : AV → Hp → Option β) (a0 : AV) (a1 : AV) (h : Hp) : runK Tryz.prog T D N [0, 1, 4, 5, 6] Tryz.f96 K [a0, a1] h = f_proportion_product Tryz.prog T D N K a0 a1 h := by kernel_rfl
def o_bits_Div64_j4 (P : Program) (T : Tab) (D : DTab) (N : Nat) {β : Type} (K : AV → Hp → Option β) (t : Tm) (h : Hp) : Option β :=
arithK .mul (t 15) (.s (.int .u64 4294967296)) fun x27 =>
arithK .add x27 (t 18) fun x28 =>
arithK .mul (t 17) (.s (.int .u64 4294967296)) fun x29 =>
arithK .add x29 (t 14) fun x30 =>
arithK .mul (t 18) (t 2) fun x31 =>
arithK .sub x30 x31 fun x32 =>
reckK P .shr 115 x32 (t 8) fun x33 =>
K (.tup [x28, x33]) h
def o_bits_Div64_j5 (P : Program) (T : Tab) (D : DTab) (N : Nat) {β : Type} (K : AV → Hp → Option β) (t : Tm) (h : Hp) : Option β :=
(o_bits_Div64_j4 P T D N K t h)
def o_bits_Div64_L6 (P : Program) (T : Tab) (D : DTab) (N : Nat) {β : Type} (t : Tm) (h : Hp) (k : Ex → St → Option β) : Option β :=
arithK .geq (t 18) (.s (.int .u64 4294967296)) fun x34 =>
grpK false x34 h (fun k35 =>
arithK .mul (t 18) (t 10) fun x36 =>
arithK .mul (.s (.int .u64 4294967296)) (t 16) fun x37 =>
arithK .add x37 (t 14) fun x38 =>
arithK .gtr x36 x38 fun x39 =>
k35 x39 h) fun x40 h41 =>
condK x40 (
arithK .sub (t 18) (.s (.int .u64 1)) fun x42 =>
arithK .add (t 16) (t 9) fun x43 =>
arithK .geq x43 (.s (.int .u64 4294967296)) fun x44 =>
condK x44 (
k (.exit 2) ((upd (upd (upd (upd t 113 x40) 18 x42) 16 x43) 120 x44), h41)) (
k .normal ((upd (upd (upd (upd t 113 x40) 18 x42) 16 x43) 120 x44), h41))) (
k (.exit 2) ((upd t 113 x40), h41))
def o_bits_Div64_aL6 (P : Program) (T : Tab) (D : DTab) (N : Nat) {β : Type} (K : AV → Hp → Option β) (e : Ex) (s : St) : Option β :=
  e.on ((o_bits_Div64_j5 P T D N K s.1 s.2))
  (fun i => bif i == 2 then ((o_bits_Div64_j5 P T D N K s.1 s.2)) else (none))
  (K (.tup [(s.1 6), (s.1 7)]) s.2)
def o_bits_Div64_j3_G (P : Program) (T : Tab) (D : DTab) (N : Nat) {β : Type} (cL6 : St → Option β) (K : AV → Hp → Option β) (t : Tm) (h : Hp) :  Option β :=
arithK .mul (t 11) (.s (.int .u64 4294967296)) fun x20 =>
arithK .add x20 (t 13) fun x21 =>
arithK .mul (t 15) (t 2) fun x22 =>
arithK .sub x21 x22 fun x23 =>
reckK P .quo 115 x23 (t 9) fun x24 =>
arithK .mul x24 (t 9) fun x25 =>
arithK .sub x23 x25 fun x26 =>
cL6 ((upd (upd (upd t 17 x23) 18 x24) 16 x26), h)
def o_bits_Div64_j3 (P : Program) (T : Tab) (D : DTab) (N : Nat) {β : Type} (K : AV → Hp → Option β) (t : Tm) (h : Hp) : Option β := o_bits_Div64_j3_G P T D N (fun s => iterK (fun s k => o_bits_Div64_L6 P T D N s.1 s.2 k) N s (o_bits_Div64_aL6 P T D N K)) K t h
def o_bits_Div64_j7_G (P : Program) (T : Tab) (D : DTab) (N : Nat) {β : Type} (cj3 : St → Option β) (K : AV → Hp → Option β) (t : Tm) (h : Hp) :  Option β :=
cj3 (t, h)
def o_bits_Div64_j7 (P : Program) (T : Tab) (D : DTab) (N : Nat) {β : Type} (K : AV → Hp → Option β) (t : Tm) (h : Hp) : Option β := o_bits_Div64_j7_G P T D N (fun s => (o_bits_Div64_j3 P T D N K s.1 s.2)) K t h
def o_bits_Div64_L8 (P : Program) (T : Tab) (D : DTab) (N : Nat) {β : Type} (t : Tm) (h : Hp) (k : Ex → St → Option β) : Option β :=
arithK .geq (t 15) (.s (.int .u64 4294967296)) fun x45 =>
grpK false x45 h (fun k46 =>
arithK .mul (t 15) (t 10) fun x47 =>
arithK .mul (.s (.int .u64 4294967296)) (t 16) fun x48 =>
arithK .add x48 (t 13) fun x49 =>
arithK .gtr x47 x49 fun x50 =>
k46 x50 h) fun x51 h52 =>
condK x51 (
arithK .sub (t 15) (.s (.int .u64 1)) fun x53 =>
arithK .add (t 16) (t 9) fun x54 =>
arithK .geq x54 (.s (.int .u64 4294967296)) fun x55 =>
condK x55 (
k (.exit 0) ((upd (upd (upd (upd t 78 x51) 15 x53) 16 x54) 85 x55), h52)) (
k .normal ((upd (upd (upd (upd t 78 x51) 15 x53) 16 x54) 85 x55), h52))) (
k (.exit 0) ((upd t 78 x51), h52))
def o_bits_Div64_aL8 (P : Program) (T : Tab) (D : DTab) (N : Nat) {β : Type} (K : AV → Hp → Option β) (e : Ex) (s : St) : Option β :=
  e.on ((o_bits_Div64_j7 P T D N K s.1 s.2))
  (fun i => bif i == 0 then ((o_bits_Div64_j7 P T D N K s.1 s.2)) else (none))
  (K (.tup [(s.1 6), (s.1 7)]) s.2)
def o_bits_Div64_j2_G (P : Program) (T : Tab) (D : DTab) (N : Nat) {β : Type} (cL8 : St → Option β) (K : AV → Hp → Option β) (t : Tm) (h : Hp) :  Option β :=
eqK P false 115 (t 0) (.s (.int .u64 0)) h fun x1 =>
condK x1 (
reckK P .quo 115 (t 1) (t 2) fun x2 =>
reckK P .rem 115 (t 1) (t 2) fun x3 =>
K (.tup [x2, x3]) h) (
callK (T 123) [(t 2)] h fun x4 h5 =>
convK P 3 111 x4 fun x6 =>
reckK P .shl 115 (t 2) x6 fun x7 =>
reckK P .shr 115 x7 (.s (.int .u64 32)) fun x8 =>
reckK P .and 115 x7 (.s (.int .u64 4294967295)) fun x9 =>
reckK P .shl 115 (t 0) x6 fun x10 =>
arithK .sub (.s (.int .u64 64)) x6 fun x11 =>
reckK P .shr 115 (t 1) x11 fun x12 =>
reckK P .or 115 x10 x12 fun x13 =>
reckK P .shl 115 (t 1) x6 fun x14 =>
reckK P .shr 115 x14 (.s (.int .u64 32)) fun x15 =>
reckK P .and 115 x14 (.s (.int .u64 4294967295)) fun x16 =>
reckK P .quo 115 x13 x8 fun x17 =>
arithK .mul x17 x8 fun x18 =>
arithK .sub x13 x18 fun x19 =>
cL8 ((upd (upd (upd (upd (upd (upd (upd (upd (upd (upd (upd t 27 x1) 8 x6) 2 x7) 9 x8) 10 x9) 11 x13) 12 x14) 13 x15) 14 x16) 15 x17) 16 x19), h5))
def o_bits_Div64_j2 (P : Program) (T : Tab) (D : DTab) (N : Nat) {β : Type} (K : AV → Hp → Option β) (t : Tm) (h : Hp) : Option β := o_bits_Div64_j2_G P T D N (fun s => iterK (fun s k => o_bits_Div64_L8 P T D N s.1 s.2 k) N s (o_bits_Div64_aL8 P T D N K)) K t h
def o_bits_Div64_j1_G (P : Program) (T : Tab) (D : DTab) (N : Nat) {β : Type} (cj2 : St → Option β) (K : AV → Hp → Option β) (t : Tm) (h : Hp) :  Option β :=
arithK .leq (t 2) (t 0) fun x56 =>
condK x56 (
ldK 1 false AV.u h fun x57 =>
none) (
cj2 ((upd t 24 x56), h))
def o_bits_Div64_j1 (P : Program) (T : Tab) (D : DTab) (N : Nat) {β : Type} (K : AV → Hp → Option β) (t : Tm) (h : Hp) : Option β := o_bits_Div64_j1_G P T D N (fun s => (o_bits_Div64_j2 P T D N K s.1 s.2)) K t h
def o_bits_Div64_G (P : Program) (T : Tab) (D : DTab) (N : Nat) {β : Type} (cj1 : St → Option β) (K : AV → Hp → Option β) (a0 : AV) (a1 : AV) (a2 : AV) (h : Hp) :  Option β :=
eqK P false 115 a2 (.s (.int .u64 0)) h fun x58 =>
condK x58 (
ldK 1 false AV.u h fun x59 =>
none) (
cj1 ((upd (upd (upd (tm0 [a0, a1, a2]) 6 (.s (.int .u64 0))) 7 (.s (.int .u64 0))) 20 x58), h))
def o_bits_Div64 (P : Program) (T : Tab) (D : DTab) (N : Nat) {β : Type} (K : AV → Hp → Option β) (a0 : AV) (a1 : AV) (a2 : AV) (h : Hp) : Option β := o_bits_Div64_G P T D N (fun s => (o_bits_Div64_j1 P T D N K s.1 s.2)) K a0 a1 a2 h
def f_bits_Div64_j4 (P : Program) (T : Tab) (D : DTab) (N : Nat) {β : Type} (K : AV → Hp → Option β) (v2 : AV) (v8 : AV) (v14 : AV) (v15 : AV) (v17 : AV) (v18 : AV) (h : Hp) : Option β :=
arithK .mul v15 (.s (.int .u64 4294967296)) fun x27 =>
arithK .add x27 v18 fun x28 =>
arithK .mul v17 (.s (.int .u64 4294967296)) fun x29 =>
arithK .add x29 v14 fun x30 =>
arithK .mul v18 v2 fun x31 =>
arithK .sub x30 x31 fun x32 =>
reckK P .shr 115 x32 v8 fun x33 =>
K (.tup [x28, x33]) h
def f_bits_Div64_j5 (P : Program) (T : Tab) (D : DTab) (N : Nat) {β : Type} (K : AV → Hp → Option β) (v2 : AV) (v8 : AV) (v14 : AV) (v15 : AV) (v17 : AV) (v18 : AV) (h : Hp) : Option β :=
f_bits_Div64_j4 P T D N K v2 v8 v14 v15 v17 v18 h
def f_bits_Div64_b6 (P : Program) (T : Tab) (D : DTab) (N : Nat) {β : Type} (xn : AV → AV → AV → AV → AV → AV → AV → AV → AV → Hp → Option β) (x2 : AV → AV → AV → AV → AV → AV → Hp → Option β) (v2 : AV) (v8 : AV) (v9 : AV) (v10 : AV) (v14 : AV) (v15 : AV) (v16 : AV) (v17 : AV) (v18 : AV) (h : Hp) : Option β :=
arithK .geq v18 (.s (.int .u64 4294967296)) fun x34 =>
grpK false x34 h (fun k35 =>
arithK .mul v18 v10 fun x36 =>
arithK .mul (.s (.int .u64 4294967296)) v16 fun x37 =>
arithK .add x37 v14 fun x38 =>
arithK .gtr x36 x38 fun x39 =>
k35 x39 h) fun x40 h41 =>
condK x40 (
arithK .sub v18 (.s (.int .u64 1)) fun x42 =>
arithK .add v16 v9 fun x43 =>
arithK .geq x43 (.s (.int .u64 4294967296)) fun x44 =>
condK x44 (
x2 v2 v8 v14 v15 v17 x42 h41) (
xn v2 v8 v9 v10 v14 v15 x43 v17 x42 h41)) (
x2 v2 v8 v14 v15 v17 v18 h41)
def f_bits_Div64_L6 (P : Program) (T : Tab) (D : DTab) (N : Nat) {β : Type} (x2 : AV → AV → AV → AV → AV → AV → Hp → Option β) : Nat → AV → AV → AV → AV → AV → AV → AV → AV → AV → Hp → Option β
  | 0 => fun _ _ _ _ _ _ _ _ _ _ => none
  | n + 1 => fun v2 v8 v9 v10 v14 v15 v16 v17 v18 h => f_bits_Div64_b6 P T D N (f_bits_Div64_L6 P T D N x2 n) x2 v2 v8 v9 v10 v14 v15 v16 v17 v18 h
def f_bits_Div64_j3 (P : Program) (T : Tab) (D : DTab) (N : Nat) {β : Type} (K : AV → Hp → Option β) (v2 : AV) (v8 : AV) (v9 : AV) (v10 : AV) (v11 : AV) (v13 : AV) (v14 : AV) (v15 : AV) (h : Hp) : Option β :=
arithK .mul v11 (.s (.int .u64 4294967296)) fun x20 =>
arithK .add x20 v13 fun x21 =>
arithK .mul v15 v2 fun x22 =>
arithK .sub x21 x22 fun x23 =>
reckK P .quo 115 x23 v9 fun x24 =>
arithK .mul x24 v9 fun x25 =>
arithK .sub x23 x25 fun x26 =>
f_bits_Div64_L6 P T D N (fun w45_2 w45_8 w45_14 w45_15 w45_17 w45_18 h => f_bits_Div64_j5 P T D N K w45_2 w45_8 w45_14 w45_15 w45_17 w45_18 h) N v2 v8 v9 v10 v14 v15 x26 x23 x24 h
def f_bits_Div64_j7 (P : Program) (T : Tab) (D : DTab) (N : Nat) {β : Type} (K : AV → Hp → Option β) (v2 : AV) (v8 : AV) (v9 : AV) (v10 : AV) (v11 : AV) (v13 : AV) (v14 : AV) (v15 : AV) (h : Hp) : Option β :=
f_bits_Div64_j3 P T D N K v2 v8 v9 v10 v11 v13 v14 v15 h
def f_bits_Div64_b8 (P : Program) (T : Tab) (D : DTab) (N : Nat) {β : Type} (xn : AV → AV → AV → AV → AV → AV → AV → AV → AV → Hp → Option β) (x0 : AV → AV → AV → AV → AV → AV → AV → AV → Hp → Option β) (v2 : AV) (v8 : AV) (v9 : AV) (v10 : AV) (v11 : AV) (v13 : AV) (v14 : AV) (v15 : AV) (v16 : AV) (h : Hp) : Option β :=
arithK .geq v15 (.s (.int .u64 4294967296)) fun x46 =>
grpK false x46 h (fun k47 =>
arithK .mul v15 v10 fun x48 =>
arithK .mul (.s (.int .u64 4294967296)) v16 fun x49 =>
arithK .add x49 v13 fun x50 =>
arithK .gtr x48 x50 fun x51 =>
k47 x51 h) fun x52 h53 =>
condK x52 (
arithK .sub v15 (.s (.int .u64 1)) fun x54 =>
arithK .add v16 v9 fun x55 =>
arithK .geq x55 (.s (.int .u64 4294967296)) fun x56 =>
condK x56 (
x0 v2 v8 v9 v10 v11 v13 v14 x54 h53) (
xn v2 v8 v9 v10 v11 v13 v14 x54 x55 h53)) (
x0 v2 v8 v9 v10 v11 v13 v14 v15 h53)
def f_bits_Div64_L8 (P : Program) (T : Tab) (D : DTab) (N : Nat) {β : Type} (x0 : AV → AV → AV → AV → AV → AV → AV → AV → Hp → Option β) : Nat → AV → AV → AV → AV → AV → AV → AV → AV → AV → Hp → Option β
  | 0 => fun _ _ _ _ _ _ _ _ _ _ => none
  | n + 1 => fun v2 v8 v9 v10 v11 v13 v14 v15 v16 h => f_bits_Div64_b8 P T D N (f_bits_Div64_L8 P T D N x0 n) x0 v2 v8 v9 v10 v11 v13 v14 v15 v16 h
def f_bits_Div64_j2 (P : Program) (T : Tab) (D : DTab) (N : Nat) {β : Type} (K : AV → Hp → Option β) (v0 : AV) (v1 : AV) (v2 : AV) (h : Hp) : Option β :=
eqK P false 115 v0 (.s (.int .u64 0)) h fun x1 =>
condK x1 (
reckK P .quo 115 v1 v2 fun x2 =>
reckK P .rem 115 v1 v2 fun x3 =>
K (.tup [x2, x3]) h) (
callK (T 123) [v2] h fun x4 h5 =>
convK P 3 111 x4 fun x6 =>
reckK P .shl 115 v2 x6 fun x7 =>
reckK P .shr 115 x7 (.s (.int .u64 32)) fun x8 =>
reckK P .and 115 x7 (.s (.int .u64 4294967295)) fun x9 =>
reckK P .shl 115 v0 x6 fun x10 =>
arithK .sub (.s (.int .u64 64)) x6 fun x11 =>
reckK P .shr 115 v1 x11 fun x12 =>
reckK P .or 115 x10 x12 fun x13 =>
reckK P .shl 115 v1 x6 fun x14 =>
reckK P .shr 115 x14 (.s (.int .u64 32)) fun x15 =>
reckK P .and 115 x14 (.s (.int .u64 4294967295)) fun x16 =>
reckK P .quo 115 x13 x8 fun x17 =>
arithK .mul x17 x8 fun x18 =>
arithK .sub x13 x18 fun x19 =>
f_bits_Div64_L8 P T D N (fun w57_2 w57_8 w57_9 w57_10 w57_11 w57_13 w57_14 w57_15 h => f_bits_Div64_j7 P T D N K w57_2 w57_8 w57_9 w57_10 w57_11 w57_13 w57_14 w57_15 h) N x7 x6 x8 x9 x13 x15 x16 x17 x19 h5)
def f_bits_Div64_j1 (P : Program) (T : Tab) (D : DTab) (N : Nat) {β : Type} (K : AV → Hp → Option β) (v0 : AV) (v1 : AV) (v2 : AV) (h : Hp) : Option β :=
arithK .leq v2 v0 fun x58 =>
condK x58 (
ldK 1 false AV.u h fun x59 =>
none) (
f_bits_Div64_j2 P T D N K v0 v1 v2 h)
def f_bits_Div64 (P : Program) (T : Tab) (D : DTab) (N : Nat) {β : Type} (K : AV → Hp → Option β) (a0 : AV) (a1 : AV) (a2 : AV) (h : Hp) : Option β :=
eqK P false 115 a2 (.s (.int .u64 0)) h fun x60 =>
condK x60 (
ldK 1 false AV.u h fun x61 =>
none) (
f_bits_Div64_j1 P T D N K a0 a1 a2 h)
theorem f_bits_Div64_b6_eq (P : Program) (T : Tab) (D : DTab) (N : Nat) {β : Type} (xn : AV → AV → AV → AV → AV → AV → AV → AV → AV → Hp → Option β) (x2 : AV → AV → AV → AV → AV → AV → Hp → Option β) (xd : Nat → St → Option β) (xq : St → Option β) (t : Tm) (h : Hp) : o_bits_Div64_L6 P T D N t h (fun (e : Ex) (s : St) => e.on (xn (s.1 2) (s.1 8) (s.1 9) (s.1 10) (s.1 14) (s.1 15) (s.1 16) (s.1 17) (s.1 18) s.2) (fun i => (bif i == 2 then x2 (s.1 2) (s.1 8) (s.1 14) (s.1 15) (s.1 17) (s.1 18) s.2 else (xd i s))) (xq s)) = f_bits_Div64_b6 P T D N xn x2 (t 2) (t 8) (t 9) (t 10) (t 14) (t 15) (t 16) (t 17) (t 18) h := by kernel_rfl
theorem f_bits_Div64_L6_eq (P : Program) (T : Tab) (D : DTab) (N : Nat) {β : Type} (A : Ex → St → Option β) (x2 : AV → AV → AV → AV → AV → AV → Hp → Option β) (q2 : ∀ s, A (.exit 2) s = x2 (s.1 2) (s.1 8) (s.1 14) (s.1 15) (s.1 17) (s.1 18) s.2) : ∀ (n : Nat) (s : St), iterK (fun s k => o_bits_Div64_L6 P T D N s.1 s.2 k) n s A = f_bits_Div64_L6 P T D N x2 n (s.1 2) (s.1 8) (s.1 9) (s.1 10) (s.1 14) (s.1 15) (s.1 16) (s.1 17) (s.1 18) s.2 := by
  intro n
  induction n with
  | zero => intro s; rfl
  | succ n ih =>
    intro s
    have hk : (fun (e : Ex) (s' : St) => Ex.on e (iterK (fun s k => o_bits_Div64_L6 P T D N s.1 s.2 k) n s' A) (fun i => A (.exit i) s') (A .ret s')) = (fun (e : Ex) (s : St) => e.on ((f_bits_Div64_L6 P T D N x2 n) (s.1 2) (s.1 8) (s.1 9) (s.1 10) (s.1 14) (s.1 15) (s.1 16) (s.1 17) (s.1 18) s.2) (fun i => (bif i == 2 then x2 (s.1 2) (s.1 8) (s.1 14) (s.1 15) (s.1 17) (s.1 18) s.2 else (A (.exit i) s))) (A .ret s)) := by
      funext e s'
      cases e with
      | normal => exact ih s'
      | ret => exact rfl
      | exit i =>
        by_cases r2 : i = 2
        · subst r2; exact q2 s'
        simp only [Ex.on, beq_false_of_ne r2, cond_false]
    show o_bits_Div64_L6 P T D N s.1 s.2 (fun (e : Ex) (s' : St) => Ex.on e (iterK (fun s k => o_bits_Div64_L6 P T D N s.1 s.2 k) n s' A) (fun i => A (.exit i) s') (A .ret s')) = _
    rw [hk]
    exact f_bits_Div64_b6_eq P T D N (f_bits_Div64_L6 P T D N x2 n) x2 (fun i s => A (.exit i) s) (fun s => A .ret s) s.1 s.2
theorem f_bits_Div64_j3_eq (P : Program) (T : Tab) (D : DTab) (N : Nat) {β : Type} (K : AV → Hp → Option β) (t : Tm) (h : Hp) : o_bits_Div64_j3 P T D N K t h = f_bits_Div64_j3 P T D N K (t 2) (t 8) (t 9) (t 10) (t 11) (t 13) (t 14) (t 15) h := by
  have eL6 : (fun s : St => iterK (fun s k => o_bits_Div64_L6 P T D N s.1 s.2 k) N s (o_bits_Div64_aL6 P T D N K)) = (fun s : St => f_bits_Div64_L6 P T D N (fun w45_2 w45_8 w45_14 w45_15 w45_17 w45_18 h => f_bits_Div64_j5 P T D N K w45_2 w45_8 w45_14 w45_15 w45_17 w45_18 h) N (s.1 2) (s.1 8) (s.1 9) (s.1 10) (s.1 14) (s.1 15) (s.1 16) (s.1 17) (s.1 18) s.2) := funext fun s => f_bits_Div64_L6_eq P T D N (o_bits_Div64_aL6 P T D N K) (fun w45_2 w45_8 w45_14 w45_15 w45_17 w45_18 h => f_bits_Div64_j5 P T D N K w45_2 w45_8 w45_14 w45_15 w45_17 w45_18 h) (fun s => rfl) N s
  show o_bits_Div64_j3_G P T D N (fun s => iterK (fun s k => o_bits_Div64_L6 P T D N s.1 s.2 k) N s (o_bits_Div64_aL6 P T D N K)) K t h = _
  rw [eL6]
  kernel_rfl
theorem f_bits_Div64_j7_eq (P : Program) (T : Tab) (D : DTab) (N : Nat) {β : Type} (K : AV → Hp → Option β) (t : Tm) (h : Hp) : o_bits_Div64_j7 P T D N K t h = f_bits_Div64_j7 P T D N K (t 2) (t 8) (t 9) (t 10) (t 11) (t 13) (t 14) (t 15) h := by
  have ej3 : (fun s : St => o_bits_Div64_j3 P T D N K s.1 s.2) = (fun s : St => f_bits_Div64_j3 P T D N K (s.1 2) (s.1 8) (s.1 9) (s.1 10) (s.1 11) (s.1 13) (s.1 14) (s.1 15) s.2) := funext fun s => f_bits_Div64_j3_eq P T D N K s.1 s.2
  show o_bits_Div64_j7_G P T D N (fun s => o_bits_Div64_j3 P T D N K s.1 s.2) K t h = _
  rw [ej3]
  kernel_rfl
theorem f_bits_Div64_b8_eq (P : Program) (T : Tab) (D : DTab) (N : Nat) {β : Type} (xn : AV → AV → AV → AV → AV → AV → AV → AV → AV → Hp → Option β) (x0 : AV → AV → AV → AV → AV → AV → AV → AV → Hp → Option β) (xd : Nat → St → Option β) (xq : St → Option β) (t : Tm) (h : Hp) : o_bits_Div64_L8 P T D N t h (fun (e : Ex) (s : St) => e.on (xn (s.1 2) (s.1 8) (s.1 9) (s.1 10) (s.1 11) (s.1 13) (s.1 14) (s.1 15) (s.1 16) s.2) (fun i => (bif i == 0 then x0 (s.1 2) (s.1 8) (s.1 9) (s.1 10) (s.1 11) (s.1 13) (s.1 14) (s.1 15) s.2 else (xd i s))) (xq s)) = f_bits_Div64_b8 P T D N xn x0 (t 2) (t 8) (t 9) (t 10) (t 11) (t 13) (t 14) (t 15) (t 16) h := by kernel_rfl
theorem f_bits_Div64_L8_eq (P : Program) (T : Tab) (D : DTab) (N : Nat) {β : Type} (A : Ex → St → Option β) (x0 : AV → AV → AV → AV → AV → AV → AV → AV → Hp → Option β) (q0 : ∀ s, A (.exit 0) s = x0 (s.1 2) (s.1 8) (s.1 9) (s.1 10) (s.1 11) (s.1 13) (s.1 14) (s.1 15) s.2) : ∀ (n : Nat) (s : St), iterK (fun s k => o_bits_Div64_L8 P T D N s.1 s.2 k) n s A = f_bits_Div64_L8 P T D N x0 n (s.1 2) (s.1 8) (s.1 9) (s.1 10) (s.1 11) (s.1 13) (s.1 14) (s.1 15) (s.1 16) s.2 := by
  intro n
  induction n with
  | zero => intro s; rfl
  | succ n ih =>
    intro s
    have hk : (fun (e : Ex) (s' : St) => Ex.on e (iterK (fun s k => o_bits_Div64_L8 P T D N s.1 s.2 k) n s' A) (fun i => A (.exit i) s') (A .ret s')) = (fun (e : Ex) (s : St) => e.on ((f_bits_Div64_L8 P T D N x0 n) (s.1 2) (s.1 8) (s.1 9) (s.1 10) (s.1 11) (s.1 13) (s.1 14) (s.1 15) (s.1 16) s.2) (fun i => (bif i == 0 then x0 (s.1 2) (s.1 8) (s.1 9) (s.1 10) (s.1 11) (s.1 13) (s.1 14) (s.1 15) s.2 else (A (.exit i) s))) (A .ret s)) := by
      funext e s'
      cases e with
      | normal => exact ih s'
      | ret => exact rfl
      | exit i =>
        by_cases r0 : i = 0
        · subst r0; exact q0 s'
        simp only [Ex.on, beq_false_of_ne r0, cond_false]
    show o_bits_Div64_L8 P T D N s.1 s.2 (fun (e : Ex) (s' : St) => Ex.on e (iterK (fun s k => o_bits_Div64_L8 P T D N s.1 s.2 k) n s' A) (fun i => A (.exit i) s') (A .ret s')) = _
    rw [hk]
    exact f_bits_Div64_b8_eq P T D N (f_bits_Div64_L8 P T D N x0 n) x0 (fun i s => A (.exit i) s) (fun s => A .ret s) s.1 s.2
theorem f_bits_Div64_j2_eq (P : Program) (T : Tab) (D : DTab) (N : Nat) {β : Type} (K : AV → Hp → Option β) (t : Tm) (h : Hp) : o_bits_Div64_j2 P T D N K t h = f_bits_Div64_j2 P T D N K (t 0) (t 1) (t 2) h := by
  have eL8 : (fun s : St => iterK (fun s k => o_bits_Div64_L8 P T D N s.1 s.2 k) N s (o_bits_Div64_aL8 P T D N K)) = (fun s : St => f_bits_Div64_L8 P T D N (fun w57_2 w57_8 w57_9 w57_10 w57_11 w57_13 w57_14 w57_15 h => f_bits_Div64_j7 P T D N K w57_2 w57_8 w57_9 w57_10 w57_11 w57_13 w57_14 w57_15 h) N (s.1 2) (s.1 8) (s.1 9) (s.1 10) (s.1 11) (s.1 13) (s.1 14) (s.1 15) (s.1 16) s.2) := funext fun s => f_bits_Div64_L8_eq P T D N (o_bits_Div64_aL8 P T D N K) (fun w57_2 w57_8 w57_9 w57_10 w57_11 w57_13 w57_14 w57_15 h => f_bits_Div64_j7 P T D N K w57_2 w57_8 w57_9 w57_10 w57_11 w57_13 w57_14 w57_15 h) (fun s => f_bits_Div64_j7_eq P T D N K s.1 s.2) N s
  show o_bits_Div64_j2_G P T D N (fun s => iterK (fun s k => o_bits_Div64_L8 P T D N s.1 s.2 k) N s (o_bits_Div64_aL8 P T D N K)) K t h = _
  rw [eL8]
  kernel_rfl
theorem f_bits_Div64_j1_eq (P : Program) (T : Tab) (D : DTab) (N : Nat) {β : Type} (K : AV → Hp → Option β) (t : Tm) (h : Hp) : o_bits_Div64_j1 P T D N K t h = f_bits_Div64_j1 P T D N K (t 0) (t 1) (t 2) h := by
  have ej2 : (fun s : St => o_bits_Div64_j2 P T D N K s.1 s.2) = (fun s : St => f_bits_Div64_j2 P T D N K (s.1 0) (s.1 1) (s.1 2) s.2) := funext fun s => f_bits_Div64_j2_eq P T D N K s.1 s.2
  show o_bits_Div64_j1_G P T D N (fun s => o_bits_Div64_j2 P T D N K s.1 s.2) K t h = _
  rw [ej2]
  kernel_rfl
theorem f_bits_Div64_old_eq (P : Program) (T : Tab) (D : DTab) (N : Nat) {β : Type} (K : AV → Hp → Option β) (a0 : AV) (a1 : AV) (a2 : AV) (h : Hp) : o_bits_Div64 P T D N K a0 a1 a2 h = f_bits_Div64 P T D N K a0 a1 a2 h := by
  have ej1 : (fun s : St => o_bits_Div64_j1 P T D N K s.1 s.2) = (fun s : St => f_bits_Div64_j1 P T D N K (s.1 0) (s.1 1) (s.1 2) s.2) := funext fun s => f_bits_Div64_j1_eq P T D N K s.1 s.2
  show o_bits_Div64_G P T D N (fun s => o_bits_Div64_j1 P T D N K s.1 s.2) K a0 a1 a2 h = _
  rw [ej1]
  kernel_rfl
theorem o_bits_Div64_run (T : Tab) (D : DTab) (N : Nat) {β : Type} (K : AV → Hp → Option β) (a0 : AV) (a1 : AV) (a2 : AV) (h : Hp) : runK Tryz.prog T D N [0, 1, 2, 6, 7, 8, 9, 10, 11, 12, 13, 14, 15, 16, 17, 18, 20, 24, 27, 78, 85, 113, 120] Tryz.f97 K [a0, a1, a2] h = o_bits_Div64 Tryz.prog T D N K a0 a1 a2 h := by kernel_rfl
theorem f_bits_Div64_run (T : Tab) (D : DTab) (N : Nat) {β : Type} (K : AV → Hp → Option β) (a0 : AV) (a1 : AV) (a2 : AV) (h : Hp) : runK Tryz.prog T D N [0, 1, 2, 6, 7, 8, 9, 10, 11, 12, 13, 14, 15, 16, 17, 18, 20, 24, 27, 78, 85, 113, 120] Tryz.f97 K [a0, a1, a2] h = f_bits_Div64 Tryz.prog T D N K a0 a1 a2 h := (o_bits_Div64_run T D N K a0 a1 a2 h).trans (f_bits_Div64_old_eq Tryz.prog T D N K a0 a1 a2 h)
def f_calendar_Date (P : Program) (T : Tab) (D : DTab) (N : Nat) {β : Type} (K : AV → Hp → Option β) (a0 : AV) (h : Hp) : Option β :=
effK (boxE 3 (.agg [.s (.int .i64 0), .s (.int .i64 0), .s (.int .i64 0)]) (List.length h)) h fun x1 h2 =>
callK (T 124) [a0] h2 fun x3 h4 =>
notK x3 fun x5 =>
condK x5 (
buildK [.s (.int .i64 0), .s (.int .i64 0), .s (.int .i64 0)] [] fun x6 =>
effK (stE 3 x1 x6 h4) h4 fun x7 h8 =>
ldK 3 true x1 h8 fun r9 =>
K (.tup [r9, (.s (.int .i64 2))]) h8) (
callK (T 125) [a0] h4 fun x10 h11 =>
effK (stE 3 x1 x10 h11) h11 fun x12 h13 =>
ldK 3 true x1 h13 fun r14 =>
K (.tup [r14, (.s (.int .i64 0))]) h13)
theorem f_calendar_Date_run (T : Tab) (D : DTab) (N : Nat) {β : Type} (K : AV → Hp → Option β) (a0 : AV) (h : Hp) : runK Tryz.prog T D N [0, 2, 3, 6] Tryz.f98 K [a0] h = f_calendar_Date Tryz.prog T D N K a0 h := by kernel_rfl
def f_calendar_Day (P : Program) (T : Tab) (D : DTab) (N : Nat) {β : Type} (K : AV → Hp → Option β) (a0 : AV) (h : Hp) : Option β :=
effK (boxE 3 a0 (List.length h)) h fun x1 h2 =>
faK 0 x1 fun x3 =>
ldK 1 false x3 h2 fun x4 =>
arithK .lss x4 (.s (.int .i64 1900)) fun x5 =>
gopD (wB x5 false) h2 (fun k => faK 0 x1 fun v => k v h2 ([], [])) fun x6 h7 e8 =>
gopD (wB x5 false) h7 (fun k => ldK 1 false x6 h7 fun v => k v h7 ((idsOf x6), [])) fun x9 h10 e11 =>
gopD (wB x5 false) h10 (fun k => arithK .gtr x9 (.s (.int .i64 2200)) fun v => k v h10 ([], [])) fun x12 h13 e14 =>
pickK x5 (.s (.bool true)) x12 fun x15 =>
gopD (wB x15 false) h13 (fun k => faK 1 x1 fun v => k v h13 ([], [])) fun x16 h17 e18 =>
gopD (wB x15 false) h17 (fun k => ldK 1 false x16 h17 fun v => k v h17 ((idsOf x16), [])) fun x19 h20 e21 =>
gopD (wB x15 false) h20 (fun k => arithK .lss x19 (.s (.int .i64 1)) fun v => k v h20 ([], [])) fun x22 h23 e24 =>
pickK x15 (.s (.bool true)) x22 fun x25 =>
gopD (wB x25 false) h23 (fun k => faK 1 x1 fun v => k v h23 ([], [])) fun x26 h27 e28 =>
gopD (wB x25 false) h27 (fun k => ldK 1 false x26 h27 fun v => k v h27 ((idsOf x26), [])) fun x29 h30 e31 =>
gopD (wB x25 false) h30 (fun k => arithK .gtr x29 (.s (.int .i64 12)) fun v => k v h30 ([], [])) fun x32 h33 e34 =>
pickK x25 (.s (.bool true)) x32 fun x35 =>
gopD (wB x35 false) h33 (fun k => faK 2 x1 fun v => k v h33 ([], [])) fun x36 h37 e38 =>
gopD (wB x35 false) h37 (fun k => ldK 1 false x36 h37 fun v => k v h37 ((idsOf x36), [])) fun x39 h40 e41 =>
gopD (wB x35 false) h40 (fun k => arithK .lss x39 (.s (.int .i64 1)) fun v => k v h40 ([], [])) fun x42 h43 e44 =>
pickK x35 (.s (.bool true)) x42 fun x45 =>
gopD (wB x45 false) h43 (fun k => faK 2 x1 fun v => k v h43 ([], [])) fun x46 h47 e48 =>
gopD (wB x45 false) h47 (fun k => ldK 1 false x46 h47 fun v => k v h47 ((idsOf x46), [])) fun x49 h50 e51 =>
gopD (wB x45 false) h50 (fun k => faK 0 x1 fun v => k v h50 ([], [])) fun x52 h53 e54 =>
gopD (wB x45 false) h53 (fun k => ldK 1 false x52 h53 fun v => k v h53 ((idsOf x52), [])) fun x55 h56 e57 =>
gopD (wB x45 false) h56 (fun k => faK 1 x1 fun v => k v h56 ([], [])) fun x58 h59 e60 =>
gopD (wB x45 false) h59 (fun k => ldK 1 false x58 h59 fun v => k v h59 ((idsOf x58), [])) fun x61 h62 e63 =>
gopD (wB x45 false) h62 (fun k => effD (callE (D 126) [x55, x61] h62 (List.length h62)) h62 k) fun x64 h65 e66 =>
gopD (wB x45 false) h65 (fun k => arithK .gtr x49 x64 fun v => k v h65 ([], [])) fun x67 h68 e69 =>
pickK x45 (.s (.bool true)) x67 fun x70 =>
bif disjAll [(25, 30)] [([], []), ((idsOf x3), []), ([], []), ([], []), e8, e11, e14, ([], []), ([], []), e18, e21, e24, ([], []), ([], []), e28, e31, e34, ([], []), ([], []), e38, e41, e44, ([], []), ([], []), e48, e51, e54, e57, e60, e63, e66, e69, ([], [])] then (
condK x70 (
K (.tup [(.s (.int .i64 0)), (.s (.int .i64 1))]) h68) (
ldK 3 true x1 h68 fun x71 =>
callK (T 127) [x71] h68 fun x72 h73 =>
effD (callE (D 124) [x72] h73 (List.length h73)) h73 fun x74 h75 e76 =>
notK x74 fun x77 =>
gopD (wB x77 false) h75 (fun k => k x72 h75 ([], [])) fun x78 h79 e80 =>
gopD (wB x77 false) h79 (fun k => effD (callE (D 125) [x78] h79 (List.length h79)) h79 k) fun x81 h82 e83 =>
gopD (wB x77 false) h82 (fun k => ldK 3 true x1 h82 fun v => k v h82 ((idsOf x1), [])) fun x84 h85 e86 =>
gopD (wB x77 false) h85 (fun k => eqK P true 122 x81 x84 h85 fun v => k v h85 ([], [])) fun x87 h88 e89 =>
pickK x77 (.s (.bool true)) x87 fun x90 =>
bif disjAll [(5, 6)] [([], []), e76, ([], []), ([], []), e80, e83, e86, e89, ([], [])] then (
condK x90 (
K (.tup [(.s (.int .i64 0)), (.s (.int .i64 1))]) h88) (
K (.tup [x72, (.s (.int .i64 0))]) h88)) else none)) else none
theorem f_calendar_Day_run (T : Tab) (D : DTab) (N : Nat) {β : Type} (K : AV → Hp → Option β) (a0 : AV) (h : Hp) : runK Tryz.prog T D N [0, 1, 2, 3, 4, 37, 48] Tryz.f99 K [a0] h = f_calendar_Day Tryz.prog T D N K a0 h := by kernel_rfl
def o_sort_Search_j1 (P : Program) (T : Tab) (D : DTab) (N : Nat) {β : Type} (K : AV → Hp → Option β) (t : Tm) (h : Hp) : Option β :=
K (t 5) h
def o_sort_Search_j3 (P : Program) (T : Tab) (D : DTab) (N : Nat) {β : Type} (k : Ex → St → Option β) (t : Tm) (h : Hp) : Option β :=
k .normal (t, h)
def o_sort_Search_L2 (P : Program) (T : Tab) (D : DTab) (N : Nat) {β : Type} (t : Tm) (h : Hp) (k : Ex → St → Option β) : Option β :=
arithK .lss (t 5) (t 6) fun x1 =>
condK x1 (
arithK .add (t 5) (t 6) fun x2 =>
convK P 3 111 x2 fun x3 =>
reckK P .shr 111 x3 (.s (.int .u64 1)) fun x4 =>
convK P 111 3 x4 fun x5 =>
callVK T (t 1) [x5] h fun x6 h7 =>
notK x6 fun x8 =>
condK x8 (
arithK .add x5 (.s (.int .i64 1)) fun x9 =>
(o_sort_Search_j3 P T D N k (upd (upd (upd (upd t 11 x1) 7 x5) 21 x8) 5 x9) h7)) (
(o_sort_Search_j3 P T D N k (upd (upd (upd (upd t 11 x1) 7 x5) 21 x8) 6 x5) h7))) (
k (.exit 0) ((upd t 11 x1), h))
def o_sort_Search_aL2 (P : Program) (T : Tab) (D : DTab) (N : Nat) {β : Type} (K : AV → Hp → Option β) (e : Ex) (s : St) : Option β :=
  e.on ((o_sort_Search_j1 P T D N K s.1 s.2))
  (fun i => bif i == 0 then ((o_sort_Search_j1 P T D N K s.1 s.2)) else (none))
  (K (s.1 4) s.2)
def o_sort_Search_G (P : Program) (T : Tab) (D : DTab) (N : Nat) {β : Type} (cL2 : St → Option β) (K : AV → Hp → Option β) (a0 : AV) (a1 : AV) (h : Hp) :  Option β :=
cL2 ((upd (upd (upd (tm0 [a0, a1]) 4 (.s (.int .i64 0))) 5 (.s (.int .i64 0))) 6 a0), h)
def o_sort_Search (P : Program) (T : Tab) (D : DTab) (N : Nat) {β : Type} (K : AV → Hp → Option β) (a0 : AV) (a1 : AV) (h : Hp) : Option β := o_sort_Search_G P T D N (fun s => iterK (fun s k => o_sort_Search_L2 P T D N s.1 s.2 k) N s (o_sort_Search_aL2 P T D N K)) K a0 a1 h
def f_sort_Search_j1 (P : Program) (T : Tab) (D : DTab) (N : Nat) {β : Type} (K : AV → Hp → Option β) (v5 : AV) (h : Hp) : Option β :=
K v5 h
def f_sort_Search_j3 (P : Program) (T : Tab) (D : DTab) (N : Nat) {β : Type} (xn : AV → AV → AV → Hp → Option β) (x0 : AV → Hp → Option β) (v1 : AV) (v5 : AV) (v6 : AV) (h : Hp) : Option β :=
xn v1 v5 v6 h
def f_sort_Search_b2 (P : Program) (T : Tab) (D : DTab) (N : Nat) {β : Type} (xn : AV → AV → AV → Hp → Option β) (x0 : AV → Hp → Option β) (v1 : AV) (v5 : AV) (v6 : AV) (h : Hp) : Option β :=
arithK .lss v5 v6 fun x1 =>
condK x1 (
arithK .add v5 v6 fun x2 =>
convK P 3 111 x2 fun x3 =>
reckK P .shr 111 x3 (.s (.int .u64 1)) fun x4 =>
convK P 111 3 x4 fun x5 =>
callVK T v1 [x5] h fun x6 h7 =>
notK x6 fun x8 =>
condK x8 (
arithK .add x5 (.s (.int .i64 1)) fun x9 =>
f_sort_Search_j3 P T D N xn x0 v1 x9 v6 h7) (
f_sort_Search_j3 P T D N xn x0 v1 v5 x5 h7)) (
x0 v5 h)
def f_sort_Search_L2 (P : Program) (T : Tab) (D : DTab) (N : Nat) {β : Type} (x0 : AV → Hp → Option β) : Nat → AV → AV → AV → Hp → Option β
  | 0 => fun _ _ _ _ => none
  | n + 1 => fun v1 v5 v6 h => f_sort_Search_b2 P T D N (f_sort_Search_L2 P T D N x0 n) x0 v1 v5 v6 h
def f_sort_Search (P : Program) (T : Tab) (D : DTab) (N : Nat) {β : Type} (K : AV → Hp → Option β) (a0 : AV) (a1 : AV) (h : Hp) : Option β :=
f_sort_Search_L2 P T D N (fun w10_5 h => f_sort_Search_j1 P T D N K w10_5 h) N a1 (.s (.int .i64 0)) a0 h
theorem f_sort_Search_b2_eq (P : Program) (T : Tab) (D : DTab) (N : Nat) {β : Type} (xn : AV → AV → AV → Hp → Option β) (x0 : AV → Hp → Option β) (xd : Nat → St → Option β) (xq : St → Option β) (t : Tm) (h : Hp) : o_sort_Search_L2 P T D N t h (fun (e : Ex) (s : St) => e.on (xn (s.1 1) (s.1 5) (s.1 6) s.2) (fun i => (bif i == 0 then x0 (s.1 5) s.2 else (xd i s))) (xq s)) = f_sort_Search_b2 P T D N xn x0 (t 1) (t 5) (t 6) h := by kernel_rfl
theorem f_sort_Search_L2_eq (P : Program) (T : Tab) (D : DTab) (N : Nat) {β : Type} (A : Ex → St → Option β) (x0 : AV → Hp → Option β) (q0 : ∀ s, A (.exit 0) s = x0 (s.1 5) s.2) : ∀ (n : Nat) (s : St), iterK (fun s k => o_sort_Search_L2 P T D N s.1 s.2 k) n s A = f_sort_Search_L2 P T D N x0 n (s.1 1) (s.1 5) (s.1 6) s.2 := by
  intro n
  induction n with
  | zero => intro s; rfl
  | succ n ih =>
    intro s
    have hk : (fun (e : Ex) (s' : St) => Ex.on e (iterK (fun s k => o_sort_Search_L2 P T D N s.1 s.2 k) n s' A) (fun i => A (.exit i) s') (A .ret s')) = (fun (e : Ex) (s : St) => e.on ((f_sort_Search_L2 P T D N x0 n) (s.1 1) (s.1 5) (s.1 6) s.2) (fun i => (bif i == 0 then x0 (s.1 5) s.2 else (A (.exit i) s))) (A .ret s)) := by
      funext e s'
      cases e with
      | normal => exact ih s'
      | ret => exact rfl
      | exit i =>
        by_cases r0 : i = 0
        · subst r0; exact q0 s'
        simp only [Ex.on, beq_false_of_ne r0, cond_false]
    show o_sort_Search_L2 P T D N s.1 s.2 (fun (e : Ex) (s' : St) => Ex.on e (iterK (fun s k => o_sort_Search_L2 P T D N s.1 s.2 k) n s' A) (fun i => A (.exit i) s') (A .ret s')) = _
    rw [hk]
    exact f_sort_Search_b2_eq P T D N (f_sort_Search_L2 P T D N x0 n) x0 (fun i s => A (.exit i) s) (fun s => A .ret s) s.1 s.2
theorem f_sort_Search_old_eq (P : Program) (T : Tab) (D : DTab) (N : Nat) {β : Type} (K : AV → Hp → Option β) (a0 : AV) (a1 : AV) (h : Hp) : o_sort_Search P T D N K a0 a1 h = f_sort_Search P T D N K a0 a1 h := by
  have eL2 : (fun s : St => iterK (fun s k => o_sort_Search_L2 P T D N s.1 s.2 k) N s (o_sort_Search_aL2 P T D N K)) = (fun s : St => f_sort_Search_L2 P T D N (fun w10_5 h => f_sort_Search_j1 P T D N K w10_5 h) N (s.1 1) (s.1 5) (s.1 6) s.2) := funext fun s => f_sort_Search_L2_eq P T D N (o_sort_Search_aL2 P T D N K) (fun w10_5 h => f_sort_Search_j1 P T D N K w10_5 h) (fun s => rfl) N s
  show o_sort_Search_G P T D N (fun s => iterK (fun s k => o_sort_Search_L2 P T D N s.1 s.2 k) N s (o_sort_Search_aL2 P T D N K)) K a0 a1 h = _
  rw [eL2]
  kernel_rfl
theorem o_sort_Search_run (T : Tab) (D : DTab) (N : Nat) {β : Type} (K : AV → Hp → Option β) (a0 : AV) (a1 : AV) (h : Hp) : runK Tryz.prog T D N [0, 1, 4, 5, 6, 7, 11, 21] Tryz.f100 K [a0, a1] h = o_sort_Search Tryz.prog T D N K a0 a1 h := by kernel_rfl
theorem f_sort_Search_run (T : Tab) (D : DTab) (N : Nat) {β : Type} (K : AV → Hp → Option β) (a0 : AV) (a1 : AV) (h : Hp) : runK Tryz.prog T D N [0, 1, 4, 5, 6, 7, 11, 21] Tryz.f100 K [a0, a1] h = f_sort_Search Tryz.prog T D N K a0 a1 h := (o_sort_Search_run T D N K a0 a1 h).trans (f_sort_Search_old_eq Tryz.prog T D N K a0 a1 h)
def f_season_on_1 (P : Program) (T : Tab) (D : DTab) (N : Nat) {β : Type} (K : AV → Hp → Option β) (a0 : AV) (a1 : AV) (a2 : AV) (h : Hp) : Option β :=
ldK 1 false a1 h fun x1 =>
iaK 4 x1 a0 fun x2 =>
faK 0 x2 fun x3 =>
ldK 1 false x3 h fun x4 =>
ldK 1 false a2 h fun x5 =>
arithK .gtr x4 x5 fun x6 =>
K x6 h
theorem f_season_on_1_run (T : Tab) (D : DTab) (N : Nat) {β : Type} (K : AV → Hp → Option β) (a0 : AV) (a1 : AV) (a2 : AV) (h : Hp) : runK Tryz.prog T D N [0, 1, 2, 4] Tryz.f101 K [a0, a1, a2] h = f_season_on_1 Tryz.prog T D N K a0 a1 a2 h := by kernel_rfl
def f_season_version (P : Program) (T : Tab) (D : DTab) (N : Nat) {β : Type} (K : AV → Hp → Option β) (a0 : AV) (a1 : AV) (h : Hp) : Option β :=
effK (boxE 1 a0 (List.length h)) h fun x1 h2 =>
effK (boxE 1 a1 (List.length h2)) h2 fun x3 h4 =>
ldK 1 false x1 h4 fun x5 =>
lenK x5 fun x6 =>
callK (T 100) [x6, (.fn 128 [x1, x3])] h4 fun x7 h8 =>
eqK P false 3 x7 (.s (.int .i64 0)) h8 fun x9 =>
condK x9 (
K (.tup [(.s (.int .i64 0)), (.s (.bool false))]) h8) (
ldK 1 false x1 h8 fun x10 =>
arithK .sub x7 (.s (.int .i64 1)) fun x11 =>
iaK 4 x10 x11 fun x12 =>
faK 0 x12 fun x13 =>
ldK 1 false x13 h8 fun x14 =>
K (.tup [x14, (.s (.bool true))]) h8)
theorem f_season_version_run (T : Tab) (D : DTab) (N : Nat) {β : Type} (K : AV → Hp → Option β) (a0 : AV) (a1 : AV) (h : Hp) : runK Tryz.prog T D N [0, 1, 2, 3, 4, 5, 6, 12] Tryz.f102 K [a0, a1] h = f_season_version Tryz.prog T D N K a0 a1 h := by kernel_rfl
def f_season_rate (P : Program) (T : Tab) (D : DTab) (N : Nat) {β : Type} (K : AV → Hp → Option β) (a0 : AV) (a1 : AV) (a2 : AV) (a3 : AV) (h : Hp) : Option β :=
effK (boxE 1 a0 (List.length h)) h fun x1 h2 =>
buildK [.s (.int .i64 0), .s (.int .i64 0), .s (.int .i64 0), .s (.int .i64 0)] [(some (0, 1), a1), (some (1, 1), a2), (some (2, 1), a3)] fun x3 =>
effK (boxE 4 (.agg [.s (.int .i64 0), .s (.int .i64 0), .s (.int .i64 0), .s (.int .i64 0)]) (List.length h2)) h2 fun x4 h5 =>
effK (stE 4 x4 x3 h5) h5 fun x6 h7 =>
ldK 1 false x1 h7 fun x8 =>
lenK x8 fun x9 =>
callK (T 100) [x9, (.fn 129 [x1, x4])] h7 fun x10 h11 =>
ldK 1 false x1 h11 fun x12 =>
lenK x12 fun x13 =>
arithK .lss x10 x13 fun x14 =>
grpK true x14 h11 (fun k15 =>
ldK 1 false x1 h11 fun x16 =>
iaK 4 x16 x10 fun x17 =>
faK 0 x17 fun x18 =>
ldK 1 false x18 h11 fun x19 =>
eqK P false 3 x19 a1 h11 fun x20 =>
k15 x20 h11) fun x21 h22 =>
grpK true x21 h22 (fun k23 =>
ldK 1 false x1 h22 fun x24 =>
iaK 4 x24 x10 fun x25 =>
faK 1 x25 fun x26 =>
ldK 1 false x26 h22 fun x27 =>
eqK P false 3 x27 a2 h22 fun x28 =>
k23 x28 h22) fun x29 h30 =>
grpK true x29 h30 (fun k31 =>
ldK 1 false x1 h30 fun x32 =>
iaK 4 x32 x10 fun x33 =>
faK 2 x33 fun x34 =>
ldK 1 false x34 h30 fun x35 =>
eqK P false 3 x35 a3 h30 fun x36 =>
k31 x36 h30) fun x37 h38 =>
condK x37 (
ldK 1 false x1 h38 fun x39 =>
iaK 4 x39 x10 fun x40 =>
faK 3 x40 fun x41 =>
ldK 1 false x41 h38 fun x42 =>
K x42 h38) (
K (.s (.int .i64 0)) h38)
theorem f_season_rate_run (T : Tab) (D : DTab) (N : Nat) {β : Type} (K : AV → Hp → Option β) (a0 : AV) (a1 : AV) (a2 : AV) (a3 : AV) (h : Hp) : runK Tryz.prog T D N [0, 1, 2, 3, 4, 8, 9, 10, 49] Tryz.f103 K [a0, a1, a2, a3] h = f_season_rate Tryz.prog T D N K a0 a1 a2 a3 h := by kernel_rfl
def f_ref40_Node (P : Program) (T : Tab) (D : DTab) (N : Nat) {β : Type} (K : AV → Hp → Option β) (a0 : AV) (h : Hp) : Option β :=
arithK .geq a0 (.s (.int .i64 1)) fun x1 =>
grpK true x1 h (fun k2 =>
arithK .leq a0 (.s (.int .i64 99)) fun x3 =>
k2 x3 h) fun x4 h5 =>
K x4 h5
theorem f_ref40_Node_run (T : Tab) (D : DTab) (N : Nat) {β : Type} (K : AV → Hp → Option β) (a0 : AV) (h : Hp) : runK Tryz.prog T D N [0, 2] Tryz.f104 K [a0] h = f_ref40_Node Tryz.prog T D N K a0 h := by kernel_rfl
def o_ref31_Version_j1 (P : Program) (T : Tab) (D : DTab) (N : Nat) {β : Type} (K : AV → Hp → Option β) (t : Tm) (h : Hp) : Option β :=
K (t 5) h
def o_ref31_Version_j3 (P : Program) (T : Tab) (D : DTab) (N : Nat) {β : Type} (k : Ex → St → Option β) (t : Tm) (h : Hp) : Option β :=
arithK .add (t 6) (.s (.int .i64 1)) fun x3 =>
k .normal ((upd t 6 x3), h)
def o_ref31_Version_j4 (P : Program) (T : Tab) (D : DTab) (N : Nat) {β : Type} (k : Ex → St → Option β) (t : Tm) (h : Hp) : Option β :=
(o_ref31_Version_j3 P T D N k t h)
def o_ref31_Version_L2 (P : Program) (T : Tab) (D : DTab) (N : Nat) {β : Type} (t : Tm) (h : Hp) (k : Ex → St → Option β) : Option β :=
lenK (t 0) fun x1 =>
arithK .lss (t 6) x1 fun x2 =>
condK x2 (
iaK 4 (t 0) (t 6) fun x4 =>
faK 0 x4 fun x5 =>
ldK 1 false x5 h fun x6 =>
arithK .leq x6 (t 1) fun x7 =>
grpK true x7 h (fun k8 =>
iaK 4 (t 0) (t 6) fun x9 =>
faK 0 x9 fun x10 =>
ldK 1 false x10 h fun x11 =>
arithK .gtr x11 (t 5) fun x12 =>
k8 x12 h) fun x13 h14 =>
condK x13 (
iaK 4 (t 0) (t 6) fun x15 =>
faK 0 x15 fun x16 =>
ldK 1 false x16 h14 fun x17 =>
(o_ref31_Version_j4 P T D N k (upd (upd (upd t 10 x2) 28 x13) 5 x17) h14)) (
(o_ref31_Version_j4 P T D N k (upd (upd t 10 x2) 28 x13) h14))) (
k (.exit 0) ((upd t 10 x2), h))
def o_ref31_Version_aL2 (P : Program) (T : Tab) (D : DTab) (N : Nat) {β : Type} (K : AV → Hp → Option β) (e : Ex) (s : St) : Option β :=
  e.on ((o_ref31_Version_j1 P T D N K s.1 s.2))
  (fun i => bif i == 0 then ((o_ref31_Version_j1 P T D N K s.1 s.2)) else (none))
  (K (s.1 4) s.2)
def o_ref31_Version_G (P : Program) (T : Tab) (D : DTab) (N : Nat) {β : Type} (cL2 : St → Option β) (K : AV → Hp → Option β) (a0 : AV) (a1 : AV) (h : Hp) :  Option β :=
cL2 ((upd (upd (upd (tm0 [a0, a1]) 4 (.s (.int .i64 0))) 5 (.s (.int .i64 (-1)))) 6 (.s (.int .i64 0))), h)
def o_ref31_Version (P : Program) (T : Tab) (D : DTab) (N : Nat) {β : Type} (K : AV → Hp → Option β) (a0 : AV) (a1 : AV) (h : Hp) : Option β := o_ref31_Version_G P T D N (fun s => iterK (fun s k => o_ref31_Version_L2 P T D N s.1 s.2 k) N s (o_ref31_Version_aL2 P T D N K)) K a0 a1 h
def f_ref31_Version_j1 (P : Program) (T : Tab) (D : DTab) (N : Nat) {β : Type} (K : AV → Hp → Option β) (v5 : AV) (h : Hp) : Option β :=
K v5 h
def f_ref31_Version_j3 (P : Program) (T : Tab) (D : DTab) (N : Nat) {β : Type} (xn : AV → AV → AV → AV → Hp → Option β) (x0 : AV → Hp → Option β) (v0 : AV) (v1 : AV) (v5 : AV) (v6 : AV) (h : Hp) : Option β :=
arithK .add v6 (.s (.int .i64 1)) fun x3 =>
xn v0 v1 v5 x3 h
def f_ref31_Version_j4 (P : Program) (T : Tab) (D : DTab) (N : Nat) {β : Type} (xn : AV → AV → AV → AV → Hp → Option β) (x0 : AV → Hp → Option β) (v0 : AV) (v1 : AV) (v5 : AV) (v6 : AV) (h : Hp) : Option β :=
f_ref31_Version_j3 P T D N xn x0 v0 v1 v5 v6 h
def f_ref31_Version_b2 (P : Program) (T : Tab) (D : DTab) (N : Nat) {β : Type} (xn : AV → AV → AV → AV → Hp → Option β) (x0 : AV → Hp → Option β) (v0 : AV) (v1 : AV) (v5 : AV) (v6 : AV) (h : Hp) : Option β :=
lenK v0 fun x1 =>
arithK .lss v6 x1 fun x2 =>
condK x2 (
iaK 4 v0 v6 fun x4 =>
faK 0 x4 fun x5 =>
ldK 1 false x5 h fun x6 =>
arithK .leq x6 v1 fun x7 =>
grpK true x7 h (fun k8 =>
iaK 4 v0 v6 fun x9 =>
faK 0 x9 fun x10 =>
ldK 1 false x10 h fun x11 =>
arithK .gtr x11 v5 fun x12 =>
k8 x12 h) fun x13 h14 =>
condK x13 (
iaK 4 v0 v6 fun x15 =>
faK 0 x15 fun x16 =>
ldK 1 false x16 h14 fun x17 =>
f_ref31_Version_j4 P T D N xn x0 v0 v1 x17 v6 h14) (
f_ref31_Version_j4 P T D N xn x0 v0 v1 v5 v6 h14)) (
x0 v5 h)
def f_ref31_Version_L2 (P : Program) (T : Tab) (D : DTab) (N : Nat) {β : Type} (x0 : AV → Hp → Option β) : Nat → AV → AV → AV → AV → Hp → Option β
  | 0 => fun _ _ _ _ _ => none
  | n + 1 => fun v0 v1 v5 v6 h => f_ref31_Version_b2 P T D N (f_ref31_Version_L2 P T D N x0 n) x0 v0 v1 v5 v6 h
def f_ref31_Version (P : Program) (T : Tab) (D : DTab) (N : Nat) {β : Type} (K : AV → Hp → Option β) (a0 : AV) (a1 : AV) (h : Hp) : Option β :=
f_ref31_Version_L2 P T D N (fun w18_5 h => f_ref31_Version_j1 P T D N K w18_5 h) N a0 a1 (.s (.int .i64 (-1))) (.s (.int .i64 0)) h
theorem f_ref31_Version_b2_eq (P : Program) (T : Tab) (D : DTab) (N : Nat) {β : Type} (xn : AV → AV → AV → AV → Hp → Option β) (x0 : AV → Hp → Option β) (xd : Nat → St → Option β) (xq : St → Option β) (t : Tm) (h : Hp) : o_ref31_Version_L2 P T D N t h (fun (e : Ex) (s : St) => e.on (xn (s.1 0) (s.1 1) (s.1 5) (s.1 6) s.2) (fun i => (bif i == 0 then x0 (s.1 5) s.2 else (xd i s))) (xq s)) = f_ref31_Version_b2 P T D N xn x0 (t 0) (t 1) (t 5) (t 6) h := by kernel_rfl
theorem f_ref31_Version_L2_eq (P : Program) (T : Tab) (D : DTab) (N : Nat) {β : Type} (A : Ex → St → Option β) (x0 : AV → Hp → Option β) (q0 : ∀ s, A (.exit 0) s = x0 (s.1 5) s.2) : ∀ (n : Nat) (s : St), iterK (fun s k => o_ref31_Version_L2 P T D N s.1 s.2 k) n s A = f_ref31_Version_L2 P T D N x0 n (s.1 0) (s.1 1) (s.1 5) (s.1 6) s.2 := by
  intro n
  induction n with
  | zero => intro s; rfl
  | succ n ih =>
    intro s
    have hk : (fun (e : Ex) (s' : St) => Ex.on e (iterK (fun s k => o_ref31_Version_L2 P T D N s.1 s.2 k) n s' A) (fun i => A (.exit i) s') (A .ret s')) = (fun (e : Ex) (s : St) => e.on ((f_ref31_Version_L2 P T D N x0 n) (s.1 0) (s.1 1) (s.1 5) (s.1 6) s.2) (fun i => (bif i == 0 then x0 (s.1 5) s.2 else (A (.exit i) s))) (A .ret s)) := by
      funext e s'
      cases e with
      | normal => exact ih s'
      | ret => exact rfl
      | exit i =>
        by_cases r0 : i = 0
        · subst r0; exact q0 s'
        simp only [Ex.on, beq_false_of_ne r0, cond_false]
    show o_ref31_Version_L2 P T D N s.1 s.2 (fun (e : Ex) (s' : St) => Ex.on e (iterK (fun s k => o_ref31_Version_L2 P T D N s.1 s.2 k) n s' A) (fun i => A (.exit i) s') (A .ret s')) = _
    rw [hk]
    exact f_ref31_Version_b2_eq P T D N (f_ref31_Version_L2 P T D N x0 n) x0 (fun i s => A (.exit i) s) (fun s => A .ret s) s.1 s.2
theorem f_ref31_Version_old_eq (P : Program) (T : Tab) (D : DTab) (N : Nat) {β : Type} (K : AV → Hp → Option β) (a0 : AV) (a1 : AV) (h : Hp) : o_ref31_Version P T D N K a0 a1 h = f_ref31_Version P T D N K a0 a1 h := by
  have eL2 : (fun s : St => iterK (fun s k => o_ref31_Version_L2 P T D N s.1 s.2 k) N s (o_ref31_Version_aL2 P T D N K)) = (fun s : St => f_ref31_Version_L2 P T D N (fun w18_5 h => f_ref31_Version_j1 P T D N K w18_5 h) N (s.1 0) (s.1 1) (s.1 5) (s.1 6) s.2) := funext fun s => f_ref31_Version_L2_eq P T D N (o_ref31_Version_aL2 P T D N K) (fun w18_5 h => f_ref31_Version_j1 P T D N K w18_5 h) (fun s => rfl) N s
  show o_ref31_Version_G P T D N (fun s => iterK (fun s k => o_ref31_Version_L2 P T D N s.1 s.2 k) N s (o_ref31_Version_aL2 P T D N K)) K a0 a1 h = _
  rw [eL2]
  kernel_rfl
theorem o_ref31_Version_run (T : Tab) (D : DTab) (N : Nat) {β : Type} (K : AV → Hp → Option β) (a0 : AV) (a1 : AV) (h : Hp) : runK Tryz.prog T D N [0, 1, 4, 5, 6, 10, 28] Tryz.f105 K [a0, a1] h = o_ref31_Version Tryz.prog T D N K a0 a1 h := by kernel_rfl
theorem f_ref31_Version_run (T : Tab) (D : DTab) (N : Nat) {β : Type} (K : AV → Hp → Option β) (a0 : AV) (a1 : AV) (h : Hp) : runK Tryz.prog T D N [0, 1, 4, 5, 6, 10, 28] Tryz.f105 K [a0, a1] h = f_ref31_Version Tryz.prog T D N K a0 a1 h := (o_ref31_Version_run T D N K a0 a1 h).trans (f_ref31_Version_old_eq Tryz.prog T D N K a0 a1 h)
def o_ref31_Month_j1 (P : Program) (T : Tab) (D : DTab) (N : Nat) {β : Type} (K : AV → Hp → Option β) (t : Tm) (h : Hp) : Option β :=
K (t 2) h
def o_ref31_Month_j3 (P : Program) (T : Tab) (D : DTab) (N : Nat) {β : Type} (k : Ex → St → Option β) (t : Tm) (h : Hp) : Option β :=
k .normal (t, h)
def o_ref31_Month_j4 (P : Program) (T : Tab) (D : DTab) (N : Nat) {β : Type} (k : Ex → St → Option β) (t : Tm) (h : Hp) : Option β :=
arithK .add (t 3) (.s (.int .i64 1)) fun x13 =>
(o_ref31_Month_j3 P T D N k (upd t 3 x13) h)
def o_ref31_Month_j7 (P : Program) (T : Tab) (D : DTab) (N : Nat) {β : Type} (k : Ex → St → Option β) (t : Tm) (h : Hp) : Option β :=
arithK .lss (t 0) (t 6) fun x15 =>
condK x15 (
k .ret ((upd (upd t 43 x15) 2 (t 5)), h)) (
arithK .sub (t 0) (t 6) fun x16 =>
arithK .add (t 5) (.s (.int .i64 1)) fun x17 =>
k .normal ((upd (upd (upd t 43 x15) 0 x16) 5 x17), h))
def o_ref31_Month_j6 (P : Program) (T : Tab) (D : DTab) (N : Nat) {β : Type} (k : Ex → St → Option β) (t : Tm) (h : Hp) : Option β :=
eqK P false 3 (t 5) (.s (.int .i64 2)) h fun x18 =>
condK x18 (
condK (t 4) (
(o_ref31_Month_j7 P T D N k (upd (upd (upd (upd t 39 x18) 6 (.s (.int .i64 28))) 40 (t 4)) 6 (.s (.int .i64 29))) h)) (
(o_ref31_Month_j7 P T D N k (upd (upd (upd t 39 x18) 6 (.s (.int .i64 28))) 40 (t 4)) h))) (
(o_ref31_Month_j7 P T D N k (upd t 39 x18) h))
def o_ref31_Month_L5 (P : Program) (T : Tab) (D : DTab) (N : Nat) {β : Type} (t : Tm) (h : Hp) (k : Ex → St → Option β) : Option β :=
arithK .leq (t 5) (.s (.int .i64 12)) fun x14 =>
condK x14 (
eqK P false 3 (t 5) (.s (.int .i64 4)) h fun x19 =>
grpK false x19 h (fun k20 =>
eqK P false 3 (t 5) (.s (.int .i64 6)) h fun x21 =>
k20 x21 h) fun x22 h23 =>
grpK false x22 h23 (fun k24 =>
eqK P false 3 (t 5) (.s (.int .i64 9)) h23 fun x25 =>
k24 x25 h23) fun x26 h27 =>
grpK false x26 h27 (fun k28 =>
eqK P false 3 (t 5) (.s (.int .i64 11)) h27 fun x29 =>
k28 x29 h27) fun x30 h31 =>
condK x30 (
(o_ref31_Month_j6 P T D N k (upd (upd (upd (upd t 21 x14) 6 (.s (.int .i64 31))) 37 x30) 6 (.s (.int .i64 30))) h31)) (
(o_ref31_Month_j6 P T D N k (upd (upd (upd t 21 x14) 6 (.s (.int .i64 31))) 37 x30) h31))) (
k (.exit 2) ((upd t 21 x14), h))
def o_ref31_Month_aL5 (P : Program) (T : Tab) (D : DTab) (N : Nat) {β : Type} (k : Ex → St → Option β) (e : Ex) (s : St) : Option β :=
  e.on ((o_ref31_Month_j4 P T D N k s.1 s.2))
  (fun i => bif i == 2 then ((o_ref31_Month_j4 P T D N k s.1 s.2)) else (bif i == 1 then ((o_ref31_Month_j3 P T D N k s.1 s.2)) else (k (.exit i) (s.1, s.2))))
  (k .ret (s.1, s.2))
def o_ref31_Month_L2_G (P : Program) (T : Tab) (D : DTab) (N : Nat) {β : Type} (cL5 : St → Option β) (t : Tm) (h : Hp) (k : Ex → St → Option β) :  Option β :=
reckK P .rem 3 (t 3) (.s (.int .i64 4)) fun x1 =>
eqK P false 3 x1 (.s (.int .i64 0)) h fun x2 =>
grpK true x2 h (fun k3 =>
reckK P .rem 3 (t 3) (.s (.int .i64 100)) fun x4 =>
eqK P true 3 x4 (.s (.int .i64 0)) h fun x5 =>
grpK false x5 h (fun k6 =>
reckK P .rem 3 (t 3) (.s (.int .i64 400)) fun x7 =>
eqK P false 3 x7 (.s (.int .i64 0)) h fun x8 =>
k6 x8 h) fun x9 h10 =>
k3 x9 h10) fun x11 h12 =>
cL5 ((upd (upd t 4 x11) 5 (.s (.int .i64 1))), h12)
def o_ref31_Month_L2 (P : Program) (T : Tab) (D : DTab) (N : Nat) {β : Type} (t : Tm) (h : Hp) (k : Ex → St → Option β) : Option β := o_ref31_Month_L2_G P T D N (fun s => iterK (fun s k => o_ref31_Month_L5 P T D N s.1 s.2 k) N s (o_ref31_Month_aL5 P T D N k)) t h k
def o_ref31_Month_aL2 (P : Program) (T : Tab) (D : DTab) (N : Nat) {β : Type} (K : AV → Hp → Option β) (e : Ex) (s : St) : Option β :=
  e.on ((o_ref31_Month_j1 P T D N K s.1 s.2))
  (fun i => bif i == 0 then ((o_ref31_Month_j1 P T D N K s.1 s.2)) else (none))
  (K (s.1 2) s.2)
def o_ref31_Month_G (P : Program) (T : Tab) (D : DTab) (N : Nat) {β : Type} (cL2 : St → Option β) (K : AV → Hp → Option β) (a0 : AV) (h : Hp) :  Option β :=
cL2 ((upd (upd (tm0 [a0]) 2 (.s (.int .i64 0))) 3 (.s (.int .i64 1900))), h)
def o_ref31_Month (P : Program) (T : Tab) (D : DTab) (N : Nat) {β : Type} (K : AV → Hp → Option β) (a0 : AV) (h : Hp) : Option β := o_ref31_Month_G P T D N (fun s => iterK (fun s k => o_ref31_Month_L2 P T D N s.1 s.2 k) N s (o_ref31_Month_aL2 P T D N K)) K a0 h
def f_ref31_Month_j3 (P : Program) (T : Tab) (D : DTab) (N : Nat) {β : Type} (xn : AV → AV → Hp → Option β) (xr : AV → Hp → Option β) (v0 : AV) (v3 : AV) (h : Hp) : Option β :=
xn v0 v3 h
def f_ref31_Month_j4 (P : Program) (T : Tab) (D : DTab) (N : Nat) {β : Type} (xn : AV → AV → Hp → Option β) (xr : AV → Hp → Option β) (v0 : AV) (v3 : AV) (h : Hp) : Option β :=
arithK .add v3 (.s (.int .i64 1)) fun x13 =>
f_ref31_Month_j3 P T D N xn xr v0 x13 h
def f_ref31_Month_j7 (P : Program) (T : Tab) (D : DTab) (N : Nat) {β : Type} (xn : AV → AV → AV → AV → Hp → Option β) (x2 : AV → AV → Hp → Option β) (xr : AV → Hp → Option β) (v0 : AV) (v3 : AV) (v4 : AV) (v5 : AV) (v6 : AV) (h : Hp) : Option β :=
arithK .lss v0 v6 fun x15 =>
condK x15 (
xr v5 h) (
arithK .sub v0 v6 fun x16 =>
arithK .add v5 (.s (.int .i64 1)) fun x17 =>
xn x16 v3 v4 x17 h)
def f_ref31_Month_j6 (P : Program) (T : Tab) (D : DTab) (N : Nat) {β : Type} (xn : AV → AV → AV → AV → Hp → Option β) (x2 : AV → AV → Hp → Option β) (xr : AV → Hp → Option β) (v0 : AV) (v3 : AV) (v4 : AV) (v5 : AV) (v6 : AV) (h : Hp) : Option β :=
eqK P false 3 v5 (.s (.int .i64 2)) h fun x18 =>
condK x18 (
condK v4 (
f_ref31_Month_j7 P T D N xn x2 xr v0 v3 v4 v5 (.s (.int .i64 29)) h) (
f_ref31_Month_j7 P T D N xn x2 xr v0 v3 v4 v5 (.s (.int .i64 28)) h)) (
f_ref31_Month_j7 P T D N xn x2 xr v0 v3 v4 v5 v6 h)
def f_ref31_Month_b5 (P : Program) (T : Tab) (D : DTab) (N : Nat) {β : Type} (xn : AV → AV → AV → AV → Hp → Option β) (x2 : AV → AV → Hp → Option β) (xr : AV → Hp → Option β) (v0 : AV) (v3 : AV) (v4 : AV) (v5 : AV) (h : Hp) : Option β :=
arithK .leq v5 (.s (.int .i64 12)) fun x14 =>
condK x14 (
eqK P false 3 v5 (.s (.int .i64 4)) h fun x19 =>
grpK false x19 h (fun k20 =>
eqK P false 3 v5 (.s (.int .i64 6)) h fun x21 =>
k20 x21 h) fun x22 h23 =>
grpK false x22 h23 (fun k24 =>
eqK P false 3 v5 (.s (.int .i64 9)) h23 fun x25 =>
k24 x25 h23) fun x26 h27 =>
grpK false x26 h27 (fun k28 =>
eqK P false 3 v5 (.s (.int .i64 11)) h27 fun x29 =>
k28 x29 h27) fun x30 h31 =>
condK x30 (
f_ref31_Month_j6 P T D N xn x2 xr v0 v3 v4 v5 (.s (.int .i64 30)) h31) (
f_ref31_Month_j6 P T D N xn x2 xr v0 v3 v4 v5 (.s (.int .i64 31)) h31)) (
x2 v0 v3 h)
def f_ref31_Month_L5 (P : Program) (T : Tab) (D : DTab) (N : Nat) {β : Type} (x2 : AV → AV → Hp → Option β) (xr : AV → Hp → Option β) : Nat → AV → AV → AV → AV → Hp → Option β
  | 0 => fun _ _ _ _ _ => none
  | n + 1 => fun v0 v3 v4 v5 h => f_ref31_Month_b5 P T D N (f_ref31_Month_L5 P T D N x2 xr n) x2 xr v0 v3 v4 v5 h
def f_ref31_Month_b2 (P : Program) (T : Tab) (D : DTab) (N : Nat) {β : Type} (xn : AV → AV → Hp → Option β) (xr : AV → Hp → Option β) (v0 : AV) (v3 : AV) (h : Hp) : Option β :=
reckK P .rem 3 v3 (.s (.int .i64 4)) fun x1 =>
eqK P false 3 x1 (.s (.int .i64 0)) h fun x2 =>
grpK true x2 h (fun k3 =>
reckK P .rem 3 v3 (.s (.int .i64 100)) fun x4 =>
eqK P true 3 x4 (.s (.int .i64 0)) h fun x5 =>
grpK false x5 h (fun k6 =>
reckK P .rem 3 v3 (.s (.int .i64 400)) fun x7 =>
eqK P false 3 x7 (.s (.int .i64 0)) h fun x8 =>
k6 x8 h) fun x9 h10 =>
k3 x9 h10) fun x11 h12 =>
f_ref31_Month_L5 P T D N (fun w32_0 w32_3 h => f_ref31_Month_j4 P T D N xn xr w32_0 w32_3 h) (fun w33_2 h => xr w33_2 h) N v0 v3 x11 (.s (.int .i64 1)) h12
def f_ref31_Month_L2 (P : Program) (T : Tab) (D : DTab) (N : Nat) {β : Type} (xr : AV → Hp → Option β) : Nat → AV → AV → Hp → Option β
  | 0 => fun _ _ _ => none
  | n + 1 => fun v0 v3 h => f_ref31_Month_b2 P T D N (f_ref31_Month_L2 P T D N xr n) xr v0 v3 h
def f_ref31_Month (P : Program) (T : Tab) (D : DTab) (N : Nat) {β : Type} (K : AV → Hp → Option β) (a0 : AV) (h : Hp) : Option β :=
f_ref31_Month_L2 P T D N (fun w34_2 h => K w34_2 h) N a0 (.s (.int .i64 1900)) h
theorem f_ref31_Month_b5_eq (P : Program) (T : Tab) (D : DTab) (N : Nat) {β : Type} (xn : AV → AV → AV → AV → Hp → Option β) (x2 : AV → AV → Hp → Option β) (xr : AV → Hp → Option β) (xd : Nat → St → Option β) (xq : St → Option β) (t : Tm) (h : Hp) : o_ref31_Month_L5 P T D N t h (fun (e : Ex) (s : St) => e.on (xn (s.1 0) (s.1 3) (s.1 4) (s.1 5) s.2) (fun i => (bif i == 2 then x2 (s.1 0) (s.1 3) s.2 else (xd i s))) (xr (s.1 2) s.2)) = f_ref31_Month_b5 P T D N xn x2 xr (t 0) (t 3) (t 4) (t 5) h := by kernel_rfl
theorem f_ref31_Month_L5_eq (P : Program) (T : Tab) (D : DTab) (N : Nat) {β : Type} (A : Ex → St → Option β) (x2 : AV → AV → Hp → Option β) (xr : AV → Hp → Option β) (q2 : ∀ s, A (.exit 2) s = x2 (s.1 0) (s.1 3) s.2) (qr : ∀ s, A .ret s = xr (s.1 2) s.2) : ∀ (n : Nat) (s : St), iterK (fun s k => o_ref31_Month_L5 P T D N s.1 s.2 k) n s A = f_ref31_Month_L5 P T D N x2 xr n (s.1 0) (s.1 3) (s.1 4) (s.1 5) s.2 := by
  intro n
  induction n with
  | zero => intro s; rfl
  | succ n ih =>
    intro s
    have hk : (fun (e : Ex) (s' : St) => Ex.on e (iterK (fun s k => o_ref31_Month_L5 P T D N s.1 s.2 k) n s' A) (fun i => A (.exit i) s') (A .ret s')) = (fun (e : Ex) (s : St) => e.on ((f_ref31_Month_L5 P T D N x2 xr n) (s.1 0) (s.1 3) (s.1 4) (s.1 5) s.2) (fun i => (bif i == 2 then x2 (s.1 0) (s.1 3) s.2 else (A (.exit i) s))) (xr (s.1 2) s.2)) := by
      funext e s'
      cases e with
      | normal => exact ih s'
      | ret => exact qr s'
      | exit i =>
        by_cases r2 : i = 2
        · subst r2; exact q2 s'
        simp only [Ex.on, beq_false_of_ne r2, cond_false]
    show o_ref31_Month_L5 P T D N s.1 s.2 (fun (e : Ex) (s' : St) => Ex.on e (iterK (fun s k => o_ref31_Month_L5 P T D N s.1 s.2 k) n s' A) (fun i => A (.exit i) s') (A .ret s')) = _
    rw [hk]
    exact f_ref31_Month_b5_eq P T D N (f_ref31_Month_L5 P T D N x2 xr n) x2 xr (fun i s => A (.exit i) s) (fun s => A .ret s) s.1 s.2
theorem f_ref31_Month_b2_eq (P : Program) (T : Tab) (D : DTab) (N : Nat) {β : Type} (xn : AV → AV → Hp → Option β) (xr : AV → Hp → Option β) (xd : Nat → St → Option β) (xq : St → Option β) (t : Tm) (h : Hp) : o_ref31_Month_L2 P T D N t h (fun (e : Ex) (s : St) => e.on (xn (s.1 0) (s.1 3) s.2) (fun i => (xd i s)) (xr (s.1 2) s.2)) = f_ref31_Month_b2 P T D N xn xr (t 0) (t 3) h := by
  have eL5 : (fun s : St => iterK (fun s k => o_ref31_Month_L5 P T D N s.1 s.2 k) N s (o_ref31_Month_aL5 P T D N (fun (e : Ex) (s : St) => e.on (xn (s.1 0) (s.1 3) s.2) (fun i => (xd i s)) (xr (s.1 2) s.2)))) = (fun s : St => f_ref31_Month_L5 P T D N (fun w32_0 w32_3 h => f_ref31_Month_j4 P T D N xn xr w32_0 w32_3 h) (fun w33_2 h => xr w33_2 h) N (s.1 0) (s.1 3) (s.1 4) (s.1 5) s.2) := funext fun s => f_ref31_Month_L5_eq P T D N (o_ref31_Month_aL5 P T D N (fun (e : Ex) (s : St) => e.on (xn (s.1 0) (s.1 3) s.2) (fun i => (xd i s)) (xr (s.1 2) s.2))) (fun w32_0 w32_3 h => f_ref31_Month_j4 P T D N xn xr w32_0 w32_3 h) (fun w33_2 h => xr w33_2 h) (fun s => rfl) (fun s => rfl) N s
  show o_ref31_Month_L2_G P T D N (fun s => iterK (fun s k => o_ref31_Month_L5 P T D N s.1 s.2 k) N s (o_ref31_Month_aL5 P T D N (fun (e : Ex) (s : St) => e.on (xn (s.1 0) (s.1 3) s.2) (fun i => (xd i s)) (xr (s.1 2) s.2)))) t h (fun (e : Ex) (s : St) => e.on (xn (s.1 0) (s.1 3) s.2) (fun i => (xd i s)) (xr (s.1 2) s.2)) = _
  rw [eL5]
  kernel_rfl
theorem f_ref31_Month_L2_eq (P : Program) (T : Tab) (D : DTab) (N : Nat) {β : Type} (A : Ex → St → Option β) (xr : AV → Hp → Option β) (qr : ∀ s, A .ret s = xr (s.1 2) s.2) : ∀ (n : Nat) (s : St), iterK (fun s k => o_ref31_Month_L2 P T D N s.1 s.2 k) n s A = f_ref31_Month_L2 P T D N xr n (s.1 0) (s.1 3) s.2 := by
  intro n
  induction n with
  | zero => intro s; rfl
  | succ n ih =>
    intro s
    have hk : (fun (e : Ex) (s' : St) => Ex.on e (iterK (fun s k => o_ref31_Month_L2 P T D N s.1 s.2 k) n s' A) (fun i => A (.exit i) s') (A .ret s')) = (fun (e : Ex) (s : St) => e.on ((f_ref31_Month_L2 P T D N xr n) (s.1 0) (s.1 3) s.2) (fun i => (A (.exit i) s)) (xr (s.1 2) s.2)) := by
      funext e s'
      cases e with
      | normal => exact ih s'
      | ret => exact qr s'
      | exit i =>
        simp only [Ex.on]
    show o_ref31_Month_L2 P T D N s.1 s.2 (fun (e : Ex) (s' : St) => Ex.on e (iterK (fun s k => o_ref31_Month_L2 P T D N s.1 s.2 k) n s' A) (fun i => A (.exit i) s') (A .ret s')) = _
    rw [hk]
    exact f_ref31_Month_b2_eq P T D N (f_ref31_Month_L2 P T D N xr n) xr (fun i s => A (.exit i) s) (fun s => A .ret s) s.1 s.2
theorem f_ref31_Month_old_eq (P : Program) (T : Tab) (D : DTab) (N : Nat) {β : Type} (K : AV → Hp → Option β) (a0 : AV) (h : Hp) : o_ref31_Month P T D N K a0 h = f_ref31_Month P T D N K a0 h := by
  have eL2 : (fun s : St => iterK (fun s k => o_ref31_Month_L2 P T D N s.1 s.2 k) N s (o_ref31_Month_aL2 P T D N K)) = (fun s : St => f_ref31_Month_L2 P T D N (fun w34_2 h => K w34_2 h) N (s.1 0) (s.1 3) s.2) := funext fun s => f_ref31_Month_L2_eq P T D N (o_ref31_Month_aL2 P T D N K) (fun w34_2 h => K w34_2 h) (fun s => rfl) N s
  show o_ref31_Month_G P T D N (fun s => iterK (fun s k => o_ref31_Month_L2 P T D N s.1 s.2 k) N s (o_ref31_Month_aL2 P T D N K)) K a0 h = _
  rw [eL2]
  kernel_rfl
theorem o_ref31_Month_run (T : Tab) (D : DTab) (N : Nat) {β : Type} (K : AV → Hp → Option β) (a0 : AV) (h : Hp) : runK Tryz.prog T D N [0, 2, 3, 4, 5, 6, 21, 37, 39, 40, 43] Tryz.f106 K [a0] h = o_ref31_Month Tryz.prog T D N K a0 h := by kernel_rfl
theorem f_ref31_Month_run (T : Tab) (D : DTab) (N : Nat) {β : Type} (K : AV → Hp → Option β) (a0 : AV) (h : Hp) : runK Tryz.prog T D N [0, 2, 3, 4, 5, 6, 21, 37, 39, 40, 43] Tryz.f106 K [a0] h = f_ref31_Month Tryz.prog T D N K a0 h := (o_ref31_Month_run T D N K a0 h).trans (f_ref31_Month_old_eq Tryz.prog T D N K a0 h)
def f_ref01_Product (P : Program) (T : Tab) (D : DTab) (N : Nat) {β : Type} (K : AV → Hp → Option β) (a0 : AV) (a1 : AV) (h : Hp) : Option β :=
effK (boxE 2 (.agg [.s (.int .u64 0), .s (.int .u64 0)]) (List.length h)) h fun x1 h2 =>
convK P 3 115 a0 fun x3 =>
convK P 3 115 a1 fun x4 =>
reckK P .and 115 x3 (.s (.int .u64 2147483647)) fun x5 =>
reckK P .and 115 x4 (.s (.int .u64 2147483647)) fun x6 =>
arithK .mul x5 x6 fun x7 =>
reckK P .and 115 x3 (.s (.int .u64 2147483647)) fun x8 =>
reckK P .shr 115 x4 (.s (.int .u64 31)) fun x9 =>
arithK .mul x8 x9 fun x10 =>
reckK P .shr 115 x7 (.s (.int .u64 31)) fun x11 =>
arithK .add x10 x11 fun x12 =>
reckK P .shr 115 x3 (.s (.int .u64 31)) fun x13 =>
reckK P .and 115 x4 (.s (.int .u64 2147483647)) fun x14 =>
arithK .mul x13 x14 fun x15 =>
reckK P .and 115 x12 (.s (.int .u64 2147483647)) fun x16 =>
arithK .add x15 x16 fun x17 =>
reckK P .shr 115 x3 (.s (.int .u64 31)) fun x18 =>
reckK P .shr 115 x4 (.s (.int .u64 31)) fun x19 =>
arithK .mul x18 x19 fun x20 =>
reckK P .shr 115 x12 (.s (.int .u64 31)) fun x21 =>
arithK .add x20 x21 fun x22 =>
reckK P .shr 115 x17 (.s (.int .u64 31)) fun x23 =>
arithK .add x22 x23 fun x24 =>
reckK P .and 115 x17 (.s (.int .u64 2147483647)) fun x25 =>
reckK P .shl 115 x25 (.s (.int .u64 31)) fun x26 =>
reckK P .and 115 x7 (.s (.int .u64 2147483647)) fun x27 =>
reckK P .or 115 x26 x27 fun x28 =>
buildK [.s (.int .u64 0), .s (.int .u64 0)] [(some (0, 1), x24), (some (1, 1), x28)] fun x29 =>
effK (stE 2 x1 x29 h2) h2 fun x30 h31 =>
ldK 2 true x1 h31 fun r32 =>
K r32 h31
theorem f_ref01_Product_run (T : Tab) (D : DTab) (N : Nat) {β : Type} (K : AV → Hp → Option β) (a0 : AV) (a1 : AV) (h : Hp) : runK Tryz.prog T D N [0, 1, 4, 5, 6, 7, 8, 9] Tryz.f107 K [a0, a1] h = f_ref01_Product Tryz.prog T D N K a0 a1 h := by kernel_rfl
def f_ref01_Less (P : Program) (T : Tab) (D : DTab) (N : Nat) {β : Type} (K : AV → Hp → Option β) (a0 : AV) (a1 : AV) (h : Hp) : Option β :=
effK (boxE 2 a0 (List.length h)) h fun x1 h2 =>
effK (boxE 2 a1 (List.length h2)) h2 fun x3 h4 =>
faK 0 x1 fun x5 =>
ldK 1 false x5 h4 fun x6 =>
faK 0 x3 fun x7 =>
ldK 1 false x7 h4 fun x8 =>
arithK .lss x6 x8 fun x9 =>
grpK false x9 h4 (fun k10 =>
faK 0 x1 fun x11 =>
ldK 1 false x11 h4 fun x12 =>
faK 0 x3 fun x13 =>
ldK 1 false x13 h4 fun x14 =>
eqK P false 115 x12 x14 h4 fun x15 =>
grpK true x15 h4 (fun k16 =>
faK 1 x1 fun x17 =>
ldK 1 false x17 h4 fun x18 =>
faK 1 x3 fun x19 =>
ldK 1 false x19 h4 fun x20 =>
arithK .lss x18 x20 fun x21 =>
k16 x21 h4) fun x22 h23 =>
k10 x22 h23) fun x24 h25 =>
K x24 h25
theorem f_ref01_Less_run (T : Tab) (D : DTab) (N : Nat) {β : Type} (K : AV → Hp → Option β) (a0 : AV) (a1 : AV) (h : Hp) : runK Tryz.prog T D N [0, 1, 2, 3, 4] Tryz.f108 K [a0, a1] h = f_ref01_Less Tryz.prog T D N K a0 a1 h := by kernel_rfl
def f_ref01_minus (P : Program) (T : Tab) (D : DTab) (N : Nat) {β : Type} (K : AV → Hp → Option β) (a0 : AV) (a1 : AV) (h : Hp) : Option β :=
effK (boxE 2 a0 (List.length h)) h fun x1 h2 =>
effK (boxE 2 a1 (List.length h2)) h2 fun x3 h4 =>
effK (boxE 2 (.agg [.s (.int .u64 0), .s (.int .u64 0)]) (List.length h4)) h4 fun x5 h6 =>
faK 1 x1 fun x7 =>
ldK 1 false x7 h6 fun x8 =>
faK 1 x3 fun x9 =>
ldK 1 false x9 h6 fun x10 =>
arithK .lss x8 x10 fun x11 =>
condK x11 (
faK 0 x1 fun x12 =>
ldK 1 false x12 h6 fun x13 =>
faK 0 x3 fun x14 =>
ldK 1 false x14 h6 fun x15 =>
arithK .sub x13 x15 fun x16 =>
arithK .sub x16 (.s (.int .u64 1)) fun x17 =>
faK 1 x1 fun x18 =>
ldK 1 false x18 h6 fun x19 =>
arithK .add x19 (.s (.int .u64 4611686018427387904)) fun x20 =>
faK 1 x3 fun x21 =>
ldK 1 false x21 h6 fun x22 =>
arithK .sub x20 x22 fun x23 =>
buildK [.s (.int .u64 0), .s (.int .u64 0)] [(some (0, 1), x17), (some (1, 1), x23)] fun x24 =>
effK (stE 2 x5 x24 h6) h6 fun x25 h26 =>
ldK 2 true x5 h26 fun r27 =>
K r27 h26) (
faK 0 x1 fun x28 =>
ldK 1 false x28 h6 fun x29 =>
faK 0 x3 fun x30 =>
ldK 1 false x30 h6 fun x31 =>
arithK .sub x29 x31 fun x32 =>
faK 1 x1 fun x33 =>
ldK 1 false x33 h6 fun x34 =>
faK 1 x3 fun x35 =>
ldK 1 false x35 h6 fun x36 =>
arithK .sub x34 x36 fun x37 =>
buildK [.s (.int .u64 0), .s (.int .u64 0)] [(some (0, 1), x32), (some (1, 1), x37)] fun x38 =>
effK (stE 2 x5 x38 h6) h6 fun x39 h40 =>
ldK 2 true x5 h40 fun r41 =>
K r41 h40)
theorem f_ref01_minus_run (T : Tab) (D : DTab) (N : Nat) {β : Type} (K : AV → Hp → Option β) (a0 : AV) (a1 : AV) (h : Hp) : runK Tryz.prog T D N [0, 1, 2, 3, 4, 9] Tryz.f109 K [a0, a1] h = f_ref01_minus Tryz.prog T D N K a0 a1 h := by kernel_rfl
def f_bits_Len64_j3 (P : Program) (T : Tab) (D : DTab) (N : Nat) {β : Type} (K : AV → Hp → Option β) (v0 : AV) (v2 : AV) (h : Hp) : Option β :=
convK P 115 5 v0 fun x1 =>
chK (.s (.string ⟨([0, 1, 2, 2, 3, 3, 3, 3, 4, 4, 4, 4, 4, 4, 4, 4, 5, 5, 5, 5, 5, 5, 5, 5, 5, 5, 5, 5, 5, 5, 5, 5, 6, 6, 6, 6, 6, 6, 6, 6, 6, 6, 6, 6, 6, 6, 6, 6, 6, 6, 6, 6, 6, 6, 6, 6, 6, 6, 6, 6, 6, 6, 6, 6] ++ [7, 7, 7, 7, 7, 7, 7, 7, 7, 7, 7, 7, 7, 7, 7, 7, 7, 7, 7, 7, 7, 7, 7, 7, 7, 7, 7, 7, 7, 7, 7, 7, 7, 7, 7, 7, 7, 7, 7, 7, 7, 7, 7, 7, 7, 7, 7, 7, 7, 7, 7, 7, 7, 7, 7, 7, 7, 7, 7, 7, 7, 7, 7, 7] ++ [8, 8, 8, 8, 8, 8, 8, 8, 8, 8, 8, 8, 8, 8, 8, 8, 8, 8, 8, 8, 8, 8, 8, 8, 8, 8, 8, 8, 8, 8, 8, 8, 8, 8, 8, 8, 8, 8, 8, 8, 8, 8, 8, 8, 8, 8, 8, 8, 8, 8, 8, 8, 8, 8, 8, 8, 8, 8, 8, 8, 8, 8, 8, 8] ++ [8, 8, 8, 8, 8, 8, 8, 8, 8, 8, 8, 8, 8, 8, 8, 8, 8, 8, 8, 8, 8, 8, 8, 8, 8, 8, 8, 8, 8, 8, 8, 8, 8, 8, 8, 8, 8, 8, 8, 8, 8, 8, 8, 8, 8, 8, 8, 8, 8, 8, 8, 8, 8, 8, 8, 8, 8, 8, 8, 8, 8, 8, 8, 8] : List UInt8).toArray⟩)) x1 fun x2 =>
convK P 5 3 x2 fun x3 =>
arithK .add v2 x3 fun x4 =>
K x4 h
def f_bits_Len64_j2 (P : Program) (T : Tab) (D : DTab) (N : Nat) {β : Type} (K : AV → Hp → Option β) (v0 : AV) (v2 : AV) (h : Hp) : Option β :=
arithK .geq v0 (.s (.int .u64 256)) fun x5 =>
condK x5 (
reckK P .shr 115 v0 (.s (.int .u64 8)) fun x6 =>
arithK .add v2 (.s (.int .i64 8)) fun x7 =>
f_bits_Len64_j3 P T D N K x6 x7 h) (
f_bits_Len64_j3 P T D N K v0 v2 h)
def f_bits_Len64_j1 (P : Program) (T : Tab) (D : DTab) (N : Nat) {β : Type} (K : AV → Hp → Option β) (v0 : AV) (v2 : AV) (h : Hp) : Option β :=
arithK .geq v0 (.s (.int .u64 65536)) fun x8 =>
condK x8 (
reckK P .shr 115 v0 (.s (.int .u64 16)) fun x9 =>
arithK .add v2 (.s (.int .i64 16)) fun x10 =>
f_bits_Len64_j2 P T D N K x9 x10 h) (
f_bits_Len64_j2 P T D N K v0 v2 h)
def f_bits_Len64 (P : Program) (T : Tab) (D : DTab) (N : Nat) {β : Type} (K : AV → Hp → Option β) (a0 : AV) (h : Hp) : Option β :=
arithK .geq a0 (.s (.int .u64 4294967296)) fun x11 =>
condK x11 (
reckK P .shr 115 a0 (.s (.int .u64 32)) fun x12 =>
f_bits_Len64_j1 P T D N K x12 (.s (.int .i64 32)) h) (
f_bits_Len64_j1 P T D N K a0 (.s (.int .i64 0)) h)
theorem f_bits_Len64_run (T : Tab) (D : DTab) (N : Nat) {β : Type} (K : AV → Hp → Option β) (a0 : AV) (h : Hp) : runK Tryz.prog T D N [0, 2, 4, 8, 14] Tryz.f119 K [a0] h = f_bits_Len64 Tryz.prog T D N K a0 h := by kernel_rfl
def o_slices_IndexFunc_int_j1 (P : Program) (T : Tab) (D : DTab) (N : Nat) {β : Type} (K : AV → Hp → Option β) (t : Tm) (h : Hp) : Option β :=
K (.s (.int .i64 (-1))) h
def o_slices_IndexFunc_int_L2 (P : Program) (T : Tab) (D : DTab) (N : Nat) {β : Type} (t : Tm) (h : Hp) (k : Ex → St → Option β) : Option β :=
arithK .lss (t 8) (t 7) fun x2 =>
condK x2 (
iaK 1 (t 0) (t 8) fun x3 =>
ldK 1 false x3 h fun x4 =>
callVK T (t 1) [x4] h fun x5 h6 =>
condK x5 (
k .ret ((upd (upd (upd (upd t 9 x2) 5 (t 8)) 16 x5) 4 (t 8)), h6)) (
arithK .add (t 8) (.s (.int .i64 1)) fun x7 =>
k .normal ((upd (upd (upd (upd t 9 x2) 5 (t 8)) 16 x5) 8 x7), h6))) (
k (.exit 0) ((upd t 9 x2), h))
def o_slices_IndexFunc_int_aL2 (P : Program) (T : Tab) (D : DTab) (N : Nat) {β : Type} (K : AV → Hp → Option β) (e : Ex) (s : St) : Option β :=
  e.on ((o_slices_IndexFunc_int_j1 P T D N K s.1 s.2))
  (fun i => bif i == 0 then ((o_slices_IndexFunc_int_j1 P T D N K s.1 s.2)) else (none))
  (K (s.1 4) s.2)
def o_slices_IndexFunc_int_G (P : Program) (T : Tab) (D : DTab) (N : Nat) {β : Type} (cL2 : St → Option β) (K : AV → Hp → Option β) (a0 : AV) (a1 : AV) (h : Hp) :  Option β :=
lenK a0 fun x1 =>
cL2 ((upd (upd (upd (tm0 [a0, a1]) 4 (.s (.int .i64 0))) 7 x1) 8 (.s (.int .i64 0))), h)
def o_slices_IndexFunc_int (P : Program) (T : Tab) (D : DTab) (N : Nat) {β : Type} (K : AV → Hp → Option β) (a0 : AV) (a1 : AV) (h : Hp) : Option β := o_slices_IndexFunc_int_G P T D N (fun s => iterK (fun s k => o_slices_IndexFunc_int_L2 P T D N s.1 s.2 k) N s (o_slices_IndexFunc_int_aL2 P T D N K)) K a0 a1 h
def f_slices_IndexFunc_int_j1 (P : Program) (T : Tab) (D : DTab) (N : Nat) {β : Type} (K : AV → Hp → Option β) (h : Hp) : Option β :=
K (.s (.int .i64 (-1))) h
def f_slices_IndexFunc_int_b2 (P : Program) (T : Tab) (D : DTab) (N : Nat) {β : Type} (xn : AV → AV → AV → AV → Hp → Option β) (x0 : Hp → Option β) (xr : AV → Hp → Option β) (v0 : AV) (v1 : AV) (v7 : AV) (v8 : AV) (h : Hp) : Option β :=
arithK .lss v8 v7 fun x2 =>
condK x2 (
iaK 1 v0 v8 fun x3 =>
ldK 1 false x3 h fun x4 =>
callVK T v1 [x4] h fun x5 h6 =>
condK x5 (
xr v8 h6) (
arithK .add v8 (.s (.int .i64 1)) fun x7 =>
xn v0 v1 v7 x7 h6)) (
x0 h)
def f_slices_IndexFunc_int_L2 (P : Program) (T : Tab) (D : DTab) (N : Nat) {β : Type} (x0 : Hp → Option β) (xr : AV → Hp → Option β) : Nat → AV → AV → AV → AV → Hp → Option β
  | 0 => fun _ _ _ _ _ => none
  | n + 1 => fun v0 v1 v7 v8 h => f_slices_IndexFunc_int_b2 P T D N (f_slices_IndexFunc_int_L2 P T D N x0 xr n) x0 xr v0 v1 v7 v8 h
def f_slices_IndexFunc_int (P : Program) (T : Tab) (D : DTab) (N : Nat) {β : Type} (K : AV → Hp → Option β) (a0 : AV) (a1 : AV) (h : Hp) : Option β :=
lenK a0 fun x1 =>
f_slices_IndexFunc_int_L2 P T D N (fun h => f_slices_IndexFunc_int_j1 P T D N K h) (fun w9_4 h => K w9_4 h) N a0 a1 x1 (.s (.int .i64 0)) h
theorem f_slices_IndexFunc_int_b2_eq (P : Program) (T : Tab) (D : DTab) (N : Nat) {β : Type} (xn : AV → AV → AV → AV → Hp → Option β) (x0 : Hp → Option β) (xr : AV → Hp → Option β) (xd : Nat → St → Option β) (xq : St → Option β) (t : Tm) (h : Hp) : o_slices_IndexFunc_int_L2 P T D N t h (fun (e : Ex) (s : St) => e.on (xn (s.1 0) (s.1 1) (s.1 7) (s.1 8) s.2) (fun i => (bif i == 0 then x0 s.2 else (xd i s))) (xr (s.1 4) s.2)) = f_slices_IndexFunc_int_b2 P T D N xn x0 xr (t 0) (t 1) (t 7) (t 8) h := by kernel_rfl
theorem f_slices_IndexFunc_int_L2_eq (P : Program) (T : Tab) (D : DTab) (N : Nat) {β : Type} (A : Ex → St → Option β) (x0 : Hp → Option β) (xr : AV → Hp → Option β) (q0 : ∀ s, A (.exit 0) s = x0 s.2) (qr : ∀ s, A .ret s = xr (s.1 4) s.2) : ∀ (n : Nat) (s : St), iterK (fun s k => o_slices_IndexFunc_int_L2 P T D N s.1 s.2 k) n s A = f_slices_IndexFunc_int_L2 P T D N x0 xr n (s.1 0) (s.1 1) (s.1 7) (s.1 8) s.2 := by
  intro n
  induction n with
  | zero => intro s; rfl
  | succ n ih =>
    intro s
    have hk : (fun (e : Ex) (s' : St) => Ex.on e (iterK (fun s k => o_slices_IndexFunc_int_L2 P T D N s.1 s.2 k) n s' A) (fun i => A (.exit i) s') (A .ret s')) = (fun (e : Ex) (s : St) => e.on ((f_slices_IndexFunc_int_L2 P T D N x0 xr n) (s.1 0) (s.1 1) (s.1 7) (s.1 8) s.2) (fun i => (bif i == 0 then x0 s.2 else (A (.exit i) s))) (xr (s.1 4) s.2)) := by
      funext e s'
      cases e with
      | normal => exact ih s'
      | ret => exact qr s'
      | exit i =>
        by_cases r0 : i = 0
        · subst r0; exact q0 s'
        simp only [Ex.on, beq_false_of_ne r0, cond_false]
    show o_slices_IndexFunc_int_L2 P T D N s.1 s.2 (fun (e : Ex) (s' : St) => Ex.on e (iterK (fun s k => o_slices_IndexFunc_int_L2 P T D N s.1 s.2 k) n s' A) (fun i => A (.exit i) s') (A .ret s')) = _
    rw [hk]
    exact f_slices_IndexFunc_int_b2_eq P T D N (f_slices_IndexFunc_int_L2 P T D N x0 xr n) x0 xr (fun i s => A (.exit i) s) (fun s => A .ret s) s.1 s.2
theorem f_slices_IndexFunc_int_old_eq (P : Program) (T : Tab) (D : DTab) (N : Nat) {β : Type} (K : AV → Hp → Option β) (a0 : AV) (a1 : AV) (h : Hp) : o_slices_IndexFunc_int P T D N K a0 a1 h = f_slices_IndexFunc_int P T D N K a0 a1 h := by
  have eL2 : (fun s : St => iterK (fun s k => o_slices_IndexFunc_int_L2 P T D N s.1 s.2 k) N s (o_slices_IndexFunc_int_aL2 P T D N K)) = (fun s : St => f_slices_IndexFunc_int_L2 P T D N (fun h => f_slices_IndexFunc_int_j1 P T D N K h) (fun w9_4 h => K w9_4 h) N (s.1 0) (s.1 1) (s.1 7) (s.1 8) s.2) := funext fun s => f_slices_IndexFunc_int_L2_eq P T D N (o_slices_IndexFunc_int_aL2 P T D N K) (fun h => f_slices_IndexFunc_int_j1 P T D N K h) (fun w9_4 h => K w9_4 h) (fun s => rfl) (fun s => rfl) N s
  show o_slices_IndexFunc_int_G P T D N (fun s => iterK (fun s k => o_slices_IndexFunc_int_L2 P T D N s.1 s.2 k) N s (o_slices_IndexFunc_int_aL2 P T D N K)) K a0 a1 h = _
  rw [eL2]
  kernel_rfl
theorem o_slices_IndexFunc_int_run (T : Tab) (D : DTab) (N : Nat) {β : Type} (K : AV → Hp → Option β) (a0 : AV) (a1 : AV) (h : Hp) : runK Tryz.prog T D N [0, 1, 4, 5, 7, 8, 9, 16] Tryz.f121 K [a0, a1] h = o_slices_IndexFunc_int Tryz.prog T D N K a0 a1 h := by kernel_rfl
theorem f_slices_IndexFunc_int_run (T : Tab) (D : DTab) (N : Nat) {β : Type} (K : AV → Hp → Option β) (a0 : AV) (a1 : AV) (h : Hp) : runK Tryz.prog T D N [0, 1, 4, 5, 7, 8, 9, 16] Tryz.f121 K [a0, a1] h = f_slices_IndexFunc_int Tryz.prog T D N K a0 a1 h := (o_slices_IndexFunc_int_run T D N K a0 a1 h).trans (f_slices_IndexFunc_int_old_eq Tryz.prog T D N K a0 a1 h)
def f_bits_Mul64 (P : Program) (T : Tab) (D : DTab) (N : Nat) {β : Type} (K : AV → Hp → Option β) (a0 : AV) (a1 : AV) (h : Hp) : Option β :=
reckK P .and 115 a0 (.s (.int .u64 4294967295)) fun x1 =>
reckK P .shr 115 a0 (.s (.int .u64 32)) fun x2 =>
reckK P .and 115 a1 (.s (.int .u64 4294967295)) fun x3 =>
reckK P .shr 115 a1 (.s (.int .u64 32)) fun x4 =>
arithK .mul x1 x3 fun x5 =>
arithK .mul x2 x3 fun x6 =>
reckK P .shr 115 x5 (.s (.int .u64 32)) fun x7 =>
arithK .add x6 x7 fun x8 =>
reckK P .and 115 x8 (.s (.int .u64 4294967295)) fun x9 =>
reckK P .shr 115 x8 (.s (.int .u64 32)) fun x10 =>
arithK .mul x1 x4 fun x11 =>
arithK .add x9 x11 fun x12 =>
arithK .mul x2 x4 fun x13 =>
arithK .add x13 x10 fun x14 =>
reckK P .shr 115 x12 (.s (.int .u64 32)) fun x15 =>
arithK .add x14 x15 fun x16 =>
arithK .mul a0 a1 fun x17 =>
K (.tup [x16, x17]) h
theorem f_bits_Mul64_run (T : Tab) (D : DTab) (N : Nat) {β : Type} (K : AV → Hp → Option β) (a0 : AV) (a1 : AV) (h : Hp) : runK Tryz.prog T D N [0, 1, 4, 5, 6, 7, 8, 9, 10, 11, 12, 13] Tryz.f122 K [a0, a1] h = f_bits_Mul64 Tryz.prog T D N K a0 a1 h := by kernel_rfl
def f_bits_LeadingZeros64 (P : Program) (T : Tab) (D : DTab) (N : Nat) {β : Type} (K : AV → Hp → Option β) (a0 : AV) (h : Hp) : Option β :=
callK (T 119) [a0] h fun x1 h2 =>
arithK .sub (.s (.int .i64 64)) x1 fun x3 =>
K x3 h2
theorem f_bits_LeadingZeros64_run (T : Tab) (D : DTab) (N : Nat) {β : Type} (K : AV → Hp → Option β) (a0 : AV) (h : Hp) : runK Tryz.prog T D N [0, 2] Tryz.f123 K [a0] h = f_bits_LeadingZeros64 Tryz.prog T D N K a0 h := by kernel_rfl
def f_calendar_is (P : Program) (T : Tab) (D : DTab) (N : Nat) {β : Type} (K : AV → Hp → Option β) (a0 : AV) (h : Hp) : Option β :=
arithK .geq a0 (.s (.int .i64 0)) fun x1 =>
grpK true x1 h (fun k2 =>
arithK .leq a0 (.s (.int .i64 100000)) fun x3 =>
k2 x3 h) fun x4 h5 =>
K x4 h5
theorem f_calendar_is_run (T : Tab) (D : DTab) (N : Nat) {β : Type} (K : AV → Hp → Option β) (a0 : AV) (h : Hp) : runK Tryz.prog T D N [0, 2] Tryz.f124 K [a0] h = f_calendar_is Tryz.prog T D N K a0 h := by kernel_rfl
def o_calendar_date_j2 (P : Program) (T : Tab) (D : DTab) (N : Nat) {β : Type} (K : AV → Hp → Option β) (t : Tm) (h : Hp) : Option β :=
faK 2 (t 3) fun x15 =>
ldK 1 false x15 h fun x16 =>
arithK .add x16 (t 0) fun x17 =>
faK 2 (t 3) fun x18 =>
effK (stE 1 x18 x17 h) h fun x19 h20 =>
ldK 3 true (t 3) h20 fun x21 =>
effK (stE 3 (t 2) x21 h20) h20 fun x22 h23 =>
ldK 3 true (t 2) h23 fun r24 =>
K r24 h23
def o_calendar_date_L3 (P : Program) (T : Tab) (D : DTab) (N : Nat) {β : Type} (t : Tm) (h : Hp) (k : Ex → St → Option β) : Option β :=
faK 0 (t 3) fun x25 =>
ldK 1 false x25 h fun x26 =>
faK 1 (t 3) fun x27 =>
ldK 1 false x27 h fun x28 =>
callK (T 126) [x26, x28] h fun x29 h30 =>
arithK .geq (t 0) x29 fun x31 =>
condK x31 (
faK 0 (t 3) fun x32 =>
ldK 1 false x32 h30 fun x33 =>
faK 1 (t 3) fun x34 =>
ldK 1 false x34 h30 fun x35 =>
callK (T 126) [x33, x35] h30 fun x36 h37 =>
arithK .sub (t 0) x36 fun x38 =>
faK 1 (t 3) fun x39 =>
ldK 1 false x39 h37 fun x40 =>
arithK .add x40 (.s (.int .i64 1)) fun x41 =>
faK 1 (t 3) fun x42 =>
effK (stE 1 x42 x41 h37) h37 fun x43 h44 =>
k .normal ((upd (upd t 29 x31) 0 x38), h44)) (
k (.exit 2) ((upd t 29 x31), h30))
def o_calendar_date_aL3 (P : Program) (T : Tab) (D : DTab) (N : Nat) {β : Type} (K : AV → Hp → Option β) (e : Ex) (s : St) : Option β :=
  e.on ((o_calendar_date_j2 P T D N K s.1 s.2))
  (fun i => bif i == 2 then ((o_calendar_date_j2 P T D N K s.1 s.2)) else (none))
  (ldK 3 true (s.1 2) s.2 fun r45 =>
K r45 s.2)
def o_calendar_date_j1_G (P : Program) (T : Tab) (D : DTab) (N : Nat) {β : Type} (cL3 : St → Option β) (K : AV → Hp → Option β) (t : Tm) (h : Hp) :  Option β :=
faK 0 (t 3) fun x10 =>
ldK 1 false x10 h fun x11 =>
callK (T 135) [x11] h fun x12 h13 =>
arithK .sub (t 0) x12 fun x14 =>
cL3 ((upd t 0 x14), h13)
def o_calendar_date_j1 (P : Program) (T : Tab) (D : DTab) (N : Nat) {β : Type} (K : AV → Hp → Option β) (t : Tm) (h : Hp) : Option β := o_calendar_date_j1_G P T D N (fun s => iterK (fun s k => o_calendar_date_L3 P T D N s.1 s.2 k) N s (o_calendar_date_aL3 P T D N K)) K t h
def o_calendar_date_L4 (P : Program) (T : Tab) (D : DTab) (N : Nat) {β : Type} (t : Tm) (h : Hp) (k : Ex → St → Option β) : Option β :=
faK 0 (t 3) fun x46 =>
ldK 1 false x46 h fun x47 =>
arithK .add x47 (.s (.int .i64 1)) fun x48 =>
callK (T 135) [x48] h fun x49 h50 =>
arithK .leq x49 (t 0) fun x51 =>
condK x51 (
faK 0 (t 3) fun x52 =>
ldK 1 false x52 h50 fun x53 =>
arithK .add x53 (.s (.int .i64 1)) fun x54 =>
faK 0 (t 3) fun x55 =>
effK (stE 1 x55 x54 h50) h50 fun x56 h57 =>
k .normal ((upd t 13 x51), h57)) (
k (.exit 0) ((upd t 13 x51), h50))
def o_calendar_date_aL4 (P : Program) (T : Tab) (D : DTab) (N : Nat) {β : Type} (K : AV → Hp → Option β) (e : Ex) (s : St) : Option β :=
  e.on ((o_calendar_date_j1 P T D N K s.1 s.2))
  (fun i => bif i == 0 then ((o_calendar_date_j1 P T D N K s.1 s.2)) else (none))
  (ldK 3 true (s.1 2) s.2 fun r58 =>
K r58 s.2)
def o_calendar_date_G (P : Program) (T : Tab) (D : DTab) (N : Nat) {β : Type} (cL4 : St → Option β) (K : AV → Hp → Option β) (a0 : AV) (h : Hp) :  Option β :=
effK (boxE 3 (.agg [.s (.int .i64 0), .s (.int .i64 0), .s (.int .i64 0)]) (List.length h)) h fun x1 h2 =>
reckK P .quo 3 a0 (.s (.int .i64 366)) fun x3 =>
arithK .add (.s (.int .i64 1900)) x3 fun x4 =>
buildK [.s (.int .i64 0), .s (.int .i64 0), .s (.int .i64 0)] [(some (0, 1), x4), (some (1, 1), (.s (.int .i64 1))), (some (2, 1), (.s (.int .i64 1)))] fun x5 =>
effK (boxE 3 (.agg [.s (.int .i64 0), .s (.int .i64 0), .s (.int .i64 0)]) (List.length h2)) h2 fun x6 h7 =>
effK (stE 3 x6 x5 h7) h7 fun x8 h9 =>
cL4 ((upd (upd (tm0 [a0]) 2 x1) 3 x6), h9)
def o_calendar_date (P : Program) (T : Tab) (D : DTab) (N : Nat) {β : Type} (K : AV → Hp → Option β) (a0 : AV) (h : Hp) : Option β := o_calendar_date_G P T D N (fun s => iterK (fun s k => o_calendar_date_L4 P T D N s.1 s.2 k) N s (o_calendar_date_aL4 P T D N K)) K a0 h
def f_calendar_date_j2 (P : Program) (T : Tab) (D : DTab) (N : Nat) {β : Type} (K : AV → Hp → Option β) (v0 : AV) (v2 : AV) (v3 : AV) (h : Hp) : Option β :=
faK 2 v3 fun x15 =>
ldK 1 false x15 h fun x16 =>
arithK .add x16 v0 fun x17 =>
faK 2 v3 fun x18 =>
effK (stE 1 x18 x17 h) h fun x19 h20 =>
ldK 3 true v3 h20 fun x21 =>
effK (stE 3 v2 x21 h20) h20 fun x22 h23 =>
ldK 3 true v2 h23 fun r24 =>
K r24 h23
def f_calendar_date_b3 (P : Program) (T : Tab) (D : DTab) (N : Nat) {β : Type} (xn : AV → AV → AV → Hp → Option β) (x2 : AV → AV → AV → Hp → Option β) (v0 : AV) (v2 : AV) (v3 : AV) (h : Hp) : Option β :=
faK 0 v3 fun x25 =>
ldK 1 false x25 h fun x26 =>
faK 1 v3 fun x27 =>
ldK 1 false x27 h fun x28 =>
callK (T 126) [x26, x28] h fun x29 h30 =>
arithK .geq v0 x29 fun x31 =>
condK x31 (
faK 0 v3 fun x32 =>
ldK 1 false x32 h30 fun x33 =>
faK 1 v3 fun x34 =>
ldK 1 false x34 h30 fun x35 =>
callK (T 126) [x33, x35] h30 fun x36 h37 =>
arithK .sub v0 x36 fun x38 =>
faK 1 v3 fun x39 =>
ldK 1 false x39 h37 fun x40 =>
arithK .add x40 (.s (.int .i64 1)) fun x41 =>
faK 1 v3 fun x42 =>
effK (stE 1 x42 x41 h37) h37 fun x43 h44 =>
xn x38 v2 v3 h44) (
x2 v0 v2 v3 h30)
def f_calendar_date_L3 (P : Program) (T : Tab) (D : DTab) (N : Nat) {β : Type} (x2 : AV → AV → AV → Hp → Option β) : Nat → AV → AV → AV → Hp → Option β
  | 0 => fun _ _ _ _ => none
  | n + 1 => fun v0 v2 v3 h => f_calendar_date_b3 P T D N (f_calendar_date_L3 P T D N x2 n) x2 v0 v2 v3 h
def f_calendar_date_j1 (P : Program) (T : Tab) (D : DTab) (N : Nat) {β : Type} (K : AV → Hp → Option β) (v0 : AV) (v2 : AV) (v3 : AV) (h : Hp) : Option β :=
faK 0 v3 fun x10 =>
ldK 1 false x10 h fun x11 =>
callK (T 135) [x11] h fun x12 h13 =>
arithK .sub v0 x12 fun x14 =>
f_calendar_date_L3 P T D N (fun w45_0 w45_2 w45_3 h => f_calendar_date_j2 P T D N K w45_0 w45_2 w45_3 h) N x14 v2 v3 h13
def f_calendar_date_b4 (P : Program) (T : Tab) (D : DTab) (N : Nat) {β : Type} (xn : AV → AV → AV → Hp → Option β) (x0 : AV → AV → AV → Hp → Option β) (v0 : AV) (v2 : AV) (v3 : AV) (h : Hp) : Option β :=
faK 0 v3 fun x46 =>
ldK 1 false x46 h fun x47 =>
arithK .add x47 (.s (.int .i64 1)) fun x48 =>
callK (T 135) [x48] h fun x49 h50 =>
arithK .leq x49 v0 fun x51 =>
condK x51 (
faK 0 v3 fun x52 =>
ldK 1 false x52 h50 fun x53 =>
arithK .add x53 (.s (.int .i64 1)) fun x54 =>
faK 0 v3 fun x55 =>
effK (stE 1 x55 x54 h50) h50 fun x56 h57 =>
xn v0 v2 v3 h57) (
x0 v0 v2 v3 h50)
def f_calendar_date_L4 (P : Program) (T : Tab) (D : DTab) (N : Nat) {β : Type} (x0 : AV → AV → AV → Hp → Option β) : Nat → AV → AV → AV → Hp → Option β
  | 0 => fun _ _ _ _ => none
  | n + 1 => fun v0 v2 v3 h => f_calendar_date_b4 P T D N (f_calendar_date_L4 P T D N x0 n) x0 v0 v2 v3 h
def f_calendar_date (P : Program) (T : Tab) (D : DTab) (N : Nat) {β : Type} (K : AV → Hp → Option β) (a0 : AV) (h : Hp) : Option β :=
effK (boxE 3 (.agg [.s (.int .i64 0), .s (.int .i64 0), .s (.int .i64 0)]) (List.length h)) h fun x1 h2 =>
reckK P .quo 3 a0 (.s (.int .i64 366)) fun x3 =>
arithK .add (.s (.int .i64 1900)) x3 fun x4 =>
buildK [.s (.int .i64 0), .s (.int .i64 0), .s (.int .i64 0)] [(some (0, 1), x4), (some (1, 1), (.s (.int .i64 1))), (some (2, 1), (.s (.int .i64 1)))] fun x5 =>
effK (boxE 3 (.agg [.s (.int .i64 0), .s (.int .i64 0), .s (.int .i64 0)]) (List.length h2)) h2 fun x6 h7 =>
effK (stE 3 x6 x5 h7) h7 fun x8 h9 =>
f_calendar_date_L4 P T D N (fun w58_0 w58_2 w58_3 h => f_calendar_date_j1 P T D N K w58_0 w58_2 w58_3 h) N a0 x1 x6 h9
theorem f_calendar_date_b3_eq (P : Program) (T : Tab) (D : DTab) (N : Nat) {β : Type} (xn : AV → AV → AV → Hp → Option β) (x2 : AV → AV → AV → Hp → Option β) (xd : Nat → St → Option β) (xq : St → Option β) (t : Tm) (h : Hp) : o_calendar_date_L3 P T D N t h (fun (e : Ex) (s : St) => e.on (xn (s.1 0) (s.1 2) (s.1 3) s.2) (fun i => (bif i == 2 then x2 (s.1 0) (s.1 2) (s.1 3) s.2 else (xd i s))) (xq s)) = f_calendar_date_b3 P T D N xn x2 (t 0) (t 2) (t 3) h := by kernel_rfl
theorem f_calendar_date_L3_eq (P : Program) (T : Tab) (D : DTab) (N : Nat) {β : Type} (A : Ex → St → Option β) (x2 : AV → AV → AV → Hp → Option β) (q2 : ∀ s, A (.exit 2) s = x2 (s.1 0) (s.1 2) (s.1 3) s.2) : ∀ (n : Nat) (s : St), iterK (fun s k => o_calendar_date_L3 P T D N s.1 s.2 k) n s A = f_calendar_date_L3 P T D N x2 n (s.1 0) (s.1 2) (s.1 3) s.2 := by
  intro n
  induction n with
  | zero => intro s; rfl
  | succ n ih =>
    intro s
    have hk : (fun (e : Ex) (s' : St) => Ex.on e (iterK (fun s k => o_calendar_date_L3 P T D N s.1 s.2 k) n s' A) (fun i => A (.exit i) s') (A .ret s')) = (fun (e : Ex) (s : St) => e.on ((f_calendar_date_L3 P T D N x2 n) (s.1 0) (s.1 2) (s.1 3) s.2) (fun i => (bif i == 2 then x2 (s.1 0) (s.1 2) (s.1 3) s.2 else (A (.exit i) s))) (A .ret s)) := by
      funext e s'
      cases e with
      | normal => exact ih s'
      | ret => exact rfl
      | exit i =>
        by_cases r2 : i = 2
        · subst r2; exact q2 s'
        simp only [Ex.on, beq_false_of_ne r2, cond_false]
    show o_calendar_date_L3 P T D N s.1 s.2 (fun (e : Ex) (s' : St) => Ex.on e (iterK (fun s k => o_calendar_date_L3 P T D N s.1 s.2 k) n s' A) (fun i => A (.exit i) s') (A .ret s')) = _
    rw [hk]
    exact f_calendar_date_b3_eq P T D N (f_calendar_date_L3 P T D N x2 n) x2 (fun i s => A (.exit i) s) (fun s => A .ret s) s.1 s.2
theorem f_calendar_date_j1_eq (P : Program) (T : Tab) (D : DTab) (N : Nat) {β : Type} (K : AV → Hp → Option β) (t : Tm) (h : Hp) : o_calendar_date_j1 P T D N K t h = f_calendar_date_j1 P T D N K (t 0) (t 2) (t 3) h := by
  have eL3 : (fun s : St => iterK (fun s k => o_calendar_date_L3 P T D N s.1 s.2 k) N s (o_calendar_date_aL3 P T D N K)) = (fun s : St => f_calendar_date_L3 P T D N (fun w45_0 w45_2 w45_3 h => f_calendar_date_j2 P T D N K w45_0 w45_2 w45_3 h) N (s.1 0) (s.1 2) (s.1 3) s.2) := funext fun s => f_calendar_date_L3_eq P T D N (o_calendar_date_aL3 P T D N K) (fun w45_0 w45_2 w45_3 h => f_calendar_date_j2 P T D N K w45_0 w45_2 w45_3 h) (fun s => rfl) N s
  show o_calendar_date_j1_G P T D N (fun s => iterK (fun s k => o_calendar_date_L3 P T D N s.1 s.2 k) N s (o_calendar_date_aL3 P T D N K)) K t h = _
  rw [eL3]
  kernel_rfl
theorem f_calendar_date_b4_eq (P : Program) (T : Tab) (D : DTab) (N : Nat) {β : Type} (xn : AV → AV → AV → Hp → Option β) (x0 : AV → AV → AV → Hp → Option β) (xd : Nat → St → Option β) (xq : St → Option β) (t : Tm) (h : Hp) : o_calendar_date_L4 P T D N t h (fun (e : Ex) (s : St) => e.on (xn (s.1 0) (s.1 2) (s.1 3) s.2) (fun i => (bif i == 0 then x0 (s.1 0) (s.1 2) (s.1 3) s.2 else (xd i s))) (xq s)) = f_calendar_date_b4 P T D N xn x0 (t 0) (t 2) (t 3) h := by kernel_rfl
theorem f_calendar_date_L4_eq (P : Program) (T : Tab) (D : DTab) (N : Nat) {β : Type} (A : Ex → St → Option β) (x0 : AV → AV → AV → Hp → Option β) (q0 : ∀ s, A (.exit 0) s = x0 (s.1 0) (s.1 2) (s.1 3) s.2) : ∀ (n : Nat) (s : St), iterK (fun s k => o_calendar_date_L4 P T D N s.1 s.2 k) n s A = f_calendar_date_L4 P T D N x0 n (s.1 0) (s.1 2) (s.1 3) s.2 := by
  intro n
  induction n with
  | zero => intro s; rfl
  | succ n ih =>
    intro s
    have hk : (fun (e : Ex) (s' : St) => Ex.on e (iterK (fun s k => o_calendar_date_L4 P T D N s.1 s.2 k) n s' A) (fun i => A (.exit i) s') (A .ret s')) = (fun (e : Ex) (s : St) => e.on ((f_calendar_date_L4 P T D N x0 n) (s.1 0) (s.1 2) (s.1 3) s.2) (fun i => (bif i == 0 then x0 (s.1 0) (s.1 2) (s.1 3) s.2 else (A (.exit i) s))) (A .ret s)) := by
      funext e s'
      cases e with
      | normal => exact ih s'
      | ret => exact rfl
      | exit i =>
        by_cases r0 : i = 0
        · subst r0; exact q0 s'
        simp only [Ex.on, beq_false_of_ne r0, cond_false]
    show o_calendar_date_L4 P T D N s.1 s.2 (fun (e : Ex) (s' : St) => Ex.on e (iterK (fun s k => o_calendar_date_L4 P T D N s.1 s.2 k) n s' A) (fun i => A (.exit i) s') (A .ret s')) = _
    rw [hk]
    exact f_calendar_date_b4_eq P T D N (f_calendar_date_L4 P T D N x0 n) x0 (fun i s => A (.exit i) s) (fun s => A .ret s) s.1 s.2
theorem f_calendar_date_old_eq (P : Program) (T : Tab) (D : DTab) (N : Nat) {β : Type} (K : AV → Hp → Option β) (a0 : AV) (h : Hp) : o_calendar_date P T D N K a0 h = f_calendar_date P T D N K a0 h := by
  have eL4 : (fun s : St => iterK (fun s k => o_calendar_date_L4 P T D N s.1 s.2 k) N s (o_calendar_date_aL4 P T D N K)) = (fun s : St => f_calendar_date_L4 P T D N (fun w58_0 w58_2 w58_3 h => f_calendar_date_j1 P T D N K w58_0 w58_2 w58_3 h) N (s.1 0) (s.1 2) (s.1 3) s.2) := funext fun s => f_calendar_date_L4_eq P T D N (o_calendar_date_aL4 P T D N K) (fun w58_0 w58_2 w58_3 h => f_calendar_date_j1 P T D N K w58_0 w58_2 w58_3 h) (fun s => f_calendar_date_j1_eq P T D N K s.1 s.2) N s
  show o_calendar_date_G P T D N (fun s => iterK (fun s k => o_calendar_date_L4 P T D N s.1 s.2 k) N s (o_calendar_date_aL4 P T D N K)) K a0 h = _
  rw [eL4]
  kernel_rfl
theorem o_calendar_date_run (T : Tab) (D : DTab) (N : Nat) {β : Type} (K : AV → Hp → Option β) (a0 : AV) (h : Hp) : runK Tryz.prog T D N [0, 2, 3, 13, 29] Tryz.f125 K [a0] h = o_calendar_date Tryz.prog T D N K a0 h := by kernel_rfl
theorem f_calendar_date_run (T : Tab) (D : DTab) (N : Nat) {β : Type} (K : AV → Hp → Option β) (a0 : AV) (h : Hp) : runK Tryz.prog T D N [0, 2, 3, 13, 29] Tryz.f125 K [a0] h = f_calendar_date Tryz.prog T D N K a0 h := (o_calendar_date_run T D N K a0 h).trans (f_calendar_date_old_eq Tryz.prog T D N K a0 h)
def f_calendar_length (P : Program) (T : Tab) (D : DTab) (N : Nat) {β : Type} (K : AV → Hp → Option β) (a0 : AV) (a1 : AV) (h : Hp) : Option β :=
buildK [.s (.int .i64 0), .s (.int .i64 0), .s (.int .i64 0), .s (.int .i64 0), .s (.int .i64 0), .s (.int .i64 0), .s (.int .i64 0), .s (.int .i64 0), .s (.int .i64 0), .s (.int .i64 0), .s (.int .i64 0), .s (.int .i64 0), .s (.int .i64 0)] [(some (0, 1), (.s (.int .i64 0))), (some (1, 1), (.s (.int .i64 31))), (some (2, 1), (.s (.int .i64 28))), (some (3, 1), (.s (.int .i64 31))), (some (4, 1), (.s (.int .i64 30))), (some (5, 1), (.s (.int .i64 31))), (some (6, 1), (.s (.int .i64 30))), (some (7, 1), (.s (.int .i64 31))), (some (8, 1), (.s (.int .i64 31))), (some (9, 1), (.s (.int .i64 30))), (some (10, 1), (.s (.int .i64 31))), (some (11, 1), (.s (.int .i64 30))), (some (12, 1), (.s (.int .i64 31)))] fun x1 =>
effK (boxE 13 (.agg [.s (.int .i64 0), .s (.int .i64 0), .s (.int .i64 0), .s (.int .i64 0), .s (.int .i64 0), .s (.int .i64 0), .s (.int .i64 0), .s (.int .i64 0), .s (.int .i64 0), .s (.int .i64 0), .s (.int .i64 0), .s (.int .i64 0), .s (.int .i64 0)]) (List.length h)) h fun x2 h3 =>
effK (stE 13 x2 x1 h3) h3 fun x4 h5 =>
eqK P false 3 a1 (.s (.int .i64 2)) h5 fun x6 =>
grpK true x6 h5 (fun k7 =>
callK (T 136) [a0] h5 fun x8 h9 =>
k7 x8 h9) fun x10 h11 =>
condK x10 (
K (.s (.int .i64 29)) h11) (
iaA 1 13 x2 a1 fun x12 =>
ldK 1 false x12 h11 fun x13 =>
K x13 h11)
theorem f_calendar_length_run (T : Tab) (D : DTab) (N : Nat) {β : Type} (K : AV → Hp → Option β) (a0 : AV) (a1 : AV) (h : Hp) : runK Tryz.prog T D N [0, 1, 4, 5, 12] Tryz.f126 K [a0, a1] h = f_calendar_length Tryz.prog T D N K a0 a1 h := by kernel_rfl
def o_calendar_number_j1 (P : Program) (T : Tab) (D : DTab) (N : Nat) {β : Type} (K : AV → Hp → Option β) (t : Tm) (h : Hp) : Option β :=
K (t 3) h
def o_calendar_number_L2 (P : Program) (T : Tab) (D : DTab) (N : Nat) {β : Type} (t : Tm) (h : Hp) (k : Ex → St → Option β) : Option β :=
faK 1 (t 1) fun x12 =>
ldK 1 false x12 h fun x13 =>
arithK .lss (t 4) x13 fun x14 =>
condK x14 (
faK 0 (t 1) fun x15 =>
ldK 1 false x15 h fun x16 =>
callK (T 126) [x16, (t 4)] h fun x17 h18 =>
arithK .add (t 3) x17 fun x19 =>
arithK .add (t 4) (.s (.int .i64 1)) fun x20 =>
k .normal ((upd (upd (upd t 15 x14) 3 x19) 4 x20), h18)) (
k (.exit 0) ((upd t 15 x14), h))
def o_calendar_number_aL2 (P : Program) (T : Tab) (D : DTab) (N : Nat) {β : Type} (K : AV → Hp → Option β) (e : Ex) (s : St) : Option β :=
  e.on ((o_calendar_number_j1 P T D N K s.1 s.2))
  (fun i => bif i == 0 then ((o_calendar_number_j1 P T D N K s.1 s.2)) else (none))
  (K (s.1 2) s.2)
def o_calendar_number_G (P : Program) (T : Tab) (D : DTab) (N : Nat) {β : Type} (cL2 : St → Option β) (K : AV → Hp → Option β) (a0 : AV) (h : Hp) :  Option β :=
effK (boxE 3 a0 (List.length h)) h fun x1 h2 =>
faK 0 x1 fun x3 =>
ldK 1 false x3 h2 fun x4 =>
effD (callE (D 135) [x4] h2 (List.length h2)) h2 fun x5 h6 e7 =>
faK 2 x1 fun x8 =>
ldK 1 false x8 h6 fun x9 =>
arithK .add x5 x9 fun x10 =>
arithK .sub x10 (.s (.int .i64 1)) fun x11 =>
bif disjAll [(2, 4)] [([], []), ((idsOf x3), []), e7, ([], []), ((idsOf x8), []), ([], []), ([], []), ([], [])] then (
cL2 ((upd (upd (upd (upd (tm0 [a0]) 1 x1) 2 (.s (.int .i64 0))) 3 x11) 4 (.s (.int .i64 1))), h6)) else none
def o_calendar_number (P : Program) (T : Tab) (D : DTab) (N : Nat) {β : Type} (K : AV → Hp → Option β) (a0 : AV) (h : Hp) : Option β := o_calendar_number_G P T D N (fun s => iterK (fun s k => o_calendar_number_L2 P T D N s.1 s.2 k) N s (o_calendar_number_aL2 P T D N K)) K a0 h
def f_calendar_number_j1 (P : Program) (T : Tab) (D : DTab) (N : Nat) {β : Type} (K : AV → Hp → Option β) (v3 : AV) (h : Hp) : Option β :=
K v3 h
def f_calendar_number_b2 (P : Program) (T : Tab) (D : DTab) (N : Nat) {β : Type} (xn : AV → AV → AV → Hp → Option β) (x0 : AV → Hp → Option β) (v1 : AV) (v3 : AV) (v4 : AV) (h : Hp) : Option β :=
faK 1 v1 fun x12 =>
ldK 1 false x12 h fun x13 =>
arithK .lss v4 x13 fun x14 =>
condK x14 (
faK 0 v1 fun x15 =>
ldK 1 false x15 h fun x16 =>
callK (T 126) [x16, v4] h fun x17 h18 =>
arithK .add v3 x17 fun x19 =>
arithK .add v4 (.s (.int .i64 1)) fun x20 =>
xn v1 x19 x20 h18) (
x0 v3 h)
def f_calendar_number_L2 (P : Program) (T : Tab) (D : DTab) (N : Nat) {β : Type} (x0 : AV → Hp → Option β) : Nat → AV → AV → AV → Hp → Option β
  | 0 => fun _ _ _ _ => none
  | n + 1 => fun v1 v3 v4 h => f_calendar_number_b2 P T D N (f_calendar_number_L2 P T D N x0 n) x0 v1 v3 v4 h
def f_calendar_number (P : Program) (T : Tab) (D : DTab) (N : Nat) {β : Type} (K : AV → Hp → Option β) (a0 : AV) (h : Hp) : Option β :=
effK (boxE 3 a0 (List.length h)) h fun x1 h2 =>
faK 0 x1 fun x3 =>
ldK 1 false x3 h2 fun x4 =>
effD (callE (D 135) [x4] h2 (List.length h2)) h2 fun x5 h6 e7 =>
faK 2 x1 fun x8 =>
ldK 1 false x8 h6 fun x9 =>
arithK .add x5 x9 fun x10 =>
arithK .sub x10 (.s (.int .i64 1)) fun x11 =>
bif disjAll [(2, 4)] [([], []), ((idsOf x3), []), e7, ([], []), ((idsOf x8), []), ([], []), ([], []), ([], [])] then (
f_calendar_number_L2 P T D N (fun w21_3 h => f_calendar_number_j1 P T D N K w21_3 h) N x1 x11 (.s (.int .i64 1)) h6) else none
theorem f_calendar_number_b2_eq (P : Program) (T : Tab) (D : DTab) (N : Nat) {β : Type} (xn : AV → AV → AV → Hp → Option β) (x0 : AV → Hp → Option β) (xd : Nat → St → Option β) (xq : St → Option β) (t : Tm) (h : Hp) : o_calendar_number_L2 P T D N t h (fun (e : Ex) (s : St) => e.on (xn (s.1 1) (s.1 3) (s.1 4) s.2) (fun i => (bif i == 0 then x0 (s.1 3) s.2 else (xd i s))) (xq s)) = f_calendar_number_b2 P T D N xn x0 (t 1) (t 3) (t 4) h := by kernel_rfl
theorem f_calendar_number_L2_eq (P : Program) (T : Tab) (D : DTab) (N : Nat) {β : Type} (A : Ex → St → Option β) (x0 : AV → Hp → Option β) (q0 : ∀ s, A (.exit 0) s = x0 (s.1 3) s.2) : ∀ (n : Nat) (s : St), iterK (fun s k => o_calendar_number_L2 P T D N s.1 s.2 k) n s A = f_calendar_number_L2 P T D N x0 n (s.1 1) (s.1 3) (s.1 4) s.2 := by
  intro n
  induction n with
  | zero => intro s; rfl
  | succ n ih =>
    intro s
    have hk : (fun (e : Ex) (s' : St) => Ex.on e (iterK (fun s k => o_calendar_number_L2 P T D N s.1 s.2 k) n s' A) (fun i => A (.exit i) s') (A .ret s')) = (fun (e : Ex) (s : St) => e.on ((f_calendar_number_L2 P T D N x0 n) (s.1 1) (s.1 3) (s.1 4) s.2) (fun i => (bif i == 0 then x0 (s.1 3) s.2 else (A (.exit i) s))) (A .ret s)) := by
      funext e s'
      cases e with
      | normal => exact ih s'
      | ret => exact rfl
      | exit i =>
        by_cases r0 : i = 0
        · subst r0; exact q0 s'
        simp only [Ex.on, beq_false_of_ne r0, cond_false]
    show o_calendar_number_L2 P T D N s.1 s.2 (fun (e : Ex) (s' : St) => Ex.on e (iterK (fun s k => o_calendar_number_L2 P T D N s.1 s.2 k) n s' A) (fun i => A (.exit i) s') (A .ret s')) = _
    rw [hk]
    exact f_calendar_number_b2_eq P T D N (f_calendar_number_L2 P T D N x0 n) x0 (fun i s => A (.exit i) s) (fun s => A .ret s) s.1 s.2
theorem f_calendar_number_old_eq (P : Program) (T : Tab) (D : DTab) (N : Nat) {β : Type} (K : AV → Hp → Option β) (a0 : AV) (h : Hp) : o_calendar_number P T D N K a0 h = f_calendar_number P T D N K a0 h := by
  have eL2 : (fun s : St => iterK (fun s k => o_calendar_number_L2 P T D N s.1 s.2 k) N s (o_calendar_number_aL2 P T D N K)) = (fun s : St => f_calendar_number_L2 P T D N (fun w21_3 h => f_calendar_number_j1 P T D N K w21_3 h) N (s.1 1) (s.1 3) (s.1 4) s.2) := funext fun s => f_calendar_number_L2_eq P T D N (o_calendar_number_aL2 P T D N K) (fun w21_3 h => f_calendar_number_j1 P T D N K w21_3 h) (fun s => rfl) N s
  show o_calendar_number_G P T D N (fun s => iterK (fun s k => o_calendar_number_L2 P T D N s.1 s.2 k) N s (o_calendar_number_aL2 P T D N K)) K a0 h = _
  rw [eL2]
  kernel_rfl
theorem o_calendar_number_run (T : Tab) (D : DTab) (N : Nat) {β : Type} (K : AV → Hp → Option β) (a0 : AV) (h : Hp) : runK Tryz.prog T D N [0, 1, 2, 3, 4, 15] Tryz.f127 K [a0] h = o_calendar_number Tryz.prog T D N K a0 h := by kernel_rfl
theorem f_calendar_number_run (T : Tab) (D : DTab) (N : Nat) {β : Type} (K : AV → Hp → Option β) (a0 : AV) (h : Hp) : runK Tryz.prog T D N [0, 1, 2, 3, 4, 15] Tryz.f127 K [a0] h = f_calendar_number Tryz.prog T D N K a0 h := (o_calendar_number_run T D N K a0 h).trans (f_calendar_number_old_eq Tryz.prog T D N K a0 h)
def f_season_version_1 (P : Program) (T : Tab) (D : DTab) (N : Nat) {β : Type} (K : AV → Hp → Option β) (a0 : AV) (a1 : AV) (a2 : AV) (h : Hp) : Option β :=
ldK 1 false a1 h fun x1 =>
iaK 4 x1 a0 fun x2 =>
faK 0 x2 fun x3 =>
ldK 1 false x3 h fun x4 =>
ldK 1 false a2 h fun x5 =>
arithK .gtr x4 x5 fun x6 =>
K x6 h
theorem f_season_version_1_run (T : Tab) (D : DTab) (N : Nat) {β : Type} (K : AV → Hp → Option β) (a0 : AV) (a1 : AV) (a2 : AV) (h : Hp) : runK Tryz.prog T D N [0, 1, 2, 4] Tryz.f128 K [a0, a1, a2] h = f_season_version_1 Tryz.prog T D N K a0 a1 a2 h := by kernel_rfl
def f_season_rate_1 (P : Program) (T : Tab) (D : DTab) (N : Nat) {β : Type} (K : AV → Hp → Option β) (a0 : AV) (a1 : AV) (a2 : AV) (h : Hp) : Option β :=
ldK 1 false a1 h fun x1 =>
iaK 4 x1 a0 fun x2 =>
ldK 4 true x2 h fun x3 =>
ldK 4 true a2 h fun x4 =>
callK (T 42) [x3, x4] h fun x5 h6 =>
notK x5 fun x7 =>
K x7 h6
theorem f_season_rate_1_run (T : Tab) (D : DTab) (N : Nat) {β : Type} (K : AV → Hp → Option β) (a0 : AV) (a1 : AV) (a2 : AV) (h : Hp) : runK Tryz.prog T D N [0, 1, 2, 4] Tryz.f129 K [a0, a1, a2] h = f_season_rate_1 Tryz.prog T D N K a0 a1 a2 h := by kernel_rfl
def f_calendar_before (P : Program) (T : Tab) (D : DTab) (N : Nat) {β : Type} (K : AV → Hp → Option β) (a0 : AV) (h : Hp) : Option β :=
arithK .sub a0 (.s (.int .i64 1900)) fun x1 =>
arithK .mul (.s (.int .i64 365)) x1 fun x2 =>
arithK .sub a0 (.s (.int .i64 1)) fun x3 =>
callVK T (.fn 138 []) [x3] h fun x4 h5 =>
arithK .add x2 x4 fun x6 =>
callVK T (.fn 138 []) [(.s (.int .i64 1899))] h5 fun x7 h8 =>
arithK .sub x6 x7 fun x9 =>
K x9 h8
theorem f_calendar_before_run (T : Tab) (D : DTab) (N : Nat) {β : Type} (K : AV → Hp → Option β) (a0 : AV) (h : Hp) : runK Tryz.prog T D N [0, 2, 3] Tryz.f135 K [a0] h = f_calendar_before Tryz.prog T D N K a0 h := by kernel_rfl
def f_calendar_leap (P : Program) (T : Tab) (D : DTab) (N : Nat) {β : Type} (K : AV → Hp → Option β) (a0 : AV) (h : Hp) : Option β :=
reckK P .rem 3 a0 (.s (.int .i64 4)) fun x1 =>
eqK P false 3 x1 (.s (.int .i64 0)) h fun x2 =>
grpK true x2 h (fun k3 =>
reckK P .rem 3 a0 (.s (.int .i64 100)) fun x4 =>
eqK P true 3 x4 (.s (.int .i64 0)) h fun x5 =>
grpK false x5 h (fun k6 =>
reckK P .rem 3 a0 (.s (.int .i64 400)) fun x7 =>
eqK P false 3 x7 (.s (.int .i64 0)) h fun x8 =>
k6 x8 h) fun x9 h10 =>
k3 x9 h10) fun x11 h12 =>
K x11 h12
theorem f_calendar_leap_run (T : Tab) (D : DTab) (N : Nat) {β : Type} (K : AV → Hp → Option β) (a0 : AV) (h : Hp) : runK Tryz.prog T D N [0, 2] Tryz.f136 K [a0] h = f_calendar_leap Tryz.prog T D N K a0 h := by kernel_rfl
def f_calendar_before_1 (P : Program) (T : Tab) (D : DTab) (N : Nat) {β : Type} (K : AV → Hp → Option β) (a0 : AV) (h : Hp) : Option β :=
reckK P .quo 3 a0 (.s (.int .i64 4)) fun x1 =>
reckK P .quo 3 a0 (.s (.int .i64 100)) fun x2 =>
arithK .sub x1 x2 fun x3 =>
reckK P .quo 3 a0 (.s (.int .i64 400)) fun x4 =>
arithK .add x3 x4 fun x5 =>
K x5 h
theorem f_calendar_before_1_run (T : Tab) (D : DTab) (N : Nat) {β : Type} (K : AV → Hp → Option β) (a0 : AV) (h : Hp) : runK Tryz.prog T D N [0, 2] Tryz.f138 K [a0] h = f_calendar_before_1 Tryz.prog T D N K a0 h := by kernel_rfl
end Go.AM



namespace Go.AM
open Go.RowKit
set_option linter.unusedVariables false
set_option linter.unusedSimpArgs false
set_option linter.constructorNameAsVariable false
variable {P : Program} {μ μ' : Mu} {h h' h1 : Hp} {w w' : World}
def Near (h h1 : Hp) : Prop := h1.length = h.length ∧ ∀ (id : Nat) (o : AObj), h[id]? = some o → h1[id]? = some o ∨ ∃ sz es es' own nil, o = .arr sz es own nil ∧ h1[id]? = some (.arr sz es' own nil) ∧ es'.length = es.length ∧ ∀ e ∈ es', ∀ c ∈ e, plain c = true
theorem Near.back (n : Near h h1) {id : Nat} {o : AObj} (ho : h1[id]? = some o) : h[id]? = some o ∨ ∃ sz es es' own nil, o = .arr sz es' own nil ∧ h[id]? = some (.arr sz es own nil) ∧ es'.length = es.length ∧ ∀ e ∈ es', ∀ c ∈ e, plain c = true := by
  have hl : id < h.length := by rw [← n.1]; exact (List.getElem?_eq_some_iff.1 ho).1
  have hh : h[id]? = some h[id] := List.getElem?_eq_getElem hl
  rcases n.2 id _ hh with h2 | ⟨sz, es, es', own, nil, h2, h3, h4, h5⟩
  · left
    rw [h2] at ho
    rw [hh]; exact ho
  · right
    rw [h3] at ho
    injection ho with ho
    exact ⟨sz, es, es', own, nil, ho.symm, by rw [hh, h2], h4, h5⟩
theorem Step.forget2 {g : List AObj} (R : Rel μ h w) (n : Near h h1) (S : Step μ h w μ' (h1 ++ g) w') : Step μ h w (μ.mix μ') h1 w' ∧ Ext (μ.mix μ') h1 μ' (h1 ++ g) := by
  have hin : ∀ i o, h1[i]? = some o → (h1 ++ g)[i]? = some o := fun i o hi => by
    rw [List.getElem?_append_left (List.getElem?_eq_some_iff.1 hi).1]; exact hi
  have hloc : ∀ (id : Nat) (o : AObj), h[id]? = some o → o ≠ .dead → μ' id = μ id := by
    intro id o ho hd
    have := S.evo.obj id o ho
    cases o with
    | dead => exact absurd rfl hd
    | loop m ps asg body ts st pend => obtain ⟨_, _, _, h2⟩ := this; exact h2
    | map kvs => obtain ⟨_, _, h2⟩ := this; exact h2
    | arr sz es own nil =>
      obtain ⟨es', nil', q1, q2, q3⟩ := this
      rcases n.2 id _ ho with h2 | ⟨sz2, es2, es3, own2, nil2, h2, h3, h4, h5⟩
      · rw [hin _ _ h2] at q1
        injection q1 with q1
        injection q1 with e1 e2 e3 e4
        exact q3 (by rw [e2])
      · rw [hin _ _ h3] at q1
        injection q1 with q1
        injection q1 with e1 e2 e3 e4
        injection h2 with f1 f2 f3 f4
        exact q3 (by rw [← e2, h4, f2])
  have hloc1 : ∀ (id : Nat) (o : AObj), h1[id]? = some o → o ≠ .dead → μ' id = μ id := by
    intro id o ho hd
    rcases n.back ho with h2 | ⟨sz, es, es', own, nil, h2, h3, h4, h5⟩
    · exact hloc id o h2 hd
    · exact hloc id _ h3 (by simp)
  have he : Ext (μ.mix μ') h1 μ' (h1 ++ g) := ⟨fun k hk => ⟨hk, rfl⟩, fun id o ho => ⟨hin _ _ ho, fun hd => hloc1 id o ho hd⟩⟩
  have hE : Evo μ h (μ.mix μ') h1 := by
    refine ⟨S.evo.imm, fun id o ho => ?_⟩
    rcases n.2 id _ ho with h2 | ⟨sz2, es2, es3, own2, nil2, rfl, h3, h4, h5⟩
    · cases o with
      | dead => trivial
      | loop m ps asg body ts st pend => exact ⟨st, pend, h2, rfl⟩
      | map kvs => exact ⟨kvs, h2, rfl⟩
      | arr sz es own nil => exact ⟨es, nil, h2, Nat.le_refl _, fun _ => rfl⟩
    · exact ⟨es3, nil2, h3, by omega, fun _ => rfl⟩
  have hmu : ∀ i o b x c, h1[i]? = some o → isOwn o = true → (μ.mix μ') i = .real b x c → μ' i = .real b x c := fun i o b x c p1 p2 p3 => by
    rw [hloc1 i o p1 (by rintro rfl; simp [isOwn] at p2)]; exact p3
  have hown : ∀ b, Own (μ.mix μ') h1 b → Own μ' (h1 ++ g) b := by
    rintro b ⟨id, o, x, c, p1, p2, p3⟩
    exact ⟨id, o, x, c, hin _ _ p1, p2, hmu _ _ _ _ _ p1 p2 p3⟩
  have hown0 : ∀ b, Own (μ.mix μ') h1 b → Own μ h b := by
    rintro b ⟨id, o, x, c, p1, p2, p3⟩
    rcases n.back p1 with h2 | ⟨sz, es, es', own, nil, rfl, h3, h4, h5⟩
    · exact ⟨id, o, x, c, h2, p2, p3⟩
    · exact ⟨id, _, x, c, h3, p2, p3⟩
  refine ⟨⟨⟨fun id o ho => ?_, ?_, ?_, ?_⟩, hE, S.frame, fun b hb => .inl (hown0 b hb), S.fresh⟩, he⟩
  · have H := S.rel.obj id o (hin _ _ ho)
    rcases n.back ho with h2 | ⟨sz, es, es', own, nil, rfl, h3, h4, h5⟩
    · exact ORel.back he ho (w := w) (ORel.mono hE rfl (fun _ _ _ _ => rfl) (Nat.le_refl _) (R.obj id o h2)) H
    · refine ⟨H.1, ?_⟩
      have H2 := H.2
      have hm : μ' id = (μ.mix μ') id := hloc1 id _ ho (by simp)
      rw [← hm]
      cases hmu2 : μ' id with
      | virt A => rw [hmu2] at H2; exact H2
      | real blk x c =>
        rw [hmu2] at H2
        obtain ⟨q1, q2, q3, q4, q5, q6⟩ := H2
        refine ⟨q1, q2, q3, q4, fun i e j a p q => ?_, q6⟩
        obtain ⟨v, r1, r2, r3⟩ := q5 i e j a p q
        exact ⟨v, r1, r2, plain_VR he.imm (h5 e (List.mem_of_getElem? p) a (List.mem_of_getElem? q)) r3⟩
  · intro i j o p b x c y d hi hj hoi hpj hmi hmj
    exact S.rel.sep i j o p b x c y d (hin _ _ hi) (hin _ _ hj) hoi hpj (hmu _ _ _ _ _ hi hoi hmi) (hmu _ _ _ _ _ hj hpj hmj)
  · intro i sz es nil b x c hi hmi hO
    rcases n.back hi with h2 | ⟨sz2, es2, es3, own2, nil2, h2, h3, h4, h5⟩
    · exact R.apart i sz es nil b x c h2 hmi (hown0 b hO)
    · injection h2 with f1 f2 f3 f4
      subst f1 f3 f4
      exact R.apart i _ es2 _ b x c h3 hmi (hown0 b hO)
  · intro k hk
    obtain ⟨p1, p2, p3⟩ := S.rel.imm k hk
    exact ⟨p1, p2, fun hO => p3 (hown k hO)⟩
def Writes (F : Fun) (id : Nat) (x : AV) (sz : Nat) (xs zs : List AV) : Prop :=
  (∀ c ∈ zs, plain c = true) ∧ ∀ H : Hp, H[id]? = some (.arr sz [xs] true false) → ∃ g, F [.ptr id 0 0 1, x] H = some (.tup [], H.set id (.arr sz [zs] true false) ++ g)
open Classical in
noncomputable def wrD (F : Fun) : DFun := fun args h base => match args with
  | [.ptr id 0 0 1, x] => match h[id]? with
    | some (.arr sz [xs] true false) => if hx : ∃ zs, Writes F id x sz xs zs then some (.tup [], ⟨[(id, .arr sz [hx.choose] true false)], [], [id]⟩) else none
    | _ => none
  | _ => none
theorem Writes.unique {F : Fun} {id : Nat} {x : AV} {sz : Nat} {xs zs ys : List AV} {h : Hp} (hid : h[id]? = some (.arr sz [xs] true false)) (h1 : Writes F id x sz xs zs) (h2 : Writes F id x sz xs ys) : zs = ys := by
  obtain ⟨g1, e1⟩ := h1.2 h hid
  obtain ⟨g2, e2⟩ := h2.2 h hid
  rw [e1] at e2
  injection e2 with e2
  injection e2 with _ e2
  have hl := (List.getElem?_eq_some_iff.1 hid).1
  have := congrArg (fun l : Hp => l[id]?) e2
  rw [List.getElem?_append_left (by simpa using hl), List.getElem?_append_left (by simpa using hl), List.getElem?_set_self hl, List.getElem?_set_self hl] at this
  injection this with this
  injection this with _ this
  injection this
theorem wrD_val {F : Fun} {id : Nat} {x : AV} {sz : Nat} {xs zs : List AV} {h : Hp} (hid : h[id]? = some (.arr sz [xs] true false)) (hw : Writes F id x sz xs zs) (base : Nat) : wrD F [.ptr id 0 0 1, x] h base = some (.tup [], ⟨[(id, .arr sz [zs] true false)], [], [id]⟩) := by
  have hx : ∃ zs, Writes F id x sz xs zs := ⟨zs, hw⟩
  simp only [wrD, hid]
  rw [dif_pos hx, Writes.unique hid hx.choose_spec hw]
theorem wrD_inv {F : Fun} {args : List AV} {h : Hp} {base : Nat} {v : AV} {e : Eff} (hk : wrD F args h base = some (v, e)) : ∃ id x sz xs zs, args = [.ptr id 0 0 1, x] ∧ h[id]? = some (.arr sz [xs] true false) ∧ Writes F id x sz xs zs ∧ v = .tup [] ∧ e = ⟨[(id, .arr sz [zs] true false)], [], [id]⟩ := by
  unfold wrD at hk
  split at hk <;> try (simp at hk; done)
  rename_i id x
  split at hk <;> try (simp at hk; done)
  rename_i sz xs hid
  split at hk <;> try (simp at hk; done)
  rename_i hx
  simp only [Option.some.injEq, Prod.mk.injEq] at hk
  exact ⟨id, x, sz, xs, hx.choose, rfl, hid, hx.choose_spec, hk.1.symm, hk.2.symm⟩
theorem wrD_loc (F : Fun) : DLoc (wrD F) := by
  refine ⟨fun args h base v e hk H hag => ?_, fun args h base v e hk p hp => ?_⟩
  · obtain ⟨id, x, sz, xs, zs, rfl, hid, hw, rfl, rfl⟩ := wrD_inv hk
    exact wrD_val (hag id (by simp) _ hid) hw base
  · obtain ⟨id, x, sz, xs, zs, rfl, hid, hw, rfl, rfl⟩ := wrD_inv hk
    simp only [List.mem_singleton] at hp
    subst hp
    exact ⟨_, hid, by simp⟩
theorem wrD_calls {F : Fun} {f : FuncId} (hc : CSound P f F) : DCalls P f (wrD F) := by
  intro args h base v e hk hd μ w cargs R hargs
  obtain ⟨id, x, sz, xs, zs, rfl, hid, hw, rfl, rfl⟩ := wrD_inv hk
  obtain ⟨g, hg⟩ := hw.2 h hid
  obtain ⟨hgo, hcall⟩ := hc _ _ _ _ hg μ w cargs R hargs
  refine ⟨hgo, Calls.mono hcall ?_⟩
  rintro en w' ⟨cv, μ', rfl, hst, hv⟩
  have hl := (List.getElem?_eq_some_iff.1 hid).1
  have hn : Near h (h.set id (.arr sz [zs] true false)) := by
    refine ⟨by simp, fun j o ho => ?_⟩
    by_cases hj : id = j
    · subst hj
      rw [hid] at ho
      injection ho with ho
      subst ho
      right
      refine ⟨sz, [xs], [zs], true, false, rfl, by rw [List.getElem?_set_self hl], rfl, ?_⟩
      intro e he c hc
      simp only [List.mem_singleton] at he
      subst he
      exact hw.1 c hc
    · left
      rw [List.getElem?_set_ne hj]
      exact ho
  obtain ⟨h1, h2⟩ := Step.forget2 R hn hst
  exact ⟨cv, _, rfl, by simpa [apAt] using h1, plain_VR h2.imm rfl hv⟩
theorem DSound.wr {D : DTab} (DS : DSound P D) {f : Nat} {F : Fun} (hc : CSound P f F) : DSound P (updD D f (wrD F)) := DS.upd (wrD_loc F) (wrD_calls hc)
end Go.AM

