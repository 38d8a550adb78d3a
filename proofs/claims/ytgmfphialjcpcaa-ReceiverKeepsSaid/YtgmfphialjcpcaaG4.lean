import Derived.Test.YtgmfphialjcpcaaG3
import Derived.Shelf.RegionOpenPlain
import Derived.WalkKit
import Derived.Lib.Walk
import Derived.Lib.SliceRun
import Derived.Lib.JoinLaws
import Derived.Lib.AppendZerosOnto
import Derived.Lib.Overlaps
import Derived.Laws.Externs
import Derived.Laws.IdiomCopy
import Derived.Laws.NewBlocks
import Derived.Laws.CopyRow
import Derived.Test.YtgmfphialjcpcaaProg
import Derived.Shelf.SlSortCmp.NoneTotal
set_option linter.unusedSectionVars false
set_option linter.unusedVariables false
set_option linter.unusedSimpArgs false
set_option linter.constructorNameAsVariable false
namespace Go.AM
open Go.Proofs
set_option linter.unusedVariables false
set_option maxRecDepth 100000
noncomputable def Zgq (P:Program) (T:Tab) (D:DTab) (N:Nat) {β:Type} (xn:AV→AV→AV→AV→Hp→Option β) (x2:AV→AV→Hp→Option β) (v0:AV) (v3:AV) (v4:AV) (v5:AV) (h:Hp):Option β:=
arithK .add v5 (.s (.int .i64 1)) fun x19=>
xn v0 v3 v4 x19 h
noncomputable def ZcG (P:Program) (T:Tab) (D:DTab) (N:Nat) {β:Type} (xn:AV→AV→AV→AV→Hp→Option β) (x2:AV→AV→Hp→Option β) (v0:AV) (v3:AV) (v4:AV) (v5:AV) (h:Hp):Option β:=
Zgq P T D N xn x2 v0 v3 v4 v5 h
noncomputable def Z5u (P:Program) (T:Tab) (D:DTab) (N:Nat) {β:Type} (xn:AV→AV→AV→AV→Hp→Option β) (x2:AV→AV→Hp→Option β) (v0:AV) (v3:AV) (v4:AV) (v5:AV) (h:Hp):Option β:=
lenK v4 fun x17=>
arithK .lss v5 x17 fun x18=>
condK x18 (
iaK 7 v4 v5 fun x20=>
ldK 7 true x20 h fun x21=>
arithK .sub v5 (.s (.int .i64 1)) fun x22=>
iaK 7 v4 x22 fun x23=>
ldK 7 true x23 h fun x24=>
eqK P true 27 x21 x24 h fun x25=>
condK x25 (
iaK 7 v4 v5 fun x26=>
ldK 7 true x26 h fun x27=>
iaK 7 v0 v3 fun x28=>
effK (stE 7 x28 x27 h) h fun x29 h30=>
arithK .add v3 (.s (.int .i64 1)) fun x31=>
ZcG P T D N xn x2 v0 x31 v4 v5 h30) (
ZcG P T D N xn x2 v0 v3 v4 v5 h)) (
x2 v0 v3 h)
noncomputable def Z3i (P:Program) (T:Tab) (D:DTab) (N:Nat) {β:Type} (x2:AV→AV→Hp→Option β):Nat→AV→AV→AV→AV→Hp→Option β
 | 0=>fun _ _ _ _ _=>none
 | n+1=>fun v0 v3 v4 v5 h=>Z5u P T D N (Z3i P T D N x2 n) x2 v0 v3 v4 v5 h
noncomputable def Z7a (P:Program) (T:Tab) (D:DTab) (N:Nat) {β:Type} (xn:AV→AV→Hp→Option β) (x0:AV→Hp→Option β) (xr:AV→Hp→Option β) (v0:AV) (v3:AV) (h:Hp):Option β:=
lenK v0 fun x3=>
arithK .lss v3 x3 fun x4=>
condK x4 (
iaK 7 v0 v3 fun x6=>
ldK 7 true x6 h fun x7=>
arithK .sub v3 (.s (.int .i64 1)) fun x8=>
iaK 7 v0 x8 fun x9=>
ldK 7 true x9 h fun x10=>
eqK P false 27 x7 x10 h fun x11=>
condK x11 (
sliceK 7 v0 (some v3) none none fun x12=>
Z3i P T D N (fun w32_0 w32_3 h=>Z5t P T D N xn x0 xr w32_0 w32_3 h) N v0 v3 x12 (.s (.int .i64 1)) h) (
Z9K P T D N xn x0 xr v0 v3 h)) (
x0 v0 h)
noncomputable def Z3j (P:Program) (T:Tab) (D:DTab) (N:Nat) {β:Type} (x0:AV→Hp→Option β) (xr:AV→Hp→Option β):Nat→AV→AV→Hp→Option β
 | 0=>fun _ _ _=>none
 | n+1=>fun v0 v3 h=>Z7a P T D N (Z3j P T D N x0 xr n) x0 xr v0 v3 h
noncomputable def Z4A (P:Program) (T:Tab) (D:DTab) (N:Nat) {β:Type} (K:AV→Hp→Option β) (a0:AV) (h:Hp):Option β:=
lenK a0 fun x1=>
arithK .lss x1 (.s (.int .i64 2)) fun x2=>
condK x2 (
K a0 h) (
Z3j P T D N (fun w33_0 h=>Z9J P T D N K w33_0 h) (fun w34_2 h=>K w34_2 h) N a0 (.s (.int .i64 1)) h)
theorem Znh (P:Program) (T:Tab) (D:DTab) (N:Nat) {β:Type} (xn:AV→AV→Hp→Option β) (x0:AV→Hp→Option β) (xr:AV→Hp→Option β) (xd:Nat→St→Option β) (xq:St→Option β) (t:Tm) (h:Hp):Z79 P T D N (fun (e:Ex) (s:St)=>e.on (xn (s.1 0) (s.1 3) s.2) (fun i=>(bif i==0 then x0 (s.1 0) s.2 else (xd i s))) (xr (s.1 2) s.2)) t h=Z9K P T D N xn x0 xr (t 0) (t 3) h:=by kernel_rfl
theorem Zni (P:Program) (T:Tab) (D:DTab) (N:Nat) {β:Type} (xn:AV→AV→AV→AV→Hp→Option β) (x2:AV→AV→Hp→Option β) (xd:Nat→St→Option β) (xq:St→Option β) (t:Tm) (h:Hp):Z4a P T D N t h (fun (e:Ex) (s:St)=>e.on (xn (s.1 0) (s.1 3) (s.1 4) (s.1 5) s.2) (fun i=>(bif i==2 then x2 (s.1 0) (s.1 3) s.2 else (xd i s))) (xq s))=Z5u P T D N xn x2 (t 0) (t 3) (t 4) (t 5) h:=by kernel_rfl
theorem Znj (P:Program) (T:Tab) (D:DTab) (N:Nat) {β:Type} (A:Ex→St→Option β) (x2:AV→AV→Hp→Option β) (q2:∀s,A (.exit 2) s=x2 (s.1 0) (s.1 3) s.2):∀(n:Nat) (s:St),iterK (fun s k=>Z4a P T D N s.1 s.2 k) n s A=Z3i P T D N x2 n (s.1 0) (s.1 3) (s.1 4) (s.1 5) s.2:=by
 intro n
 induction n with
 | zero=>intro s;rfl
 | succ n ih=>
  intro s
  have hk:(fun (e:Ex) (s':St)=>Ex.on e (iterK (fun s k=>Z4a P T D N s.1 s.2 k) n s' A) (fun i=>A (.exit i) s') (A .ret s'))=(fun (e:Ex) (s:St)=>e.on ((Z3i P T D N x2 n) (s.1 0) (s.1 3) (s.1 4) (s.1 5) s.2) (fun i=>(bif i==2 then x2 (s.1 0) (s.1 3) s.2 else (A (.exit i) s))) (A .ret s)):=by
   funext e s'
   cases e with
   | normal=>exact ih s'
   | ret=>exact rfl
   | exit i=>
    by_cases r2:i=2
    ·subst r2;exact q2 s'
    simp only [Ex.on,beq_false_of_ne r2,cond_false]
  show Z4a P T D N s.1 s.2 (fun (e:Ex) (s':St)=>Ex.on e (iterK (fun s k=>Z4a P T D N s.1 s.2 k) n s' A) (fun i=>A (.exit i) s') (A .ret s'))=_
  rw [hk]
  exact Zni P T D N (Z3i P T D N x2 n) x2 (fun i s=>A (.exit i) s) (fun s=>A .ret s) s.1 s.2
theorem Znk (P:Program) (T:Tab) (D:DTab) (N:Nat) {β:Type} (xn:AV→AV→Hp→Option β) (x0:AV→Hp→Option β) (xr:AV→Hp→Option β) (xd:Nat→St→Option β) (xq:St→Option β) (t:Tm) (h:Hp):Z4b P T D N t h (fun (e:Ex) (s:St)=>e.on (xn (s.1 0) (s.1 3) s.2) (fun i=>(bif i==0 then x0 (s.1 0) s.2 else (xd i s))) (xr (s.1 2) s.2))=Z7a P T D N xn x0 xr (t 0) (t 3) h:=by
 have eL5:(fun s:St=>iterK (fun s k=>Z4a P T D N s.1 s.2 k) N s (Z9H P T D N (fun (e:Ex) (s:St)=>e.on (xn (s.1 0) (s.1 3) s.2) (fun i=>(bif i==0 then x0 (s.1 0) s.2 else (xd i s))) (xr (s.1 2) s.2))))=(fun s:St=>Z3i P T D N (fun w32_0 w32_3 h=>Z5t P T D N xn x0 xr w32_0 w32_3 h) N (s.1 0) (s.1 3) (s.1 4) (s.1 5) s.2):=funext fun s=>Znj P T D N (Z9H P T D N (fun (e:Ex) (s:St)=>e.on (xn (s.1 0) (s.1 3) s.2) (fun i=>(bif i==0 then x0 (s.1 0) s.2 else (xd i s))) (xr (s.1 2) s.2))) (fun w32_0 w32_3 h=>Z5t P T D N xn x0 xr w32_0 w32_3 h) (fun s=>rfl) N s
 have ej3:(fun s:St=>Z79 P T D N (fun (e:Ex) (s:St)=>e.on (xn (s.1 0) (s.1 3) s.2) (fun i=>(bif i==0 then x0 (s.1 0) s.2 else (xd i s))) (xr (s.1 2) s.2)) s.1 s.2)=(fun s:St=>Z9K P T D N xn x0 xr (s.1 0) (s.1 3) s.2):=funext fun s=>Znh P T D N xn x0 xr xd xq s.1 s.2
 show Zgn P T D N (fun s=>iterK (fun s k=>Z4a P T D N s.1 s.2 k) N s (Z9H P T D N (fun (e:Ex) (s:St)=>e.on (xn (s.1 0) (s.1 3) s.2) (fun i=>(bif i==0 then x0 (s.1 0) s.2 else (xd i s))) (xr (s.1 2) s.2)))) (fun s=>Z79 P T D N (fun (e:Ex) (s:St)=>e.on (xn (s.1 0) (s.1 3) s.2) (fun i=>(bif i==0 then x0 (s.1 0) s.2 else (xd i s))) (xr (s.1 2) s.2)) s.1 s.2) t h (fun (e:Ex) (s:St)=>e.on (xn (s.1 0) (s.1 3) s.2) (fun i=>(bif i==0 then x0 (s.1 0) s.2 else (xd i s))) (xr (s.1 2) s.2))=_
 rw [eL5,ej3]
 kernel_rfl
theorem Znl (P:Program) (T:Tab) (D:DTab) (N:Nat) {β:Type} (A:Ex→St→Option β) (x0:AV→Hp→Option β) (xr:AV→Hp→Option β) (q0:∀s,A (.exit 0) s=x0 (s.1 0) s.2) (qr:∀s,A .ret s=xr (s.1 2) s.2):∀(n:Nat) (s:St),iterK (fun s k=>Z4b P T D N s.1 s.2 k) n s A=Z3j P T D N x0 xr n (s.1 0) (s.1 3) s.2:=by
 intro n
 induction n with
 | zero=>intro s;rfl
 | succ n ih=>
  intro s
  have hk:(fun (e:Ex) (s':St)=>Ex.on e (iterK (fun s k=>Z4b P T D N s.1 s.2 k) n s' A) (fun i=>A (.exit i) s') (A .ret s'))=(fun (e:Ex) (s:St)=>e.on ((Z3j P T D N x0 xr n) (s.1 0) (s.1 3) s.2) (fun i=>(bif i==0 then x0 (s.1 0) s.2 else (A (.exit i) s))) (xr (s.1 2) s.2)):=by
   funext e s'
   cases e with
   | normal=>exact ih s'
   | ret=>exact qr s'
   | exit i=>
    by_cases r0:i=0
    ·subst r0;exact q0 s'
    simp only [Ex.on,beq_false_of_ne r0,cond_false]
  show Z4b P T D N s.1 s.2 (fun (e:Ex) (s':St)=>Ex.on e (iterK (fun s k=>Z4b P T D N s.1 s.2 k) n s' A) (fun i=>A (.exit i) s') (A .ret s'))=_
  rw [hk]
  exact Znk P T D N (Z3j P T D N x0 xr n) x0 xr (fun i s=>A (.exit i) s) (fun s=>A .ret s) s.1 s.2
theorem Znm (P:Program) (T:Tab) (D:DTab) (N:Nat) {β:Type} (K:AV→Hp→Option β) (a0:AV) (h:Hp):Zgp P T D N K a0 h=Z4A P T D N K a0 h:=by
 have eL2:(fun s:St=>iterK (fun s k=>Z4b P T D N s.1 s.2 k) N s (Z9I P T D N K))=(fun s:St=>Z3j P T D N (fun w33_0 h=>Z9J P T D N K w33_0 h) (fun w34_2 h=>K w34_2 h) N (s.1 0) (s.1 3) s.2):=funext fun s=>Znl P T D N (Z9I P T D N K) (fun w33_0 h=>Z9J P T D N K w33_0 h) (fun w34_2 h=>K w34_2 h) (fun s=>rfl) (fun s=>rfl) N s
 show Zgo P T D N (fun s=>iterK (fun s k=>Z4b P T D N s.1 s.2 k) N s (Z9I P T D N K)) K a0 h=_
 rw [eL2]
 kernel_rfl
theorem Znn (T:Tab) (D:DTab) (N:Nat) {β:Type} (K:AV→Hp→Option β) (a0:AV) (h:Hp):runK Try.prog T D N [0,2,3,4,5,8,13,25,32,44] Try.f85 K [a0] h=Zgp Try.prog T D N K a0 h:=by kernel_rfl
theorem Zno (T:Tab) (D:DTab) (N:Nat) {β:Type} (K:AV→Hp→Option β) (a0:AV) (h:Hp):runK Try.prog T D N [0,2,3,4,5,8,13,25,32,44] Try.f85 K [a0] h=Z4A Try.prog T D N K a0 h:=(Znn T D N K a0 h).trans (Znm Try.prog T D N K a0 h)
noncomputable def Zgr (P:Program) (T:Tab) (D:DTab) (N:Nat) {β:Type} (K:AV→Hp→Option β) (t:Tm) (h:Hp):Option β:=
sliceK 10 (t 0) (some (t 5)) none none fun x5=>
effK (clrE 10 [.s (.int .i64 0), .s (.int .i64 0), .s (.int .i64 0), .s (.int .i64 0), .s (.int .i64 0), .s (.int .i64 0), .s (.int .i64 0), .s (.int .i64 0), .s (.int .i64 0), .s (.int .i64 0)] x5 h) h fun x6 h7=>
sliceK 10 (t 0) none (some (t 5)) none fun x8=>
K x8 h7
noncomputable def Znp (P:Program) (T:Tab) (D:DTab) (N:Nat) {β:Type} (k:Ex→St→Option β) (t:Tm) (h:Hp):Option β:=
arithK .add (t 6) (.s (.int .i64 1)) fun x11=>
k .normal ((upd t 6 x11),h)
noncomputable def Zgs (P:Program) (T:Tab) (D:DTab) (N:Nat) {β:Type} (k:Ex→St→Option β) (t:Tm) (h:Hp):Option β:=
(Znp P T D N k t h)
noncomputable def Z4c (P:Program) (T:Tab) (D:DTab) (N:Nat) {β:Type} (t:Tm) (h:Hp) (k:Ex→St→Option β):Option β:=
lenK (t 0) fun x9=>
arithK .lss (t 6) x9 fun x10=>
condK x10 (
iaK 10 (t 0) (t 6) fun x12=>
ldK 10 true x12 h fun x13=>
effK (boxE 10 (.agg [.s (.int .i64 0), .s (.int .i64 0), .s (.int .i64 0), .s (.int .i64 0), .s (.int .i64 0), .s (.int .i64 0), .s (.int .i64 0), .s (.int .i64 0), .s (.int .i64 0), .s (.int .i64 0)]) (List.length h)) h fun x14 h15=>
effK (stE 10 x14 x13 h15) h15 fun x16 h17=>
ldK 10 true x14 h17 fun x18=>
callVK T (t 1) [x18] h17 fun x19 h20=>
notK x19 fun x21=>
condK x21 (
ldK 10 true x14 h20 fun x22=>
iaK 10 (t 0) (t 5) fun x23=>
effK (stE 10 x23 x22 h20) h20 fun x24 h25=>
arithK .add (t 5) (.s (.int .i64 1)) fun x26=>
(Zgs P T D N k (upd (upd (upd (upd t 19 x10) 7 x14) 29 x21) 5 x26) h25)) (
(Zgs P T D N k (upd (upd (upd t 19 x10) 7 x14) 29 x21) h20))) (
k (.exit 0) ((upd t 19 x10),h))
noncomputable def Z9L (P:Program) (T:Tab) (D:DTab) (N:Nat) {β:Type} (K:AV→Hp→Option β) (e:Ex) (s:St):Option β:=
 e.on ((Zgr P T D N K s.1 s.2))
 (fun i=>bif i==0 then ((Zgr P T D N K s.1 s.2)) else (none))
 (K (s.1 4) s.2)
noncomputable def Zgt (P:Program) (T:Tab) (D:DTab) (N:Nat) {β:Type} (cL2:St→Option β) (K:AV→Hp→Option β) (a0:AV) (a1:AV) (h:Hp) :  Option β:=
callK (T 70) [a0,a1] h fun x1 h2=>
eqK P false 3 x1 (.s (.int .i64 (-1))) h2 fun x3=>
condK x3 (
K a0 h2) (
arithK .add x1 (.s (.int .i64 1)) fun x4=>
cL2 ((upd (upd (upd (upd (tm0 [a0,a1]) 4 (.s (.slice none 0 0))) 5 x1) 12 x3) 6 x4),h2))
noncomputable def Zgu (P:Program) (T:Tab) (D:DTab) (N:Nat) {β:Type} (K:AV→Hp→Option β) (a0:AV) (a1:AV) (h:Hp):Option β:=Zgt P T D N (fun s=>iterK (fun s k=>Z4c P T D N s.1 s.2 k) N s (Z9L P T D N K)) K a0 a1 h
noncomputable def Z7b (P:Program) (T:Tab) (D:DTab) (N:Nat) {β:Type} (K:AV→Hp→Option β) (v0:AV) (v5:AV) (h:Hp):Option β:=
sliceK 10 v0 (some v5) none none fun x5=>
effK (clrE 10 [.s (.int .i64 0), .s (.int .i64 0), .s (.int .i64 0), .s (.int .i64 0), .s (.int .i64 0), .s (.int .i64 0), .s (.int .i64 0), .s (.int .i64 0), .s (.int .i64 0), .s (.int .i64 0)] x5 h) h fun x6 h7=>
sliceK 10 v0 none (some v5) none fun x8=>
K x8 h7
noncomputable def ZcH (P:Program) (T:Tab) (D:DTab) (N:Nat) {β:Type} (xn:AV→AV→AV→AV→Hp→Option β) (x0:AV→AV→Hp→Option β) (v0:AV) (v1:AV) (v5:AV) (v6:AV) (h:Hp):Option β:=
arithK .add v6 (.s (.int .i64 1)) fun x11=>
xn v0 v1 v5 x11 h
noncomputable def Z9M (P:Program) (T:Tab) (D:DTab) (N:Nat) {β:Type} (xn:AV→AV→AV→AV→Hp→Option β) (x0:AV→AV→Hp→Option β) (v0:AV) (v1:AV) (v5:AV) (v6:AV) (h:Hp):Option β:=
ZcH P T D N xn x0 v0 v1 v5 v6 h
noncomputable def Z4d (P:Program) (T:Tab) (D:DTab) (N:Nat) {β:Type} (xn:AV→AV→AV→AV→Hp→Option β) (x0:AV→AV→Hp→Option β) (v0:AV) (v1:AV) (v5:AV) (v6:AV) (h:Hp):Option β:=
lenK v0 fun x9=>
arithK .lss v6 x9 fun x10=>
condK x10 (
iaK 10 v0 v6 fun x12=>
ldK 10 true x12 h fun x13=>
effK (boxE 10 (.agg [.s (.int .i64 0), .s (.int .i64 0), .s (.int .i64 0), .s (.int .i64 0), .s (.int .i64 0), .s (.int .i64 0), .s (.int .i64 0), .s (.int .i64 0), .s (.int .i64 0), .s (.int .i64 0)]) (List.length h)) h fun x14 h15=>
effK (stE 10 x14 x13 h15) h15 fun x16 h17=>
ldK 10 true x14 h17 fun x18=>
callVK T v1 [x18] h17 fun x19 h20=>
notK x19 fun x21=>
condK x21 (
ldK 10 true x14 h20 fun x22=>
iaK 10 v0 v5 fun x23=>
effK (stE 10 x23 x22 h20) h20 fun x24 h25=>
arithK .add v5 (.s (.int .i64 1)) fun x26=>
Z9M P T D N xn x0 v0 v1 x26 v6 h25) (
Z9M P T D N xn x0 v0 v1 v5 v6 h20)) (
x0 v0 v5 h)
noncomputable def Z1V (P:Program) (T:Tab) (D:DTab) (N:Nat) {β:Type} (x0:AV→AV→Hp→Option β):Nat→AV→AV→AV→AV→Hp→Option β
 | 0=>fun _ _ _ _ _=>none
 | n+1=>fun v0 v1 v5 v6 h=>Z4d P T D N (Z1V P T D N x0 n) x0 v0 v1 v5 v6 h
noncomputable def Z4e (P:Program) (T:Tab) (D:DTab) (N:Nat) {β:Type} (K:AV→Hp→Option β) (a0:AV) (a1:AV) (h:Hp):Option β:=
callK (T 70) [a0,a1] h fun x1 h2=>
eqK P false 3 x1 (.s (.int .i64 (-1))) h2 fun x3=>
condK x3 (
K a0 h2) (
arithK .add x1 (.s (.int .i64 1)) fun x4=>
Z1V P T D N (fun w27_0 w27_5 h=>Z7b P T D N K w27_0 w27_5 h) N a0 a1 x1 x4 h2)
theorem Znq (P:Program) (T:Tab) (D:DTab) (N:Nat) {β:Type} (xn:AV→AV→AV→AV→Hp→Option β) (x0:AV→AV→Hp→Option β) (xd:Nat→St→Option β) (xq:St→Option β) (t:Tm) (h:Hp):Z4c P T D N t h (fun (e:Ex) (s:St)=>e.on (xn (s.1 0) (s.1 1) (s.1 5) (s.1 6) s.2) (fun i=>(bif i==0 then x0 (s.1 0) (s.1 5) s.2 else (xd i s))) (xq s))=Z4d P T D N xn x0 (t 0) (t 1) (t 5) (t 6) h:=by kernel_rfl
theorem Znr (P:Program) (T:Tab) (D:DTab) (N:Nat) {β:Type} (A:Ex→St→Option β) (x0:AV→AV→Hp→Option β) (q0:∀s,A (.exit 0) s=x0 (s.1 0) (s.1 5) s.2):∀(n:Nat) (s:St),iterK (fun s k=>Z4c P T D N s.1 s.2 k) n s A=Z1V P T D N x0 n (s.1 0) (s.1 1) (s.1 5) (s.1 6) s.2:=by
 intro n
 induction n with
 | zero=>intro s;rfl
 | succ n ih=>
  intro s
  have hk:(fun (e:Ex) (s':St)=>Ex.on e (iterK (fun s k=>Z4c P T D N s.1 s.2 k) n s' A) (fun i=>A (.exit i) s') (A .ret s'))=(fun (e:Ex) (s:St)=>e.on ((Z1V P T D N x0 n) (s.1 0) (s.1 1) (s.1 5) (s.1 6) s.2) (fun i=>(bif i==0 then x0 (s.1 0) (s.1 5) s.2 else (A (.exit i) s))) (A .ret s)):=by
   funext e s'
   cases e with
   | normal=>exact ih s'
   | ret=>exact rfl
   | exit i=>
    by_cases r0:i=0
    ·subst r0;exact q0 s'
    simp only [Ex.on,beq_false_of_ne r0,cond_false]
  show Z4c P T D N s.1 s.2 (fun (e:Ex) (s':St)=>Ex.on e (iterK (fun s k=>Z4c P T D N s.1 s.2 k) n s' A) (fun i=>A (.exit i) s') (A .ret s'))=_
  rw [hk]
  exact Znq P T D N (Z1V P T D N x0 n) x0 (fun i s=>A (.exit i) s) (fun s=>A .ret s) s.1 s.2
theorem Zns (P:Program) (T:Tab) (D:DTab) (N:Nat) {β:Type} (K:AV→Hp→Option β) (a0:AV) (a1:AV) (h:Hp):Zgu P T D N K a0 a1 h=Z4e P T D N K a0 a1 h:=by
 have eL2:(fun s:St=>iterK (fun s k=>Z4c P T D N s.1 s.2 k) N s (Z9L P T D N K))=(fun s:St=>Z1V P T D N (fun w27_0 w27_5 h=>Z7b P T D N K w27_0 w27_5 h) N (s.1 0) (s.1 1) (s.1 5) (s.1 6) s.2):=funext fun s=>Znr P T D N (Z9L P T D N K) (fun w27_0 w27_5 h=>Z7b P T D N K w27_0 w27_5 h) (fun s=>rfl) N s
 show Zgt P T D N (fun s=>iterK (fun s k=>Z4c P T D N s.1 s.2 k) N s (Z9L P T D N K)) K a0 a1 h=_
 rw [eL2]
 kernel_rfl
theorem Znt (T:Tab) (D:DTab) (N:Nat) {β:Type} (K:AV→Hp→Option β) (a0:AV) (a1:AV) (h:Hp):runK Try.prog T D N [0,1,4,5,6,7,12,19,29] Try.f89 K [a0,a1] h=Zgu Try.prog T D N K a0 a1 h:=by kernel_rfl
theorem Znu (T:Tab) (D:DTab) (N:Nat) {β:Type} (K:AV→Hp→Option β) (a0:AV) (a1:AV) (h:Hp):runK Try.prog T D N [0,1,4,5,6,7,12,19,29] Try.f89 K [a0,a1] h=Z4e Try.prog T D N K a0 a1 h:=(Znt T D N K a0 a1 h).trans (Zns Try.prog T D N K a0 a1 h)
noncomputable def Z9N (P:Program) (T:Tab) (D:DTab) (N:Nat) {β:Type} (K:AV→Hp→Option β) (a0:AV) (a1:AV) (h:Hp):Option β:=
effK (boxE 10 a0 (List.length h)) h fun x1 h2=>
faK 1 x1 fun x3=>
ldK 1 false x3 h2 fun x4=>
ldK 1 false a1 h2 fun x5=>
eqK P true 3 x4 x5 h2 fun x6=>
K x6 h2
theorem Znv (T:Tab) (D:DTab) (N:Nat) {β:Type} (K:AV→Hp→Option β) (a0:AV) (a1:AV) (h:Hp):runK Try.prog T D N [0,1,2,3] Try.f90 K [a0,a1] h=Z9N Try.prog T D N K a0 a1 h:=by kernel_rfl
noncomputable def Zgv (P:Program) (T:Tab) (D:DTab) (N:Nat) {β:Type} (K:AV→Hp→Option β) (t:Tm) (h:Hp):Option β:=
K (.tup []) h
noncomputable def Z4f (P:Program) (T:Tab) (D:DTab) (N:Nat) {β:Type} (t:Tm) (h:Hp) (k:Ex→St→Option β):Option β:=
arithK .lss (t 8) (t 7) fun x3=>
condK x3 (
iaK 10 (t 6) (t 8) fun x4=>
ldK 10 true x4 h fun x5=>
effK (boxE 10 (.agg [.s (.int .i64 0), .s (.int .i64 0), .s (.int .i64 0), .s (.int .i64 0), .s (.int .i64 0), .s (.int .i64 0), .s (.int .i64 0), .s (.int .i64 0), .s (.int .i64 0), .s (.int .i64 0)]) (List.length h)) h fun x6 h7=>
effK (stE 10 x6 x5 h7) h7 fun x8 h9=>
ldK 1 false (t 2) h9 fun x10=>
reckK P .shr 55 x10 (t 8) fun x11=>
reckK P .and 55 x11 (.s (.int .u64 1)) fun x12=>
eqK P false 55 x12 (.s (.int .u64 1)) h9 fun x13=>
grpK true x13 h9 (fun k14=>
ldK 10 true x6 h9 fun x15=>
callVK T (t 0) [(t 8),x15] h9 fun x16 h17=>
notK x16 fun x18=>
k14 x18 h17) fun x19 h20=>
condK x19 (
k .ret ((upd (upd (upd (upd t 9 x3) 5 x6) 4 (t 8)) 24 x19),h20)) (
arithK .add (t 8) (.s (.int .i64 1)) fun x21=>
k .normal ((upd (upd (upd (upd (upd t 9 x3) 5 x6) 4 (t 8)) 24 x19) 8 x21),h20))) (
k (.exit 0) ((upd t 9 x3),h))
noncomputable def Z9O (P:Program) (T:Tab) (D:DTab) (N:Nat) {β:Type} (K:AV→Hp→Option β) (e:Ex) (s:St):Option β:=
 e.on ((Zgv P T D N K s.1 s.2))
 (fun i=>bif i==0 then ((Zgv P T D N K s.1 s.2)) else (none))
 (K (.tup []) s.2)
noncomputable def Zgw (P:Program) (T:Tab) (D:DTab) (N:Nat) {β:Type} (cL2:St→Option β) (K:AV→Hp→Option β) (a0:AV) (a1:AV) (a2:AV) (h:Hp) :  Option β:=
ldK 1 false a1 h fun x1=>
lenK x1 fun x2=>
cL2 ((upd (upd (upd (tm0 [a0,a1,a2]) 6 x1) 7 x2) 8 (.s (.int .i64 0))),h)
noncomputable def Zgx (P:Program) (T:Tab) (D:DTab) (N:Nat) {β:Type} (K:AV→Hp→Option β) (a0:AV) (a1:AV) (a2:AV) (h:Hp):Option β:=Zgw P T D N (fun s=>iterK (fun s k=>Z4f P T D N s.1 s.2 k) N s (Z9O P T D N K)) K a0 a1 a2 h
noncomputable def Z7c (P:Program) (T:Tab) (D:DTab) (N:Nat) {β:Type} (K:AV→Hp→Option β) (h:Hp):Option β:=
K (.tup []) h
noncomputable def Z4g (P:Program) (T:Tab) (D:DTab) (N:Nat) {β:Type} (xn:AV→AV→AV→AV→AV→Hp→Option β) (x0:Hp→Option β) (xr:Hp→Option β) (v0:AV) (v2:AV) (v6:AV) (v7:AV) (v8:AV) (h:Hp):Option β:=
arithK .lss v8 v7 fun x3=>
condK x3 (
iaK 10 v6 v8 fun x4=>
ldK 10 true x4 h fun x5=>
effK (boxE 10 (.agg [.s (.int .i64 0), .s (.int .i64 0), .s (.int .i64 0), .s (.int .i64 0), .s (.int .i64 0), .s (.int .i64 0), .s (.int .i64 0), .s (.int .i64 0), .s (.int .i64 0), .s (.int .i64 0)]) (List.length h)) h fun x6 h7=>
effK (stE 10 x6 x5 h7) h7 fun x8 h9=>
ldK 1 false v2 h9 fun x10=>
reckK P .shr 55 x10 v8 fun x11=>
reckK P .and 55 x11 (.s (.int .u64 1)) fun x12=>
eqK P false 55 x12 (.s (.int .u64 1)) h9 fun x13=>
grpK true x13 h9 (fun k14=>
ldK 10 true x6 h9 fun x15=>
callVK T v0 [v8,x15] h9 fun x16 h17=>
notK x16 fun x18=>
k14 x18 h17) fun x19 h20=>
condK x19 (
xr h20) (
arithK .add v8 (.s (.int .i64 1)) fun x21=>
xn v0 v2 v6 v7 x21 h20)) (
x0 h)
noncomputable def Z18 (P:Program) (T:Tab) (D:DTab) (N:Nat) {β:Type} (x0:Hp→Option β) (xr:Hp→Option β):Nat→AV→AV→AV→AV→AV→Hp→Option β
 | 0=>fun _ _ _ _ _ _=>none
 | n+1=>fun v0 v2 v6 v7 v8 h=>Z4g P T D N (Z18 P T D N x0 xr n) x0 xr v0 v2 v6 v7 v8 h
noncomputable def Z7d (P:Program) (T:Tab) (D:DTab) (N:Nat) {β:Type} (K:AV→Hp→Option β) (a0:AV) (a1:AV) (a2:AV) (h:Hp):Option β:=
ldK 1 false a1 h fun x1=>
lenK x1 fun x2=>
Z18 P T D N (fun h=>Z7c P T D N K h) (fun h=>K (.tup []) h) N a0 a2 x1 x2 (.s (.int .i64 0)) h
theorem Znw (P:Program) (T:Tab) (D:DTab) (N:Nat) {β:Type} (xn:AV→AV→AV→AV→AV→Hp→Option β) (x0:Hp→Option β) (xr:Hp→Option β) (xd:Nat→St→Option β) (xq:St→Option β) (t:Tm) (h:Hp):Z4f P T D N t h (fun (e:Ex) (s:St)=>e.on (xn (s.1 0) (s.1 2) (s.1 6) (s.1 7) (s.1 8) s.2) (fun i=>(bif i==0 then x0 s.2 else (xd i s))) (xr s.2))=Z4g P T D N xn x0 xr (t 0) (t 2) (t 6) (t 7) (t 8) h:=by kernel_rfl
theorem Znx (P:Program) (T:Tab) (D:DTab) (N:Nat) {β:Type} (A:Ex→St→Option β) (x0:Hp→Option β) (xr:Hp→Option β) (q0:∀s,A (.exit 0) s=x0 s.2) (qr:∀s,A .ret s=xr s.2):∀(n:Nat) (s:St),iterK (fun s k=>Z4f P T D N s.1 s.2 k) n s A=Z18 P T D N x0 xr n (s.1 0) (s.1 2) (s.1 6) (s.1 7) (s.1 8) s.2:=by
 intro n
 induction n with
 | zero=>intro s;rfl
 | succ n ih=>
  intro s
  have hk:(fun (e:Ex) (s':St)=>Ex.on e (iterK (fun s k=>Z4f P T D N s.1 s.2 k) n s' A) (fun i=>A (.exit i) s') (A .ret s'))=(fun (e:Ex) (s:St)=>e.on ((Z18 P T D N x0 xr n) (s.1 0) (s.1 2) (s.1 6) (s.1 7) (s.1 8) s.2) (fun i=>(bif i==0 then x0 s.2 else (A (.exit i) s))) (xr s.2)):=by
   funext e s'
   cases e with
   | normal=>exact ih s'
   | ret=>exact qr s'
   | exit i=>
    by_cases r0:i=0
    ·subst r0;exact q0 s'
    simp only [Ex.on,beq_false_of_ne r0,cond_false]
  show Z4f P T D N s.1 s.2 (fun (e:Ex) (s':St)=>Ex.on e (iterK (fun s k=>Z4f P T D N s.1 s.2 k) n s' A) (fun i=>A (.exit i) s') (A .ret s'))=_
  rw [hk]
  exact Znw P T D N (Z18 P T D N x0 xr n) x0 xr (fun i s=>A (.exit i) s) (fun s=>A .ret s) s.1 s.2
theorem Zny (P:Program) (T:Tab) (D:DTab) (N:Nat) {β:Type} (K:AV→Hp→Option β) (a0:AV) (a1:AV) (a2:AV) (h:Hp):Zgx P T D N K a0 a1 a2 h=Z7d P T D N K a0 a1 a2 h:=by
 have eL2:(fun s:St=>iterK (fun s k=>Z4f P T D N s.1 s.2 k) N s (Z9O P T D N K))=(fun s:St=>Z18 P T D N (fun h=>Z7c P T D N K h) (fun h=>K (.tup []) h) N (s.1 0) (s.1 2) (s.1 6) (s.1 7) (s.1 8) s.2):=funext fun s=>Znx P T D N (Z9O P T D N K) (fun h=>Z7c P T D N K h) (fun h=>K (.tup []) h) (fun s=>rfl) (fun s=>rfl) N s
 show Zgw P T D N (fun s=>iterK (fun s k=>Z4f P T D N s.1 s.2 k) N s (Z9O P T D N K)) K a0 a1 a2 h=_
 rw [eL2]
 kernel_rfl
theorem Znz (T:Tab) (D:DTab) (N:Nat) {β:Type} (K:AV→Hp→Option β) (a0:AV) (a1:AV) (a2:AV) (h:Hp):runK Try.prog T D N [0,1,2,4,5,6,7,8,9,24] Try.f91 K [a0,a1,a2] h=Zgx Try.prog T D N K a0 a1 a2 h:=by kernel_rfl
theorem ZnA (T:Tab) (D:DTab) (N:Nat) {β:Type} (K:AV→Hp→Option β) (a0:AV) (a1:AV) (a2:AV) (h:Hp):runK Try.prog T D N [0,1,2,4,5,6,7,8,9,24] Try.f91 K [a0,a1,a2] h=Z7d Try.prog T D N K a0 a1 a2 h:=(Znz T D N K a0 a1 a2 h).trans (Zny Try.prog T D N K a0 a1 a2 h)
noncomputable def Zgy (P:Program) (T:Tab) (D:DTab) (N:Nat) {β:Type} (K:AV→Hp→Option β) (t:Tm) (h:Hp):Option β:=
K (t 5) h
noncomputable def Zgz (P:Program) (T:Tab) (D:DTab) (N:Nat) {β:Type} (k:Ex→St→Option β) (t:Tm) (h:Hp):Option β:=
k .normal (t,h)
noncomputable def Z4h (P:Program) (T:Tab) (D:DTab) (N:Nat) {β:Type} (t:Tm) (h:Hp) (k:Ex→St→Option β):Option β:=
arithK .lss (t 5) (t 6) fun x1=>
condK x1 (
arithK .add (t 5) (t 6) fun x2=>
convK P 3 132 x2 fun x3=>
reckK P .shr 132 x3 (.s (.int .u64 1)) fun x4=>
convK P 132 3 x4 fun x5=>
callVK T (t 1) [x5] h fun x6 h7=>
notK x6 fun x8=>
condK x8 (
arithK .add x5 (.s (.int .i64 1)) fun x9=>
(Zgz P T D N k (upd (upd (upd (upd t 11 x1) 7 x5) 21 x8) 5 x9) h7)) (
(Zgz P T D N k (upd (upd (upd (upd t 11 x1) 7 x5) 21 x8) 6 x5) h7))) (
k (.exit 0) ((upd t 11 x1),h))
noncomputable def Z9P (P:Program) (T:Tab) (D:DTab) (N:Nat) {β:Type} (K:AV→Hp→Option β) (e:Ex) (s:St):Option β:=
 e.on ((Zgy P T D N K s.1 s.2))
 (fun i=>bif i==0 then ((Zgy P T D N K s.1 s.2)) else (none))
 (K (s.1 4) s.2)
noncomputable def ZgA (P:Program) (T:Tab) (D:DTab) (N:Nat) {β:Type} (cL2:St→Option β) (K:AV→Hp→Option β) (a0:AV) (a1:AV) (h:Hp) :  Option β:=
cL2 ((upd (upd (upd (tm0 [a0,a1]) 4 (.s (.int .i64 0))) 5 (.s (.int .i64 0))) 6 a0),h)
noncomputable def ZgB (P:Program) (T:Tab) (D:DTab) (N:Nat) {β:Type} (K:AV→Hp→Option β) (a0:AV) (a1:AV) (h:Hp):Option β:=ZgA P T D N (fun s=>iterK (fun s k=>Z4h P T D N s.1 s.2 k) N s (Z9P P T D N K)) K a0 a1 h
noncomputable def Z9Q (P:Program) (T:Tab) (D:DTab) (N:Nat) {β:Type} (K:AV→Hp→Option β) (v5:AV) (h:Hp):Option β:=
K v5 h
noncomputable def ZcI (P:Program) (T:Tab) (D:DTab) (N:Nat) {β:Type} (xn:AV→AV→AV→Hp→Option β) (x0:AV→Hp→Option β) (v1:AV) (v5:AV) (v6:AV) (h:Hp):Option β:=
xn v1 v5 v6 h
noncomputable def Z7e (P:Program) (T:Tab) (D:DTab) (N:Nat) {β:Type} (xn:AV→AV→AV→Hp→Option β) (x0:AV→Hp→Option β) (v1:AV) (v5:AV) (v6:AV) (h:Hp):Option β:=
arithK .lss v5 v6 fun x1=>
condK x1 (
arithK .add v5 v6 fun x2=>
convK P 3 132 x2 fun x3=>
reckK P .shr 132 x3 (.s (.int .u64 1)) fun x4=>
convK P 132 3 x4 fun x5=>
callVK T v1 [x5] h fun x6 h7=>
notK x6 fun x8=>
condK x8 (
arithK .add x5 (.s (.int .i64 1)) fun x9=>
ZcI P T D N xn x0 v1 x9 v6 h7) (
ZcI P T D N xn x0 v1 v5 x5 h7)) (
x0 v5 h)
noncomputable def Z4i (P:Program) (T:Tab) (D:DTab) (N:Nat) {β:Type} (x0:AV→Hp→Option β):Nat→AV→AV→AV→Hp→Option β
 | 0=>fun _ _ _ _=>none
 | n+1=>fun v1 v5 v6 h=>Z7e P T D N (Z4i P T D N x0 n) x0 v1 v5 v6 h
noncomputable def Z7f (P:Program) (T:Tab) (D:DTab) (N:Nat) {β:Type} (K:AV→Hp→Option β) (a0:AV) (a1:AV) (h:Hp):Option β:=
Z4i P T D N (fun w10_5 h=>Z9Q P T D N K w10_5 h) N a1 (.s (.int .i64 0)) a0 h
theorem ZnB (P:Program) (T:Tab) (D:DTab) (N:Nat) {β:Type} (xn:AV→AV→AV→Hp→Option β) (x0:AV→Hp→Option β) (xd:Nat→St→Option β) (xq:St→Option β) (t:Tm) (h:Hp):Z4h P T D N t h (fun (e:Ex) (s:St)=>e.on (xn (s.1 1) (s.1 5) (s.1 6) s.2) (fun i=>(bif i==0 then x0 (s.1 5) s.2 else (xd i s))) (xq s))=Z7e P T D N xn x0 (t 1) (t 5) (t 6) h:=by kernel_rfl
theorem ZnC (P:Program) (T:Tab) (D:DTab) (N:Nat) {β:Type} (A:Ex→St→Option β) (x0:AV→Hp→Option β) (q0:∀s,A (.exit 0) s=x0 (s.1 5) s.2):∀(n:Nat) (s:St),iterK (fun s k=>Z4h P T D N s.1 s.2 k) n s A=Z4i P T D N x0 n (s.1 1) (s.1 5) (s.1 6) s.2:=by
 intro n
 induction n with
 | zero=>intro s;rfl
 | succ n ih=>
  intro s
  have hk:(fun (e:Ex) (s':St)=>Ex.on e (iterK (fun s k=>Z4h P T D N s.1 s.2 k) n s' A) (fun i=>A (.exit i) s') (A .ret s'))=(fun (e:Ex) (s:St)=>e.on ((Z4i P T D N x0 n) (s.1 1) (s.1 5) (s.1 6) s.2) (fun i=>(bif i==0 then x0 (s.1 5) s.2 else (A (.exit i) s))) (A .ret s)):=by
   funext e s'
   cases e with
   | normal=>exact ih s'
   | ret=>exact rfl
   | exit i=>
    by_cases r0:i=0
    ·subst r0;exact q0 s'
    simp only [Ex.on,beq_false_of_ne r0,cond_false]
  show Z4h P T D N s.1 s.2 (fun (e:Ex) (s':St)=>Ex.on e (iterK (fun s k=>Z4h P T D N s.1 s.2 k) n s' A) (fun i=>A (.exit i) s') (A .ret s'))=_
  rw [hk]
  exact ZnB P T D N (Z4i P T D N x0 n) x0 (fun i s=>A (.exit i) s) (fun s=>A .ret s) s.1 s.2
theorem ZnD (P:Program) (T:Tab) (D:DTab) (N:Nat) {β:Type} (K:AV→Hp→Option β) (a0:AV) (a1:AV) (h:Hp):ZgB P T D N K a0 a1 h=Z7f P T D N K a0 a1 h:=by
 have eL2:(fun s:St=>iterK (fun s k=>Z4h P T D N s.1 s.2 k) N s (Z9P P T D N K))=(fun s:St=>Z4i P T D N (fun w10_5 h=>Z9Q P T D N K w10_5 h) N (s.1 1) (s.1 5) (s.1 6) s.2):=funext fun s=>ZnC P T D N (Z9P P T D N K) (fun w10_5 h=>Z9Q P T D N K w10_5 h) (fun s=>rfl) N s
 show ZgA P T D N (fun s=>iterK (fun s k=>Z4h P T D N s.1 s.2 k) N s (Z9P P T D N K)) K a0 a1 h=_
 rw [eL2]
 kernel_rfl
theorem ZnE (T:Tab) (D:DTab) (N:Nat) {β:Type} (K:AV→Hp→Option β) (a0:AV) (a1:AV) (h:Hp):runK Try.prog T D N [0,1,4,5,6,7,11,21] Try.f92 K [a0,a1] h=ZgB Try.prog T D N K a0 a1 h:=by kernel_rfl
theorem ZnF (T:Tab) (D:DTab) (N:Nat) {β:Type} (K:AV→Hp→Option β) (a0:AV) (a1:AV) (h:Hp):runK Try.prog T D N [0,1,4,5,6,7,11,21] Try.f92 K [a0,a1] h=Z7f Try.prog T D N K a0 a1 h:=(ZnE T D N K a0 a1 h).trans (ZnD Try.prog T D N K a0 a1 h)
noncomputable def Z9R (P:Program) (T:Tab) (D:DTab) (N:Nat) {β:Type} (K:AV→Hp→Option β) (a0:AV) (a1:AV) (a2:AV) (h:Hp):Option β:=
faK 2 a1 fun x1=>
ldK 1 false x1 h fun x2=>
iaK 10 x2 a0 fun x3=>
faK 2 x3 fun x4=>
ldK 1 false x4 h fun x5=>
faK 1 a2 fun x6=>
ldK 1 false x6 h fun x7=>
arithK .geq x5 x7 fun x8=>
K x8 h
theorem ZnG (T:Tab) (D:DTab) (N:Nat) {β:Type} (K:AV→Hp→Option β) (a0:AV) (a1:AV) (a2:AV) (h:Hp):runK Try.prog T D N [0,1,2,4] Try.f93 K [a0,a1,a2] h=Z9R Try.prog T D N K a0 a1 a2 h:=by kernel_rfl
noncomputable def Z9S (P:Program) (T:Tab) (D:DTab) (N:Nat) {β:Type} (K:AV→Hp→Option β) (a0:AV) (a1:AV) (a2:AV) (h:Hp):Option β:=
lenK a0 fun x1=>
sliceK 10 a0 (some a1) (some a2) (some x1) fun x2=>
eqK P false 3 a1 a2 h fun x3=>
condK x3 (
K a0 h) (
lenK a0 fun x4=>
sliceK 10 a0 none (some a1) none fun x5=>
sliceK 10 a0 (some a2) none none fun x6=>
effK (appE 10 80 x5 x6 h (List.length h)) h fun x7 h8=>
lenK x7 fun x9=>
sliceK 10 x7 (some x9) (some x4) none fun x10=>
effK (clrE 10 [.s (.int .i64 0), .s (.int .i64 0), .s (.int .i64 0), .s (.int .i64 0), .s (.int .i64 0), .s (.int .i64 0), .s (.int .i64 0), .s (.int .i64 0), .s (.int .i64 0), .s (.int .i64 0)] x10 h8) h8 fun x11 h12=>
K x7 h12)
theorem ZnH (T:Tab) (D:DTab) (N:Nat) {β:Type} (K:AV→Hp→Option β) (a0:AV) (a1:AV) (a2:AV) (h:Hp):runK Try.prog T D N [0,1,2,6,7,16] Try.f94 K [a0,a1,a2] h=Z9S Try.prog T D N K a0 a1 a2 h:=by kernel_rfl
noncomputable def ZnI (P:Program) (T:Tab) (D:DTab) (N:Nat) {β:Type} (K:AV→Hp→Option β) (t:Tm) (h:Hp):Option β:=
ldK 7 true (t 6) h fun x20=>
effK (stE 7 (t 4) x20 h) h fun x21 h22=>
ldK 7 true (t 4) h22 fun r23=>
K r23 h22
noncomputable def ZcJ (P:Program) (T:Tab) (D:DTab) (N:Nat) {β:Type} (K:AV→Hp→Option β) (t:Tm) (h:Hp):Option β:=
(ZnI P T D N K t h)
noncomputable def ZgC (P:Program) (T:Tab) (D:DTab) (N:Nat) {β:Type} (K:AV→Hp→Option β) (t:Tm) (h:Hp):Option β:=
eqK P false 3 (t 8) (.s (.int .i64 0)) h fun x24=>
condK x24 (
(ZcJ P T D N K (upd t 89 x24) h)) (
condK (t 7) (
faK 1 (t 6) fun x25=>
effK (stE 1 x25 (.s (.int .i64 4)) h) h fun x26 h27=>
(ZcJ P T D N K (upd (upd t 89 x24) 92 (t 7)) h27)) (
faK 1 (t 6) fun x28=>
effK (stE 1 x28 (t 8) h) h fun x29 h30=>
(ZcJ P T D N K (upd (upd t 89 x24) 92 (t 7)) h30)))
noncomputable def Z4j (P:Program) (T:Tab) (D:DTab) (N:Nat) {β:Type} (t:Tm) (h:Hp) (k:Ex→St→Option β):Option β:=
nextK (t 78) h fun x31 h32=>
exK x31 0 fun x33=>
condK x33 (
entryK (t 78) h32 fun x34=>
exK x34 1 fun x35=>
arithK .gtr x35 (.s (.int .i64 1)) fun x36=>
condK x36 (
buildK [.s (.int .i64 0), .s (.int .i64 0), .s (.int .i64 0), .s (.int .i64 0), .s (.int .i64 0), .s (.int .i64 0), .s (.int .i64 0)] [(some (0,1),(t 1)),(some (1,1),(.s (.int .i64 5)))] fun x37=>
effK (stE 7 (t 4) x37 h32) h32 fun x38 h39=>
k .ret ((upd (upd (upd t 80 x33) 13 x35) 84 x36),h39)) (
k .normal ((upd (upd (upd t 80 x33) 13 x35) 84 x36),h32))) (
k (.exit 3) ((upd t 80 x33),h32))
noncomputable def Z9T (P:Program) (T:Tab) (D:DTab) (N:Nat) {β:Type} (K:AV→Hp→Option β) (e:Ex) (s:St):Option β:=
 e.on ((ZgC P T D N K s.1 s.2))
 (fun i=>bif i==3 then ((ZgC P T D N K s.1 s.2)) else (none))
 (ldK 7 true (s.1 4) s.2 fun r40=>
K r40 s.2)
noncomputable def ZgD (P:Program) (T:Tab) (D:DTab) (N:Nat) {β:Type} (cL5:St→Option β) (K:AV→Hp→Option β) (t:Tm) (h:Hp) :  Option β:=
faK 1 (t 6) fun x11=>
ldK 1 false x11 h fun x12=>
eqK P false 3 x12 (.s (.int .i64 0)) h fun x13=>
condK x13 (
buildK [.s (.int .i64 0), .s (.int .i64 0), .s (.int .i64 0), .s (.int .i64 0), .s (.int .i64 0), .s (.int .i64 0), .s (.int .i64 0)] [(some (0,1),(t 1))] fun x14=>
effK (stE 7 (t 4) x14 h) h fun x15 h16=>
ldK 7 true (t 4) h16 fun r17=>
K r17 h16) (
effK (rngE (t 5) h (List.length h)) h fun x18 h19=>
cL5 ((upd (upd t 74 x13) 78 x18),h19))
noncomputable def ZcK (P:Program) (T:Tab) (D:DTab) (N:Nat) {β:Type} (K:AV→Hp→Option β) (t:Tm) (h:Hp):Option β:=ZgD P T D N (fun s=>iterK (fun s k=>Z4j P T D N s.1 s.2 k) N s (Z9T P T D N K)) K t h
noncomputable def ZnJ (P:Program) (T:Tab) (D:DTab) (N:Nat) {β:Type} (k:Ex→St→Option β) (t:Tm) (h:Hp):Option β:=
arithK .add (t 19) (.s (.int .i64 1)) fun x42=>
k .normal ((upd t 19 x42),h)
noncomputable def ZcL (P:Program) (T:Tab) (D:DTab) (N:Nat) {β:Type} (k:Ex→St→Option β) (t:Tm) (h:Hp):Option β:=
(ZnJ P T D N k t h)
noncomputable def ZnK (P:Program) (T:Tab) (D:DTab) (N:Nat) {β:Type} (k:Ex→St→Option β) (t:Tm) (h:Hp):Option β:=
ldK 2 true (t 11) h fun x61=>
lookK P 140 (.s (.int .i64 0)) false (t 5) x61 h fun x62=>
arithK .add x62 (.s (.int .i64 1)) fun x63=>
effD (mentE P 140 (.s (.int .i64 0)) (t 5) x61 h) h fun x64 h65 e66=>
exK x64 1 fun x67=>
effD (estE (t 5) x67 x63 h65) h65 fun x68 h69 e70=>
bif disjAll [] [([],[]),((idsOf (t 11)),[]),((idsOf (t 5)),[]),([],[]),e66,([],[]),e70] then (
(ZcL P T D N k t h69)) else none
noncomputable def Z7g (P:Program) (T:Tab) (D:DTab) (N:Nat) {β:Type} (k:Ex→St→Option β) (t:Tm) (h:Hp):Option β:=
(ZnK P T D N k t h)
noncomputable def Z4k (P:Program) (T:Tab) (D:DTab) (N:Nat) {β:Type} (t:Tm) (h:Hp) (k:Ex→St→Option β):Option β:=
arithK .lss (t 19) (t 18) fun x41=>
condK x41 (
iaK 7 (t 17) (t 19) fun x43=>
ldK 7 true x43 h fun x44=>
effK (boxE 7 (.agg [.s (.int .i64 0), .s (.int .i64 0), .s (.int .i64 0), .s (.int .i64 0), .s (.int .i64 0), .s (.int .i64 0), .s (.int .i64 0)]) (List.length h)) h fun x45 h46=>
effK (stE 7 x45 x44 h46) h46 fun x47 h48=>
faK 0 x45 fun x49=>
ldK 1 false x49 h48 fun x50=>
eqK P true 3 x50 (t 1) h48 fun x51=>
condK x51 (
(ZcL P T D N k (upd (upd (upd t 20 x41) 10 x45) 26 x51) h48)) (
faK 1 x45 fun x52=>
ldK 1 false x52 h48 fun x53=>
faK 2 x45 fun x54=>
ldK 1 false x54 h48 fun x55=>
buildK [.s (.int .i64 0), .s (.int .i64 0)] [(some (0,1),x53),(some (1,1),x55)] fun x56=>
effK (boxE 2 (.agg [.s (.int .i64 0), .s (.int .i64 0)]) (List.length h48)) h48 fun x57 h58=>
effK (stE 2 x57 x56 h58) h58 fun x59 h60=>
faK 1 x45 fun x71=>
ldK 1 false x71 h60 fun x72=>
eqK P false 3 x72 (.s (.int .i64 1)) h60 fun x73=>
condK x73 (
faK 4 x45 fun x74=>
ldK 1 false x74 h60 fun x75=>
faK 5 x45 fun x76=>
ldK 1 false x76 h60 fun x77=>
faK 6 x45 fun x78=>
ldK 1 false x78 h60 fun x79=>
faK 1 (t 6) fun x80=>
effD (stE 1 x80 (.s (.int .i64 1)) h60) h60 fun x81 h82 e83=>
faK 2 (t 6) fun x84=>
effD (stE 1 x84 x75 h82) h82 fun x85 h86 e87=>
faK 3 (t 6) fun x88=>
effD (stE 1 x88 x77 h86) h86 fun x89 h90 e91=>
faK 4 (t 6) fun x92=>
effD (stE 1 x92 x79 h90) h90 fun x93 h94 e95=>
bif disjAll [(1,7),(3,7),(5,7),(3,9),(5,9),(5,11)] [([],[]),((idsOf x74),[]),([],[]),((idsOf x76),[]),([],[]),((idsOf x78),[]),([],[]),e83,([],[]),e87,([],[]),e91,([],[]),e95] then (
(Z7g P T D N k (upd (upd (upd (upd (upd (upd t 20 x41) 10 x45) 26 x51) 11 x57) 33 x72) 34 x73) h94)) else none) (
eqK P false 3 x72 (.s (.int .i64 2)) h60 fun x96=>
condK x96 (
faK 5 x45 fun x97=>
ldK 1 false x97 h60 fun x98=>
faK 3 (t 6) fun x99=>
effK (stE 1 x99 x98 h60) h60 fun x100 h101=>
faK 6 (t 6) fun x102=>
ldK 1 false x102 h101 fun x103=>
arithK .add x103 (.s (.int .i64 1)) fun x104=>
faK 6 (t 6) fun x105=>
effK (stE 1 x105 x104 h101) h101 fun x106 h107=>
(Z7g P T D N k (upd (upd (upd (upd (upd (upd (upd t 20 x41) 10 x45) 26 x51) 11 x57) 33 x72) 34 x73) 46 x96) h107)) (
eqK P false 3 x72 (.s (.int .i64 3)) h60 fun x108=>
condK x108 (
faK 6 x45 fun x109=>
ldK 1 false x109 h60 fun x110=>
faK 5 (t 6) fun x111=>
effK (stE 1 x111 x110 h60) h60 fun x112 h113=>
(Z7g P T D N k (upd (upd (upd (upd (upd (upd (upd (upd (upd t 20 x41) 10 x45) 26 x51) 11 x57) 33 x72) 34 x73) 46 x96) 55 x108) 8 (.s (.int .i64 2))) h113)) (
eqK P false 3 x72 (.s (.int .i64 4)) h60 fun x114=>
condK x114 (
faK 0 x57 fun x115=>
effK (stE 1 x115 (.s (.int .i64 3)) h60) h60 fun x116 h117=>
(Z7g P T D N k (upd (upd (upd (upd (upd (upd (upd (upd (upd (upd t 20 x41) 10 x45) 26 x51) 11 x57) 33 x72) 34 x73) 46 x96) 55 x108) 60 x114) 8 (.s (.int .i64 3))) h117)) (
eqK P false 3 x72 (.s (.int .i64 5)) h60 fun x118=>
condK x118 (
(ZcL P T D N k (upd (upd (upd (upd (upd (upd (upd (upd (upd (upd (upd t 20 x41) 10 x45) 26 x51) 11 x57) 33 x72) 34 x73) 46 x96) 55 x108) 60 x114) 63 x118) 7 (.s (.bool true))) h60)) (
(Z7g P T D N k (upd (upd (upd (upd (upd (upd (upd (upd (upd (upd t 20 x41) 10 x45) 26 x51) 11 x57) 33 x72) 34 x73) 46 x96) 55 x108) 60 x114) 63 x118) h60)))))))) (
k (.exit 0) ((upd t 20 x41),h))
noncomputable def Z9U (P:Program) (T:Tab) (D:DTab) (N:Nat) {β:Type} (K:AV→Hp→Option β) (e:Ex) (s:St):Option β:=
 e.on ((ZcK P T D N K s.1 s.2))
 (fun i=>bif i==0 then ((ZcK P T D N K s.1 s.2)) else (none))
 (ldK 7 true (s.1 4) s.2 fun r119=>
K r119 s.2)
noncomputable def ZgE (P:Program) (T:Tab) (D:DTab) (N:Nat) {β:Type} (cL6:St→Option β) (K:AV→Hp→Option β) (a0:AV) (a1:AV) (h:Hp) :  Option β:=
effK (boxE 7 (.agg [.s (.int .i64 0), .s (.int .i64 0), .s (.int .i64 0), .s (.int .i64 0), .s (.int .i64 0), .s (.int .i64 0), .s (.int .i64 0)]) (List.length h)) h fun x1 h2=>
effK (some (.mp (List.length h2),EN (.map []))) h2 fun x3 h4=>
buildK [.s (.int .i64 0), .s (.int .i64 0), .s (.int .i64 0), .s (.int .i64 0), .s (.int .i64 0), .s (.int .i64 0), .s (.int .i64 0)] [(some (0,1),a1)] fun x5=>
effK (boxE 7 (.agg [.s (.int .i64 0), .s (.int .i64 0), .s (.int .i64 0), .s (.int .i64 0), .s (.int .i64 0), .s (.int .i64 0), .s (.int .i64 0)]) (List.length h4)) h4 fun x6 h7=>
effK (stE 7 x6 x5 h7) h7 fun x8 h9=>
lenK a0 fun x10=>
cL6 ((upd (upd (upd (upd (upd (upd (upd (upd (tm0 [a0,a1]) 4 x1) 5 x3) 6 x6) 7 (.s (.bool false))) 8 (.s (.int .i64 0))) 17 a0) 18 x10) 19 (.s (.int .i64 0))),h9)
noncomputable def ZgF (P:Program) (T:Tab) (D:DTab) (N:Nat) {β:Type} (K:AV→Hp→Option β) (a0:AV) (a1:AV) (h:Hp):Option β:=ZgE P T D N (fun s=>iterK (fun s k=>Z4k P T D N s.1 s.2 k) N s (Z9U P T D N K)) K a0 a1 h
noncomputable def ZgG (P:Program) (T:Tab) (D:DTab) (N:Nat) {β:Type} (K:AV→Hp→Option β) (v4:AV) (v6:AV) (h:Hp):Option β:=
ldK 7 true v6 h fun x20=>
effK (stE 7 v4 x20 h) h fun x21 h22=>
ldK 7 true v4 h22 fun r23=>
K r23 h22
noncomputable def Z9V (P:Program) (T:Tab) (D:DTab) (N:Nat) {β:Type} (K:AV→Hp→Option β) (v4:AV) (v6:AV) (h:Hp):Option β:=
ZgG P T D N K v4 v6 h
noncomputable def Z9W (P:Program) (T:Tab) (D:DTab) (N:Nat) {β:Type} (K:AV→Hp→Option β) (v4:AV) (v6:AV) (v7:AV) (v8:AV) (h:Hp):Option β:=
eqK P false 3 v8 (.s (.int .i64 0)) h fun x24=>
condK x24 (
Z9V P T D N K v4 v6 h) (
condK v7 (
faK 1 v6 fun x25=>
effK (stE 1 x25 (.s (.int .i64 4)) h) h fun x26 h27=>
Z9V P T D N K v4 v6 h27) (
faK 1 v6 fun x28=>
effK (stE 1 x28 v8 h) h fun x29 h30=>
Z9V P T D N K v4 v6 h30))
noncomputable def ZcM (P:Program) (T:Tab) (D:DTab) (N:Nat) {β:Type} (xn:AV→AV→AV→AV→AV→AV→Hp→Option β) (x3:AV→AV→AV→AV→Hp→Option β) (xr:AV→Hp→Option β) (v1:AV) (v4:AV) (v6:AV) (v7:AV) (v8:AV) (v78:AV) (h:Hp):Option β:=
nextK v78 h fun x31 h32=>
exK x31 0 fun x33=>
condK x33 (
entryK v78 h32 fun x34=>
exK x34 1 fun x35=>
arithK .gtr x35 (.s (.int .i64 1)) fun x36=>
condK x36 (
buildK [.s (.int .i64 0), .s (.int .i64 0), .s (.int .i64 0), .s (.int .i64 0), .s (.int .i64 0), .s (.int .i64 0), .s (.int .i64 0)] [(some (0,1),v1),(some (1,1),(.s (.int .i64 5)))] fun x37=>
effK (stE 7 v4 x37 h32) h32 fun x38 h39=>
xr v4 h39) (
xn v1 v4 v6 v7 v8 v78 h32)) (
x3 v4 v6 v7 v8 h32)
noncomputable def Z4l (P:Program) (T:Tab) (D:DTab) (N:Nat) {β:Type} (x3:AV→AV→AV→AV→Hp→Option β) (xr:AV→Hp→Option β):Nat→AV→AV→AV→AV→AV→AV→Hp→Option β
 | 0=>fun _ _ _ _ _ _ _=>none
 | n+1=>fun v1 v4 v6 v7 v8 v78 h=>ZcM P T D N (Z4l P T D N x3 xr n) x3 xr v1 v4 v6 v7 v8 v78 h
noncomputable def Z5v (P:Program) (T:Tab) (D:DTab) (N:Nat) {β:Type} (K:AV→Hp→Option β) (v1:AV) (v4:AV) (v5:AV) (v6:AV) (v7:AV) (v8:AV) (h:Hp):Option β:=
faK 1 v6 fun x11=>
ldK 1 false x11 h fun x12=>
eqK P false 3 x12 (.s (.int .i64 0)) h fun x13=>
condK x13 (
buildK [.s (.int .i64 0), .s (.int .i64 0), .s (.int .i64 0), .s (.int .i64 0), .s (.int .i64 0), .s (.int .i64 0), .s (.int .i64 0)] [(some (0,1),v1)] fun x14=>
effK (stE 7 v4 x14 h) h fun x15 h16=>
ldK 7 true v4 h16 fun r17=>
K r17 h16) (
effK (rngE v5 h (List.length h)) h fun x18 h19=>
Z4l P T D N (fun w40_4 w40_6 w40_7 w40_8 h=>Z9W P T D N K w40_4 w40_6 w40_7 w40_8 h) (fun w41_4 h=>ldK 7 true w41_4 h fun r42=>
K r42 h) N v1 v4 v6 v7 v8 x18 h19)
noncomputable def Z4m (P:Program) (T:Tab) (D:DTab) (N:Nat) {β:Type} (xn:AV→AV→AV→AV→AV→AV→AV→AV→AV→Hp→Option β) (x0:AV→AV→AV→AV→AV→AV→Hp→Option β) (v1:AV) (v4:AV) (v5:AV) (v6:AV) (v7:AV) (v8:AV) (v17:AV) (v18:AV) (v19:AV) (h:Hp):Option β:=
arithK .add v19 (.s (.int .i64 1)) fun x44=>
xn v1 v4 v5 v6 v7 v8 v17 v18 x44 h
noncomputable def Z1W (P:Program) (T:Tab) (D:DTab) (N:Nat) {β:Type} (xn:AV→AV→AV→AV→AV→AV→AV→AV→AV→Hp→Option β) (x0:AV→AV→AV→AV→AV→AV→Hp→Option β) (v1:AV) (v4:AV) (v5:AV) (v6:AV) (v7:AV) (v8:AV) (v17:AV) (v18:AV) (v19:AV) (h:Hp):Option β:=
Z4m P T D N xn x0 v1 v4 v5 v6 v7 v8 v17 v18 v19 h
noncomputable def ZgH (P:Program) (T:Tab) (D:DTab) (N:Nat) {β:Type} (xn:AV→AV→AV→AV→AV→AV→AV→AV→AV→Hp→Option β) (x0:AV→AV→AV→AV→AV→AV→Hp→Option β) (v1:AV) (v4:AV) (v5:AV) (v6:AV) (v7:AV) (v8:AV) (v11:AV) (v17:AV) (v18:AV) (v19:AV) (h:Hp):Option β:=
ldK 2 true v11 h fun x63=>
lookK P 140 (.s (.int .i64 0)) false v5 x63 h fun x64=>
arithK .add x64 (.s (.int .i64 1)) fun x65=>
effD (mentE P 140 (.s (.int .i64 0)) v5 x63 h) h fun x66 h67 e68=>
exK x66 1 fun x69=>
effD (estE v5 x69 x65 h67) h67 fun x70 h71 e72=>
bif disjAll [] [([],[]),((idsOf v11),[]),((idsOf v5),[]),([],[]),e68,([],[]),e72] then (
Z1W P T D N xn x0 v1 v4 v5 v6 v7 v8 v17 v18 v19 h71) else none
noncomputable def Z4B (P:Program) (T:Tab) (D:DTab) (N:Nat) {β:Type} (xn:AV→AV→AV→AV→AV→AV→AV→AV→AV→Hp→Option β) (x0:AV→AV→AV→AV→AV→AV→Hp→Option β) (v1:AV) (v4:AV) (v5:AV) (v6:AV) (v7:AV) (v8:AV) (v11:AV) (v17:AV) (v18:AV) (v19:AV) (h:Hp):Option β:=
ZgH P T D N xn x0 v1 v4 v5 v6 v7 v8 v11 v17 v18 v19 h
noncomputable def Z4C (P:Program) (T:Tab) (D:DTab) (N:Nat) {β:Type} (xn:AV→AV→AV→AV→AV→AV→AV→AV→AV→Hp→Option β) (x0:AV→AV→AV→AV→AV→AV→Hp→Option β) (v1:AV) (v4:AV) (v5:AV) (v6:AV) (v7:AV) (v8:AV) (v17:AV) (v18:AV) (v19:AV) (h:Hp):Option β:=
arithK .lss v19 v18 fun x43=>
condK x43 (
iaK 7 v17 v19 fun x45=>
ldK 7 true x45 h fun x46=>
effK (boxE 7 (.agg [.s (.int .i64 0), .s (.int .i64 0), .s (.int .i64 0), .s (.int .i64 0), .s (.int .i64 0), .s (.int .i64 0), .s (.int .i64 0)]) (List.length h)) h fun x47 h48=>
effK (stE 7 x47 x46 h48) h48 fun x49 h50=>
faK 0 x47 fun x51=>
ldK 1 false x51 h50 fun x52=>
eqK P true 3 x52 v1 h50 fun x53=>
condK x53 (
Z1W P T D N xn x0 v1 v4 v5 v6 v7 v8 v17 v18 v19 h50) (
faK 1 x47 fun x54=>
ldK 1 false x54 h50 fun x55=>
faK 2 x47 fun x56=>
ldK 1 false x56 h50 fun x57=>
buildK [.s (.int .i64 0), .s (.int .i64 0)] [(some (0,1),x55),(some (1,1),x57)] fun x58=>
effK (boxE 2 (.agg [.s (.int .i64 0), .s (.int .i64 0)]) (List.length h50)) h50 fun x59 h60=>
effK (stE 2 x59 x58 h60) h60 fun x61 h62=>
faK 1 x47 fun x73=>
ldK 1 false x73 h62 fun x74=>
eqK P false 3 x74 (.s (.int .i64 1)) h62 fun x75=>
condK x75 (
faK 4 x47 fun x76=>
ldK 1 false x76 h62 fun x77=>
faK 5 x47 fun x78=>
ldK 1 false x78 h62 fun x79=>
faK 6 x47 fun x80=>
ldK 1 false x80 h62 fun x81=>
faK 1 v6 fun x82=>
effD (stE 1 x82 (.s (.int .i64 1)) h62) h62 fun x83 h84 e85=>
faK 2 v6 fun x86=>
effD (stE 1 x86 x77 h84) h84 fun x87 h88 e89=>
faK 3 v6 fun x90=>
effD (stE 1 x90 x79 h88) h88 fun x91 h92 e93=>
faK 4 v6 fun x94=>
effD (stE 1 x94 x81 h92) h92 fun x95 h96 e97=>
bif disjAll [(1,7),(3,7),(5,7),(3,9),(5,9),(5,11)] [([],[]),((idsOf x76),[]),([],[]),((idsOf x78),[]),([],[]),((idsOf x80),[]),([],[]),e85,([],[]),e89,([],[]),e93,([],[]),e97] then (
Z4B P T D N xn x0 v1 v4 v5 v6 v7 v8 x59 v17 v18 v19 h96) else none) (
eqK P false 3 x74 (.s (.int .i64 2)) h62 fun x98=>
condK x98 (
faK 5 x47 fun x99=>
ldK 1 false x99 h62 fun x100=>
faK 3 v6 fun x101=>
effK (stE 1 x101 x100 h62) h62 fun x102 h103=>
faK 6 v6 fun x104=>
ldK 1 false x104 h103 fun x105=>
arithK .add x105 (.s (.int .i64 1)) fun x106=>
faK 6 v6 fun x107=>
effK (stE 1 x107 x106 h103) h103 fun x108 h109=>
Z4B P T D N xn x0 v1 v4 v5 v6 v7 v8 x59 v17 v18 v19 h109) (
eqK P false 3 x74 (.s (.int .i64 3)) h62 fun x110=>
condK x110 (
faK 6 x47 fun x111=>
ldK 1 false x111 h62 fun x112=>
faK 5 v6 fun x113=>
effK (stE 1 x113 x112 h62) h62 fun x114 h115=>
Z4B P T D N xn x0 v1 v4 v5 v6 v7 (.s (.int .i64 2)) x59 v17 v18 v19 h115) (
eqK P false 3 x74 (.s (.int .i64 4)) h62 fun x116=>
condK x116 (
faK 0 x59 fun x117=>
effK (stE 1 x117 (.s (.int .i64 3)) h62) h62 fun x118 h119=>
Z4B P T D N xn x0 v1 v4 v5 v6 v7 (.s (.int .i64 3)) x59 v17 v18 v19 h119) (
eqK P false 3 x74 (.s (.int .i64 5)) h62 fun x120=>
condK x120 (
Z1W P T D N xn x0 v1 v4 v5 v6 (.s (.bool true)) v8 v17 v18 v19 h62) (
Z4B P T D N xn x0 v1 v4 v5 v6 v7 v8 x59 v17 v18 v19 h62))))))) (
x0 v1 v4 v5 v6 v7 v8 h)
noncomputable def Z3k (P:Program) (T:Tab) (D:DTab) (N:Nat) {β:Type} (x0:AV→AV→AV→AV→AV→AV→Hp→Option β):Nat→AV→AV→AV→AV→AV→AV→AV→AV→AV→Hp→Option β
 | 0=>fun _ _ _ _ _ _ _ _ _ _=>none
 | n+1=>fun v1 v4 v5 v6 v7 v8 v17 v18 v19 h=>Z4C P T D N (Z3k P T D N x0 n) x0 v1 v4 v5 v6 v7 v8 v17 v18 v19 h
noncomputable def Z9X (P:Program) (T:Tab) (D:DTab) (N:Nat) {β:Type} (K:AV→Hp→Option β) (a0:AV) (a1:AV) (h:Hp):Option β:=
effK (boxE 7 (.agg [.s (.int .i64 0), .s (.int .i64 0), .s (.int .i64 0), .s (.int .i64 0), .s (.int .i64 0), .s (.int .i64 0), .s (.int .i64 0)]) (List.length h)) h fun x1 h2=>
effK (some (.mp (List.length h2),EN (.map []))) h2 fun x3 h4=>
buildK [.s (.int .i64 0), .s (.int .i64 0), .s (.int .i64 0), .s (.int .i64 0), .s (.int .i64 0), .s (.int .i64 0), .s (.int .i64 0)] [(some (0,1),a1)] fun x5=>
effK (boxE 7 (.agg [.s (.int .i64 0), .s (.int .i64 0), .s (.int .i64 0), .s (.int .i64 0), .s (.int .i64 0), .s (.int .i64 0), .s (.int .i64 0)]) (List.length h4)) h4 fun x6 h7=>
effK (stE 7 x6 x5 h7) h7 fun x8 h9=>
lenK a0 fun x10=>
Z3k P T D N (fun w121_1 w121_4 w121_5 w121_6 w121_7 w121_8 h=>Z5v P T D N K w121_1 w121_4 w121_5 w121_6 w121_7 w121_8 h) N a1 x1 x3 x6 (.s (.bool false)) (.s (.int .i64 0)) a0 x10 (.s (.int .i64 0)) h9
theorem ZnL (P:Program) (T:Tab) (D:DTab) (N:Nat) {β:Type} (xn:AV→AV→AV→AV→AV→AV→Hp→Option β) (x3:AV→AV→AV→AV→Hp→Option β) (xr:AV→Hp→Option β) (xd:Nat→St→Option β) (xq:St→Option β) (t:Tm) (h:Hp):Z4j P T D N t h (fun (e:Ex) (s:St)=>e.on (xn (s.1 1) (s.1 4) (s.1 6) (s.1 7) (s.1 8) (s.1 78) s.2) (fun i=>(bif i==3 then x3 (s.1 4) (s.1 6) (s.1 7) (s.1 8) s.2 else (xd i s))) (xr (s.1 4) s.2))=ZcM P T D N xn x3 xr (t 1) (t 4) (t 6) (t 7) (t 8) (t 78) h:=by kernel_rfl
theorem ZnM (P:Program) (T:Tab) (D:DTab) (N:Nat) {β:Type} (A:Ex→St→Option β) (x3:AV→AV→AV→AV→Hp→Option β) (xr:AV→Hp→Option β) (q3:∀s,A (.exit 3) s=x3 (s.1 4) (s.1 6) (s.1 7) (s.1 8) s.2) (qr:∀s,A .ret s=xr (s.1 4) s.2):∀(n:Nat) (s:St),iterK (fun s k=>Z4j P T D N s.1 s.2 k) n s A=Z4l P T D N x3 xr n (s.1 1) (s.1 4) (s.1 6) (s.1 7) (s.1 8) (s.1 78) s.2:=by
 intro n
 induction n with
 | zero=>intro s;rfl
 | succ n ih=>
  intro s
  have hk:(fun (e:Ex) (s':St)=>Ex.on e (iterK (fun s k=>Z4j P T D N s.1 s.2 k) n s' A) (fun i=>A (.exit i) s') (A .ret s'))=(fun (e:Ex) (s:St)=>e.on ((Z4l P T D N x3 xr n) (s.1 1) (s.1 4) (s.1 6) (s.1 7) (s.1 8) (s.1 78) s.2) (fun i=>(bif i==3 then x3 (s.1 4) (s.1 6) (s.1 7) (s.1 8) s.2 else (A (.exit i) s))) (xr (s.1 4) s.2)):=by
   funext e s'
   cases e with
   | normal=>exact ih s'
   | ret=>exact qr s'
   | exit i=>
    by_cases r3:i=3
    ·subst r3;exact q3 s'
    simp only [Ex.on,beq_false_of_ne r3,cond_false]
  show Z4j P T D N s.1 s.2 (fun (e:Ex) (s':St)=>Ex.on e (iterK (fun s k=>Z4j P T D N s.1 s.2 k) n s' A) (fun i=>A (.exit i) s') (A .ret s'))=_
  rw [hk]
  exact ZnL P T D N (Z4l P T D N x3 xr n) x3 xr (fun i s=>A (.exit i) s) (fun s=>A .ret s) s.1 s.2
theorem ZnN (P:Program) (T:Tab) (D:DTab) (N:Nat) {β:Type} (K:AV→Hp→Option β) (t:Tm) (h:Hp):ZcK P T D N K t h=Z5v P T D N K (t 1) (t 4) (t 5) (t 6) (t 7) (t 8) h:=by
 have eL5:(fun s:St=>iterK (fun s k=>Z4j P T D N s.1 s.2 k) N s (Z9T P T D N K))=(fun s:St=>Z4l P T D N (fun w40_4 w40_6 w40_7 w40_8 h=>Z9W P T D N K w40_4 w40_6 w40_7 w40_8 h) (fun w41_4 h=>ldK 7 true w41_4 h fun r42=>
K r42 h) N (s.1 1) (s.1 4) (s.1 6) (s.1 7) (s.1 8) (s.1 78) s.2):=funext fun s=>ZnM P T D N (Z9T P T D N K) (fun w40_4 w40_6 w40_7 w40_8 h=>Z9W P T D N K w40_4 w40_6 w40_7 w40_8 h) (fun w41_4 h=>ldK 7 true w41_4 h fun r42=>
K r42 h) (fun s=>rfl) (fun s=>rfl) N s
 show ZgD P T D N (fun s=>iterK (fun s k=>Z4j P T D N s.1 s.2 k) N s (Z9T P T D N K)) K t h=_
 rw [eL5]
 kernel_rfl
theorem ZnO (P:Program) (T:Tab) (D:DTab) (N:Nat) {β:Type} (xn:AV→AV→AV→AV→AV→AV→AV→AV→AV→Hp→Option β) (x0:AV→AV→AV→AV→AV→AV→Hp→Option β) (xd:Nat→St→Option β) (xq:St→Option β) (t:Tm) (h:Hp):Z4k P T D N t h (fun (e:Ex) (s:St)=>e.on (xn (s.1 1) (s.1 4) (s.1 5) (s.1 6) (s.1 7) (s.1 8) (s.1 17) (s.1 18) (s.1 19) s.2) (fun i=>(bif i==0 then x0 (s.1 1) (s.1 4) (s.1 5) (s.1 6) (s.1 7) (s.1 8) s.2 else (xd i s))) (xq s))=Z4C P T D N xn x0 (t 1) (t 4) (t 5) (t 6) (t 7) (t 8) (t 17) (t 18) (t 19) h:=by kernel_rfl
theorem ZnP (P:Program) (T:Tab) (D:DTab) (N:Nat) {β:Type} (A:Ex→St→Option β) (x0:AV→AV→AV→AV→AV→AV→Hp→Option β) (q0:∀s,A (.exit 0) s=x0 (s.1 1) (s.1 4) (s.1 5) (s.1 6) (s.1 7) (s.1 8) s.2):∀(n:Nat) (s:St),iterK (fun s k=>Z4k P T D N s.1 s.2 k) n s A=Z3k P T D N x0 n (s.1 1) (s.1 4) (s.1 5) (s.1 6) (s.1 7) (s.1 8) (s.1 17) (s.1 18) (s.1 19) s.2:=by
 intro n
 induction n with
 | zero=>intro s;rfl
 | succ n ih=>
  intro s
  have hk:(fun (e:Ex) (s':St)=>Ex.on e (iterK (fun s k=>Z4k P T D N s.1 s.2 k) n s' A) (fun i=>A (.exit i) s') (A .ret s'))=(fun (e:Ex) (s:St)=>e.on ((Z3k P T D N x0 n) (s.1 1) (s.1 4) (s.1 5) (s.1 6) (s.1 7) (s.1 8) (s.1 17) (s.1 18) (s.1 19) s.2) (fun i=>(bif i==0 then x0 (s.1 1) (s.1 4) (s.1 5) (s.1 6) (s.1 7) (s.1 8) s.2 else (A (.exit i) s))) (A .ret s)):=by
   funext e s'
   cases e with
   | normal=>exact ih s'
   | ret=>exact rfl
   | exit i=>
    by_cases r0:i=0
    ·subst r0;exact q0 s'
    simp only [Ex.on,beq_false_of_ne r0,cond_false]
  show Z4k P T D N s.1 s.2 (fun (e:Ex) (s':St)=>Ex.on e (iterK (fun s k=>Z4k P T D N s.1 s.2 k) n s' A) (fun i=>A (.exit i) s') (A .ret s'))=_
  rw [hk]
  exact ZnO P T D N (Z3k P T D N x0 n) x0 (fun i s=>A (.exit i) s) (fun s=>A .ret s) s.1 s.2
theorem ZnQ (P:Program) (T:Tab) (D:DTab) (N:Nat) {β:Type} (K:AV→Hp→Option β) (a0:AV) (a1:AV) (h:Hp):ZgF P T D N K a0 a1 h=Z9X P T D N K a0 a1 h:=by
 have eL6:(fun s:St=>iterK (fun s k=>Z4k P T D N s.1 s.2 k) N s (Z9U P T D N K))=(fun s:St=>Z3k P T D N (fun w121_1 w121_4 w121_5 w121_6 w121_7 w121_8 h=>Z5v P T D N K w121_1 w121_4 w121_5 w121_6 w121_7 w121_8 h) N (s.1 1) (s.1 4) (s.1 5) (s.1 6) (s.1 7) (s.1 8) (s.1 17) (s.1 18) (s.1 19) s.2):=funext fun s=>ZnP P T D N (Z9U P T D N K) (fun w121_1 w121_4 w121_5 w121_6 w121_7 w121_8 h=>Z5v P T D N K w121_1 w121_4 w121_5 w121_6 w121_7 w121_8 h) (fun s=>ZnN P T D N K s.1 s.2) N s
 show ZgE P T D N (fun s=>iterK (fun s k=>Z4k P T D N s.1 s.2 k) N s (Z9U P T D N K)) K a0 a1 h=_
 rw [eL6]
 kernel_rfl
theorem ZnR (T:Tab) (D:DTab) (N:Nat) {β:Type} (K:AV→Hp→Option β) (a0:AV) (a1:AV) (h:Hp):runK Try.prog T D N [0,1,4,5,6,7,8,10,11,13,17,18,19,20,26,33,34,46,55,60,63,74,78,80,84,89,92] Try.f95 K [a0,a1] h=ZgF Try.prog T D N K a0 a1 h:=by kernel_rfl
theorem ZnS (T:Tab) (D:DTab) (N:Nat) {β:Type} (K:AV→Hp→Option β) (a0:AV) (a1:AV) (h:Hp):runK Try.prog T D N [0,1,4,5,6,7,8,10,11,13,17,18,19,20,26,33,34,46,55,60,63,74,78,80,84,89,92] Try.f95 K [a0,a1] h=Z9X Try.prog T D N K a0 a1 h:=(ZnR T D N K a0 a1 h).trans (ZnQ Try.prog T D N K a0 a1 h)
noncomputable def Z9Y (P:Program) (T:Tab) (D:DTab) (N:Nat) {β:Type} (K:AV→Hp→Option β) (a0:AV) (h:Hp):Option β:=
arithK .geq a0 (.s (.int .i64 1)) fun x1=>
grpK true x1 h (fun k2=>
arithK .leq a0 (.s (.int .i64 99)) fun x3=>
k2 x3 h) fun x4 h5=>
K x4 h5
theorem ZnT (T:Tab) (D:DTab) (N:Nat) {β:Type} (K:AV→Hp→Option β) (a0:AV) (h:Hp):runK Try.prog T D N [0,2] Try.f96 K [a0] h=Z9Y Try.prog T D N K a0 h:=by kernel_rfl
noncomputable def Z9Z (P:Program) (T:Tab) (D:DTab) (N:Nat) {β:Type} (K:AV→Hp→Option β) (a0:AV) (h:Hp):Option β:=
eqK P true 3 a0 a0 h fun x1=>
K x1 h
theorem ZnU (T:Tab) (D:DTab) (N:Nat) {β:Type} (K:AV→Hp→Option β) (a0:AV) (h:Hp):runK Try.prog T D N [0,2] Try.f99 K [a0] h=Z9Z Try.prog T D N K a0 h:=by kernel_rfl
end Go.AM



namespace Go.AM
open Go.RowKit
set_option linter.unusedVariables false
set_option linter.unusedSimpArgs false
set_option linter.constructorNameAsVariable false
variable {P:Program} {μ μ':Mu} {h h' h1:Hp} {w w':World}
def Near (h h1:Hp):Prop:=h1.length=h.length∧∀(id:Nat) (o:AObj),h[id]? = some o→h1[id]? = some o∨∃sz es es' own nil,o = .arr sz es own nil∧h1[id]? = some (.arr sz es' own nil)∧es'.length=es.length∧∀e ∈ es',∀c ∈ e,plain c=true
theorem Near.back (n:Near h h1) {id:Nat} {o:AObj} (ho:h1[id]? = some o):h[id]? = some o∨∃sz es es' own nil,o = .arr sz es' own nil∧h[id]? = some (.arr sz es own nil)∧es'.length=es.length∧∀e ∈ es',∀c ∈ e,plain c=true:=by
 have hl:id<h.length:=by rw [← n.1];exact (List.getElem?_eq_some_iff.1 ho).1
 have hh:h[id]? = some h[id]:=List.getElem?_eq_getElem hl
 rcases n.2 id _ hh with h2 | ⟨sz,es,es',own,nil,h2,h3,h4,h5⟩
 ·left
  rw [h2] at ho
  rw [hh];exact ho
 ·right
  rw [h3] at ho
  injection ho with ho
  exact ⟨sz,es,es',own,nil,ho.symm,by rw [hh,h2],h4,h5⟩
theorem Step.forget2 {g:List AObj} (R:Rel μ h w) (n:Near h h1) (S:Step μ h w μ' (h1++g) w'):Step μ h w (μ.mix μ') h1 w'∧Ext (μ.mix μ') h1 μ' (h1++g):=by
 have hin:∀i o,h1[i]? = some o→(h1++g)[i]? = some o:=fun i o hi=>by
  rw [List.getElem?_append_left (List.getElem?_eq_some_iff.1 hi).1];exact hi
 have hloc:∀(id:Nat) (o:AObj),h[id]? = some o→o ≠ .dead→μ' id=μ id:=by
  intro id o ho hd
  have:=S.evo.obj id o ho
  cases o with
  | dead=>exact absurd rfl hd
  | loop m ps asg body ts st pend=>obtain ⟨_,_,_,h2⟩:=this;exact h2
  | iter m n seen=>obtain ⟨_,_,h2⟩:=this;exact h2
  | map kvs=>obtain ⟨_,_,h2⟩:=this;exact h2
  | arr sz es own nil=>
   obtain ⟨es',nil',q1,q2,q3⟩:=this
   rcases n.2 id _ ho with h2 | ⟨sz2,es2,es3,own2,nil2,h2,h3,h4,h5⟩
   ·rw [hin _ _ h2] at q1
    injection q1 with q1
    injection q1 with e1 e2 e3 e4
    exact q3 (by rw [e2])
   ·rw [hin _ _ h3] at q1
    injection q1 with q1
    injection q1 with e1 e2 e3 e4
    injection h2 with f1 f2 f3 f4
    exact q3 (by rw [← e2,h4,f2])
 have hloc1:∀(id:Nat) (o:AObj),h1[id]? = some o→o ≠ .dead→μ' id=μ id:=by
  intro id o ho hd
  rcases n.back ho with h2 | ⟨sz,es,es',own,nil,h2,h3,h4,h5⟩
  ·exact hloc id o h2 hd
  ·exact hloc id _ h3 (by simp)
 have he:Ext (μ.mix μ') h1 μ' (h1++g):=⟨fun k hk=>⟨hk,rfl⟩,fun id o ho=>⟨hin _ _ ho,fun hd=>hloc1 id o ho hd⟩⟩
 have hE:Evo μ h (μ.mix μ') h1:=by
  refine ⟨S.evo.imm,fun id o ho => ?_⟩
  rcases n.2 id _ ho with h2 | ⟨sz2,es2,es3,own2,nil2,rfl,h3,h4,h5⟩
  ·cases o with
   | dead=>trivial
   | loop m ps asg body ts st pend=>exact ⟨st,pend,h2,rfl⟩
   | iter m n seen=>exact ⟨seen,h2,rfl⟩
   | map kvs=>exact ⟨kvs,h2,rfl⟩
   | arr sz es own nil=>exact ⟨es,nil,h2,Nat.le_refl _,fun _=>rfl⟩
  ·exact ⟨es3,nil2,h3,by omega,fun _=>rfl⟩
 have hmu:∀i o b x c,h1[i]? = some o→isOwn o=true→(μ.mix μ') i = .real b x c→μ' i = .real b x c:=fun i o b x c p1 p2 p3=>by
  rw [hloc1 i o p1 (by rintro rfl;simp [isOwn] at p2)];exact p3
 have hown:∀b,Own (μ.mix μ') h1 b→Own μ' (h1++g) b:=by
  rintro b ⟨id,o,x,c,p1,p2,p3⟩
  exact ⟨id,o,x,c,hin _ _ p1,p2,hmu _ _ _ _ _ p1 p2 p3⟩
 have hown0:∀b,Own (μ.mix μ') h1 b→Own μ h b:=by
  rintro b ⟨id,o,x,c,p1,p2,p3⟩
  rcases n.back p1 with h2 | ⟨sz,es,es',own,nil,rfl,h3,h4,h5⟩
  ·exact ⟨id,o,x,c,h2,p2,p3⟩
  ·exact ⟨id,_,x,c,h3,p2,p3⟩
 refine ⟨⟨⟨fun id o ho => ?_, ?_, ?_, ?_⟩,hE,S.frame,fun b hb => .inl (hown0 b hb),S.fresh⟩,he⟩
 ·have H:=S.rel.obj id o (hin _ _ ho)
  rcases n.back ho with h2 | ⟨sz,es,es',own,nil,rfl,h3,h4,h5⟩
  ·exact ORel.back he ho (w:=w) (ORel.mono hE rfl (fun _ _ _ _=>rfl) (Nat.le_refl _) (R.obj id o h2)) H
  ·refine ⟨H.1, ?_⟩
   have H2:=H.2
   have hm:μ' id=(μ.mix μ') id:=hloc1 id _ ho (by simp)
   rw [← hm]
   cases hmu2:μ' id with
   | virt A=>rw [hmu2] at H2;exact H2
   | real blk x c=>
    rw [hmu2] at H2
    obtain ⟨q1,q2,q3,q4,q5,q6⟩:=H2
    refine ⟨q1,q2,q3,q4,fun i e j a p q => ?_,q6⟩
    obtain ⟨v,r1,r2,r3⟩:=q5 i e j a p q
    exact ⟨v,r1,r2,Z3v he.imm (h5 e (List.mem_of_getElem? p) a (List.mem_of_getElem? q)) r3⟩
 ·intro i j o p b x c y d hi hj hoi hpj hmi hmj
  exact S.rel.sep i j o p b x c y d (hin _ _ hi) (hin _ _ hj) hoi hpj (hmu _ _ _ _ _ hi hoi hmi) (hmu _ _ _ _ _ hj hpj hmj)
 ·intro i sz es nil b x c hi hmi hO
  rcases n.back hi with h2 | ⟨sz2,es2,es3,own2,nil2,h2,h3,h4,h5⟩
  ·exact R.apart i sz es nil b x c h2 hmi (hown0 b hO)
  ·injection h2 with f1 f2 f3 f4
   subst f1 f3 f4
   exact R.apart i _ es2 _ b x c h3 hmi (hown0 b hO)
 ·intro k hk
  obtain ⟨p1,p2,p3⟩:=S.rel.imm k hk
  exact ⟨p1,p2,fun hO=>p3 (hown k hO)⟩
def Writes (F:Fun) (id:Nat) (x:AV) (sz:Nat) (xs zs:List AV):Prop:=
 (∀c ∈ zs,plain c=true)∧∀H:Hp,H[id]? = some (.arr sz [xs] true false)→∃g,F [.ptr id 0 0 1,x] H=some (.tup [],H.set id (.arr sz [zs] true false)++g)
open Classical in
noncomputable def wrD (F:Fun):DFun:=fun args h base=>match args with
 | [.ptr id 0 0 1,x]=>match h[id]? with
  | some (.arr sz [xs] true false)=>if hx:∃zs,Writes F id x sz xs zs then some (.tup [],⟨[(id, .arr sz [hx.choose] true false)],[],[id]⟩) else none
  | _=>none
 | _=>none
theorem Writes.unique {F:Fun} {id:Nat} {x:AV} {sz:Nat} {xs zs ys:List AV} {h:Hp} (hid:h[id]? = some (.arr sz [xs] true false)) (h1:Writes F id x sz xs zs) (h2:Writes F id x sz xs ys):zs=ys:=by
 obtain ⟨g1,e1⟩:=h1.2 h hid
 obtain ⟨g2,e2⟩:=h2.2 h hid
 rw [e1] at e2
 injection e2 with e2
 injection e2 with _ e2
 have hl:=(List.getElem?_eq_some_iff.1 hid).1
 have:=congrArg (fun l:Hp=>l[id]?) e2
 rw [List.getElem?_append_left (by simpa using hl),List.getElem?_append_left (by simpa using hl),List.getElem?_set_self hl,List.getElem?_set_self hl] at this
 injection this with this
 injection this with _ this
 injection this
theorem ZnV {F:Fun} {id:Nat} {x:AV} {sz:Nat} {xs zs:List AV} {h:Hp} (hid:h[id]? = some (.arr sz [xs] true false)) (hw:Writes F id x sz xs zs) (base:Nat):wrD F [.ptr id 0 0 1,x] h base=some (.tup [],⟨[(id, .arr sz [zs] true false)],[],[id]⟩):=by
 have hx:∃zs,Writes F id x sz xs zs:=⟨zs,hw⟩
 simp only [wrD,hid]
 rw [dif_pos hx,Writes.unique hid hx.choose_spec hw]
theorem ZcN {F:Fun} {args:List AV} {h:Hp} {base:Nat} {v:AV} {e:Eff} (hk:wrD F args h base=some (v,e)):∃id x sz xs zs,args=[.ptr id 0 0 1,x]∧h[id]? = some (.arr sz [xs] true false)∧Writes F id x sz xs zs∧v = .tup []∧e=⟨[(id, .arr sz [zs] true false)],[],[id]⟩:=by
 unfold wrD at hk
 split at hk<;>try (simp at hk;done)
 rename_i id x
 split at hk<;>try (simp at hk;done)
 rename_i sz xs hid
 split at hk<;>try (simp at hk;done)
 rename_i hx
 simp only [Option.some.injEq,Prod.mk.injEq] at hk
 exact ⟨id,x,sz,xs,hx.choose,rfl,hid,hx.choose_spec,hk.1.symm,hk.2.symm⟩
theorem ZnW (F:Fun):DLoc (wrD F):=by
 refine ⟨fun args h base v e hk H hag => ?_,fun args h base v e hk p hp => ?_⟩
 ·obtain ⟨id,x,sz,xs,zs,rfl,hid,hw,rfl,rfl⟩:=ZcN hk
  exact ZnV (hag id (by simp) _ hid) hw base
 ·obtain ⟨id,x,sz,xs,zs,rfl,hid,hw,rfl,rfl⟩:=ZcN hk
  simp only [List.mem_singleton] at hp
  subst hp
  exact ⟨_,hid,by simp⟩
theorem ZnX {F:Fun} {f:FuncId} (hc:CSound P f F):DCalls P f (wrD F):=by
 intro args h base v e hk hd μ w cargs R hargs
 obtain ⟨id,x,sz,xs,zs,rfl,hid,hw,rfl,rfl⟩:=ZcN hk
 obtain ⟨g,hg⟩:=hw.2 h hid
 obtain ⟨hgo,hcall⟩:=hc _ _ _ _ hg μ w cargs R hargs
 refine ⟨hgo,Calls.mono hcall ?_⟩
 rintro en w' ⟨cv,μ',rfl,hst,hv⟩
 have hl:=(List.getElem?_eq_some_iff.1 hid).1
 have hn:Near h (h.set id (.arr sz [zs] true false)):=by
  refine ⟨by simp,fun j o ho => ?_⟩
  by_cases hj:id=j
  ·subst hj
   rw [hid] at ho
   injection ho with ho
   subst ho
   right
   refine ⟨sz,[xs],[zs],true,false,rfl,by rw [List.getElem?_set_self hl],rfl, ?_⟩
   intro e he c hc
   simp only [List.mem_singleton] at he
   subst he
   exact hw.1 c hc
  ·left
   rw [List.getElem?_set_ne hj]
   exact ho
 obtain ⟨h1,h2⟩:=Step.forget2 R hn hst
 exact ⟨cv,_,rfl,by simpa [apAt] using h1,Z3v h2.imm rfl hv⟩
theorem DSound.wr {D:DTab} (DS:DSound P D) {f:Nat} {F:Fun} (hc:CSound P f F):DSound P (updD D f (wrD F)):=DS.upd (ZnW F) (ZnX hc)
end Go.AM


namespace Go.AM
open Go.RowKit
set_option linter.unusedVariables false
set_option linter.unusedSimpArgs false
set_option linter.constructorNameAsVariable false
variable {P:Program} {μ μ':Mu} {h h' h1:Hp} {w w':World}
theorem Step.move {g:List AObj} {base k sz len fr:Nat} {es:List (List AV)} {nil full:Bool} {cv:Value} (R:Rel μ h w) (S:Step μ h w μ' (h++g) w') (hd:h[base]? = some .dead) (hk:g[k]? = some (.arr sz es true nil)) (hp:∀e ∈ es,∀c ∈ e,plain c=true) (hv:VR μ' (h++g) (.sl sz (h.length+k) 0 len fr full) cv):
  ∃ν,Step μ h w ν (h.set base (.arr sz es true nil)) w'∧VR ν (h.set base (.arr sz es true nil)) (.sl sz base 0 len fr full) cv∧ImmLe μ' ν:=by
 obtain ⟨S1,he⟩:=Step.forget R S
 have hbl:base<h.length:=(List.getElem?_eq_some_iff.1 hd).1
 have hgk:(h++g)[h.length+k]? = some (.arr sz es true nil):=by
  rw [List.getElem?_append_right (by omega)]
  rw [show h.length+k-h.length=k by omega];exact hk
 have hin:∀i o,h[i]? = some o→(h++g)[i]? = some o:=fun i o hi=>by
  rw [List.getElem?_append_left (List.getElem?_eq_some_iff.1 hi).1];exact hi
 obtain ⟨ν,hν⟩:∃ν,ν=(μ.mix μ').set base (μ' (h.length+k)):=⟨_,rfl⟩
 have nb:ν base=μ' (h.length+k):=by rw [hν];simp
 have nn:∀i,i≠base→ν i=(μ.mix μ') i:=fun i hi=>by rw [hν];simp [hi]
 have gs:(h.set base (.arr sz es true nil))[base]? = some (.arr sz es true nil):=List.getElem?_set_self hbl
 have gn:∀i,i≠base→(h.set base (.arr sz es true nil))[i]? = h[i]? := fun i hi=>List.getElem?_set_ne (Ne.symm hi)
 have himm:ImmLe μ' ν:=fun k hk=>by rw [hν];exact he.imm k hk
 have hE:Evo (μ.mix μ') h ν (h.set base (.arr sz es true nil)):=by
  refine ⟨fun k hk=>by rw [hν];exact ⟨hk,rfl⟩,fun id o ho => ?_⟩
  by_cases hib:id=base
  ·subst hib
   rw [hd] at ho
   injection ho with ho
   subst ho
   trivial
  ·have hg:=(gn id hib).trans ho
   have hl:=nn id hib
   cases o with
   | dead=>trivial
   | loop m ps asg body ts st pend=>exact ⟨st,pend,hg,hl⟩
   | iter m n seen=>exact ⟨seen,hg,hl⟩
   | map kvs=>exact ⟨kvs,hg,hl⟩
   | arr sz es own nil=>exact ⟨es,nil,hg,Nat.le_refl _,fun _=>hl⟩
 have hown:∀b,Own ν (h.set base (.arr sz es true nil)) b→Own μ' (h++g) b:=by
  rintro b ⟨id,o,x,c,p1,p2,p3⟩
  by_cases hib:id=base
  ·subst hib
   rw [gs] at p1
   injection p1 with p1
   subst p1
   exact ⟨h.length+k,_,x,c,hgk,rfl,by rw [← nb];exact p3⟩
  ·rw [gn id hib] at p1
   rw [nn id hib] at p3
   refine ⟨id,o,x,c,hin _ _ p1,p2, ?_⟩
   rw [(he.obj id o p1).2 (by rintro rfl;simp [isOwn] at p2)]
   exact p3
 have hmu:∀i o b x c,i≠base→(h.set base (.arr sz es true nil))[i]? = some o→o ≠ .dead→ν i = .real b x c→(h++g)[i]? = some o∧μ' i = .real b x c:=fun i o b x c hi p1 p2 p3=>by
  rw [gn i hi] at p1
  rw [nn i hi] at p3
  exact ⟨hin _ _ p1,by rw [(he.obj i o p1).2 p2];exact p3⟩
 refine ⟨ν,⟨⟨fun id o ho => ?_, ?_, ?_, ?_⟩, ?_,S.frame,fun b hb=>S.own b (hown b hb),fun k hk=>S.fresh k (by rw [hν] at hk;exact hk)⟩, ?_,himm⟩
 ·by_cases hib:id=base
  ·subst hib
   rw [gs] at ho
   injection ho with ho
   subst ho
   have H:=S.rel.obj _ _ hgk
   refine ⟨H.1, ?_⟩
   have H2:=H.2
   rw [nb]
   cases hm:μ' (h.length+k) with
   | virt A=>rw [hm] at H2;exact H2
   | real blk x c=>
    rw [hm] at H2
    obtain ⟨q1,q2,q3,q4,q5,q6⟩:=H2
    refine ⟨q1,q2,q3,q4,fun i e j a p q => ?_,q6⟩
    obtain ⟨v,r1,r2,r3⟩:=q5 i e j a p q
    exact ⟨v,r1,r2,Z3v himm (hp e (List.mem_of_getElem? p) a (List.mem_of_getElem? q)) r3⟩
  ·rw [gn id hib] at ho
   exact ORel.mono hE (nn id hib) (fun _ _ _ _=>rfl) (Nat.le_refl _) (S1.rel.obj id o ho)
 ·intro i j o p b x c y d hi hj hoi hpj hmi hmj
  have fin:∀(j:Nat) (p:AObj) (y d x c:Nat),j≠base→(h.set base (.arr sz es true nil))[j]? = some p→isOwn p=true→ν j = .real b y d→ν base = .real b x c→False:=fun j p y d x c hjb hj hpj hmj hmb=>by
   obtain ⟨r1,r2⟩:=hmu j p b y d hjb hj (by rintro rfl;simp [isOwn] at hpj) hmj
   have:=S.rel.sep (h.length+k) j _ p b x c y d hgk r1 rfl hpj (by rw [← nb];exact hmb) r2
   rw [gn j hjb] at hj
   have:=(List.getElem?_eq_some_iff.1 hj).1
   omega
  by_cases hib:i=base
  ·by_cases hjb:j=base
   ·rw [hib,hjb]
   ·subst hib
    exact (fin j p y d x c hjb hj hpj hmj hmi).elim
  ·by_cases hjb:j=base
   ·subst hjb
    exact (fin i o x c y d hib hi hoi hmi hmj).elim
   ·obtain ⟨r1,r2⟩:=hmu i o b x c hib hi (by rintro rfl;simp [isOwn] at hoi) hmi
    obtain ⟨r3,r4⟩:=hmu j p b y d hjb hj (by rintro rfl;simp [isOwn] at hpj) hmj
    exact S.rel.sep i j o p b x c y d r1 r3 hoi hpj r2 r4
 ·intro i sz2 es2 nil2 b x c hi hmi hO
  have hib:i≠base:=by
   rintro rfl
   rw [gs] at hi
   injection hi with hi
   injection hi with _ _ f
   cases f
  obtain ⟨r1,r2⟩:=hmu i _ b x c hib hi (by simp) hmi
  exact S.rel.apart i _ _ _ b x c r1 r2 (hown b hO)
 ·intro k hk
  have hk':μ'.imm k:=by rw [hν] at hk;exact hk
  obtain ⟨p1,p2,p3⟩:=S.rel.imm k hk'
  exact ⟨p1,by rw [p2,hν];rfl,fun hO=>p3 (hown k hO)⟩
 ·refine ⟨fun k hk => ?_,fun id o ho => ?_⟩
  ·rw [hν];exact S.evo.imm k hk
  ·by_cases hib:id=base
   ·subst hib
    rw [hd] at ho
    injection ho with ho
    subst ho
    trivial
   ·have hg:=(gn id hib).trans ho
    have hl:ν id=μ id:=nn id hib
    cases o with
    | dead=>trivial
    | loop m ps asg body ts st pend=>exact ⟨st,pend,hg,hl⟩
    | iter m n seen=>exact ⟨seen,hg,hl⟩
    | map kvs=>exact ⟨kvs,hg,hl⟩
    | arr sz es own nil=>exact ⟨es,nil,hg,Nat.le_refl _,fun _=>hl⟩
 ·simp only [VR] at hv ⊢
  obtain ⟨A,c,e1,h1,h2,h3,es',own,nil',hid,hl,hc⟩:=hv
  rw [hgk] at hid
  injection hid with hid
  injection hid with f1 f2 f3 f4
  subst f2
  exact ⟨A,c,e1,h1,h2,h3,es,true,nil,gs,hl,fun q=>by rw [nb];exact hc q⟩
def News (F:Fun) (args:List AV) (x:Nat × List (List AV) × Nat × Nat × Bool):Prop:=
 (∀e ∈ x.2.1,∀c ∈ e,plain c=true)∧∀H:Hp,∃g k,F args H=some (.sl x.1 (H.length+k) 0 x.2.2.1 x.2.2.2.1 x.2.2.2.2,H++g)∧g[k]? = some (.arr x.1 x.2.1 true false)
def Nils (F:Fun) (args:List AV):Prop:=∀H:Hp,F args H=some (.s (.slice none 0 0),H)
open Classical in
noncomputable def newD (F:Fun):DFun:=fun args h base=>
 if hx:∃x,News F args x then some (.sl hx.choose.1 base 0 hx.choose.2.2.1 hx.choose.2.2.2.1 hx.choose.2.2.2.2,⟨[],[.arr hx.choose.1 hx.choose.2.1 true false],[]⟩)
 else if Nils F args then some (.s (.slice none 0 0),⟨[],[],[]⟩) else none
theorem News.unique {F:Fun} {args:List AV} {x y:Nat × List (List AV) × Nat × Nat × Bool} (h1:News F args x) (h2:News F args y):x=y:=by
 obtain ⟨g1,k1,e1,q1⟩:=h1.2 []
 obtain ⟨g2,k2,e2,q2⟩:=h2.2 []
 rw [e1] at e2
 injection e2 with e2
 injection e2 with e2 e3
 injection e2 with a1 a2 a3 a4 a5 a6
 simp only [List.nil_append,List.length_nil,Nat.zero_add] at a2 e3
 subst a2 e3
 rw [q1] at q2
 injection q2 with q2
 injection q2 with b1 b2
 obtain ⟨x1,x2,x3,x4,x5⟩:=x
 obtain ⟨y1,y2,y3,y4,y5⟩:=y
 simp only at a1 a4 a5 a6 b2
 subst a1 a4 a5 a6 b2
 rfl
theorem ZcO {F:Fun} {args:List AV} {x:Nat × List (List AV) × Nat × Nat × Bool} (hw:News F args x) (h:Hp) (base:Nat):newD F args h base=some (.sl x.1 base 0 x.2.2.1 x.2.2.2.1 x.2.2.2.2,⟨[],[.arr x.1 x.2.1 true false],[]⟩):=by
 have hx:∃x,News F args x:=⟨x,hw⟩
 unfold newD
 rw [dif_pos hx,News.unique hx.choose_spec hw]
theorem ZcP {F:Fun} {args:List AV} (hw:Nils F args) (h:Hp) (base:Nat):newD F args h base=some (.s (.slice none 0 0),⟨[],[],[]⟩):=by
 have hx:¬ ∃x,News F args x:=by
  rintro ⟨x,hx⟩
  obtain ⟨g,k,e, -⟩:=hx.2 []
  rw [hw []] at e
  injection e with e
  injection e with e
  cases e
 unfold newD
 rw [dif_neg hx,if_pos hw]
theorem ZcQ {F:Fun} {args:List AV} {h:Hp} {base:Nat} {v:AV} {e:Eff} (hk:newD F args h base=some (v,e)):(∃x,News F args x∧v = .sl x.1 base 0 x.2.2.1 x.2.2.2.1 x.2.2.2.2∧e=⟨[],[.arr x.1 x.2.1 true false],[]⟩)∨(Nils F args∧v = .s (.slice none 0 0)∧e=⟨[],[],[]⟩):=by
 unfold newD at hk
 split at hk
 ·rename_i hx
  simp only [Option.some.injEq,Prod.mk.injEq] at hk
  exact .inl ⟨_,hx.choose_spec,hk.1.symm,hk.2.symm⟩
 ·split at hk
  ·rename_i hn
   simp only [Option.some.injEq,Prod.mk.injEq] at hk
   exact .inr ⟨hn,hk.1.symm,hk.2.symm⟩
  ·simp at hk
theorem ZnY (F:Fun):DLoc (newD F):=by
 refine ⟨fun args h base v e hk H hag => ?_,fun args h base v e hk p hp => ?_⟩
 ·rcases ZcQ hk with ⟨x,hw,rfl,rfl⟩ | ⟨hn,rfl,rfl⟩
  ·exact ZcO hw _ _
  ·exact ZcP hn _ _
 ·rcases ZcQ hk with ⟨x,hw,rfl,rfl⟩ | ⟨hn,rfl,rfl⟩<;>simp at hp
theorem ZnZ {F:Fun} {f:FuncId} (hc:CSound P f F):DCalls P f (newD F):=by
 intro args h base v e hk hd μ w cargs R hargs
 rcases ZcQ hk with ⟨x,hw,rfl,rfl⟩ | ⟨hn,rfl,rfl⟩
 ·obtain ⟨g,k,hF,hg⟩:=hw.2 h
  obtain ⟨hgo,hcall⟩:=hc _ _ _ _ hF μ w cargs R hargs
  refine ⟨hgo,Calls.mono hcall ?_⟩
  rintro en w' ⟨cv,μ',rfl,hst,hv⟩
  have hdead:h[base]? = some .dead:=by have:=hd 0 (by simp);simpa using this
  obtain ⟨ν,h1,h2, -⟩:=Step.move R hst hdead hg hw.1 hv
  exact ⟨cv,ν,rfl,by simpa [apAt] using h1,by simpa [apAt] using h2⟩
 ·obtain ⟨hgo,hcall⟩:=hc _ _ _ _ (hn h) μ w cargs R hargs
  refine ⟨hgo,Calls.mono hcall ?_⟩
  rintro en w' ⟨cv,μ',rfl,hst,hv⟩
  exact ⟨cv,μ',rfl,by simpa [apAt] using hst,by simpa [apAt] using hv⟩
theorem DSound.new {D:DTab} (DS:DSound P D) {f:Nat} {F:Fun} (hc:CSound P f F):DSound P (updD D f (newD F)):=DS.upd (ZnY F) (ZnZ hc)
end Go.AM


namespace Go.AM
open Go.RowKit
set_option linter.unusedVariables false
set_option linter.unusedSimpArgs false
set_option linter.constructorNameAsVariable false
variable {P:Program} {μ μ':Mu} {h h' h1:Hp} {w w':World}
theorem ZgI {μ:Mu} {h:Hp}:∀ {asl bs:List AV} {vs:List Value},VRs μ h (asl++bs) vs→∃v1 v2,vs=v1++v2∧VRs μ h asl v1∧VRs μ h bs v2
 | [],bs,vs,hv=>⟨[],vs,rfl,by simp [VRs],hv⟩
 | a::asl,bs,vs,hv=>by
  simp only [List.cons_append,VRs] at hv
  obtain ⟨v,vs',rfl,h1,h2⟩:=hv
  obtain ⟨v1,v2,rfl,h3,h4⟩:=ZgI h2
  exact ⟨v::v1,v2,rfl,by simp only [VRs];exact ⟨v,v1,rfl,h1,h3⟩,h4⟩
def NewsA (F:Fun) (args:List AV) (x:List AV × Nat × List (List AV) × Nat × Nat × Bool):Prop:=
 plains x.1=true∧(∀e ∈ x.2.2.1,∀c ∈ e,plain c=true)∧∀H:Hp,∃g k,F args H=some (.agg (x.1++[.sl x.2.1 (H.length+k) 0 x.2.2.2.1 x.2.2.2.2.1 x.2.2.2.2.2]),H++g)∧g[k]? = some (.arr x.2.1 x.2.2.1 true false)
def Plains (F:Fun) (args:List AV) (v:AV):Prop:=plain v=true∧∀H:Hp,∃g,F args H=some (v,H++g)
open Classical in
noncomputable def newA (F:Fun):DFun:=fun args h base=>
 if hx:∃x,NewsA F args x then some (.agg (hx.choose.1++[.sl hx.choose.2.1 base 0 hx.choose.2.2.2.1 hx.choose.2.2.2.2.1 hx.choose.2.2.2.2.2]),⟨[],[.arr hx.choose.2.1 hx.choose.2.2.1 true false],[]⟩)
 else if hy:∃v,Plains F args v then some (hy.choose,⟨[],[],[]⟩) else none
theorem NewsA.unique {F:Fun} {args:List AV} {x y:List AV × Nat × List (List AV) × Nat × Nat × Bool} (h1:NewsA F args x) (h2:NewsA F args y):x=y:=by
 obtain ⟨g1,k1,e1,q1⟩:=h1.2.2 []
 obtain ⟨g2,k2,e2,q2⟩:=h2.2.2 []
 rw [e1] at e2
 injection e2 with e2
 injection e2 with e2 e3
 injection e2 with e2
 obtain ⟨x1,x2,x3,x4,x5,x6⟩:=x
 obtain ⟨y1,y2,y3,y4,y5,y6⟩:=y
 dsimp only at e2 q1 q2
 have hl:x1.length=y1.length:=by have:=congrArg List.length e2;simpa using this
 obtain ⟨a0,a1⟩:=List.append_inj e2 hl
 injection a1 with a1
 injection a1 with b1 b2 b3 b4 b5 b6
 simp only [List.nil_append,List.length_nil,Nat.zero_add] at b2 e3
 subst a0 b1 b2 b4 b5 b6 e3
 rw [q1] at q2
 injection q2 with q2
 injection q2 with _ c2
 rw [c2]
theorem ZgJ {F:Fun} {args:List AV} {x:List AV × Nat × List (List AV) × Nat × Nat × Bool} (hw:NewsA F args x) (h:Hp) (base:Nat):newA F args h base=some (.agg (x.1++[.sl x.2.1 base 0 x.2.2.2.1 x.2.2.2.2.1 x.2.2.2.2.2]),⟨[],[.arr x.2.1 x.2.2.1 true false],[]⟩):=by
 have hx:∃x,NewsA F args x:=⟨x,hw⟩
 unfold newA
 rw [dif_pos hx,NewsA.unique hx.choose_spec hw]
theorem Zo0 {xs:List AV} {a:AV} (h:plains (xs++[a])=true):plain a=true:=by
 induction xs with
 | nil=>simpa [plains] using h
 | cons x xs ih=>
  simp only [List.cons_append,plains,Bool.and_eq_true] at h
  exact ih h.2
theorem ZgK {F:Fun} {args:List AV} {v:AV} (hw:Plains F args v) (h:Hp) (base:Nat):newA F args h base=some (v,⟨[],[],[]⟩):=by
 have hx:¬ ∃x,NewsA F args x:=by
  rintro ⟨x,hx⟩
  obtain ⟨g,k,e, -⟩:=hx.2.2 []
  obtain ⟨g',e'⟩:=hw.2 []
  rw [e'] at e
  injection e with e
  injection e with e
  have:=hw.1
  rw [e] at this
  simp only [plain] at this
  have:=Zo0 this
  simp [plain] at this
 have hy:∃v,Plains F args v:=⟨v,hw⟩
 unfold newA
 rw [dif_neg hx,dif_pos hy]
 obtain ⟨g1,e1⟩:=hy.choose_spec.2 []
 obtain ⟨g2,e2⟩:=hw.2 []
 rw [e1] at e2
 injection e2 with e2
 injection e2 with e2
 rw [e2]
theorem ZcR {F:Fun} {args:List AV} {h:Hp} {base:Nat} {v:AV} {e:Eff} (hk:newA F args h base=some (v,e)):(∃x,NewsA F args x∧v = .agg (x.1++[.sl x.2.1 base 0 x.2.2.2.1 x.2.2.2.2.1 x.2.2.2.2.2])∧e=⟨[],[.arr x.2.1 x.2.2.1 true false],[]⟩)∨(Plains F args v∧e=⟨[],[],[]⟩):=by
 unfold newA at hk
 split at hk
 ·rename_i hx
  simp only [Option.some.injEq,Prod.mk.injEq] at hk
  exact .inl ⟨_,hx.choose_spec,hk.1.symm,hk.2.symm⟩
 ·split at hk
  ·rename_i hn
   simp only [Option.some.injEq,Prod.mk.injEq] at hk
   obtain ⟨rfl,rfl⟩:=hk
   exact .inr ⟨hn.choose_spec,rfl⟩
  ·simp at hk
theorem Zo1 (F:Fun):DLoc (newA F):=by
 refine ⟨fun args h base v e hk H hag => ?_,fun args h base v e hk p hp => ?_⟩
 ·rcases ZcR hk with ⟨x,hw,rfl,rfl⟩ | ⟨hn,rfl⟩
  ·exact ZgJ hw _ _
  ·exact ZgK hn _ _
 ·rcases ZcR hk with ⟨x,hw,rfl,rfl⟩ | ⟨hn,rfl⟩<;>simp at hp
theorem Zo2 {F:Fun} {f:FuncId} (hc:CSound P f F):DCalls P f (newA F):=by
 intro args h base v e hk hd μ w cargs R hargs
 rcases ZcR hk with ⟨x,hw,rfl,rfl⟩ | ⟨hn,rfl⟩
 ·obtain ⟨g,k,hF,hg⟩:=hw.2.2 h
  obtain ⟨hgo,hcall⟩:=hc _ _ _ _ hF μ w cargs R hargs
  refine ⟨hgo,Calls.mono hcall ?_⟩
  rintro en w' ⟨cv,μ',rfl,hst,hv⟩
  have hdead:h[base]? = some .dead:=by have:=hd 0 (by simp);simpa using this
  simp only [VR] at hv
  obtain ⟨vs,rfl,hvs⟩:=hv
  obtain ⟨v1,v2,hq,hv1,hv2⟩:=ZgI hvs
  simp only [VRs] at hv2
  obtain ⟨c,vs',rfl,hsl,rfl⟩:=hv2
  obtain ⟨ν,h1,h2,h3⟩:=Step.move R hst hdead hg hw.2.1 hsl
  refine ⟨_,ν,rfl,by simpa [apAt] using h1, ?_⟩
  simp only [VR]
  refine ⟨vs,rfl, ?_⟩
  rw [hq]
  have hx:apAt h base ⟨[],[.arr x.2.1 x.2.2.1 true false],[]⟩=h.set base (.arr x.2.1 x.2.2.1 true false):=by simp [apAt]
  rw [hx]
  exact VRs.append (Z4v h3 hw.1 hv1) (by simp only [VRs];exact ⟨c,[],rfl,h2,rfl⟩)
 ·obtain ⟨g,hF⟩:=hn.2 h
  obtain ⟨hgo,hcall⟩:=hc _ _ _ _ hF μ w cargs R hargs
  refine ⟨hgo, ?_⟩
  have he:apAt h base ⟨[],[],[]⟩=h:=by simp [apAt]
  rw [he]
  exact Zcl R hn.1 hcall
theorem DSound.newA {D:DTab} (DS:DSound P D) {f:Nat} {F:Fun} (hc:CSound P f F):DSound P (updD D f (Go.AM.newA F)):=DS.upd (Zo1 F) (Zo2 hc)
end Go.AM


namespace Go.AM
open Go.RowKit
open Classical in
set_option linter.unusedVariables false
variable {P:Program} {μ μ':Mu} {h h':Hp} {w w':World} {β:Type} {ks:List Nat} {np nt:Nat} {ds:List Deferred} {ρ:Option Nat}
def CSoundK (P:Program) (f:FuncId) (RK:{β:Type}→(AV→Hp→Option β)→List AV→Hp→Option β):Prop:=∀ {β:Type} (K:AV→Hp→Option β) (args:List AV) (h:Hp) (res:β),RK K args h=some res→∀μ w (cargs:Array Value),Rel μ h w→VRs μ h args cargs.toList→
 Goes P f∧Calls P f cargs w fun e w'=>∃v h' cv μ',K v h'=some res∧e = .returned cv∧Step μ h w μ' h' w'∧VR μ' h' v cv
theorem ZgL (R0:Rel μ h w) {h1:Hp} {a:Act} {t:Tm} {fn:Func} {v:AV} {h':Hp} (hx:outsK P t h1 fn.results.toList (fun vs=>some (pack vs,h1))=some (v,h')) {Q:Ending→World→Prop} (hQ:∀cv μ' w',Step μ h w μ' h' w'→VR μ' h' v cv→Q (.returned cv) w'):∀(rs:List Nat) (μ1:Mu) (w1:World),Step μ h w μ1 h1 w1→rs.Nodup→
  (∀r ∈ rs,w.heap.size≤r∧μ1.imm r∧μ1.base.heap[r]? = some (.deferred (some [])))→(∀i,VR μ1 h1 (t i) (a.eval (.tmp i)))→
  LeavesInM (FW none) 0 P fn a.tmps Q (rs.map (fun r=>{ target := .collected r,args := #[] })) .returning w1
 | [],μ1,w1,S,_,_,hv=>by
  obtain ⟨xs,u,e,r1,r2⟩:=ZeZ S.rel hv hx
  simp only [Option.some.injEq,Prod.mk.injEq] at e
  obtain ⟨rfl,rfl⟩:=e
  exact ⟨u,r1,hQ u μ1 _ S r2⟩
 | r::rs,μ1,w1,S,hn,hr,hv=>by
  obtain ⟨p1,p2,p3⟩:=hr r (by simp)
  obtain ⟨q1,μ2,q2,q3,q4⟩:=Step.take (P:=P) R0 S p1 p2 p3
  rw [List.nodup_cons] at hn
  refine ⟨by simp, .inl ⟨r,_,rfl,q1, ?_⟩⟩
  exact ZgL R0 hx hQ rs μ2 _ q2 hn.2 (fun r' hr'=>by
   obtain ⟨s1,s2,s3⟩:=hr r' (by simp [hr'])
   have hne:r'≠r:=fun e=>hn.1 (e ▸ hr')
   exact ⟨s1,(q4 r' hne s2).1,(q4 r' hne s2).2.trans s3⟩) fun i=>q3 _ _ (hv i)
theorem Zo3 {T:Tab} {D:DTab} (TS:TSound P T) (DS:DSound P D) (hm:P.follows .mixedOrders=true) {f:FuncId} {fn:Func} (hf:P.funcs[f]? = some fn) (hok:fnOk ks np fn=true) (N:Nat):CSoundK P f (fun {β} K args h=>if args.length=np then runK P T D N ks fn K args h else none):=by
 intro β K args h res hk μ w cargs R hargs
 simp only [fnOk,Bool.and_eq_true,decide_eq_true_eq,Bool.not_eq_true'] at hok
 obtain ⟨⟨hnt,hname⟩,hc⟩:=hok
 cases hb:fn.body with
 | none=>rw [hb] at hc;cases hc
 | some c=>
  rw [hb] at hc
  refine ⟨⟨fn,hf,hname,by rw [hb];rfl⟩, ?_⟩
  dsimp only at hk
  split at hk<;>try (simp at hk;done)
  rename_i hlen
  unfold runK at hk
  rw [hb] at hk
  simp only at hk
  have hsz:cargs.size=np:=by rw [← hlen,hargs.length];simp
  have hfit:Fit ks np fn.ntmps [] μ h (tm0 args) { tmps:=cargs++Array.replicate (fn.ntmps-cargs.size) undef,defers:=[] }:=by
   refine ⟨by simp;omega,rfl,fun i => ?_,fun i _=>rfl,fun i _ hi => ?_⟩
   ·rw [Z58,Z6D]
    cases ha:args[i]? with
    | none=>simp [VR]
    | some x=>
     obtain ⟨u,h1,h2⟩:=hargs.get i x ha
     have hlt:i<cargs.size:=by
      rw [← Array.length_toList];exact (List.getElem?_eq_some_iff.1 h1).1
     have:(Act.mk (cargs++Array.replicate (fn.ntmps-cargs.size) undef) []).eval (.tmp i)=u:=by
      simp only [Act.eval,Array.getD_eq_getD_getElem?,Array.getElem?_append_left hlt]
      have:cargs[i]? = some u:=by simpa using h1
      rw [this];rfl
     rw [this]
     exact h2
   ·rw [Z6D,List.getElem?_eq_none (by omega)];rfl
  refine callsIn_wide.1 (callsIn_of_wp_marks (n:=0) (F:=FW none) hf hb trivial ?_)
  refine Z1P (ρ:=none) (b0:=w.heap.size) TS DS hm c hc (.inl rfl) [] _ _ _ _ _ _ _ _ hk hfit ⟨[],rfl,List.nodup_nil,fun r hr=>by cases hr⟩ (Nat.le_refl _) R ?_
  intro e t' h1 a' w' μ' ds' q1 q2 qm q3
  have key:outsK P t' h1 fn.results.toList (fun vs=>K (pack vs) h1)=some res→LeavesInM (FW none) 0 P fn a'.tmps (fun e w'=>∃v h' cv μ',K v h'=some res∧e = .returned cv∧Step μ h w μ' h' w'∧VR μ' h' v cv) a'.defers .returning w':=by
   intro hx
   obtain ⟨rs,m1,m2,m3⟩:=qm
   rw [Z3c] at hx
   obtain ⟨vs,hvs,hKv⟩:=Option.bind_eq_some_iff.1 hx
   have hx2:outsK P t' h1 fn.results.toList (fun vs=>some (pack vs,h1))=some (pack vs,h1):=by rw [Z3c,hvs];rfl
   rw [q2.defers,m1]
   exact ZgL R hx2 (fun cv μ' w' s1 s2=>⟨_,_,cv,μ',hKv,rfl,s1,s2⟩) rs μ' w' q3 m2 m3 q2.val
  cases e with
  | normal=>exact key q1
  | exit i=>simp [finK,Ex.on] at q1
  | ret=>exact key q1
noncomputable def closedXK (shp shr:List Sh) (RK:{β:Type}→(AV→Hp→Option β)→List AV→Hp→Option β):Fun:=fun args h=>
 match cvts false h args with
 | some asl=>match RK (fun v g=>cvt (!plains args) g v) (nrms shp asl) [] with
  | some v'=>some (nrmR shr v',h)
  | none=>none
 | none=>none
theorem Zo4 {f:FuncId} {RK:{β:Type}→(AV→Hp→Option β)→List AV→Hp→Option β} (shp shr:List Sh) (hc:CSoundK P f RK):CSound P f (closedXK shp shr RK):=by
 intro args h v h' hk μ w cargs R hargs
 unfold closedXK at hk
 split at hk<;>try (simp at hk;done)
 rename_i asl hcv
 split at hk<;>try (simp at hk;done)
 rename_i u' hF
 simp only [Option.some.injEq,Prod.mk.injEq] at hk
 obtain ⟨rfl,rfl⟩:=hk
 cases hpl:plains args with
 | true=>
  rw [Z21 hpl] at hcv
  injection hcv with hcv
  subst hcv
  have R1:Rel μ [] w:=Rel.nil fun k hk=>⟨(R.imm k hk).1,(R.imm k hk).2.1⟩
  obtain ⟨hg,hcall⟩:=hc _ _ _ _ hF μ w cargs R1 (Z5a shp (Z4v (ImmLe.refl _) hpl hargs))
  refine ⟨hg,Calls.mono hcall ?_⟩
  rintro e w' ⟨u,g,cv,μ2,hu,rfl,S,hv⟩
  rw [hpl] at hu
  have hnew:∀k,Own μ2 g k→w.heap.size≤k:=fun k hk=>(S.own k hk).elim (fun q=>(Own.nil q).elim) id
  have him:∀k,μ2.imm k→μ.imm k∨w.heap.size≤k:=fun k hk=>(S.fresh k hk).elim .inl fun q=>q.elim (fun q=>(Own.nil q).elim) .inr
  obtain ⟨ξ,hξ⟩:∃ξ:Mu,ξ={ loc:=μ.loc,base:=w',imm:=fun k=>μ2.imm k∨Own μ2 g k }:=⟨_,rfl⟩
  have hle:ImmLe μ ξ:=fun k hk=>by
   subst hξ
   refine ⟨.inl (S.evo.imm k hk).1, ?_⟩
   exact ((S.rel.imm k (S.evo.imm k hk).1).2.1).trans (S.evo.imm k hk).2
  obtain ⟨r1,r2,r3⟩:=Rel.over (g:=g) R S.frame (ξ:=ξ) (by rw [hξ]) hle (fun k hk=>by
   subst hξ
   rcases hk with hk | hk
   ·exact ⟨(S.rel.imm k hk).1,rfl,fun hO=>by
     have:=R.own_lt hO
     rcases him k hk with q | q
     ·exact (R.imm k q).2.2 hO
     ·omega⟩
   ·exact ⟨S.rel.own_lt hk,rfl,fun hO=>by have:=R.own_lt hO;have:=hnew k hk;omega⟩)
  have hfin:=Z6E (ν:=ξ) S.rel (fun k hk=>by subst hξ;rfl) (fun k hk=>by subst hξ;exact .inr hk) (fun _ k hk=>by subst hξ;exact .inl hk) hv hu
  refine ⟨cv,ξ,rfl,⟨r1,r2,r3,fun b hb => .inl ?_,fun k hk => ?_⟩,Z8K (VR.lift h hfin)⟩
  ·subst hξ;exact hb
  ·subst hξ
   rcases hk with hk | hk
   ·exact (him k hk).elim .inl fun q => .inr (.inr q)
   ·exact .inr (.inr (hnew k hk))
 | false=>
  obtain ⟨μ1,hμ1⟩:∃μ1:Mu,μ1={ loc:=μ.loc,base:=w,imm:=fun k=>μ.imm k∨Own μ h k }:=⟨_,rfl⟩
  have R1:Rel μ1 [] w:=Rel.nil fun k hk=>by
   subst hμ1
   rcases hk with hk | hk
   ·exact ⟨(R.imm k hk).1,rfl⟩
   ·exact ⟨R.own_lt hk,rfl⟩
  have hargs1:VRs μ1 [] asl cargs.toList:=Z5b R (fun k hk=>by subst hμ1;rfl) (fun k hk=>by subst hμ1;exact .inr hk) (fun _ k hk=>by subst hμ1;exact .inl hk) hargs hcv
  obtain ⟨hg,hcall⟩:=hc _ _ _ _ hF μ1 w cargs R1 (Z5a shp hargs1)
  refine ⟨hg,Calls.mono hcall ?_⟩
  rintro e w' ⟨u,g,cv,μ2,hu,rfl,S,hv⟩
  rw [hpl] at hu
  have hnew:∀k,Own μ2 g k→w.heap.size≤k:=fun k hk=>(S.own k hk).elim (fun q=>(Own.nil q).elim) id
  have hbl:∀k,k<w.heap.size→w'.heap[k]? = w.heap[k]? := fun k hk=>S.frame.block k hk Own.nil
  obtain ⟨ξ,hξ⟩:∃ξ:Mu,ξ={ loc:=μ.loc,base:=w',imm:=fun k=>μ.imm k∨Own μ2 g k }:=⟨_,rfl⟩
  have hle:ImmLe μ ξ:=fun k hk=>by
   subst hξ
   exact ⟨.inl hk,(hbl k (R.imm k hk).1).trans (R.imm k hk).2.1⟩
  obtain ⟨r1,r2,r3⟩:=Rel.over (g:=g) R S.frame (ξ:=ξ) (by rw [hξ]) hle (fun k hk=>by
   subst hξ
   rcases hk with hk | hk
   ·exact ⟨Nat.lt_of_lt_of_le (R.imm k hk).1 S.frame.size,rfl,(R.imm k hk).2.2⟩
   ·exact ⟨S.rel.own_lt hk,rfl,fun hO=>by have:=R.own_lt hO;have:=hnew k hk;omega⟩)
  have hfin:=Z6E (ν:=ξ) S.rel (fun k hk=>by subst hξ;rfl) (fun k hk=>by subst hξ;exact .inr hk) (fun hst=>by simp at hst) hv hu
  refine ⟨cv,ξ,rfl,⟨r1,r2,r3,fun b hb => .inl ?_,fun k hk => ?_⟩,Z8K (VR.lift h hfin)⟩
  ·subst hξ;exact hb
  ·subst hξ
   rcases hk with hk | hk
   ·exact .inl hk
   ·exact .inr (.inr (hnew k hk))

theorem Zo5 {shp shr:List Sh} {RK:{β:Type}→(AV→Hp→Option β)→List AV→Hp→Option β} {args:List AV} {v:AV} (ha:plains args=true) (hv:RK (fun v g=>cvt false g v) (nrms shp args) []=some v) (h:Hp):closedXK shp shr RK args h=some (nrmR shr v,h):=by
 unfold closedXK
 rw [Z21 ha]
 simp only [ha,Bool.not_true]
 rw [hv]
end Go.AM


namespace Go.AM
open Go.RowKit
set_option linter.unusedVariables false
set_option linter.unusedSimpArgs false
variable {P:Program} {μ μ':Mu} {h h':Hp} {w w':World}
structure InsWalk (P:Program) (f:FuncId) (k by_:Nat) (t el:TypeId):Prop where
 goes:Goes P f
 ht:P.underlying t=some (.slice el)
 hs:szOf P el=some k
 hb:bytesOf P el=some by_
 hz:∃z,zeroAV P el=some z∧(cellsOf z).length=k∧(cellsOf z).all okC=true
 big:∀m,m * by_≤140737488355328→m≤maxLen
 shift:∀(b n c i vb m vc:Nat) (cur:Array Value) (T:TypeId) (vs:List Value) (w:World),i<n→0<m→n+m≤c→c≤9223372036854775807→vb≠b→w.heap[b]? = some (.cells cur T (0,0))→c * k≤cur.size→(∀v ∈ cur.toList.take (n * k),v.oneCell'=true)→
  vs.length=m * k→(∀j v,vs[j]? = some v→w.cell? ⟨vb,j,none⟩=some v)→(∀v ∈ vs,v.oneCell'=true)→∀(tA tB:TypeId) (kA kB:Nat),w.shape? vb=some (tA,kA)→w.shape? b=some (tB,kB)→kB≠0→w.frozen? ⟨vb,0,none⟩=false→w.frozen? ⟨vb,kA,none⟩=false→
  Calls P f #[.slice (some ⟨b,0,none⟩) n c, .int .i64 i, .slice (some ⟨vb,0,none⟩) m vc] w fun e w'=>
   e = .returned (.slice (some ⟨b,0,none⟩) (n+m) c)∧w'=w.drew.setRow b (cur.toList.take (i * k)++vs++(cur.toList.drop (i * k)).take ((n-i) * k)++cur.toList.drop ((n+m) * k)).toArray
 grow:∀(b n c i vb m vc:Nat) (cur:Array Value) (T:TypeId) (vs:List Value) (w:World),i<n→0<m→n≤c→c<n+m→(n+m) * by_≤140737488355328→w.heap[b]? = some (.cells cur T (0,0))→n * k≤cur.size→(∀v ∈ cur.toList.take (n * k),v.oneCell'=true)→
  vs.length=m * k→(∀j v,vs[j]? = some v→w.cell? ⟨vb,j,none⟩=some v)→(∀v ∈ vs,v.oneCell'=true)→
  Calls P f #[.slice (some ⟨b,0,none⟩) n c, .int .i64 i, .slice (some ⟨vb,0,none⟩) m vc] w fun e w'=>
   ∃(G:Nat) (R:Array Value),n+m≤G∧G≤maxLen∧R.size=G * k∧R.toList.take ((n+m) * k)=cur.toList.take (i * k)++vs++(cur.toList.drop (i * k)).take ((n-i) * k)∧e = .returned (.slice (some ⟨w.heap.size,0,none⟩) (n+m) G)∧w'=w.drew.drew.alloc (.cells R el)
 fin:∀(A B:Option Addr) (n c m vc:Nat) (u:Value) (w W':World),0<m→n≤c→(A=none→c=0)→(∀ty,(Builtin.append_ #[t,t] ty #[.slice A n c, .slice B m vc]).run P w = .ok u W')→
  Calls P f #[.slice A n c, .int .i64 n, .slice B m vc] w fun e w'=>e = .returned u∧w'=W'
def insF (k by_:Nat):Fun:=fun args h=>
 match args with
 | [s, .s (.int .i64 i), .sl sx idx off m fr full]=>
  match readSl h (.sl sx idx off m fr full),h[idx]? with
  | some news,some (.arr _ _ true _)=>
   if news.length=m∧0<m∧news.all (fun e=>e.length==k)=true∧off=0 then
    match s with
    | .s (.slice none 0 0)=>if i=0∧m * by_≤140737488355328 then some (.sl k h.length 0 m m false,h++[.arr k news true false]) else none
    | .sl sz id soff len sfr sfull=>
     match h[id]? with
     | some (.arr sz' es own nil)=>
      if sz=k∧sz'=k∧soff=0∧own=true∧sfull=false∧len=sfr∧es.length=len∧id≠idx∧(len+m) * by_≤140737488355328∧0≤i∧i≤len then
       some (.sl k id 0 (len+m) (len+m) false,h.set id (.arr k (es.take i.toNat++news++es.drop i.toNat) true false))
      else none
     | _=>none
    | _=>none
   else none
  | _,_=>none
 | _=>none
theorem Zo6 {sx idx off m fr:Nat} {full:Bool} {news:List (List AV)} {l:List AObj} (hk:readSl h (.sl sx idx off m fr full)=some news):readSl (h++l) (.sl sx idx off m fr full)=some news:=by
 unfold readSl at hk ⊢
 dsimp only at hk ⊢
 split at hk<;>try (simp at hk;done)
 rename_i ho
 rw [List.getElem?_append_left (List.getElem?_eq_some_iff.1 ho).1,ho]
 exact hk
theorem Zo7 {k:Nat} {es:List (List AV)} (hS:Sized k es) (i:Nat) (hi:i≤es.length):(es.take i).flatten=es.flatten.take (i * k)∧(es.drop i).flatten=es.flatten.drop (i * k):=by
 have q1:Sized k (es.take i):=fun e he=>hS e (List.mem_of_mem_take he)
 have q2:=Z0Z q1
 have q3:(es.take i).length=i:=by simp;omega
 rw [q3] at q2
 have q4:es.flatten=(es.take i).flatten++(es.drop i).flatten:=by rw [← List.flatten_append,List.take_append_drop]
 constructor
 ·rw [q4, ← q2,List.take_left]
 ·rw [q4, ← q2,List.drop_left]
theorem ZgM {f:FuncId} {n0 by_:Nat} {t el:TypeId} (W:InsWalk P f (n0+1) by_ t el):CSound P f (insF (n0+1) by_):=by
 intro args h v h' hk μ w cargs R hargs
 refine ⟨W.goes, ?_⟩
 unfold insF at hk
 split at hk<;>try (simp at hk;done)
 rename_i s i sx idx off m fr full
 split at hk<;>try (simp at hk;done)
 rename_i news szx esx nilx hread hox
 split at hk<;>try (simp at hk;done)
 rename_i hcond
 obtain ⟨hnl,hm0,hall,rfl⟩:=hcond
 simp only [VRs] at hargs
 obtain ⟨v1,vs1,hq1,hv1,v2,vs2,rfl,hv2,v3,vs3,rfl,hv3,rfl⟩:=hargs
 have hcargs:cargs = #[v1,v2,v3]:=by apply Array.ext';simpa using hq1
 subst hcargs
 have e2:v2 = .int .i64 i:=by simp only [VR] at hv2;exact hv2.2
 subst e2
 have hRd:=Z6u (P:=P) R hv3 hread hall
 have hS:=hRd.sized
 obtain ⟨A3,c3,rfl,hcell⟩:=hRd.val
 have hne:news≠[]:=by intro e;rw [e] at hnl;simp at hnl;omega
 obtain ⟨ad,vs,rfl,hvs,hvl,hone,hat⟩:=hcell hne
 rw [hnl] at hvl
 have hv3':=hv3
 simp only [VR] at hv3'
 obtain ⟨A',c',hsl',hlc', -, -,es',own',nil',ho', -,hq'⟩:=hv3'
 rw [hox] at ho'
 injection ho' with ho'
 injection ho' with e1 e2 e3 e4
 subst e1 e2 e3 e4
 injection hsl' with e5 e6 e7
 subst e5 e7
 -- where the new elements lie
 have hx:∃(vb cap:Nat) (cur:Array Value) (T:TypeId),μ idx = .real vb 0 cap∧ad=⟨vb,0,none⟩∧w.heap[vb]? = some (.cells cur T (0,0)):=by
  have hread':=hread
  unfold readSl at hread'
  simp only [hox] at hread'
  split at hread'<;>try (simp at hread';done)
  rename_i hc
  have hsl:=hq' hc.1.symm
  unfold SlOk at hsl
  split at hsl
  ·rename_i blk o cap hmu
   obtain ⟨a,ha,hcap,hne'⟩:=hsl
   obtain ⟨cur,T,hbk,hcur,rfl, -⟩:=ORel.own_flat (R.obj _ _ hox) hmu
   have:=hne' (by omega)
   injection ha with ha
   subst ha
   exact ⟨blk,cap,cur,T,hmu,by simpa using this,hbk⟩
  ·obtain ⟨-,hc0, -⟩:=hsl
   omega
 obtain ⟨vb,capx,curx,Tx,hmux,rfl,hbx⟩:=hx
 have hat':∀j u,vs[j]? = some u→w.cell? ⟨vb,j,none⟩=some u:=fun j u hu=>by
  have:=hat j u hu
  rwa [Addr.add_lit,Nat.zero_add] at this
 obtain ⟨z,hz1,hz2,hz3⟩:=W.hz
 split at hk
 ·-- into nil
  split at hk<;>try (simp at hk;done)
  rename_i hcc
  obtain ⟨rfl,hbig⟩:=hcc
  simp only [Option.some.injEq,Prod.mk.injEq] at hk
  obtain ⟨rfl,rfl⟩:=hk
  have e1:v1 = .slice none 0 0:=by simp only [VR] at hv1;exact hv1.2
  subst e1
  have S0:=Step.pad R 1
  have hap:appE (n0+1) by_ (.s (.slice none 0 0)) (.sl szx idx 0 m fr full) (h++List.replicate 1 .dead) h.length=some (.sl (n0+1) h.length 0 m m false,⟨[],[.arr (n0+1) news true false],idsOf (.sl szx idx 0 m fr full)⟩):=by
   unfold appE
   rw [Zo6 hread]
   simp only [hnl]
   rw [if_neg (by omega),if_pos ⟨hbig,hall⟩]
  obtain ⟨w2,u,μ2,hrun,S2,hu⟩:=Z6v (ty:=t) S0.rel W.ht W.hs W.hb hz1 hz2 hz3 W.big (VR.evo S0.evo _ _ hv1) (VR.evo S0.evo _ _ hv3) hap (fun _=>by simp)
  have hrun':∀ty,(Builtin.append_ #[t,t] ty #[.slice none 0 0, .slice (some ⟨vb,0,none⟩) news.length c3]).run P w = .ok u w2:=fun ty=>by
   obtain ⟨w2',u',μ2',hr', -⟩:=Z6v (ty:=ty) S0.rel W.ht W.hs W.hb hz1 hz2 hz3 W.big (VR.evo S0.evo _ _ hv1) (VR.evo S0.evo _ _ hv3) hap (fun _=>by simp)
   have:(Builtin.append_ #[t,t] ty #[.slice none 0 0, .slice (some ⟨vb,0,none⟩) news.length c3]).run P w=(Builtin.append_ #[t,t] t #[.slice none 0 0, .slice (some ⟨vb,0,none⟩) news.length c3]).run P w:=rfl
   rw [this];exact hrun
  have key:=W.fin none (some ⟨vb,0,none⟩) 0 0 news.length c3 u w w2 (by omega) (Nat.le_refl _) (fun _=>rfl) hrun'
  refine key.mono ?_
  rintro e w' ⟨rfl,rfl⟩
  have ea:=Zcb (h:=h) (e:=⟨[],[.arr (n0+1) news true false],idsOf (.sl szx idx 0 m fr full)⟩) (by simp) 0
  simp only [List.length_singleton,Nat.add_zero,List.replicate_zero,List.append_nil] at ea
  rw [ea] at S2 hu
  have e9:ap h ⟨[],[.arr (n0+1) news true false],idsOf (.sl szx idx 0 m fr full)⟩=h++[.arr (n0+1) news true false]:=rfl
  rw [e9] at S2 hu
  exact ⟨u,μ2,rfl,S0.trans S2,hu⟩
 ·rename_i sz id soff len sfr sfull
  split at hk<;>try (simp at hk;done)
  rename_i sz' es own nil ho
  split at hk<;>try (simp at hk;done)
  rename_i hcc
  obtain ⟨rfl,rfl,rfl,rfl,rfl,rfl,hel,hid,hbig,hi0,hin⟩:=hcc
  simp only [Option.some.injEq,Prod.mk.injEq] at hk
  obtain ⟨rfl,rfl⟩:=hk
  obtain ⟨j,rfl⟩:∃j:Nat,i=(j:Int):=⟨i.toNat,by omega⟩
  have hjn:j≤len:=by omega
  rw [Int.toNat_natCast]
  have hlt:id<h.length:=(List.getElem?_eq_some_iff.1 ho).1
  have hv1':=hv1
  simp only [VR] at hv1'
  obtain ⟨A0,c0,rfl,hlc,hA0,hfull,es2,own2,nil2,ho2, -,hq⟩:=hv1'
  rw [ho] at ho2
  injection ho2 with ho2
  injection ho2 with e1 e2 e3 e4
  subst e2 e3 e4
  have hsl:=hq hel.symm
  have hO:=R.obj _ _ ho
  have hSe:=hO.1
  have hlen':(es.take j++news++es.drop j).length=len+m:=by simp;omega
  rcases Nat.lt_or_ge j len with hj | hj
  ·-- ahead of an element
   unfold SlOk at hsl
   split at hsl
   ·rename_i blk o cap hmu
    obtain ⟨a',rfl,hcap,hne'⟩:=hsl
    obtain ⟨cur,T,hbk,hcur,rfl,hlec,hcapm,h1,hr⟩:=ORel.own_flat hO hmu
    have ha':=hne' (by omega)
    rw [Nat.zero_mul,Nat.add_zero] at ha'
    subst ha'
    rw [Nat.zero_add] at hcap
    have hvb:vb≠blk:=fun e=>hid (R.sep id idx _ _ blk 0 cap 0 capx ho hox rfl rfl hmu (by rw [hmux,e]))
    have hcm:c0 * (n0+1)≤cur.size:=by rw [hcur];exact Nat.mul_le_mul_right _ hcap
    have hnm:len * (n0+1)≤cur.size:=Nat.le_trans (Nat.mul_le_mul_right _ hlc) hcm
    rw [hel] at h1 hr
    -- the cells of the elements
    have hflat:VRs μ h (es.take j++news++es.drop j).flatten (cur.toList.take (j * (n0+1))++vs++(cur.toList.drop (j * (n0+1))).take ((len-j) * (n0+1))):=by
     obtain ⟨f1,f2⟩:=Zo7 hSe j (by omega)
     rw [List.flatten_append,List.flatten_append,f1,f2]
     have m1:j * (n0+1)≤len * (n0+1):=Nat.mul_le_mul_right _ hjn
     have t1:=VRs.take (j * (n0+1)) hr
     have t2:=VRs.drop (j * (n0+1)) hr
     rw [List.take_take,Nat.min_eq_left m1] at t1
     rw [List.drop_take, ← Nat.sub_mul] at t2
     exact VRs.append (VRs.append t1 hvs) t2
    have hone':∀v ∈ cur.toList.take (j * (n0+1))++vs++(cur.toList.drop (j * (n0+1))).take ((len-j) * (n0+1)),v.oneCell'=true:=fun v hv=>by
     have m1:j * (n0+1)≤len * (n0+1):=Nat.mul_le_mul_right _ hjn
     rcases List.mem_append.1 hv with hv | hv
     ·rcases List.mem_append.1 hv with hv | hv
      ·refine h1 v ?_
       rw [← Nat.min_eq_left m1, ← List.take_take] at hv
       exact List.mem_of_mem_take hv
      ·exact hone v hv
     ·refine h1 v ?_
      rw [Nat.sub_mul, ← List.drop_take] at hv
      exact List.mem_of_mem_drop hv
    have hSall:Sized (n0+1) (es.take j++news++es.drop j):=Sized.append (Sized.append (fun e he=>hSe e (List.mem_of_mem_take he)) hS) (fun e he=>hSe e (List.mem_of_mem_drop he))
    have hml:len+m≤maxLen:=W.big _ hbig
    by_cases hroom:len+m≤c0
    ·have hmm:(len+m) * (n0+1)≤cur.size:=Nat.le_trans (Nat.mul_le_mul_right _ hroom) hcm
     have key:=W.shift blk len c0 j vb m c3 cur T vs w hj hm0 hroom (by unfold maxLen at hcapm;omega) hvb hbk hcm h1 hvl hat' hone Tx T curx.size cur.size (by simp [World.shape?,hbx]) (by simp [World.shape?,hbk]) (by
      have:0<len * (n0+1):=Nat.mul_pos (by omega) (by omega)
      omega) (by simp [World.frozen?,hbx]) (by simp [World.frozen?,hbx])
     rw [← hnl] at key
     refine key.mono ?_
     rintro e w' ⟨rfl,rfl⟩
     obtain ⟨row,hrow⟩:∃row:Array Value,row=(cur.toList.take (j * (n0+1))++vs++(cur.toList.drop (j * (n0+1))).take ((len-j) * (n0+1))++cur.toList.drop ((len+m) * (n0+1))).toArray:=⟨_,rfl⟩
     rw [hnl, ← hrow]
     have hl3:(cur.toList.take (j * (n0+1))++vs++(cur.toList.drop (j * (n0+1))).take ((len-j) * (n0+1))).length=(len+m) * (n0+1):=by
      rw [← hflat.length,Z0Z hSall,hlen']
     have htk:row.toList.take ((es.take j++news++es.drop j).length * (n0+1))=cur.toList.take (j * (n0+1))++vs++(cur.toList.drop (j * (n0+1))).take ((len-j) * (n0+1)):=by
      rw [hlen',hrow, ← hl3]
      exact List.take_left
     have hrs:row.size=cur.size:=by
      rw [hrow,List.size_toArray,List.length_append,hl3,List.length_drop,Array.length_toList]
      omega
     have S1:=Step.drew R
     have hbk1:w.drew.heap[blk]? = some (.cells cur T (0,0)):=hbk
     have hset:(w.drew.setRow blk row).heap[blk]? = some (.cells row T (0,0)):=setRow_heap w.drew blk cur row T (0,0) hbk1
     refine ⟨_,μ.set id (μ id),rfl,S1.trans (Step.upd S1.rel (loc:=μ id) ho ⟨_,false,rfl,by rw [hlen'];omega,fun _=>rfl⟩ ?_ ?_ rfl ?_), ?_⟩
     ·exact ⟨rfl,rfl,rfl,Nat.le_refl _,by simp,fun k _ hk=>setRow_other w.drew blk k _ (fun e=>hk ⟨rfl,0,cap,by rw [e];exact hmu⟩)⟩
     ·intro b x c e
      exact .inr ⟨rfl,x,c,e⟩
     ·intro hE
      refine ORel.own_arr (cur:=row) (T:=T) (cap:=cap) (blk:=blk) (by simp [hmu]) hSall (by rw [hlen'];omega) hcapm hset (by rw [hrs];exact hcur) ?_ ?_
      ·rw [htk];exact hone'
      ·rw [htk];exact VRs.evo hE _ _ hflat
     ·simp only [VR]
      refine ⟨_,_,rfl,by omega,fun _=>rfl, .room (by omega),_,true,false,by simp [hlt];rfl,by rw [← List.append_assoc,hlen'];exact Nat.le_refl _,fun _ => ?_⟩
      simp only [Mu.set_loc,if_true,hmu,SlOk]
      exact ⟨_,rfl,by omega,fun _=>by simp⟩
    ·have key:=W.grow blk len c0 j vb m c3 cur T vs w hj hm0 hlc (by omega) hbig hbk hnm h1 hvl hat' hone
     rw [← hnl] at key
     refine key.mono ?_
     rintro e w' ⟨G,row,hG1,hG2,hG3,hG4,rfl,rfl⟩
     rw [hnl] at hG1 hG4 ⊢
     have htk:row.toList.take ((es.take j++news++es.drop j).length * (n0+1))=cur.toList.take (j * (n0+1))++vs++(cur.toList.drop (j * (n0+1))).take ((len-j) * (n0+1)):=by
      rw [hlen'];exact hG4
     have S1:=(Step.drew R).trans (Step.drew (Step.drew R).rel)
     refine ⟨_,μ.set id (.real w.heap.size 0 G),rfl,S1.trans (Step.upd S1.rel (loc := .real w.heap.size 0 G) ho ⟨_,false,rfl,by rw [hlen'];omega,fun h=>by rw [hlen'] at h;omega⟩ (Frame.alloc _ _ _) ?_ rfl ?_), ?_⟩
     ·intro b x c e;injection e with e1 e2 e3;subst e1;exact .inl (Nat.le_refl _)
     ·intro hE
      refine ORel.own_arr (cur:=row) (T:=el) (cap:=G) (blk:=w.heap.size) (by simp) hSall (by rw [hlen'];exact hG1) hG2 (heap_alloc_new w.drew.drew _) hG3 ?_ ?_
      ·rw [htk];exact hone'
      ·rw [htk];exact VRs.evo hE _ _ hflat
     ·simp only [VR]
      refine ⟨_,_,rfl,hG1,fun _=>rfl, .room (by omega),_,true,false,by simp [hlt];rfl,by rw [← List.append_assoc,hlen'];exact Nat.le_refl _,fun _ => ?_⟩
      simp only [Mu.set_loc,if_true,SlOk]
      exact ⟨_,rfl,by omega,fun _=>by simp⟩
   ·obtain ⟨-,hc0, -⟩:=hsl
    omega
  ·-- behind all
   have hjl:j=len:=by omega
   subst hjl
   have hap:appE (n0+1) by_ (.sl (n0+1) id 0 j j false) (.sl szx idx 0 m fr full) h h.length=some (.sl (n0+1) id 0 (j+m) (j+m) false,⟨[(id, .arr (n0+1) (es++news) true false)],[],id::idsOf (.sl szx idx 0 m fr full)⟩):=by
    unfold appE
    rw [hread]
    simp only [ho,hnl]
    rw [if_pos (by simpa using ⟨hel,hbig,by simpa using hall⟩),if_neg (by simp),if_pos (by simp)]
    have:(m==0)=false:=by simp;omega
    rw [this,Bool.and_false]
   obtain ⟨w2,u,μ2,hrun,S2,hu⟩:=Z6v (ty:=t) R W.ht W.hs W.hb hz1 hz2 hz3 W.big hv1 hv3 hap (fun h=>absurd rfl h)
   have hrun':∀ty,(Builtin.append_ #[t,t] ty #[.slice A0 j c0, .slice (some ⟨vb,0,none⟩) news.length c3]).run P w = .ok u w2:=fun ty=>by
    have:(Builtin.append_ #[t,t] ty #[.slice A0 j c0, .slice (some ⟨vb,0,none⟩) news.length c3]).run P w=(Builtin.append_ #[t,t] t #[.slice A0 j c0, .slice (some ⟨vb,0,none⟩) news.length c3]).run P w:=rfl
    rw [this];exact hrun
   have key:=W.fin A0 (some ⟨vb,0,none⟩) j c0 news.length c3 u w w2 (by omega) hlc (fun e=>by
    rcases Nat.eq_zero_or_pos c0 with h0 | h0
    ·exact h0
    ·have:=hA0 h0;rw [e] at this;cases this) hrun'
   refine key.mono ?_
   rintro e w' ⟨rfl,rfl⟩
   have ea:apAt h h.length ⟨[(id, .arr (n0+1) (es++news) true false)],[],id::idsOf (.sl szx idx 0 m fr full)⟩=h.set id (.arr (n0+1) (es.take j++news++es.drop j) true false):=by
    rw [List.take_of_length_le (by omega),List.drop_of_length_le (by omega),List.append_nil]
    rfl
   rw [ea] at S2 hu
   exact ⟨u,μ2,rfl,S2,hu⟩
 ·simp at hk
end Go.AM


namespace Go.AM
open Go.RowKit
set_option linter.unusedVariables false
set_option linter.unusedSimpArgs false
variable {P:Program} {μ μ':Mu} {h h':Hp} {w w':World}
def insE (k by_:Nat):DFun:=fun args h base=>
 match args with
 | [s, .s (.int .i64 i), .sl sx idx off m fr full]=>
  match readSl h (.sl sx idx off m fr full),h[idx]? with
  | some news,some (.arr _ _ true _)=>
   if news.length=m∧0<m∧news.all (fun e=>e.length==k)=true∧off=0 then
    match s with
    | .s (.slice none 0 0)=>if i=0∧m * by_≤140737488355328 then some (.sl k base 0 m m false,⟨[],[.arr k news true false],[idx]⟩) else none
    | .sl sz id soff len sfr sfull=>
     match h[id]? with
     | some (.arr sz' es own nil)=>
      if sz=k∧sz'=k∧soff=0∧own=true∧sfull=false∧len=sfr∧es.length=len∧id≠idx∧(len+m) * by_≤140737488355328∧0≤i∧i≤len then
       some (.sl k id 0 (len+m) (len+m) false,⟨[(id, .arr k (es.take i.toNat++news++es.drop i.toNat) true false)],[],[id,idx]⟩)
      else none
     | _=>none
    | _=>none
   else none
  | _,_=>none
 | _=>none
theorem ZgN {H:Hp} {sx idx off m fr:Nat} {full:Bool} (hs:∀x,h[idx]? = some x→H[idx]? = some x) {news:List (List AV)} (hk:readSl h (.sl sx idx off m fr full)=some news):readSl H (.sl sx idx off m fr full)=some news:=by
 unfold readSl at hk ⊢
 dsimp only at hk ⊢
 split at hk<;>try (simp at hk;done)
 rename_i ho
 rw [hs _ ho]
 exact hk
theorem Zo8 (k by_:Nat):DLoc (insE k by_):=by
 refine ⟨fun args h base v e hk H hag => ?_,fun args h base v e hk p hp => ?_⟩
 ·unfold insE at hk
  split at hk<;>try (simp at hk;done)
  rename_i s i sx idx off m fr full
  split at hk<;>try (simp at hk;done)
  rename_i news szx esx nilx hread hox
  split at hk<;>try (simp at hk;done)
  rename_i hcond
  split at hk
  ·split at hk<;>try (simp at hk;done)
   rename_i hcc
   simp only [Option.some.injEq,Prod.mk.injEq] at hk
   obtain ⟨rfl,rfl⟩:=hk
   have hg:∀x,h[idx]? = some x→H[idx]? = some x:=hag idx (by simp)
   unfold insE
   simp only [ZgN hg hread,hg _ hox]
   rw [if_pos hcond,if_pos hcc]
  ·rename_i sz id soff len sfr sfull
   split at hk<;>try (simp at hk;done)
   rename_i sz' es own nil ho
   split at hk<;>try (simp at hk;done)
   rename_i hcc
   simp only [Option.some.injEq,Prod.mk.injEq] at hk
   obtain ⟨rfl,rfl⟩:=hk
   have hg:∀x,h[idx]? = some x→H[idx]? = some x:=hag idx (by simp)
   have hg2:∀x,h[id]? = some x→H[id]? = some x:=hag id (by simp)
   unfold insE
   simp only [ZgN hg hread,hg _ hox]
   rw [if_pos hcond]
   simp only [hg2 _ ho]
   rw [if_pos hcc]
  ·simp at hk
 ·unfold insE at hk
  split at hk<;>try (simp at hk;done)
  rename_i s i sx idx off m fr full
  split at hk<;>try (simp at hk;done)
  rename_i news szx esx nilx hread hox
  split at hk<;>try (simp at hk;done)
  rename_i hcond
  split at hk
  ·split at hk<;>try (simp at hk;done)
   simp only [Option.some.injEq,Prod.mk.injEq] at hk
   obtain ⟨rfl,rfl⟩:=hk
   simp at hp
  ·rename_i sz id soff len sfr sfull
   split at hk<;>try (simp at hk;done)
   rename_i sz' es own nil ho
   split at hk<;>try (simp at hk;done)
   rename_i hcc
   simp only [Option.some.injEq,Prod.mk.injEq] at hk
   obtain ⟨rfl,rfl⟩:=hk
   simp only [List.mem_singleton] at hp
   subst hp
   exact ⟨_,ho,by simp⟩
  ·simp at hk
theorem Zo9 {f:FuncId} {n0 by_:Nat} {t el:TypeId} (W:InsWalk P f (n0+1) by_ t el):DCalls P f (insE (n0+1) by_):=by
 intro args h base v e hk hd μ w cargs R hargs
 unfold insE at hk
 split at hk<;>try (simp at hk;done)
 rename_i s i sx idx off m fr full
 split at hk<;>try (simp at hk;done)
 rename_i news szx esx nilx hread hox
 split at hk<;>try (simp at hk;done)
 rename_i hcond
 split at hk
 ·split at hk<;>try (simp at hk;done)
  rename_i hcc
  simp only [Option.some.injEq,Prod.mk.injEq] at hk
  obtain ⟨rfl,rfl⟩:=hk
  refine ⟨W.goes, ?_⟩
  obtain ⟨hnl,hm0,hall,rfl⟩:=hcond
  obtain ⟨rfl,hbig⟩:=hcc
  simp only [VRs] at hargs
  obtain ⟨v1,vs1,hq1,hv1,v2,vs2,rfl,hv2,v3,vs3,rfl,hv3,rfl⟩:=hargs
  have hcargs:cargs = #[v1,v2,v3]:=by apply Array.ext';simpa using hq1
  subst hcargs
  have e2:v2 = .int .i64 0:=by simp only [VR] at hv2;exact hv2.2
  subst e2
  have e1:v1 = .slice none 0 0:=by simp only [VR] at hv1;exact hv1.2
  subst e1
  have hRd:=Z6u (P:=P) R hv3 hread hall
  obtain ⟨A3,c3,rfl,hcell⟩:=hRd.val
  obtain ⟨z,hz1,hz2,hz3⟩:=W.hz
  have hdead:h[base]? = some .dead:=by have:=hd 0 (by simp);simpa using this
  have hap:appE (n0+1) by_ (.s (.slice none 0 0)) (.sl sx idx 0 m fr full) h base=some (.sl (n0+1) base 0 m m false,⟨[],[.arr (n0+1) news true false],idsOf (.sl sx idx 0 m fr full)⟩):=by
   unfold appE
   rw [hread]
   simp only [hnl]
   rw [if_neg (by omega),if_pos ⟨hbig,hall⟩]
  obtain ⟨w2,u,μ2,hrun,S2,hu⟩:=Z6v (ty:=t) R W.ht W.hs W.hb hz1 hz2 hz3 W.big hv1 hv3 hap (fun _=>hdead)
  have hrun':∀ty,(Builtin.append_ #[t,t] ty #[.slice none 0 0, .slice A3 news.length c3]).run P w = .ok u w2:=fun ty=>by
   have:(Builtin.append_ #[t,t] ty #[.slice none 0 0, .slice A3 news.length c3]).run P w=(Builtin.append_ #[t,t] t #[.slice none 0 0, .slice A3 news.length c3]).run P w:=rfl
   rw [this];exact hrun
  have key:=W.fin none A3 0 0 news.length c3 u w w2 (by omega) (Nat.le_refl _) (fun _=>rfl) hrun'
  refine key.mono ?_
  rintro e w' ⟨rfl,rfl⟩
  exact ⟨u,μ2,rfl,S2,hu⟩
 ·rename_i sz id soff len sfr sfull
  split at hk<;>try (simp at hk;done)
  rename_i sz' es own nil ho
  split at hk<;>try (simp at hk;done)
  rename_i hcc
  simp only [Option.some.injEq,Prod.mk.injEq] at hk
  obtain ⟨rfl,rfl⟩:=hk
  have hF:insF (n0+1) by_ [.sl sz id soff len sfr sfull, .s (.int .i64 i), .sl sx idx off m fr full] h=some (.sl (n0+1) id 0 (len+m) (len+m) false,h.set id (.arr (n0+1) (es.take i.toNat++news++es.drop i.toNat) true false)):=by
   unfold insF
   simp only [hread,hox]
   rw [if_pos hcond]
   simp only [ho]
   rw [if_pos hcc]
  exact ZgM W _ _ _ _ hF μ w cargs R hargs
 ·simp at hk
theorem DSound.ins {D:DTab} (DS:DSound P D) {f:Nat} {n0 by_:Nat} {t el:TypeId} (W:InsWalk P f (n0+1) by_ t el):DSound P (updD D f (insE (n0+1) by_)):=DS.upd (Zo8 _ _) (Zo9 W)
theorem Zoa {α:Type} {f:α→List AV} {k by_ id idx:Nat} {full nil:Bool} {W:List α} {x:α} {h:Hp} {nilx:Bool} {i:Nat} (hid:h[id]? = some (.arr k (W.map f) true nil)) (hx:h[idx]? = some (.arr k [f x] true nilx)) (hne:id≠idx) (hf:∀x,(f x).length=k) (hi:i≤W.length) (hb:(W.length+1) * by_≤140737488355328) (base:Nat):
  insE k by_ [.sl k id 0 W.length W.length false, .s (.int .i64 (i:Int)), .sl k idx 0 1 1 full] h base=some (.sl k id 0 (W.length+1) (W.length+1) false,⟨[(id, .arr k ((W.take i++[x]++W.drop i).map f) true false)],[],[id,idx]⟩):=by
 have hr:readSl h (.sl k idx 0 1 1 full)=some [f x]:=by
  unfold readSl
  simp [hx]
 unfold insE
 simp only [hr,hx]
 rw [if_pos (by simp [hf])]
 simp only [hid,List.length_map]
 rw [if_pos ⟨trivial,trivial,trivial,trivial,trivial,trivial,trivial,hne,hb,by omega,by omega⟩]
 rw [Int.toNat_natCast,List.map_append,List.map_append,List.map_take,List.map_drop]
 rfl
theorem Zob {α:Type} {f:α→List AV} {k by_ idx:Nat} {full:Bool} {x:α} {h:Hp} {nilx:Bool} (hx:h[idx]? = some (.arr k [f x] true nilx)) (hf:∀x,(f x).length=k) (hb:by_≤140737488355328) (base:Nat):
  insE k by_ [.s (.slice none 0 0), .s (.int .i64 0), .sl k idx 0 1 1 full] h base=some (.sl k base 0 1 1 false,⟨[],[.arr k [f x] true false],[idx]⟩):=by
 have hr:readSl h (.sl k idx 0 1 1 full)=some [f x]:=by
  unfold readSl
  simp [hx]
 unfold insE
 simp only [hr,hx]
 rw [if_pos (by simp [hf]),if_pos ⟨trivial,by omega⟩]
end Go.AM


namespace Go.AM
open Go.RowKit Go.Lib
set_option linter.unusedVariables false
set_option linter.unusedSimpArgs false
section
variable {P:Program}
theorem ZcS (w:World) {ops:Array Oper} {rest:List Oper} {o:Oper} {a:Act} {Q:Exit→Act→World→Prop} (hgd:o.guard=none) (d s:Operand) (t t':TypeId)
  (ho:o.op = .call { callee := .builtin .copy,args := #[d,s],argTypes := #[t,t'] }) (v u:Value) (hd:a.eval d=v) (hs:a.eval s=u) {v':Value} {w':World}
  (hr:(Builtin.copy_ #[t,t'] o.type #[v,u]).run P w = .ok v' w') (h:wpList P ops Q rest (a.put o.dst v') w'):wpList P ops Q (o::rest) a w:=
 wpList_plain hgd fun _ hK=>by
  unfold Oper.wp execOp
  simp only [ho,resolve,invoke,builtin,Sem.run_bind,Sem.run_pure,Result.andThen_ok,List.map_toArray,List.map_cons,List.map_nil,hd,hs,hr]
  exact hK _ _ h
theorem ZgO {ops:Array Oper} {o:Oper} {a:Act} {w:World} {K:Act→World→Prop} {Q:Exit→Act→World→Prop} {E:Prop}
  (hg:o.guard=none) (d x:Operand) (dT sT:TypeId) (hop:o.op=Op.call { callee:=Callee.builtin Builtin.copy,args := #[d,x],argTypes := #[dT,sT] })
  (v u:Value) (hd:a.eval d=v) (hx:a.eval x=u) {v':Value} {w':World} (hr:(Builtin.copy_ #[dT,sT] o.type #[v,u]).run P w = .ok v' w') (hK:K (a.put o.dst v') w'):
  if Region.wanted o (yielded ops a.tmps)=true then Oper.wp P o a w K Q else E:=by
 have hw:Region.wanted o (yielded ops a.tmps)=true:=by simp [Region.wanted,hg]
 rw [if_pos hw]
 unfold Oper.wp
 simp [execOp,hop,resolve,invoke,builtin,hd,hx,hr,Result.andThen]
 exact hK
theorem Za0 (w:World) (dT sT ty elem:TypeId) (k g o dLen dCap:Nat) (a:Addr) (sLen sCap:Nat) (cur:Array Value) (t:TypeId) (cs:List Value)
  (hu:P.underlying dT=some (.slice elem)) (hs:(P.info? elem).map (·.size)=some k)
  (hg:w.heap[g]? = some (.cells cur t (0,0))) {n:Nat} (hn:Nat.min sLen dLen=n) (hl:cs.length=n * k)
  (hsrc:∀j v,cs[j]? = some v→w.cell? (a.add j)=some v) (hfit:o+cs.length≤cur.size) (h1:∀v ∈ cs,v.oneCell'=true):
  (Builtin.copy_ #[dT,sT] ty #[.slice (some ⟨g,o,none⟩) dLen dCap, .slice (some a) sLen sCap]).run P w =
   .ok (goInt n) (w.setRow g (cur.toList.take o++cs++cur.toList.drop (o+cs.length)).toArray):=by
 have hl':=run_loadCells_list (P:=P) w a cs hsrc
 rw [hl] at hl'
 have hst:=run_storeCells_at P g o t cs 0 cur w hg (by simpa using hfit) h1
 cases hq:P.info? elem with
 | none=>simp [hq] at hs
 | some i=>
  have hi:i.size=k:=by simpa [hq] using hs
  simp [Builtin.copy_,run_underlying hu,Builtin.lenOf,Builtin.firstCells,sizeOf,typeInfo,hq,hi,hn,hl',hst]
end
theorem Zoc {k i n m:Nat} {l cs vs:List Value} (hcl:cs.length=(n-i) * k) (hl:(n+m) * k≤l.length) (hin:i≤n):
  (l.take ((i+m) * k)++cs++l.drop ((i+m) * k+(n-i) * k)).take (i * k)++vs++(l.take ((i+m) * k)++cs++l.drop ((i+m) * k+(n-i) * k)).drop (i * k+m * k)=l.take (i * k)++vs++cs++l.drop ((n+m) * k):=by
 have e1:(i+m) * k=i * k+m * k:=Nat.add_mul ..
 have e2:(n+m) * k=(i+m) * k+(n-i) * k:=by rw [← Nat.add_mul];congr 1;omega
 have e3:(l.take ((i+m) * k)).length=(i+m) * k:=by rw [List.length_take];omega
 have h1:(l.take ((i+m) * k)++cs++l.drop ((i+m) * k+(n-i) * k)).take (i * k)=l.take (i * k):=by
  rw [List.append_assoc,List.take_append_of_le_length (by omega),List.take_take,Nat.min_eq_left (by omega)]
 have h2:(l.take ((i+m) * k)++cs++l.drop ((i+m) * k+(n-i) * k)).drop (i * k+m * k)=cs++l.drop ((i+m) * k+(n-i) * k):=by
  rw [← e1,List.append_assoc,List.drop_append_of_le_length (by omega),List.drop_of_length_le (by omega),List.nil_append]
 rw [h1,h2,e2,List.append_assoc,List.append_assoc,List.append_assoc]
theorem Zod (w:World) (r r1 r2:Array Value) (T:TypeId):((w.alloc (.cells r T)).setRow w.heap.size r1).drew.setRow w.heap.size r2=w.drew.alloc (.cells r2 T):=by
 have h:∀(w:World) (r r1:Array Value),(w.alloc (.cells r T)).setRow w.heap.size r1=w.alloc (.cells r1 T):=fun w r r1=>by
  unfold World.setRow World.alloc
  congr 1
  apply Array.ext
  ·simp
  ·intro k h1 h2
   simp only [Array.getElem_modify,Array.getElem_push]
   split
   ·rename_i hk
    subst hk
    simp
   ·rename_i hk
    have hk2:k<w.heap.size:=by simp only [Array.size_push] at h2;omega
    rw [dif_pos hk2,dif_pos hk2]
 rw [h]
 exact h w.drew r1 r2
theorem Zoe {k i n m:Nat} {l cs vs r z:List Value} (hr:r=l.take (i * k)++z) (hcl:cs.length=(n-i) * k) (hvl:vs.length=m * k) (hl:n * k≤l.length) (hz:(n+m-i) * k≤z.length) (hin:i≤n):
  ((r.take (i * k)++vs++r.drop (i * k+m * k)).take ((i+m) * k)++cs++(r.take (i * k)++vs++r.drop (i * k+m * k)).drop ((i+m) * k+(n-i) * k)).take ((n+m) * k)=l.take (i * k)++vs++cs ∧
   ((r.take (i * k)++vs++r.drop (i * k+m * k)).take ((i+m) * k)++cs++(r.take (i * k)++vs++r.drop (i * k+m * k)).drop ((i+m) * k+(n-i) * k)).length=r.length:=by
 have e1:(i+m) * k=i * k+m * k:=Nat.add_mul ..
 have e2:(n+m) * k=(i+m) * k+(n-i) * k:=by rw [← Nat.add_mul];congr 1;omega
 have e3:(n+m-i) * k=m * k+(n-i) * k:=by rw [← Nat.add_mul];congr 1;omega
 have e4:i * k≤n * k:=Nat.mul_le_mul_right _ hin
 have l1:(l.take (i * k)).length=i * k:=by rw [List.length_take];omega
 have hrl:r.length=i * k+z.length:=by rw [hr,List.length_append,l1]
 have h1:r.take (i * k)=l.take (i * k):=by
  rw [hr,List.take_append_of_le_length (by omega),List.take_take,Nat.min_self]
 have l2:(l.take (i * k)++vs).length=(i+m) * k:=by rw [List.length_append,l1,hvl,e1]
 rw [h1]
 have h2:(l.take (i * k)++vs++r.drop (i * k+m * k)).take ((i+m) * k)=l.take (i * k)++vs:=by
  rw [List.take_append_of_le_length (by omega),List.take_of_length_le (by omega)]
 rw [h2]
 constructor
 ·rw [List.take_append_of_le_length (by rw [List.length_append,l2,hcl];omega),List.take_of_length_le (by rw [List.length_append,l2,hcl];omega)]
 ·rw [List.length_append,List.length_append,l2,hcl,List.length_drop,List.length_append,l2,List.length_drop]
  omega
end Go.AM


namespace Go.AM
open Go.Proofs Go.RowKit Go.Lib
set_option linter.unusedVariables false
set_option linter.unusedSimpArgs false
set_option maxHeartbeats 4000000 in
set_option maxRecDepth 100000 in
theorem Zof (b n c i vb m vc:Nat) (cur:Array Value) (T:TypeId) (vs:List Value) (w:World) (hi:i<n) (hm:0<m) (hroom:n+m≤c) (hc63:c≤9223372036854775807) (hvb:vb≠b)
  (hbk:w.heap[b]? = some (.cells cur T (0,0))) (hcap:c * 2≤cur.size) (h1:∀v ∈ cur.toList.take (n * 2),v.oneCell'=true)
  (hvl:vs.length=m * 2) (hvs:∀j v,vs[j]? = some v→w.cell? ⟨vb,j,none⟩=some v) (h1v:∀v ∈ vs,v.oneCell'=true)
  (tA tB:TypeId) (kA kB:Nat) (hsa:w.shape? vb=some (tA,kA)) (hsb:w.shape? b=some (tB,kB)) (hkB:kB≠0) (hfa:w.frozen? ⟨vb,0,none⟩=false) (hfe:w.frozen? ⟨vb,kA,none⟩=false):
  Calls Try.prog 79 #[.slice (some ⟨b,0,none⟩) n c, .int .i64 i, .slice (some ⟨vb,0,none⟩) m vc] w fun e w'=>
   e = .returned (.slice (some ⟨b,0,none⟩) (n+m) c)∧w'=w.drew.setRow b (cur.toList.take (i * 2)++vs++(cur.toList.drop (i * 2)).take ((n-i) * 2)++cur.toList.drop ((n+m) * 2)).toArray:=by
 have u0:=run_underlying Try.underlying22;have u3:=run_underlying Try.underlying3;have u4:=run_underlying Try.underlying4
 have hz1:¬((m:Int)=0):=by omega
 have hz2:¬((i:Int)=(n:Int)):=by omega
 have hsz:(Try.prog.info? 36).map (·.size)=some 2:=by kernel_rfl
 have hov:∀lb cb,(callFunc 97 #[.slice (some ⟨vb,0,none⟩) m vc, .slice (some ⟨b,(i+m) * 2,none⟩) lb cb]).run Try.prog w = .ok (.value (.bool false)) w:=fun lb cb=>by
  rw [run_callFunc_extern Try.func97 (by kernel_rfl) (by kernel_rfl) (by kernel_rfl) (e:=Extern.SlicesOverlaps.overlaps #[22,22] #[4]) (by kernel_rfl),
   Lib.run_overlaps_apart w 22 4 36 Try.underlying22 2 Try.sizeOf36 ⟨vb,0,none⟩ ⟨b,(i+m) * 2,none⟩ m vc lb cb hvb tA tB kA kB hsa hsb hkB hfa hfe]
  rfl
 have mixed:Try.prog.follows .mixedOrders=true:=by kernel_rfl
 have hw1:IntKind.i64.wrap ((i:Int)+(m:Int))=(i:Int)+(m:Int):=by rw [IntKind.wrap_i64];omega
 have hb1:(0:Int)≤(i:Int)+(m:Int):=by omega
 have hin:i≤n:=by omega
 have htn:((i:Int)+(m:Int)).toNat=i+m:=by omega
 have hb2:¬(c=i+m):=by omega
 have hb3:(i:Int)≤(n:Int)+(m:Int):=by omega
 have hb4:¬(c=i):=by omega
 obtain ⟨cs,hcs⟩:∃cs,cs=(cur.toList.drop (i * 2)).take ((n-i) * 2):=⟨_,rfl⟩
 have hcl:cs.length=(n-i) * 2:=by rw [hcs,List.length_take,List.length_drop,Array.length_toList];omega
 have hcm:∀v ∈ cs,v.oneCell'=true:=fun v hv=>h1 v (by
  obtain ⟨j,hj⟩:=List.getElem?_of_mem hv
  rw [hcs,List.getElem?_take] at hj
  split at hj
  ·rw [List.getElem?_drop] at hj
   refine List.mem_of_getElem? (i:=i * 2+j) ?_
   rw [List.getElem?_take,if_pos (by omega)]
   exact hj
  ·cases hj)
 obtain ⟨row1,hr1⟩:∃row1,row1=(cur.toList.take ((i+m) * 2)++cs++cur.toList.drop ((i+m) * 2+cs.length)).toArray:=⟨_,rfl⟩
 have hrs1:row1.size=cur.size:=by rw [hr1];simp [hcl];omega
 have hcp1:∀ty dc sc,(Builtin.copy_ #[22,22] ty #[.slice (some ⟨b,(i+m) * 2,none⟩) (n+m-(i+m)) dc, .slice (some ⟨b,i * 2,none⟩) (n+m-i) sc]).run Try.prog w.drew = .ok (goInt ((n-i:Nat):Int)) (w.drew.setRow b row1):=fun ty dc sc=>by
  rw [hr1]
  refine Za0 (n:=n-i) w.drew 22 22 ty 36 2 b _ _ dc _ _ sc cur T cs Try.underlying22 hsz hbk (by simp only [Nat.min_def];split<;>omega) hcl (fun j v hj => ?_) (by rw [hcl];omega) hcm
  rw [hcs,List.getElem?_take] at hj
  split at hj
  ·rw [List.getElem?_drop] at hj
   rw [Addr.add_lit]
   rw [cell_of_row w.drew b _ cur T (0,0) hbk]
   simpa using hj
  ·cases hj
 have hh2:(w.drew.setRow b row1).heap[b]? = some (.cells row1 T (0,0)):=setRow_heap w.drew b cur row1 T (0,0) hbk
 obtain ⟨row2,hr2⟩:∃row2,row2=(row1.toList.take (i * 2)++vs++row1.toList.drop (i * 2+vs.length)).toArray:=⟨_,rfl⟩
 have hcp2:∀ty dc,(Builtin.copy_ #[22,22] ty #[.slice (some ⟨b,i * 2,none⟩) (n+m-i) dc, .slice (some ⟨vb,0,none⟩) m vc]).run Try.prog (w.drew.setRow b row1) = .ok (goInt m) (w.drew.setRow b row2):=fun ty dc=>by
  have:=Za0 (P:=Try.prog) (w.drew.setRow b row1) 22 22 ty 36 2 b (i * 2) (n+m-i) dc ⟨vb,0,none⟩ m vc row1 T vs Try.underlying22 hsz hh2 (n:=m) (by simp only [Nat.min_def];split<;>omega) hvl (fun j v hj=>by
   rw [Addr.add_lit,Nat.zero_add,Z39 (w:=w) (by rw [setRow_other w.drew b vb row1 hvb];rfl)]
   exact hvs j v hj) (by omega) h1v
  rw [this,setRow_setRow,hr2]
 have hfin:row2=(cur.toList.take (i * 2)++vs++(cur.toList.drop (i * 2)).take ((n-i) * 2)++cur.toList.drop ((n+m) * 2)).toArray:=by
  rw [hr2,hr1,hvl,hcl, ← hcs]
  exact congrArg List.toArray (Zoc (k:=2) (i:=i) (n:=n) (m:=m) hcl (by rw [Array.length_toList];omega) hin)
 rw [← hfin]
 clear hfin hr1 hr2 hcs hcl hcm hrs1 hh2
 go_enter Try.func79,Try.ntmps79
 go_wp2_with (simp only [hov])
 go_region_law_o (go_loud (refine ZgO rfl _ _ 22 22 rfl (.slice (some ⟨b,(i+m) * 2,none⟩) (n+m-(i+m)) (c-(i+m))) (.slice (some ⟨b,i * 2,none⟩) (n+m-i) (c-i)) (by simp [Act.eval,Act.put]) (by simp [Act.eval,Act.put]) (hcp1 3 (c-(i+m)) (c-i)) ?_))
 go_wp2_with (at_builtin;refine ZcS _ rfl _ _ 22 22 rfl _ _ rfl rfl (hcp2 _ _) ?_)
 go_ret
 exact ⟨rfl,rfl⟩
set_option maxHeartbeats 4000000 in
set_option maxRecDepth 100000 in
theorem Zog (b n c i vb m vc:Nat) (cur:Array Value) (T:TypeId) (vs:List Value) (w:World) (hi:i<n) (hm:0<m) (hnc:n≤c) (hroom:c<n+m) (hbig:(n+m) * 16≤140737488355328)
  (hbk:w.heap[b]? = some (.cells cur T (0,0))) (hcap:n * 2≤cur.size) (h1:∀v ∈ cur.toList.take (n * 2),v.oneCell'=true)
  (hvl:vs.length=m * 2) (hvs:∀j v,vs[j]? = some v→w.cell? ⟨vb,j,none⟩=some v) (h1v:∀v ∈ vs,v.oneCell'=true):
  Calls Try.prog 79 #[.slice (some ⟨b,0,none⟩) n c, .int .i64 i, .slice (some ⟨vb,0,none⟩) m vc] w fun e w'=>
   ∃(G:Nat) (R:Array Value),n+m≤G∧G≤maxLen∧R.size=G * 2∧R.toList.take ((n+m) * 2)=cur.toList.take (i * 2)++vs++(cur.toList.drop (i * 2)).take ((n-i) * 2)∧e = .returned (.slice (some ⟨w.heap.size,0,none⟩) (n+m) G)∧w'=w.drew.drew.alloc (.cells R 36):=by
 have u0:=run_underlying Try.underlying22;have u3:=run_underlying Try.underlying3;have u4:=run_underlying Try.underlying4
 have mixed:Try.prog.follows .mixedOrders=true:=by kernel_rfl
 obtain ⟨i0,hi0,hz0,hzs,hzb⟩:=info_parts (P:=Try.prog) (e:=36) (z := .agg #[.int .i64 0, .int .i64 0]) (size:=2) (bytes:=16) (by kernel_rfl)
 have hz1:¬((m:Int)=0):=by omega
 have hz2:¬((i:Int)=(n:Int)):=by omega
 have hz3:(c:Int)<(n:Int)+(m:Int):=by omega
 have hsz:(Try.prog.info? 36).map (·.size)=some 2:=by rw [hi0];simp [hzs]
 have hkk:(n:Int)+(m:Int)-(i:Int)=((n+m-i:Nat):Int):=by omega
 have hik:i+(n+m-i)=n+m:=by omega
 have hb8:b<w.heap.size:=(Array.getElem?_eq_some_iff.1 hbk).1
 have hvb:vb<w.heap.size:=by
  have h0:0<vs.length:=by omega
  exact block_lt_of_cell (hvs 0 _ (List.getElem?_eq_getElem h0))
 have hcl0:(cur.toList.take (i * 2)).length=i * 2:=by rw [List.length_take,Array.length_toList];omega
 have hold:(Builtin.firstCells i0.size i (.slice (some ⟨b,0,none⟩) i c)).run Try.prog w.drew = .ok (cur.toList.take (i * 2)).toArray w.drew:=by
  rw [hzs]
  exact run_firstCells_some w.drew 2 i ⟨b,0,none⟩ i c (cur.toList.take (i * 2)) hcl0 (fun j v hj=>by
   rw [Addr.add_lit,cell_of_row w.drew b _ cur T (0,0) hbk]
   rw [List.getElem?_take] at hj
   split at hj
   ·simpa using hj
   ·cases hj)
 obtain ⟨G,hG⟩:∃G,G=grownCap w (n+m) c 36:=⟨_,rfl⟩
 obtain ⟨zc,hzc⟩:∃zc:Array Value,zc=Value.cells (.agg #[.int .i64 0, .int .i64 0]):=⟨_,rfl⟩
 have hzc7:zc.size=2:=by rw [hzc];rfl
 obtain ⟨ROW,hROW⟩:∃ROW:Array Value,ROW=(cur.toList.take (i * 2)).toArray++Builtin.zeroCells zc (n+m-i)++Builtin.zeroCells zc (G-(n+m)):=⟨_,rfl⟩
 have hrz:∀ty,(Builtin.append_ #[22,3] ty #[.slice (some ⟨b,0,none⟩) i c, .int .i64 ((n:Int)+(m:Int)-(i:Int))]).run Try.prog w =
   .ok (.slice (some ⟨w.heap.size,0,none⟩) (n+m) G) (w.drew.alloc (.cells ROW 36)):=fun ty=>by
  have h:=Lib.run_append_grow_zeros w 22 3 ty 36 i0 _ .i64 .i64 Try.underlying22 Try.underlying3 hi0 hz0 (some ⟨b,0,none⟩) i c (cur.toList.take (i * 2)) hold (n+m-i) (by omega) (by omega) (by omega) (by omega) (by rw [hzb];omega) (by rw [hzb,hik];exact growslice_fits hroom hbig)
  rw [hik] at h
  rw [hkk,hROW,hG,hzc]
  exact h
 have hGn:n+m≤G:=by rw [hG];exact grownCap_ge w _ _ _
 have hGx:G≤maxLen:=by
  rw [hG];exact grownCap_le_maxLen w (n+m) c 36 (by unfold maxLen;omega)
 have hG63:G≤9223372036854775807:=by unfold maxLen at hGx;omega
 have hRs:ROW.size=G * 2:=by
  rw [hROW]
  simp only [Array.size_append,size_zeroCells,List.size_toArray,hcl0,hzc7]
  omega
 obtain ⟨cs,hcs⟩:∃cs,cs=(cur.toList.drop (i * 2)).take ((n-i) * 2):=⟨_,rfl⟩
 have hcl:cs.length=(n-i) * 2:=by rw [hcs,List.length_take,List.length_drop,Array.length_toList];omega
 have hcm:∀v ∈ cs,v.oneCell'=true:=fun v hv=>h1 v (by
  obtain ⟨j,hj⟩:=List.getElem?_of_mem hv
  rw [hcs,List.getElem?_take] at hj
  split at hj
  ·rw [List.getElem?_drop] at hj
   refine List.mem_of_getElem? (i:=i * 2+j) ?_
   rw [List.getElem?_take,if_pos (by omega)]
   exact hj
  ·cases hj)
 obtain ⟨r1,hr1⟩:∃r1,r1=(ROW.toList.take (i * 2)++vs++ROW.toList.drop (i * 2+vs.length)).toArray:=⟨_,rfl⟩
 have hrs1:r1.size=ROW.size:=by rw [hr1];simp;omega
 obtain ⟨r2,hr2⟩:∃r2,r2=(r1.toList.take ((i+m) * 2)++cs++r1.toList.drop ((i+m) * 2+cs.length)).toArray:=⟨_,rfl⟩
 obtain ⟨W1,hW1⟩:∃W1,W1=w.drew.alloc (.cells ROW 36):=⟨_,rfl⟩
 rw [← hW1] at hrz
 have hg1:W1.heap[w.heap.size]? = some (.cells ROW 36 (0,0)):=by rw [hW1];exact heap_alloc_new w.drew _
 have hO:∀k,k<w.heap.size→W1.heap[k]? = w.heap[k]? := fun k hk=>by
  rw [hW1]
  exact (Frame.alloc (S:=fun _=>False) w.drew _).block k hk (fun h=>h)
 have hcpA:∀ty dc,(Builtin.copy_ #[22,22] ty #[.slice (some ⟨w.heap.size,i * 2,none⟩) (n+m-i) dc, .slice (some ⟨vb,0,none⟩) m vc]).run Try.prog W1 = .ok (goInt m) (W1.setRow w.heap.size r1):=fun ty dc=>by
  rw [hr1]
  exact Za0 (P:=Try.prog) (n:=m) W1 22 22 ty 36 2 w.heap.size (i * 2) (n+m-i) dc ⟨vb,0,none⟩ m vc ROW 36 vs Try.underlying22 hsz hg1 (by simp only [Nat.min_def];split<;>omega) hvl (fun j v hj=>by
   rw [Addr.add_lit,Nat.zero_add,Z39 (hO vb hvb)]
   exact hvs j v hj) (by omega) h1v
 have hg2:(W1.setRow w.heap.size r1).heap[w.heap.size]? = some (.cells r1 36 (0,0)):=setRow_heap W1 _ ROW r1 36 (0,0) hg1
 have hcpB:∀ty dc sc,(Builtin.copy_ #[22,22] ty #[.slice (some ⟨w.heap.size,(i+m) * 2,none⟩) (n+m-(i+m)) dc, .slice (some ⟨b,i * 2,none⟩) (n-i) sc]).run Try.prog (W1.setRow w.heap.size r1).drew = .ok (goInt ((n-i:Nat):Int)) ((W1.setRow w.heap.size r1).drew.setRow w.heap.size r2):=fun ty dc sc=>by
  rw [hr2]
  exact Za0 (P:=Try.prog) (n:=n-i) (W1.setRow w.heap.size r1).drew 22 22 ty 36 2 w.heap.size _ _ dc _ _ sc r1 36 cs Try.underlying22 hsz hg2 (by simp only [Nat.min_def];split<;>omega) hcl (fun j v hj=>by
   rw [hcs,List.getElem?_take] at hj
   split at hj
   ·rw [List.getElem?_drop] at hj
    have hbb:(W1.setRow w.heap.size r1).drew.heap[b]? = some (.cells cur T (0,0)):=by
     show (W1.setRow w.heap.size r1).heap[b]? = _
     rw [setRow_other W1 _ b r1 (by omega),hO b hb8,hbk]
    rw [Addr.add_lit,cell_of_row _ b _ cur T (0,0) hbb]
    simpa using hj
   ·cases hj) (by omega) hcm
 have hGi:¬(G=i):=by omega
 have hGim:¬(G=i+m):=by omega
 have hci:¬(c=i):=by omega
 have hw1:IntKind.i64.wrap ((i:Int)+(m:Int))=(i:Int)+(m:Int):=by rw [IntKind.wrap_i64];omega
 have hb1:(0:Int)≤(i:Int)+(m:Int):=by omega
 have hin:i≤n:=by omega
 have htn:((i:Int)+(m:Int)).toNat=i+m:=by omega
 have hb3:(i:Int)≤(n:Int):=by omega
 obtain ⟨q1,q2⟩:=Zoe (k:=2) (i:=i) (n:=n) (m:=m) (l:=cur.toList) (cs:=cs) (vs:=vs) (r:=ROW.toList) (z:=(Builtin.zeroCells zc (n+m-i)++Builtin.zeroCells zc (G-(n+m))).toList) (by rw [hROW];simp) hcl hvl (by rw [Array.length_toList];exact hcap) (by
  simp only [Array.toList_append,List.length_append,Array.length_toList,size_zeroCells,hzc7];omega) hin
 have hR1:r2.toList.take ((n+m) * 2)=cur.toList.take (i * 2)++vs++cs:=by rw [hr2,hr1,hvl,hcl];exact q1
 have hR2:r2.size=G * 2:=by
  have:r2.toList.length=ROW.toList.length:=by rw [hr2,hr1,hvl,hcl];exact q2
  simpa [hRs] using this
 have hend:(W1.setRow w.heap.size r1).drew.setRow w.heap.size r2=w.drew.drew.alloc (.cells r2 36):=by
  subst hW1
  exact Zod w.drew ROW r1 r2 36
 refine Calls.mono (R:=fun e w'=>e = .returned (.slice (some ⟨w.heap.size,0,none⟩) (n+m) G)∧w'=(W1.setRow w.heap.size r1).drew.setRow w.heap.size r2) ?_ (fun e w' ⟨h1,h2⟩=>⟨G,r2,hGn,hGx,hR2,by rw [hR1,hcs],h1,h2.trans hend⟩)
 clear hkk hik hold hROW hG hend hW1 q1 q2 hR1 hR2 hr1 hr2 hcs hcl hcm hg1 hg2 hrs1 hRs hzc hzc7 hO hcl0 hbk
 go_enter Try.func79,Try.ntmps79
 go_wp2_with (first
  | (at_builtin;refine Lib.wpList_append_run _ rfl _ _ _ _ rfl _ _ rfl rfl _ _ (hrz _) ?_)
  | (at_builtin;refine ZcS _ rfl _ _ 22 22 rfl _ _ rfl rfl (hcpA _ _) ?_)
  | (at_builtin;refine ZcS _ rfl _ _ 22 22 rfl _ _ rfl rfl (hcpB _ _ _) ?_))
 go_region_law_o (go_loud (refine ZgO rfl _ _ 22 22 rfl (.slice (some ⟨w.heap.size,(i+m) * 2,none⟩) (n+m-(i+m)) (G-(i+m))) (.slice (some ⟨b,i * 2,none⟩) (n-i) (c-i)) (by simp [Act.eval,Act.put]) (by simp [Act.eval,Act.put]) (hcpB 3 (G-(i+m)) (c-i)) ?_))
 go_wp2
 go_ret
 exact ⟨rfl,rfl⟩
set_option maxHeartbeats 4000000 in
set_option maxRecDepth 100000 in
theorem Zoh (A B:Option Addr) (n c m vc:Nat) (u:Value) (w W':World) (hm:0<m) (hnc:n≤c) (hA:A=none→c=0)
  (hr:∀ty,(Builtin.append_ #[22,22] ty #[.slice A n c, .slice B m vc]).run Try.prog w = .ok u W'):
  Calls Try.prog 79 #[.slice A n c, .int .i64 n, .slice B m vc] w fun e w'=>e = .returned u∧w'=W':=by
 have u0:=run_underlying Try.underlying22;have u3:=run_underlying Try.underlying3;have u4:=run_underlying Try.underlying4
 have mixed:Try.prog.follows .mixedOrders=true:=by kernel_rfl
 have hz1:¬((m:Int)=0):=by omega
 go_enter Try.func79,Try.ntmps79
 cases A with
 | none=>
  have h0:=hA rfl
  subst h0
  have hn0:n=0:=by omega
  subst hn0
  go_wp2_with (at_builtin;refine Lib.wpList_append_run _ rfl _ _ _ _ rfl _ _ rfl rfl _ _ (hr _) ?_)
  go_ret
  exact ⟨rfl,rfl⟩
 | some a=>
  obtain ⟨ab,ao,asp⟩:=a
  go_wp2_with (at_builtin;refine Lib.wpList_append_run _ rfl _ _ _ _ rfl _ _ rfl rfl _ _ (hr _) ?_)
  all_goals (go_ret;exact ⟨rfl,rfl⟩)
theorem ZgP:InsWalk Try.prog 79 2 16 22 36:=⟨⟨Try.f79,Try.func79,by kernel_rfl,by kernel_rfl⟩,Try.underlying22,by kernel_rfl,by kernel_rfl,⟨.agg [.s (.int .i64 0), .s (.int .i64 0)],by kernel_rfl,by kernel_rfl,by kernel_rfl⟩,fun m hm=>by unfold maxLen;omega,Zof,Zog,Zoh⟩
end Go.AM


namespace Go.AM
open Go.RowKit Go.Sort Go.Proofs
set_option linter.unusedVariables false
set_option linter.unusedSimpArgs false
variable {P:Program} {μ μ':Mu} {h h':Hp} {w w':World}
abbrev RowE (k:Nat) (ok:List Value→Bool):={ e:List Value // e.length=k∧(∀v ∈ e,gv v=true)∧ok e=true }
def encE (e:List Value):List AV:=e.map .s
def decE (k:Nat) (ok:List Value→Bool) (e:List AV):Option (List Value):=match e.mapM cellV with | some l=>if l.length=k∧ok l=true then some l else none | none=>none
def ltF (Fc:Fun) (x y:List Value):Bool:=match Fc [.agg (encE x), .agg (encE y)] [] with | some (.s (.int .i64 n),_)=>decide (n<0) | _=>false
def SortOk (k:Nat) (ok:List Value→Bool) (Fc:Fun):Prop:=∃cf:RowE k ok→RowE k ok→Int,(∀x y,Fc [.agg (encE x.1), .agg (encE y.1)] []=some (.s (.int .i64 (cf x y)),[]))∧SWO (ltOf cf)∧∀x y,ltOf cf x y=false→ltOf cf y x=false→x=y
open Classical in
noncomputable def sortF (k:Nat) (ok:List Value→Bool) (g:Nat) (Fc:Fun):Fun:=fun args h=>
 match args with
 | [.sl sz id off len fr _, .fn g' []]=>
  match h[id]? with
  | some (.arr sz' es own nil)=>
   if g'=g∧sz=k∧sz'=k∧es.length=fr∧own=true∧off+len≤es.length∧len<4611686018427387904∧SortOk k ok Fc then
    match ((es.drop off).take len).mapM (decE k ok) with
    | some l=>some (.tup [],h.set id (.arr k (es.take off++(l.mergeSort fun x y => !ltF Fc y x).map encE++es.drop (off+len)) true nil))
    | none=>none
   else none
  | _=>none
 | [.s (.slice none 0 0), .fn _ _]=>some (.tup [],h)
 | _=>none
theorem Zoi {a:AV} {v:Value} (h:cellV a=some v):a = .s v∧gv v=true:=by
 unfold cellV at h
 split at h<;>try (simp at h;done)
 split at h<;>try (simp at h;done)
 rename_i hg
 simp only [Option.some.injEq] at h
 subst h
 exact ⟨rfl,hg⟩
theorem ZgQ:∀ {e:List AV} {l:List Value},e.mapM cellV=some l→e=encE l∧∀v ∈ l,gv v=true
 | [],l,h=>by simp at h;subst h;exact ⟨rfl,by simp⟩
 | a::e,l,h=>by
  simp only [List.mapM_cons,Option.pure_def,Option.bind_eq_bind,Option.bind_eq_some_iff,Option.some.injEq] at h
  obtain ⟨v,hv,l',hl,rfl⟩:=h
  obtain ⟨rfl,hg⟩:=Zoi hv
  obtain ⟨rfl,hgs⟩:=ZgQ hl
  exact ⟨rfl,fun u hu=>(List.mem_cons.1 hu).elim (fun e=>e ▸ hg) (hgs u)⟩
theorem Zoj {k:Nat} {ok:List Value→Bool} {e:List AV} {l:List Value} (h:decE k ok e=some l):e=encE l∧l.length=k∧(∀v ∈ l,gv v=true)∧ok l=true:=by
 unfold decE at h
 split at h<;>try (simp at h;done)
 rename_i l' hl
 split at h<;>try (simp at h;done)
 rename_i hk
 simp only [Option.some.injEq] at h
 subst h
 obtain ⟨h1,h2⟩:=ZgQ hl
 exact ⟨h1,hk.1,h2,hk.2⟩
theorem ZgR {k:Nat} {ok:List Value→Bool}:∀ {es:List (List AV)} {l:List (List Value)},es.mapM (decE k ok)=some l→∃d:List (RowE k ok),l=d.map (·.1)∧es=d.map fun x=>encE x.1
 | [],l,h=>by simp at h;subst h;exact ⟨[],rfl,rfl⟩
 | e::es,l,h=>by
  simp only [List.mapM_cons,Option.pure_def,Option.bind_eq_bind,Option.bind_eq_some_iff,Option.some.injEq] at h
  obtain ⟨x,hx,l',hl,rfl⟩:=h
  obtain ⟨rfl,h1⟩:=Zoj hx
  obtain ⟨d,rfl,rfl⟩:=ZgR hl
  exact ⟨⟨x,h1⟩::d,rfl,rfl⟩
theorem VRs.encE:∀ {e:List Value},(∀v ∈ e,gv v=true)→VRs μ h (encE e) e
 | [],_=>by simp [Go.AM.encE,VRs]
 | v::e,hg=>by
  simp only [Go.AM.encE,List.map_cons,VRs]
  exact ⟨v,e,rfl,by unfold VR;exact ⟨hg v (by simp),rfl⟩,VRs.encE fun u hu=>hg u (by simp [hu])⟩
theorem VRs.encE_eq:∀ {e vs:List Value},VRs μ h (Go.AM.encE e) vs→vs=e
 | [],vs,hv=>by simpa [Go.AM.encE,VRs] using hv
 | v::e,vs,hv=>by
  simp only [Go.AM.encE,List.map_cons,VRs] at hv
  obtain ⟨u,us,rfl,h1,h2⟩:=hv
  simp only [VR] at h1
  rw [h1.2,VRs.encE_eq h2]
theorem ZcT {k : Nat} : ∀ {l : List (List Value)}, (∀ e ∈ l, e.length = k) → l.flatten.length = l.length * k ∧ ∀ t, t < l.length * k → l.flatten[t]? = (l[t / k]!)[t % k]?
  | [], _ => ⟨by simp, fun t ht => by simp at ht⟩
  | e :: l, hl => by
    have he := hl e (by simp)
    obtain ⟨i1, i2⟩ := ZcT (l := l) fun x hx => hl x (by simp [hx])
    refine ⟨by simp [he, i1, Nat.add_mul]; omega, fun t ht => ?_⟩
    rw [List.flatten_cons]
    by_cases hk : t < k
    · rw [List.getElem?_append_left (by omega), Nat.div_eq_of_lt hk, Nat.mod_eq_of_lt hk]
      rfl
    · have hk0 : 0 < k := by rcases Nat.eq_zero_or_pos k with e0 | e0; · subst e0; simp at ht
                             · exact e0
      rw [List.getElem?_append_right (by omega), he, i2 (t - k) (by simp [Nat.add_mul] at ht; omega)]
      have h1 : t / k = (t - k) / k + 1 := by
        have := Nat.add_div_right (t - k) hk0
        rw [show t - k + k = t by omega] at this
        exact this
      have h2 : t % k = (t - k) % k := by
        have := Nat.add_mod_right (t - k) k
        rw [show t - k + k = t by omega] at this
        exact this
      rw [h1, h2]
      rfl
theorem ZgS {α : Type} [Inhabited α] (enc : α → List Value) (k : Nat) (hk : ∀ x, (enc x).length = k) (d : List α) : (flatK enc k d.toArray).toList = (d.map enc).flatten := by
  obtain ⟨h1, h2⟩ := ZcT (l := d.map enc) (k := k) (by simp [hk])
  apply List.ext_getElem?
  intro t
  by_cases ht : t < d.length * k
  · rw [h2 t (by simpa using ht)]
    have hk0 : 0 < k := by rcases Nat.eq_zero_or_pos k with e0 | e0; · subst e0; simp at ht
                           · exact e0
    have hd : t / k < d.length := (Nat.div_lt_iff_lt_mul hk0).2 ht
    have hm : t % k < k := Nat.mod_lt _ hk0
    have e1 : (d.map enc)[t / k]! = enc d[t / k] := by
      rw [getElem!_pos _ _ (by simpa using hd)]; simp
    rw [e1]
    have hm' : t % k < (enc d[t / k]).length := by rw [hk]; exact hm
    rw [List.getElem?_eq_getElem hm']
    unfold flatK
    simp only [List.size_toArray, Array.toList_map, Array.toList_range, List.getElem?_map, List.getElem?_range ht, Option.map_some]
    congr 1
    rw [getElem!_pos d.toArray _ (by simpa using hd)]
    simp only [List.getElem_toArray]
    rw [getElem!_pos (enc d[t / k]) (t % k) hm']
  · rw [List.getElem?_eq_none (by rw [Array.length_toList, size_flatK]; simpa using ht), List.getElem?_eq_none (by rw [h1, List.length_map]; omega)]
theorem Step.draws (R:Rel μ h w):∀n,Step μ h w μ h (Sort.ahead w n)
 | 0=>by rw [ahead_zero];exact Step.refl R
 | n+1=>by
  have S:=Step.draws R n
  rw [← ahead_drew]
  exact S.trans (Step.drew S.rel)
theorem Step.grown:∀ {w:World} {μ:Mu} (os:List Obj),Rel μ h w→∃μ',Step μ h w μ' h (grow w os.toArray)
 | w,μ,[],R=>by rw [grow_empty];exact ⟨μ,Step.refl R⟩
 | w,μ,o::os,R=>by
  obtain ⟨μ1,S1, -⟩:=Step.allocImm R o
  obtain ⟨μ2,S2⟩:=Step.grown os S1.rel
  refine ⟨μ2, ?_⟩
  have:grow w (o::os).toArray=grow (w.alloc o) os.toArray:=by
   rw [alloc_eq_grow,grow_grow];congr 1;simp
  rw [this]
  exact S1.trans S2
theorem Zok {blk off k:Nat} {cur F row:Array Value} {T:TypeId} {fr:Nat × Nat} (hb:w.heap[blk]? = some (.cells cur T fr)) (hfit:off+F.size≤cur.size) (hrow:row=(cur.toList.take off++F.toList++cur.toList.drop (off+F.size)).toArray):putRow id w blk off F=w.setRow blk row:=by
 have hc:putCells id off F cur=row:=by
  subst hrow
  apply Array.ext_getElem?
  intro i
  unfold putCells
  simp only [Array.getElem?_mapIdx,List.getElem?_toArray]
  by_cases hi:i<cur.size
  ·rw [Array.getElem?_eq_getElem hi]
   simp only [Option.map_some,id]
   by_cases h1:off≤i∧i<off+F.size
   ·rw [if_pos h1,List.append_assoc,List.getElem?_append_right (by simp;omega),List.getElem?_append_left (by simp;omega)]
    simp only [List.length_take,Array.length_toList]
    rw [show i-min off cur.size=i-off by omega,Array.getElem?_toList,getElem!_pos F _ (by omega),Array.getElem?_eq_getElem (by omega)]
   ·rw [if_neg h1]
    by_cases h2:i<off
    ·rw [List.append_assoc,List.getElem?_append_left (by simp;omega),List.getElem?_take,if_pos h2,Array.getElem?_toList,Array.getElem?_eq_getElem hi]
    ·rw [List.getElem?_append_right (by simp;omega),List.getElem?_drop]
     simp only [List.length_append,List.length_take,Array.length_toList]
     rw [show off+F.size+(i-(min off cur.size+F.size))=i by omega,Array.getElem?_toList,Array.getElem?_eq_getElem hi]
  ·rw [Array.getElem?_eq_none (by omega),List.getElem?_eq_none (by simp;omega)]
   rfl
 unfold putRow
 rw [mapBlock_congr w blk _ (fun _=>row) fun c e f he=>by
  rw [hb] at he
  injection he with he
  injection he with e1
  subst e1
  exact hc]
 unfold mapBlock World.setRow
 congr 1
theorem Zol {S:Nat→Prop} (F:Frame S w w') (hS:∀k,¬S k):∃q os,w'=grow (w.drewN q) os:=by
 refine ⟨w'.drawn-w.drawn,w'.heap.extract w.heap.size w'.heap.size, ?_⟩
 obtain ⟨f1,f2,f3,f4,f5,f6⟩:=F
 cases w with
 | mk hp tp dr os out=>
  cases w' with
  | mk hp' tp' dr' os' out'=>
   simp only [grow,World.drewN] at *
   subst f1 f2 f3
   congr 1
   ·apply Array.ext_getElem?
    intro i
    by_cases hi:i<hp.size
    ·rw [f6 i hi (hS i),Array.getElem?_append_left hi]
    ·rw [Array.getElem?_append_right (by omega),Array.getElem?_extract]
     split
     ·congr 1;omega
     ·rw [Array.getElem?_eq_none (by omega)]
   ·omega
theorem Zom {k g:Nat} {ok:List Value→Bool} {Fc:Fun} (hc:CSound P g Fc) {cf:RowE k ok→RowE k ok→Int} (hcf:∀x y,Fc [.agg (encE x.1), .agg (encE y.1)] []=some (.s (.int .i64 (cf x y)),[])) [Inhabited (RowE k ok)] (blk off size:Nat) (w:World):CmpLays P g #[] (fun x:RowE k ok=>x.1) k cf blk off size w:=by
 intro m os dk hs x y
 obtain ⟨W,hW⟩:∃W,W=sortWorldK (fun x:RowE k ok=>x.1) k w blk off m dk os:=⟨_,rfl⟩
 rw [← hW]
 have R:Rel { loc:=fun _ => .real 0 0 0,base:=W,imm:=fun _=>False } [] W:=Rel.nil fun k hk=>hk.elim
 obtain ⟨-,hcall⟩:=hc _ _ _ _ (hcf x y) _ W (#[.agg x.1.toArray, .agg y.1.toArray] ++ #[]) R (by
  simp only [VRs,VR]
  exact ⟨_,_,rfl,⟨_,rfl,VRs.encE x.2.2.1⟩,_,_,rfl,⟨_,rfl,VRs.encE y.2.2.1⟩,rfl⟩)
 refine hcall.mono ?_
 rintro e w' ⟨cv,μ2,rfl,S,hv⟩
 simp only [VR] at hv
 obtain ⟨-,rfl⟩:=hv
 exact ⟨rfl,Zol S.frame fun k hk=>Own.nil hk⟩
theorem Zon {ρ:Go.Shelf.Ren} {k g:Nat} {ok:List Value→Bool} {Fc:Fun} (L:SlLaysF0.n6 P ρ) (aE:∀w,(isAgg (ρ.t 24)).run P w = .ok true w) (zE:∀w,(Go.sizeOf (ρ.t 24)).run P w = .ok k w) (hgo:Goes P (ρ.f 6)) (hk0:0<k) (hc:CSound P g Fc) (hg:Goes P g):CSound P (ρ.f 6) (sortF k ok g Fc):=by
 intro args h v h' hk μ w cargs R hargs
 refine ⟨hgo, ?_⟩
 unfold sortF at hk
 split at hk<;>try (simp at hk;done)
 ·rename_i sz id off len fr full g'
  split at hk<;>try (simp at hk;done)
  rename_i sz' es own nil ho
  split at hk<;>try (simp at hk;done)
  rename_i hcond
  obtain ⟨rfl,rfl,rfl,hfr,rfl,hle,hlen,cf,hcf,hswo,hanti⟩:=hcond
  split at hk<;>try (simp at hk;done)
  rename_i l hl
  simp only [Option.some.injEq,Prod.mk.injEq] at hk
  obtain ⟨rfl,rfl⟩:=hk
  obtain ⟨d,rfl,hd⟩:=ZgR hl
  have hdl:d.length=len:=by
   have:=congrArg List.length hd
   rw [List.length_map,List.length_take,List.length_drop] at this
   omega
  have elt:∀x y:RowE sz' ok,ltF Fc x.1 y.1=ltOf cf x y:=fun x y=>by
   unfold ltF ltOf
   rw [hcf x y]
  have esort:(d.map (·.1)).mergeSort (fun x y => !ltF Fc y x)=(d.mergeSort fun x y => !ltOf cf y x).map (·.1):=by
   rw [List.map_mergeSort]
   intro a _ b _
   rw [elt]
  rw [esort,List.map_map]
  obtain ⟨d2,hd2⟩:∃d2,d2=d.mergeSort fun x y => !ltOf cf y x:=⟨_,rfl⟩
  have hd2l:d2.length=len:=by rw [hd2,List.length_mergeSort];exact hdl
  rw [← hd2]
  have e0:cargs.toList=cargs.toList:=rfl
  simp only [VRs] at hargs
  obtain ⟨v1,vs1,hq1,hv1,v2,vs2,rfl,hv2,rfl⟩:=hargs
  have hcargs:cargs = #[v1,v2]:=by apply Array.ext';simpa using hq1
  subst hcargs
  simp only [VR] at hv1 hv2
  obtain ⟨caps,rfl,hcaps⟩:=hv2
  have hcaps':caps = #[]:=by
   simp only [VRs] at hcaps
   apply Array.ext';simpa using hcaps
  subst hcaps'
  obtain ⟨A,c,rfl,hlc,hA, -,es2,own',nil',ho', -,hq⟩:=hv1
  rw [ho] at ho'
  injection ho' with ho'
  injection ho' with e1 e2 e3 e4
  subst e2 e3 e4
  have hsl:=hq hfr.symm
  by_cases h0:len=0
  ·subst h0
   have hd0:d2=[]:=List.eq_nil_of_length_eq_zero hd2l
   have e5:h.set id (.arr sz' (es.take off++d2.map ((encE ·) ∘ (·.1))++es.drop (off+0)) true nil)=h:=by
    rw [hd0]
    simp only [List.map_nil,List.append_nil,Nat.add_zero,List.take_append_drop]
    exact Z1f ho
   rw [e5]
   refine (AnyF.slices_SortFunc_none L A c _ w).mono ?_
   rintro e w' ⟨rfl,rfl⟩
   exact ⟨_,μ,rfl,Step.refl R,by simp [VR,VRs]⟩
  ·unfold SlOk at hsl
   split at hsl
   ·rename_i blk o cap hmu
    obtain ⟨a',rfl,hcap,hne⟩:=hsl
    have ha':=hne (by omega)
    have hO:=R.obj _ _ ho
    obtain ⟨cur,T,hbk,hcur,rfl,hlec,hcapm,h1,hr⟩:=ORel.own_flat hO hmu
    rw [Nat.zero_add] at ha'
    subst ha'
    obtain ⟨vs,g1,g2,g3,g4⟩:=Z6t R ho hmu off len hle
    rw [Nat.zero_add] at g4
    haveI:Inhabited (RowE sz' ok):=⟨d[0]'(by omega)⟩
    have hlenE:∀x:RowE sz' ok,x.1.length=sz':=fun x=>x.2.1
    have hflat:((es.drop off).take len).flatten=encE (d.map (·.1)).flatten:=by
     rw [hd]
     unfold encE
     rw [List.map_flatten,List.map_map]
     rfl
    rw [hflat] at g1
    have hvs:=VRs.encE_eq g1
    subst hvs
    have hfk:=ZgS (fun x:RowE sz' ok=>x.1) sz' hlenE d
    have hH:HoldsK (fun x:RowE sz' ok=>x.1) sz' w blk (off * sz') d.toArray:=by
     intro j hj
     have hj2:j<(flatK (fun x:RowE sz' ok=>x.1) sz' d.toArray).toList.length:=by simpa using hj
     refine ⟨g4 j _ ?_, ?_⟩
     ·rw [← hfk,List.getElem?_eq_getElem hj2,getElem!_pos (flatK (fun x:RowE sz' ok=>x.1) sz' d.toArray) j hj]
      rfl
     ·simp only [World.frozen?,hbk]
      simp
    have hblk:blk<w.heap.size:=(Array.getElem?_eq_some_iff.1 hbk).1
    have key:=AnyQ.slices_SortFunc_total L sz' aE zE (fun x:RowE sz' ok=>x.1) hlenE (fun x v hv=>Zc0 (x.2.2.1 v hv)) cf hswo g' #[] blk (off * sz') c d.toArray w (fun a W=>hg.run a W) (Zom hc hcf blk (off * sz') _ w) hH hblk (by simp;omega) hanti
    have hds:d.toArray.size=len:=by simpa using hdl
    rw [hds] at key
    refine key.mono ?_
    rintro e w' ⟨rfl,n,os,rfl⟩
    simp only []
    rw [← hd2]
    have S1:=Step.draws R n
    have hS:Sized sz' (d2.map ((encE ·) ∘ (·.1))):=by
     intro y hy
     obtain ⟨x, -,rfl⟩:=List.mem_map.1 hy
     refine ⟨by simp [encE,hlenE],fun c hc => ?_⟩
     simp only [Function.comp,encE,List.mem_map] at hc
     obtain ⟨u,hu,rfl⟩:=hc
     exact x.2.2.1 u hu
    have hgv:∀v ∈ (d2.map (·.1)).flatten,gv v=true:=by
     intro v hv
     obtain ⟨l,hl,hvl⟩:=List.mem_flatten.1 hv
     obtain ⟨x, -,rfl⟩:=List.mem_map.1 hl
     exact x.2.2.1 v hvl
    have hfl2:(d2.map ((encE ·) ∘ (·.1))).flatten=encE (d2.map (·.1)).flatten:=by
     unfold encE
     rw [List.map_flatten,List.map_map]
    have hvr:VRs μ h (d2.map ((encE ·) ∘ (·.1))).flatten (d2.map (·.1)).flatten:=by rw [hfl2];exact VRs.encE hgv
    obtain ⟨cur',T',row,q1,q2,q3,q4⟩:=Zee (P:=P) (off:=off) S1.rel ho hmu hS hvr (fun v hv=>Zc0 (hgv v hv)) (by simpa [hd2l] using hle)
    rw [List.length_map,hd2l] at q4
    have hfk2:=ZgS (fun x:RowE sz' ok=>x.1) sz' hlenE d2
    have hF:(flatK (fun x:RowE sz' ok=>x.1) sz' d2.toArray).size=(d2.map (·.1)).flatten.length:=by
     rw [← hfk2];simp
    have hcc:cur'=cur:=by
     have:(Sort.ahead w n).heap[blk]? = w.heap[blk]? := rfl
     rw [this,hbk] at q1
     injection q1 with q1
     injection q1 with q1
     exact q1.symm
    subst hcc
    have hput:putRowK (fun x:RowE sz' ok=>x.1) sz' (Sort.ahead w n) blk (off * sz') d2.toArray=(Sort.ahead w n).setRow blk row:=by
     unfold putRowK
     refine Zok (k:=sz') q1 ?_ (by rw [q2,hF,hfk2])
     rw [hF,(ZcT (l:=d2.map (·.1)) (k:=sz') (fun e he=>by obtain ⟨x, -,rfl⟩:=List.mem_map.1 he;exact hlenE x)).1,List.length_map,hd2l,hcur, ← Nat.add_mul]
     exact Nat.le_trans (Nat.mul_le_mul_right _ hle) (Nat.mul_le_mul_right _ hlec)
    unfold sortWorldK
    rw [hput]
    obtain ⟨μ3,S3⟩:=Step.grown os.toList q4.rel
    exact ⟨_,μ3,rfl,(S1.trans q4).trans (by simpa using S3),by simp [VR,VRs]⟩
   ·rename_i A' hmu
    obtain ⟨rfl,rfl, -⟩:=hsl
    have hz:=(R.obj _ _ ho).2
    rw [hmu] at hz
    have:=hz.1
    subst this
    simp at hle
    omega
 ·rename_i f caps
  simp only [Option.some.injEq,Prod.mk.injEq] at hk
  obtain ⟨rfl,rfl⟩:=hk
  simp only [VRs] at hargs
  obtain ⟨v1,vs1,hq1,hv1,v2,vs2,rfl,hv2,rfl⟩:=hargs
  have hcargs:cargs = #[v1,v2]:=by apply Array.ext';simpa using hq1
  subst hcargs
  simp only [VR] at hv1
  obtain ⟨-,rfl⟩:=hv1
  refine (AnyF.slices_SortFunc_none L none 0 v2 w).mono ?_
  rintro e w' ⟨rfl,rfl⟩
  exact ⟨_,μ,rfl,Step.refl R,by simp [VR,VRs]⟩
theorem Zoo {k g:Nat} {ok:List Value→Bool} {Fc:Fun} (hok:SortOk k ok Fc) {id off len fr:Nat} {full:Bool} {h:Hp} {es:List (List AV)} {nil:Bool} {l:List (List Value)} (ho:h[id]? = some (.arr k es true nil)) (hfr:es.length=fr) (hle:off+len≤es.length) (hlen:len<4611686018427387904) (hl:((es.drop off).take len).mapM (decE k ok)=some l):
  sortF k ok g Fc [.sl k id off len fr full, .fn g []] h=some (.tup [],h.set id (.arr k (es.take off++(l.mergeSort fun x y => !ltF Fc y x).map encE++es.drop (off+len)) true nil)):=by
 unfold sortF
 simp only [ho]
 rw [if_pos ⟨rfl,rfl,rfl,hfr,rfl,hle,hlen,hok⟩,hl]
end Go.AM
namespace Go.AM
open Go.RowKit Go.Sort Go.Proofs
def isI:Value→Bool
 | .int .i64 _=>true
 | _=>false
def okI (e:List Value):Bool:=e.all isI
def unI:Value→Int
 | .int _ n=>n
 | _=>0
def encZ (l:List Int):List AV:=l.map fun n => .s (.int .i64 n)
def valZ (l:List Int):List Value:=l.map fun n => .int .i64 n
theorem Z7h (l:List Int):encE (valZ l)=encZ l:=by simp [encE,valZ,encZ]
theorem Z7i:∀ {e:List Value},okI e=true→e=valZ (e.map unI)
 | [],_=>rfl
 | v::e,h=>by
  simp only [okI,List.all_cons,Bool.and_eq_true] at h
  have ih:=Z7i (e:=e) h.2
  cases v<;>simp [isI] at h
  rename_i kd n
  cases kd<;>simp at h
  simp only [List.map_cons,valZ,unI] at ih ⊢
  rw [← ih]
theorem Zop (l:List Int):okI (valZ l)=true:=by simp [okI,valZ,isI]
def lexZ:List Int→List Int→Int
 | a::as_,b::bs=>if a<b then -1 else if b<a then 1 else lexZ as_ bs
 | _,_=>0
def ltZ (a b:List Int):Bool:=decide (lexZ a b<0)
theorem ZgT:∀a,lexZ a a=0
 | []=>rfl
 | a::l=>by simp [lexZ,ZgT l]
theorem ZcU (a b:Int) (l r:List Int):ltZ (a::l) (b::r)=(decide (a<b)||(decide (a=b)&&ltZ l r)):=by
 unfold ltZ
 simp only [lexZ]
 by_cases h1:a<b
 ·simp [h1]
 ·by_cases h2:b<a
  ·have:a≠b:=by omega
   simp [h1,h2,this]
  ·have:a=b:=by omega
   simp [this]
theorem ZgU (a:List Int):ltZ a a=false:=by simp [ltZ,ZgT]
theorem Z7j:∀ {n:Nat} {a b c:List Int},a.length=n→b.length=n→c.length=n→ltZ a b=true→ltZ b c=true→ltZ a c=true
 | 0,a,b,c,ha,hb,hc,h1,h2=>by
  have:a=[]:=List.eq_nil_of_length_eq_zero ha
  subst this
  cases b<;>simp [ltZ,lexZ] at h1
 | n+1,[],b,c,ha,hb,hc,h1,h2=>by simp at ha
 | n+1,a::l,[],c,ha,hb,hc,h1,h2=>by simp at hb
 | n+1,a::l,b::r,[],ha,hb,hc,h1,h2=>by simp at hc
 | n+1,a::l,b::r,c::s,ha,hb,hc,h1,h2=>by
  rw [ZcU] at h1 h2 ⊢
  simp only [Bool.or_eq_true,Bool.and_eq_true,decide_eq_true_eq] at h1 h2 ⊢
  rcases h1 with h1 | ⟨h1,h1'⟩<;>rcases h2 with h2 | ⟨h2,h2'⟩
  ·exact .inl (by omega)
  ·exact .inl (by omega)
  ·exact .inl (by omega)
  ·exact .inr ⟨by omega,Z7j (n:=n) (by simpa using ha) (by simpa using hb) (by simpa using hc) h1' h2'⟩
theorem Z7k:∀ {n:Nat} {a b:List Int},a.length=n→b.length=n→ltZ a b=false→ltZ b a=false→a=b
 | 0,a,b,ha,hb,_,_=>by rw [List.eq_nil_of_length_eq_zero ha,List.eq_nil_of_length_eq_zero hb]
 | n+1,[],b,ha,hb,_,_=>by simp at ha
 | n+1,a::l,[],ha,hb,_,_=>by simp at hb
 | n+1,a::l,b::r,ha,hb,h1,h2=>by
  rw [ZcU] at h1 h2
  simp only [Bool.or_eq_false_iff,Bool.and_eq_false_iff,decide_eq_false_iff_not] at h1 h2
  have e:a=b:=by omega
  subst e
  rw [Z7k (n:=n) (a:=l) (b:=r) (by simpa using ha) (by simpa using hb) (by simpa using h1.2) (by simpa using h2.2)]
theorem Zoq {k:Nat} {Fc:Fun} (hf:∀x y:List Int,x.length=k→y.length=k→Fc [.agg (encZ x), .agg (encZ y)] []=some (.s (.int .i64 (lexZ x y)),[])):
  SortOk k okI Fc∧∀x y:List Int,x.length=k→y.length=k→ltF Fc (valZ x) (valZ y)=ltZ x y:=by
 constructor
 ·refine ⟨fun x y=>lexZ (x.1.map unI) (y.1.map unI),fun x y => ?_,⟨fun x => ?_,fun x y z h1 h2 => ?_,fun x y z h1 h2 => ?_⟩,fun x y h1 h2 => ?_⟩
  ·have:=hf (x.1.map unI) (y.1.map unI) (by simp [x.2.1]) (by simp [y.2.1])
   rw [← Z7h, ← Z7h, ← Z7i (e:=x.1) x.2.2.2, ← Z7i (e:=y.1) y.2.2.2] at this
   exact this
  ·show ltZ _ _=false
   exact ZgU _
  ·exact Z7j (n:=k) (a:=x.1.map unI) (b:=y.1.map unI) (c:=z.1.map unI) (by simp [x.2.1]) (by simp [y.2.1]) (by simp [z.2.1]) h1 h2
  ·have hx:(x.1.map unI).length=k:=by simp [x.2.1]
   have hy:(y.1.map unI).length=k:=by simp [y.2.1]
   have hz:(z.1.map unI).length=k:=by simp [z.2.1]
   change ltZ (x.1.map unI) (y.1.map unI)=false at h1
   change ltZ (y.1.map unI) (z.1.map unI)=false at h2
   show ltZ (x.1.map unI) (z.1.map unI)=false
   cases h3:ltZ (x.1.map unI) (z.1.map unI) with
   | false=>rfl
   | true=>
    cases h4:ltZ (z.1.map unI) (y.1.map unI) with
    | true=>rw [Z7j hx hz hy h3 h4] at h1;cases h1
    | false=>
     have:=Z7k hy hz h2 h4
     rw [this] at h1
     rw [h1] at h3
     cases h3
  ·have:=Z7k (n:=k) (a:=x.1.map unI) (b:=y.1.map unI) (by simp [x.2.1]) (by simp [y.2.1]) h1 h2
   apply Subtype.ext
   exact (Z7i (e:=x.1) x.2.2.2).trans ((congrArg valZ this).trans (Z7i (e:=y.1) y.2.2.2).symm)
 ·intro x y hx hy
  unfold ltF ltZ
  rw [Z7h,Z7h,hf x y hx hy]
theorem Zor {k:Nat} {l:List Int} (hl:l.length=k):decE k okI (encZ l)=some (valZ l):=by
 have h1:(encZ l).mapM cellV=some (valZ l):=by
  clear hl
  induction l with
  | nil=>rfl
  | cons n l ih=>
   simp only [encZ,valZ,List.map_cons,List.mapM_cons] at ih ⊢
   rw [ih]
   rfl
 unfold decE
 rw [h1]
 simp [valZ,hl]
 exact Zop l
theorem ZgV {k:Nat}:∀ {l:List (List Int)},(∀x ∈ l,x.length=k)→(l.map encZ).mapM (decE k okI)=some (l.map valZ)
 | [],_=>rfl
 | x::l,h=>by
  simp only [List.map_cons,List.mapM_cons]
  rw [Zor (h x (by simp)),ZgV fun y hy=>h y (by simp [hy])]
  rfl
theorem Zos {k g:Nat} {Fc:Fun} (hf:∀x y:List Int,x.length=k→y.length=k→Fc [.agg (encZ x), .agg (encZ y)] []=some (.s (.int .i64 (lexZ x y)),[])) {id off len fr:Nat} {full:Bool} {h:Hp} {es:List (List AV)} {nil:Bool} {l:List (List Int)}
  (ho:h[id]? = some (.arr k es true nil)) (hfr:es.length=fr) (hle:off+len≤es.length) (hlen:len<4611686018427387904) (hs:∀x ∈ l,x.length=k) (hl:(es.drop off).take len=l.map encZ):
  sortF k okI g Fc [.sl k id off len fr full, .fn g []] h=some (.tup [],h.set id (.arr k (es.take off++(l.mergeSort fun x y => !ltZ y x).map encZ++es.drop (off+len)) true nil)):=by
 obtain ⟨h1,h2⟩:=Zoq hf
 rw [Zoo (g:=g) (l:=l.map valZ) h1 ho hfr hle hlen (by rw [hl];exact ZgV hs)]
 have e:(l.map valZ).mergeSort (fun x y => !ltF Fc y x)=(l.mergeSort fun x y => !ltZ y x).map valZ:=by
  rw [List.map_mergeSort]
  intro a ha b hb
  rw [h2 b a (hs b hb) (hs a ha)]
 rw [e,List.map_map]
 have:encE ∘ valZ=encZ:=by funext x;exact Z7h x
 rw [this]
end Go.AM


namespace Go.Proofs
open Go.Shelf
def Try.sort83_ren:Go.Shelf.Ren:=⟨fun | 6=>83 | 15=>101 | 14=>100 | 28=>112 | 29=>113 | 20=>104 | 21=>105 | 22=>106 | 23=>107 | 24=>108 | 25=>109 | 26=>110 | 27=>111 | 46=>115 | 47=>116 | 48=>117 | 49=>118 | 50=>119 | 57=>120 | n=>n,fun | 22=>23 | 24=>27 | 25=>123 | 3=>3 | 39=>132 | 0=>0 | 53=>149 | 55=>55 | 4=>4 | 46=>143 | 45=>142 | 50=>117 | 5=>5 | 9=>9 | 66=>152 | 70=>156 | 76=>158 | 77=>159 | n=>n,fun | n=>n⟩
theorem Try.sort83:Go.Proofs.SlLaysF0.n6 Try.prog Try.sort83_ren:={
 mixed:=by kernel_rfl
 f6:=⟨Try.f83.name,by decide,Try.func83.trans (congrArg some (by kernel_rfl))⟩
 f14:=⟨Try.f100.name,by decide,Try.func100.trans (congrArg some (by kernel_rfl))⟩
 f15:=Try.func101.trans (congrArg some (by kernel_rfl))
 f20:=⟨Try.f104.name,by decide,Try.func104.trans (congrArg some (by kernel_rfl))⟩
 f21:=⟨Try.f105.name,by decide,Try.func105.trans (congrArg some (by kernel_rfl))⟩
 f22:=⟨Try.f106.name,by decide,Try.func106.trans (congrArg some (by kernel_rfl))⟩
 f23:=⟨Try.f107.name,by decide,Try.func107.trans (congrArg some (by kernel_rfl))⟩
 f24:=⟨Try.f108.name,by decide,Try.func108.trans (congrArg some (by kernel_rfl))⟩
 f25:=⟨Try.f109.name,by decide,Try.func109.trans (congrArg some (by kernel_rfl))⟩
 f26:=⟨Try.f110.name,by decide,Try.func110.trans (congrArg some (by kernel_rfl))⟩
 f27:=⟨Try.f111.name,by decide,Try.func111.trans (congrArg some (by kernel_rfl))⟩
 f28:=Try.func112.trans (congrArg some (by kernel_rfl))
 f29:=Try.func113.trans (congrArg some (by kernel_rfl))
 f46:=⟨Try.f115.name,by decide,Try.func115.trans (congrArg some (by kernel_rfl))⟩
 f47:=Try.func116.trans (congrArg some (by kernel_rfl))
 f48:=Try.func117.trans (congrArg some (by kernel_rfl))
 f49:=⟨Try.f118.name,by decide,Try.func118.trans (congrArg some (by kernel_rfl))⟩
 f50:=⟨Try.f119.name,by decide,Try.func119.trans (congrArg some (by kernel_rfl))⟩
 f57:=⟨Try.f120.name,by decide,Try.func120.trans (congrArg some (by kernel_rfl))⟩
 t0:=Try.underlying0
 a0:=Try.isAgg0
 z0:=Try.sizeOf0
 v0:=Try.zeroValue0
 t3:=Try.underlying3
 a3:=Try.isAgg3
 z3:=Try.sizeOf3
 v3:=Try.zeroValue3
 t4:=Try.underlying4
 a4:=Try.isAgg4
 z4:=Try.sizeOf4
 v4:=Try.zeroValue4
 t5:=Try.underlying5
 a5:=Try.isAgg5
 z5:=Try.sizeOf5
 v5:=Try.zeroValue5
 t9:=Try.underlying9
 a9:=Try.isAgg9
 z9:=Try.sizeOf9
 v9:=Try.zeroValue9
 t22:=Try.underlying23
 a22:=Try.isAgg23
 z22:=Try.sizeOf23
 v22:=Try.zeroValue23
 t25:=Try.underlying123
 a25:=Try.isAgg123
 z25:=Try.sizeOf123
 v25:=Try.zeroValue123
 t39:=Try.underlying132
 a39:=Try.isAgg132
 z39:=Try.sizeOf132
 v39:=Try.zeroValue132
 t45:=Try.underlying142
 a45:=Try.isAgg142
 z45:=Try.sizeOf142
 v45:=Try.zeroValue142
 t46:=Try.underlying143
 a46:=Try.isAgg143
 z46:=Try.sizeOf143
 v46:=Try.zeroValue143
 t50:=Try.underlying117
 a50:=Try.isAgg117
 z50:=Try.sizeOf117
 v50:=Try.zeroValue117
 t53:=Try.underlying149
 a53:=Try.isAgg149
 z53:=Try.sizeOf149
 v53:=Try.zeroValue149
 t55:=Try.underlying55
 a55:=Try.isAgg55
 z55:=Try.sizeOf55
 v55:=Try.zeroValue55
 t66:=Try.underlying152
 a66:=Try.isAgg152
 z66:=Try.sizeOf152
 v66:=Try.zeroValue152
 t70:=Try.underlying156
 a70:=Try.isAgg156
 z70:=Try.sizeOf156
 v70:=Try.zeroValue156
 t76:=Try.underlying158
 a76:=Try.isAgg158
 z76:=Try.sizeOf158
 v76:=Try.zeroValue158
 t77:=Try.underlying159
 a77:=Try.isAgg159
 z77:=Try.sizeOf159
 v77:=Try.zeroValue159 }
end Go.Proofs

