import Derived.Test.YtgmfphialjcpcaaGreatG3
import Derived.Shelf.RegionOpenPlain
import Derived.WalkKit
import Derived.Lib.Walk
import Derived.Lib.SliceRun
import Derived.Lib.JoinLaws
import Derived.Lib.AppendZerosOnto
import Derived.Lib.Overlaps
import Derived.Laws.Externs
import Derived.Laws.IdiomCopy
import Derived.Laws.NewBlocks
import Derived.Laws.CopyRow
set_option linter.unusedSectionVars false
set_option linter.unusedVariables false
set_option linter.unusedSimpArgs false
set_option linter.constructorNameAsVariable false
set_option maxRecDepth 100000
noncomputable section
namespace Go.AM
open Go.Proofs
variable(P:Program)(T:Tab)(D:DTab)(N:Nat){β:Type}
noncomputable def Zjm(P:Program)(T:Tab)(D:DTab)(N:Nat){β:Type}(K:Kb β)(t:Tm)(h:Hp):Option β:=
K (.tup [(.s (.int .i64 (-1))),(I 0)]) h
noncomputable def Z8l(P:Program)(T:Tab)(D:DTab)(N:Nat){β:Type}(t:Tm)(h:Hp)(k:Ex→St→Option β):Option β:=
arithK .lss (t 13) (t 12) λf=>
condK f (
iaK 10 (t 11) (t 13) λx7=>
ldK 10 true x7 h λx8=>
effK (boxE 10 (.agg zz10) (List.length h)) h λa p=>
effK (stE 10 a x8 p) p λe0 g=>
faK 0 a λq=>
ldK 1 false q g λr=>
arithK .lss r (I 1) λu=>
grpK false u g (λv=>
faK 0 a λw=>
ldK 1 false w g λx=>
arithK .gtr x (I 99) λy=>
v y g) λz j=>
grpK false z j (λa0=>
faK 1 a λa1=>
ldK 1 false a1 j λa2=>
arithK .lss a2 (I 1) λa3=>
a0 a3 j) λa4 l=>
grpK false a4 l (λa5=>
faK 1 a λa6=>
ldK 1 false a6 l λa7=>
arithK .gtr a7 (I 99) λa8=>
a5 a8 l) λa9 m=>
grpK false a9 m (λb0=>
faK 2 a λb1=>
ldK 1 false b1 m λb2=>
arithK .lss b2 (I 1) λb3=>
b0 b3 m) λb4 n=>
grpK false b4 n (λb5=>
faK 2 a λb6=>
ldK 1 false b6 n λb7=>
arithK .gtr b7 (I 1073741824) λb8=>
b5 b8 n) λd c=>
condK d (
k .ret ((upd (upd (upd (upd (upd (upd t 14 f) 6 a) 5 (t 13)) 18 d) 2 (t 13)) 3 (I 2)),c)) (
faK 0 a λb9=>
ldK 1 false b9 c λc0=>
faK 1 a λc1=>
ldK 1 false c1 c λc2=>
eqK P false 3 c0 c2 c λe=>
condK e (
k .ret ((upd (upd (upd (upd (upd (upd (upd t 14 f) 6 a) 5 (t 13)) 18 d) 48 e) 2 (t 13)) 3 (I 10)),c)) (
faK 3 a λc3=>
ldK 7 true c3 c λc4=>
callK (T 41) [c4] c λc5 b=>
eqK P true 35 c5 (I 0) b λi=>
condK i (
k .ret ((upd (upd (upd (upd (upd (upd (upd (upd t 14 f) 6 a) 5 (t 13)) 18 d) 48 e) 55 i) 2 (t 13)) 3 (I 1)),b)) (
faK 0 a λc6=>
ldK 1 false c6 b λc7=>
faK 2 a λc8=>
ldK 1 false c8 b λc9=>
buildK zz2 [(some (0,1),c7),(some (1,1),c9)] λd0=>
lookK P 107 (.s (.bool false)) false (t 4) d0 b λo=>
condK o (
k .ret ((upd (upd (upd (upd (upd (upd (upd (upd (upd t 14 f) 6 a) 5 (t 13)) 18 d) 48 e) 55 i) 61 o) 2 (t 13)) 3 (I 6)),b)) (
faK 0 a λd1=>
ldK 1 false d1 b λd2=>
faK 2 a λd3=>
ldK 1 false d3 b λd4=>
buildK zz2 [(some (0,1),d2),(some (1,1),d4)] λd5=>
effK (mupE P 107 (t 4) d5 (.s (.bool true)) b) b λe1 d6=>
arithK .add (t 13) (I 1) λd7=>
k .normal ((upd (upd (upd (upd (upd (upd (upd (upd t 14 f) 6 a) 5 (t 13)) 18 d) 48 e) 55 i) 61 o) 13 d7),d6)))))) (
k (.exit 0) ((upd t 14 f),h))
noncomputable def Zbv(P:Program)(T:Tab)(D:DTab)(N:Nat){β:Type}(K:Kb β)(e:Ex)(s:St):Option β:=
 e.on ((Zjm P T D N K s.1 s.2))
 (λi=>bif i==0 then ((Zjm P T D N K s.1 s.2)) else (none))
 (K (.tup [(s.1 2),(s.1 3)]) s.2)
noncomputable def Zjn(P:Program)(T:Tab)(D:DTab)(N:Nat){β:Type}(cL2:St→Option β)(K:Kb β)(a0:AV)(h:Hp) :  Option β:=
lenK a0 λb=>
arithK .gtr b (I 64) λa=>
condK a (
K (.tup [(.s (.int .i64 (-1))),(I 8)]) h) (
effK (some (.mp (List.length h),EN (.map []))) h λc d=>
lenK a0 λe=>
cL2 ((upd (upd (upd (upd (upd (upd (upd (tm0 [a0]) 2 (I 0)) 3 (I 0)) 9 a) 4 c) 11 a0) 12 e) 13 (I 0)),d))
noncomputable def Zjo(P:Program)(T:Tab)(D:DTab)(N:Nat){β:Type}(K:Kb β)(a0:AV)(h:Hp):Option β:=Zjn P T D N (λs=>iterK (λs k=>Z8l P T D N s.1 s.2 k) N s (Zbv P T D N K)) K a0 h
noncomputable def Zfs(P:Program)(T:Tab)(D:DTab)(N:Nat){β:Type}(K:Kb β)(h:Hp):Option β:=
K (.tup [(.s (.int .i64 (-1))),(I 0)]) h
noncomputable def Z8m(P:Program)(T:Tab)(D:DTab)(N:Nat){β:Type}(xn:AV→AV→AV→Kb β)(x0:Qb β)(xr:AV→Kb β)(n k l c:AV)(h:Hp):Option β:=
arithK .lss c l λx6=>
condK x6 (
iaK 10 k c λx7=>
ldK 10 true x7 h λx8=>
effK (boxE 10 (.agg zz10) (List.length h)) h λb m=>
effK (stE 10 b x8 m) m λe3 e=>
faK 0 b λo=>
ldK 1 false o e λp=>
arithK .lss p (I 1) λq=>
grpK false q e (λr=>
faK 0 b λt=>
ldK 1 false t e λu=>
arithK .gtr u (I 99) λv=>
r v e) λw f=>
grpK false w f (λx=>
faK 1 b λy=>
ldK 1 false y f λz=>
arithK .lss z (I 1) λa0=>
x a0 f) λa1 g=>
grpK false a1 g (λa2=>
faK 1 b λa3=>
ldK 1 false a3 g λa4=>
arithK .gtr a4 (I 99) λa5=>
a2 a5 g) λa6 i=>
grpK false a6 i (λa7=>
faK 2 b λa8=>
ldK 1 false a8 i λa9=>
arithK .lss a9 (I 1) λb0=>
a7 b0 i) λb1 j=>
grpK false b1 j (λb2=>
faK 2 b λb3=>
ldK 1 false b3 j λb4=>
arithK .gtr b4 (I 1073741824) λb5=>
b2 b5 j) λb6 d=>
condK b6 (
xr c (I 2) d) (
faK 0 b λb7=>
ldK 1 false b7 d λb8=>
faK 1 b λb9=>
ldK 1 false b9 d λc0=>
eqK P false 3 b8 c0 d λc1=>
condK c1 (
xr c (I 10) d) (
faK 3 b λc2=>
ldK 7 true c2 d λc3=>
callK (T 41) [c3] d λc4 a=>
eqK P true 35 c4 (I 0) a λc5=>
condK c5 (
xr c (I 1) a) (
faK 0 b λc6=>
ldK 1 false c6 a λc7=>
faK 2 b λc8=>
ldK 1 false c8 a λc9=>
buildK zz2 [(some (0,1),c7),(some (1,1),c9)] λd0=>
lookK P 107 (.s (.bool false)) false n d0 a λd1=>
condK d1 (
xr c (I 6) a) (
faK 0 b λd2=>
ldK 1 false d2 a λd3=>
faK 2 b λd4=>
ldK 1 false d4 a λd5=>
buildK zz2 [(some (0,1),d3),(some (1,1),d5)] λd6=>
effK (mupE P 107 n d6 (.s (.bool true)) a) a λe4 d7=>
arithK .add c (I 1) λd8=>
xn n k l d8 d7))))) (
x0 h)
noncomputable def Z4Q(P:Program)(T:Tab)(D:DTab)(N:Nat){β:Type}(a:Qb β)(xr:AV→Kb β):Nat→AV→AV→AV→Kb β
 | 0=>λ_ _ _ _ _=>none
 | n+1=>λe b c d h=>Z8m P T D N (Z4Q P T D N a xr n) a xr e b c d h
noncomputable def Z8n(P:Program)(T:Tab)(D:DTab)(N:Nat){β:Type}(K:Kb β)(a0:AV)(h:Hp):Option β:=
lenK a0 λc=>
arithK .gtr c (I 64) λd=>
condK d (
K (.tup [(.s (.int .i64 (-1))),(I 8)]) h) (
effK (some (.mp (List.length h),EN (.map []))) h λe f=>
lenK a0 λg=>
Z4Q P T D N (λh=>Zfs P T D N K h) (λa b h=>K (.tup [a,b]) h) N e a0 g (I 0) f)
theorem Zr2(xn:AV→AV→AV→Kb β)(x0:Qb β)(xr:AV→Kb β)(xd:Nat→St→Option β)(xq:St→Option β)(t:Tm)(h:Hp):Z8l P T D N t h (λ(e:Ex)(s:St)=>e.on (xn (s.1 4) (s.1 11) (s.1 12) (s.1 13) s.2) (λi=>(bif i==0 then x0 s.2 else (xd i s))) (xr (s.1 2) (s.1 3) s.2))=Z8m P T D N xn x0 xr (t 4) (t 11) (t 12) (t 13) h:=by kernel_rfl
theorem Zr3(A:Ex→St→Option β)(x0:Qb β)(xr:AV→Kb β)(q0:∀s,A (.exit 0) s=x0 s.2)(qr:∀s,A .ret s=xr (s.1 2) (s.1 3) s.2):∀(n:Nat)(s:St),iterK (λs k=>Z8l P T D N s.1 s.2 k) n s A=Z4Q P T D N x0 xr n (s.1 4) (s.1 11) (s.1 12) (s.1 13) s.2:=
 Z0O (exs1 q0 qr) (λs=>rfl) λn s=>Zr2 P T D N (Z4Q P T D N x0 xr n) x0 xr (λi s=>A (.exit i) s) (λs=>A .ret s) s.1 s.2
theorem Zr4(K:Kb β)(a0:AV)(h:Hp):Zjo P T D N K a0 h=Z8n P T D N K a0 h:=by
 have eL2:(λs:St=>iterK (λs k=>Z8l P T D N s.1 s.2 k) N s (Zbv P T D N K))=(λs:St=>Z4Q P T D N (λh=>Zfs P T D N K h) (λw71_2 w71_3 h=>K (.tup [w71_2,w71_3]) h) N (s.1 4) (s.1 11) (s.1 12) (s.1 13) s.2):=funext λs=>Zr3 P T D N (Zbv P T D N K) (λh=>Zfs P T D N K h) (λw71_2 w71_3 h=>K (.tup [w71_2,w71_3]) h) (λs=>rfl) (λs=>rfl) N s
 show Zjn P T D N (λs=>iterK (λs k=>Z8l P T D N s.1 s.2 k) N s (Zbv P T D N K)) K a0 h=_
 rw[eL2]
 kernel_rfl
theorem Zr5(K:Kb β)(a0:AV)(h:Hp):runK Tryz.prog T D N [0,2,3,4,5,6,9,11,12,13,14,18,48,55,61] Tryz.f47 K [a0] h=Z8n Tryz.prog T D N K a0 h:=Eq.trans (b:=Zjo Tryz.prog T D N K a0 h) (by kernel_rfl) (Zr4 Tryz.prog T D N K a0 h)
noncomputable def Zjp(P:Program)(T:Tab)(D:DTab)(N:Nat){β:Type}(K:Kb β)(t:Tm)(h:Hp):Option β:=
sliceK 10 (t 0) (some (t 5)) none none λa=>
effK (clrE 10 zz10 a h) h λd b=>
sliceK 10 (t 0) none (some (t 5)) none λc=>
K c b
noncomputable def Zr6(P:Program)(T:Tab)(D:DTab)(N:Nat){β:Type}(k:Ex→St→Option β)(t:Tm)(h:Hp):Option β:=
arithK .add (t 6) (I 1) λa=>
k .normal ((upd t 6 a),h)
noncomputable def Zjq(P:Program)(T:Tab)(D:DTab)(N:Nat){β:Type}(k:Ex→St→Option β)(t:Tm)(h:Hp):Option β:=
(Zr6 P T D N k t h)
noncomputable def Z8o(P:Program)(T:Tab)(D:DTab)(N:Nat){β:Type}(t:Tm)(h:Hp)(k:Ex→St→Option β):Option β:=
lenK (t 0) λq=>
arithK .lss (t 6) q λb=>
condK b (
iaK 10 (t 0) (t 6) λg=>
ldK 10 true g h λi=>
effK (boxE 10 (.agg zz10) (List.length h)) h λa e=>
effK (stE 10 a i e) e λr f=>
ldK 10 true a f λj=>
callVK T (t 1) [j] f λl c=>
notK l λd=>
condK d (
ldK 10 true a c λm=>
iaK 10 (t 0) (t 5) λn=>
effK (stE 10 n m c) c λs o=>
arithK .add (t 5) (I 1) λp=>
(Zjq P T D N k (upd (upd (upd (upd t 19 b) 7 a) 29 d) 5 p) o)) (
(Zjq P T D N k (upd (upd (upd t 19 b) 7 a) 29 d) c))) (
k (.exit 0) ((upd t 19 b),h))
noncomputable def Zbw(P:Program)(T:Tab)(D:DTab)(N:Nat){β:Type}(K:Kb β)(e:Ex)(s:St):Option β:=
 e.on ((Zjp P T D N K s.1 s.2))
 (λi=>bif i==0 then ((Zjp P T D N K s.1 s.2)) else (none))
 (K (s.1 4) s.2)
noncomputable def Zjr(P:Program)(T:Tab)(D:DTab)(N:Nat){β:Type}(cL2:St→Option β)(K:Kb β)(a0 a1:AV)(h:Hp) :  Option β:=
callK (T 72) [a0,a1] h λa b=>
eqK P false 3 a (.s (.int .i64 (-1))) b λc=>
condK c (
K a0 b) (
arithK .add a (I 1) λd=>
cL2 ((upd (upd (upd (upd (tm0 [a0,a1]) 4 nilS) 5 a) 12 c) 6 d),b))
noncomputable def Zjs(P:Program)(T:Tab)(D:DTab)(N:Nat){β:Type}(K:Kb β)(a0 a1:AV)(h:Hp):Option β:=Zjr P T D N (λs=>iterK (λs k=>Z8o P T D N s.1 s.2 k) N s (Zbw P T D N K)) K a0 a1 h
noncomputable def Z8p(P:Program)(T:Tab)(D:DTab)(N:Nat){β:Type}(K:Kb β)(a b:AV)(h:Hp):Option β:=
sliceK 10 a (some b) none none λc=>
effK (clrE 10 zz10 c h) h λf d=>
sliceK 10 a none (some b) none λe=>
K e d
noncomputable def Zft(P:Program)(T:Tab)(D:DTab)(N:Nat){β:Type}(xn:AV→AV→AV→Kb β)(f:AV→Kb β)(b c d e:AV)(h:Hp):Option β:=
arithK .add e (I 1) λa=>
xn b c d a h
noncomputable def Zbx(P:Program)(T:Tab)(D:DTab)(N:Nat){β:Type}(xn:AV→AV→AV→Kb β)(a:AV→Kb β)(b c d e:AV)(h:Hp):Option β:=
Zft P T D N xn a b c d e h
noncomputable def Z41(P:Program)(T:Tab)(D:DTab)(N:Nat){β:Type}(xn:AV→AV→AV→Kb β)(i:AV→Kb β)(b j d e:AV)(h:Hp):Option β:=
lenK b λu=>
arithK .lss e u λk=>
condK k (
iaK 10 b e λl=>
ldK 10 true l h λm=>
effK (boxE 10 (.agg zz10) (List.length h)) h λc f=>
effK (stE 10 c m f) f λv g=>
ldK 10 true c g λn=>
callVK T j [n] g λo a=>
notK o λp=>
condK p (
ldK 10 true c a λq=>
iaK 10 b d λr=>
effK (stE 10 r q a) a λw s=>
arithK .add d (I 1) λt=>
Zbx P T D N xn i b j t e s) (
Zbx P T D N xn i b j d e a)) (
i b d h)
noncomputable def Z3f(P:Program)(T:Tab)(D:DTab)(N:Nat){β:Type}(a:AV→Kb β):Nat→AV→AV→AV→Kb β
 | 0=>λ_ _ _ _ _=>none
 | n+1=>λb c d e h=>Z41 P T D N (Z3f P T D N a n) a b c d e h
noncomputable def Z42(P:Program)(T:Tab)(D:DTab)(N:Nat){β:Type}(K:Kb β)(a0 a1:AV)(h:Hp):Option β:=
callK (T 72) [a0,a1] h λc d=>
eqK P false 3 c (.s (.int .i64 (-1))) d λe=>
condK e (
K a0 d) (
arithK .add c (I 1) λf=>
Z3f P T D N (λa b h=>Z8p P T D N K a b h) N a0 a1 c f d)
theorem Zr7(xn:AV→AV→AV→Kb β)(x0:AV→Kb β)(xd:Nat→St→Option β)(xq:St→Option β)(t:Tm)(h:Hp):Z8o P T D N t h (λ(e:Ex)(s:St)=>e.on (xn (s.1 0) (s.1 1) (s.1 5) (s.1 6) s.2) (λi=>(bif i==0 then x0 (s.1 0) (s.1 5) s.2 else (xd i s))) (xq s))=Z41 P T D N xn x0 (t 0) (t 1) (t 5) (t 6) h:=by kernel_rfl
theorem Zr8(A:Ex→St→Option β)(x0:AV→Kb β)(q0:∀s,A (.exit 0) s=x0 (s.1 0) (s.1 5) s.2):∀(n:Nat)(s:St),iterK (λs k=>Z8o P T D N s.1 s.2 k) n s A=Z3f P T D N x0 n (s.1 0) (s.1 1) (s.1 5) (s.1 6) s.2:=
 Z0O (exs1 q0 (λs=>rfl)) (λs=>rfl) λn s=>Zr7 P T D N (Z3f P T D N x0 n) x0 (λi s=>A (.exit i) s) (λs=>A .ret s) s.1 s.2
theorem Zr9(K:Kb β)(a0 a1:AV)(h:Hp):Zjs P T D N K a0 a1 h=Z42 P T D N K a0 a1 h:=by
 have eL2:(λs:St=>iterK (λs k=>Z8o P T D N s.1 s.2 k) N s (Zbw P T D N K))=(λs:St=>Z3f P T D N (λw27_0 w27_5 h=>Z8p P T D N K w27_0 w27_5 h) N (s.1 0) (s.1 1) (s.1 5) (s.1 6) s.2):=funext λs=>Zr8 P T D N (Zbw P T D N K) (λw27_0 w27_5 h=>Z8p P T D N K w27_0 w27_5 h) (λs=>rfl) N s
 show Zjr P T D N (λs=>iterK (λs k=>Z8o P T D N s.1 s.2 k) N s (Zbw P T D N K)) K a0 a1 h=_
 rw[eL2]
 kernel_rfl
theorem Zra(K:Kb β)(a0 a1:AV)(h:Hp):runK Tryz.prog T D N [0,1,4,5,6,7,12,19,29] Tryz.f48 K [a0,a1] h=Z42 Tryz.prog T D N K a0 a1 h:=Eq.trans (b:=Zjs Tryz.prog T D N K a0 a1 h) (by kernel_rfl) (Zr9 Tryz.prog T D N K a0 a1 h)
noncomputable def Zby(P:Program)(T:Tab)(D:DTab)(N:Nat){β:Type}(K:Kb β)(a0 a1:AV)(h:Hp):Option β:=
effK (boxE 10 a0 (List.length h)) h λb a=>
faK 1 b λc=>
ldK 1 false c a λd=>
ldK 1 false a1 a λe=>
eqK P true 3 d e a λf=>
K f a
theorem Zrb(K:Kb β)(a0 a1:AV)(h:Hp):runK Tryz.prog T D N [0,1,2,3] Tryz.f49 K [a0,a1] h=Zby Tryz.prog T D N K a0 a1 h:=by kernel_rfl
noncomputable def Zjt(P:Program)(T:Tab)(D:DTab)(N:Nat){β:Type}(K:Kb β)(t:Tm)(h:Hp):Option β:=
K (.tup []) h
noncomputable def Z8q(P:Program)(T:Tab)(D:DTab)(N:Nat){β:Type}(t:Tm)(h:Hp)(k:Ex→St→Option β):Option β:=
arithK .lss (t 8) (t 7) λc=>
condK c (
iaK 10 (t 6) (t 8) λu=>
ldK 10 true u h λv=>
effK (boxE 10 (.agg zz10) (List.length h)) h λd f=>
effK (stE 10 d v f) f λw a=>
ldK 1 false (t 2) a λg=>
reckK P .shr 29 g (t 8) λi=>
reckK P .and 29 i (.s (.int .u64 1)) λj=>
eqK P false 29 j (.s (.int .u64 1)) a λl=>
grpK true l a (λm=>
ldK 10 true d a λn=>
callVK T (t 0) [(t 8),n] a λo p=>
notK o λq=>
m q p) λb e=>
condK b (
k .ret ((upd (upd (upd (upd t 9 c) 5 d) 4 (t 8)) 24 b),e)) (
arithK .add (t 8) (I 1) λr=>
k .normal ((upd (upd (upd (upd (upd t 9 c) 5 d) 4 (t 8)) 24 b) 8 r),e))) (
k (.exit 0) ((upd t 9 c),h))
noncomputable def Zbz(P:Program)(T:Tab)(D:DTab)(N:Nat){β:Type}(K:Kb β)(e:Ex)(s:St):Option β:=
 e.on ((Zjt P T D N K s.1 s.2))
 (λi=>bif i==0 then ((Zjt P T D N K s.1 s.2)) else (none))
 (K (.tup []) s.2)
noncomputable def Zju(P:Program)(T:Tab)(D:DTab)(N:Nat){β:Type}(cL2:St→Option β)(K:Kb β)(a0 a1 a2:AV)(h:Hp) :  Option β:=
ldK 1 false a1 h λa=>
lenK a λb=>
cL2 ((upd (upd (upd (tm0 [a0,a1,a2]) 6 a) 7 b) 8 (I 0)),h)
noncomputable def Zjv(P:Program)(T:Tab)(D:DTab)(N:Nat){β:Type}(K:Kb β)(a0 a1 a2:AV)(h:Hp):Option β:=Zju P T D N (λs=>iterK (λs k=>Z8q P T D N s.1 s.2 k) N s (Zbz P T D N K)) K a0 a1 a2 h
noncomputable def Z8r(P:Program)(T:Tab)(D:DTab)(N:Nat){β:Type}(K:Kb β)(h:Hp):Option β:=
K (.tup []) h
noncomputable def Z43(P:Program)(T:Tab)(D:DTab)(N:Nat){β:Type}(xn:AV→AV→AV→AV→Kb β)(w:Qb β)(xr:Qb β)(d e f g a:AV)(h:Hp):Option β:=
arithK .lss a g λx=>
condK x (
iaK 10 f a λy=>
ldK 10 true y h λz=>
effK (boxE 10 (.agg zz10) (List.length h)) h λi j=>
effK (stE 10 i z j) j λx8 b=>
ldK 1 false e b λk=>
reckK P .shr 29 k a λl=>
reckK P .and 29 l (.s (.int .u64 1)) λm=>
eqK P false 29 m (.s (.int .u64 1)) b λn=>
grpK true n b (λo=>
ldK 10 true i b λp=>
callVK T d [a,p] b λq r=>
notK q λt=>
o t r) λu c=>
condK u (
xr c) (
arithK .add a (I 1) λv=>
xn d e f g v c)) (
w h)
noncomputable def Z2H(P:Program)(T:Tab)(D:DTab)(N:Nat){β:Type}(a:Qb β)(xr:Qb β):Nat→AV→AV→AV→AV→Kb β
 | 0=>λ_ _ _ _ _ _=>none
 | n+1=>λb c d e f h=>Z43 P T D N (Z2H P T D N a xr n) a xr b c d e f h
noncomputable def Z8s(P:Program)(T:Tab)(D:DTab)(N:Nat){β:Type}(K:Kb β)(a0 a1 a2:AV)(h:Hp):Option β:=
ldK 1 false a1 h λa=>
lenK a λb=>
Z2H P T D N (λh=>Z8r P T D N K h) (λh=>K (.tup []) h) N a0 a2 a b (I 0) h
theorem Zrc(xn:AV→AV→AV→AV→Kb β)(x0:Qb β)(xr:Qb β)(xd:Nat→St→Option β)(xq:St→Option β)(t:Tm)(h:Hp):Z8q P T D N t h (λ(e:Ex)(s:St)=>e.on (xn (s.1 0) (s.1 2) (s.1 6) (s.1 7) (s.1 8) s.2) (λi=>(bif i==0 then x0 s.2 else (xd i s))) (xr s.2))=Z43 P T D N xn x0 xr (t 0) (t 2) (t 6) (t 7) (t 8) h:=by kernel_rfl
theorem Zrd(A:Ex→St→Option β)(x0:Qb β)(xr:Qb β)(q0:∀s,A (.exit 0) s=x0 s.2)(qr:∀s,A .ret s=xr s.2):∀(n:Nat)(s:St),iterK (λs k=>Z8q P T D N s.1 s.2 k) n s A=Z2H P T D N x0 xr n (s.1 0) (s.1 2) (s.1 6) (s.1 7) (s.1 8) s.2:=
 Z0O (exs1 q0 qr) (λs=>rfl) λn s=>Zrc P T D N (Z2H P T D N x0 xr n) x0 xr (λi s=>A (.exit i) s) (λs=>A .ret s) s.1 s.2
theorem Zre(K:Kb β)(a0 a1 a2:AV)(h:Hp):Zjv P T D N K a0 a1 a2 h=Z8s P T D N K a0 a1 a2 h:=by
 have eL2:(λs:St=>iterK (λs k=>Z8q P T D N s.1 s.2 k) N s (Zbz P T D N K))=(λs:St=>Z2H P T D N (λh=>Z8r P T D N K h) (λh=>K (.tup []) h) N (s.1 0) (s.1 2) (s.1 6) (s.1 7) (s.1 8) s.2):=funext λs=>Zrd P T D N (Zbz P T D N K) (λh=>Z8r P T D N K h) (λh=>K (.tup []) h) (λs=>rfl) (λs=>rfl) N s
 show Zju P T D N (λs=>iterK (λs k=>Z8q P T D N s.1 s.2 k) N s (Zbz P T D N K)) K a0 a1 a2 h=_
 rw[eL2]
 kernel_rfl
theorem Zrf(K:Kb β)(a0 a1 a2:AV)(h:Hp):runK Tryz.prog T D N [0,1,2,4,5,6,7,8,9,24] Tryz.f50 K [a0,a1,a2] h=Z8s Tryz.prog T D N K a0 a1 a2 h:=Eq.trans (b:=Zjv Tryz.prog T D N K a0 a1 a2 h) (by kernel_rfl) (Zre Tryz.prog T D N K a0 a1 a2 h)
noncomputable def ZbA(P:Program)(T:Tab)(D:DTab)(N:Nat){β:Type}(K:Kb β)(a0 a1:AV)(h:Hp):Option β:=
effK (boxE 2 a1 (List.length h)) h λb a=>
ldK 2 true b a λc=>
callK (T 73) [a0,c] a λd e=>
arithK .geq d (I 0) λf=>
K f e
theorem Zrg(K:Kb β)(a0 a1:AV)(h:Hp):runK Tryz.prog T D N [0,1,3,4] Tryz.f51 K [a0,a1] h=ZbA Tryz.prog T D N K a0 a1 h:=by kernel_rfl
noncomputable def ZbB(P:Program)(T:Tab)(D:DTab)(N:Nat){β:Type}(K:Kb β)(a0 a1:AV)(h:Hp):Option β:=
effK (boxE 7 a1 (List.length h)) h λb a=>
ldK 7 true b a λc=>
callK (T 74) [a0,c] a λd e=>
arithK .geq d (I 0) λf=>
K f e
theorem Zrh(K:Kb β)(a0 a1:AV)(h:Hp):runK Tryz.prog T D N [0,1,3,4] Tryz.f52 K [a0,a1] h=ZbB Tryz.prog T D N K a0 a1 h:=by kernel_rfl
noncomputable def Z8t(P:Program)(T:Tab)(D:DTab)(N:Nat){β:Type}(K:Kb β)(a0 a1 a2:AV)(h:Hp):Option β:=
effK (boxE 2 a1 (List.length h)) h λb e=>
ldK 2 true b e λo=>
callK (T 75) [a0,o,a2] e λf c=>
exK f 0 λp=>
exK f 1 λr=>
effD (callE (D 26) [a0] c (List.length c)) c λq d g=>
ldK 2 true b d λi=>
effD (bsE 2 zz2 1 [(0,i)] (List.length d)) d λj a k=>
effD (callE (D 76) [q,p,j] a (List.length a)) a λl m n=>
bif disjAll [(1,3),(1,4)] [([],[]),g,([],[]),((idsOf b),[]),k,n,([],[])] then (
K l m) else none
theorem Zri(K:Kb β)(a0 a1 a2:AV)(h:Hp):runK Tryz.prog T D N [0,1,2,4,6,7] Tryz.f53 K [a0,a1,a2] h=Z8t Tryz.prog T D N K a0 a1 a2 h:=by kernel_rfl
noncomputable def Zjw(P:Program)(T:Tab)(D:DTab)(N:Nat){β:Type}(K:Kb β)(t:Tm)(h:Hp):Option β:=
K (t 5) h
noncomputable def Zjx(P:Program)(T:Tab)(D:DTab)(N:Nat){β:Type}(k:Ex→St→Option β)(t:Tm)(h:Hp):Option β:=
k .normal (t,h)
noncomputable def Z8u(P:Program)(T:Tab)(D:DTab)(N:Nat){β:Type}(t:Tm)(h:Hp)(k:Ex→St→Option β):Option β:=
arithK .lss (t 5) (t 6) λb=>
condK b (
arithK .add (t 5) (t 6) λe=>
convK P 3 114 e λf=>
reckK P .shr 114 f (.s (.int .u64 1)) λg=>
convK P 114 3 g λa=>
callVK T (t 1) [a] h λi d=>
notK i λc=>
condK c (
arithK .add a (I 1) λj=>
(Zjx P T D N k (upd (upd (upd (upd t 11 b) 7 a) 21 c) 5 j) d)) (
(Zjx P T D N k (upd (upd (upd (upd t 11 b) 7 a) 21 c) 6 a) d))) (
k (.exit 0) ((upd t 11 b),h))
noncomputable def ZbC(P:Program)(T:Tab)(D:DTab)(N:Nat){β:Type}(K:Kb β)(e:Ex)(s:St):Option β:=
 e.on ((Zjw P T D N K s.1 s.2))
 (λi=>bif i==0 then ((Zjw P T D N K s.1 s.2)) else (none))
 (K (s.1 4) s.2)
noncomputable def Zjy(P:Program)(T:Tab)(D:DTab)(N:Nat){β:Type}(cL2:St→Option β)(K:Kb β)(a0 a1:AV)(h:Hp) :  Option β:=
cL2 ((upd (upd (upd (tm0 [a0,a1]) 4 (I 0)) 5 (I 0)) 6 a0),h)
noncomputable def Zjz(P:Program)(T:Tab)(D:DTab)(N:Nat){β:Type}(K:Kb β)(a0 a1:AV)(h:Hp):Option β:=Zjy P T D N (λs=>iterK (λs k=>Z8u P T D N s.1 s.2 k) N s (ZbC P T D N K)) K a0 a1 h
noncomputable def ZbD(P:Program)(T:Tab)(D:DTab)(N:Nat){β:Type}(K:Kb β)(a:AV)(h:Hp):Option β:=
K a h
noncomputable def Zfu(P:Program)(T:Tab)(D:DTab)(N:Nat){β:Type}(xn:AV→AV→Kb β)(d:Kb β)(a b c:AV)(h:Hp):Option β:=
xn a b c h
noncomputable def Z8v(P:Program)(T:Tab)(D:DTab)(N:Nat){β:Type}(xn:AV→AV→Kb β)(b:Kb β)(c a d:AV)(h:Hp):Option β:=
arithK .lss a d λg=>
condK g (
arithK .add a d λi=>
convK P 3 114 i λj=>
reckK P .shr 114 j (.s (.int .u64 1)) λk=>
convK P 114 3 k λe=>
callVK T c [e] h λl f=>
notK l λm=>
condK m (
arithK .add e (I 1) λn=>
Zfu P T D N xn b c n d f) (
Zfu P T D N xn b c a e f)) (
b a h)
noncomputable def Z4R(P:Program)(T:Tab)(D:DTab)(N:Nat){β:Type}(a:Kb β):Nat→AV→AV→Kb β
 | 0=>λ_ _ _ _=>none
 | n+1=>λb c d h=>Z8v P T D N (Z4R P T D N a n) a b c d h
noncomputable def Z8w(P:Program)(T:Tab)(D:DTab)(N:Nat){β:Type}(K:Kb β)(a0 a1:AV)(h:Hp):Option β:=
Z4R P T D N (λa h=>ZbD P T D N K a h) N a1 (I 0) a0 h
theorem Zrj(xn:AV→AV→Kb β)(x0:Kb β)(xd:Nat→St→Option β)(xq:St→Option β)(t:Tm)(h:Hp):Z8u P T D N t h (λ(e:Ex)(s:St)=>e.on (xn (s.1 1) (s.1 5) (s.1 6) s.2) (λi=>(bif i==0 then x0 (s.1 5) s.2 else (xd i s))) (xq s))=Z8v P T D N xn x0 (t 1) (t 5) (t 6) h:=by kernel_rfl
theorem Zrk(A:Ex→St→Option β)(x0:Kb β)(q0:∀s,A (.exit 0) s=x0 (s.1 5) s.2):∀(n:Nat)(s:St),iterK (λs k=>Z8u P T D N s.1 s.2 k) n s A=Z4R P T D N x0 n (s.1 1) (s.1 5) (s.1 6) s.2:=
 Z0O (exs1 q0 (λs=>rfl)) (λs=>rfl) λn s=>Zrj P T D N (Z4R P T D N x0 n) x0 (λi s=>A (.exit i) s) (λs=>A .ret s) s.1 s.2
theorem Zrl(K:Kb β)(a0 a1:AV)(h:Hp):Zjz P T D N K a0 a1 h=Z8w P T D N K a0 a1 h:=by
 have eL2:(λs:St=>iterK (λs k=>Z8u P T D N s.1 s.2 k) N s (ZbC P T D N K))=(λs:St=>Z4R P T D N (λw10_5 h=>ZbD P T D N K w10_5 h) N (s.1 1) (s.1 5) (s.1 6) s.2):=funext λs=>Zrk P T D N (ZbC P T D N K) (λw10_5 h=>ZbD P T D N K w10_5 h) (λs=>rfl) N s
 show Zjy P T D N (λs=>iterK (λs k=>Z8u P T D N s.1 s.2 k) N s (ZbC P T D N K)) K a0 a1 h=_
 rw[eL2]
 kernel_rfl
theorem Zrm(K:Kb β)(a0 a1:AV)(h:Hp):runK Tryz.prog T D N [0,1,4,5,6,7,11,21] Tryz.f54 K [a0,a1] h=Z8w Tryz.prog T D N K a0 a1 h:=Eq.trans (b:=Zjz Tryz.prog T D N K a0 a1 h) (by kernel_rfl) (Zrl Tryz.prog T D N K a0 a1 h)
noncomputable def ZbE(P:Program)(T:Tab)(D:DTab)(N:Nat){β:Type}(K:Kb β)(a0 a1 a2:AV)(h:Hp):Option β:=
faK 2 a1 λa=>
ldK 1 false a h λb=>
iaK 10 b a0 λc=>
faK 2 c λd=>
ldK 1 false d h λe=>
faK 1 a2 λf=>
ldK 1 false f h λg=>
arithK .geq e g λi=>
K i h
theorem Zrn(K:Kb β)(a0 a1 a2:AV)(h:Hp):runK Tryz.prog T D N [0,1,2,4] Tryz.f55 K [a0,a1,a2] h=ZbE Tryz.prog T D N K a0 a1 a2 h:=by kernel_rfl
noncomputable def ZbF(P:Program)(T:Tab)(D:DTab)(N:Nat){β:Type}(K:Kb β)(a0 a1 a2:AV)(h:Hp):Option β:=
lenK a0 λe=>
sliceK 10 a0 (some a1) (some a2) (some e) λm=>
eqK P false 3 a1 a2 h λf=>
condK f (
K a0 h) (
lenK a0 λg=>
sliceK 10 a0 none (some a1) none λi=>
sliceK 10 a0 (some a2) none none λj=>
effK (appE 10 80 i j h (List.length h)) h λa b=>
lenK a λk=>
sliceK 10 a (some k) (some g) none λc=>
effK (clrE 10 zz10 c b) b λl d=>
K a d)
theorem Zro(K:Kb β)(a0 a1 a2:AV)(h:Hp):runK Tryz.prog T D N [0,1,2,6,7,16] Tryz.f56 K [a0,a1,a2] h=ZbF Tryz.prog T D N K a0 a1 a2 h:=by kernel_rfl
noncomputable def ZbG(P:Program)(T:Tab)(D:DTab)(N:Nat){β:Type}(K:Kb β)(a0:AV)(h:Hp):Option β:=
arithK .geq a0 (I 1) λa=>
grpK true a h (λb=>
arithK .leq a0 (I 99) λc=>
b c h) λd e=>
K d e
theorem Zrp(K:Kb β)(a0:AV)(h:Hp):runK Tryz.prog T D N [0,2] Tryz.f57 K [a0] h=ZbG Tryz.prog T D N K a0 h:=by kernel_rfl
noncomputable def ZbH(P:Program)(T:Tab)(D:DTab)(N:Nat){β:Type}(K:Kb β)(a0:AV)(h:Hp):Option β:=
effK (boxE 10 a0 (List.length h)) h λb g=>
faK 0 b λx3=>
ldK 1 false x3 g λx4=>
callK (T 57) [x4] g λx5 f=>
notK x5 λx7=>
grpK false x7 f (λk8=>
faK 1 b λx9=>
ldK 1 false x9 f λi=>
callK (T 57) [i] f λj k=>
notK j λl=>
k8 l k) λm c=>
grpK false m c (λn=>
faK 2 b λo=>
ldK 1 false o c λp=>
arithK .lss p (I 1) λq=>
n q c) λr d=>
grpK false r d (λs=>
faK 2 b λt=>
ldK 1 false t d λu=>
arithK .gtr u (I 1073741824) λv=>
s v d) λw a=>
condK w (
K (I 2) a) (
faK 0 b λx=>
ldK 1 false x a λy=>
faK 1 b λz=>
ldK 1 false z a λa1=>
eqK P false 3 y a1 a λa2=>
condK a2 (
K (I 10) a) (
faK 3 b λa3=>
ldK 7 true a3 a λa4=>
callK (T 77) [a4] a λa5 e=>
eqK P true 35 a5 (I 0) e λa6=>
condK a6 (
K (I 1) e) (
K (I 0) e)))
theorem Zrq(K:Kb β)(a0:AV)(h:Hp):runK Tryz.prog T D N [0,1,2,22,27,31] Tryz.f58 K [a0] h=ZbH Tryz.prog T D N K a0 h:=by kernel_rfl
noncomputable def ZbI(P:Program)(T:Tab)(D:DTab)(N:Nat){β:Type}(K:Kb β)(a0 a1:AV)(h:Hp):Option β:=
effK (boxE 2 a0 (List.length h)) h λb d=>
effK (boxE 2 a1 (List.length d)) d λc a=>
faK 0 b λv=>
ldK 1 false v a λw=>
faK 0 c λx=>
ldK 1 false x a λy=>
arithK .gtr w y λz=>
grpK false z a (λe=>
faK 0 b λf=>
ldK 1 false f a λg=>
faK 0 c λi=>
ldK 1 false i a λj=>
eqK P false 3 g j a λk=>
grpK true k a (λl=>
faK 1 b λm=>
ldK 1 false m a λn=>
faK 1 c λo=>
ldK 1 false o a λp=>
arithK .gtr n p λq=>
l q a) λr s=>
e r s) λt u=>
K t u
theorem Zrr(K:Kb β)(a0 a1:AV)(h:Hp):runK Tryz.prog T D N [0,1,2,3,4] Tryz.f59 K [a0,a1] h=ZbI Tryz.prog T D N K a0 a1 h:=by kernel_rfl
noncomputable def Z61(P:Program)(T:Tab)(D:DTab)(N:Nat){β:Type}(K:Kb β)(a0:AV)(h:Hp):Option β:=
callK (T 62) [a0] h λb a=>
eqK P true 35 b (I 0) a λc=>
condK c (
K (.tup [nilS,b]) a) (
callK (T 78) [a0] a λd e=>
K (.tup [d,(I 0)]) e)
theorem Zrs(K:Kb β)(a0:AV)(h:Hp):runK Tryz.prog T D N [0,2,3,4,8] Tryz.f60 K [a0] h=Z61 Tryz.prog T D N K a0 h:=by kernel_rfl
noncomputable def Zrt(P:Program)(T:Tab)(D:DTab)(N:Nat){β:Type}(K:Kb β)(t:Tm)(h:Hp):Option β:=
ldK 7 true (t 6) h λb=>
effK (stE 7 (t 4) b h) h λd a=>
ldK 7 true (t 4) a λc=>
K c a
noncomputable def Zfv(P:Program)(T:Tab)(D:DTab)(N:Nat){β:Type}(K:Kb β)(t:Tm)(h:Hp):Option β:=
(Zrt P T D N K t h)
noncomputable def ZjA(P:Program)(T:Tab)(D:DTab)(N:Nat){β:Type}(K:Kb β)(t:Tm)(h:Hp):Option β:=
eqK P false 3 (t 8) (I 0) h λa=>
condK a (
(Zfv P T D N K (upd t 89 a) h)) (
condK (t 7) (
faK 1 (t 6) λb=>
effK (stE 1 b (I 4) h) h λf c=>
(Zfv P T D N K (upd (upd t 89 a) 92 (t 7)) c)) (
faK 1 (t 6) λd=>
effK (stE 1 d (t 8) h) h λg e=>
(Zfv P T D N K (upd (upd t 89 a) 92 (t 7)) e)))
noncomputable def Z8x(P:Program)(T:Tab)(D:DTab)(N:Nat){β:Type}(t:Tm)(h:Hp)(k:Ex→St→Option β):Option β:=
nextK (t 78) h λe a=>
exK e 0 λb=>
condK b (
entryK (t 78) a λf=>
exK f 1 λc=>
arithK .gtr c (I 1) λd=>
condK d (
buildK zz7 [(some (0,1),(t 1)),(some (1,1),(I 5))] λg=>
effK (stE 7 (t 4) g a) a λj i=>
k .ret ((upd (upd (upd t 80 b) 13 c) 84 d),i)) (
k .normal ((upd (upd (upd t 80 b) 13 c) 84 d),a))) (
k (.exit 3) ((upd t 80 b),a))
noncomputable def ZbJ(P:Program)(T:Tab)(D:DTab)(N:Nat){β:Type}(K:Kb β)(e:Ex)(s:St):Option β:=
 e.on ((ZjA P T D N K s.1 s.2))
 (λi=>bif i==3 then ((ZjA P T D N K s.1 s.2)) else (none))
 (ldK 7 true (s.1 4) s.2 λa=>
K a s.2)
noncomputable def ZjB(P:Program)(T:Tab)(D:DTab)(N:Nat){β:Type}(cL5:St→Option β)(K:Kb β)(t:Tm)(h:Hp) :  Option β:=
faK 1 (t 6) λc=>
ldK 1 false c h λd=>
eqK P false 3 d (I 0) h λa=>
condK a (
buildK zz7 [(some (0,1),(t 1))] λe=>
effK (stE 7 (t 4) e h) h λj b=>
ldK 7 true (t 4) b λf=>
K f b) (
effK (rngE (t 5) h (List.length h)) h λg i=>
cL5 ((upd (upd t 74 a) 78 g),i))
noncomputable def Zfw(P:Program)(T:Tab)(D:DTab)(N:Nat){β:Type}(K:Kb β)(t:Tm)(h:Hp):Option β:=ZjB P T D N (λs=>iterK (λs k=>Z8x P T D N s.1 s.2 k) N s (ZbJ P T D N K)) K t h
noncomputable def Zru(P:Program)(T:Tab)(D:DTab)(N:Nat){β:Type}(k:Ex→St→Option β)(t:Tm)(h:Hp):Option β:=
arithK .add (t 19) (I 1) λa=>
k .normal ((upd t 19 a),h)
noncomputable def Zfx(P:Program)(T:Tab)(D:DTab)(N:Nat){β:Type}(k:Ex→St→Option β)(t:Tm)(h:Hp):Option β:=
(Zru P T D N k t h)
noncomputable def Zrv(P:Program)(T:Tab)(D:DTab)(N:Nat){β:Type}(k:Ex→St→Option β)(t:Tm)(h:Hp):Option β:=
ldK 2 true (t 11) h λa=>
lookK P 117 (I 0) false (t 5) a h λc=>
arithK .add c (I 1) λd=>
effD (mentE P 117 (I 0) (t 5) a h) h λe b f=>
exK e 1 λg=>
effD (estE (t 5) g d b) b λl i j=>
bif disjAll [] [([],[]),((idsOf (t 11)),[]),((idsOf (t 5)),[]),([],[]),f,([],[]),j] then (
(Zfx P T D N k t i)) else none
noncomputable def Z8y(P:Program)(T:Tab)(D:DTab)(N:Nat){β:Type}(k:Ex→St→Option β)(t:Tm)(h:Hp):Option β:=
(Zrv P T D N k t h)
noncomputable def Z8z(P:Program)(T:Tab)(D:DTab)(N:Nat){β:Type}(t:Tm)(h:Hp)(k:Ex→St→Option β):Option β:=
arithK .lss (t 19) (t 18) λd=>
condK d (
iaK 7 (t 17) (t 19) λb0=>
ldK 7 true b0 h λb1=>
effK (boxE 7 (.agg zz7) (List.length h)) h λb p=>
effK (stE 7 b b1 p) p λd9 g=>
faK 0 b λb2=>
ldK 1 false b2 g λb3=>
eqK P true 3 b3 (t 1) g λe=>
condK e (
(Zfx P T D N k (upd (upd (upd t 20 d) 10 b) 26 e) g)) (
faK 1 b λb4=>
ldK 1 false b4 g λb5=>
faK 2 b λb6=>
ldK 1 false b6 g λb7=>
buildK zz2 [(some (0,1),b5),(some (1,1),b7)] λb8=>
effK (boxE 2 (.agg zz2) (List.length g)) g λf q=>
effK (stE 2 f b8 q) q λe0 a=>
faK 1 b λb9=>
ldK 1 false b9 a λc=>
eqK P false 3 c (I 1) a λi=>
condK i (
faK 4 b λr=>
ldK 1 false r a λc0=>
faK 5 b λu=>
ldK 1 false u a λc1=>
faK 6 b λv=>
ldK 1 false v a λc2=>
faK 1 (t 6) λc3=>
effD (stE 1 c3 (I 1) a) a λe1 w c4=>
faK 2 (t 6) λc5=>
effD (stE 1 c5 c0 w) w λe2 x c6=>
faK 3 (t 6) λc7=>
effD (stE 1 c7 c1 x) x λe3 y c8=>
faK 4 (t 6) λc9=>
effD (stE 1 c9 c2 y) y λe4 d0 d1=>
bif disjAll [(1,7),(3,7),(5,7),(3,9),(5,9),(5,11)] [([],[]),((idsOf r),[]),([],[]),((idsOf u),[]),([],[]),((idsOf v),[]),([],[]),c4,([],[]),c6,([],[]),c8,([],[]),d1] then (
(Z8y P T D N k (upd (upd (upd (upd (upd (upd t 20 d) 10 b) 26 e) 11 f) 33 c) 34 i) d0)) else none) (
eqK P false 3 c (I 2) a λl=>
condK l (
faK 5 b λd2=>
ldK 1 false d2 a λd3=>
faK 3 (t 6) λd4=>
effK (stE 1 d4 d3 a) a λd5 n=>
faK 6 (t 6) λz=>
ldK 1 false z n λa0=>
arithK .add a0 (I 1) λa1=>
faK 6 (t 6) λa2=>
effK (stE 1 a2 a1 n) n λd6 a3=>
(Z8y P T D N k (upd (upd (upd (upd (upd (upd (upd t 20 d) 10 b) 26 e) 11 f) 33 c) 34 i) 46 l) a3)) (
eqK P false 3 c (I 3) a λj=>
condK j (
faK 6 b λa4=>
ldK 1 false a4 a λa5=>
faK 5 (t 6) λa6=>
effK (stE 1 a6 a5 a) a λd7 a7=>
(Z8y P T D N k (upd (upd (upd (upd (upd (upd (upd (upd (upd t 20 d) 10 b) 26 e) 11 f) 33 c) 34 i) 46 l) 55 j) 8 (I 2)) a7)) (
eqK P false 3 c (I 4) a λm=>
condK m (
faK 0 f λa8=>
effK (stE 1 a8 (I 3) a) a λd8 a9=>
(Z8y P T D N k (upd (upd (upd (upd (upd (upd (upd (upd (upd (upd t 20 d) 10 b) 26 e) 11 f) 33 c) 34 i) 46 l) 55 j) 60 m) 8 (I 3)) a9)) (
eqK P false 3 c (I 5) a λo=>
condK o (
(Zfx P T D N k (upd (upd (upd (upd (upd (upd (upd (upd (upd (upd (upd t 20 d) 10 b) 26 e) 11 f) 33 c) 34 i) 46 l) 55 j) 60 m) 63 o) 7 (.s (.bool true))) a)) (
(Z8y P T D N k (upd (upd (upd (upd (upd (upd (upd (upd (upd (upd t 20 d) 10 b) 26 e) 11 f) 33 c) 34 i) 46 l) 55 j) 60 m) 63 o) a)))))))) (
k (.exit 0) ((upd t 20 d),h))
noncomputable def ZbK(P:Program)(T:Tab)(D:DTab)(N:Nat){β:Type}(K:Kb β)(e:Ex)(s:St):Option β:=
 e.on ((Zfw P T D N K s.1 s.2))
 (λi=>bif i==0 then ((Zfw P T D N K s.1 s.2)) else (none))
 (ldK 7 true (s.1 4) s.2 λa=>
K a s.2)
noncomputable def ZjC(P:Program)(T:Tab)(D:DTab)(N:Nat){β:Type}(cL6:St→Option β)(K:Kb β)(a0 a1:AV)(h:Hp) :  Option β:=
effK (boxE 7 (.agg zz7) (List.length h)) h λf a=>
effK (some (.mp (List.length a),EN (.map []))) a λg b=>
buildK zz7 [(some (0,1),a1)] λi=>
effK (boxE 7 (.agg zz7) (List.length b)) b λc d=>
effK (stE 7 c i d) d λk j=>
lenK a0 λe=>
cL6 ((upd (upd (upd (upd (upd (upd (upd (upd (tm0 [a0,a1]) 4 f) 5 g) 6 c) 7 (.s (.bool false))) 8 (I 0)) 17 a0) 18 e) 19 (I 0)),j)
noncomputable def ZjD(P:Program)(T:Tab)(D:DTab)(N:Nat){β:Type}(K:Kb β)(a0 a1:AV)(h:Hp):Option β:=ZjC P T D N (λs=>iterK (λs k=>Z8z P T D N s.1 s.2 k) N s (ZbK P T D N K)) K a0 a1 h
noncomputable def ZjE(P:Program)(T:Tab)(D:DTab)(N:Nat){β:Type}(K:Kb β)(b e:AV)(h:Hp):Option β:=
ldK 7 true e h λc=>
effK (stE 7 b c h) h λf a=>
ldK 7 true b a λd=>
K d a
noncomputable def ZbL(P:Program)(T:Tab)(D:DTab)(N:Nat){β:Type}(K:Kb β)(a b:AV)(h:Hp):Option β:=
ZjE P T D N K a b h
noncomputable def ZbM(P:Program)(T:Tab)(D:DTab)(N:Nat){β:Type}(K:Kb β)(b a j c:AV)(h:Hp):Option β:=
eqK P false 3 c (I 0) h λd=>
condK d (
ZbL P T D N K b a h) (
condK j (
faK 1 a λe=>
effK (stE 1 e (I 4) h) h λk f=>
ZbL P T D N K b a f) (
faK 1 a λg=>
effK (stE 1 g c h) h λl i=>
ZbL P T D N K b a i))
noncomputable def Zfy(P:Program)(T:Tab)(D:DTab)(N:Nat){β:Type}(xn:AV→AV→AV→AV→AV→Kb β)(p:AV→AV→AV→Kb β)(xr:Kb β)(d c e f g b:AV)(h:Hp):Option β:=
nextK b h λi a=>
exK i 0 λj=>
condK j (
entryK b a λk=>
exK k 1 λl=>
arithK .gtr l (I 1) λm=>
condK m (
buildK zz7 [(some (0,1),d),(some (1,1),(I 5))] λn=>
effK (stE 7 c n a) a λq o=>
xr c o) (
xn d c e f g b a)) (
p c e f g a)
noncomputable def Z4S(P:Program)(T:Tab)(D:DTab)(N:Nat){β:Type}(a:AV→AV→AV→Kb β)(xr:Kb β):Nat→AV→AV→AV→AV→AV→Kb β
 | 0=>λ_ _ _ _ _ _ _=>none
 | n+1=>λc d e f g b h=>Zfy P T D N (Z4S P T D N a xr n) a xr c d e f g b h
noncomputable def Z62(P:Program)(T:Tab)(D:DTab)(N:Nat){β:Type}(K:Kb β)(i g s j t u:AV)(h:Hp):Option β:=
faK 1 j λk=>
ldK 1 false k h λl=>
eqK P false 3 l (I 0) h λm=>
condK m (
buildK zz7 [(some (0,1),i)] λn=>
effK (stE 7 g n h) h λv f=>
ldK 7 true g f λo=>
K o f) (
effK (rngE s h (List.length h)) h λp q=>
Z4S P T D N (λa b c d h=>ZbM P T D N K a b c d h) (λe h=>ldK 7 true e h λr=>
K r h) N i g j t u p q)
noncomputable def Z44(P:Program)(T:Tab)(D:DTab)(N:Nat){β:Type}(xn:AV→AV→AV→AV→AV→AV→AV→AV→Kb β)(l:AV→AV→AV→AV→AV→Kb β)(e f g i j k a b c:AV)(h:Hp):Option β:=
arithK .add c (I 1) λd=>
xn e f g i j k a b d h
noncomputable def Z32(P:Program)(T:Tab)(D:DTab)(N:Nat){β:Type}(xn:AV→AV→AV→AV→AV→AV→AV→AV→Kb β)(d:AV→AV→AV→AV→AV→Kb β)(e f g i j k a b c:AV)(h:Hp):Option β:=
Z44 P T D N xn d e f g i j k a b c h
noncomputable def ZjF(P:Program)(T:Tab)(D:DTab)(N:Nat){β:Type}(xn:AV→AV→AV→AV→AV→AV→AV→AV→Kb β)(p:AV→AV→AV→AV→AV→Kb β)(q r a s t u b e f g:AV)(h:Hp):Option β:=
ldK 2 true b h λc=>
lookK P 117 (I 0) false a c h λi=>
arithK .add i (I 1) λj=>
effD (mentE P 117 (I 0) a c h) h λk d l=>
exK k 1 λm=>
effD (estE a m j d) d λv n o=>
bif disjAll [] [([],[]),((idsOf b),[]),((idsOf a),[]),([],[]),l,([],[]),o] then (
Z32 P T D N xn p q r a s t u e f g n) else none
noncomputable def Z4T(P:Program)(T:Tab)(D:DTab)(N:Nat){β:Type}(xn:AV→AV→AV→AV→AV→AV→AV→AV→Kb β)(e:AV→AV→AV→AV→AV→Kb β)(f g i j k l a b c d:AV)(h:Hp):Option β:=
ZjF P T D N xn e f g i j k l a b c d h
noncomputable def Z4U(P:Program)(T:Tab)(D:DTab)(N:Nat){β:Type}(xn:AV→AV→AV→AV→AV→AV→AV→AV→Kb β)(k:AV→AV→AV→AV→AV→Kb β)(j l m b o q e f d:AV)(h:Hp):Option β:=
arithK .lss d f λb6=>
condK b6 (
iaK 7 e d λb7=>
ldK 7 true b7 h λb8=>
effK (boxE 7 (.agg zz7) (List.length h)) h λc r=>
effK (stE 7 c b8 r) r λe7 g=>
faK 0 c λb9=>
ldK 1 false b9 g λc0=>
eqK P true 3 c0 j g λc1=>
condK c1 (
Z32 P T D N xn k j l m b o q e f d g) (
faK 1 c λc2=>
ldK 1 false c2 g λc3=>
faK 2 c λc4=>
ldK 1 false c4 g λc5=>
buildK zz2 [(some (0,1),c3),(some (1,1),c5)] λc6=>
effK (boxE 2 (.agg zz2) (List.length g)) g λi t=>
effK (stE 2 i c6 t) t λe8 a=>
faK 1 c λc7=>
ldK 1 false c7 a λn=>
eqK P false 3 n (I 1) a λc8=>
condK c8 (
faK 4 c λu=>
ldK 1 false u a λc9=>
faK 5 c λv=>
ldK 1 false v a λd0=>
faK 6 c λw=>
ldK 1 false w a λd1=>
faK 1 b λd2=>
effD (stE 1 d2 (I 1) a) a λe9 x d3=>
faK 2 b λd4=>
effD (stE 1 d4 c9 x) x λf0 y d5=>
faK 3 b λd6=>
effD (stE 1 d6 d0 y) y λf1 z d7=>
faK 4 b λd8=>
effD (stE 1 d8 d1 z) z λf2 d9 e0=>
bif disjAll [(1,7),(3,7),(5,7),(3,9),(5,9),(5,11)] [([],[]),((idsOf u),[]),([],[]),((idsOf v),[]),([],[]),((idsOf w),[]),([],[]),d3,([],[]),d5,([],[]),d7,([],[]),e0] then (
Z4T P T D N xn k j l m b o q i e f d d9) else none) (
eqK P false 3 n (I 2) a λe1=>
condK e1 (
faK 5 c λe2=>
ldK 1 false e2 a λa0=>
faK 3 b λa1=>
effK (stE 1 a1 a0 a) a λe3 p=>
faK 6 b λa2=>
ldK 1 false a2 p λa3=>
arithK .add a3 (I 1) λa4=>
faK 6 b λa5=>
effK (stE 1 a5 a4 p) p λe4 a6=>
Z4T P T D N xn k j l m b o q i e f d a6) (
eqK P false 3 n (I 3) a λa7=>
condK a7 (
faK 6 c λa8=>
ldK 1 false a8 a λa9=>
faK 5 b λb0=>
effK (stE 1 b0 a9 a) a λe5 b1=>
Z4T P T D N xn k j l m b o (I 2) i e f d b1) (
eqK P false 3 n (I 4) a λb2=>
condK b2 (
faK 0 i λb3=>
effK (stE 1 b3 (I 3) a) a λe6 b4=>
Z4T P T D N xn k j l m b o (I 3) i e f d b4) (
eqK P false 3 n (I 5) a λb5=>
condK b5 (
Z32 P T D N xn k j l m b (.s (.bool true)) q e f d a) (
Z4T P T D N xn k j l m b o q i e f d a))))))) (
k j l m b o q h)
noncomputable def Z45(P:Program)(T:Tab)(D:DTab)(N:Nat){β:Type}(a:AV→AV→AV→AV→AV→Kb β):Nat→AV→AV→AV→AV→AV→AV→AV→AV→Kb β
 | 0=>λ_ _ _ _ _ _ _ _ _ _=>none
 | n+1=>λe f g i j k b c d h=>Z4U P T D N (Z45 P T D N a n) a e f g i j k b c d h
noncomputable def ZbN(P:Program)(T:Tab)(D:DTab)(N:Nat){β:Type}(K:Kb β)(a0 a1:AV)(h:Hp):Option β:=
effK (boxE 7 (.agg zz7) (List.length h)) h λm g=>
effK (some (.mp (List.length g),EN (.map []))) g λn i=>
buildK zz7 [(some (0,1),a1)] λo=>
effK (boxE 7 (.agg zz7) (List.length i)) i λj k=>
effK (stE 7 j o k) k λq p=>
lenK a0 λl=>
Z45 P T D N (λa b c d e f h=>Z62 P T D N K a b c d e f h) N a1 m n j (.s (.bool false)) (I 0) a0 l (I 0) p
theorem Zrw(xn:AV→AV→AV→AV→AV→Kb β)(x3:AV→AV→AV→Kb β)(xr:Kb β)(xd:Nat→St→Option β)(xq:St→Option β)(t:Tm)(h:Hp):Z8x P T D N t h (λ(e:Ex)(s:St)=>e.on (xn (s.1 1) (s.1 4) (s.1 6) (s.1 7) (s.1 8) (s.1 78) s.2) (λi=>(bif i==3 then x3 (s.1 4) (s.1 6) (s.1 7) (s.1 8) s.2 else (xd i s))) (xr (s.1 4) s.2))=Zfy P T D N xn x3 xr (t 1) (t 4) (t 6) (t 7) (t 8) (t 78) h:=by kernel_rfl
theorem Zrx(A:Ex→St→Option β)(x3:AV→AV→AV→Kb β)(xr:Kb β)(q3:∀s,A (.exit 3) s=x3 (s.1 4) (s.1 6) (s.1 7) (s.1 8) s.2)(qr:∀s,A .ret s=xr (s.1 4) s.2):∀(n:Nat)(s:St),iterK (λs k=>Z8x P T D N s.1 s.2 k) n s A=Z4S P T D N x3 xr n (s.1 1) (s.1 4) (s.1 6) (s.1 7) (s.1 8) (s.1 78) s.2:=
 Z0O (exs1 q3 qr) (λs=>rfl) λn s=>Zrw P T D N (Z4S P T D N x3 xr n) x3 xr (λi s=>A (.exit i) s) (λs=>A .ret s) s.1 s.2
theorem Zry(K:Kb β)(t:Tm)(h:Hp):Zfw P T D N K t h=Z62 P T D N K (t 1) (t 4) (t 5) (t 6) (t 7) (t 8) h:=by
 have eL5:(λs:St=>iterK (λs k=>Z8x P T D N s.1 s.2 k) N s (ZbJ P T D N K))=(λs:St=>Z4S P T D N (λw40_4 w40_6 w40_7 w40_8 h=>ZbM P T D N K w40_4 w40_6 w40_7 w40_8 h) (λw41_4 h=>ldK 7 true w41_4 h λr42=>
K r42 h) N (s.1 1) (s.1 4) (s.1 6) (s.1 7) (s.1 8) (s.1 78) s.2):=funext λs=>Zrx P T D N (ZbJ P T D N K) (λw40_4 w40_6 w40_7 w40_8 h=>ZbM P T D N K w40_4 w40_6 w40_7 w40_8 h) (λw41_4 h=>ldK 7 true w41_4 h λr42=>
K r42 h) (λs=>rfl) (λs=>rfl) N s
 show ZjB P T D N (λs=>iterK (λs k=>Z8x P T D N s.1 s.2 k) N s (ZbJ P T D N K)) K t h=_
 rw[eL5]
 kernel_rfl
theorem Zrz(xn:AV→AV→AV→AV→AV→AV→AV→AV→Kb β)(x0:AV→AV→AV→AV→AV→Kb β)(xd:Nat→St→Option β)(xq:St→Option β)(t:Tm)(h:Hp):Z8z P T D N t h (λ(e:Ex)(s:St)=>e.on (xn (s.1 1) (s.1 4) (s.1 5) (s.1 6) (s.1 7) (s.1 8) (s.1 17) (s.1 18) (s.1 19) s.2) (λi=>(bif i==0 then x0 (s.1 1) (s.1 4) (s.1 5) (s.1 6) (s.1 7) (s.1 8) s.2 else (xd i s))) (xq s))=Z4U P T D N xn x0 (t 1) (t 4) (t 5) (t 6) (t 7) (t 8) (t 17) (t 18) (t 19) h:=by kernel_rfl
theorem ZrA(A:Ex→St→Option β)(x0:AV→AV→AV→AV→AV→Kb β)(q0:∀s,A (.exit 0) s=x0 (s.1 1) (s.1 4) (s.1 5) (s.1 6) (s.1 7) (s.1 8) s.2):∀(n:Nat)(s:St),iterK (λs k=>Z8z P T D N s.1 s.2 k) n s A=Z45 P T D N x0 n (s.1 1) (s.1 4) (s.1 5) (s.1 6) (s.1 7) (s.1 8) (s.1 17) (s.1 18) (s.1 19) s.2:=
 Z0O (exs1 q0 (λs=>rfl)) (λs=>rfl) λn s=>Zrz P T D N (Z45 P T D N x0 n) x0 (λi s=>A (.exit i) s) (λs=>A .ret s) s.1 s.2
theorem ZrB(K:Kb β)(a0 a1:AV)(h:Hp):ZjD P T D N K a0 a1 h=ZbN P T D N K a0 a1 h:=by
 have eL6:(λs:St=>iterK (λs k=>Z8z P T D N s.1 s.2 k) N s (ZbK P T D N K))=(λs:St=>Z45 P T D N (λw121_1 w121_4 w121_5 w121_6 w121_7 w121_8 h=>Z62 P T D N K w121_1 w121_4 w121_5 w121_6 w121_7 w121_8 h) N (s.1 1) (s.1 4) (s.1 5) (s.1 6) (s.1 7) (s.1 8) (s.1 17) (s.1 18) (s.1 19) s.2):=funext λs=>ZrA P T D N (ZbK P T D N K) (λw121_1 w121_4 w121_5 w121_6 w121_7 w121_8 h=>Z62 P T D N K w121_1 w121_4 w121_5 w121_6 w121_7 w121_8 h) (λs=>Zry P T D N K s.1 s.2) N s
 show ZjC P T D N (λs=>iterK (λs k=>Z8z P T D N s.1 s.2 k) N s (ZbK P T D N K)) K a0 a1 h=_
 rw[eL6]
 kernel_rfl
theorem ZrC(K:Kb β)(a0 a1:AV)(h:Hp):runK Tryz.prog T D N [0,1,4,5,6,7,8,10,11,13,17,18,19,20,26,33,34,46,55,60,63,74,78,80,84,89,92] Tryz.f61 K [a0,a1] h=ZbN Tryz.prog T D N K a0 a1 h:=Eq.trans (b:=ZjD Tryz.prog T D N K a0 a1 h) (by kernel_rfl) (ZrB Tryz.prog T D N K a0 a1 h)
noncomputable def ZjG(P:Program)(T:Tab)(D:DTab)(N:Nat){β:Type}(K:Kb β)(t:Tm)(h:Hp):Option β:=
K (I 0) h
noncomputable def Z8A(P:Program)(T:Tab)(D:DTab)(N:Nat){β:Type}(t:Tm)(h:Hp)(k:Ex→St→Option β):Option β:=
lenK (t 0) λe=>
arithK .lss (t 3) e λa=>
condK a (
iaK 7 (t 0) (t 3) λf=>
ldK 7 true f h λg=>
callK (T 77) [g] h λi b=>
eqK P true 35 i (I 0) b λc=>
condK c (
k .ret ((upd (upd (upd t 10 a) 18 c) 2 (I 1)),b)) (
arithK .add (t 3) (I 1) λd=>
k .normal ((upd (upd (upd t 10 a) 18 c) 3 d),b))) (
k (.exit 0) ((upd t 10 a),h))
noncomputable def ZbO(P:Program)(T:Tab)(D:DTab)(N:Nat){β:Type}(K:Kb β)(e:Ex)(s:St):Option β:=
 e.on ((ZjG P T D N K s.1 s.2))
 (λi=>bif i==0 then ((ZjG P T D N K s.1 s.2)) else (none))
 (K (s.1 2) s.2)
noncomputable def ZjH(P:Program)(T:Tab)(D:DTab)(N:Nat){β:Type}(cL2:St→Option β)(K:Kb β)(a0:AV)(h:Hp) :  Option β:=
lenK a0 λb=>
arithK .gtr b (I 64) λa=>
condK a (
K (I 8) h) (
cL2 ((upd (upd (upd (tm0 [a0]) 2 (I 0)) 6 a) 3 (I 0)),h))
noncomputable def ZjI(P:Program)(T:Tab)(D:DTab)(N:Nat){β:Type}(K:Kb β)(a0:AV)(h:Hp):Option β:=ZjH P T D N (λs=>iterK (λs k=>Z8A P T D N s.1 s.2 k) N s (ZbO P T D N K)) K a0 h
noncomputable def Z8B(P:Program)(T:Tab)(D:DTab)(N:Nat){β:Type}(K:Kb β)(h:Hp):Option β:=
K (I 0) h
noncomputable def Z8C(P:Program)(T:Tab)(D:DTab)(N:Nat){β:Type}(xn:AV→Kb β)(e:Qb β)(xr:Kb β)(a b:AV)(h:Hp):Option β:=
lenK a λf=>
arithK .lss b f λg=>
condK g (
iaK 7 a b λi=>
ldK 7 true i h λj=>
callK (T 77) [j] h λk c=>
eqK P true 35 k (I 0) c λl=>
condK l (
xr (I 1) c) (
arithK .add b (I 1) λd=>
xn a d c)) (
e h)
noncomputable def Z4V(P:Program)(T:Tab)(D:DTab)(N:Nat){β:Type}(a:Qb β)(xr:Kb β):Nat→AV→Kb β
 | 0=>λ_ _ _=>none
 | n+1=>λb c h=>Z8C P T D N (Z4V P T D N a xr n) a xr b c h
noncomputable def Z3u(P:Program)(T:Tab)(D:DTab)(N:Nat){β:Type}(K:Kb β)(a0:AV)(h:Hp):Option β:=
lenK a0 λb=>
arithK .gtr b (I 64) λc=>
condK c (
K (I 8) h) (
Z4V P T D N (λh=>Z8B P T D N K h) (λa h=>K a h) N a0 (I 0) h)
theorem ZrD(xn:AV→Kb β)(x0:Qb β)(xr:Kb β)(xd:Nat→St→Option β)(xq:St→Option β)(t:Tm)(h:Hp):Z8A P T D N t h (λ(e:Ex)(s:St)=>e.on (xn (s.1 0) (s.1 3) s.2) (λi=>(bif i==0 then x0 s.2 else (xd i s))) (xr (s.1 2) s.2))=Z8C P T D N xn x0 xr (t 0) (t 3) h:=by kernel_rfl
theorem ZrE(A:Ex→St→Option β)(x0:Qb β)(xr:Kb β)(q0:∀s,A (.exit 0) s=x0 s.2)(qr:∀s,A .ret s=xr (s.1 2) s.2):∀(n:Nat)(s:St),iterK (λs k=>Z8A P T D N s.1 s.2 k) n s A=Z4V P T D N x0 xr n (s.1 0) (s.1 3) s.2:=
 Z0O (exs1 q0 qr) (λs=>rfl) λn s=>ZrD P T D N (Z4V P T D N x0 xr n) x0 xr (λi s=>A (.exit i) s) (λs=>A .ret s) s.1 s.2
theorem ZrF(K:Kb β)(a0:AV)(h:Hp):ZjI P T D N K a0 h=Z3u P T D N K a0 h:=by
 have eL2:(λs:St=>iterK (λs k=>Z8A P T D N s.1 s.2 k) N s (ZbO P T D N K))=(λs:St=>Z4V P T D N (λh=>Z8B P T D N K h) (λw12_2 h=>K w12_2 h) N (s.1 0) (s.1 3) s.2):=funext λs=>ZrE P T D N (ZbO P T D N K) (λh=>Z8B P T D N K h) (λw12_2 h=>K w12_2 h) (λs=>rfl) (λs=>rfl) N s
 show ZjH P T D N (λs=>iterK (λs k=>Z8A P T D N s.1 s.2 k) N s (ZbO P T D N K)) K a0 h=_
 rw[eL2]
 kernel_rfl
theorem ZrG(K:Kb β)(a0:AV)(h:Hp):runK Tryz.prog T D N [0,2,3,6,10,18] Tryz.f62 K [a0] h=Z3u Tryz.prog T D N K a0 h:=Eq.trans (b:=ZjI Tryz.prog T D N K a0 h) (by kernel_rfl) (ZrF Tryz.prog T D N K a0 h)
noncomputable def ZjJ(P:Program)(T:Tab)(D:DTab)(N:Nat){β:Type}(K:Kb β)(t:Tm)(h:Hp):Option β:=
K (t 4) h
noncomputable def ZrH(P:Program)(T:Tab)(D:DTab)(N:Nat){β:Type}(k:Ex→St→Option β)(t:Tm)(h:Hp):Option β:=
arithK .add (t 5) (I 1) λa=>
k .normal ((upd t 5 a),h)
noncomputable def ZjK(P:Program)(T:Tab)(D:DTab)(N:Nat){β:Type}(k:Ex→St→Option β)(t:Tm)(h:Hp):Option β:=
(ZrH P T D N k t h)
noncomputable def Z8D(P:Program)(T:Tab)(D:DTab)(N:Nat){β:Type}(t:Tm)(h:Hp)(k:Ex→St→Option β):Option β:=
lenK (t 3) λv=>
arithK .lss (t 5) v λc=>
condK c (
iaK 7 (t 3) (t 5) λe=>
faK 0 e λf=>
ldK 1 false f h λg=>
arithK .sub (t 5) (I 1) λi=>
iaK 7 (t 3) i λj=>
faK 0 j λl=>
ldK 1 false l h λm=>
eqK P true 3 g m h λa=>
condK a (
iaK 7 (t 3) (t 5) λn=>
faK 0 n λo=>
ldK 1 false o h λp=>
callK (T 80) [(t 3),p] h λq d=>
effK (bsE 7 zz7 1 [(0,q)] (List.length d)) d λr b=>
effK (appE 7 56 (t 4) r b (List.length b)) b λs u=>
(ZjK P T D N k (upd (upd (upd t 13 c) 27 a) 4 s) u)) (
(ZjK P T D N k (upd (upd t 13 c) 27 a) h))) (
k (.exit 0) ((upd t 13 c),h))
noncomputable def ZbP(P:Program)(T:Tab)(D:DTab)(N:Nat){β:Type}(K:Kb β)(e:Ex)(s:St):Option β:=
 e.on ((ZjJ P T D N K s.1 s.2))
 (λi=>bif i==0 then ((ZjJ P T D N K s.1 s.2)) else (none))
 (K (s.1 2) s.2)
noncomputable def ZjL(P:Program)(T:Tab)(D:DTab)(N:Nat){β:Type}(cL2:St→Option β)(K:Kb β)(a0:AV)(h:Hp) :  Option β:=
callK (T 78) [a0] h λb c=>
callK (T 79) [b] c λd a=>
effK (bsE 7 zz7 0 [] (List.length a)) a λe f=>
cL2 ((upd (upd (upd (upd (tm0 [a0]) 2 nilS) 3 d) 4 e) 5 (I 1)),f)
noncomputable def ZjM(P:Program)(T:Tab)(D:DTab)(N:Nat){β:Type}(K:Kb β)(a0:AV)(h:Hp):Option β:=ZjL P T D N (λs=>iterK (λs k=>Z8D P T D N s.1 s.2 k) N s (ZbP P T D N K)) K a0 h
noncomputable def ZbQ(P:Program)(T:Tab)(D:DTab)(N:Nat){β:Type}(K:Kb β)(a:AV)(h:Hp):Option β:=
K a h
noncomputable def Zfz(P:Program)(T:Tab)(D:DTab)(N:Nat){β:Type}(xn:AV→AV→Kb β)(e:Kb β)(a b c:AV)(h:Hp):Option β:=
arithK .add c (I 1) λd=>
xn a b d h
noncomputable def ZbR(P:Program)(T:Tab)(D:DTab)(N:Nat){β:Type}(xn:AV→AV→Kb β)(a:Kb β)(b c d:AV)(h:Hp):Option β:=
Zfz P T D N xn a b c d h
noncomputable def Z8E(P:Program)(T:Tab)(D:DTab)(N:Nat){β:Type}(xn:AV→AV→Kb β)(e:Kb β)(a f b:AV)(h:Hp):Option β:=
lenK a λw=>
arithK .lss b w λx=>
condK x (
iaK 7 a b λg=>
faK 0 g λi=>
ldK 1 false i h λj=>
arithK .sub b (I 1) λk=>
iaK 7 a k λl=>
faK 0 l λm=>
ldK 1 false m h λn=>
eqK P true 3 j n h λo=>
condK o (
iaK 7 a b λp=>
faK 0 p λq=>
ldK 1 false q h λr=>
callK (T 80) [a,r] h λs d=>
effK (bsE 7 zz7 1 [(0,s)] (List.length d)) d λt c=>
effK (appE 7 56 f t c (List.length c)) c λu v=>
ZbR P T D N xn e a u b v) (
ZbR P T D N xn e a f b h)) (
e f h)
noncomputable def Z4W(P:Program)(T:Tab)(D:DTab)(N:Nat){β:Type}(a:Kb β):Nat→AV→AV→Kb β
 | 0=>λ_ _ _ _=>none
 | n+1=>λb c d h=>Z8E P T D N (Z4W P T D N a n) a b c d h
noncomputable def Z8F(P:Program)(T:Tab)(D:DTab)(N:Nat){β:Type}(K:Kb β)(a0:AV)(h:Hp):Option β:=
callK (T 78) [a0] h λc d=>
callK (T 79) [c] d λe b=>
effK (bsE 7 zz7 0 [] (List.length b)) b λf g=>
Z4W P T D N (λa h=>ZbQ P T D N K a h) N e f (I 1) g
theorem ZrI(xn:AV→AV→Kb β)(x0:Kb β)(xd:Nat→St→Option β)(xq:St→Option β)(t:Tm)(h:Hp):Z8D P T D N t h (λ(e:Ex)(s:St)=>e.on (xn (s.1 3) (s.1 4) (s.1 5) s.2) (λi=>(bif i==0 then x0 (s.1 4) s.2 else (xd i s))) (xq s))=Z8E P T D N xn x0 (t 3) (t 4) (t 5) h:=by kernel_rfl
theorem ZrJ(A:Ex→St→Option β)(x0:Kb β)(q0:∀s,A (.exit 0) s=x0 (s.1 4) s.2):∀(n:Nat)(s:St),iterK (λs k=>Z8D P T D N s.1 s.2 k) n s A=Z4W P T D N x0 n (s.1 3) (s.1 4) (s.1 5) s.2:=
 Z0O (exs1 q0 (λs=>rfl)) (λs=>rfl) λn s=>ZrI P T D N (Z4W P T D N x0 n) x0 (λi s=>A (.exit i) s) (λs=>A .ret s) s.1 s.2
theorem ZrK(K:Kb β)(a0:AV)(h:Hp):ZjM P T D N K a0 h=Z8F P T D N K a0 h:=by
 have eL2:(λs:St=>iterK (λs k=>Z8D P T D N s.1 s.2 k) N s (ZbP P T D N K))=(λs:St=>Z4W P T D N (λw27_4 h=>ZbQ P T D N K w27_4 h) N (s.1 3) (s.1 4) (s.1 5) s.2):=funext λs=>ZrJ P T D N (ZbP P T D N K) (λw27_4 h=>ZbQ P T D N K w27_4 h) (λs=>rfl) N s
 show ZjL P T D N (λs=>iterK (λs k=>Z8D P T D N s.1 s.2 k) N s (ZbP P T D N K)) K a0 h=_
 rw[eL2]
 kernel_rfl
theorem ZrL(K:Kb β)(a0:AV)(h:Hp):runK Tryz.prog T D N [0,2,3,4,5,13,27] Tryz.f63 K [a0] h=Z8F Tryz.prog T D N K a0 h:=Eq.trans (b:=ZjM Tryz.prog T D N K a0 h) (by kernel_rfl) (ZrK Tryz.prog T D N K a0 h)
noncomputable def ZbS(P:Program)(T:Tab)(D:DTab)(N:Nat){β:Type}(K:Kb β)(a0:AV)(h:Hp):Option β:=
arithK .geq a0 (I 1) λa=>
grpK true a h (λb=>
arithK .leq a0 (I 99) λc=>
b c h) λd e=>
K d e
theorem ZrM(K:Kb β)(a0:AV)(h:Hp):runK Tryz.prog T D N [0,2] Tryz.f64 K [a0] h=ZbS Tryz.prog T D N K a0 h:=by kernel_rfl
noncomputable def ZjN(P:Program)(T:Tab)(D:DTab)(N:Nat){β:Type}(K:Kb β)(t:Tm)(h:Hp):Option β:=
K (t 3) h
noncomputable def Z8G(P:Program)(T:Tab)(D:DTab)(N:Nat){β:Type}(t:Tm)(h:Hp)(k:Ex→St→Option β):Option β:=
arithK .lss (t 8) (t 7) λa=>
condK a (
iaK 1 (t 6) (t 8) λd=>
ldK 1 false d h λb=>
eqK P true 3 b (t 3) h λc=>
condK c (
k .ret ((upd (upd (upd (upd t 9 a) 5 b) 14 c) 2 b),h)) (
arithK .add (t 8) (I 1) λe=>
k .normal ((upd (upd (upd (upd t 9 a) 5 b) 14 c) 8 e),h))) (
k (.exit 0) ((upd t 9 a),h))
noncomputable def ZbT(P:Program)(T:Tab)(D:DTab)(N:Nat){β:Type}(K:Kb β)(e:Ex)(s:St):Option β:=
 e.on ((ZjN P T D N K s.1 s.2))
 (λi=>bif i==0 then ((ZjN P T D N K s.1 s.2)) else (none))
 (K (s.1 2) s.2)
noncomputable def ZjO(P:Program)(T:Tab)(D:DTab)(N:Nat){β:Type}(cL2:St→Option β)(K:Kb β)(a0:AV)(h:Hp) :  Option β:=
lenK a0 λa=>
cL2 ((upd (upd (upd (upd (upd (tm0 [a0]) 2 (I 0)) 3 (I 0)) 6 a0) 7 a) 8 (I 0)),h)
noncomputable def ZjP(P:Program)(T:Tab)(D:DTab)(N:Nat){β:Type}(K:Kb β)(a0:AV)(h:Hp):Option β:=ZjO P T D N (λs=>iterK (λs k=>Z8G P T D N s.1 s.2 k) N s (ZbT P T D N K)) K a0 h
noncomputable def ZbU(P:Program)(T:Tab)(D:DTab)(N:Nat){β:Type}(K:Kb β)(a:AV)(h:Hp):Option β:=
K a h
noncomputable def Z63(P:Program)(T:Tab)(D:DTab)(N:Nat){β:Type}(xn:AV→AV→AV→Kb β)(f:Kb β)(xr:Kb β)(a c d b:AV)(h:Hp):Option β:=
arithK .lss b d λg=>
condK g (
iaK 1 c b λi=>
ldK 1 false i h λe=>
eqK P true 3 e a h λj=>
condK j (
xr e h) (
arithK .add b (I 1) λk=>
xn a c d k h)) (
f a h)
noncomputable def Z4X(P:Program)(T:Tab)(D:DTab)(N:Nat){β:Type}(a:Kb β)(xr:Kb β):Nat→AV→AV→AV→Kb β
 | 0=>λ_ _ _ _ _=>none
 | n+1=>λb c d e h=>Z63 P T D N (Z4X P T D N a xr n) a xr b c d e h
noncomputable def Z8H(P:Program)(T:Tab)(D:DTab)(N:Nat){β:Type}(K:Kb β)(a0:AV)(h:Hp):Option β:=
lenK a0 λc=>
Z4X P T D N (λa h=>ZbU P T D N K a h) (λb h=>K b h) N (I 0) a0 c (I 0) h
theorem ZrN(xn:AV→AV→AV→Kb β)(x0:Kb β)(xr:Kb β)(xd:Nat→St→Option β)(xq:St→Option β)(t:Tm)(h:Hp):Z8G P T D N t h (λ(e:Ex)(s:St)=>e.on (xn (s.1 3) (s.1 6) (s.1 7) (s.1 8) s.2) (λi=>(bif i==0 then x0 (s.1 3) s.2 else (xd i s))) (xr (s.1 2) s.2))=Z63 P T D N xn x0 xr (t 3) (t 6) (t 7) (t 8) h:=by kernel_rfl
theorem ZrO(A:Ex→St→Option β)(x0:Kb β)(xr:Kb β)(q0:∀s,A (.exit 0) s=x0 (s.1 3) s.2)(qr:∀s,A .ret s=xr (s.1 2) s.2):∀(n:Nat)(s:St),iterK (λs k=>Z8G P T D N s.1 s.2 k) n s A=Z4X P T D N x0 xr n (s.1 3) (s.1 6) (s.1 7) (s.1 8) s.2:=
 Z0O (exs1 q0 qr) (λs=>rfl) λn s=>ZrN P T D N (Z4X P T D N x0 xr n) x0 xr (λi s=>A (.exit i) s) (λs=>A .ret s) s.1 s.2
theorem ZrP(K:Kb β)(a0:AV)(h:Hp):ZjP P T D N K a0 h=Z8H P T D N K a0 h:=by
 have eL2:(λs:St=>iterK (λs k=>Z8G P T D N s.1 s.2 k) N s (ZbT P T D N K))=(λs:St=>Z4X P T D N (λw7_3 h=>ZbU P T D N K w7_3 h) (λw8_2 h=>K w8_2 h) N (s.1 3) (s.1 6) (s.1 7) (s.1 8) s.2):=funext λs=>ZrO P T D N (ZbT P T D N K) (λw7_3 h=>ZbU P T D N K w7_3 h) (λw8_2 h=>K w8_2 h) (λs=>rfl) (λs=>rfl) N s
 show ZjO P T D N (λs=>iterK (λs k=>Z8G P T D N s.1 s.2 k) N s (ZbT P T D N K)) K a0 h=_
 rw[eL2]
 kernel_rfl
theorem ZrQ(K:Kb β)(a0:AV)(h:Hp):runK Tryz.prog T D N [0,2,3,5,6,7,8,9,14] Tryz.f65 K [a0] h=Z8H Tryz.prog T D N K a0 h:=Eq.trans (b:=ZjP Tryz.prog T D N K a0 h) (by kernel_rfl) (ZrP Tryz.prog T D N K a0 h)
noncomputable def Z8I(P:Program)(T:Tab)(D:DTab)(N:Nat){β:Type}(K:Kb β)(a0 a1:AV)(h:Hp):Option β:=
callK (T 81) [a0] h λc d=>
callK (T 81) [a1] d λb a=>
condK c (
condK b (
K (I 0) a) (
K (.s (.int .i64 (-1))) a)) (
condK b (
K (I 1) a) (
arithK .lss a0 a1 λe=>
condK e (
K (.s (.int .i64 (-1))) a) (
arithK .gtr a0 a1 λf=>
condK f (
K (I 1) a) (
K (I 0) a))))
theorem ZrR(K:Kb β)(a0 a1:AV)(h:Hp):runK Tryz.prog T D N [0,1,4,5,6,11,12,13,16,19] Tryz.f66 K [a0,a1] h=Z8I Tryz.prog T D N K a0 a1 h:=by kernel_rfl
noncomputable def ZbV(P:Program)(T:Tab)(D:DTab)(N:Nat){β:Type}(K:Kb β)(a0 a1:AV)(h:Hp):Option β:=
callK (T 82) [a0,a1] h λa b=>
arithK .geq a (I 0) λc=>
K c b
theorem ZrS(K:Kb β)(a0 a1:AV)(h:Hp):runK Tryz.prog T D N [0,1,4] Tryz.f67 K [a0,a1] h=ZbV Tryz.prog T D N K a0 a1 h:=by kernel_rfl
noncomputable def ZbW(P:Program)(T:Tab)(D:DTab)(N:Nat){β:Type}(K:Kb β)(a0:AV)(h:Hp):Option β:=
effK (boxE 7 a0 (List.length h)) h λc a=>
ldK 7 true c a λd=>
callK (T 41) [d] a λe b=>
eqK P true 35 e (I 0) b λf=>
K f b
theorem ZrT(K:Kb β)(a0:AV)(h:Hp):runK Tryz.prog T D N [0,1,2] Tryz.f68 K [a0] h=ZbW Tryz.prog T D N K a0 h:=by kernel_rfl
noncomputable def ZbX(P:Program)(T:Tab)(D:DTab)(N:Nat){β:Type}(K:Kb β)(a0 a1:AV)(h:Hp):Option β:=
effK (boxE 7 a0 (List.length h)) h λg y=>
effK (boxE 7 a1 (List.length y)) y λi j=>
faK 0 g λz=>
ldK 1 false z j λx6=>
faK 0 i λx7=>
ldK 1 false x7 j λx8=>
effD (callE (D 66) [x6,x8] j (List.length j)) j λx9 a a3=>
faK 1 g λl=>
ldK 1 false l a λa4=>
faK 1 i λm=>
ldK 1 false m a λa5=>
effD (callE (D 66) [a4,a5] a (List.length a)) a λa6 b a7=>
faK 2 g λn=>
ldK 1 false n b λa8=>
faK 2 i λo=>
ldK 1 false o b λa9=>
effD (callE (D 66) [a8,a9] b (List.length b)) b λb0 c b1=>
faK 3 g λp=>
ldK 1 false p c λb2=>
faK 3 i λq=>
ldK 1 false q c λb3=>
effD (callE (D 66) [b2,b3] c (List.length c)) c λb4 d b5=>
faK 4 g λr=>
ldK 1 false r d λb6=>
faK 4 i λs=>
ldK 1 false s d λb7=>
effD (callE (D 66) [b6,b7] d (List.length d)) d λb8 e b9=>
faK 5 g λt=>
ldK 1 false t e λc0=>
faK 5 i λu=>
ldK 1 false u e λc1=>
effD (callE (D 66) [c0,c1] e (List.length e)) e λc2 f c3=>
faK 6 g λv=>
ldK 1 false v f λc4=>
faK 6 i λw=>
ldK 1 false w f λc5=>
effD (callE (D 66) [c4,c5] f (List.length f)) f λc6 x c7=>
effD (bsE 1 [I 0] 7 [(0,x9),(1,a6),(2,b0),(3,b4),(4,b8),(5,c2),(6,c6)] (List.length x)) x λc8 k c9=>
effD (callE (D 65) [c8] k (List.length k)) k λd0 d1 d2=>
bif disjAll [(4,6),(4,8),(4,11),(9,11),(4,13),(9,13),(4,16),(9,16),(14,16),(4,18),(9,18),(14,18),(4,21),(9,21),(14,21),(19,21),(4,23),(9,23),(14,23),(19,23),(4,26),(9,26),(14,26),(19,26),(24,26),(4,28),(9,28),(14,28),(19,28),(24,28),(4,31),(9,31),(14,31),(19,31),(24,31),(29,31),(4,33),(9,33),(14,33),(19,33),(24,33),(29,33)] [([],[]),((idsOf z),[]),([],[]),((idsOf x7),[]),a3,([],[]),((idsOf l),[]),([],[]),((idsOf m),[]),a7,([],[]),((idsOf n),[]),([],[]),((idsOf o),[]),b1,([],[]),((idsOf p),[]),([],[]),((idsOf q),[]),b5,([],[]),((idsOf r),[]),([],[]),((idsOf s),[]),b9,([],[]),((idsOf t),[]),([],[]),((idsOf u),[]),c3,([],[]),((idsOf v),[]),([],[]),((idsOf w),[]),c7,c9,d2,([],[])] then (
K d0 d1) else none
theorem ZrU(K:Kb β)(a0 a1:AV)(h:Hp):runK Tryz.prog T D N [0,1,2,3,4] Tryz.f70 K [a0,a1] h=ZbX Tryz.prog T D N K a0 a1 h:=by kernel_rfl
noncomputable def ZjQ(P:Program)(T:Tab)(D:DTab)(N:Nat){β:Type}(K:Kb β)(t:Tm)(h:Hp):Option β:=
K (t 0) h
noncomputable def Z8J(P:Program)(T:Tab)(D:DTab)(N:Nat){β:Type}(k:Ex→St→Option β)(t:Tm)(h:Hp):Option β:=
arithK .add (t 3) (I 1) λa=>
k .normal ((upd t 3 a),h)
noncomputable def ZjR(P:Program)(T:Tab)(D:DTab)(N:Nat){β:Type}(k:Ex→St→Option β)(t:Tm)(h:Hp):Option β:=
sliceK 7 (t 0) (some (t 3)) none none λa=>
effK (clrE 7 zz7 a h) h λd b=>
sliceK 7 (t 0) none (some (t 3)) none λc=>
k .ret ((upd t 2 c),b)
noncomputable def ZrV(P:Program)(T:Tab)(D:DTab)(N:Nat){β:Type}(k:Ex→St→Option β)(t:Tm)(h:Hp):Option β:=
arithK .add (t 5) (I 1) λa=>
k .normal ((upd t 5 a),h)
noncomputable def ZjS(P:Program)(T:Tab)(D:DTab)(N:Nat){β:Type}(k:Ex→St→Option β)(t:Tm)(h:Hp):Option β:=
(ZrV P T D N k t h)
noncomputable def Z8K(P:Program)(T:Tab)(D:DTab)(N:Nat){β:Type}(t:Tm)(h:Hp)(k:Ex→St→Option β):Option β:=
lenK (t 4) λc=>
arithK .lss (t 5) c λa=>
condK a (
iaK 7 (t 4) (t 5) λd=>
ldK 7 true d h λe=>
arithK .sub (t 5) (I 1) λf=>
iaK 7 (t 4) f λg=>
ldK 7 true g h λi=>
eqK P true 50 e i h λb=>
condK b (
iaK 7 (t 4) (t 5) λj=>
ldK 7 true j h λl=>
iaK 7 (t 0) (t 3) λm=>
effK (stE 7 m l h) h λp n=>
arithK .add (t 3) (I 1) λo=>
(ZjS P T D N k (upd (upd (upd t 32 a) 44 b) 3 o) n)) (
(ZjS P T D N k (upd (upd t 32 a) 44 b) h))) (
k (.exit 2) ((upd t 32 a),h))
noncomputable def ZbY(P:Program)(T:Tab)(D:DTab)(N:Nat){β:Type}(k:Ex→St→Option β)(e:Ex)(s:St):Option β:=
 e.on ((ZjR P T D N k s.1 s.2))
 (λi=>bif i==2 then ((ZjR P T D N k s.1 s.2)) else (bif i==1 then ((Z8J P T D N k s.1 s.2)) else (k (.exit i) (s.1,s.2))))
 (k .ret (s.1,s.2))
noncomputable def ZjT(P:Program)(T:Tab)(D:DTab)(N:Nat){β:Type}(cL5:St→Option β)(cj3:St→Option β)(t:Tm)(h:Hp)(k:Ex→St→Option β) :  Option β:=
lenK (t 0) λe=>
arithK .lss (t 3) e λb=>
condK b (
iaK 7 (t 0) (t 3) λf=>
ldK 7 true f h λg=>
arithK .sub (t 3) (I 1) λi=>
iaK 7 (t 0) i λj=>
ldK 7 true j h λc=>
eqK P false 50 g c h λa=>
condK a (
sliceK 7 (t 0) (some (t 3)) none none λd=>
cL5 ((upd (upd (upd (upd t 13 b) 25 a) 4 d) 5 (I 1)),h)) (
cj3 ((upd (upd t 13 b) 25 a),h))) (
k (.exit 0) ((upd t 13 b),h))
noncomputable def Z8L(P:Program)(T:Tab)(D:DTab)(N:Nat){β:Type}(t:Tm)(h:Hp)(k:Ex→St→Option β):Option β:=ZjT P T D N (λs=>iterK (λs k=>Z8K P T D N s.1 s.2 k) N s (ZbY P T D N k)) (λs=>(Z8J P T D N k s.1 s.2)) t h k
noncomputable def ZbZ(P:Program)(T:Tab)(D:DTab)(N:Nat){β:Type}(K:Kb β)(e:Ex)(s:St):Option β:=
 e.on ((ZjQ P T D N K s.1 s.2))
 (λi=>bif i==0 then ((ZjQ P T D N K s.1 s.2)) else (none))
 (K (s.1 2) s.2)
noncomputable def ZjU(P:Program)(T:Tab)(D:DTab)(N:Nat){β:Type}(cL2:St→Option β)(K:Kb β)(a0:AV)(h:Hp) :  Option β:=
lenK a0 λb=>
arithK .lss b (I 2) λa=>
condK a (
K a0 h) (
cL2 ((upd (upd (upd (tm0 [a0]) 2 nilS) 8 a) 3 (I 1)),h))
noncomputable def ZjV(P:Program)(T:Tab)(D:DTab)(N:Nat){β:Type}(K:Kb β)(a0:AV)(h:Hp):Option β:=ZjU P T D N (λs=>iterK (λs k=>Z8L P T D N s.1 s.2 k) N s (ZbZ P T D N K)) K a0 h
noncomputable def Zc0(P:Program)(T:Tab)(D:DTab)(N:Nat){β:Type}(K:Kb β)(a:AV)(h:Hp):Option β:=
K a h
noncomputable def Zc1(P:Program)(T:Tab)(D:DTab)(N:Nat){β:Type}(xn:AV→Kb β)(d:Kb β)(xr:Kb β)(a b:AV)(h:Hp):Option β:=
arithK .add b (I 1) λc=>
xn a c h
noncomputable def Z64(P:Program)(T:Tab)(D:DTab)(N:Nat){β:Type}(xn:AV→Kb β)(g:Kb β)(xr:Kb β)(a b:AV)(h:Hp):Option β:=
sliceK 7 a (some b) none none λc=>
effK (clrE 7 zz7 c h) h λf d=>
sliceK 7 a none (some b) none λe=>
xr e d
noncomputable def ZjW(P:Program)(T:Tab)(D:DTab)(N:Nat){β:Type}(xn:AV→AV→AV→Kb β)(f:AV→Kb β)(b c d e:AV)(h:Hp):Option β:=
arithK .add e (I 1) λa=>
xn b c d a h
noncomputable def ZfA(P:Program)(T:Tab)(D:DTab)(N:Nat){β:Type}(xn:AV→AV→AV→Kb β)(a:AV→Kb β)(b c d e:AV)(h:Hp):Option β:=
ZjW P T D N xn a b c d e h
noncomputable def Z65(P:Program)(T:Tab)(D:DTab)(N:Nat){β:Type}(xn:AV→AV→AV→Kb β)(e:AV→Kb β)(c d a b:AV)(h:Hp):Option β:=
lenK a λf=>
arithK .lss b f λg=>
condK g (
iaK 7 a b λi=>
ldK 7 true i h λj=>
arithK .sub b (I 1) λk=>
iaK 7 a k λl=>
ldK 7 true l h λm=>
eqK P true 50 j m h λn=>
condK n (
iaK 7 a b λo=>
ldK 7 true o h λp=>
iaK 7 c d λq=>
effK (stE 7 q p h) h λt r=>
arithK .add d (I 1) λs=>
ZfA P T D N xn e c s a b r) (
ZfA P T D N xn e c d a b h)) (
e c d h)
noncomputable def Z46(P:Program)(T:Tab)(D:DTab)(N:Nat){β:Type}(a:AV→Kb β):Nat→AV→AV→AV→Kb β
 | 0=>λ_ _ _ _ _=>none
 | n+1=>λb c d e h=>Z65 P T D N (Z46 P T D N a n) a b c d e h
noncomputable def Z8M(P:Program)(T:Tab)(D:DTab)(N:Nat){β:Type}(xn:AV→Kb β)(e:Kb β)(xr:Kb β)(a b:AV)(h:Hp):Option β:=
lenK a λj=>
arithK .lss b j λk=>
condK k (
iaK 7 a b λl=>
ldK 7 true l h λm=>
arithK .sub b (I 1) λn=>
iaK 7 a n λo=>
ldK 7 true o h λf=>
eqK P false 50 m f h λg=>
condK g (
sliceK 7 a (some b) none none λi=>
Z46 P T D N (λc d h=>Z64 P T D N xn e xr c d h) N a b i (I 1) h) (
Zc1 P T D N xn e xr a b h)) (
e a h)
noncomputable def Z47(P:Program)(T:Tab)(D:DTab)(N:Nat){β:Type}(a:Kb β)(xr:Kb β):Nat→AV→Kb β
 | 0=>λ_ _ _=>none
 | n+1=>λb c h=>Z8M P T D N (Z47 P T D N a xr n) a xr b c h
noncomputable def Z4Y(P:Program)(T:Tab)(D:DTab)(N:Nat){β:Type}(K:Kb β)(a0:AV)(h:Hp):Option β:=
lenK a0 λc=>
arithK .lss c (I 2) λd=>
condK d (
K a0 h) (
Z47 P T D N (λa h=>Zc0 P T D N K a h) (λb h=>K b h) N a0 (I 1) h)
theorem ZrW(xn:AV→Kb β)(x0:Kb β)(xr:Kb β)(xd:Nat→St→Option β)(xq:St→Option β)(t:Tm)(h:Hp):Z8J P T D N (λ(e:Ex)(s:St)=>e.on (xn (s.1 0) (s.1 3) s.2) (λi=>(bif i==0 then x0 (s.1 0) s.2 else (xd i s))) (xr (s.1 2) s.2)) t h=Zc1 P T D N xn x0 xr (t 0) (t 3) h:=by kernel_rfl
theorem ZrX(xn:AV→AV→AV→Kb β)(x2:AV→Kb β)(xd:Nat→St→Option β)(xq:St→Option β)(t:Tm)(h:Hp):Z8K P T D N t h (λ(e:Ex)(s:St)=>e.on (xn (s.1 0) (s.1 3) (s.1 4) (s.1 5) s.2) (λi=>(bif i==2 then x2 (s.1 0) (s.1 3) s.2 else (xd i s))) (xq s))=Z65 P T D N xn x2 (t 0) (t 3) (t 4) (t 5) h:=by kernel_rfl
theorem ZrY(A:Ex→St→Option β)(x2:AV→Kb β)(q2:∀s,A (.exit 2) s=x2 (s.1 0) (s.1 3) s.2):∀(n:Nat)(s:St),iterK (λs k=>Z8K P T D N s.1 s.2 k) n s A=Z46 P T D N x2 n (s.1 0) (s.1 3) (s.1 4) (s.1 5) s.2:=
 Z0O (exs1 q2 (λs=>rfl)) (λs=>rfl) λn s=>ZrX P T D N (Z46 P T D N x2 n) x2 (λi s=>A (.exit i) s) (λs=>A .ret s) s.1 s.2
theorem ZrZ(xn:AV→Kb β)(x0:Kb β)(xr:Kb β)(xd:Nat→St→Option β)(xq:St→Option β)(t:Tm)(h:Hp):Z8L P T D N t h (λ(e:Ex)(s:St)=>e.on (xn (s.1 0) (s.1 3) s.2) (λi=>(bif i==0 then x0 (s.1 0) s.2 else (xd i s))) (xr (s.1 2) s.2))=Z8M P T D N xn x0 xr (t 0) (t 3) h:=by
 have eL5:(λs:St=>iterK (λs k=>Z8K P T D N s.1 s.2 k) N s (ZbY P T D N (λ(e:Ex)(s:St)=>e.on (xn (s.1 0) (s.1 3) s.2) (λi=>(bif i==0 then x0 (s.1 0) s.2 else (xd i s))) (xr (s.1 2) s.2))))=(λs:St=>Z46 P T D N (λw32_0 w32_3 h=>Z64 P T D N xn x0 xr w32_0 w32_3 h) N (s.1 0) (s.1 3) (s.1 4) (s.1 5) s.2):=funext λs=>ZrY P T D N (ZbY P T D N (λ(e:Ex)(s:St)=>e.on (xn (s.1 0) (s.1 3) s.2) (λi=>(bif i==0 then x0 (s.1 0) s.2 else (xd i s))) (xr (s.1 2) s.2))) (λw32_0 w32_3 h=>Z64 P T D N xn x0 xr w32_0 w32_3 h) (λs=>rfl) N s
 have ej3:(λs:St=>Z8J P T D N (λ(e:Ex)(s:St)=>e.on (xn (s.1 0) (s.1 3) s.2) (λi=>(bif i==0 then x0 (s.1 0) s.2 else (xd i s))) (xr (s.1 2) s.2)) s.1 s.2)=(λs:St=>Zc1 P T D N xn x0 xr (s.1 0) (s.1 3) s.2):=funext λs=>ZrW P T D N xn x0 xr xd xq s.1 s.2
 show ZjT P T D N (λs=>iterK (λs k=>Z8K P T D N s.1 s.2 k) N s (ZbY P T D N (λ(e:Ex)(s:St)=>e.on (xn (s.1 0) (s.1 3) s.2) (λi=>(bif i==0 then x0 (s.1 0) s.2 else (xd i s))) (xr (s.1 2) s.2)))) (λs=>Z8J P T D N (λ(e:Ex)(s:St)=>e.on (xn (s.1 0) (s.1 3) s.2) (λi=>(bif i==0 then x0 (s.1 0) s.2 else (xd i s))) (xr (s.1 2) s.2)) s.1 s.2) t h (λ(e:Ex)(s:St)=>e.on (xn (s.1 0) (s.1 3) s.2) (λi=>(bif i==0 then x0 (s.1 0) s.2 else (xd i s))) (xr (s.1 2) s.2))=_
 rw[eL5,ej3]
 kernel_rfl
theorem Zs0(A:Ex→St→Option β)(x0:Kb β)(xr:Kb β)(q0:∀s,A (.exit 0) s=x0 (s.1 0) s.2)(qr:∀s,A .ret s=xr (s.1 2) s.2):∀(n:Nat)(s:St),iterK (λs k=>Z8L P T D N s.1 s.2 k) n s A=Z47 P T D N x0 xr n (s.1 0) (s.1 3) s.2:=
 Z0O (exs1 q0 qr) (λs=>rfl) λn s=>ZrZ P T D N (Z47 P T D N x0 xr n) x0 xr (λi s=>A (.exit i) s) (λs=>A .ret s) s.1 s.2
theorem Zs1(K:Kb β)(a0:AV)(h:Hp):ZjV P T D N K a0 h=Z4Y P T D N K a0 h:=by
 have eL2:(λs:St=>iterK (λs k=>Z8L P T D N s.1 s.2 k) N s (ZbZ P T D N K))=(λs:St=>Z47 P T D N (λw33_0 h=>Zc0 P T D N K w33_0 h) (λw34_2 h=>K w34_2 h) N (s.1 0) (s.1 3) s.2):=funext λs=>Zs0 P T D N (ZbZ P T D N K) (λw33_0 h=>Zc0 P T D N K w33_0 h) (λw34_2 h=>K w34_2 h) (λs=>rfl) (λs=>rfl) N s
 show ZjU P T D N (λs=>iterK (λs k=>Z8L P T D N s.1 s.2 k) N s (ZbZ P T D N K)) K a0 h=_
 rw[eL2]
 kernel_rfl
theorem Zs2(K:Kb β)(a0:AV)(h:Hp):runK Tryz.prog T D N [0,2,3,4,5,8,13,25,32,44] Tryz.f71 K [a0] h=Z4Y Tryz.prog T D N K a0 h:=Eq.trans (b:=ZjV Tryz.prog T D N K a0 h) (by kernel_rfl) (Zs1 Tryz.prog T D N K a0 h)
noncomputable def ZjX(P:Program)(T:Tab)(D:DTab)(N:Nat){β:Type}(K:Kb β)(t:Tm)(h:Hp):Option β:=
K (.s (.int .i64 (-1))) h
noncomputable def Z8N(P:Program)(T:Tab)(D:DTab)(N:Nat){β:Type}(t:Tm)(h:Hp)(k:Ex→St→Option β):Option β:=
arithK .lss (t 8) (t 7) λa=>
condK a (
iaK 10 (t 0) (t 8) λd=>
ldK 10 true d h λe=>
callVK T (t 1) [e] h λb c=>
condK b (
k .ret ((upd (upd (upd (upd t 9 a) 5 (t 8)) 16 b) 4 (t 8)),c)) (
arithK .add (t 8) (I 1) λf=>
k .normal ((upd (upd (upd (upd t 9 a) 5 (t 8)) 16 b) 8 f),c))) (
k (.exit 0) ((upd t 9 a),h))
noncomputable def Zc2(P:Program)(T:Tab)(D:DTab)(N:Nat){β:Type}(K:Kb β)(e:Ex)(s:St):Option β:=
 e.on ((ZjX P T D N K s.1 s.2))
 (λi=>bif i==0 then ((ZjX P T D N K s.1 s.2)) else (none))
 (K (s.1 4) s.2)
noncomputable def ZjY(P:Program)(T:Tab)(D:DTab)(N:Nat){β:Type}(cL2:St→Option β)(K:Kb β)(a0 a1:AV)(h:Hp) :  Option β:=
lenK a0 λa=>
cL2 ((upd (upd (upd (tm0 [a0,a1]) 4 (I 0)) 7 a) 8 (I 0)),h)
noncomputable def ZjZ(P:Program)(T:Tab)(D:DTab)(N:Nat){β:Type}(K:Kb β)(a0 a1:AV)(h:Hp):Option β:=ZjY P T D N (λs=>iterK (λs k=>Z8N P T D N s.1 s.2 k) N s (Zc2 P T D N K)) K a0 a1 h
noncomputable def Zc3(P:Program)(T:Tab)(D:DTab)(N:Nat){β:Type}(K:Kb β)(h:Hp):Option β:=
K (.s (.int .i64 (-1))) h
noncomputable def Zc4(P:Program)(T:Tab)(D:DTab)(N:Nat){β:Type}(xn:AV→AV→AV→Kb β)(f:Qb β)(xr:Kb β)(b c d a:AV)(h:Hp):Option β:=
arithK .lss a d λg=>
condK g (
iaK 10 b a λi=>
ldK 10 true i h λj=>
callVK T c [j] h λk e=>
condK k (
xr a e) (
arithK .add a (I 1) λl=>
xn b c d l e)) (
f h)
noncomputable def Z4Z(P:Program)(T:Tab)(D:DTab)(N:Nat){β:Type}(a:Qb β)(xr:Kb β):Nat→AV→AV→AV→Kb β
 | 0=>λ_ _ _ _ _=>none
 | n+1=>λb c d e h=>Zc4 P T D N (Z4Z P T D N a xr n) a xr b c d e h
noncomputable def Z66(P:Program)(T:Tab)(D:DTab)(N:Nat){β:Type}(K:Kb β)(a0 a1:AV)(h:Hp):Option β:=
lenK a0 λb=>
Z4Z P T D N (λh=>Zc3 P T D N K h) (λa h=>K a h) N a0 a1 b (I 0) h
theorem Zs3(xn:AV→AV→AV→Kb β)(x0:Qb β)(xr:Kb β)(xd:Nat→St→Option β)(xq:St→Option β)(t:Tm)(h:Hp):Z8N P T D N t h (λ(e:Ex)(s:St)=>e.on (xn (s.1 0) (s.1 1) (s.1 7) (s.1 8) s.2) (λi=>(bif i==0 then x0 s.2 else (xd i s))) (xr (s.1 4) s.2))=Zc4 P T D N xn x0 xr (t 0) (t 1) (t 7) (t 8) h:=by kernel_rfl
theorem Zs4(A:Ex→St→Option β)(x0:Qb β)(xr:Kb β)(q0:∀s,A (.exit 0) s=x0 s.2)(qr:∀s,A .ret s=xr (s.1 4) s.2):∀(n:Nat)(s:St),iterK (λs k=>Z8N P T D N s.1 s.2 k) n s A=Z4Z P T D N x0 xr n (s.1 0) (s.1 1) (s.1 7) (s.1 8) s.2:=
 Z0O (exs1 q0 qr) (λs=>rfl) λn s=>Zs3 P T D N (Z4Z P T D N x0 xr n) x0 xr (λi s=>A (.exit i) s) (λs=>A .ret s) s.1 s.2
theorem Zs5(K:Kb β)(a0 a1:AV)(h:Hp):ZjZ P T D N K a0 a1 h=Z66 P T D N K a0 a1 h:=by
 have eL2:(λs:St=>iterK (λs k=>Z8N P T D N s.1 s.2 k) N s (Zc2 P T D N K))=(λs:St=>Z4Z P T D N (λh=>Zc3 P T D N K h) (λw9_4 h=>K w9_4 h) N (s.1 0) (s.1 1) (s.1 7) (s.1 8) s.2):=funext λs=>Zs4 P T D N (Zc2 P T D N K) (λh=>Zc3 P T D N K h) (λw9_4 h=>K w9_4 h) (λs=>rfl) (λs=>rfl) N s
 show ZjY P T D N (λs=>iterK (λs k=>Z8N P T D N s.1 s.2 k) N s (Zc2 P T D N K)) K a0 a1 h=_
 rw[eL2]
 kernel_rfl
theorem Zs6(K:Kb β)(a0 a1:AV)(h:Hp):runK Tryz.prog T D N [0,1,4,5,7,8,9,16] Tryz.f72 K [a0,a1] h=Z66 Tryz.prog T D N K a0 a1 h:=Eq.trans (b:=ZjZ Tryz.prog T D N K a0 a1 h) (by kernel_rfl) (Zs5 Tryz.prog T D N K a0 a1 h)
noncomputable def Zk0(P:Program)(T:Tab)(D:DTab)(N:Nat){β:Type}(K:Kb β)(t:Tm)(h:Hp):Option β:=
K (.s (.int .i64 (-1))) h
noncomputable def Z8O(P:Program)(T:Tab)(D:DTab)(N:Nat){β:Type}(t:Tm)(h:Hp)(k:Ex→St→Option β):Option β:=
arithK .lss (t 8) (t 7) λa=>
condK a (
ldK 2 true (t 3) h λc=>
iaK 2 (t 0) (t 8) λd=>
ldK 2 true d h λe=>
eqK P false 60 c e h λb=>
condK b (
k .ret ((upd (upd (upd (upd t 9 a) 5 (t 8)) 16 b) 4 (t 8)),h)) (
arithK .add (t 8) (I 1) λf=>
k .normal ((upd (upd (upd (upd t 9 a) 5 (t 8)) 16 b) 8 f),h))) (
k (.exit 0) ((upd t 9 a),h))
noncomputable def Zc5(P:Program)(T:Tab)(D:DTab)(N:Nat){β:Type}(K:Kb β)(e:Ex)(s:St):Option β:=
 e.on ((Zk0 P T D N K s.1 s.2))
 (λi=>bif i==0 then ((Zk0 P T D N K s.1 s.2)) else (none))
 (K (s.1 4) s.2)
noncomputable def Zk1(P:Program)(T:Tab)(D:DTab)(N:Nat){β:Type}(cL2:St→Option β)(K:Kb β)(a0 a1:AV)(h:Hp) :  Option β:=
effK (boxE 2 a1 (List.length h)) h λa b=>
lenK a0 λc=>
cL2 ((upd (upd (upd (upd (tm0 [a0,a1]) 3 a) 4 (I 0)) 7 c) 8 (I 0)),b)
noncomputable def Zk2(P:Program)(T:Tab)(D:DTab)(N:Nat){β:Type}(K:Kb β)(a0 a1:AV)(h:Hp):Option β:=Zk1 P T D N (λs=>iterK (λs k=>Z8O P T D N s.1 s.2 k) N s (Zc5 P T D N K)) K a0 a1 h
noncomputable def Zc6(P:Program)(T:Tab)(D:DTab)(N:Nat){β:Type}(K:Kb β)(h:Hp):Option β:=
K (.s (.int .i64 (-1))) h
noncomputable def Zc7(P:Program)(T:Tab)(D:DTab)(N:Nat){β:Type}(xn:AV→AV→AV→Kb β)(e:Qb β)(xr:Kb β)(b c d a:AV)(h:Hp):Option β:=
arithK .lss a d λf=>
condK f (
ldK 2 true c h λg=>
iaK 2 b a λi=>
ldK 2 true i h λj=>
eqK P false 60 g j h λk=>
condK k (
xr a h) (
arithK .add a (I 1) λl=>
xn b c d l h)) (
e h)
noncomputable def Z50(P:Program)(T:Tab)(D:DTab)(N:Nat){β:Type}(a:Qb β)(xr:Kb β):Nat→AV→AV→AV→Kb β
 | 0=>λ_ _ _ _ _=>none
 | n+1=>λb c d e h=>Zc7 P T D N (Z50 P T D N a xr n) a xr b c d e h
noncomputable def Z8P(P:Program)(T:Tab)(D:DTab)(N:Nat){β:Type}(K:Kb β)(a0 a1:AV)(h:Hp):Option β:=
effK (boxE 2 a1 (List.length h)) h λb c=>
lenK a0 λd=>
Z50 P T D N (λh=>Zc6 P T D N K h) (λa h=>K a h) N a0 b d (I 0) c
theorem Zs7(xn:AV→AV→AV→Kb β)(x0:Qb β)(xr:Kb β)(xd:Nat→St→Option β)(xq:St→Option β)(t:Tm)(h:Hp):Z8O P T D N t h (λ(e:Ex)(s:St)=>e.on (xn (s.1 0) (s.1 3) (s.1 7) (s.1 8) s.2) (λi=>(bif i==0 then x0 s.2 else (xd i s))) (xr (s.1 4) s.2))=Zc7 P T D N xn x0 xr (t 0) (t 3) (t 7) (t 8) h:=by kernel_rfl
theorem Zs8(A:Ex→St→Option β)(x0:Qb β)(xr:Kb β)(q0:∀s,A (.exit 0) s=x0 s.2)(qr:∀s,A .ret s=xr (s.1 4) s.2):∀(n:Nat)(s:St),iterK (λs k=>Z8O P T D N s.1 s.2 k) n s A=Z50 P T D N x0 xr n (s.1 0) (s.1 3) (s.1 7) (s.1 8) s.2:=
 Z0O (exs1 q0 qr) (λs=>rfl) λn s=>Zs7 P T D N (Z50 P T D N x0 xr n) x0 xr (λi s=>A (.exit i) s) (λs=>A .ret s) s.1 s.2
theorem Zs9(K:Kb β)(a0 a1:AV)(h:Hp):Zk2 P T D N K a0 a1 h=Z8P P T D N K a0 a1 h:=by
 have eL2:(λs:St=>iterK (λs k=>Z8O P T D N s.1 s.2 k) N s (Zc5 P T D N K))=(λs:St=>Z50 P T D N (λh=>Zc6 P T D N K h) (λw11_4 h=>K w11_4 h) N (s.1 0) (s.1 3) (s.1 7) (s.1 8) s.2):=funext λs=>Zs8 P T D N (Zc5 P T D N K) (λh=>Zc6 P T D N K h) (λw11_4 h=>K w11_4 h) (λs=>rfl) (λs=>rfl) N s
 show Zk1 P T D N (λs=>iterK (λs k=>Z8O P T D N s.1 s.2 k) N s (Zc5 P T D N K)) K a0 a1 h=_
 rw[eL2]
 kernel_rfl
theorem Zsa(K:Kb β)(a0 a1:AV)(h:Hp):runK Tryz.prog T D N [0,1,3,4,5,7,8,9,16] Tryz.f73 K [a0,a1] h=Z8P Tryz.prog T D N K a0 a1 h:=Eq.trans (b:=Zk2 Tryz.prog T D N K a0 a1 h) (by kernel_rfl) (Zs9 Tryz.prog T D N K a0 a1 h)
noncomputable def Zk3(P:Program)(T:Tab)(D:DTab)(N:Nat){β:Type}(K:Kb β)(t:Tm)(h:Hp):Option β:=
K (.s (.int .i64 (-1))) h
noncomputable def Z8Q(P:Program)(T:Tab)(D:DTab)(N:Nat){β:Type}(t:Tm)(h:Hp)(k:Ex→St→Option β):Option β:=
arithK .lss (t 8) (t 7) λa=>
condK a (
ldK 7 true (t 3) h λc=>
iaK 7 (t 0) (t 8) λd=>
ldK 7 true d h λe=>
eqK P false 50 c e h λb=>
condK b (
k .ret ((upd (upd (upd (upd t 9 a) 5 (t 8)) 16 b) 4 (t 8)),h)) (
arithK .add (t 8) (I 1) λf=>
k .normal ((upd (upd (upd (upd t 9 a) 5 (t 8)) 16 b) 8 f),h))) (
k (.exit 0) ((upd t 9 a),h))
noncomputable def Zc8(P:Program)(T:Tab)(D:DTab)(N:Nat){β:Type}(K:Kb β)(e:Ex)(s:St):Option β:=
 e.on ((Zk3 P T D N K s.1 s.2))
 (λi=>bif i==0 then ((Zk3 P T D N K s.1 s.2)) else (none))
 (K (s.1 4) s.2)
noncomputable def Zk4(P:Program)(T:Tab)(D:DTab)(N:Nat){β:Type}(cL2:St→Option β)(K:Kb β)(a0 a1:AV)(h:Hp) :  Option β:=
effK (boxE 7 a1 (List.length h)) h λa b=>
lenK a0 λc=>
cL2 ((upd (upd (upd (upd (tm0 [a0,a1]) 3 a) 4 (I 0)) 7 c) 8 (I 0)),b)
noncomputable def Zk5(P:Program)(T:Tab)(D:DTab)(N:Nat){β:Type}(K:Kb β)(a0 a1:AV)(h:Hp):Option β:=Zk4 P T D N (λs=>iterK (λs k=>Z8Q P T D N s.1 s.2 k) N s (Zc8 P T D N K)) K a0 a1 h
noncomputable def Zc9(P:Program)(T:Tab)(D:DTab)(N:Nat){β:Type}(K:Kb β)(h:Hp):Option β:=
K (.s (.int .i64 (-1))) h
noncomputable def Zca(P:Program)(T:Tab)(D:DTab)(N:Nat){β:Type}(xn:AV→AV→AV→Kb β)(e:Qb β)(xr:Kb β)(b c d a:AV)(h:Hp):Option β:=
arithK .lss a d λf=>
condK f (
ldK 7 true c h λg=>
iaK 7 b a λi=>
ldK 7 true i h λj=>
eqK P false 50 g j h λk=>
condK k (
xr a h) (
arithK .add a (I 1) λl=>
xn b c d l h)) (
e h)
noncomputable def Z51(P:Program)(T:Tab)(D:DTab)(N:Nat){β:Type}(a:Qb β)(xr:Kb β):Nat→AV→AV→AV→Kb β
 | 0=>λ_ _ _ _ _=>none
 | n+1=>λb c d e h=>Zca P T D N (Z51 P T D N a xr n) a xr b c d e h
noncomputable def Z8R(P:Program)(T:Tab)(D:DTab)(N:Nat){β:Type}(K:Kb β)(a0 a1:AV)(h:Hp):Option β:=
effK (boxE 7 a1 (List.length h)) h λb c=>
lenK a0 λd=>
Z51 P T D N (λh=>Zc9 P T D N K h) (λa h=>K a h) N a0 b d (I 0) c
theorem Zsb(xn:AV→AV→AV→Kb β)(x0:Qb β)(xr:Kb β)(xd:Nat→St→Option β)(xq:St→Option β)(t:Tm)(h:Hp):Z8Q P T D N t h (λ(e:Ex)(s:St)=>e.on (xn (s.1 0) (s.1 3) (s.1 7) (s.1 8) s.2) (λi=>(bif i==0 then x0 s.2 else (xd i s))) (xr (s.1 4) s.2))=Zca P T D N xn x0 xr (t 0) (t 3) (t 7) (t 8) h:=by kernel_rfl
theorem Zsc(A:Ex→St→Option β)(x0:Qb β)(xr:Kb β)(q0:∀s,A (.exit 0) s=x0 s.2)(qr:∀s,A .ret s=xr (s.1 4) s.2):∀(n:Nat)(s:St),iterK (λs k=>Z8Q P T D N s.1 s.2 k) n s A=Z51 P T D N x0 xr n (s.1 0) (s.1 3) (s.1 7) (s.1 8) s.2:=
 Z0O (exs1 q0 qr) (λs=>rfl) λn s=>Zsb P T D N (Z51 P T D N x0 xr n) x0 xr (λi s=>A (.exit i) s) (λs=>A .ret s) s.1 s.2
theorem Zsd(K:Kb β)(a0 a1:AV)(h:Hp):Zk5 P T D N K a0 a1 h=Z8R P T D N K a0 a1 h:=by
 have eL2:(λs:St=>iterK (λs k=>Z8Q P T D N s.1 s.2 k) N s (Zc8 P T D N K))=(λs:St=>Z51 P T D N (λh=>Zc9 P T D N K h) (λw11_4 h=>K w11_4 h) N (s.1 0) (s.1 3) (s.1 7) (s.1 8) s.2):=funext λs=>Zsc P T D N (Zc8 P T D N K) (λh=>Zc9 P T D N K h) (λw11_4 h=>K w11_4 h) (λs=>rfl) (λs=>rfl) N s
 show Zk4 P T D N (λs=>iterK (λs k=>Z8Q P T D N s.1 s.2 k) N s (Zc8 P T D N K)) K a0 a1 h=_
 rw[eL2]
 kernel_rfl
theorem Zse(K:Kb β)(a0 a1:AV)(h:Hp):runK Tryz.prog T D N [0,1,3,4,5,7,8,9,16] Tryz.f74 K [a0,a1] h=Z8R Tryz.prog T D N K a0 a1 h:=Eq.trans (b:=Zk5 Tryz.prog T D N K a0 a1 h) (by kernel_rfl) (Zsd Tryz.prog T D N K a0 a1 h)
noncomputable def Zk6(P:Program)(T:Tab)(D:DTab)(N:Nat){β:Type}(K:Kb β)(t:Tm)(h:Hp):Option β:=
arithK .lss (t 9) (t 8) λe=>
grpK true e h (λf=>
iaK 2 (t 0) (t 9) λg=>
ldK 2 true g h λi=>
ldK 2 true (t 4) h λj=>
callVK T (t 2) [i,j] h λk a=>
eqK P false 3 k (I 0) a λb=>
f b a) λc d=>
K (.tup [(t 9),c]) d
noncomputable def Zk7(P:Program)(T:Tab)(D:DTab)(N:Nat){β:Type}(k:Ex→St→Option β)(t:Tm)(h:Hp):Option β:=
k .normal (t,h)
noncomputable def Z8S(P:Program)(T:Tab)(D:DTab)(N:Nat){β:Type}(t:Tm)(h:Hp)(k:Ex→St→Option β):Option β:=
arithK .lss (t 9) (t 10) λb=>
condK b (
arithK .add (t 9) (t 10) λe=>
convK P 3 114 e λf=>
reckK P .shr 114 f (.s (.int .u64 1)) λg=>
convK P 114 3 g λa=>
iaK 2 (t 0) a λi=>
ldK 2 true i h λj=>
ldK 2 true (t 4) h λl=>
callVK T (t 2) [j,l] h λm d=>
arithK .lss m (I 0) λc=>
condK c (
arithK .add a (I 1) λn=>
(Zk7 P T D N k (upd (upd (upd (upd t 17 b) 11 a) 31 c) 9 n) d)) (
(Zk7 P T D N k (upd (upd (upd (upd t 17 b) 11 a) 31 c) 10 a) d))) (
k (.exit 0) ((upd t 17 b),h))
noncomputable def Zcb(P:Program)(T:Tab)(D:DTab)(N:Nat){β:Type}(K:Kb β)(e:Ex)(s:St):Option β:=
 e.on ((Zk6 P T D N K s.1 s.2))
 (λi=>bif i==0 then ((Zk6 P T D N K s.1 s.2)) else (none))
 (K (.tup [(s.1 6),(s.1 7)]) s.2)
noncomputable def Zk8(P:Program)(T:Tab)(D:DTab)(N:Nat){β:Type}(cL2:St→Option β)(K:Kb β)(a0 a1 a2:AV)(h:Hp) :  Option β:=
effK (boxE 2 a1 (List.length h)) h λb c=>
lenK a0 λa=>
cL2 ((upd (upd (upd (upd (upd (upd (tm0 [a0,a1,a2]) 4 b) 6 (I 0)) 7 (.s (.bool false))) 8 a) 9 (I 0)) 10 a),c)
noncomputable def Zk9(P:Program)(T:Tab)(D:DTab)(N:Nat){β:Type}(K:Kb β)(a0 a1 a2:AV)(h:Hp):Option β:=Zk8 P T D N (λs=>iterK (λs k=>Z8S P T D N s.1 s.2 k) N s (Zcb P T D N K)) K a0 a1 a2 h
noncomputable def Z67(P:Program)(T:Tab)(D:DTab)(N:Nat){β:Type}(K:Kb β)(f g i j b:AV)(h:Hp):Option β:=
arithK .lss b j λk=>
grpK true k h (λl=>
iaK 2 f b λm=>
ldK 2 true m h λn=>
ldK 2 true i h λo=>
callVK T g [n,o] h λp a=>
eqK P false 3 p (I 0) a λc=>
l c a) λd e=>
K (.tup [b,d]) e
noncomputable def ZfB(P:Program)(T:Tab)(D:DTab)(N:Nat){β:Type}(xn:AV→AV→AV→AV→AV→Kb β)(g:AV→AV→AV→AV→Kb β)(b c d e f a:AV)(h:Hp):Option β:=
xn b c d e f a h
noncomputable def Z8T(P:Program)(T:Tab)(D:DTab)(N:Nat){β:Type}(xn:AV→AV→AV→AV→AV→Kb β)(i:AV→AV→AV→AV→Kb β)(c d e j f a:AV)(h:Hp):Option β:=
arithK .lss f a λk=>
condK k (
arithK .add f a λl=>
convK P 3 114 l λm=>
reckK P .shr 114 m (.s (.int .u64 1)) λn=>
convK P 114 3 n λb=>
iaK 2 c b λo=>
ldK 2 true o h λp=>
ldK 2 true e h λq=>
callVK T d [p,q] h λr g=>
arithK .lss r (I 0) λt=>
condK t (
arithK .add b (I 1) λu=>
ZfB P T D N xn i c d e j u a g) (
ZfB P T D N xn i c d e j f b g)) (
i c d e j f h)
noncomputable def Z52(P:Program)(T:Tab)(D:DTab)(N:Nat){β:Type}(a:AV→AV→AV→AV→Kb β):Nat→AV→AV→AV→AV→AV→Kb β
 | 0=>λ_ _ _ _ _ _ _=>none
 | n+1=>λc d e f g b h=>Z8T P T D N (Z52 P T D N a n) a c d e f g b h
noncomputable def Z68(P:Program)(T:Tab)(D:DTab)(N:Nat){β:Type}(K:Kb β)(a0 a1 a2:AV)(h:Hp):Option β:=
effK (boxE 2 a1 (List.length h)) h λg i=>
lenK a0 λf=>
Z52 P T D N (λa b c d e h=>Z67 P T D N K a b c d e h) N a0 a2 g f (I 0) f i
theorem Zsf(xn:AV→AV→AV→AV→AV→Kb β)(x0:AV→AV→AV→AV→Kb β)(xd:Nat→St→Option β)(xq:St→Option β)(t:Tm)(h:Hp):Z8S P T D N t h (λ(e:Ex)(s:St)=>e.on (xn (s.1 0) (s.1 2) (s.1 4) (s.1 8) (s.1 9) (s.1 10) s.2) (λi=>(bif i==0 then x0 (s.1 0) (s.1 2) (s.1 4) (s.1 8) (s.1 9) s.2 else (xd i s))) (xq s))=Z8T P T D N xn x0 (t 0) (t 2) (t 4) (t 8) (t 9) (t 10) h:=by kernel_rfl
theorem Zsg(A:Ex→St→Option β)(x0:AV→AV→AV→AV→Kb β)(q0:∀s,A (.exit 0) s=x0 (s.1 0) (s.1 2) (s.1 4) (s.1 8) (s.1 9) s.2):∀(n:Nat)(s:St),iterK (λs k=>Z8S P T D N s.1 s.2 k) n s A=Z52 P T D N x0 n (s.1 0) (s.1 2) (s.1 4) (s.1 8) (s.1 9) (s.1 10) s.2:=
 Z0O (exs1 q0 (λs=>rfl)) (λs=>rfl) λn s=>Zsf P T D N (Z52 P T D N x0 n) x0 (λi s=>A (.exit i) s) (λs=>A .ret s) s.1 s.2
theorem Zsh(K:Kb β)(a0 a1 a2:AV)(h:Hp):Zk9 P T D N K a0 a1 a2 h=Z68 P T D N K a0 a1 a2 h:=by
 have eL2:(λs:St=>iterK (λs k=>Z8S P T D N s.1 s.2 k) N s (Zcb P T D N K))=(λs:St=>Z52 P T D N (λw26_0 w26_2 w26_4 w26_8 w26_9 h=>Z67 P T D N K w26_0 w26_2 w26_4 w26_8 w26_9 h) N (s.1 0) (s.1 2) (s.1 4) (s.1 8) (s.1 9) (s.1 10) s.2):=funext λs=>Zsg P T D N (Zcb P T D N K) (λw26_0 w26_2 w26_4 w26_8 w26_9 h=>Z67 P T D N K w26_0 w26_2 w26_4 w26_8 w26_9 h) (λs=>rfl) N s
 show Zk8 P T D N (λs=>iterK (λs k=>Z8S P T D N s.1 s.2 k) N s (Zcb P T D N K)) K a0 a1 a2 h=_
 rw[eL2]
 kernel_rfl
theorem Zsi(K:Kb β)(a0 a1 a2:AV)(h:Hp):runK Tryz.prog T D N [0,1,2,4,6,7,8,9,10,11,17,31] Tryz.f75 K [a0,a1,a2] h=Z68 Tryz.prog T D N K a0 a1 a2 h:=Eq.trans (b:=Zk9 Tryz.prog T D N K a0 a1 a2 h) (by kernel_rfl) (Zsh Tryz.prog T D N K a0 a1 a2 h)
noncomputable def Z8U(P:Program)(T:Tab)(D:DTab)(N:Nat){β:Type}(K:Kb β)(b:AV)(h:Hp):Option β:=
notK b λa=>
condK a (
K (I 1) h) (
K (I 0) h)
noncomputable def Z48(P:Program)(T:Tab)(D:DTab)(N:Nat){β:Type}(K:Kb β)(a:AV)(h:Hp):Option β:=
Z8U P T D N K a h
noncomputable def Zcc(P:Program)(T:Tab)(D:DTab)(N:Nat){β:Type}(K:Kb β)(a0:AV)(h:Hp):Option β:=
effK (boxE 7 a0 (List.length h)) h λb s=>
faK 0 b λx3=>
ldK 1 false x3 s λx4=>
arithK .lss x4 (I 1) λx5=>
grpK false x5 s (λk6=>
faK 0 b λx7=>
ldK 1 false x7 s λx8=>
arithK .gtr x8 (I 1073741824) λx9=>
k6 x9 s) λd1 k=>
grpK false d1 k (λd2=>
faK 1 b λd3=>
ldK 1 false d3 k λd4=>
arithK .lss d4 (I 1) λd5=>
d2 d5 k) λd6 l=>
grpK false d6 l (λd7=>
faK 1 b λd8=>
ldK 1 false d8 l λd9=>
arithK .gtr d9 (I 5) λe0=>
d7 e0 l) λe1 m=>
grpK false e1 m (λe2=>
faK 3 b λe3=>
ldK 1 false e3 m λe4=>
arithK .lss e4 (I 0) λe5=>
e2 e5 m) λe6 n=>
grpK false e6 n (λe7=>
faK 3 b λe8=>
ldK 1 false e8 n λe9=>
arithK .gtr e9 (I 100000) λf0=>
e7 f0 n) λf1 c=>
condK f1 (
K (I 2) c) (
faK 2 b λf2=>
ldK 1 false f2 c λf3=>
eqK P false 3 f3 (I 0) c λf4=>
grpK true f4 c (λf5=>
faK 4 b λf6=>
ldK 1 false f6 c λf7=>
eqK P false 3 f7 (I 0) c λf8=>
f5 f8 c) λf9 j=>
grpK true f9 j (λg0=>
faK 5 b λg1=>
ldK 1 false g1 j λg2=>
eqK P false 3 g2 (I 0) j λg3=>
g0 g3 j) λt a=>
faK 1 b λg4=>
ldK 1 false g4 a λo=>
eqK P false 3 o (I 1) a λg5=>
condK g5 (
faK 2 b λg6=>
ldK 1 false g6 a λg7=>
eqK P false 3 g7 (I 0) a λg8=>
grpK true g8 a (λg9=>
faK 4 b λh0=>
ldK 1 false h0 a λh1=>
callK (T 57) [h1] a λh2 h3=>
g9 h2 h3) λh4 p=>
grpK true h4 p (λh5=>
faK 5 b λh6=>
ldK 1 false h6 p λh7=>
callK (T 57) [h7] p λh8 h9=>
h5 h8 h9) λi0 f=>
grpK true i0 f (λi1=>
faK 4 b λi2=>
ldK 1 false i2 f λi3=>
faK 5 b λi4=>
ldK 1 false i4 f λi5=>
eqK P true 3 i3 i5 f λi6=>
i1 i6 f) λi7 q=>
grpK true i7 q (λi8=>
faK 6 b λi9=>
ldK 1 false i9 q λj0=>
arithK .geq j0 (I 1) λj1=>
i8 j1 q) λj2 r=>
grpK true j2 r (λj3=>
faK 6 b λj4=>
ldK 1 false j4 r λj5=>
arithK .leq j5 (I 10737418240000) λj6=>
j3 j6 r) λj7 j8=>
Z48 P T D N K j7 j8) (
eqK P false 3 o (I 2) a λj9=>
condK j9 (
faK 2 b λk0=>
ldK 1 false k0 a λk1=>
arithK .geq k1 (I 1) λk2=>
grpK true k2 a (λk3=>
faK 2 b λk4=>
ldK 1 false k4 a λk5=>
arithK .leq k5 (I 64) λk6=>
k3 k6 a) λu d=>
grpK true u d (λv=>
faK 4 b λw=>
ldK 1 false w d λx=>
eqK P false 3 x (I 0) d λy=>
v y d) λz g=>
grpK true z g (λa1=>
faK 5 b λa2=>
ldK 1 false a2 g λa3=>
callK (T 57) [a3] g λa4 a5=>
a1 a4 a5) λa6 e=>
grpK true a6 e (λa7=>
faK 6 b λa8=>
ldK 1 false a8 e λa9=>
eqK P false 3 a9 (I 0) e λb0=>
a7 b0 e) λb1 b2=>
Z48 P T D N K b1 b2) (
eqK P false 3 o (I 3) a λb3=>
condK b3 (
grpK true t a (λb4=>
faK 6 b λb5=>
ldK 1 false b5 a λb6=>
arithK .geq b6 (I 0) λb7=>
b4 b7 a) λb8 i=>
grpK true b8 i (λb9=>
faK 6 b λc0=>
ldK 1 false c0 i λc1=>
arithK .leq c1 (I 10737418240000) λc2=>
b9 c2 i) λc3 c4=>
Z48 P T D N K c3 c4) (
grpK true t a (λc5=>
faK 6 b λc6=>
ldK 1 false c6 a λc7=>
eqK P false 3 c7 (I 0) a λc8=>
c5 c8 a) λc9 d0=>
Z48 P T D N K c9 d0))))
theorem Zsj(K:Kb β)(a0:AV)(h:Hp):runK Tryz.prog T D N [0,1,2,3,31,46,53,85,110,124] Tryz.f77 K [a0] h=Zcc Tryz.prog T D N K a0 h:=by kernel_rfl
noncomputable def Zka(P:Program)(T:Tab)(D:DTab)(N:Nat){β:Type}(K:Kb β)(t:Tm)(h:Hp):Option β:=
K (t 3) h
noncomputable def Zsk(P:Program)(T:Tab)(D:DTab)(N:Nat){β:Type}(k:Ex→St→Option β)(t:Tm)(h:Hp):Option β:=
arithK .add (t 4) (I 1) λa=>
k .normal ((upd t 4 a),h)
noncomputable def Z53(P:Program)(T:Tab)(D:DTab)(N:Nat){β:Type}(k:Ex→St→Option β)(t:Tm)(h:Hp):Option β:=
(Zsk P T D N k t h)
noncomputable def Zkb(P:Program)(T:Tab)(D:DTab)(N:Nat){β:Type}(k:Ex→St→Option β)(t:Tm)(h:Hp):Option β:=
(Z53 P T D N k t h)
noncomputable def Z8V(P:Program)(T:Tab)(D:DTab)(N:Nat){β:Type}(t:Tm)(h:Hp)(k:Ex→St→Option β):Option β:=
arithK .gtr (t 7) (I 0) λd=>
grpK true d h (λe=>
iaK 7 (t 3) (t 7) λf=>
ldK 7 true f h λg=>
arithK .sub (t 7) (I 1) λi=>
iaK 7 (t 3) i λj=>
ldK 7 true j h λl=>
callK (T 87) [g,l] h λm n=>
e m n) λb a=>
condK b (
arithK .sub (t 7) (I 1) λo=>
iaK 7 (t 3) (t 7) λp=>
ldK 7 true p a λq=>
arithK .sub (t 7) (I 1) λr=>
iaK 7 (t 3) r λs=>
ldK 7 true s a λu=>
iaK 7 (t 3) o λv=>
effK (stE 7 v q a) a λz c=>
iaK 7 (t 3) (t 7) λw=>
effK (stE 7 w u c) c λa0 x=>
arithK .sub (t 7) (I 1) λy=>
k .normal ((upd (upd t 56 b) 7 y),x)) (
k (.exit 4) ((upd t 56 b),a))
noncomputable def Zcd(P:Program)(T:Tab)(D:DTab)(N:Nat){β:Type}(k:Ex→St→Option β)(e:Ex)(s:St):Option β:=
 e.on ((Zkb P T D N k s.1 s.2))
 (λi=>bif i==4 then ((Zkb P T D N k s.1 s.2)) else (bif i==1 then ((Z53 P T D N k s.1 s.2)) else (k (.exit i) (s.1,s.2))))
 (k .ret (s.1,s.2))
noncomputable def Zkc(P:Program)(T:Tab)(D:DTab)(N:Nat){β:Type}(cL7:St→Option β)(cj4:St→Option β)(k:Ex→St→Option β)(t:Tm)(h:Hp) :  Option β:=
condK (t 5) (
cj4 ((upd t 33 (t 5)),h)) (
lenK (t 3) λd=>
iaK 7 (t 0) (t 4) λe=>
ldK 7 true e h λf=>
effK (bsE 7 zz7 1 [(0,f)] (List.length h)) h λg a=>
effK (appE 7 56 (t 3) g a (List.length a)) a λb c=>
cL7 ((upd (upd (upd t 33 (t 5)) 7 d) 3 b),c))
noncomputable def ZfC(P:Program)(T:Tab)(D:DTab)(N:Nat){β:Type}(k:Ex→St→Option β)(t:Tm)(h:Hp):Option β:=Zkc P T D N (λs=>iterK (λs k=>Z8V P T D N s.1 s.2 k) N s (Zcd P T D N k)) (λs=>(Z53 P T D N k s.1 s.2)) k t h
noncomputable def Z8W(P:Program)(T:Tab)(D:DTab)(N:Nat){β:Type}(t:Tm)(h:Hp)(k:Ex→St→Option β):Option β:=
lenK (t 3) λb=>
arithK .lss (t 6) b λa=>
condK a (
grpK false (t 5) h (λc=>
iaK 7 (t 3) (t 6) λd=>
ldK 7 true d h λe=>
iaK 7 (t 0) (t 4) λf=>
ldK 7 true f h λg=>
eqK P false 50 e g h λi=>
c i h) λj l=>
arithK .add (t 6) (I 1) λm=>
k .normal ((upd (upd (upd t 18 a) 5 j) 6 m),l)) (
k (.exit 2) ((upd t 18 a),h))
noncomputable def Zce(P:Program)(T:Tab)(D:DTab)(N:Nat){β:Type}(k:Ex→St→Option β)(e:Ex)(s:St):Option β:=
 e.on ((ZfC P T D N k s.1 s.2))
 (λi=>bif i==2 then ((ZfC P T D N k s.1 s.2)) else (bif i==1 then ((Z53 P T D N k s.1 s.2)) else (k (.exit i) (s.1,s.2))))
 (k .ret (s.1,s.2))
noncomputable def Zkd(P:Program)(T:Tab)(D:DTab)(N:Nat){β:Type}(cL8:St→Option β)(t:Tm)(h:Hp)(k:Ex→St→Option β) :  Option β:=
lenK (t 0) λb=>
arithK .lss (t 4) b λa=>
condK a (
cL8 ((upd (upd (upd t 12 a) 5 (.s (.bool false))) 6 (I 0)),h)) (
k (.exit 0) ((upd t 12 a),h))
noncomputable def Z8X(P:Program)(T:Tab)(D:DTab)(N:Nat){β:Type}(t:Tm)(h:Hp)(k:Ex→St→Option β):Option β:=Zkd P T D N (λs=>iterK (λs k=>Z8W P T D N s.1 s.2 k) N s (Zce P T D N k)) t h k
noncomputable def Zcf(P:Program)(T:Tab)(D:DTab)(N:Nat){β:Type}(K:Kb β)(e:Ex)(s:St):Option β:=
 e.on ((Zka P T D N K s.1 s.2))
 (λi=>bif i==0 then ((Zka P T D N K s.1 s.2)) else (none))
 (K (s.1 2) s.2)
noncomputable def Zke(P:Program)(T:Tab)(D:DTab)(N:Nat){β:Type}(cL2:St→Option β)(K:Kb β)(a0:AV)(h:Hp) :  Option β:=
effK (bsE 7 zz7 0 [] (List.length h)) h λa b=>
cL2 ((upd (upd (upd (tm0 [a0]) 2 nilS) 3 a) 4 (I 0)),b)
noncomputable def Zkf(P:Program)(T:Tab)(D:DTab)(N:Nat){β:Type}(K:Kb β)(a0:AV)(h:Hp):Option β:=Zke P T D N (λs=>iterK (λs k=>Z8X P T D N s.1 s.2 k) N s (Zcf P T D N K)) K a0 h
noncomputable def Z8Y(P:Program)(T:Tab)(D:DTab)(N:Nat){β:Type}(K:Kb β)(a:AV)(h:Hp):Option β:=
K a h
noncomputable def ZfD(P:Program)(T:Tab)(D:DTab)(N:Nat){β:Type}(xn:AV→AV→Kb β)(e:Kb β)(a b c:AV)(h:Hp):Option β:=
arithK .add c (I 1) λd=>
xn a b d h
noncomputable def Z69(P:Program)(T:Tab)(D:DTab)(N:Nat){β:Type}(xn:AV→AV→Kb β)(a:Kb β)(b c d:AV)(h:Hp):Option β:=
ZfD P T D N xn a b c d h
noncomputable def Z8Z(P:Program)(T:Tab)(D:DTab)(N:Nat){β:Type}(xn:AV→AV→Kb β)(a:Kb β)(b c d:AV)(h:Hp):Option β:=
Z69 P T D N xn a b c d h
noncomputable def Z90(P:Program)(T:Tab)(D:DTab)(N:Nat){β:Type}(xn:AV→AV→AV→Kb β)(x4:AV→AV→Kb β)(e a f b:AV)(h:Hp):Option β:=
arithK .gtr b (I 0) λg=>
grpK true g h (λi=>
iaK 7 a b λj=>
ldK 7 true j h λk=>
arithK .sub b (I 1) λl=>
iaK 7 a l λm=>
ldK 7 true m h λn=>
callK (T 87) [k,n] h λo p=>
i o p) λq c=>
condK q (
arithK .sub b (I 1) λr=>
iaK 7 a b λs=>
ldK 7 true s c λt=>
arithK .sub b (I 1) λu=>
iaK 7 a u λv=>
ldK 7 true v c λw=>
iaK 7 a r λx=>
effK (stE 7 x t c) c λa2 d=>
iaK 7 a b λy=>
effK (stE 7 y w d) d λa3 z=>
arithK .sub b (I 1) λa0=>
xn e a f a0 z) (
x4 e a f c)
noncomputable def Z54(P:Program)(T:Tab)(D:DTab)(N:Nat){β:Type}(a:AV→AV→Kb β):Nat→AV→AV→AV→Kb β
 | 0=>λ_ _ _ _ _=>none
 | n+1=>λb c d e h=>Z90 P T D N (Z54 P T D N a n) a b c d e h
noncomputable def Z55(P:Program)(T:Tab)(D:DTab)(N:Nat){β:Type}(xn:AV→AV→Kb β)(i:Kb β)(e f g l:AV)(h:Hp):Option β:=
condK l (
Z69 P T D N xn i e f g h) (
lenK f λm=>
iaK 7 e g λn=>
ldK 7 true n h λo=>
effK (bsE 7 zz7 1 [(0,o)] (List.length h)) h λp a=>
effK (appE 7 56 f p a (List.length a)) a λj k=>
Z54 P T D N (λb c d h=>Z8Z P T D N xn i b c d h) N e j g m k)
noncomputable def Z91(P:Program)(T:Tab)(D:DTab)(N:Nat){β:Type}(xn:AV→AV→AV→AV→Kb β)(r:AV→AV→AV→Kb β)(b a c e d:AV)(h:Hp):Option β:=
lenK a λf=>
arithK .lss d f λg=>
condK g (
grpK false e h (λi=>
iaK 7 a d λj=>
ldK 7 true j h λk=>
iaK 7 b c λl=>
ldK 7 true l h λm=>
eqK P false 50 k m h λn=>
i n h) λo p=>
arithK .add d (I 1) λq=>
xn b a c o q p) (
r b a c e h)
noncomputable def Z56(P:Program)(T:Tab)(D:DTab)(N:Nat){β:Type}(a:AV→AV→AV→Kb β):Nat→AV→AV→AV→AV→Kb β
 | 0=>λ_ _ _ _ _ _=>none
 | n+1=>λb c d e f h=>Z91 P T D N (Z56 P T D N a n) a b c d e f h
noncomputable def Z92(P:Program)(T:Tab)(D:DTab)(N:Nat){β:Type}(xn:AV→AV→Kb β)(e:Kb β)(f g i:AV)(h:Hp):Option β:=
lenK f λj=>
arithK .lss i j λk=>
condK k (
Z56 P T D N (λa b c d h=>Z55 P T D N xn e a b c d h) N f g i (.s (.bool false)) (I 0) h) (
e g h)
noncomputable def Z3v(P:Program)(T:Tab)(D:DTab)(N:Nat){β:Type}(a:Kb β):Nat→AV→AV→Kb β
 | 0=>λ_ _ _ _=>none
 | n+1=>λb c d h=>Z92 P T D N (Z3v P T D N a n) a b c d h
noncomputable def Z57(P:Program)(T:Tab)(D:DTab)(N:Nat){β:Type}(K:Kb β)(a0:AV)(h:Hp):Option β:=
effK (bsE 7 zz7 0 [] (List.length h)) h λb c=>
Z3v P T D N (λa h=>Z8Y P T D N K a h) N a0 b (I 0) c
theorem Zsl(xn:AV→AV→Kb β)(x0:Kb β)(xd:Nat→St→Option β)(xq:St→Option β)(t:Tm)(h:Hp):Z53 P T D N (λ(e:Ex)(s:St)=>e.on (xn (s.1 0) (s.1 3) (s.1 4) s.2) (λi=>(bif i==0 then x0 (s.1 3) s.2 else (xd i s))) (xq s)) t h=Z69 P T D N xn x0 (t 0) (t 3) (t 4) h:=by kernel_rfl
theorem Zsm(xn:AV→AV→AV→Kb β)(x4:AV→AV→Kb β)(xd:Nat→St→Option β)(xq:St→Option β)(t:Tm)(h:Hp):Z8V P T D N t h (λ(e:Ex)(s:St)=>e.on (xn (s.1 0) (s.1 3) (s.1 4) (s.1 7) s.2) (λi=>(bif i==4 then x4 (s.1 0) (s.1 3) (s.1 4) s.2 else (xd i s))) (xq s))=Z90 P T D N xn x4 (t 0) (t 3) (t 4) (t 7) h:=by kernel_rfl
theorem Zsn(A:Ex→St→Option β)(x4:AV→AV→Kb β)(q4:∀s,A (.exit 4) s=x4 (s.1 0) (s.1 3) (s.1 4) s.2):∀(n:Nat)(s:St),iterK (λs k=>Z8V P T D N s.1 s.2 k) n s A=Z54 P T D N x4 n (s.1 0) (s.1 3) (s.1 4) (s.1 7) s.2:=
 Z0O (exs1 q4 (λs=>rfl)) (λs=>rfl) λn s=>Zsm P T D N (Z54 P T D N x4 n) x4 (λi s=>A (.exit i) s) (λs=>A .ret s) s.1 s.2
theorem Zso(xn:AV→AV→Kb β)(x0:Kb β)(xd:Nat→St→Option β)(xq:St→Option β)(t:Tm)(h:Hp):ZfC P T D N (λ(e:Ex)(s:St)=>e.on (xn (s.1 0) (s.1 3) (s.1 4) s.2) (λi=>(bif i==0 then x0 (s.1 3) s.2 else (xd i s))) (xq s)) t h=Z55 P T D N xn x0 (t 0) (t 3) (t 4) (t 5) h:=by
 have eL7:(λs:St=>iterK (λs k=>Z8V P T D N s.1 s.2 k) N s (Zcd P T D N (λ(e:Ex)(s:St)=>e.on (xn (s.1 0) (s.1 3) (s.1 4) s.2) (λi=>(bif i==0 then x0 (s.1 3) s.2 else (xd i s))) (xq s))))=(λs:St=>Z54 P T D N (λw37_0 w37_3 w37_4 h=>Z8Z P T D N xn x0 w37_0 w37_3 w37_4 h) N (s.1 0) (s.1 3) (s.1 4) (s.1 7) s.2):=funext λs=>Zsn P T D N (Zcd P T D N (λ(e:Ex)(s:St)=>e.on (xn (s.1 0) (s.1 3) (s.1 4) s.2) (λi=>(bif i==0 then x0 (s.1 3) s.2 else (xd i s))) (xq s))) (λw37_0 w37_3 w37_4 h=>Z8Z P T D N xn x0 w37_0 w37_3 w37_4 h) (λs=>rfl) N s
 have ej4:(λs:St=>Z53 P T D N (λ(e:Ex)(s:St)=>e.on (xn (s.1 0) (s.1 3) (s.1 4) s.2) (λi=>(bif i==0 then x0 (s.1 3) s.2 else (xd i s))) (xq s)) s.1 s.2)=(λs:St=>Z69 P T D N xn x0 (s.1 0) (s.1 3) (s.1 4) s.2):=funext λs=>Zsl P T D N xn x0 xd xq s.1 s.2
 show Zkc P T D N (λs=>iterK (λs k=>Z8V P T D N s.1 s.2 k) N s (Zcd P T D N (λ(e:Ex)(s:St)=>e.on (xn (s.1 0) (s.1 3) (s.1 4) s.2) (λi=>(bif i==0 then x0 (s.1 3) s.2 else (xd i s))) (xq s)))) (λs=>Z53 P T D N (λ(e:Ex)(s:St)=>e.on (xn (s.1 0) (s.1 3) (s.1 4) s.2) (λi=>(bif i==0 then x0 (s.1 3) s.2 else (xd i s))) (xq s)) s.1 s.2) (λ(e:Ex)(s:St)=>e.on (xn (s.1 0) (s.1 3) (s.1 4) s.2) (λi=>(bif i==0 then x0 (s.1 3) s.2 else (xd i s))) (xq s)) t h=_
 rw[eL7,ej4]
 kernel_rfl
theorem Zsp(xn:AV→AV→AV→AV→Kb β)(x2:AV→AV→AV→Kb β)(xd:Nat→St→Option β)(xq:St→Option β)(t:Tm)(h:Hp):Z8W P T D N t h (λ(e:Ex)(s:St)=>e.on (xn (s.1 0) (s.1 3) (s.1 4) (s.1 5) (s.1 6) s.2) (λi=>(bif i==2 then x2 (s.1 0) (s.1 3) (s.1 4) (s.1 5) s.2 else (xd i s))) (xq s))=Z91 P T D N xn x2 (t 0) (t 3) (t 4) (t 5) (t 6) h:=by kernel_rfl
theorem Zsq(A:Ex→St→Option β)(x2:AV→AV→AV→Kb β)(q2:∀s,A (.exit 2) s=x2 (s.1 0) (s.1 3) (s.1 4) (s.1 5) s.2):∀(n:Nat)(s:St),iterK (λs k=>Z8W P T D N s.1 s.2 k) n s A=Z56 P T D N x2 n (s.1 0) (s.1 3) (s.1 4) (s.1 5) (s.1 6) s.2:=
 Z0O (exs1 q2 (λs=>rfl)) (λs=>rfl) λn s=>Zsp P T D N (Z56 P T D N x2 n) x2 (λi s=>A (.exit i) s) (λs=>A .ret s) s.1 s.2
theorem Zsr(xn:AV→AV→Kb β)(x0:Kb β)(xd:Nat→St→Option β)(xq:St→Option β)(t:Tm)(h:Hp):Z8X P T D N t h (λ(e:Ex)(s:St)=>e.on (xn (s.1 0) (s.1 3) (s.1 4) s.2) (λi=>(bif i==0 then x0 (s.1 3) s.2 else (xd i s))) (xq s))=Z92 P T D N xn x0 (t 0) (t 3) (t 4) h:=by
 have eL8:(λs:St=>iterK (λs k=>Z8W P T D N s.1 s.2 k) N s (Zce P T D N (λ(e:Ex)(s:St)=>e.on (xn (s.1 0) (s.1 3) (s.1 4) s.2) (λi=>(bif i==0 then x0 (s.1 3) s.2 else (xd i s))) (xq s))))=(λs:St=>Z56 P T D N (λw49_0 w49_3 w49_4 w49_5 h=>Z55 P T D N xn x0 w49_0 w49_3 w49_4 w49_5 h) N (s.1 0) (s.1 3) (s.1 4) (s.1 5) (s.1 6) s.2):=funext λs=>Zsq P T D N (Zce P T D N (λ(e:Ex)(s:St)=>e.on (xn (s.1 0) (s.1 3) (s.1 4) s.2) (λi=>(bif i==0 then x0 (s.1 3) s.2 else (xd i s))) (xq s))) (λw49_0 w49_3 w49_4 w49_5 h=>Z55 P T D N xn x0 w49_0 w49_3 w49_4 w49_5 h) (λs=>Zso P T D N xn x0 xd xq s.1 s.2) N s
 show Zkd P T D N (λs=>iterK (λs k=>Z8W P T D N s.1 s.2 k) N s (Zce P T D N (λ(e:Ex)(s:St)=>e.on (xn (s.1 0) (s.1 3) (s.1 4) s.2) (λi=>(bif i==0 then x0 (s.1 3) s.2 else (xd i s))) (xq s)))) t h (λ(e:Ex)(s:St)=>e.on (xn (s.1 0) (s.1 3) (s.1 4) s.2) (λi=>(bif i==0 then x0 (s.1 3) s.2 else (xd i s))) (xq s))=_
 rw[eL8]
 kernel_rfl
theorem Zss(A:Ex→St→Option β)(x0:Kb β)(q0:∀s,A (.exit 0) s=x0 (s.1 3) s.2):∀(n:Nat)(s:St),iterK (λs k=>Z8X P T D N s.1 s.2 k) n s A=Z3v P T D N x0 n (s.1 0) (s.1 3) (s.1 4) s.2:=
 Z0O (exs1 q0 (λs=>rfl)) (λs=>rfl) λn s=>Zsr P T D N (Z3v P T D N x0 n) x0 (λi s=>A (.exit i) s) (λs=>A .ret s) s.1 s.2
theorem Zst(K:Kb β)(a0:AV)(h:Hp):Zkf P T D N K a0 h=Z57 P T D N K a0 h:=by
 have eL2:(λs:St=>iterK (λs k=>Z8X P T D N s.1 s.2 k) N s (Zcf P T D N K))=(λs:St=>Z3v P T D N (λw50_3 h=>Z8Y P T D N K w50_3 h) N (s.1 0) (s.1 3) (s.1 4) s.2):=funext λs=>Zss P T D N (Zcf P T D N K) (λw50_3 h=>Z8Y P T D N K w50_3 h) (λs=>rfl) N s
 show Zke P T D N (λs=>iterK (λs k=>Z8X P T D N s.1 s.2 k) N s (Zcf P T D N K)) K a0 h=_
 rw[eL2]
 kernel_rfl
theorem Zsu(K:Kb β)(a0:AV)(h:Hp):runK Tryz.prog T D N [0,2,3,4,5,6,7,12,18,33,56] Tryz.f78 K [a0] h=Z57 Tryz.prog T D N K a0 h:=Eq.trans (b:=Zkf Tryz.prog T D N K a0 h) (by kernel_rfl) (Zst Tryz.prog T D N K a0 h)
noncomputable def Z93(P:Program)(T:Tab)(D:DTab)(N:Nat){β:Type}(K:Kb β)(a0:AV)(h:Hp):Option β:=
buildK zz7 [] λb=>
effK (bsE 7 zz7 1 [(0,b)] (List.length h)) h λc a=>
effK (appE 7 56 c a0 a (List.length a)) a λd e=>
K d e
theorem Zsv(K:Kb β)(a0:AV)(h:Hp):runK Tryz.prog T D N [0,2] Tryz.f79 K [a0] h=Z93 Tryz.prog T D N K a0 h:=by kernel_rfl
noncomputable def ZfE(P:Program)(T:Tab)(D:DTab)(N:Nat){β:Type}(K:Kb β)(t:Tm)(h:Hp):Option β:=
ldK 7 true (t 5) h λb=>
effK (stE 7 (t 4) b h) h λd a=>
ldK 7 true (t 4) a λc=>
K c a
noncomputable def Zkg(P:Program)(T:Tab)(D:DTab)(N:Nat){β:Type}(K:Kb β)(t:Tm)(h:Hp):Option β:=
arithK .gtr (t 8) (I 0) λa=>
condK a (
faK 1 (t 5) λb=>
effK (stE 1 b (I 4) h) h λd c=>
(ZfE P T D N K (upd t 121 a) c)) (
(ZfE P T D N K (upd t 121 a) h))
noncomputable def Zkh(P:Program)(T:Tab)(D:DTab)(N:Nat){β:Type}(K:Kb β)(t:Tm)(h:Hp):Option β:=
eqK P false 3 (t 6) (I 0) h λf=>
condK f (
buildK zz7 [(some (0,1),(t 1))] λx=>
effK (stE 7 (t 4) x h) h λy g=>
ldK 7 true (t 4) g λk=>
K k g) (
grpK false (t 9) h (λl=>
arithK .gtr (t 6) (I 1) λm=>
l m h) λn i=>
grpK false n i (λo=>
arithK .gtr (t 7) (I 1) λp=>
o p i) λa b=>
condK a (
buildK zz7 [(some (0,1),(t 1)),(some (1,1),(I 5))] λq=>
effK (stE 7 (t 4) q b) b λz j=>
ldK 7 true (t 4) j λr=>
K r j) (
faK 1 (t 5) λs=>
effK (stE 1 s (I 1) b) b λa0 c=>
eqK P false 3 (t 7) (I 1) c λd=>
condK d (
faK 1 (t 5) λu=>
effK (stE 1 u (I 2) c) c λa1 e=>
condK (t 10) (
faK 1 (t 5) λv=>
effK (stE 1 v (I 3) e) e λa2 w=>
(Zkg P T D N K (upd (upd (upd (upd t 100 f) 111 a) 116 d) 118 (t 10)) w)) (
(Zkg P T D N K (upd (upd (upd (upd t 100 f) 111 a) 116 d) 118 (t 10)) e))) (
(ZfE P T D N K (upd (upd (upd t 100 f) 111 a) 116 d) c))))
noncomputable def Zsw(P:Program)(T:Tab)(D:DTab)(N:Nat){β:Type}(k:Ex→St→Option β)(t:Tm)(h:Hp):Option β:=
arithK .add (t 11) (I 1) λa=>
k .normal ((upd t 11 a),h)
noncomputable def Zki(P:Program)(T:Tab)(D:DTab)(N:Nat){β:Type}(k:Ex→St→Option β)(t:Tm)(h:Hp):Option β:=
(Zsw P T D N k t h)
noncomputable def Z94(P:Program)(T:Tab)(D:DTab)(N:Nat){β:Type}(k:Ex→St→Option β)(t:Tm)(h:Hp):Option β:=
(Zki P T D N k t h)
noncomputable def Z95(P:Program)(T:Tab)(D:DTab)(N:Nat){β:Type}(t:Tm)(h:Hp)(k:Ex→St→Option β):Option β:=
lenK (t 0) λc3=>
arithK .lss (t 11) c3 λd=>
condK d (
iaK 7 (t 0) (t 11) λc4=>
ldK 7 true c4 h λc5=>
effK (boxE 7 (.agg zz7) (List.length h)) h λb n=>
effK (stE 7 b c5 n) n λf7 a=>
faK 0 b λc6=>
ldK 1 false c6 a λc7=>
eqK P true 3 c7 (t 1) a λf=>
condK f (
(Zki P T D N k (upd (upd (upd t 18 d) 12 b) 28 f) a)) (
faK 1 b λc8=>
ldK 1 false c8 a λc=>
eqK P false 3 c (I 1) a λi=>
condK i (
arithK .add (t 6) (I 1) λc9=>
faK 4 b λo=>
ldK 1 false o a λd0=>
faK 5 b λp=>
ldK 1 false p a λd1=>
faK 6 b λq=>
ldK 1 false q a λd2=>
faK 2 (t 5) λd3=>
effD (stE 1 d3 d0 a) a λf8 r d4=>
faK 3 (t 5) λd5=>
effD (stE 1 d5 d1 r) r λf9 u d6=>
faK 4 (t 5) λd7=>
effD (stE 1 d7 d2 u) u λg0 d8 d9=>
bif disjAll [(3,7),(5,7),(5,9)] [([],[]),((idsOf o),[]),([],[]),((idsOf p),[]),([],[]),((idsOf q),[]),([],[]),d4,([],[]),d6,([],[]),d9] then (
(Z94 P T D N k (upd (upd (upd (upd (upd (upd t 18 d) 12 b) 28 f) 30 c) 33 i) 6 c9) d8)) else none) (
eqK P false 3 c (I 2) a λl=>
condK l (
faK 6 (t 5) λv=>
ldK 1 false v a λe0=>
arithK .add e0 (I 1) λe1=>
faK 5 b λw=>
ldK 1 false w a λe2=>
faK 6 (t 5) λe3=>
effD (stE 1 e3 e1 a) a λg1 x e4=>
faK 3 (t 5) λe5=>
effD (stE 1 e5 e2 x) x λg2 e e6=>
bif disjAll [(4,6)] [([],[]),((idsOf v),[]),([],[]),([],[]),((idsOf w),[]),([],[]),e4,([],[]),e6] then (
grpK false (t 9) e (λe7=>
arithK .sub (t 11) (I 1) λe8=>
iaK 7 (t 0) e8 λe9=>
faK 0 e9 λf0=>
ldK 1 false f0 e λf1=>
eqK P false 3 f1 (t 1) e λf2=>
grpK true f2 e (λf3=>
arithK .sub (t 11) (I 1) λf4=>
iaK 7 (t 0) f4 λf5=>
faK 1 f5 λy=>
ldK 1 false y e λz=>
faK 1 b λa0=>
ldK 1 false a0 e λa1=>
eqK P false 3 z a1 e λa2=>
f3 a2 e) λa3 g=>
grpK true a3 g (λa4=>
arithK .sub (t 11) (I 1) λa5=>
iaK 7 (t 0) a5 λa6=>
faK 2 a6 λa7=>
ldK 1 false a7 g λa8=>
faK 2 b λa9=>
ldK 1 false a9 g λb0=>
eqK P false 3 a8 b0 g λb1=>
a4 b1 g) λb2 b3=>
e7 b2 b3) λb4 b5=>
(Z94 P T D N k (upd (upd (upd (upd (upd (upd (upd t 18 d) 12 b) 28 f) 30 c) 33 i) 46 l) 9 b4) b5)) else none) (
eqK P false 3 c (I 3) a λj=>
condK j (
arithK .add (t 7) (I 1) λb6=>
faK 6 b λb7=>
ldK 1 false b7 a λb8=>
faK 5 (t 5) λb9=>
effK (stE 1 b9 b8 a) a λf6 c0=>
(Z94 P T D N k (upd (upd (upd (upd (upd (upd (upd (upd t 18 d) 12 b) 28 f) 30 c) 33 i) 46 l) 88 j) 7 b6) c0)) (
eqK P false 3 c (I 4) a λm=>
condK m (
arithK .add (t 7) (I 1) λc1=>
(Z94 P T D N k (upd (upd (upd (upd (upd (upd (upd (upd (upd (upd t 18 d) 12 b) 28 f) 30 c) 33 i) 46 l) 88 j) 95 m) 7 c1) 10 (.s (.bool true))) a)) (
arithK .add (t 8) (I 1) λc2=>
(Z94 P T D N k (upd (upd (upd (upd (upd (upd (upd (upd (upd t 18 d) 12 b) 28 f) 30 c) 33 i) 46 l) 88 j) 95 m) 8 c2) a))))))) (
k (.exit 0) ((upd t 18 d),h))
noncomputable def Zcg(P:Program)(T:Tab)(D:DTab)(N:Nat){β:Type}(K:Kb β)(e:Ex)(s:St):Option β:=
 e.on ((Zkh P T D N K s.1 s.2))
 (λi=>bif i==0 then ((Zkh P T D N K s.1 s.2)) else (none))
 (ldK 7 true (s.1 4) s.2 λa=>
K a s.2)
noncomputable def Zkj(P:Program)(T:Tab)(D:DTab)(N:Nat){β:Type}(cL4:St→Option β)(K:Kb β)(a0 a1:AV)(h:Hp) :  Option β:=
effK (boxE 7 (.agg zz7) (List.length h)) h λd a=>
buildK zz7 [(some (0,1),a1)] λe=>
effK (boxE 7 (.agg zz7) (List.length a)) a λb c=>
effK (stE 7 b e c) c λg f=>
cL4 ((upd (upd (upd (upd (upd (upd (upd (upd (tm0 [a0,a1]) 4 d) 5 b) 6 (I 0)) 7 (I 0)) 8 (I 0)) 9 (.s (.bool false))) 10 (.s (.bool false))) 11 (I 0)),f)
noncomputable def Zkk(P:Program)(T:Tab)(D:DTab)(N:Nat){β:Type}(K:Kb β)(a0 a1:AV)(h:Hp):Option β:=Zkj P T D N (λs=>iterK (λs k=>Z95 P T D N s.1 s.2 k) N s (Zcg P T D N K)) K a0 a1 h
noncomputable def Z96(P:Program)(T:Tab)(D:DTab)(N:Nat){β:Type}(K:Kb β)(b e:AV)(h:Hp):Option β:=
ldK 7 true e h λc=>
effK (stE 7 b c h) h λf a=>
ldK 7 true b a λd=>
K d a
noncomputable def ZfF(P:Program)(T:Tab)(D:DTab)(N:Nat){β:Type}(K:Kb β)(b a f:AV)(h:Hp):Option β:=
arithK .gtr f (I 0) λc=>
condK c (
faK 1 a λd=>
effK (stE 1 d (I 4) h) h λg e=>
Z96 P T D N K b a e) (
Z96 P T D N K b a h)
noncomputable def Z97(P:Program)(T:Tab)(D:DTab)(N:Nat){β:Type}(K:Kb β)(j a d k l m v9 n:AV)(h:Hp):Option β:=
eqK P false 3 k (I 0) h λx8=>
condK x8 (
buildK zz7 [(some (0,1),j)] λx9=>
effK (stE 7 a x9 h) h λa5 f=>
ldK 7 true a f λo=>
K o f) (
grpK false v9 h (λp=>
arithK .gtr k (I 1) λq=>
p q h) λr g=>
grpK false r g (λs=>
arithK .gtr l (I 1) λt=>
s t g) λu b=>
condK u (
buildK zz7 [(some (0,1),j),(some (1,1),(I 5))] λv=>
effK (stE 7 a v b) b λa6 i=>
ldK 7 true a i λw=>
K w i) (
faK 1 d λx=>
effK (stE 1 x (I 1) b) b λa7 c=>
eqK P false 3 l (I 1) c λy=>
condK y (
faK 1 d λz=>
effK (stE 1 z (I 2) c) c λa8 e=>
condK n (
faK 1 d λa0=>
effK (stE 1 a0 (I 3) e) e λa9 a1=>
ZfF P T D N K a d m a1) (
ZfF P T D N K a d m e)) (
Z96 P T D N K a d c)))
noncomputable def Z49(P:Program)(T:Tab)(D:DTab)(N:Nat){β:Type}(xn:AV→AV→AV→AV→AV→AV→AV→AV→AV→Kb β)(m:AV→AV→AV→AV→AV→AV→AV→Kb β)(d e f g i j k l a b:AV)(h:Hp):Option β:=
arithK .add b (I 1) λc=>
xn d e f g i j k l a c h
noncomputable def Z3w(P:Program)(T:Tab)(D:DTab)(N:Nat){β:Type}(xn:AV→AV→AV→AV→AV→AV→AV→AV→AV→Kb β)(c:AV→AV→AV→AV→AV→AV→AV→Kb β)(d e f g i j k l a b:AV)(h:Hp):Option β:=
Z49 P T D N xn c d e f g i j k l a b h
noncomputable def Z3g(P:Program)(T:Tab)(D:DTab)(N:Nat){β:Type}(xn:AV→AV→AV→AV→AV→AV→AV→AV→AV→Kb β)(c:AV→AV→AV→AV→AV→AV→AV→Kb β)(d e f g i j k l a b:AV)(h:Hp):Option β:=
Z3w P T D N xn c d e f g i j k l a b h
noncomputable def Z3x(P:Program)(T:Tab)(D:DTab)(N:Nat){β:Type}(xn:AV→AV→AV→AV→AV→AV→AV→AV→AV→Kb β)(k:AV→AV→AV→AV→AV→AV→AV→Kb β)(f j l d m n o p i b:AV)(h:Hp):Option β:=
lenK f λc8=>
arithK .lss b c8 λc9=>
condK c9 (
iaK 7 f b λd0=>
ldK 7 true d0 h λd1=>
effK (boxE 7 (.agg zz7) (List.length h)) h λc r=>
effK (stE 7 c d1 r) r λg6 a=>
faK 0 c λd2=>
ldK 1 false d2 a λd3=>
eqK P true 3 d3 j a λd4=>
condK d4 (
Z3w P T D N xn k f j l d m n o p i b a) (
faK 1 c λd5=>
ldK 1 false d5 a λq=>
eqK P false 3 q (I 1) a λd6=>
condK d6 (
arithK .add m (I 1) λd7=>
faK 4 c λt=>
ldK 1 false t a λd8=>
faK 5 c λu=>
ldK 1 false u a λd9=>
faK 6 c λv=>
ldK 1 false v a λe0=>
faK 2 d λe1=>
effD (stE 1 e1 d8 a) a λg7 w e2=>
faK 3 d λe3=>
effD (stE 1 e3 d9 w) w λg8 x e4=>
faK 4 d λe5=>
effD (stE 1 e5 e0 x) x λg9 e6 e7=>
bif disjAll [(3,7),(5,7),(5,9)] [([],[]),((idsOf t),[]),([],[]),((idsOf u),[]),([],[]),((idsOf v),[]),([],[]),e2,([],[]),e4,([],[]),e7] then (
Z3g P T D N xn k f j l d d7 n o p i b e6) else none) (
eqK P false 3 q (I 2) a λe8=>
condK e8 (
faK 6 d λy=>
ldK 1 false y a λe9=>
arithK .add e9 (I 1) λf0=>
faK 5 c λz=>
ldK 1 false z a λf1=>
faK 6 d λf2=>
effD (stE 1 f2 f0 a) a λh0 a0 f3=>
faK 3 d λf4=>
effD (stE 1 f4 f1 a0) a0 λh1 e f5=>
bif disjAll [(4,6)] [([],[]),((idsOf y),[]),([],[]),([],[]),((idsOf z),[]),([],[]),f3,([],[]),f5] then (
grpK false p e (λf6=>
arithK .sub b (I 1) λf7=>
iaK 7 f f7 λf8=>
faK 0 f8 λf9=>
ldK 1 false f9 e λg0=>
eqK P false 3 g0 j e λg1=>
grpK true g1 e (λg2=>
arithK .sub b (I 1) λg3=>
iaK 7 f g3 λg4=>
faK 1 g4 λa1=>
ldK 1 false a1 e λa2=>
faK 1 c λa3=>
ldK 1 false a3 e λa4=>
eqK P false 3 a2 a4 e λa5=>
g2 a5 e) λa6 g=>
grpK true a6 g (λa7=>
arithK .sub b (I 1) λa8=>
iaK 7 f a8 λa9=>
faK 2 a9 λb0=>
ldK 1 false b0 g λb1=>
faK 2 c λb2=>
ldK 1 false b2 g λb3=>
eqK P false 3 b1 b3 g λb4=>
a7 b4 g) λb5 b6=>
f6 b5 b6) λb7 b8=>
Z3g P T D N xn k f j l d m n o b7 i b b8) else none) (
eqK P false 3 q (I 3) a λb9=>
condK b9 (
arithK .add n (I 1) λc0=>
faK 6 c λc1=>
ldK 1 false c1 a λc2=>
faK 5 d λc3=>
effK (stE 1 c3 c2 a) a λg5 c4=>
Z3g P T D N xn k f j l d m c0 o p i b c4) (
eqK P false 3 q (I 4) a λc5=>
condK c5 (
arithK .add n (I 1) λc6=>
Z3g P T D N xn k f j l d m c6 o p (.s (.bool true)) b a) (
arithK .add o (I 1) λc7=>
Z3g P T D N xn k f j l d m n c7 p i b a)))))) (
k j l d m n o p i h)
noncomputable def Z4a(P:Program)(T:Tab)(D:DTab)(N:Nat){β:Type}(a:AV→AV→AV→AV→AV→AV→AV→Kb β):Nat→AV→AV→AV→AV→AV→AV→AV→AV→AV→Kb β
 | 0=>λ_ _ _ _ _ _ _ _ _ _ _=>none
 | n+1=>λd e f g i j k l b c h=>Z3x P T D N (Z4a P T D N a n) a d e f g i j k l b c h
noncomputable def Z98(P:Program)(T:Tab)(D:DTab)(N:Nat){β:Type}(K:Kb β)(a0 a1:AV)(h:Hp):Option β:=
effK (boxE 7 (.agg zz7) (List.length h)) h λm j=>
buildK zz7 [(some (0,1),a1)] λn=>
effK (boxE 7 (.agg zz7) (List.length j)) j λk l=>
effK (stE 7 k n l) l λp o=>
Z4a P T D N (λb c d e f g i a h=>Z97 P T D N K b c d e f g i a h) N a0 a1 m k (I 0) (I 0) (I 0) (.s (.bool false)) (.s (.bool false)) (I 0) o
theorem Zsx(xn:AV→AV→AV→AV→AV→AV→AV→AV→AV→Kb β)(x0:AV→AV→AV→AV→AV→AV→AV→Kb β)(xd:Nat→St→Option β)(xq:St→Option β)(t:Tm)(h:Hp):Z95 P T D N t h (λ(e:Ex)(s:St)=>e.on (xn (s.1 0) (s.1 1) (s.1 4) (s.1 5) (s.1 6) (s.1 7) (s.1 8) (s.1 9) (s.1 10) (s.1 11) s.2) (λi=>(bif i==0 then x0 (s.1 1) (s.1 4) (s.1 5) (s.1 6) (s.1 7) (s.1 8) (s.1 9) (s.1 10) s.2 else (xd i s))) (xq s))=Z3x P T D N xn x0 (t 0) (t 1) (t 4) (t 5) (t 6) (t 7) (t 8) (t 9) (t 10) (t 11) h:=by kernel_rfl
theorem Zsy(A:Ex→St→Option β)(x0:AV→AV→AV→AV→AV→AV→AV→Kb β)(q0:∀s,A (.exit 0) s=x0 (s.1 1) (s.1 4) (s.1 5) (s.1 6) (s.1 7) (s.1 8) (s.1 9) (s.1 10) s.2):∀(n:Nat)(s:St),iterK (λs k=>Z95 P T D N s.1 s.2 k) n s A=Z4a P T D N x0 n (s.1 0) (s.1 1) (s.1 4) (s.1 5) (s.1 6) (s.1 7) (s.1 8) (s.1 9) (s.1 10) (s.1 11) s.2:=
 Z0O (exs1 q0 (λs=>rfl)) (λs=>rfl) λn s=>Zsx P T D N (Z4a P T D N x0 n) x0 (λi s=>A (.exit i) s) (λs=>A .ret s) s.1 s.2
theorem Zsz(K:Kb β)(a0 a1:AV)(h:Hp):Zkk P T D N K a0 a1 h=Z98 P T D N K a0 a1 h:=by
 have eL4:(λs:St=>iterK (λs k=>Z95 P T D N s.1 s.2 k) N s (Zcg P T D N K))=(λs:St=>Z4a P T D N (λw129_1 w129_4 w129_5 w129_6 w129_7 w129_8 w129_9 w129_10 h=>Z97 P T D N K w129_1 w129_4 w129_5 w129_6 w129_7 w129_8 w129_9 w129_10 h) N (s.1 0) (s.1 1) (s.1 4) (s.1 5) (s.1 6) (s.1 7) (s.1 8) (s.1 9) (s.1 10) (s.1 11) s.2):=funext λs=>Zsy P T D N (Zcg P T D N K) (λw129_1 w129_4 w129_5 w129_6 w129_7 w129_8 w129_9 w129_10 h=>Z97 P T D N K w129_1 w129_4 w129_5 w129_6 w129_7 w129_8 w129_9 w129_10 h) (λs=>rfl) N s
 show Zkj P T D N (λs=>iterK (λs k=>Z95 P T D N s.1 s.2 k) N s (Zcg P T D N K)) K a0 a1 h=_
 rw[eL4]
 kernel_rfl
theorem ZsA(K:Kb β)(a0 a1:AV)(h:Hp):runK Tryz.prog T D N [0,1,4,5,6,7,8,9,10,11,12,18,28,30,33,46,88,95,100,111,116,118,121] Tryz.f80 K [a0,a1] h=Z98 Tryz.prog T D N K a0 a1 h:=Eq.trans (b:=Zkk Tryz.prog T D N K a0 a1 h) (by kernel_rfl) (Zsz Tryz.prog T D N K a0 a1 h)
noncomputable def Zch(P:Program)(T:Tab)(D:DTab)(N:Nat){β:Type}(K:Kb β)(a0:AV)(h:Hp):Option β:=
eqK P true 3 a0 a0 h λa=>
K a h
theorem ZsB(K:Kb β)(a0:AV)(h:Hp):runK Tryz.prog T D N [0,2] Tryz.f81 K [a0] h=Zch Tryz.prog T D N K a0 h:=by kernel_rfl
noncomputable def Zkl(P:Program)(T:Tab)(D:DTab)(N:Nat){β:Type}(K:Kb β)(t:Tm)(h:Hp):Option β:=
K (.s (.int .i64 (-1))) h
noncomputable def Z99(P:Program)(T:Tab)(D:DTab)(N:Nat){β:Type}(t:Tm)(h:Hp)(k:Ex→St→Option β):Option β:=
arithK .lss (t 8) (t 7) λa=>
condK a (
iaK 7 (t 0) (t 8) λd=>
ldK 7 true d h λe=>
callVK T (t 1) [e] h λb c=>
condK b (
k .ret ((upd (upd (upd (upd t 9 a) 5 (t 8)) 16 b) 4 (t 8)),c)) (
arithK .add (t 8) (I 1) λf=>
k .normal ((upd (upd (upd (upd t 9 a) 5 (t 8)) 16 b) 8 f),c))) (
k (.exit 0) ((upd t 9 a),h))
noncomputable def Zci(P:Program)(T:Tab)(D:DTab)(N:Nat){β:Type}(K:Kb β)(e:Ex)(s:St):Option β:=
 e.on ((Zkl P T D N K s.1 s.2))
 (λi=>bif i==0 then ((Zkl P T D N K s.1 s.2)) else (none))
 (K (s.1 4) s.2)
noncomputable def Zkm(P:Program)(T:Tab)(D:DTab)(N:Nat){β:Type}(cL2:St→Option β)(K:Kb β)(a0 a1:AV)(h:Hp) :  Option β:=
lenK a0 λa=>
cL2 ((upd (upd (upd (tm0 [a0,a1]) 4 (I 0)) 7 a) 8 (I 0)),h)
noncomputable def Zkn(P:Program)(T:Tab)(D:DTab)(N:Nat){β:Type}(K:Kb β)(a0 a1:AV)(h:Hp):Option β:=Zkm P T D N (λs=>iterK (λs k=>Z99 P T D N s.1 s.2 k) N s (Zci P T D N K)) K a0 a1 h
noncomputable def Zcj(P:Program)(T:Tab)(D:DTab)(N:Nat){β:Type}(K:Kb β)(h:Hp):Option β:=
K (.s (.int .i64 (-1))) h
noncomputable def Zck(P:Program)(T:Tab)(D:DTab)(N:Nat){β:Type}(xn:AV→AV→AV→Kb β)(f:Qb β)(xr:Kb β)(b c d a:AV)(h:Hp):Option β:=
arithK .lss a d λg=>
condK g (
iaK 7 b a λi=>
ldK 7 true i h λj=>
callVK T c [j] h λk e=>
condK k (
xr a e) (
arithK .add a (I 1) λl=>
xn b c d l e)) (
f h)
noncomputable def Z58(P:Program)(T:Tab)(D:DTab)(N:Nat){β:Type}(a:Qb β)(xr:Kb β):Nat→AV→AV→AV→Kb β
 | 0=>λ_ _ _ _ _=>none
 | n+1=>λb c d e h=>Zck P T D N (Z58 P T D N a xr n) a xr b c d e h
noncomputable def Z6a(P:Program)(T:Tab)(D:DTab)(N:Nat){β:Type}(K:Kb β)(a0 a1:AV)(h:Hp):Option β:=
lenK a0 λb=>
Z58 P T D N (λh=>Zcj P T D N K h) (λa h=>K a h) N a0 a1 b (I 0) h
theorem ZsC(xn:AV→AV→AV→Kb β)(x0:Qb β)(xr:Kb β)(xd:Nat→St→Option β)(xq:St→Option β)(t:Tm)(h:Hp):Z99 P T D N t h (λ(e:Ex)(s:St)=>e.on (xn (s.1 0) (s.1 1) (s.1 7) (s.1 8) s.2) (λi=>(bif i==0 then x0 s.2 else (xd i s))) (xr (s.1 4) s.2))=Zck P T D N xn x0 xr (t 0) (t 1) (t 7) (t 8) h:=by kernel_rfl
theorem ZsD(A:Ex→St→Option β)(x0:Qb β)(xr:Kb β)(q0:∀s,A (.exit 0) s=x0 s.2)(qr:∀s,A .ret s=xr (s.1 4) s.2):∀(n:Nat)(s:St),iterK (λs k=>Z99 P T D N s.1 s.2 k) n s A=Z58 P T D N x0 xr n (s.1 0) (s.1 1) (s.1 7) (s.1 8) s.2:=
 Z0O (exs1 q0 qr) (λs=>rfl) λn s=>ZsC P T D N (Z58 P T D N x0 xr n) x0 xr (λi s=>A (.exit i) s) (λs=>A .ret s) s.1 s.2
theorem ZsE(K:Kb β)(a0 a1:AV)(h:Hp):Zkn P T D N K a0 a1 h=Z6a P T D N K a0 a1 h:=by
 have eL2:(λs:St=>iterK (λs k=>Z99 P T D N s.1 s.2 k) N s (Zci P T D N K))=(λs:St=>Z58 P T D N (λh=>Zcj P T D N K h) (λw9_4 h=>K w9_4 h) N (s.1 0) (s.1 1) (s.1 7) (s.1 8) s.2):=funext λs=>ZsD P T D N (Zci P T D N K) (λh=>Zcj P T D N K h) (λw9_4 h=>K w9_4 h) (λs=>rfl) (λs=>rfl) N s
 show Zkm P T D N (λs=>iterK (λs k=>Z99 P T D N s.1 s.2 k) N s (Zci P T D N K)) K a0 a1 h=_
 rw[eL2]
 kernel_rfl
theorem ZsF(K:Kb β)(a0 a1:AV)(h:Hp):runK Tryz.prog T D N [0,1,4,5,7,8,9,16] Tryz.f82 K [a0,a1] h=Z6a Tryz.prog T D N K a0 a1 h:=Eq.trans (b:=Zkn Tryz.prog T D N K a0 a1 h) (by kernel_rfl) (ZsE Tryz.prog T D N K a0 a1 h)
noncomputable def Zko(P:Program)(T:Tab)(D:DTab)(N:Nat){β:Type}(K:Kb β)(t:Tm)(h:Hp):Option β:=
K (.s (.bool false)) h
noncomputable def Z9a(P:Program)(T:Tab)(D:DTab)(N:Nat){β:Type}(t:Tm)(h:Hp)(k:Ex→St→Option β):Option β:=
lenK (t 5) λc=>
arithK .lss (t 7) c λa=>
condK a (
iaK 1 (t 5) (t 7) λd=>
ldK 1 false d h λe=>
iaK 1 (t 6) (t 7) λf=>
ldK 1 false f h λg=>
eqK P true 3 e g h λb=>
condK b (
iaK 1 (t 5) (t 7) λi=>
ldK 1 false i h λj=>
iaK 1 (t 6) (t 7) λl=>
ldK 1 false l h λm=>
arithK .lss j m λn=>
k .ret ((upd (upd (upd t 41 a) 52 b) 4 n),h)) (
arithK .add (t 7) (I 1) λo=>
k .normal ((upd (upd (upd t 41 a) 52 b) 7 o),h))) (
k (.exit 0) ((upd t 41 a),h))
noncomputable def Zcl(P:Program)(T:Tab)(D:DTab)(N:Nat){β:Type}(K:Kb β)(e:Ex)(s:St):Option β:=
 e.on ((Zko P T D N K s.1 s.2))
 (λi=>bif i==0 then ((Zko P T D N K s.1 s.2)) else (none))
 (K (s.1 4) s.2)
noncomputable def Zkp(P:Program)(T:Tab)(D:DTab)(N:Nat){β:Type}(cL2:St→Option β)(K:Kb β)(a0 a1:AV)(h:Hp) :  Option β:=
effK (boxE 7 a0 (List.length h)) h λc e=>
effK (boxE 7 a1 (List.length e)) e λd b=>
faK 0 c λx5=>
ldK 1 false x5 b λx6=>
faK 1 c λx7=>
ldK 1 false x7 b λx8=>
faK 2 c λx9=>
ldK 1 false x9 b λf=>
faK 3 c λg=>
ldK 1 false g b λi=>
faK 4 c λj=>
ldK 1 false j b λk=>
faK 5 c λl=>
ldK 1 false l b λm=>
faK 6 c λn=>
ldK 1 false n b λo=>
effK (bsE 1 [I 0] 7 [(0,x6),(1,x8),(2,f),(3,i),(4,k),(5,m),(6,o)] (List.length b)) b λp a=>
faK 0 d λq=>
ldK 1 false q a λr=>
faK 1 d λt=>
ldK 1 false t a λu=>
faK 2 d λv=>
ldK 1 false v a λw=>
faK 3 d λx=>
ldK 1 false x a λy=>
faK 4 d λz=>
ldK 1 false z a λa2=>
faK 5 d λa3=>
ldK 1 false a3 a λa4=>
faK 6 d λa5=>
ldK 1 false a5 a λa6=>
effK (bsE 1 [I 0] 7 [(0,r),(1,u),(2,w),(3,y),(4,a2),(5,a4),(6,a6)] (List.length a)) a λa7 a8=>
cL2 ((upd (upd (upd (upd (upd (upd (tm0 [a0,a1]) 2 c) 3 d) 4 (.s (.bool false))) 5 p) 6 a7) 7 (I 0)),a8)
noncomputable def Zkq(P:Program)(T:Tab)(D:DTab)(N:Nat){β:Type}(K:Kb β)(a0 a1:AV)(h:Hp):Option β:=Zkp P T D N (λs=>iterK (λs k=>Z9a P T D N s.1 s.2 k) N s (Zcl P T D N K)) K a0 a1 h
noncomputable def Zcm(P:Program)(T:Tab)(D:DTab)(N:Nat){β:Type}(K:Kb β)(h:Hp):Option β:=
K (.s (.bool false)) h
noncomputable def Z9b(P:Program)(T:Tab)(D:DTab)(N:Nat){β:Type}(xn:AV→AV→Kb β)(r:Qb β)(xr:Kb β)(b c a:AV)(h:Hp):Option β:=
lenK b λd=>
arithK .lss a d λe=>
condK e (
iaK 1 b a λf=>
ldK 1 false f h λg=>
iaK 1 c a λi=>
ldK 1 false i h λj=>
eqK P true 3 g j h λk=>
condK k (
iaK 1 b a λl=>
ldK 1 false l h λm=>
iaK 1 c a λn=>
ldK 1 false n h λo=>
arithK .lss m o λp=>
xr p h) (
arithK .add a (I 1) λq=>
xn b c q h)) (
r h)
noncomputable def Z59(P:Program)(T:Tab)(D:DTab)(N:Nat){β:Type}(a:Qb β)(xr:Kb β):Nat→AV→AV→Kb β
 | 0=>λ_ _ _ _=>none
 | n+1=>λb c d h=>Z9b P T D N (Z59 P T D N a xr n) a xr b c d h
noncomputable def Z9c(P:Program)(T:Tab)(D:DTab)(N:Nat){β:Type}(K:Kb β)(a0 a1:AV)(h:Hp):Option β:=
effK (boxE 7 a0 (List.length h)) h λc f=>
effK (boxE 7 a1 (List.length f)) f λd b=>
faK 0 c λx5=>
ldK 1 false x5 b λx6=>
faK 1 c λx7=>
ldK 1 false x7 b λx8=>
faK 2 c λx9=>
ldK 1 false x9 b λg=>
faK 3 c λi=>
ldK 1 false i b λj=>
faK 4 c λk=>
ldK 1 false k b λl=>
faK 5 c λm=>
ldK 1 false m b λn=>
faK 6 c λo=>
ldK 1 false o b λp=>
effK (bsE 1 [I 0] 7 [(0,x6),(1,x8),(2,g),(3,j),(4,l),(5,n),(6,p)] (List.length b)) b λq a=>
faK 0 d λr=>
ldK 1 false r a λs=>
faK 1 d λt=>
ldK 1 false t a λu=>
faK 2 d λv=>
ldK 1 false v a λw=>
faK 3 d λx=>
ldK 1 false x a λy=>
faK 4 d λz=>
ldK 1 false z a λa2=>
faK 5 d λa3=>
ldK 1 false a3 a λa4=>
faK 6 d λa5=>
ldK 1 false a5 a λa6=>
effK (bsE 1 [I 0] 7 [(0,s),(1,u),(2,w),(3,y),(4,a2),(5,a4),(6,a6)] (List.length a)) a λa7 a8=>
Z59 P T D N (λh=>Zcm P T D N K h) (λe h=>K e h) N q a7 (I 0) a8
theorem ZsG(xn:AV→AV→Kb β)(x0:Qb β)(xr:Kb β)(xd:Nat→St→Option β)(xq:St→Option β)(t:Tm)(h:Hp):Z9a P T D N t h (λ(e:Ex)(s:St)=>e.on (xn (s.1 5) (s.1 6) (s.1 7) s.2) (λi=>(bif i==0 then x0 s.2 else (xd i s))) (xr (s.1 4) s.2))=Z9b P T D N xn x0 xr (t 5) (t 6) (t 7) h:=by kernel_rfl
theorem ZsH(A:Ex→St→Option β)(x0:Qb β)(xr:Kb β)(q0:∀s,A (.exit 0) s=x0 s.2)(qr:∀s,A .ret s=xr (s.1 4) s.2):∀(n:Nat)(s:St),iterK (λs k=>Z9a P T D N s.1 s.2 k) n s A=Z59 P T D N x0 xr n (s.1 5) (s.1 6) (s.1 7) s.2:=
 Z0O (exs1 q0 qr) (λs=>rfl) λn s=>ZsG P T D N (Z59 P T D N x0 xr n) x0 xr (λi s=>A (.exit i) s) (λs=>A .ret s) s.1 s.2
theorem ZsI(K:Kb β)(a0 a1:AV)(h:Hp):Zkq P T D N K a0 a1 h=Z9c P T D N K a0 a1 h:=by
 have eL2:(λs:St=>iterK (λs k=>Z9a P T D N s.1 s.2 k) N s (Zcl P T D N K))=(λs:St=>Z59 P T D N (λh=>Zcm P T D N K h) (λw51_4 h=>K w51_4 h) N (s.1 5) (s.1 6) (s.1 7) s.2):=funext λs=>ZsH P T D N (Zcl P T D N K) (λh=>Zcm P T D N K h) (λw51_4 h=>K w51_4 h) (λs=>rfl) (λs=>rfl) N s
 show Zkp P T D N (λs=>iterK (λs k=>Z9a P T D N s.1 s.2 k) N s (Zcl P T D N K)) K a0 a1 h=_
 rw[eL2]
 kernel_rfl
theorem ZsJ(K:Kb β)(a0 a1:AV)(h:Hp):runK Tryz.prog T D N [0,1,2,3,4,5,6,7,41,52] Tryz.f87 K [a0,a1] h=Z9c Tryz.prog T D N K a0 a1 h:=Eq.trans (b:=Zkq Tryz.prog T D N K a0 a1 h) (by kernel_rfl) (ZsI Tryz.prog T D N K a0 a1 h)
end Go.AM



namespace Go.AM
open Go.RowKit
variable {P:Program} {μ μ':Mu} {h h' h1:Hp} {w w':World}
def Near(h a:Hp):Prop:=a.length=h.length∧∀(id:Nat)(o:AObj),h[id]? = some o→a[id]? = some o∨∃sz es es' own nil,o = .arr sz es own nil∧a[id]? = some (.arr sz es' own nil)∧es'.length=es.length∧∀e ∈ es',∀c ∈ e,plain c=true
theorem Near.back(n:Near h h1){id:Nat}{o:AObj}(ho:h1[id]? = some o):h[id]? = some o∨∃sz es es' own nil,o = .arr sz es' own nil∧h[id]? = some (.arr sz es own nil)∧es'.length=es.length∧∀e ∈ es',∀c ∈ e,plain c=true:=by
 have hl:id<h.length:=by rw[← n.1];exact (List.getElem?_eq_some_iff.1 ho).1
 have hh:h[id]? = some h[id]:=List.getElem?_eq_getElem hl;rcases n.2 id _ hh with h2 | ⟨sz,es,es',own,nil,h2,h3,h4,h5⟩
 ·left
  rw[h2] at ho;rw[hh];exact ho
 ·right
  rw[h3] at ho;injection ho with ho
  exact ⟨sz,es,es',own,nil,ho.symm,by rw[hh,h2],h4,h5⟩
theorem Step.forget2{g:List AObj}(R:Rel μ h w)(n:Near h h1)(S:Step μ h w μ' (h1++g) w'):Step μ h w (μ.mix μ') h1 w'∧Ext (μ.mix μ') h1 μ' (h1++g):=by
 have hin:∀i o,h1[i]? = some o→(h1++g)[i]? = some o:=λi o hi=>by
  rw[List.getElem?_append_left (List.getElem?_eq_some_iff.1 hi).1];exact hi
 have hloc:∀(id:Nat)(o:AObj),h[id]? = some o→o ≠ .dead→μ' id=μ id:=by
  intro id o ho hd;have:=S.evo.obj id o ho
  cases o with
  | dead=>exact absurd rfl hd
  | loop m ps asg body ts st pend=>obtain ⟨_,_,_,h2⟩:=this;exact h2
  | iter m n seen=>obtain ⟨_,_,h2⟩:=this;exact h2
  | map kvs=>obtain ⟨_,_,h2⟩:=this;exact h2
  | arr sz es own nil=>
   obtain ⟨es',nil',q1,q2,q3⟩:=this;rcases n.2 id _ ho with h2 | ⟨sz2,es2,es3,own2,nil2,h2,h3,h4,h5⟩
   ·rw[hin _ _ h2] at q1
    injection q1 with q1;injection q1 with e1 e2 e3 e4
    exact q3 (by rw[e2])
   ·rw[hin _ _ h3] at q1
    injection q1 with q1;injection q1 with e1 e2 e3 e4
    injection h2 with f1 f2 f3 f4;exact q3 (by rw[← e2,h4,f2])
 have hloc1:∀(id:Nat)(o:AObj),h1[id]? = some o→o ≠ .dead→μ' id=μ id:=by
  intro id o ho hd;rcases n.back ho with h2 | ⟨sz,es,es',own,nil,h2,h3,h4,h5⟩
  ·exact hloc id o h2 hd
  ·exact hloc id _ h3 (by simp)
 have he:Ext (μ.mix μ') h1 μ' (h1++g):=⟨λk hk=>⟨hk,rfl⟩,λid o ho=>⟨hin _ _ ho,λhd=>hloc1 id o ho hd⟩⟩
 have hE:Evo μ h (μ.mix μ') h1:=by
  refine ⟨S.evo.imm,λid o ho => ?_⟩
  rcases n.2 id _ ho with h2 | ⟨sz2,es2,es3,own2,nil2,rfl,h3,h4,h5⟩
  ·cases o with
   | dead=>trivial
   | loop m ps asg body ts st pend=>exact ⟨st,pend,h2,rfl⟩
   | iter m n seen=>exact ⟨seen,h2,rfl⟩
   | map kvs=>exact ⟨kvs,h2,rfl⟩
   | arr sz es own nil=>exact ⟨es,nil,h2,Nat.le_refl _,λ_=>rfl⟩
  ·exact ⟨es3,nil2,h3,by omega,λ_=>rfl⟩
 have hmu:∀i o b x c,h1[i]? = some o→isOwn o=true→(μ.mix μ') i = .real b x c→μ' i = .real b x c:=λi o b x c p1 p2 p3=>by
  rw[hloc1 i o p1 (by rintro rfl;simp[isOwn] at p2)];exact p3
 have hown:∀b,Own (μ.mix μ') h1 b→Own μ' (h1++g) b:=by
  rintro b ⟨id,o,x,c,p1,p2,p3⟩
  exact ⟨id,o,x,c,hin _ _ p1,p2,hmu _ _ _ _ _ p1 p2 p3⟩
 have hown0:∀b,Own (μ.mix μ') h1 b→Own μ h b:=by
  rintro b ⟨id,o,x,c,p1,p2,p3⟩
  rcases n.back p1 with h2 | ⟨sz,es,es',own,nil,rfl,h3,h4,h5⟩
  ·exact ⟨id,o,x,c,h2,p2,p3⟩
  ·exact ⟨id,_,x,c,h3,p2,p3⟩
 refine ⟨⟨⟨λid o ho => ?_, ?_, ?_, ?_⟩,hE,S.frame,λb hb => .inl (hown0 b hb),S.fresh⟩,he⟩
 ·have H:=S.rel.obj id o (hin _ _ ho)
  rcases n.back ho with h2 | ⟨sz,es,es',own,nil,rfl,h3,h4,h5⟩
  ·exact ORel.back he ho (w:=w) (ORel.mono hE rfl (λ_ _ _ _=>rfl) (Nat.le_refl _) (R.obj id o h2)) H
  ·refine ⟨H.1, ?_⟩
   have H2:=H.2;have hm:μ' id=(μ.mix μ') id:=hloc1 id _ ho (by simp)
   rw[← hm];cases hmu2:μ' id with
   | virt A=>rw[hmu2] at H2;exact H2
   | real blk x c=>
    rw[hmu2] at H2;obtain ⟨q1,q2,q3,q4,q5,q6⟩:=H2
    refine ⟨q1,q2,q3,q4,λi e j a p q => ?_,q6⟩
    obtain ⟨v,r1,r2,r3⟩:=q5 i e j a p q;exact ⟨v,r1,r2,Z3Q he.imm (h5 e (List.mem_of_getElem? p) a (List.mem_of_getElem? q)) r3⟩
 ·intro i j o p b x c y d hi hj hoi hpj hmi hmj
  exact S.rel.sep i j o p b x c y d (hin _ _ hi) (hin _ _ hj) hoi hpj (hmu _ _ _ _ _ hi hoi hmi) (hmu _ _ _ _ _ hj hpj hmj)
 ·intro i sz es nil b x c hi hmi hO
  rcases n.back hi with h2 | ⟨sz2,es2,es3,own2,nil2,h2,h3,h4,h5⟩
  ·exact R.apart i sz es nil b x c h2 hmi (hown0 b hO)
  ·injection h2 with f1 f2 f3 f4
   subst f1 f3 f4;exact R.apart i _ es2 _ b x c h3 hmi (hown0 b hO)
 ·intro k hk
  obtain ⟨p1,p2,p3⟩:=S.rel.imm k hk;exact ⟨p1,p2,λhO=>p3 (hown k hO)⟩
def Writes(F:Fun)(id:Nat)(x:AV)(sz:Nat)(xs zs:List AV):Prop:=
 (∀c ∈ zs,plain c=true)∧∀H:Hp,H[id]? = some (.arr sz [xs] true false)→∃g,F [.ptr id 0 0 1,x] H=some (.tup [],H.set id (.arr sz [zs] true false)++g)
open Classical in
def wrD(F:Fun):DFun:=λargs h base=>match args with
 | [.ptr id 0 0 1,x]=>match h[id]? with
  | some (.arr sz [xs] true false)=>if hx:∃zs,Writes F id x sz xs zs then some (.tup [],⟨[(id,.arr sz [hx.choose] true false)],[],[id]⟩) else none
  | _=>none
 | _=>none
theorem Writes.unique{F:Fun}{id:Nat}{x:AV}{sz:Nat}{xs zs ys:List AV}{h:Hp}(hid:h[id]? = some (.arr sz [xs] true false))(h1:Writes F id x sz xs zs)(h2:Writes F id x sz xs ys):zs=ys:=by
 obtain ⟨g1,e1⟩:=h1.2 h hid;obtain ⟨g2,e2⟩:=h2.2 h hid;rw[e1] at e2;injection e2 with e2;injection e2 with _ e2;have hl:=(List.getElem?_eq_some_iff.1 hid).1;have:=congrArg (λl:Hp=>l[id]?) e2
 rw[List.getElem?_append_left (by simpa using hl),List.getElem?_append_left (by simpa using hl),List.getElem?_set_self hl,List.getElem?_set_self hl] at this
 injection this with this;injection this with _ this
 injection this
theorem ZsK{F:Fun}{id:Nat}{x:AV}{sz:Nat}{xs zs:List AV}{h:Hp}(hid:h[id]? = some (.arr sz [xs] true false))(hw:Writes F id x sz xs zs)(base:Nat):wrD F [.ptr id 0 0 1,x] h base=some (.tup [],⟨[(id,.arr sz [zs] true false)],[],[id]⟩):=by
 have hx:∃zs,Writes F id x sz xs zs:=⟨zs,hw⟩;simp only[wrD,hid];rw[dif_pos hx,Writes.unique hid hx.choose_spec hw]
theorem ZfG{F:Fun}{args:List AV}{h:Hp}{base:Nat}{v:AV}{e:Eff}(hk:wrD F args h base=some (v,e)):∃id x sz xs zs,args=[.ptr id 0 0 1,x]∧h[id]? = some (.arr sz [xs] true false)∧Writes F id x sz xs zs∧v = .tup []∧e=⟨[(id,.arr sz [zs] true false)],[],[id]⟩:=by
 unfold wrD at hk;split at hk<;>try (simp at hk;done)
 rename_i id x;split at hk<;>try (simp at hk;done)
 rename_i sz xs hid;split at hk<;>try (simp at hk;done)
 rename_i hx;simp only[Option.some.injEq,Prod.mk.injEq] at hk
 exact ⟨id,x,sz,xs,hx.choose,rfl,hid,hx.choose_spec,hk.1.symm,hk.2.symm⟩
theorem ZsL(F:Fun):DLoc (wrD F):=by
 refine ⟨λargs h base v e hk H hag => ?_,λargs h base v e hk p hp => ?_⟩
 ·obtain ⟨id,x,sz,xs,zs,rfl,hid,hw,rfl,rfl⟩:=ZfG hk
  exact ZsK (hag id (by simp) _ hid) hw base
 ·obtain ⟨id,x,sz,xs,zs,rfl,hid,hw,rfl,rfl⟩:=ZfG hk
  simp only[List.mem_singleton] at hp;subst hp
  exact ⟨_,hid,by simp⟩
theorem ZsM{F:Fun}{f:FuncId}(hc:CSound P f F):DCalls P f (wrD F):=by
 intro args h base v e hk hd μ w cargs R hargs;obtain ⟨id,x,sz,xs,zs,rfl,hid,hw,rfl,rfl⟩:=ZfG hk
 obtain ⟨g,hg⟩:=hw.2 h hid;obtain ⟨hgo,hcall⟩:=hc _ _ _ _ hg μ w cargs R hargs;refine ⟨hgo,Calls.mono hcall ?_⟩;rintro en w' ⟨cv,μ',rfl,hst,hv⟩;have hl:=(List.getElem?_eq_some_iff.1 hid).1
 have hn:Near h (h.set id (.arr sz [zs] true false)):=by
  refine ⟨by simp,λj o ho => ?_⟩
  by_cases hj:id=j
  ·subst hj
   rw[hid] at ho;injection ho with ho
   subst ho
   right
   refine ⟨sz,[xs],[zs],true,false,rfl,by rw[List.getElem?_set_self hl],rfl, ?_⟩
   intro e he c hc;simp only[List.mem_singleton] at he
   subst he;exact hw.1 c hc
  ·left
   rw[List.getElem?_set_ne hj];exact ho
 obtain ⟨h1,h2⟩:=Step.forget2 R hn hst;exact ⟨cv,_,rfl,by simpa [apAt] using h1,Z3Q h2.imm rfl hv⟩
theorem DSound.wr{D:DTab}(DS:DSound P D){f:Nat}{F:Fun}(hc:CSound P f F):DSound P (updD D f (wrD F)):=DS.upd (ZsL F) (ZsM hc)
end Go.AM


namespace Go.AM
open Go.RowKit
variable {P:Program} {μ μ':Mu} {h h' h1:Hp} {w w':World}
theorem Step.move{g:List AObj}{base k sz len fr:Nat}{es:List (List AV)}{nil full:Bool}{cv:Value}(R:Rel μ h w)(S:Step μ h w μ' (h++g) w')(hd:h[base]? = some .dead)(hk:g[k]? = some (.arr sz es true nil))(hp:∀e ∈ es,∀c ∈ e,plain c=true)(hv:VR μ' (h++g) (.sl sz (h.length+k) 0 len fr full) cv):
  ∃ν,Step μ h w ν (h.set base (.arr sz es true nil)) w'∧VR ν (h.set base (.arr sz es true nil)) (.sl sz base 0 len fr full) cv∧ImmLe μ' ν:=by
 obtain ⟨S1,he⟩:=Step.forget R S;have hbl:base<h.length:=(List.getElem?_eq_some_iff.1 hd).1
 have hgk:(h++g)[h.length+k]? = some (.arr sz es true nil):=by
  rw[List.getElem?_append_right (by omega)]
  rw[show h.length+k-h.length=k by omega];exact hk
 have hin:∀i o,h[i]? = some o→(h++g)[i]? = some o:=λi o hi=>by
  rw[List.getElem?_append_left (List.getElem?_eq_some_iff.1 hi).1];exact hi
 obtain ⟨ν,hν⟩:∃ν,ν=(μ.mix μ').set base (μ' (h.length+k)):=⟨_,rfl⟩;have nb:ν base=μ' (h.length+k):=by rw[hν];simp
 have nn:∀i,i≠base→ν i=(μ.mix μ') i:=λi hi=>by rw[hν];simp[hi]
 have gs:(h.set base (.arr sz es true nil))[base]? = some (.arr sz es true nil):=List.getElem?_set_self hbl;have gn:∀i,i≠base→(h.set base (.arr sz es true nil))[i]? = h[i]? := λi hi=>List.getElem?_set_ne (Ne.symm hi)
 have himm:ImmLe μ' ν:=λk hk=>by rw[hν];exact he.imm k hk
 have hE:Evo (μ.mix μ') h ν (h.set base (.arr sz es true nil)):=by
  refine ⟨λk hk=>by rw[hν];exact ⟨hk,rfl⟩,λid o ho => ?_⟩
  by_cases hib:id=base
  ·subst hib
   rw[hd] at ho;injection ho with ho
   subst ho
   trivial
  ·have hg:=(gn id hib).trans ho
   have hl:=nn id hib;cases o with
   | dead=>trivial
   | loop m ps asg body ts st pend=>exact ⟨st,pend,hg,hl⟩
   | iter m n seen=>exact ⟨seen,hg,hl⟩
   | map kvs=>exact ⟨kvs,hg,hl⟩
   | arr sz es own nil=>exact ⟨es,nil,hg,Nat.le_refl _,λ_=>hl⟩
 have hown:∀b,Own ν (h.set base (.arr sz es true nil)) b→Own μ' (h++g) b:=by
  rintro b ⟨id,o,x,c,p1,p2,p3⟩
  by_cases hib:id=base
  ·subst hib
   rw[gs] at p1;injection p1 with p1
   subst p1;exact ⟨h.length+k,_,x,c,hgk,rfl,by rw[← nb];exact p3⟩
  ·rw[gn id hib] at p1
   rw[nn id hib] at p3;refine ⟨id,o,x,c,hin _ _ p1,p2, ?_⟩
   rw[(he.obj id o p1).2 (by rintro rfl;simp[isOwn] at p2)]
   exact p3
 have hmu:∀i o b x c,i≠base→(h.set base (.arr sz es true nil))[i]? = some o→o ≠ .dead→ν i = .real b x c→(h++g)[i]? = some o∧μ' i = .real b x c:=λi o b x c hi p1 p2 p3=>by
  rw[gn i hi] at p1;rw[nn i hi] at p3;exact ⟨hin _ _ p1,by rw[(he.obj i o p1).2 p2];exact p3⟩
 refine ⟨ν,⟨⟨λid o ho => ?_, ?_, ?_, ?_⟩, ?_,S.frame,λb hb=>S.own b (hown b hb),λk hk=>S.fresh k (by rw[hν] at hk;exact hk)⟩, ?_,himm⟩
 ·by_cases hib:id=base
  ·subst hib
   rw[gs] at ho;injection ho with ho
   subst ho;have H:=S.rel.obj _ _ hgk
   refine ⟨H.1, ?_⟩;have H2:=H.2;rw[nb];cases hm:μ' (h.length+k) with
   | virt A=>rw[hm] at H2;exact H2
   | real blk x c=>
    rw[hm] at H2;obtain ⟨q1,q2,q3,q4,q5,q6⟩:=H2
    refine ⟨q1,q2,q3,q4,λi e j a p q => ?_,q6⟩
    obtain ⟨v,r1,r2,r3⟩:=q5 i e j a p q;exact ⟨v,r1,r2,Z3Q himm (hp e (List.mem_of_getElem? p) a (List.mem_of_getElem? q)) r3⟩
  ·rw[gn id hib] at ho
   exact ORel.mono hE (nn id hib) (λ_ _ _ _=>rfl) (Nat.le_refl _) (S1.rel.obj id o ho)
 ·intro i j o p b x c y d hi hj hoi hpj hmi hmj
  have fin:∀(j:Nat)(p:AObj)(y d x c:Nat),j≠base→(h.set base (.arr sz es true nil))[j]? = some p→isOwn p=true→ν j = .real b y d→ν base = .real b x c→False:=λj p y d x c hjb hj hpj hmj hmb=>by
   obtain ⟨r1,r2⟩:=hmu j p b y d hjb hj (by rintro rfl;simp[isOwn] at hpj) hmj
   have:=S.rel.sep (h.length+k) j _ p b x c y d hgk r1 rfl hpj (by rw[← nb];exact hmb) r2
   rw[gn j hjb] at hj;have:=(List.getElem?_eq_some_iff.1 hj).1
   omega
  by_cases hib:i=base
  ·by_cases hjb:j=base
   ·rw[hib,hjb]
   ·subst hib
    exact (fin j p y d x c hjb hj hpj hmj hmi).elim
  ·by_cases hjb:j=base
   ·subst hjb
    exact (fin i o x c y d hib hi hoi hmi hmj).elim
   ·obtain ⟨r1,r2⟩:=hmu i o b x c hib hi (by rintro rfl;simp[isOwn] at hoi) hmi
    obtain ⟨r3,r4⟩:=hmu j p b y d hjb hj (by rintro rfl;simp[isOwn] at hpj) hmj
    exact S.rel.sep i j o p b x c y d r1 r3 hoi hpj r2 r4
 ·intro i sz2 es2 nil2 b x c hi hmi hO
  have hib:i≠base:=by
   rintro rfl
   rw[gs] at hi;injection hi with hi
   injection hi with _ _ f;cases f
  obtain ⟨r1,r2⟩:=hmu i _ b x c hib hi (by simp) hmi
  exact S.rel.apart i _ _ _ b x c r1 r2 (hown b hO)
 ·intro k hk
  have hk':μ'.imm k:=by rw[hν] at hk;exact hk
  obtain ⟨p1,p2,p3⟩:=S.rel.imm k hk';exact ⟨p1,by rw[p2,hν];rfl,λhO=>p3 (hown k hO)⟩
 ·refine ⟨λk hk => ?_,λid o ho => ?_⟩
  ·rw[hν];exact S.evo.imm k hk
  ·by_cases hib:id=base
   ·subst hib
    rw[hd] at ho;injection ho with ho
    subst ho
    trivial
   ·have hg:=(gn id hib).trans ho
    have hl:ν id=μ id:=nn id hib;cases o with
    | dead=>trivial
    | loop m ps asg body ts st pend=>exact ⟨st,pend,hg,hl⟩
    | iter m n seen=>exact ⟨seen,hg,hl⟩
    | map kvs=>exact ⟨kvs,hg,hl⟩
    | arr sz es own nil=>exact ⟨es,nil,hg,Nat.le_refl _,λ_=>hl⟩
 ·simp only[VR] at hv ⊢
  obtain ⟨A,c,e1,h1,h2,h3,es',own,nil',hid,hl,hc⟩:=hv;rw[hgk] at hid;injection hid with hid;injection hid with f1 f2 f3 f4;subst f2;exact ⟨A,c,e1,h1,h2,h3,es,true,nil,gs,hl,λq=>by rw[nb];exact hc q⟩
def News(F:Fun)(args:List AV)(x:Nat × List (List AV) × Nat × Nat × Bool):Prop:=
 (∀e ∈ x.2.1,∀c ∈ e,plain c=true)∧∀H:Hp,∃g k,F args H=some (.sl x.1 (H.length+k) 0 x.2.2.1 x.2.2.2.1 x.2.2.2.2,H++g)∧g[k]? = some (.arr x.1 x.2.1 true false)
def Nils(F:Fun)(args:List AV):Prop:=∀H:Hp,F args H=some (.s (.slice none 0 0),H)
open Classical in
def newD(F:Fun):DFun:=λargs h base=>
 if hx:∃x,News F args x then some (.sl hx.choose.1 base 0 hx.choose.2.2.1 hx.choose.2.2.2.1 hx.choose.2.2.2.2,⟨[],[.arr hx.choose.1 hx.choose.2.1 true false],[]⟩)
 else if Nils F args then some (.s (.slice none 0 0),⟨[],[],[]⟩) else none
theorem News.unique{F:Fun}{args:List AV}{x y:Nat × List (List AV) × Nat × Nat × Bool}(h1:News F args x)(h2:News F args y):x=y:=by
 obtain ⟨g1,k1,e1,q1⟩:=h1.2 [];obtain ⟨g2,k2,e2,q2⟩:=h2.2 [];rw[e1] at e2;injection e2 with e2;injection e2 with e2 e3;injection e2 with a1 a2 a3 a4 a5 a6;simp only[List.nil_append,List.length_nil,Nat.zero_add] at a2 e3;subst a2 e3;rw[q1] at q2;injection q2 with q2;injection q2 with b1 b2;obtain ⟨x1,x2,x3,x4,x5⟩:=x;obtain ⟨y1,y2,y3,y4,y5⟩:=y;simp only at a1 a4 a5 a6 b2;subst a1 a4 a5 a6 b2
 rfl
theorem ZfH{F:Fun}{args:List AV}{x:Nat × List (List AV) × Nat × Nat × Bool}(hw:News F args x)(h:Hp)(base:Nat):newD F args h base=some (.sl x.1 base 0 x.2.2.1 x.2.2.2.1 x.2.2.2.2,⟨[],[.arr x.1 x.2.1 true false],[]⟩):=by
 have hx:∃x,News F args x:=⟨x,hw⟩;unfold newD;rw[dif_pos hx,News.unique hx.choose_spec hw]
theorem ZfI{F:Fun}{args:List AV}(hw:Nils F args)(h:Hp)(base:Nat):newD F args h base=some (.s (.slice none 0 0),⟨[],[],[]⟩):=by
 have hx:¬ ∃x,News F args x:=by
  rintro ⟨x,hx⟩
  obtain ⟨g,k,e,-⟩:=hx.2 [];rw[hw []] at e;injection e with e;injection e with e;cases e
 unfold newD;rw[dif_neg hx,if_pos hw]
theorem ZfJ{F:Fun}{args:List AV}{h:Hp}{base:Nat}{v:AV}{e:Eff}(hk:newD F args h base=some (v,e)):(∃x,News F args x∧v = .sl x.1 base 0 x.2.2.1 x.2.2.2.1 x.2.2.2.2∧e=⟨[],[.arr x.1 x.2.1 true false],[]⟩)∨(Nils F args∧v = .s (.slice none 0 0)∧e=⟨[],[],[]⟩):=by
 unfold newD at hk;split at hk
 ·rename_i hx
  simp only[Option.some.injEq,Prod.mk.injEq] at hk;exact .inl ⟨_,hx.choose_spec,hk.1.symm,hk.2.symm⟩
 ·split at hk
  ·rename_i hn
   simp only[Option.some.injEq,Prod.mk.injEq] at hk;exact .inr ⟨hn,hk.1.symm,hk.2.symm⟩
  ·simp at hk
theorem ZsN(F:Fun):DLoc (newD F):=by
 refine ⟨λargs h base v e hk H hag => ?_,λargs h base v e hk p hp => ?_⟩
 ·rcases ZfJ hk with ⟨x,hw,rfl,rfl⟩ | ⟨hn,rfl,rfl⟩
  ·exact ZfH hw _ _
  ·exact ZfI hn _ _
 ·rcases ZfJ hk with ⟨x,hw,rfl,rfl⟩ | ⟨hn,rfl,rfl⟩<;>simp at hp
theorem ZsO{F:Fun}{f:FuncId}(hc:CSound P f F):DCalls P f (newD F):=by
 intro args h base v e hk hd μ w cargs R hargs;rcases ZfJ hk with ⟨x,hw,rfl,rfl⟩ | ⟨hn,rfl,rfl⟩
 ·obtain ⟨g,k,hF,hg⟩:=hw.2 h
  obtain ⟨hgo,hcall⟩:=hc _ _ _ _ hF μ w cargs R hargs;refine ⟨hgo,Calls.mono hcall ?_⟩;rintro en w' ⟨cv,μ',rfl,hst,hv⟩;have hdead:h[base]? = some .dead:=by have:=hd 0 (by simp);simpa using this
  obtain ⟨ν,h1,h2,-⟩:=Step.move R hst hdead hg hw.1 hv;exact ⟨cv,ν,rfl,by simpa [apAt] using h1,by simpa [apAt] using h2⟩
 ·obtain ⟨hgo,hcall⟩:=hc _ _ _ _ (hn h) μ w cargs R hargs
  refine ⟨hgo,Calls.mono hcall ?_⟩;rintro en w' ⟨cv,μ',rfl,hst,hv⟩;exact ⟨cv,μ',rfl,by simpa [apAt] using hst,by simpa [apAt] using hv⟩
theorem DSound.new{D:DTab}(DS:DSound P D){f:Nat}{F:Fun}(hc:CSound P f F):DSound P (updD D f (newD F)):=DS.upd (ZsN F) (ZsO hc)
end Go.AM


namespace Go.AM
open Go.RowKit
variable {P:Program} {μ μ':Mu} {h h' h1:Hp} {w w':World}
theorem Zkr{μ:Mu}{h:Hp}:∀{asl bs:List AV}{vs:List Value},VRs μ h (asl++bs) vs→∃v1 v2,vs=v1++v2∧VRs μ h asl v1∧VRs μ h bs v2
 | [],bs,vs,hv=>⟨[],vs,rfl,by simp[VRs],hv⟩
 | a::asl,bs,vs,hv=>by
  simp only[List.cons_append,VRs] at hv;obtain ⟨v,vs',rfl,h1,h2⟩:=hv
  obtain ⟨v1,v2,rfl,h3,h4⟩:=Zkr h2;exact ⟨v::v1,v2,rfl,by simp only[VRs];exact ⟨v,v1,rfl,h1,h3⟩,h4⟩
def NewsA(F:Fun)(args:List AV)(x:List AV × Nat × List (List AV) × Nat × Nat × Bool):Prop:=
 plains x.1=true∧(∀e ∈ x.2.2.1,∀c ∈ e,plain c=true)∧∀H:Hp,∃g k,F args H=some (.agg (x.1++[.sl x.2.1 (H.length+k) 0 x.2.2.2.1 x.2.2.2.2.1 x.2.2.2.2.2]),H++g)∧g[k]? = some (.arr x.2.1 x.2.2.1 true false)
def Plains(F:Fun)(args:List AV)(v:AV):Prop:=plain v=true∧∀H:Hp,∃g,F args H=some (v,H++g)
open Classical in
def newA(F:Fun):DFun:=λargs h base=>
 if hx:∃x,NewsA F args x then some (.agg (hx.choose.1++[.sl hx.choose.2.1 base 0 hx.choose.2.2.2.1 hx.choose.2.2.2.2.1 hx.choose.2.2.2.2.2]),⟨[],[.arr hx.choose.2.1 hx.choose.2.2.1 true false],[]⟩)
 else if hy:∃v,Plains F args v then some (hy.choose,⟨[],[],[]⟩) else none
theorem NewsA.unique{F:Fun}{args:List AV}{x y:List AV × Nat × List (List AV) × Nat × Nat × Bool}(h1:NewsA F args x)(h2:NewsA F args y):x=y:=by
 obtain ⟨g1,k1,e1,q1⟩:=h1.2.2 [];obtain ⟨g2,k2,e2,q2⟩:=h2.2.2 [];rw[e1] at e2;injection e2 with e2;injection e2 with e2 e3;injection e2 with e2;obtain ⟨x1,x2,x3,x4,x5,x6⟩:=x;obtain ⟨y1,y2,y3,y4,y5,y6⟩:=y;dsimp only at e2 q1 q2;have hl:x1.length=y1.length:=by have:=congrArg List.length e2;simpa using this
 obtain ⟨a0,a1⟩:=List.append_inj e2 hl;injection a1 with a1;injection a1 with b1 b2 b3 b4 b5 b6;simp only[List.nil_append,List.length_nil,Nat.zero_add] at b2 e3;subst a0 b1 b2 b4 b5 b6 e3;rw[q1] at q2;injection q2 with q2;injection q2 with _ c2;rw[c2]
theorem Zks{F:Fun}{args:List AV}{x:List AV × Nat × List (List AV) × Nat × Nat × Bool}(hw:NewsA F args x)(h:Hp)(base:Nat):newA F args h base=some (.agg (x.1++[.sl x.2.1 base 0 x.2.2.2.1 x.2.2.2.2.1 x.2.2.2.2.2]),⟨[],[.arr x.2.1 x.2.2.1 true false],[]⟩):=by
 have hx:∃x,NewsA F args x:=⟨x,hw⟩;unfold newA;rw[dif_pos hx,NewsA.unique hx.choose_spec hw]
theorem ZsP{xs:List AV}{a:AV}(h:plains (xs++[a])=true):plain a=true:=by
 induction xs with
 | nil=>simpa [plains] using h
 | cons x xs ih=>
  simp only[List.cons_append,plains,Bool.and_eq_true] at h;exact ih h.2
theorem Zkt{F:Fun}{args:List AV}{v:AV}(hw:Plains F args v)(h:Hp)(base:Nat):newA F args h base=some (v,⟨[],[],[]⟩):=by
 have hx:¬ ∃x,NewsA F args x:=by
  rintro ⟨x,hx⟩
  obtain ⟨g,k,e,-⟩:=hx.2.2 [];obtain ⟨g',e'⟩:=hw.2 [];rw[e'] at e;injection e with e;injection e with e;have:=hw.1;rw[e] at this;simp only[plain] at this;have:=ZsP this;simp[plain] at this
 have hy:∃v,Plains F args v:=⟨v,hw⟩;unfold newA;rw[dif_neg hx,dif_pos hy];obtain ⟨g1,e1⟩:=hy.choose_spec.2 [];obtain ⟨g2,e2⟩:=hw.2 [];rw[e1] at e2;injection e2 with e2;injection e2 with e2;rw[e2]
theorem ZfK{F:Fun}{args:List AV}{h:Hp}{base:Nat}{v:AV}{e:Eff}(hk:newA F args h base=some (v,e)):(∃x,NewsA F args x∧v = .agg (x.1++[.sl x.2.1 base 0 x.2.2.2.1 x.2.2.2.2.1 x.2.2.2.2.2])∧e=⟨[],[.arr x.2.1 x.2.2.1 true false],[]⟩)∨(Plains F args v∧e=⟨[],[],[]⟩):=by
 unfold newA at hk;split at hk
 ·rename_i hx
  simp only[Option.some.injEq,Prod.mk.injEq] at hk;exact .inl ⟨_,hx.choose_spec,hk.1.symm,hk.2.symm⟩
 ·split at hk
  ·rename_i hn
   simp only[Option.some.injEq,Prod.mk.injEq] at hk;obtain ⟨rfl,rfl⟩:=hk
   exact .inr ⟨hn.choose_spec,rfl⟩
  ·simp at hk
theorem ZsQ(F:Fun):DLoc (newA F):=by
 refine ⟨λargs h base v e hk H hag => ?_,λargs h base v e hk p hp => ?_⟩
 ·rcases ZfK hk with ⟨x,hw,rfl,rfl⟩ | ⟨hn,rfl⟩
  ·exact Zks hw _ _
  ·exact Zkt hn _ _
 ·rcases ZfK hk with ⟨x,hw,rfl,rfl⟩ | ⟨hn,rfl⟩<;>simp at hp
theorem ZsR{F:Fun}{f:FuncId}(hc:CSound P f F):DCalls P f (newA F):=by
 intro args h base v e hk hd μ w cargs R hargs;rcases ZfK hk with ⟨x,hw,rfl,rfl⟩ | ⟨hn,rfl⟩
 ·obtain ⟨g,k,hF,hg⟩:=hw.2.2 h
  obtain ⟨hgo,hcall⟩:=hc _ _ _ _ hF μ w cargs R hargs;refine ⟨hgo,Calls.mono hcall ?_⟩;rintro en w' ⟨cv,μ',rfl,hst,hv⟩;have hdead:h[base]? = some .dead:=by have:=hd 0 (by simp);simpa using this
  simp only[VR] at hv;obtain ⟨vs,rfl,hvs⟩:=hv
  obtain ⟨v1,v2,hq,hv1,hv2⟩:=Zkr hvs;simp only[VRs] at hv2;obtain ⟨c,vs',rfl,hsl,rfl⟩:=hv2;obtain ⟨ν,h1,h2,h3⟩:=Step.move R hst hdead hg hw.2.1 hsl;refine ⟨_,ν,rfl,by simpa [apAt] using h1, ?_⟩
  simp only[VR];refine ⟨vs,rfl, ?_⟩
  rw[hq];have hx:apAt h base ⟨[],[.arr x.2.1 x.2.2.1 true false],[]⟩=h.set base (.arr x.2.1 x.2.2.1 true false):=by simp[apAt]
  rw[hx];exact VRs.append (Z4u h3 hw.1 hv1) (by simp only[VRs];exact ⟨c,[],rfl,h2,rfl⟩)
 ·obtain ⟨g,hF⟩:=hn.2 h
  obtain ⟨hgo,hcall⟩:=hc _ _ _ _ hF μ w cargs R hargs;refine ⟨hgo, ?_⟩;have he:apAt h base ⟨[],[],[]⟩=h:=by simp[apAt]
  rw[he];exact Zf3 R hn.1 hcall
theorem DSound.newA{D:DTab}(DS:DSound P D){f:Nat}{F:Fun}(hc:CSound P f F):DSound P (updD D f (Go.AM.newA F)):=DS.upd (ZsQ F) (ZsR hc)
end Go.AM


namespace Go.AM
open Go.RowKit
variable {P:Program} {μ μ':Mu} {h h':Hp} {w w':World} {β:Type} {ks:List Nat} {np nt:Nat} {ds:List Deferred} {ρ:Option Nat}
def CSoundK(P:Program)(f:FuncId)(RK:{β:Type}→(Kb β)→List AV→Qb β):Prop:=∀{β:Type}(K:Kb β)(args:List AV)(h:Hp)(res:β),RK K args h=some res→∀μ w (cargs:Array Value),Rel μ h w→VRs μ h args cargs.toList→
 Goes P f∧Calls P f cargs w λe w'=>∃v h' cv μ',K v h'=some res∧e = .returned cv∧Step μ h w μ' h' w'∧VR μ' h' v cv
theorem Zku(R0:Rel μ h w){h1:Hp}{a:Act}{t:Tm}{fn:Func}{v:AV}{h':Hp}(hx:outsK P t h1 fn.results.toList (λvs=>some (pack vs,h1))=some (v,h')){Q:Ending→World→Prop}(hQ:∀cv μ' w',Step μ h w μ' h' w'→VR μ' h' v cv→Q (.returned cv) w'):∀(rs:List Nat)(μ1:Mu)(w1:World),Step μ h w μ1 h1 w1→rs.Nodup→
  (∀r ∈ rs,w.heap.size≤r∧μ1.imm r∧μ1.base.heap[r]? = some (.deferred (some [])))→(∀i,VR μ1 h1 (t i) (a.eval (.tmp i)))→
  LeavesInM (FW none) 0 P fn a.tmps Q (rs.map (λr=>{ target := .collected r,args := #[] })) .returning w1
 | [],μ1,w1,S,_,_,hv=>by
  obtain ⟨xs,u,e,r1,r2⟩:=Zi1 S.rel hv hx;simp only[Option.some.injEq,Prod.mk.injEq] at e;obtain ⟨rfl,rfl⟩:=e;exact ⟨u,r1,hQ u μ1 _ S r2⟩
 | r::rs,μ1,w1,S,hn,hr,hv=>by
  obtain ⟨p1,p2,p3⟩:=hr r (by simp)
  obtain ⟨q1,μ2,q2,q3,q4⟩:=Step.take (P:=P) R0 S p1 p2 p3;rw[List.nodup_cons] at hn;refine ⟨by simp,.inl ⟨r,_,rfl,q1, ?_⟩⟩
  exact Zku R0 hx hQ rs μ2 _ q2 hn.2 (λr' hr'=>by
   obtain ⟨s1,s2,s3⟩:=hr r' (by simp[hr'])
   have hne:r'≠r:=λe=>hn.1 (e ▸ hr')
   exact ⟨s1,(q4 r' hne s2).1,(q4 r' hne s2).2.trans s3⟩) λi=>q3 _ _ (hv i)
theorem ZsS{T:Tab}{D:DTab}(TS:TSound P T)(DS:DSound P D)(hm:P.follows .mixedOrders=true){f:FuncId}{fn:Func}(hf:P.funcs[f]? = some fn)(hok:fnOk ks np fn=true)(N:Nat):CSoundK P f (λ{β} K args h=>if args.length=np then runK P T D N ks fn K args h else none):=by
 intro β K args h res hk μ w cargs R hargs;simp only[fnOk,Bool.and_eq_true,decide_eq_true_eq,Bool.not_eq_true'] at hok
 obtain ⟨⟨hnt,hname⟩,hc⟩:=hok;cases hb:fn.body with
 | none=>rw[hb] at hc;cases hc
 | some c=>
  rw[hb] at hc;refine ⟨⟨fn,hf,hname,by rw[hb];rfl⟩, ?_⟩
  dsimp only at hk;split at hk<;>try (simp at hk;done)
  rename_i hlen;unfold runK at hk
  rw[hb] at hk;simp only at hk
  have hsz:cargs.size=np:=by rw[← hlen,hargs.length];simp
  have hfit:Fit ks np fn.ntmps [] μ h (tm0 args) { tmps:=cargs++Array.replicate (fn.ntmps-cargs.size) undef,defers:=[] }:=by
   refine ⟨by simp;omega,rfl,λi => ?_,λi _=>rfl,λi _ hi => ?_⟩
   ·rw[Z5J,Z7r]
    cases ha:args[i]? with
    | none=>simp[VR]
    | some x=>
     obtain ⟨u,h1,h2⟩:=hargs.get i x ha
     have hlt:i<cargs.size:=by
      rw[← Array.length_toList];exact (List.getElem?_eq_some_iff.1 h1).1
     have:(Act.mk (cargs++Array.replicate (fn.ntmps-cargs.size) undef) []).eval (.tmp i)=u:=by
      simp only[Act.eval,Array.getD_eq_getD_getElem?,Array.getElem?_append_left hlt];have:cargs[i]? = some u:=by simpa using h1
      rw[this];rfl
     rw[this];exact h2
   ·rw[Z7r,List.getElem?_eq_none (by omega)];rfl
  refine callsIn_wide.1 (callsIn_of_wp_marks (n:=0) (F:=FW none) hf hb trivial ?_);refine Z2X (ρ:=none) (b0:=w.heap.size) TS DS hm c hc (.inl rfl) [] _ _ _ _ _ _ _ _ hk hfit ⟨[],rfl,List.nodup_nil,λr hr=>by cases hr⟩ (Nat.le_refl _) R ?_
  intro e t' h1 a' w' μ' ds' q1 q2 qm q3
  have key:outsK P t' h1 fn.results.toList (λvs=>K (pack vs) h1)=some res→LeavesInM (FW none) 0 P fn a'.tmps (λe w'=>∃v h' cv μ',K v h'=some res∧e = .returned cv∧Step μ h w μ' h' w'∧VR μ' h' v cv) a'.defers .returning w':=by
   intro hx;obtain ⟨rs,m1,m2,m3⟩:=qm
   rw[Z3q] at hx;obtain ⟨vs,hvs,hKv⟩:=Option.bind_eq_some_iff.1 hx
   have hx2:outsK P t' h1 fn.results.toList (λvs=>some (pack vs,h1))=some (pack vs,h1):=by rw[Z3q,hvs];rfl
   rw[q2.defers,m1];exact Zku R hx2 (λcv μ' w' s1 s2=>⟨_,_,cv,μ',hKv,rfl,s1,s2⟩) rs μ' w' q3 m2 m3 q2.val
  cases e with
  | normal=>exact key q1
  | exit i=>simp[finK,Ex.on] at q1
  | ret=>exact key q1
noncomputable def closedXK(shp shr:List Sh)(RK:{β:Type}→(Kb β)→List AV→Qb β):Fun:=λargs h=>
 match cvts false h args with
 | some asl=>match RK (λv g=>cvt (!plains args) g v) (nrms shp asl) [] with
  | some v'=>some (nrmR shr v',h)
  | none=>none
 | none=>none
theorem ZsT{f:FuncId}{RK:{β:Type}→(Kb β)→List AV→Qb β}(shp shr:List Sh)(hc:CSoundK P f RK):CSound P f (closedXK shp shr RK):=by
 intro args h v h' hk μ w cargs R hargs
 unfold closedXK at hk;split at hk<;>try (simp at hk;done)
 rename_i asl hcv;split at hk<;>try (simp at hk;done)
 rename_i u' hF
 simp only[Option.some.injEq,Prod.mk.injEq] at hk;obtain ⟨rfl,rfl⟩:=hk
 cases hpl:plains args with
 | true=>
  rw[Z38 hpl] at hcv;injection hcv with hcv
  subst hcv;have R1:Rel μ [] w:=Rel.nil λk hk=>⟨(R.imm k hk).1,(R.imm k hk).2.1⟩
  obtain ⟨hg,hcall⟩:=hc _ _ _ _ hF μ w cargs R1 (Z5L shp (Z4u (ImmLe.refl _) hpl hargs));refine ⟨hg,Calls.mono hcall ?_⟩;rintro e w' ⟨u,g,cv,μ2,hu,rfl,S,hv⟩;rw[hpl] at hu;have hnew:∀k,Own μ2 g k→w.heap.size≤k:=λk hk=>(S.own k hk).elim (λq=>(Own.nil q).elim) id
  have him:∀k,μ2.imm k→μ.imm k∨w.heap.size≤k:=λk hk=>(S.fresh k hk).elim .inl λq=>q.elim (λq=>(Own.nil q).elim) .inr
  obtain ⟨ξ,hξ⟩:∃ξ:Mu,ξ={ loc:=μ.loc,base:=w',imm:=λk=>μ2.imm k∨Own μ2 g k }:=⟨_,rfl⟩
  have hle:ImmLe μ ξ:=λk hk=>by
   subst hξ;refine ⟨.inl (S.evo.imm k hk).1, ?_⟩
   exact ((S.rel.imm k (S.evo.imm k hk).1).2.1).trans (S.evo.imm k hk).2
  obtain ⟨r1,r2,r3⟩:=Rel.over (g:=g) R S.frame (ξ:=ξ) (by rw[hξ]) hle (λk hk=>by
   subst hξ;rcases hk with hk | hk
   ·exact ⟨(S.rel.imm k hk).1,rfl,λhO=>by
     have:=R.own_lt hO
     rcases him k hk with q | q
     ·exact (R.imm k q).2.2 hO
     ·omega⟩
   ·exact ⟨S.rel.own_lt hk,rfl,λhO=>by have:=R.own_lt hO;have:=hnew k hk;omega⟩)
  have hfin:=Z7s (ν:=ξ) S.rel (λk hk=>by subst hξ;rfl) (λk hk=>by subst hξ;exact .inr hk) (λ_ k hk=>by subst hξ;exact .inl hk) hv hu
  refine ⟨cv,ξ,rfl,⟨r1,r2,r3,λb hb => .inl ?_,λk hk => ?_⟩,ZaE (VR.lift h hfin)⟩
  ·subst hξ;exact hb
  ·subst hξ
   rcases hk with hk | hk
   ·exact (him k hk).elim .inl λq => .inr (.inr q)
   ·exact .inr (.inr (hnew k hk))
 | false=>
  obtain ⟨μ1,hμ1⟩:∃μ1:Mu,μ1={ loc:=μ.loc,base:=w,imm:=λk=>μ.imm k∨Own μ h k }:=⟨_,rfl⟩
  have R1:Rel μ1 [] w:=Rel.nil λk hk=>by
   subst hμ1;rcases hk with hk | hk
   ·exact ⟨(R.imm k hk).1,rfl⟩
   ·exact ⟨R.own_lt hk,rfl⟩
  have hargs1:VRs μ1 [] asl cargs.toList:=Z5M R (λk hk=>by subst hμ1;rfl) (λk hk=>by subst hμ1;exact .inr hk) (λ_ k hk=>by subst hμ1;exact .inl hk) hargs hcv
  obtain ⟨hg,hcall⟩:=hc _ _ _ _ hF μ1 w cargs R1 (Z5L shp hargs1);refine ⟨hg,Calls.mono hcall ?_⟩;rintro e w' ⟨u,g,cv,μ2,hu,rfl,S,hv⟩;rw[hpl] at hu;have hnew:∀k,Own μ2 g k→w.heap.size≤k:=λk hk=>(S.own k hk).elim (λq=>(Own.nil q).elim) id
  have hbl:∀k,k<w.heap.size→w'.heap[k]? = w.heap[k]? := λk hk=>S.frame.block k hk Own.nil
  obtain ⟨ξ,hξ⟩:∃ξ:Mu,ξ={ loc:=μ.loc,base:=w',imm:=λk=>μ.imm k∨Own μ2 g k }:=⟨_,rfl⟩
  have hle:ImmLe μ ξ:=λk hk=>by
   subst hξ;exact ⟨.inl hk,(hbl k (R.imm k hk).1).trans (R.imm k hk).2.1⟩
  obtain ⟨r1,r2,r3⟩:=Rel.over (g:=g) R S.frame (ξ:=ξ) (by rw[hξ]) hle (λk hk=>by
   subst hξ;rcases hk with hk | hk
   ·exact ⟨Nat.lt_of_lt_of_le (R.imm k hk).1 S.frame.size,rfl,(R.imm k hk).2.2⟩
   ·exact ⟨S.rel.own_lt hk,rfl,λhO=>by have:=R.own_lt hO;have:=hnew k hk;omega⟩)
  have hfin:=Z7s (ν:=ξ) S.rel (λk hk=>by subst hξ;rfl) (λk hk=>by subst hξ;exact .inr hk) (λhst=>by simp at hst) hv hu
  refine ⟨cv,ξ,rfl,⟨r1,r2,r3,λb hb => .inl ?_,λk hk => ?_⟩,ZaE (VR.lift h hfin)⟩
  ·subst hξ;exact hb
  ·subst hξ
   rcases hk with hk | hk
   ·exact .inl hk
   ·exact .inr (.inr (hnew k hk))

theorem ZsU{shp shr:List Sh}{RK:{β:Type}→(Kb β)→List AV→Qb β}{args:List AV}{v:AV}(ha:plains args=true)(hv:RK (λv g=>cvt false g v) (nrms shp args) []=some v)(h:Hp):closedXK shp shr RK args h=some (nrmR shr v,h):=by
 unfold closedXK;rw[Z38 ha]
 simp only[ha,Bool.not_true];rw[hv]
end Go.AM


namespace Go.AM
open Go.RowKit
variable {P:Program} {μ μ':Mu} {h h':Hp} {w w':World}
structure InsWalk(P:Program)(f:FuncId)(k by_:Nat)(t el:TypeId):Prop where
 goes:Goes P f
 ht:P.underlying t=some (.slice el)
 hs:szOf P el=some k
 hb:bytesOf P el=some by_
 hz:∃z,zeroAV P el=some z∧(cellsOf z).length=k∧(cellsOf z).all okC=true
 big:∀m,m * by_≤140737488355328→m≤maxLen
 shift:∀(b n c i vb m vc:Nat)(cur:Array Value)(T:TypeId)(vs:List Value)(w:World),i<n→0<m→n+m≤c→c≤9223372036854775807→vb≠b→w.heap[b]? = some (.cells cur T (0,0))→c * k≤cur.size→(∀v ∈ cur.toList.take (n * k),v.oneCell'=true)→
  vs.length=m * k→(∀j v,vs[j]? = some v→w.cell? ⟨vb,j,none⟩=some v)→(∀v ∈ vs,v.oneCell'=true)→∀(tA tB:TypeId)(kA kB:Nat),w.shape? vb=some (tA,kA)→w.shape? b=some (tB,kB)→kB≠0→w.frozen? ⟨vb,0,none⟩=false→w.frozen? ⟨vb,kA,none⟩=false→
  Calls P f #[.slice (some ⟨b,0,none⟩) n c,.int .i64 i,.slice (some ⟨vb,0,none⟩) m vc] w λe w'=>
   e = .returned (.slice (some ⟨b,0,none⟩) (n+m) c)∧w'=w.drew.setRow b (cur.toList.take (i * k)++vs++(cur.toList.drop (i * k)).take ((n-i) * k)++cur.toList.drop ((n+m) * k)).toArray
 grow:∀(b n c i vb m vc:Nat)(cur:Array Value)(T:TypeId)(vs:List Value)(w:World),i<n→0<m→n≤c→c<n+m→(n+m) * by_≤140737488355328→w.heap[b]? = some (.cells cur T (0,0))→n * k≤cur.size→(∀v ∈ cur.toList.take (n * k),v.oneCell'=true)→
  vs.length=m * k→(∀j v,vs[j]? = some v→w.cell? ⟨vb,j,none⟩=some v)→(∀v ∈ vs,v.oneCell'=true)→
  Calls P f #[.slice (some ⟨b,0,none⟩) n c,.int .i64 i,.slice (some ⟨vb,0,none⟩) m vc] w λe w'=>
   ∃(G:Nat)(R:Array Value),n+m≤G∧G≤maxLen∧R.size=G * k∧R.toList.take ((n+m) * k)=cur.toList.take (i * k)++vs++(cur.toList.drop (i * k)).take ((n-i) * k)∧e = .returned (.slice (some ⟨w.heap.size,0,none⟩) (n+m) G)∧w'=w.drew.drew.alloc (.cells R el)
 fin:∀(A B:Option Addr)(n c m vc:Nat)(u:Value)(w W':World),0<m→n≤c→(A=none→c=0)→(∀ty,(Builtin.append_ #[t,t] ty #[.slice A n c,.slice B m vc]).run P w = .ok u W')→
  Calls P f #[.slice A n c,.int .i64 n,.slice B m vc] w λe w'=>e = .returned u∧w'=W'
def insF(k by_:Nat):Fun:=λargs h=>
 match args with
 | [s,.s (.int .i64 i),.sl sx idx off m fr full]=>
  match readSl h (.sl sx idx off m fr full),h[idx]? with
  | some news,some (.arr _ _ true _)=>
   if news.length=m∧0<m∧news.all (λe=>e.length==k)=true∧off=0 then
    match s with
    | .s (.slice none 0 0)=>if i=0∧m * by_≤140737488355328 then some (.sl k h.length 0 m m false,h++[.arr k news true false]) else none
    | .sl sz id soff len sfr sfull=>
     match h[id]? with
     | some (.arr sz' es own nil)=>
      if sz=k∧sz'=k∧soff=0∧own=true∧sfull=false∧len=sfr∧es.length=len∧id≠idx∧(len+m) * by_≤140737488355328∧0≤i∧i≤len then
       some (.sl k id 0 (len+m) (len+m) false,h.set id (.arr k (es.take i.toNat++news++es.drop i.toNat) true false))
      else none
     | _=>none
    | _=>none
   else none
  | _,_=>none
 | _=>none
theorem ZsV{sx idx off m fr:Nat}{full:Bool}{news:List (List AV)}{l:List AObj}(hk:readSl h (.sl sx idx off m fr full)=some news):readSl (h++l) (.sl sx idx off m fr full)=some news:=by
 unfold readSl at hk ⊢
 dsimp only at hk ⊢
 split at hk<;>try (simp at hk;done)
 rename_i ho;rw[List.getElem?_append_left (List.getElem?_eq_some_iff.1 ho).1,ho]
 exact hk
theorem ZsW{k:Nat}{es:List (List AV)}(hS:Sized k es)(i:Nat)(hi:i≤es.length):(es.take i).flatten=es.flatten.take (i * k)∧(es.drop i).flatten=es.flatten.drop (i * k):=by
 have q1:Sized k (es.take i):=λe he=>hS e (List.mem_of_mem_take he)
 have q2:=Z19 q1;have q3:(es.take i).length=i:=by simp;omega
 rw[q3] at q2;have q4:es.flatten=(es.take i).flatten++(es.drop i).flatten:=by rw[← List.flatten_append,List.take_append_drop]
 constructor
 ·rw[q4, ← q2,List.take_left]
 ·rw[q4, ← q2,List.drop_left]
theorem Zkv{f:FuncId}{n0 by_:Nat}{t el:TypeId}(W:InsWalk P f (n0+1) by_ t el):CSound P f (insF (n0+1) by_):=by
 intro args h v h' hk μ w cargs R hargs
 refine ⟨W.goes, ?_⟩;unfold insF at hk;split at hk<;>try (simp at hk;done)
 rename_i s i sx idx off m fr full;split at hk<;>try (simp at hk;done)
 rename_i news szx esx nilx hread hox;split at hk<;>try (simp at hk;done)
 rename_i hcond;obtain ⟨hnl,hm0,hall,rfl⟩:=hcond
 simp only[VRs] at hargs;obtain ⟨v1,vs1,hq1,hv1,v2,vs2,rfl,hv2,v3,vs3,rfl,hv3,rfl⟩:=hargs
 have hcargs:cargs = #[v1,v2,v3]:=by apply Array.ext';simpa using hq1
 subst hcargs;have e2:v2 = .int .i64 i:=by simp only[VR] at hv2;exact hv2.2
 subst e2;have hRd:=Z7i (P:=P) R hv3 hread hall
 have hS:=hRd.sized;obtain ⟨A3,c3,rfl,hcell⟩:=hRd.val;have hne:news≠[]:=by intro e;rw[e] at hnl;simp at hnl;omega
 obtain ⟨ad,vs,rfl,hvs,hvl,hone,hat⟩:=hcell hne;rw[hnl] at hvl;have hv3':=hv3;simp only[VR] at hv3';obtain ⟨A',c',hsl',hlc',-,-,es',own',nil',ho',-,hq'⟩:=hv3';rw[hox] at ho';injection ho' with ho';injection ho' with e1 e2 e3 e4;subst e1 e2 e3 e4;injection hsl' with e5 e6 e7;subst e5 e7
 -- where the new elements lie
 have hx:∃(vb cap:Nat)(cur:Array Value)(T:TypeId),μ idx = .real vb 0 cap∧ad=⟨vb,0,none⟩∧w.heap[vb]? = some (.cells cur T (0,0)):=by
  have hread':=hread;unfold readSl at hread';simp only[hox] at hread';split at hread'<;>try (simp at hread';done)
  rename_i hc;have hsl:=hq' hc.1.symm
  unfold SlOk at hsl;split at hsl
  ·rename_i blk o cap hmu
   obtain ⟨a,ha,hcap,hne'⟩:=hsl;obtain ⟨cur,T,hbk,hcur,rfl,-⟩:=ORel.own_flat (R.obj _ _ hox) hmu;have:=hne' (by omega)
   injection ha with ha;subst ha
   exact ⟨blk,cap,cur,T,hmu,by simpa using this,hbk⟩
  ·obtain ⟨-,hc0,-⟩:=hsl
   omega
 obtain ⟨vb,capx,curx,Tx,hmux,rfl,hbx⟩:=hx
 have hat':∀j u,vs[j]? = some u→w.cell? ⟨vb,j,none⟩=some u:=λj u hu=>by
  have:=hat j u hu
  rwa [Addr.add_lit,Nat.zero_add] at this
 obtain ⟨z,hz1,hz2,hz3⟩:=W.hz;split at hk
 ·-- into nil
  split at hk<;>try (simp at hk;done)
  rename_i hcc;obtain ⟨rfl,hbig⟩:=hcc
  simp only[Option.some.injEq,Prod.mk.injEq] at hk;obtain ⟨rfl,rfl⟩:=hk
  have e1:v1 = .slice none 0 0:=by simp only[VR] at hv1;exact hv1.2
  subst e1;have S0:=Step.pad R 1
  have hap:appE (n0+1) by_ nilS (.sl szx idx 0 m fr full) (h++List.replicate 1 .dead) h.length=some (.sl (n0+1) h.length 0 m m false,⟨[],[.arr (n0+1) news true false],idsOf (.sl szx idx 0 m fr full)⟩):=by
   unfold appE;rw[ZsV hread]
   simp only[hnl];rw[if_neg (by omega),if_pos ⟨hbig,hall⟩]
  obtain ⟨w2,u,μ2,hrun,S2,hu⟩:=Z7j (ty:=t) S0.rel W.ht W.hs W.hb hz1 hz2 hz3 W.big (VR.evo S0.evo _ _ hv1) (VR.evo S0.evo _ _ hv3) hap (λ_=>by simp)
  have hrun':∀ty,(Builtin.append_ #[t,t] ty #[.slice none 0 0,.slice (some ⟨vb,0,none⟩) news.length c3]).run P w = .ok u w2:=λty=>by
   obtain ⟨w2',u',μ2',hr',-⟩:=Z7j (ty:=ty) S0.rel W.ht W.hs W.hb hz1 hz2 hz3 W.big (VR.evo S0.evo _ _ hv1) (VR.evo S0.evo _ _ hv3) hap (λ_=>by simp)
   have:(Builtin.append_ #[t,t] ty #[.slice none 0 0,.slice (some ⟨vb,0,none⟩) news.length c3]).run P w=(Builtin.append_ #[t,t] t #[.slice none 0 0,.slice (some ⟨vb,0,none⟩) news.length c3]).run P w:=rfl
   rw[this];exact hrun
  have key:=W.fin none (some ⟨vb,0,none⟩) 0 0 news.length c3 u w w2 (by omega) (Nat.le_refl _) (λ_=>rfl) hrun'
  refine key.mono ?_;rintro e w' ⟨rfl,rfl⟩;have ea:=ZeT (h:=h) (e:=⟨[],[.arr (n0+1) news true false],idsOf (.sl szx idx 0 m fr full)⟩) (by simp) 0
  simp only[List.length_singleton,Nat.add_zero,List.replicate_zero,List.append_nil] at ea;rw[ea] at S2 hu;have e9:ap h ⟨[],[.arr (n0+1) news true false],idsOf (.sl szx idx 0 m fr full)⟩=h++[.arr (n0+1) news true false]:=rfl
  rw[e9] at S2 hu;exact ⟨u,μ2,rfl,S0.trans S2,hu⟩
 ·rename_i sz id soff len sfr sfull
  split at hk<;>try (simp at hk;done)
  rename_i sz' es own nil ho
  split at hk<;>try (simp at hk;done)
  rename_i hcc;obtain ⟨rfl,rfl,rfl,rfl,rfl,rfl,hel,hid,hbig,hi0,hin⟩:=hcc
  simp only[Option.some.injEq,Prod.mk.injEq] at hk;obtain ⟨rfl,rfl⟩:=hk
  obtain ⟨j,rfl⟩:∃j:Nat,i=(j:Int):=⟨i.toNat,by omega⟩
  have hjn:j≤len:=by omega
  rw[Int.toNat_natCast];have hlt:id<h.length:=(List.getElem?_eq_some_iff.1 ho).1
  have hv1':=hv1;simp only[VR] at hv1';obtain ⟨A0,c0,rfl,hlc,hA0,hfull,es2,own2,nil2,ho2,-,hq⟩:=hv1';rw[ho] at ho2;injection ho2 with ho2;injection ho2 with e1 e2 e3 e4;subst e2 e3 e4;have hsl:=hq hel.symm;have hO:=R.obj _ _ ho;have hSe:=hO.1;have hlen':(es.take j++news++es.drop j).length=len+m:=by simp;omega
  rcases Nat.lt_or_ge j len with hj | hj
  ·-- ahead of an element
   unfold SlOk at hsl;split at hsl
   ·rename_i blk o cap hmu
    obtain ⟨a',rfl,hcap,hne'⟩:=hsl;obtain ⟨cur,T,hbk,hcur,rfl,hlec,hcapm,h1,hr⟩:=ORel.own_flat hO hmu;have ha':=hne' (by omega)
    rw[Nat.zero_mul,Nat.add_zero] at ha';subst ha'
    rw[Nat.zero_add] at hcap;have hvb:vb≠blk:=λe=>hid (R.sep id idx _ _ blk 0 cap 0 capx ho hox rfl rfl hmu (by rw[hmux,e]))
    have hcm:c0 * (n0+1)≤cur.size:=by rw[hcur];exact Nat.mul_le_mul_right _ hcap
    have hnm:len * (n0+1)≤cur.size:=Nat.le_trans (Nat.mul_le_mul_right _ hlc) hcm;rw[hel] at h1 hr
    -- the cells of the elements
    have hflat:VRs μ h (es.take j++news++es.drop j).flatten (cur.toList.take (j * (n0+1))++vs++(cur.toList.drop (j * (n0+1))).take ((len-j) * (n0+1))):=by
     obtain ⟨f1,f2⟩:=ZsW hSe j (by omega)
     rw[List.flatten_append,List.flatten_append,f1,f2];have m1:j * (n0+1)≤len * (n0+1):=Nat.mul_le_mul_right _ hjn
     have t1:=VRs.take (j * (n0+1)) hr;have t2:=VRs.drop (j * (n0+1)) hr;rw[List.take_take,Nat.min_eq_left m1] at t1;rw[List.drop_take, ← Nat.sub_mul] at t2;exact VRs.append (VRs.append t1 hvs) t2
    have hone':∀v ∈ cur.toList.take (j * (n0+1))++vs++(cur.toList.drop (j * (n0+1))).take ((len-j) * (n0+1)),v.oneCell'=true:=λv hv=>by
     have m1:j * (n0+1)≤len * (n0+1):=Nat.mul_le_mul_right _ hjn;rcases List.mem_append.1 hv with hv | hv
     ·rcases List.mem_append.1 hv with hv | hv
      ·refine h1 v ?_
       rw[← Nat.min_eq_left m1, ← List.take_take] at hv;exact List.mem_of_mem_take hv
      ·exact hone v hv
     ·refine h1 v ?_
      rw[Nat.sub_mul, ← List.drop_take] at hv;exact List.mem_of_mem_drop hv
    have hSall:Sized (n0+1) (es.take j++news++es.drop j):=Sized.append (Sized.append (λe he=>hSe e (List.mem_of_mem_take he)) hS) (λe he=>hSe e (List.mem_of_mem_drop he))
    have hml:len+m≤maxLen:=W.big _ hbig;by_cases hroom:len+m≤c0
    ·have hmm:(len+m) * (n0+1)≤cur.size:=Nat.le_trans (Nat.mul_le_mul_right _ hroom) hcm
     have key:=W.shift blk len c0 j vb m c3 cur T vs w hj hm0 hroom (by unfold maxLen at hcapm;omega) hvb hbk hcm h1 hvl hat' hone Tx T curx.size cur.size (by simp[World.shape?,hbx]) (by simp[World.shape?,hbk]) (by
      have:0<len * (n0+1):=Nat.mul_pos (by omega) (by omega)
      omega) (by simp[World.frozen?,hbx]) (by simp[World.frozen?,hbx])
     rw[← hnl] at key;refine key.mono ?_
     rintro e w' ⟨rfl,rfl⟩
     obtain ⟨row,hrow⟩:∃row:Array Value,row=(cur.toList.take (j * (n0+1))++vs++(cur.toList.drop (j * (n0+1))).take ((len-j) * (n0+1))++cur.toList.drop ((len+m) * (n0+1))).toArray:=⟨_,rfl⟩;rw[hnl, ← hrow]
     have hl3:(cur.toList.take (j * (n0+1))++vs++(cur.toList.drop (j * (n0+1))).take ((len-j) * (n0+1))).length=(len+m) * (n0+1):=by
      rw[← hflat.length,Z19 hSall,hlen']
     have htk:row.toList.take ((es.take j++news++es.drop j).length * (n0+1))=cur.toList.take (j * (n0+1))++vs++(cur.toList.drop (j * (n0+1))).take ((len-j) * (n0+1)):=by
      rw[hlen',hrow, ← hl3];exact List.take_left
     have hrs:row.size=cur.size:=by
      rw[hrow,List.size_toArray,List.length_append,hl3,List.length_drop,Array.length_toList]
      omega
     have S1:=Step.drew R;have hbk1:w.drew.heap[blk]? = some (.cells cur T (0,0)):=hbk;have hset:(w.drew.setRow blk row).heap[blk]? = some (.cells row T (0,0)):=setRow_heap w.drew blk cur row T (0,0) hbk1;refine ⟨_,μ.set id (μ id),rfl,S1.trans (Step.upd S1.rel (loc:=μ id) ho ⟨_,false,rfl,by rw[hlen'];omega,λ_=>rfl⟩ ?_ ?_ rfl ?_), ?_⟩
     ·exact ⟨rfl,rfl,rfl,(by unfold DrLe;first | exact Nat.le_refl _ | trivial),by simp,λk _ hk=>setRow_other w.drew blk k _ (λe=>hk ⟨rfl,0,cap,by rw[e];exact hmu⟩)⟩
     ·intro b x c e
      exact .inr ⟨rfl,x,c,e⟩
     ·intro hE
      refine ORel.own_arr (cur:=row) (T:=T) (cap:=cap) (blk:=blk) (by simp[hmu]) hSall (by rw[hlen'];omega) hcapm hset (by rw[hrs];exact hcur) ?_ ?_
      ·rw[htk];exact hone'
      ·rw[htk];exact VRs.evo hE _ _ hflat
     ·simp only[VR]
      refine ⟨_,_,rfl,by omega,λ_=>rfl,.room (by omega),_,true,false,by simp[hlt];rfl,by rw[← List.append_assoc,hlen'];exact Nat.le_refl _,λ_ => ?_⟩
      simp only[Mu.set_loc,if_true,hmu,SlOk];exact ⟨_,rfl,by omega,λ_=>by simp⟩
    ·have key:=W.grow blk len c0 j vb m c3 cur T vs w hj hm0 hlc (by omega) hbig hbk hnm h1 hvl hat' hone
     rw[← hnl] at key;refine key.mono ?_
     rintro e w' ⟨G,row,hG1,hG2,hG3,hG4,rfl,rfl⟩
     rw[hnl] at hG1 hG4 ⊢
     have htk:row.toList.take ((es.take j++news++es.drop j).length * (n0+1))=cur.toList.take (j * (n0+1))++vs++(cur.toList.drop (j * (n0+1))).take ((len-j) * (n0+1)):=by
      rw[hlen'];exact hG4
     have S1:=(Step.drew R).trans (Step.drew (Step.drew R).rel);refine ⟨_,μ.set id (.real w.heap.size 0 G),rfl,S1.trans (Step.upd S1.rel (loc := .real w.heap.size 0 G) ho ⟨_,false,rfl,by rw[hlen'];omega,λh=>by rw[hlen'] at h;omega⟩ (Frame.alloc _ _ _) ?_ rfl ?_), ?_⟩
     ·intro b x c e;injection e with e1 e2 e3;subst e1;exact .inl (Nat.le_refl _)
     ·intro hE
      refine ORel.own_arr (cur:=row) (T:=el) (cap:=G) (blk:=w.heap.size) (by simp) hSall (by rw[hlen'];exact hG1) hG2 (heap_alloc_new w.drew.drew _) hG3 ?_ ?_
      ·rw[htk];exact hone'
      ·rw[htk];exact VRs.evo hE _ _ hflat
     ·simp only[VR]
      refine ⟨_,_,rfl,hG1,λ_=>rfl,.room (by omega),_,true,false,by simp[hlt];rfl,by rw[← List.append_assoc,hlen'];exact Nat.le_refl _,λ_ => ?_⟩
      simp only[Mu.set_loc,if_true,SlOk];exact ⟨_,rfl,by omega,λ_=>by simp⟩
   ·obtain ⟨-,hc0,-⟩:=hsl
    omega
  ·-- behind all
   have hjl:j=len:=by omega
   subst hjl
   have hap:appE (n0+1) by_ (.sl (n0+1) id 0 j j false) (.sl szx idx 0 m fr full) h h.length=some (.sl (n0+1) id 0 (j+m) (j+m) false,⟨[(id,.arr (n0+1) (es++news) true false)],[],id::idsOf (.sl szx idx 0 m fr full)⟩):=by
    unfold appE;rw[hread]
    simp only[ho,hnl];rw[if_pos (by simpa using ⟨hel,hbig,by simpa using hall⟩),if_neg (by simp),if_pos (by simp)]
    have:(m==0)=false:=by simp;omega
    rw[this,Bool.and_false]
   obtain ⟨w2,u,μ2,hrun,S2,hu⟩:=Z7j (ty:=t) R W.ht W.hs W.hb hz1 hz2 hz3 W.big hv1 hv3 hap (λh=>absurd rfl h)
   have hrun':∀ty,(Builtin.append_ #[t,t] ty #[.slice A0 j c0,.slice (some ⟨vb,0,none⟩) news.length c3]).run P w = .ok u w2:=λty=>by
    have:(Builtin.append_ #[t,t] ty #[.slice A0 j c0,.slice (some ⟨vb,0,none⟩) news.length c3]).run P w=(Builtin.append_ #[t,t] t #[.slice A0 j c0,.slice (some ⟨vb,0,none⟩) news.length c3]).run P w:=rfl
    rw[this];exact hrun
   have key:=W.fin A0 (some ⟨vb,0,none⟩) j c0 news.length c3 u w w2 (by omega) hlc (λe=>by
    rcases Nat.eq_zero_or_pos c0 with h0 | h0
    ·exact h0
    ·have:=hA0 h0;rw[e] at this;cases this) hrun'
   refine key.mono ?_;rintro e w' ⟨rfl,rfl⟩
   have ea:apAt h h.length ⟨[(id,.arr (n0+1) (es++news) true false)],[],id::idsOf (.sl szx idx 0 m fr full)⟩=h.set id (.arr (n0+1) (es.take j++news++es.drop j) true false):=by
    rw[List.take_of_length_le (by omega),List.drop_of_length_le (by omega),List.append_nil]
    rfl
   rw[ea] at S2 hu;exact ⟨u,μ2,rfl,S2,hu⟩
 ·simp at hk
end Go.AM


namespace Go.AM
open Go.RowKit
variable {P:Program} {μ μ':Mu} {h h':Hp} {w w':World}
def insE(k by_:Nat):DFun:=λargs h base=>
 match args with
 | [s,.s (.int .i64 i),.sl sx idx off m fr full]=>
  match readSl h (.sl sx idx off m fr full),h[idx]? with
  | some news,some (.arr _ _ true _)=>
   if news.length=m∧0<m∧news.all (λe=>e.length==k)=true∧off=0 then
    match s with
    | .s (.slice none 0 0)=>if i=0∧m * by_≤140737488355328 then some (.sl k base 0 m m false,⟨[],[.arr k news true false],[idx]⟩) else none
    | .sl sz id soff len sfr sfull=>
     match h[id]? with
     | some (.arr sz' es own nil)=>
      if sz=k∧sz'=k∧soff=0∧own=true∧sfull=false∧len=sfr∧es.length=len∧id≠idx∧(len+m) * by_≤140737488355328∧0≤i∧i≤len then
       some (.sl k id 0 (len+m) (len+m) false,⟨[(id,.arr k (es.take i.toNat++news++es.drop i.toNat) true false)],[],[id,idx]⟩)
      else none
     | _=>none
    | _=>none
   else none
  | _,_=>none
 | _=>none
theorem Zkw{H:Hp}{sx idx off m fr:Nat}{full:Bool}(hs:∀x,h[idx]? = some x→H[idx]? = some x){news:List (List AV)}(hk:readSl h (.sl sx idx off m fr full)=some news):readSl H (.sl sx idx off m fr full)=some news:=by
 unfold readSl at hk ⊢
 dsimp only at hk ⊢
 split at hk<;>try (simp at hk;done)
 rename_i ho;rw[hs _ ho]
 exact hk
theorem ZsX(k by_:Nat):DLoc (insE k by_):=by
 refine ⟨λargs h base v e hk H hag => ?_,λargs h base v e hk p hp => ?_⟩
 ·unfold insE at hk
  split at hk<;>try (simp at hk;done)
  rename_i s i sx idx off m fr full;split at hk<;>try (simp at hk;done)
  rename_i news szx esx nilx hread hox;split at hk<;>try (simp at hk;done)
  rename_i hcond;split at hk
  ·split at hk<;>try (simp at hk;done)
   rename_i hcc;simp only[Option.some.injEq,Prod.mk.injEq] at hk
   obtain ⟨rfl,rfl⟩:=hk;have hg:∀x,h[idx]? = some x→H[idx]? = some x:=hag idx (by simp)
   unfold insE;simp only[Zkw hg hread,hg _ hox]
   rw[if_pos hcond,if_pos hcc]
  ·rename_i sz id soff len sfr sfull
   split at hk<;>try (simp at hk;done)
   rename_i sz' es own nil ho
   split at hk<;>try (simp at hk;done)
   rename_i hcc;simp only[Option.some.injEq,Prod.mk.injEq] at hk
   obtain ⟨rfl,rfl⟩:=hk;have hg:∀x,h[idx]? = some x→H[idx]? = some x:=hag idx (by simp)
   have hg2:∀x,h[id]? = some x→H[id]? = some x:=hag id (by simp)
   unfold insE;simp only[Zkw hg hread,hg _ hox]
   rw[if_pos hcond];simp only[hg2 _ ho];rw[if_pos hcc]
  ·simp at hk
 ·unfold insE at hk
  split at hk<;>try (simp at hk;done)
  rename_i s i sx idx off m fr full;split at hk<;>try (simp at hk;done)
  rename_i news szx esx nilx hread hox;split at hk<;>try (simp at hk;done)
  rename_i hcond;split at hk
  ·split at hk<;>try (simp at hk;done)
   simp only[Option.some.injEq,Prod.mk.injEq] at hk;obtain ⟨rfl,rfl⟩:=hk
   simp at hp
  ·rename_i sz id soff len sfr sfull
   split at hk<;>try (simp at hk;done)
   rename_i sz' es own nil ho
   split at hk<;>try (simp at hk;done)
   rename_i hcc;simp only[Option.some.injEq,Prod.mk.injEq] at hk
   obtain ⟨rfl,rfl⟩:=hk;simp only[List.mem_singleton] at hp;subst hp;exact ⟨_,ho,by simp⟩
  ·simp at hk
theorem ZsY{f:FuncId}{n0 by_:Nat}{t el:TypeId}(W:InsWalk P f (n0+1) by_ t el):DCalls P f (insE (n0+1) by_):=by
 intro args h base v e hk hd μ w cargs R hargs;unfold insE at hk
 split at hk<;>try (simp at hk;done)
 rename_i s i sx idx off m fr full;split at hk<;>try (simp at hk;done)
 rename_i news szx esx nilx hread hox;split at hk<;>try (simp at hk;done)
 rename_i hcond;split at hk
 ·split at hk<;>try (simp at hk;done)
  rename_i hcc;simp only[Option.some.injEq,Prod.mk.injEq] at hk
  obtain ⟨rfl,rfl⟩:=hk;refine ⟨W.goes, ?_⟩;obtain ⟨hnl,hm0,hall,rfl⟩:=hcond;obtain ⟨rfl,hbig⟩:=hcc;simp only[VRs] at hargs;obtain ⟨v1,vs1,hq1,hv1,v2,vs2,rfl,hv2,v3,vs3,rfl,hv3,rfl⟩:=hargs;have hcargs:cargs = #[v1,v2,v3]:=by apply Array.ext';simpa using hq1
  subst hcargs;have e2:v2 = .int .i64 0:=by simp only[VR] at hv2;exact hv2.2
  subst e2;have e1:v1 = .slice none 0 0:=by simp only[VR] at hv1;exact hv1.2
  subst e1;have hRd:=Z7i (P:=P) R hv3 hread hall
  obtain ⟨A3,c3,rfl,hcell⟩:=hRd.val;obtain ⟨z,hz1,hz2,hz3⟩:=W.hz;have hdead:h[base]? = some .dead:=by have:=hd 0 (by simp);simpa using this
  have hap:appE (n0+1) by_ nilS (.sl sx idx 0 m fr full) h base=some (.sl (n0+1) base 0 m m false,⟨[],[.arr (n0+1) news true false],idsOf (.sl sx idx 0 m fr full)⟩):=by
   unfold appE;rw[hread]
   simp only[hnl];rw[if_neg (by omega),if_pos ⟨hbig,hall⟩]
  obtain ⟨w2,u,μ2,hrun,S2,hu⟩:=Z7j (ty:=t) R W.ht W.hs W.hb hz1 hz2 hz3 W.big hv1 hv3 hap (λ_=>hdead)
  have hrun':∀ty,(Builtin.append_ #[t,t] ty #[.slice none 0 0,.slice A3 news.length c3]).run P w = .ok u w2:=λty=>by
   have:(Builtin.append_ #[t,t] ty #[.slice none 0 0,.slice A3 news.length c3]).run P w=(Builtin.append_ #[t,t] t #[.slice none 0 0,.slice A3 news.length c3]).run P w:=rfl
   rw[this];exact hrun
  have key:=W.fin none A3 0 0 news.length c3 u w w2 (by omega) (Nat.le_refl _) (λ_=>rfl) hrun'
  refine key.mono ?_;rintro e w' ⟨rfl,rfl⟩;exact ⟨u,μ2,rfl,S2,hu⟩
 ·rename_i sz id soff len sfr sfull
  split at hk<;>try (simp at hk;done)
  rename_i sz' es own nil ho
  split at hk<;>try (simp at hk;done)
  rename_i hcc;simp only[Option.some.injEq,Prod.mk.injEq] at hk
  obtain ⟨rfl,rfl⟩:=hk
  have hF:insF (n0+1) by_ [.sl sz id soff len sfr sfull,.s (.int .i64 i),.sl sx idx off m fr full] h=some (.sl (n0+1) id 0 (len+m) (len+m) false,h.set id (.arr (n0+1) (es.take i.toNat++news++es.drop i.toNat) true false)):=by
   unfold insF;simp only[hread,hox]
   rw[if_pos hcond];simp only[ho];rw[if_pos hcc]
  exact Zkv W _ _ _ _ hF μ w cargs R hargs
 ·simp at hk
theorem DSound.ins{D:DTab}(DS:DSound P D){f:Nat}{n0 by_:Nat}{t el:TypeId}(W:InsWalk P f (n0+1) by_ t el):DSound P (updD D f (insE (n0+1) by_)):=DS.upd (ZsX _ _) (ZsY W)
theorem ZsZ{α:Type}{f:α→List AV}{k by_ id idx:Nat}{full nil:Bool}{W:List α}{x:α}{h:Hp}{nilx:Bool}{i:Nat}(hid:h[id]? = some (.arr k (W.map f) true nil))(hx:h[idx]? = some (.arr k [f x] true nilx))(hne:id≠idx)(hf:∀x,(f x).length=k)(hi:i≤W.length)(hb:(W.length+1) * by_≤140737488355328)(base:Nat):
  insE k by_ [.sl k id 0 W.length W.length false,.s (.int .i64 (i:Int)),.sl k idx 0 1 1 full] h base=some (.sl k id 0 (W.length+1) (W.length+1) false,⟨[(id,.arr k ((W.take i++[x]++W.drop i).map f) true false)],[],[id,idx]⟩):=by
 have hr:readSl h (.sl k idx 0 1 1 full)=some [f x]:=by
  unfold readSl;simp[hx]
 unfold insE;simp only[hr,hx]
 rw[if_pos (by simp[hf])]
 simp only[hid,List.length_map];rw[if_pos ⟨trivial,trivial,trivial,trivial,trivial,trivial,trivial,hne,hb,by omega,by omega⟩]
 rw[Int.toNat_natCast,List.map_append,List.map_append,List.map_take,List.map_drop]
 rfl
theorem Zt0{α:Type}{f:α→List AV}{k by_ idx:Nat}{full:Bool}{x:α}{h:Hp}{nilx:Bool}(hx:h[idx]? = some (.arr k [f x] true nilx))(hf:∀x,(f x).length=k)(hb:by_≤140737488355328)(base:Nat):
  insE k by_ [nilS, I 0,.sl k idx 0 1 1 full] h base=some (.sl k base 0 1 1 false,⟨[],[.arr k [f x] true false],[idx]⟩):=by
 have hr:readSl h (.sl k idx 0 1 1 full)=some [f x]:=by
  unfold readSl;simp[hx]
 unfold insE;simp only[hr,hx]
 rw[if_pos (by simp[hf]),if_pos ⟨trivial,by omega⟩]
end Go.AM


namespace Go.AM
open Go.RowKit Go.Lib
section
variable {P:Program}
theorem ZfL(w:World){ops:Array Oper}{rest:List Oper}{o:Oper}{a:Act}{Q:Exit→Act→World→Prop}(hgd:o.guard=none)(d s:Operand)(t t':TypeId)
  (ho:o.op = .call { callee := .builtin .copy,args := #[d,s],argTypes := #[t,t'] }) (v u:Value) (hd:a.eval d=v) (hs:a.eval s=u) {v':Value} {w':World}
  (hr:(Builtin.copy_ #[t,t'] o.type #[v,u]).run P w = .ok v' w') (h:wpList P ops Q rest (a.put o.dst v') w'):wpList P ops Q (o::rest) a w:=
 wpList_plain hgd λ_ hK=>by
  unfold Oper.wp execOp
  simp only[ho,resolve,invoke,builtin,Sem.run_bind,Sem.run_pure,Result.andThen_ok,List.map_toArray,List.map_cons,List.map_nil,hd,hs,hr];exact hK _ _ h
theorem Zkx{ops:Array Oper}{o:Oper}{a:Act}{w:World}{K:Act→World→Prop}{Q:Exit→Act→World→Prop}{E:Prop}
  (hg:o.guard=none) (d x:Operand) (dT sT:TypeId) (hop:o.op=Op.call { callee:=Callee.builtin Builtin.copy,args := #[d,x],argTypes := #[dT,sT] })
  (v u:Value) (hd:a.eval d=v) (hx:a.eval x=u) {v':Value} {w':World} (hr:(Builtin.copy_ #[dT,sT] o.type #[v,u]).run P w = .ok v' w') (hK:K (a.put o.dst v') w'):
  if Region.wanted o (yielded ops a.tmps)=true then Oper.wp P o a w K Q else E:=by
 have hw:Region.wanted o (yielded ops a.tmps)=true:=by simp[Region.wanted,hg]
 rw[if_pos hw];unfold Oper.wp
 simp[execOp,hop,resolve,invoke,builtin,hd,hx,hr,Result.andThen];exact hK
theorem Zcn(w:World)(dT sT ty elem:TypeId)(k g o dLen dCap:Nat)(a:Addr)(sLen sCap:Nat)(cur:Array Value)(t:TypeId)(cs:List Value)
  (hu:P.underlying dT=some (.slice elem)) (hs:(P.info? elem).map (·.size)=some k)
  (hg:w.heap[g]? = some (.cells cur t (0,0))) {n:Nat} (hn:Nat.min sLen dLen=n) (hl:cs.length=n * k)
  (hsrc:∀j v,cs[j]? = some v→w.cell? (a.add j)=some v) (hfit:o+cs.length≤cur.size) (h1:∀v ∈ cs,v.oneCell'=true):
  (Builtin.copy_ #[dT,sT] ty #[.slice (some ⟨g,o,none⟩) dLen dCap,.slice (some a) sLen sCap]).run P w =
   .ok (goInt n) (w.setRow g (cur.toList.take o++cs++cur.toList.drop (o+cs.length)).toArray):=by
 have hl':=run_loadCells_list (P:=P) w a cs hsrc;rw[hl] at hl';have hst:=run_storeCells_at P g o t cs 0 cur w hg (by simpa using hfit) h1
 cases hq:P.info? elem with
 | none=>simp[hq] at hs
 | some i=>
  have hi:i.size=k:=by simpa [hq] using hs
  simp[Builtin.copy_,run_underlying hu,Builtin.lenOf,Builtin.firstCells,sizeOf,typeInfo,hq,hi,hn,hl',hst]
end
theorem Zt1{k i n m:Nat}{l cs vs:List Value}(hcl:cs.length=(n-i) * k)(hl:(n+m) * k≤l.length)(hin:i≤n):
  (l.take ((i+m) * k)++cs++l.drop ((i+m) * k+(n-i) * k)).take (i * k)++vs++(l.take ((i+m) * k)++cs++l.drop ((i+m) * k+(n-i) * k)).drop (i * k+m * k)=l.take (i * k)++vs++cs++l.drop ((n+m) * k):=by
 have e1:(i+m) * k=i * k+m * k:=Nat.add_mul ..;have e2:(n+m) * k=(i+m) * k+(n-i) * k:=by rw[← Nat.add_mul];congr 1;omega
 have e3:(l.take ((i+m) * k)).length=(i+m) * k:=by rw[List.length_take];omega
 have h1:(l.take ((i+m) * k)++cs++l.drop ((i+m) * k+(n-i) * k)).take (i * k)=l.take (i * k):=by
  rw[List.append_assoc,List.take_append_of_le_length (by omega),List.take_take,Nat.min_eq_left (by omega)]
 have h2:(l.take ((i+m) * k)++cs++l.drop ((i+m) * k+(n-i) * k)).drop (i * k+m * k)=cs++l.drop ((i+m) * k+(n-i) * k):=by
  rw[← e1,List.append_assoc,List.drop_append_of_le_length (by omega),List.drop_of_length_le (by omega),List.nil_append]
 rw[h1,h2,e2,List.append_assoc,List.append_assoc,List.append_assoc]
theorem Zt2(w:World)(r r1 r2:Array Value)(T:TypeId):((w.alloc (.cells r T)).setRow w.heap.size r1).drew.setRow w.heap.size r2=w.drew.alloc (.cells r2 T):=by
 have h:∀(w:World)(r r1:Array Value),(w.alloc (.cells r T)).setRow w.heap.size r1=w.alloc (.cells r1 T):=λw r r1=>by
  unfold World.setRow World.alloc
  congr 1
  apply Array.ext
  ·simp
  ·intro k h1 h2
   simp only[Array.getElem_modify,Array.getElem_push]
   split
   ·rename_i hk
    subst hk
    simp
   ·rename_i hk
    have hk2:k<w.heap.size:=by simp only[Array.size_push] at h2;omega
    rw[dif_pos hk2,dif_pos hk2]
 rw[h];exact h w.drew r1 r2
theorem Zt3{k i n m:Nat}{l cs vs r z:List Value}(hr:r=l.take (i * k)++z)(hcl:cs.length=(n-i) * k)(hvl:vs.length=m * k)(hl:n * k≤l.length)(hz:(n+m-i) * k≤z.length)(hin:i≤n):
  ((r.take (i * k)++vs++r.drop (i * k+m * k)).take ((i+m) * k)++cs++(r.take (i * k)++vs++r.drop (i * k+m * k)).drop ((i+m) * k+(n-i) * k)).take ((n+m) * k)=l.take (i * k)++vs++cs ∧
   ((r.take (i * k)++vs++r.drop (i * k+m * k)).take ((i+m) * k)++cs++(r.take (i * k)++vs++r.drop (i * k+m * k)).drop ((i+m) * k+(n-i) * k)).length=r.length:=by
 have e1:(i+m) * k=i * k+m * k:=Nat.add_mul ..;have e2:(n+m) * k=(i+m) * k+(n-i) * k:=by rw[← Nat.add_mul];congr 1;omega
 have e3:(n+m-i) * k=m * k+(n-i) * k:=by rw[← Nat.add_mul];congr 1;omega
 have e4:i * k≤n * k:=Nat.mul_le_mul_right _ hin;have l1:(l.take (i * k)).length=i * k:=by rw[List.length_take];omega
 have hrl:r.length=i * k+z.length:=by rw[hr,List.length_append,l1]
 have h1:r.take (i * k)=l.take (i * k):=by
  rw[hr,List.take_append_of_le_length (by omega),List.take_take,Nat.min_self]
 have l2:(l.take (i * k)++vs).length=(i+m) * k:=by rw[List.length_append,l1,hvl,e1]
 rw[h1]
 have h2:(l.take (i * k)++vs++r.drop (i * k+m * k)).take ((i+m) * k)=l.take (i * k)++vs:=by
  rw[List.take_append_of_le_length (by omega),List.take_of_length_le (by omega)]
 rw[h2]
 constructor
 ·rw[List.take_append_of_le_length (by rw[List.length_append,l2,hcl];omega),List.take_of_length_le (by rw[List.length_append,l2,hcl];omega)]
 ·rw[List.length_append,List.length_append,l2,hcl,List.length_drop,List.length_append,l2,List.length_drop]
  omega
end Go.AM
end
