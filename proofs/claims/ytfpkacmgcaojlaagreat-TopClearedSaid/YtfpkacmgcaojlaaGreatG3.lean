import Derived.Test.YtfpkacmgcaojlaaGreatG2
import Derived.Test.YtfpkacmgcaojlaaGreatProg
set_option linter.unusedSectionVars false
set_option linter.unusedVariables false
set_option linter.unusedSimpArgs false
set_option linter.constructorNameAsVariable false
set_option maxRecDepth 100000
noncomputable section
namespace Go.AM
open Go.Proofs
variable(P:Program)(T:Tab)(D:DTab)(N:Nat){β:Type}
theorem Z0i{β:Type}{B:St→(Ex→St→Option β)→Option β}{A A':Ex→St→Option β}{g:Nat→St→Option β}(hA:∀e s,A e s=A' e s)(h0:∀s,g 0 s=none)(hs:∀n s,B s (λe s'=>Ex.on e (g n s') (λi=>A' (.exit i) s') (A' .ret s'))=g (n+1) s):∀n s,iterK B n s A=g n s:=by
 obtain rfl:A=A':=funext λe=>funext λs=>hA e s
 intro n;induction n with
 | zero=>intro s;exact (h0 s).symm
 | succ n ih=>
  intro s;rw[← hs n s]
  show B s (λe s'=>Ex.on e (iterK B n s' A) (λi=>A (.exit i) s') (A .ret s'))=_
  congr 1
  funext e s'
  rw[ih s']
theorem exs1{β:Type}{A:Ex→St→Option β}{i:Nat}{x r:St→Option β}(q:∀s,A (.exit i) s=x s)(qr:∀s,A .ret s=r s):∀e s,A e s=Ex.on e (A .normal s) (λj=>bif j==i then x s else A (.exit j) s) (r s):=by
 intro e s;cases e with
 | normal=>rfl
 | ret=>exact qr s
 | exit k=>
  by_cases e:k=i
  ·subst e;rw[q s];simp[Ex.on]
  ·simp[Ex.on,beq_false_of_ne e]
theorem un_3:Tryz.prog.underlying 3=some (.int .i64):=by kernel_rfl
theorem un_44:Tryz.prog.underlying 44=some (.int .u64):=by kernel_rfl
@[simp] theorem ZDz{β:Type}(n:Int)(k:K β):convK Tryz.prog 3 44 (.s (.int .i64 n)) k=k (.s (.int .u64 (IntKind.u64.wrap n))):=Z28 un_3 un_44 k
theorem Zbb:Tryz.prog.underlying 187=some (.int .u64):=by kernel_rfl
@[simp] theorem ZDA{β:Type}(n:Int)(k:K β):convK Tryz.prog 3 187 (.s (.int .i64 n)) k=k (.s (.int .u64 (IntKind.u64.wrap n))):=Z28 un_3 Zbb k
theorem un_5:Tryz.prog.underlying 5=some (.int .u8):=by kernel_rfl
@[simp] theorem ZDB{β:Type}(n:Int)(k:K β):convK Tryz.prog 5 3 (.s (.int .u8 n)) k=k (.s (.int .i64 (IntKind.i64.wrap n))):=Z28 un_5 un_3 k
@[simp] theorem ZDC{β:Type}(n:Int)(k:K β):convK Tryz.prog 44 3 (.s (.int .u64 n)) k=k (.s (.int .i64 (IntKind.i64.wrap n))):=Z28 un_44 un_3 k
@[simp] theorem ZDD{β:Type}(n:Int)(k:K β):convK Tryz.prog 44 5 (.s (.int .u64 n)) k=k (.s (.int .u8 (IntKind.u8.wrap n))):=Z28 un_44 un_5 k
@[simp] theorem ZDE{β:Type}(n:Int)(k:K β):convK Tryz.prog 187 3 (.s (.int .u64 n)) k=k (.s (.int .i64 (IntKind.i64.wrap n))):=Z28 Zbb un_3 k
theorem Zg5:Tryz.prog.underlying 238=some (.int .u32):=by kernel_rfl
@[simp] theorem ZDF{β:Type}(n:Int)(k:K β):convK Tryz.prog 187 238 (.s (.int .u64 n)) k=k (.s (.int .u32 (IntKind.u32.wrap n))):=Z28 Zbb Zg5 k
@[simp] theorem ZDG{β:Type}(n:Int)(k:K β):convK Tryz.prog 238 5 (.s (.int .u32 n)) k=k (.s (.int .u8 (IntKind.u8.wrap n))):=Z28 Zg5 un_5 k
@[simp] theorem el_22:elemOf Tryz.prog 22=some 31:=by kernel_rfl
@[simp] theorem ZDH{β:Type}(h:Hp)(k:K β):eqK Tryz.prog false 22 nilS nilS h k=k (.s (.bool true)):=by kernel_rfl
@[simp] theorem ZDI{β:Type}(h:Hp)(k:K β):eqK Tryz.prog true 22 nilS nilS h k=k (.s (.bool false)):=by kernel_rfl
@[simp] theorem el_48:elemOf Tryz.prog 48=some 137:=by kernel_rfl
@[simp] theorem ZDJ{β:Type}(h:Hp)(k:K β):eqK Tryz.prog false 48 nilS nilS h k=k (.s (.bool true)):=by kernel_rfl
@[simp] theorem ZDK{β:Type}(h:Hp)(k:K β):eqK Tryz.prog true 48 nilS nilS h k=k (.s (.bool false)):=by kernel_rfl
@[simp] theorem ZDL{β:Type}(neq:Bool)(a0:Int)(a1:Int)(a2:Int)(a3:Int)(b0:Int)(b1:Int)(b2:Int)(b3:Int)(h:Hp)(k:K β):eqK Tryz.prog neq 62 (.agg [.s (.int .i64 a0),.s (.int .i64 a1),.s (.int .i64 a2),.s (.int .i64 a3)]) (.agg [.s (.int .i64 b0),.s (.int .i64 b1),.s (.int .i64 b2),.s (.int .i64 b3)]) h k=k (.s (.bool (xor neq ((a0==b0)&&((a1==b1)&&((a2==b2)&&((a3==b3)&&(true)))))))):=by
 have e1:Tryz.prog.eqGuardType Tryz.prog.depth 62=false:=by kernel_rfl
 have e2:aggT Tryz.prog 62=true:=by kernel_rfl
 have e3:eqFlat Tryz.prog 8 62 [.s (.int .i64 a0),.s (.int .i64 a1),.s (.int .i64 a2),.s (.int .i64 a3)] [.s (.int .i64 b0),.s (.int .i64 b1),.s (.int .i64 b2),.s (.int .i64 b3)]=some ((a0==b0)&&((a1==b1)&&((a2==b2)&&((a3==b3)&&(true))))):=by kernel_rfl
 simp only[eqK,e1,e2,e3]
@[simp] theorem ZDM{β:Type}(neq:Bool)(a0:Int)(a1:Int)(a2:Int)(a3:Int)(a4:Int)(a5:Int)(a6:Int)(b0:Int)(b1:Int)(b2:Int)(b3:Int)(b4:Int)(b5:Int)(b6:Int)(h:Hp)(k:K β):eqK Tryz.prog neq 137 (.agg [.s (.int .i64 a0),.s (.int .i64 a1),.s (.int .i64 a2),.s (.int .i64 a3),.s (.int .i64 a4),.s (.int .i64 a5),.s (.int .i64 a6)]) (.agg [.s (.int .i64 b0),.s (.int .i64 b1),.s (.int .i64 b2),.s (.int .i64 b3),.s (.int .i64 b4),.s (.int .i64 b5),.s (.int .i64 b6)]) h k=k (.s (.bool (xor neq ((a0==b0)&&((a1==b1)&&((a2==b2)&&((a3==b3)&&((a4==b4)&&((a5==b5)&&((a6==b6)&&(true))))))))))):=by
 have e1:Tryz.prog.eqGuardType Tryz.prog.depth 137=false:=by kernel_rfl
 have e2:aggT Tryz.prog 137=true:=by kernel_rfl
 have e3:eqFlat Tryz.prog 8 137 [.s (.int .i64 a0),.s (.int .i64 a1),.s (.int .i64 a2),.s (.int .i64 a3),.s (.int .i64 a4),.s (.int .i64 a5),.s (.int .i64 a6)] [.s (.int .i64 b0),.s (.int .i64 b1),.s (.int .i64 b2),.s (.int .i64 b3),.s (.int .i64 b4),.s (.int .i64 b5),.s (.int .i64 b6)]=some ((a0==b0)&&((a1==b1)&&((a2==b2)&&((a3==b3)&&((a4==b4)&&((a5==b5)&&((a6==b6)&&(true)))))))):=by kernel_rfl
 simp only[eqK,e1,e2,e3]
@[simp] theorem ZDN{β:Type}(neq:Bool)(a0:Int)(a1:Int)(b0:Int)(b1:Int)(h:Hp)(k:K β):eqK Tryz.prog neq 233 (.agg [.s (.int .i64 a0),.s (.int .i64 a1)]) (.agg [.s (.int .i64 b0),.s (.int .i64 b1)]) h k=k (.s (.bool (xor neq ((a0==b0)&&((a1==b1)&&(true)))))):=by
 have e1:Tryz.prog.eqGuardType Tryz.prog.depth 233=false:=by kernel_rfl
 have e2:aggT Tryz.prog 233=true:=by kernel_rfl
 have e3:eqFlat Tryz.prog 8 233 [.s (.int .i64 a0),.s (.int .i64 a1)] [.s (.int .i64 b0),.s (.int .i64 b1)]=some ((a0==b0)&&((a1==b1)&&(true))):=by kernel_rfl
 simp only[eqK,e1,e2,e3]
@[simp] theorem ZDO{β:Type}(neq:Bool)(a0:Int)(a1:Int)(a2:Int)(b0:Int)(b1:Int)(b2:Int)(h:Hp)(k:K β):eqK Tryz.prog neq 283 (.agg [.s (.int .i64 a0),.s (.int .i64 a1),.s (.int .i64 a2)]) (.agg [.s (.int .i64 b0),.s (.int .i64 b1),.s (.int .i64 b2)]) h k=k (.s (.bool (xor neq ((a0==b0)&&((a1==b1)&&((a2==b2)&&(true))))))):=by
 have e1:Tryz.prog.eqGuardType Tryz.prog.depth 283=false:=by kernel_rfl
 have e2:aggT Tryz.prog 283=true:=by kernel_rfl
 have e3:eqFlat Tryz.prog 8 283 [.s (.int .i64 a0),.s (.int .i64 a1),.s (.int .i64 a2)] [.s (.int .i64 b0),.s (.int .i64 b1),.s (.int .i64 b2)]=some ((a0==b0)&&((a1==b1)&&((a2==b2)&&(true)))):=by kernel_rfl
 simp only[eqK,e1,e2,e3]
noncomputable def Zg6(P:Program)(T:Tab)(D:DTab)(N:Nat){β:Type}(K:Kb β)(t:Tm)(h:Hp):Option β:=
callK (T 12) [(t 9),(.fn 13 [(t 4),(t 7)])] h λa b=>
notK a λc=>
K c b
noncomputable def Z4r(P:Program)(T:Tab)(D:DTab)(N:Nat){β:Type}(t:Tm)(h:Hp)(k:Ex→St→Option β):Option β:=
arithK .lss (t 58) (t 57) λc=>
condK c (
iaK 4 (t 56) (t 58) λa7=>
ldK 4 true a7 h λa8=>
effK (boxE 4 (.agg zz4) (List.length h)) h λa w=>
effK (stE 4 a a8 w) w λd0 j=>
effD (callE (D 8) [(t 0)] j (List.length j)) j λa9 d b0=>
faK 2 a λx=>
ldK 1 false x d λb1=>
effD (callE (D 10) [a9,(I 2),b1] d (List.length d)) d λl e b2=>
exK l 0 λm=>
exK l 1 λn=>
exK l 2 λo=>
bif disjAll [(1,3)] [([],[]),b0,([],[]),((idsOf x),[]),b2,([],[]),([],[]),([],[]),([],[]),([],[]),([],[]),([],[])] then (
ldK 1 false (t 7) e λb3=>
effD (callE (D 8) [b3] e (List.length e)) e λb4 f b5=>
faK 2 a λy=>
ldK 1 false y f λb6=>
effD (callE (D 10) [b4,(I 2),b6] f (List.length f)) f λp g b7=>
exK p 0 λq=>
exK p 1 λr=>
exK p 2 λu=>
bif disjAll [(1,3)] [((idsOf (t 7)),[]),b5,([],[]),((idsOf y),[]),b7,([],[]),([],[]),([],[]),([],[]),([],[]),([],[]),([],[])] then (
eqK P true 26 o (I 0) g λb8=>
grpK false b8 g (λb9=>
eqK P true 26 u (I 0) g λc0=>
b9 c0 g) λc1 z=>
grpK false c1 z (λc2=>
callK (T 11) [m,q] z λc3 c4=>
notK c3 λc5=>
c2 c5 c4) λc6 i=>
grpK false c6 i (λc7=>
lenK n λc8=>
lenK r λc9=>
arithK .sub c8 c9 λa0=>
lenK (t 0) λa1=>
ldK 1 false (t 7) i λa2=>
lenK a2 λa3=>
arithK .sub a1 a3 λa4=>
eqK P true 3 a0 a4 i λa5=>
c7 a5 i) λb v=>
condK b (
k .ret ((upd (upd (upd (upd (upd (upd (upd (upd (upd (upd t 59 c) 12 a) 13 m) 14 n) 15 o) 16 q) 17 r) 18 u) 104 b) 6 (.s (.bool false))),v)) (
arithK .add (t 58) (I 1) λa6=>
k .normal ((upd (upd (upd (upd (upd (upd (upd (upd (upd (upd t 59 c) 12 a) 13 m) 14 n) 15 o) 16 q) 17 r) 18 u) 104 b) 58 a6),v))) else none) else none) (
k (.exit 0) ((upd t 59 c),h))
noncomputable def Z78(P:Program)(T:Tab)(D:DTab)(N:Nat){β:Type}(K:Kb β)(e:Ex)(s:St):Option β:=
 e.on ((Zg6 P T D N K s.1 s.2))
 (λi=>bif i==0 then ((Zg6 P T D N K s.1 s.2)) else (none))
 (K (s.1 6) s.2)
noncomputable def Zg7(P:Program)(T:Tab)(D:DTab)(N:Nat){β:Type}(cL2:St→Option β)(K:Kb β)(a0 a1 a2:AV)(h:Hp) :  Option β:=
effK (boxE 1 a1 (List.length h)) h λv y=>
effK (boxE 2 a2 (List.length y)) y λw h4=>
callK (T 5) [] h4 λx5 x=>
notK x5 λz=>
condK z (
K (.s (.bool false)) x) (
lenK a0 λx8=>
arithK .gtr x8 (I 14) λx9=>
grpK false x9 x (λa3=>
callK (T 6) [a0] x λa4 a5=>
notK a4 λa6=>
a3 a6 a5) λg e=>
condK g (
K (.s (.bool true)) e) (
effD (callE (D 8) [a0] e (List.length e)) e λa7 f a8=>
ldK 1 false v f λa9=>
effD (callE (D 7) [a7,(I 2),a9] f (List.length f)) f λi j b0=>
exK i 0 λb1=>
exK i 1 λk=>
effD (boxE 1 nilS (List.length j)) j λb l b2=>
effD (stE 1 b b1 l) l λd0 a b3=>
bif disjAll [(1,2),(1,7),(2,7),(3,7)] [([],[]),a8,((idsOf v),[]),b0,([],[]),([],[]),([],[]),b2,b3,([],[])] then (
eqK P true 26 k (I 0) a λm=>
condK m (
ldK 1 false b a λb4=>
lenK b4 λb5=>
eqK P false 3 b5 (I 0) a λb6=>
K b6 a) (
ldK 1 false b a λb7=>
effD (callE (D 8) [b7] a (List.length a)) a λb8 c b9=>
iaA 1 2 w (I 0) λn=>
ldK 1 false n c λc0=>
iaA 1 2 w (I 1) λo=>
ldK 1 false o c λc1=>
effD (callE (D 9) [b8,(I 2),c0,c1] c (List.length c)) c λp d c2=>
exK p 0 λq=>
exK p 1 λr=>
bif disjAll [(1,3),(1,5)] [((idsOf b),[]),b9,([],[]),((idsOf n),[]),([],[]),((idsOf o),[]),c2,([],[]),([],[]),([],[]),([],[]),([],[])] then (
eqK P true 26 r (I 0) d λt=>
condK t (
lenK q λc3=>
eqK P false 3 c3 (I 0) d λc4=>
K c4 d) (
ldK 1 false b d λu=>
lenK u λc5=>
cL2 ((upd (upd (upd (upd (upd (upd (upd (upd (upd (upd (upd (upd (upd (upd (tm0 [a0,a1,a2]) 4 v) 5 w) 6 (.s (.bool false))) 20 z) 28 g) 7 b) 8 k) 37 m) 9 q) 10 r) 52 t) 56 u) 57 c5) 58 (I 0)),d))) else none)) else none))
noncomputable def Zg8(P:Program)(T:Tab)(D:DTab)(N:Nat){β:Type}(K:Kb β)(a0 a1 a2:AV)(h:Hp):Option β:=Zg7 P T D N (λs=>iterK (λs k=>Z4r P T D N s.1 s.2 k) N s (Z78 P T D N K)) K a0 a1 a2 h
noncomputable def Z4s(P:Program)(T:Tab)(D:DTab)(N:Nat){β:Type}(K:Kb β)(d e f:AV)(h:Hp):Option β:=
callK (T 12) [f,(.fn 13 [d,e])] h λa b=>
notK a λc=>
K c b
noncomputable def Z4t(P:Program)(T:Tab)(D:DTab)(N:Nat){β:Type}(xn:AV→AV→AV→AV→AV→AV→Kb β)(x0:AV→AV→Kb β)(xr:Kb β)(u v4 f v9 n o g:AV)(h:Hp):Option β:=
arithK .lss g o λa5=>
condK a5 (
iaK 4 n g λa6=>
ldK 4 true a6 h λa7=>
effK (boxE 4 (.agg zz4) (List.length h)) h λi p=>
effK (stE 4 i a7 p) p λd6 j=>
effD (callE (D 8) [u] j (List.length j)) j λa8 a a9=>
faK 2 i λq=>
ldK 1 false q a λb0=>
effD (callE (D 10) [a8,(I 2),b0] a (List.length a)) a λk b b1=>
exK k 0 λb2=>
exK k 1 λb3=>
exK k 2 λb4=>
bif disjAll [(1,3)] [([],[]),a9,([],[]),((idsOf q),[]),b1,([],[]),([],[]),([],[]),([],[]),([],[]),([],[]),([],[])] then (
ldK 1 false f b λb5=>
effD (callE (D 8) [b5] b (List.length b)) b λb6 c b7=>
faK 2 i λr=>
ldK 1 false r c λb8=>
effD (callE (D 10) [b6,(I 2),b8] c (List.length c)) c λl d b9=>
exK l 0 λc0=>
exK l 1 λc1=>
exK l 2 λc2=>
bif disjAll [(1,3)] [((idsOf f),[]),b7,([],[]),((idsOf r),[]),b9,([],[]),([],[]),([],[]),([],[]),([],[]),([],[]),([],[])] then (
eqK P true 26 b4 (I 0) d λc3=>
grpK false c3 d (λc4=>
eqK P true 26 c2 (I 0) d λc5=>
c4 c5 d) λc6 t=>
grpK false c6 t (λc7=>
callK (T 11) [b2,c0] t λc8 c9=>
notK c8 λd0=>
c7 d0 c9) λd1 e=>
grpK false d1 e (λd2=>
lenK b3 λd3=>
lenK c1 λd4=>
arithK .sub d3 d4 λv=>
lenK u λw=>
ldK 1 false f e λx=>
lenK x λy=>
arithK .sub w y λz=>
eqK P true 3 v z e λa0=>
d2 a0 e) λa1 m=>
condK a1 (
xr (.s (.bool false)) m) (
arithK .add g (I 1) λa2=>
xn u v4 f v9 n o a2 m)) else none) else none) (
x0 v4 f v9 h)
noncomputable def Z2w(P:Program)(T:Tab)(D:DTab)(N:Nat){β:Type}(a:AV→AV→Kb β)(xr:Kb β):Nat→AV→AV→AV→AV→AV→AV→Kb β
 | 0=>λ_ _ _ _ _ _ _ _=>none
 | n+1=>λe f g i b c d h=>Z4t P T D N (Z2w P T D N a xr n) a xr e f g i b c d h
noncomputable def Z3l(P:Program)(T:Tab)(D:DTab)(N:Nat){β:Type}(K:Kb β)(a0 a1 a2:AV)(h:Hp):Option β:=
effK (boxE 1 a1 (List.length h)) h λu w=>
effK (boxE 2 a2 (List.length w)) w λx h4=>
callK (T 5) [] h4 λx5 v=>
notK x5 λx7=>
condK x7 (
K (.s (.bool false)) v) (
lenK a0 λx8=>
arithK .gtr x8 (I 14) λx9=>
grpK false x9 v (λy=>
callK (T 6) [a0] v λz a3=>
notK z λa4=>
y a4 a3) λa5 e=>
condK a5 (
K (.s (.bool true)) e) (
effD (callE (D 8) [a0] e (List.length e)) e λa6 f a7=>
ldK 1 false u f λa8=>
effD (callE (D 7) [a6,(I 2),a8] f (List.length f)) f λl m a9=>
exK l 0 λb0=>
exK l 1 λb1=>
effD (boxE 1 nilS (List.length m)) m λb n b2=>
effD (stE 1 b b0 n) n λd4 a b3=>
bif disjAll [(1,2),(1,7),(2,7),(3,7)] [([],[]),a7,((idsOf u),[]),a9,([],[]),([],[]),([],[]),b2,b3,([],[])] then (
eqK P true 26 b1 (I 0) a λb4=>
condK b4 (
ldK 1 false b a λb5=>
lenK b5 λb6=>
eqK P false 3 b6 (I 0) a λb7=>
K b7 a) (
ldK 1 false b a λb8=>
effD (callE (D 8) [b8] a (List.length a)) a λb9 c c0=>
iaA 1 2 x (I 0) λo=>
ldK 1 false o c λc1=>
iaA 1 2 x (I 1) λp=>
ldK 1 false p c λc2=>
effD (callE (D 9) [b9,(I 2),c1,c2] c (List.length c)) c λq d c3=>
exK q 0 λr=>
exK q 1 λc4=>
bif disjAll [(1,3),(1,5)] [((idsOf b),[]),c0,([],[]),((idsOf o),[]),([],[]),((idsOf p),[]),c3,([],[]),([],[]),([],[]),([],[]),([],[])] then (
eqK P true 26 c4 (I 0) d λc5=>
condK c5 (
lenK r λc6=>
eqK P false 3 c6 (I 0) d λc7=>
K c7 d) (
ldK 1 false b d λt=>
lenK t λc8=>
Z2w P T D N (λg i j h=>Z4s P T D N K g i j h) (λk h=>K k h) N a0 u b r t c8 (I 0) d)) else none)) else none))
theorem ZoB(xn:AV→AV→AV→AV→AV→AV→Kb β)(x0:AV→AV→Kb β)(xr:Kb β)(xd:Nat→St→Option β)(xq:St→Option β)(t:Tm)(h:Hp):Z4r P T D N t h (λ(e:Ex)(s:St)=>e.on (xn (s.1 0) (s.1 4) (s.1 7) (s.1 9) (s.1 56) (s.1 57) (s.1 58) s.2) (λi=>(bif i==0 then x0 (s.1 4) (s.1 7) (s.1 9) s.2 else (xd i s))) (xr (s.1 6) s.2))=Z4t P T D N xn x0 xr (t 0) (t 4) (t 7) (t 9) (t 56) (t 57) (t 58) h:=by kernel_rfl
theorem ZoC(A:Ex→St→Option β)(x0:AV→AV→Kb β)(xr:Kb β)(q0:∀s,A (.exit 0) s=x0 (s.1 4) (s.1 7) (s.1 9) s.2)(qr:∀s,A .ret s=xr (s.1 6) s.2):∀(n:Nat)(s:St),iterK (λs k=>Z4r P T D N s.1 s.2 k) n s A=Z2w P T D N x0 xr n (s.1 0) (s.1 4) (s.1 7) (s.1 9) (s.1 56) (s.1 57) (s.1 58) s.2:=
 Z0i (exs1 q0 qr) (λs=>rfl) λn s=>ZoB P T D N (Z2w P T D N x0 xr n) x0 xr (λi s=>A (.exit i) s) (λs=>A .ret s) s.1 s.2
theorem ZoD(K:Kb β)(a0 a1 a2:AV)(h:Hp):Zg8 P T D N K a0 a1 a2 h=Z3l P T D N K a0 a1 a2 h:=by
 have eL2:(λs:St=>iterK (λs k=>Z4r P T D N s.1 s.2 k) N s (Z78 P T D N K))=(λs:St=>Z2w P T D N (λw109_4 w109_7 w109_9 h=>Z4s P T D N K w109_4 w109_7 w109_9 h) (λw110_6 h=>K w110_6 h) N (s.1 0) (s.1 4) (s.1 7) (s.1 9) (s.1 56) (s.1 57) (s.1 58) s.2):=funext λs=>ZoC P T D N (Z78 P T D N K) (λw109_4 w109_7 w109_9 h=>Z4s P T D N K w109_4 w109_7 w109_9 h) (λw110_6 h=>K w110_6 h) (λs=>rfl) (λs=>rfl) N s
 show Zg7 P T D N (λs=>iterK (λs k=>Z4r P T D N s.1 s.2 k) N s (Z78 P T D N K)) K a0 a1 a2 h=_
 rw[eL2]
 kernel_rfl
theorem ZoE(K:Kb β)(a0 a1 a2:AV)(h:Hp):runK Tryz.prog T D N [0,1,2,4,5,6,7,8,9,10,12,13,14,15,16,17,18,20,28,37,52,56,57,58,59,104] Tryz.f3 K [a0,a1,a2] h=Z3l Tryz.prog T D N K a0 a1 a2 h:=Eq.trans (b:=Zg8 Tryz.prog T D N K a0 a1 a2 h) (by kernel_rfl) (ZoD Tryz.prog T D N K a0 a1 a2 h)
noncomputable def Z79(P:Program)(T:Tab)(D:DTab)(N:Nat){β:Type}(K:Kb β)(h:Hp):Option β:=
buildK zz5 [(some (0,1),(I 1)),(some (1,1),(I 1)),(some (2,1),(I 1)),(some (3,1),(I 2)),(some (4,1),(I 100))] λx1=>
buildK zz5 [(some (0,1),(I 3)),(some (1,1),(I 7)),(some (2,1),(I 2)),(some (4,1),(I 97))] λx2=>
effK (bsE 5 zz5 2 [(0,x1),(1,x2)] (List.length h)) h λx3 h4=>
callK (T 21) [x3,(I 5)] h4 λx5 h6=>
exK x5 0 λx7=>
exK x5 1 λx8=>
callK (T 22) [x3,nilS] h6 λx9 l=>
exK x9 0 λb2=>
exK x9 1 λb3=>
effK (boxE 4 (.agg zz4) (List.length l)) l λm n=>
effK (stE 4 m b2 n) n λi1 b4=>
callK (T 30) [x7,(I 5)] b4 λo p=>
exK o 0 λb5=>
exK o 1 λb6=>
effK (boxE 7 (.agg zz7) (List.length p)) p λd q=>
effK (stE 7 d b5 q) q λi2 r=>
buildK zz3 [(some (0,1),(I 2)),(some (1,1),(I 7)),(some (2,1),(I 9))] λb7=>
effK (bsE 3 zz3 1 [(0,b7)] (List.length r)) r λb8 b9=>
buildK [I 0, I 0, I 0, I 0, I 0, I 0, nilS] [(some (0,1),(I 1)),(some (2,1),(I 10)),(some (3,1),(I 20)),(some (6,1),b8)] λc0=>
callK (T 31) [c0] b9 λe s=>
exK e 0 λc1=>
exK e 1 λi3=>
exK e 2 λc2=>
buildK zz4 [(some (0,1),(I 0)),(some (1,1),(I 2)),(some (2,1),(I 1)),(some (3,1),(I 2))] λc3=>
effK (bsE 4 zz4 1 [(0,c3)] (List.length s)) s λc4 c5=>
buildK [I 0, nilS] [(some (0,1),(I 2)),(some (1,1),c4)] λc6=>
callK (T 32) [c6] c5 λt u=>
exK t 0 λc7=>
exK t 1 λc8=>
buildK zz2 [(some (0,1),(I 4)),(some (1,1),(I 3))] λc9=>
effK (bsE 2 zz2 1 [(0,c9)] (List.length u)) u λd0 d1=>
callK (T 33) [d0,(I 3),(I 0)] d1 λv w=>
exK v 0 λd2=>
exK v 1 λd3=>
buildK zz4 [(some (0,1),(I 1)),(some (1,1),(I 1)),(some (2,1),(I 1)),(some (3,1),(I 1))] λd4=>
buildK zz4 [(some (0,1),(I 1)),(some (1,1),(I 2)),(some (2,1),(I 2)),(some (3,1),(I 1))] λd5=>
effK (bsE 4 zz4 2 [(0,d4),(1,d5)] (List.length w)) w λd6 d7=>
callK (T 7) [d6,(I 1),(I 1)] d7 λx a=>
exK x 0 λd8=>
exK x 1 λd9=>
lenK x7 λe0=>
eqK P false 3 e0 (I 3) a λe1=>
grpK true e1 a (λe2=>
ldK 4 true m a λe3=>
buildK zz4 [(some (2,1),(I 3))] λe4=>
eqK P false 62 e3 e4 a λe5=>
e2 e5 a) λe6 b=>
grpK true e6 b (λe7=>
faK 1 d λe8=>
ldK 1 false e8 b λe9=>
eqK P false 3 e9 (I 4) b λf0=>
e7 f0 b) λf1 c=>
grpK true f1 c (λf2=>
faK 5 d λf3=>
ldK 1 false f3 c λf4=>
eqK P false 3 f4 (I 97) c λf5=>
f2 f5 c) λf6 f=>
grpK true f6 f (λf7=>
eqK P false 3 c1 (I 3) f λf8=>
f7 f8 f) λf9 g=>
grpK true f9 g (λg0=>
effK (bsE 1 [I 0] 1 [(0,(I 2))] (List.length g)) g λg1 g2=>
callK (T 11) [c7,g1] g2 λg3 g4=>
g0 g3 g4) λg5 i=>
grpK true g5 i (λg6=>
effK (bsE 1 [I 0] 1 [(0,(I 4))] (List.length i)) i λg7 g8=>
callK (T 11) [d2,g7] g8 λg9 h0=>
g6 g9 h0) λh1 j=>
grpK true h1 j (λh2=>
lenK d8 λh3=>
eqK P false 3 h3 (I 1) j λh4=>
h2 h4 j) λh5 k=>
grpK true h5 k (λy=>
arithK .add x8 b3 λz=>
arithK .add z b6 λa0=>
arithK .add a0 c2 λa1=>
arithK .add a1 c8 λa2=>
arithK .add a2 d3 λa3=>
arithK .add a3 d9 λa4=>
eqK P false 26 a4 (I 0) k λa5=>
y a5 k) λa6 a7=>
K a6 a7
theorem ZoF(K:Kb β)(h:Hp):runK Tryz.prog T D N [0,1,2,3,4,5,6,7,8,10,11,12,13,14,15,16] Tryz.f5 K [] h=Z79 Tryz.prog T D N K  h:=by kernel_rfl
noncomputable def Z7a(P:Program)(T:Tab)(D:DTab)(N:Nat){β:Type}(K:Kb β)(a0:AV)(h:Hp):Option β:=
lenK a0 λa=>
arithK .leq a (I 14) λb=>
grpK false b h (λc=>
lenK a0 λd=>
eqK P false 3 d (I 25) h λe=>
c e h) λf g=>
K f g
theorem ZoG(K:Kb β)(a0:AV)(h:Hp):runK Tryz.prog T D N [0,2] Tryz.f6 K [a0] h=Z7a Tryz.prog T D N K a0 h:=by kernel_rfl
noncomputable def Z2x(P:Program)(T:Tab)(D:DTab)(N:Nat){β:Type}(K:Kb β)(a0 a1 a2:AV)(h:Hp):Option β:=
effK (boxE 1 a2 (List.length h)) h λf g=>
ldK 1 false f g λp=>
callK (T 10) [a0,a1,p] g λd e=>
exK d 0 λt=>
exK d 1 λu=>
exK d 2 λi=>
eqK P true 26 i (I 0) e λq=>
condK q (
K (.tup [nilS,i]) e) (
callK (T 34) [a1] e λj a=>
effK (boxE 1 (.s .nilFunc) (List.length a)) a λb c=>
effK (stE 1 b j c) c λr k=>
callK (T 8) [a0] k λl m=>
callK (T 35) [l,(.fn 36 [b,f])] m λn o=>
K (.tup [n,(I 0)]) o)
theorem ZoH(K:Kb β)(a0 a1 a2:AV)(h:Hp):runK Tryz.prog T D N [0,1,2,5,6,7,10,11,21] Tryz.f7 K [a0,a1,a2] h=Z2x Tryz.prog T D N K a0 a1 a2 h:=by kernel_rfl
noncomputable def Z2y(P:Program)(T:Tab)(D:DTab)(N:Nat){β:Type}(K:Kb β)(a0:AV)(h:Hp):Option β:=
eqK P false 22 a0 nilS h λb=>
condK b (
K nilS h) (
effK (bsE 4 zz4 0 [] (List.length h)) h λc a=>
effK (appE 4 32 c a0 a (List.length a)) a λd e=>
K d e)
theorem ZoI(K:Kb β)(a0:AV)(h:Hp):runK Tryz.prog T D N [0,2,4] Tryz.f8 K [a0] h=Z2y Tryz.prog T D N K a0 h:=by kernel_rfl
noncomputable def Zg9(P:Program)(T:Tab)(D:DTab)(N:Nat){β:Type}(K:Kb β)(t:Tm)(h:Hp):Option β:=
K (.tup [(t 11),(I 0)]) h
noncomputable def ZoJ(P:Program)(T:Tab)(D:DTab)(N:Nat){β:Type}(k:Ex→St→Option β)(t:Tm)(h:Hp):Option β:=
arithK .add (t 49) (I 1) λa=>
k .normal ((upd t 49 a),h)
noncomputable def Zga(P:Program)(T:Tab)(D:DTab)(N:Nat){β:Type}(k:Ex→St→Option β)(t:Tm)(h:Hp):Option β:=
(ZoJ P T D N k t h)
noncomputable def Z4u(P:Program)(T:Tab)(D:DTab)(N:Nat){β:Type}(t:Tm)(h:Hp)(k:Ex→St→Option β):Option β:=
arithK .lss (t 49) (t 48) λa=>
condK a (
iaK 1 (t 47) (t 49) λm=>
ldK 1 false m h λb=>
callK (T 41) [(t 0),(t 1),b] h λc d=>
exK c 0 λe=>
exK c 1 λf=>
exK c 2 λg=>
eqK P false 26 g (I 0) d λn=>
grpK true n d (λo=>
arithK .mul e (t 3) λp=>
arithK .mul f (t 2) λq=>
arithK .leq p q λr=>
o r d) λi j=>
condK i (
effK (bsE 1 [I 0] 1 [(0,b)] (List.length j)) j λs l=>
effK (appE 1 8 (t 11) s l (List.length l)) l λu v=>
(Zga P T D N k (upd (upd (upd (upd (upd (upd (upd t 50 a) 13 b) 14 e) 15 f) 16 g) 71 i) 11 u) v)) (
(Zga P T D N k (upd (upd (upd (upd (upd (upd t 50 a) 13 b) 14 e) 15 f) 16 g) 71 i) j))) (
k (.exit 1) ((upd t 50 a),h))
noncomputable def Z7b(P:Program)(T:Tab)(D:DTab)(N:Nat){β:Type}(K:Kb β)(e:Ex)(s:St):Option β:=
 e.on ((Zg9 P T D N K s.1 s.2))
 (λi=>bif i==1 then ((Zg9 P T D N K s.1 s.2)) else (none))
 (K (.tup [(s.1 8),(s.1 9)]) s.2)
noncomputable def Zgb(P:Program)(T:Tab)(D:DTab)(N:Nat){β:Type}(cL2:St→Option β)(K:Kb β)(a0 a1 a2 a3:AV)(h:Hp) :  Option β:=
callK (T 34) [a1] h λi z=>
callK (T 37) [a0] z λx3 a=>
notK x3 λj=>
condK j (
K (.tup [nilS,(I 1)]) a) (
eqK P false 112 i (.s (.nilFunc)) a λx6=>
grpK false x6 a (λk7=>
arithK .lss a3 (I 1) λx8=>
k7 x8 a) λx9 b=>
grpK false x9 b (λk=>
arithK .gtr a3 (I 1000000) λl=>
k l b) λm c=>
grpK false m c (λn=>
arithK .lss a2 (I 0) λo=>
n o c) λp d=>
grpK false p d (λq=>
arithK .gtr a2 a3 λr=>
q r d) λe f=>
condK e (
K (.tup [nilS,(I 2)]) f) (
callK (T 40) [a0,i] f λt u=>
callK (T 39) [t] u λv w=>
callK (T 38) [v] w λg x=>
lenK g λy=>
cL2 ((upd (upd (upd (upd (upd (upd (upd (upd (upd (tm0 [a0,a1,a2,a3]) 8 nilS) 9 (I 0)) 10 i) 19 j) 23 e) 11 nilS) 47 g) 48 y) 49 (I 0)),x)))
noncomputable def Zgc(P:Program)(T:Tab)(D:DTab)(N:Nat){β:Type}(K:Kb β)(a0 a1 a2 a3:AV)(h:Hp):Option β:=Zgb P T D N (λs=>iterK (λs k=>Z4u P T D N s.1 s.2 k) N s (Z7b P T D N K)) K a0 a1 a2 a3 h
noncomputable def Zbc(P:Program)(T:Tab)(D:DTab)(N:Nat){β:Type}(K:Kb β)(a:AV)(h:Hp):Option β:=
K (.tup [a,(I 0)]) h
noncomputable def Zbd(P:Program)(T:Tab)(D:DTab)(N:Nat){β:Type}(xn:AV→AV→AV→AV→AV→AV→AV→Kb β)(k:Kb β)(f g i j a b c d:AV)(h:Hp):Option β:=
arithK .add d (I 1) λe=>
xn f g i j a b c e h
noncomputable def Z7c(P:Program)(T:Tab)(D:DTab)(N:Nat){β:Type}(xn:AV→AV→AV→AV→AV→AV→AV→Kb β)(e:Kb β)(f g i j a b c d:AV)(h:Hp):Option β:=
Zbd P T D N xn e f g i j a b c d h
noncomputable def Z4v(P:Program)(T:Tab)(D:DTab)(N:Nat){β:Type}(xn:AV→AV→AV→AV→AV→AV→AV→Kb β)(k:Kb β)(l m n o b c d a:AV)(h:Hp):Option β:=
arithK .lss a d λp=>
condK p (
iaK 1 c a λq=>
ldK 1 false q h λj=>
callK (T 41) [l,m,j] h λe f=>
exK e 0 λr=>
exK e 1 λs=>
exK e 2 λt=>
eqK P false 26 t (I 0) f λu=>
grpK true u f (λv=>
arithK .mul r o λw=>
arithK .mul s n λx=>
arithK .leq w x λy=>
v y f) λz g=>
condK z (
effK (bsE 1 [I 0] 1 [(0,j)] (List.length g)) g λa0 i=>
effK (appE 1 8 b a0 i (List.length i)) i λa1 a2=>
Z7c P T D N xn k l m n o a1 c d a a2) (
Z7c P T D N xn k l m n o b c d a g)) (
k b h)
noncomputable def Z2z(P:Program)(T:Tab)(D:DTab)(N:Nat){β:Type}(a:Kb β):Nat→AV→AV→AV→AV→AV→AV→AV→Kb β
 | 0=>λ_ _ _ _ _ _ _ _ _=>none
 | n+1=>λf g i j b c d e h=>Z4v P T D N (Z2z P T D N a n) a f g i j b c d e h
noncomputable def Z1o(P:Program)(T:Tab)(D:DTab)(N:Nat){β:Type}(K:Kb β)(a0 a1 a2 a3:AV)(h:Hp):Option β:=
callK (T 34) [a1] h λi z=>
callK (T 37) [a0] z λx3 b=>
notK x3 λx5=>
condK x5 (
K (.tup [nilS,(I 1)]) b) (
eqK P false 112 i (.s (.nilFunc)) b λx6=>
grpK false x6 b (λk7=>
arithK .lss a3 (I 1) λx8=>
k7 x8 b) λx9 c=>
grpK false x9 c (λj=>
arithK .gtr a3 (I 1000000) λk=>
j k c) λl d=>
grpK false l d (λm=>
arithK .lss a2 (I 0) λn=>
m n d) λo e=>
grpK false o e (λp=>
arithK .gtr a2 a3 λq=>
p q e) λr f=>
condK r (
K (.tup [nilS,(I 2)]) f) (
callK (T 40) [a0,i] f λt u=>
callK (T 39) [t] u λv w=>
callK (T 38) [v] w λg x=>
lenK g λy=>
Z2z P T D N (λa h=>Zbc P T D N K a h) N a0 a1 a2 a3 nilS g y (I 0) x))
theorem ZoK(xn:AV→AV→AV→AV→AV→AV→AV→Kb β)(x1:Kb β)(xd:Nat→St→Option β)(xq:St→Option β)(t:Tm)(h:Hp):Z4u P T D N t h (λ(e:Ex)(s:St)=>e.on (xn (s.1 0) (s.1 1) (s.1 2) (s.1 3) (s.1 11) (s.1 47) (s.1 48) (s.1 49) s.2) (λi=>(bif i==1 then x1 (s.1 11) s.2 else (xd i s))) (xq s))=Z4v P T D N xn x1 (t 0) (t 1) (t 2) (t 3) (t 11) (t 47) (t 48) (t 49) h:=by kernel_rfl
theorem ZoL(A:Ex→St→Option β)(x1:Kb β)(q1:∀s,A (.exit 1) s=x1 (s.1 11) s.2):∀(n:Nat)(s:St),iterK (λs k=>Z4u P T D N s.1 s.2 k) n s A=Z2z P T D N x1 n (s.1 0) (s.1 1) (s.1 2) (s.1 3) (s.1 11) (s.1 47) (s.1 48) (s.1 49) s.2:=
 Z0i (exs1 q1 (λs=>rfl)) (λs=>rfl) λn s=>ZoK P T D N (Z2z P T D N x1 n) x1 (λi s=>A (.exit i) s) (λs=>A .ret s) s.1 s.2
theorem ZoM(K:Kb β)(a0 a1 a2 a3:AV)(h:Hp):Zgc P T D N K a0 a1 a2 a3 h=Z1o P T D N K a0 a1 a2 a3 h:=by
 have eL2:(λs:St=>iterK (λs k=>Z4u P T D N s.1 s.2 k) N s (Z7b P T D N K))=(λs:St=>Z2z P T D N (λw50_11 h=>Zbc P T D N K w50_11 h) N (s.1 0) (s.1 1) (s.1 2) (s.1 3) (s.1 11) (s.1 47) (s.1 48) (s.1 49) s.2):=funext λs=>ZoL P T D N (Z7b P T D N K) (λw50_11 h=>Zbc P T D N K w50_11 h) (λs=>rfl) N s
 show Zgb P T D N (λs=>iterK (λs k=>Z4u P T D N s.1 s.2 k) N s (Z7b P T D N K)) K a0 a1 a2 a3 h=_
 rw[eL2]
 kernel_rfl
theorem ZoN(K:Kb β)(a0 a1 a2 a3:AV)(h:Hp):runK Tryz.prog T D N [0,1,2,3,8,9,10,11,13,14,15,16,19,23,47,48,49,50,71] Tryz.f9 K [a0,a1,a2,a3] h=Z1o Tryz.prog T D N K a0 a1 a2 a3 h:=Eq.trans (b:=Zgc Tryz.prog T D N K a0 a1 a2 a3 h) (by kernel_rfl) (ZoM Tryz.prog T D N K a0 a1 a2 a3 h)
noncomputable def Z29(P:Program)(T:Tab)(D:DTab)(N:Nat){β:Type}(K:Kb β)(a0 a1 a2:AV)(h:Hp):Option β:=
callK (T 34) [a1] h λc j=>
callK (T 37) [a0] j λk a=>
notK k λl=>
condK l (
K (.tup [nilS,nilS,(I 1)]) a) (
eqK P false 112 c (.s (.nilFunc)) a λm=>
condK m (
K (.tup [nilS,nilS,(I 2)]) a) (
callK (T 40) [a0,c] a λn b=>
lookK P 3 nilS false n a2 b λd=>
lenK d λe=>
eqK P false 3 e (I 0) b λf=>
condK f (
K (.tup [nilS,nilS,(I 7)]) b) (
callK (T 42) [a0,c,a2] b λg i=>
K (.tup [d,g,(I 0)]) i)))
theorem ZoO(K:Kb β)(a0 a1 a2:AV)(h:Hp):runK Tryz.prog T D N [0,1,2,6,7,8,9,10,13,17,27] Tryz.f10 K [a0,a1,a2] h=Z29 Tryz.prog T D N K a0 a1 a2 h:=by kernel_rfl
noncomputable def Zgd(P:Program)(T:Tab)(D:DTab)(N:Nat){β:Type}(K:Kb β)(t:Tm)(h:Hp):Option β:=
K (.s (.bool true)) h
noncomputable def Z4w(P:Program)(T:Tab)(D:DTab)(N:Nat){β:Type}(t:Tm)(h:Hp)(k:Ex→St→Option β):Option β:=
arithK .lss (t 13) (t 12) λb=>
condK b (
iaK 1 (t 0) (t 13) λd=>
ldK 1 false d h λe=>
iaK 1 (t 1) (t 13) λf=>
ldK 1 false f h λg=>
eqK P true 3 e g h λa=>
condK a (
k .ret ((upd (upd (upd (upd t 14 b) 5 (t 13)) 24 a) 4 (.s (.bool false))),h)) (
arithK .add (t 13) (I 1) λc=>
k .normal ((upd (upd (upd (upd t 14 b) 5 (t 13)) 24 a) 13 c),h))) (
k (.exit 0) ((upd t 14 b),h))
noncomputable def Z7d(P:Program)(T:Tab)(D:DTab)(N:Nat){β:Type}(K:Kb β)(e:Ex)(s:St):Option β:=
 e.on ((Zgd P T D N K s.1 s.2))
 (λi=>bif i==0 then ((Zgd P T D N K s.1 s.2)) else (none))
 (K (s.1 4) s.2)
noncomputable def Zge(P:Program)(T:Tab)(D:DTab)(N:Nat){β:Type}(cL2:St→Option β)(K:Kb β)(a0 a1:AV)(h:Hp) :  Option β:=
lenK a0 λb=>
lenK a1 λc=>
eqK P true 3 b c h λa=>
condK a (
K (.s (.bool false)) h) (
lenK a0 λd=>
cL2 ((upd (upd (upd (upd (tm0 [a0,a1]) 4 (.s (.bool false))) 10 a) 12 d) 13 (I 0)),h))
noncomputable def Zgf(P:Program)(T:Tab)(D:DTab)(N:Nat){β:Type}(K:Kb β)(a0 a1:AV)(h:Hp):Option β:=Zge P T D N (λs=>iterK (λs k=>Z4w P T D N s.1 s.2 k) N s (Z7d P T D N K)) K a0 a1 h
noncomputable def Z7e(P:Program)(T:Tab)(D:DTab)(N:Nat){β:Type}(K:Kb β)(h:Hp):Option β:=
K (.s (.bool true)) h
noncomputable def Z3m(P:Program)(T:Tab)(D:DTab)(N:Nat){β:Type}(xn:AV→AV→AV→Kb β)(g:Qb β)(xr:Kb β)(c d b a:AV)(h:Hp):Option β:=
arithK .lss a b λi=>
condK i (
iaK 1 c a λj=>
ldK 1 false j h λk=>
iaK 1 d a λl=>
ldK 1 false l h λm=>
eqK P true 3 k m h λe=>
condK e (
xr (.s (.bool false)) h) (
arithK .add a (I 1) λf=>
xn c d b f h)) (
g h)
noncomputable def Z2a(P:Program)(T:Tab)(D:DTab)(N:Nat){β:Type}(a:Qb β)(xr:Kb β):Nat→AV→AV→AV→Kb β
 | 0=>λ_ _ _ _ _=>none
 | n+1=>λd e b c h=>Z3m P T D N (Z2a P T D N a xr n) a xr d e b c h
noncomputable def Z2b(P:Program)(T:Tab)(D:DTab)(N:Nat){β:Type}(K:Kb β)(a0 a1:AV)(h:Hp):Option β:=
lenK a0 λb=>
lenK a1 λc=>
eqK P true 3 b c h λd=>
condK d (
K (.s (.bool false)) h) (
lenK a0 λe=>
Z2a P T D N (λh=>Z7e P T D N K h) (λa h=>K a h) N a0 a1 e (I 0) h)
theorem ZoP(xn:AV→AV→AV→Kb β)(x0:Qb β)(xr:Kb β)(xd:Nat→St→Option β)(xq:St→Option β)(t:Tm)(h:Hp):Z4w P T D N t h (λ(e:Ex)(s:St)=>e.on (xn (s.1 0) (s.1 1) (s.1 12) (s.1 13) s.2) (λi=>(bif i==0 then x0 s.2 else (xd i s))) (xr (s.1 4) s.2))=Z3m P T D N xn x0 xr (t 0) (t 1) (t 12) (t 13) h:=by kernel_rfl
theorem ZoQ(A:Ex→St→Option β)(x0:Qb β)(xr:Kb β)(q0:∀s,A (.exit 0) s=x0 s.2)(qr:∀s,A .ret s=xr (s.1 4) s.2):∀(n:Nat)(s:St),iterK (λs k=>Z4w P T D N s.1 s.2 k) n s A=Z2a P T D N x0 xr n (s.1 0) (s.1 1) (s.1 12) (s.1 13) s.2:=
 Z0i (exs1 q0 qr) (λs=>rfl) λn s=>ZoP P T D N (Z2a P T D N x0 xr n) x0 xr (λi s=>A (.exit i) s) (λs=>A .ret s) s.1 s.2
theorem ZoR(K:Kb β)(a0 a1:AV)(h:Hp):Zgf P T D N K a0 a1 h=Z2b P T D N K a0 a1 h:=by
 have eL2:(λs:St=>iterK (λs k=>Z4w P T D N s.1 s.2 k) N s (Z7d P T D N K))=(λs:St=>Z2a P T D N (λh=>Z7e P T D N K h) (λw13_4 h=>K w13_4 h) N (s.1 0) (s.1 1) (s.1 12) (s.1 13) s.2):=funext λs=>ZoQ P T D N (Z7d P T D N K) (λh=>Z7e P T D N K h) (λw13_4 h=>K w13_4 h) (λs=>rfl) (λs=>rfl) N s
 show Zge P T D N (λs=>iterK (λs k=>Z4w P T D N s.1 s.2 k) N s (Z7d P T D N K)) K a0 a1 h=_
 rw[eL2]
 kernel_rfl
theorem ZoS(K:Kb β)(a0 a1:AV)(h:Hp):runK Tryz.prog T D N [0,1,4,5,10,12,13,14,24] Tryz.f11 K [a0,a1] h=Z2b Tryz.prog T D N K a0 a1 h:=Eq.trans (b:=Zgf Tryz.prog T D N K a0 a1 h) (by kernel_rfl) (ZoR Tryz.prog T D N K a0 a1 h)
noncomputable def Z7f(P:Program)(T:Tab)(D:DTab)(N:Nat){β:Type}(K:Kb β)(a0 a1:AV)(h:Hp):Option β:=
callK (T 43) [a0,a1] h λa b=>
arithK .geq a (I 0) λc=>
K c b
theorem ZoT(K:Kb β)(a0 a1:AV)(h:Hp):runK Tryz.prog T D N [0,1,4] Tryz.f12 K [a0,a1] h=Z7f Tryz.prog T D N K a0 a1 h:=by kernel_rfl
noncomputable def Z7g(P:Program)(T:Tab)(D:DTab)(N:Nat){β:Type}(K:Kb β)(a0 a1 a2:AV)(h:Hp):Option β:=
effK (boxE 1 a0 (List.length h)) h λb a=>
ldK 1 false b a λf=>
ldK 1 false a1 a λg=>
eqK P false 3 f g a λi=>
grpK false i a (λj=>
ldK 1 false a2 a λk=>
callK (T 14) [k,(.fn 15 [b])] a λl m=>
notK l λc=>
j c m) λd e=>
K d e
theorem ZoU(K:Kb β)(a0 a1 a2:AV)(h:Hp):runK Tryz.prog T D N [0,1,2,3,4] Tryz.f13 K [a0,a1,a2] h=Z7g Tryz.prog T D N K a0 a1 a2 h:=by kernel_rfl
noncomputable def Z7h(P:Program)(T:Tab)(D:DTab)(N:Nat){β:Type}(K:Kb β)(a0 a1:AV)(h:Hp):Option β:=
callK (T 44) [a0,a1] h λa b=>
arithK .geq a (I 0) λc=>
K c b
theorem ZoV(K:Kb β)(a0 a1:AV)(h:Hp):runK Tryz.prog T D N [0,1,4] Tryz.f14 K [a0,a1] h=Z7h Tryz.prog T D N K a0 a1 h:=by kernel_rfl
noncomputable def Z7i(P:Program)(T:Tab)(D:DTab)(N:Nat){β:Type}(K:Kb β)(a0 a1:AV)(h:Hp):Option β:=
effK (boxE 4 a0 (List.length h)) h λb a=>
faK 2 b λc=>
ldK 1 false c a λd=>
ldK 1 false a1 a λe=>
eqK P false 3 d e a λf=>
K f a
theorem ZoW(K:Kb β)(a0 a1:AV)(h:Hp):runK Tryz.prog T D N [0,1,2,3] Tryz.f15 K [a0,a1] h=Z7i Tryz.prog T D N K a0 a1 h:=by kernel_rfl
noncomputable def Zgg(P:Program)(T:Tab)(D:DTab)(N:Nat){β:Type}(K:Kb β)(t:Tm)(h:Hp):Option β:=
ldK 9 true (t 5) h λb=>
effK (stE 9 (t 2) b h) h λd a=>
ldK 9 true (t 2) a λc=>
K (.tup [c,(.s (.int .i64 (-1))),(I 0)]) a
noncomputable def Z4x(P:Program)(T:Tab)(D:DTab)(N:Nat){β:Type}(t:Tm)(h:Hp)(k:Ex→St→Option β):Option β:=
arithK .lss (t 16) (t 15) λd=>
condK d (
iaK 5 (t 14) (t 16) λm=>
ldK 5 true m h λn=>
effK (boxE 5 (.agg zz5) (List.length h)) h λa i=>
effK (stE 5 a n i) i λa5 f=>
ldK 9 true (t 5) f λo=>
arithK .gtr (t 16) (I 0) λp=>
ldK 5 true a f λq=>
callK (T 46) [o,p,(t 6),q] f λe b=>
eqK P true 26 e (I 0) b λg=>
condK g (
buildK [I 0, I 0, I 0, I 0, I 0, I 0, I 0,.s (.bool false),.s (.bool false)] [] λr=>
effK (stE 9 (t 2) r b) b λa6 u=>
k .ret ((upd (upd (upd (upd (upd (upd (upd t 17 d) 8 a) 7 (t 16)) 9 e) 28 g) 3 (t 16)) 4 e),u)) (
effD (callE (D 47) [] b (List.length b)) b λv c w=>
faK 1 a λj=>
ldK 1 false j c λx=>
ixA 3 8 true v x λy=>
fldK 1 false 2 y λz=>
ldK 5 true a c λa0=>
effD (callVE D z [(t 5),a0] c (List.length c)) c λa7 l a1=>
bif disjAll [(0,2),(0,5)] [w,([],[]),((idsOf j),[]),([],[]),([],[]),((idsOf a),[]),a1] then (
faK 0 a λa2=>
ldK 1 false a2 l λa3=>
arithK .add (t 16) (I 1) λa4=>
k .normal ((upd (upd (upd (upd (upd (upd (upd t 17 d) 8 a) 7 (t 16)) 9 e) 28 g) 6 a3) 16 a4),l)) else none)) (
k (.exit 0) ((upd t 17 d),h))
noncomputable def Z7j(P:Program)(T:Tab)(D:DTab)(N:Nat){β:Type}(K:Kb β)(e:Ex)(s:St):Option β:=
 e.on ((Zgg P T D N K s.1 s.2))
 (λi=>bif i==0 then ((Zgg P T D N K s.1 s.2)) else (none))
 (ldK 9 true (s.1 2) s.2 λa=>
K (.tup [a,(s.1 3),(s.1 4)]) s.2)
noncomputable def Zgh(P:Program)(T:Tab)(D:DTab)(N:Nat){β:Type}(cL2:St→Option β)(K:Kb β)(a0:AV)(h:Hp) :  Option β:=
effK (boxE 9 (.agg [I 0, I 0, I 0, I 0, I 0, I 0, I 0,.s (.bool false),.s (.bool false)]) (List.length h)) h λb a=>
lenK a0 λg=>
arithK .gtr g (I 128) λc=>
condK c (
buildK [I 0, I 0, I 0, I 0, I 0, I 0, I 0,.s (.bool false),.s (.bool false)] [] λi=>
effK (stE 9 b i a) a λl d=>
ldK 9 true b d λj=>
K (.tup [j,(.s (.int .i64 (-1))),(I 8)]) d) (
effK (boxE 9 (.agg [I 0, I 0, I 0, I 0, I 0, I 0, I 0,.s (.bool false),.s (.bool false)]) (List.length a)) a λk e=>
lenK a0 λf=>
cL2 ((upd (upd (upd (upd (upd (upd (upd (upd (upd (tm0 [a0]) 2 b) 3 (I 0)) 4 (I 0)) 12 c) 5 k) 6 (I 0)) 14 a0) 15 f) 16 (I 0)),e))
noncomputable def Zgi(P:Program)(T:Tab)(D:DTab)(N:Nat){β:Type}(K:Kb β)(a0:AV)(h:Hp):Option β:=Zgh P T D N (λs=>iterK (λs k=>Z4x P T D N s.1 s.2 k) N s (Z7j P T D N K)) K a0 h
noncomputable def Z4y(P:Program)(T:Tab)(D:DTab)(N:Nat){β:Type}(K:Kb β)(b e:AV)(h:Hp):Option β:=
ldK 9 true e h λc=>
effK (stE 9 b c h) h λf a=>
ldK 9 true b a λd=>
K (.tup [d,(.s (.int .i64 (-1))),(I 0)]) a
noncomputable def Z4z(P:Program)(T:Tab)(D:DTab)(N:Nat){β:Type}(xn:AV→AV→AV→AV→AV→Kb β)(x0:AV→Kb β)(xr:AV→AV→Kb β)(f g v6 i j c:AV)(h:Hp):Option β:=
arithK .lss c j λo=>
condK o (
iaK 5 i c λp=>
ldK 5 true p h λq=>
effK (boxE 5 (.agg zz5) (List.length h)) h λa k=>
effK (stE 5 a q k) k λb0 e=>
ldK 9 true g e λr=>
arithK .gtr c (I 0) λt=>
ldK 5 true a e λu=>
callK (T 46) [r,t,v6,u] e λl b=>
eqK P true 26 l (I 0) b λv=>
condK v (
buildK [I 0, I 0, I 0, I 0, I 0, I 0, I 0,.s (.bool false),.s (.bool false)] [] λw=>
effK (stE 9 f w b) b λb1 x=>
xr f c l x) (
effD (callE (D 47) [] b (List.length b)) b λy d z=>
faK 1 a λm=>
ldK 1 false m d λa0=>
ixA 3 8 true y a0 λa1=>
fldK 1 false 2 a1 λa2=>
ldK 5 true a d λa3=>
effD (callVE D a2 [g,a3] d (List.length d)) d λb2 n a4=>
bif disjAll [(0,2),(0,5)] [z,([],[]),((idsOf m),[]),([],[]),([],[]),((idsOf a),[]),a4] then (
faK 0 a λa5=>
ldK 1 false a5 n λa6=>
arithK .add c (I 1) λa7=>
xn f g a6 i j a7 n) else none)) (
x0 f g h)
noncomputable def Z2A(P:Program)(T:Tab)(D:DTab)(N:Nat){β:Type}(a:AV→Kb β)(xr:AV→AV→Kb β):Nat→AV→AV→AV→AV→AV→Kb β
 | 0=>λ_ _ _ _ _ _ _=>none
 | n+1=>λe f g b c d h=>Z4z P T D N (Z2A P T D N a xr n) a xr e f g b c d h
noncomputable def Z3n(P:Program)(T:Tab)(D:DTab)(N:Nat){β:Type}(K:Kb β)(a0:AV)(h:Hp):Option β:=
effK (boxE 9 (.agg [I 0, I 0, I 0, I 0, I 0, I 0, I 0,.s (.bool false),.s (.bool false)]) (List.length h)) h λg a=>
lenK a0 λm=>
arithK .gtr m (I 128) λn=>
condK n (
buildK [I 0, I 0, I 0, I 0, I 0, I 0, I 0,.s (.bool false),.s (.bool false)] [] λo=>
effK (stE 9 g o a) a λr i=>
ldK 9 true g i λp=>
K (.tup [p,(.s (.int .i64 (-1))),(I 8)]) i) (
effK (boxE 9 (.agg [I 0, I 0, I 0, I 0, I 0, I 0, I 0,.s (.bool false),.s (.bool false)]) (List.length a)) a λq j=>
lenK a0 λk=>
Z2A P T D N (λb c h=>Z4y P T D N K b c h) (λd e f h=>ldK 9 true d h λl=>
K (.tup [l,e,f]) h) N g q (I 0) a0 k (I 0) j)
theorem ZoX(xn:AV→AV→AV→AV→AV→Kb β)(x0:AV→Kb β)(xr:AV→AV→Kb β)(xd:Nat→St→Option β)(xq:St→Option β)(t:Tm)(h:Hp):Z4x P T D N t h (λ(e:Ex)(s:St)=>e.on (xn (s.1 2) (s.1 5) (s.1 6) (s.1 14) (s.1 15) (s.1 16) s.2) (λi=>(bif i==0 then x0 (s.1 2) (s.1 5) s.2 else (xd i s))) (xr (s.1 2) (s.1 3) (s.1 4) s.2))=Z4z P T D N xn x0 xr (t 2) (t 5) (t 6) (t 14) (t 15) (t 16) h:=by kernel_rfl
theorem ZoY(A:Ex→St→Option β)(x0:AV→Kb β)(xr:AV→AV→Kb β)(q0:∀s,A (.exit 0) s=x0 (s.1 2) (s.1 5) s.2)(qr:∀s,A .ret s=xr (s.1 2) (s.1 3) (s.1 4) s.2):∀(n:Nat)(s:St),iterK (λs k=>Z4x P T D N s.1 s.2 k) n s A=Z2A P T D N x0 xr n (s.1 2) (s.1 5) (s.1 6) (s.1 14) (s.1 15) (s.1 16) s.2:=
 Z0i (exs1 q0 qr) (λs=>rfl) λn s=>ZoX P T D N (Z2A P T D N x0 xr n) x0 xr (λi s=>A (.exit i) s) (λs=>A .ret s) s.1 s.2
theorem ZoZ(K:Kb β)(a0:AV)(h:Hp):Zgi P T D N K a0 h=Z3n P T D N K a0 h:=by
 have eL2:(λs:St=>iterK (λs k=>Z4x P T D N s.1 s.2 k) N s (Z7j P T D N K))=(λs:St=>Z2A P T D N (λw46_2 w46_5 h=>Z4y P T D N K w46_2 w46_5 h) (λw47_2 w47_3 w47_4 h=>ldK 9 true w47_2 h λr48=>
K (.tup [r48,w47_3,w47_4]) h) N (s.1 2) (s.1 5) (s.1 6) (s.1 14) (s.1 15) (s.1 16) s.2):=funext λs=>ZoY P T D N (Z7j P T D N K) (λw46_2 w46_5 h=>Z4y P T D N K w46_2 w46_5 h) (λw47_2 w47_3 w47_4 h=>ldK 9 true w47_2 h λr48=>
K (.tup [r48,w47_3,w47_4]) h) (λs=>rfl) (λs=>rfl) N s
 show Zgh P T D N (λs=>iterK (λs k=>Z4x P T D N s.1 s.2 k) N s (Z7j P T D N K)) K a0 h=_
 rw[eL2]
 kernel_rfl
theorem Zp0(K:Kb β)(a0:AV)(h:Hp):runK Tryz.prog T D N [0,2,3,4,5,6,7,8,9,12,14,15,16,17,28] Tryz.f19 K [a0] h=Z3n Tryz.prog T D N K a0 h:=Eq.trans (b:=Zgi Tryz.prog T D N K a0 h) (by kernel_rfl) (ZoZ Tryz.prog T D N K a0 h)
noncomputable def Zgj(P:Program)(T:Tab)(D:DTab)(N:Nat){β:Type}(K:Kb β)(t:Tm)(h:Hp):Option β:=
lenK (t 6) λa=>
arithK .gtr a (I 64) λb=>
condK b (
K (.tup [nilS,(I 8)]) h) (
K (.tup [(t 6),(I 0)]) h)
noncomputable def Zp1(P:Program)(T:Tab)(D:DTab)(N:Nat){β:Type}(k:Ex→St→Option β)(t:Tm)(h:Hp):Option β:=
arithK .add (t 21) (I 1) λa=>
k .normal ((upd t 21 a),h)
noncomputable def Zgk(P:Program)(T:Tab)(D:DTab)(N:Nat){β:Type}(k:Ex→St→Option β)(t:Tm)(h:Hp):Option β:=
(Zp1 P T D N k t h)
noncomputable def Zp2(P:Program)(T:Tab)(D:DTab)(N:Nat){β:Type}(k:Ex→St→Option β)(t:Tm)(h:Hp):Option β:=
ldK 7 true (t 10) h λb=>
effK (bsE 7 zz7 1 [(0,b)] (List.length h)) h λc a=>
effK (appE 7 56 (t 6) c a (List.length a)) a λd e=>
(Zgk P T D N k (upd t 6 d) e)
noncomputable def Zbe(P:Program)(T:Tab)(D:DTab)(N:Nat){β:Type}(k:Ex→St→Option β)(t:Tm)(h:Hp):Option β:=
(Zp2 P T D N k t h)
noncomputable def Z4A(P:Program)(T:Tab)(D:DTab)(N:Nat){β:Type}(t:Tm)(h:Hp)(k:Ex→St→Option β):Option β:=
arithK .lss (t 21) (t 20) λe=>
condK e (
iaK 5 (t 19) (t 21) λa3=>
ldK 5 true a3 h λa4=>
effK (boxE 5 (.agg zz5) (List.length h)) h λc o=>
effK (stE 5 c a4 o) o λe1 i=>
faK 0 c λa5=>
ldK 1 false a5 i λa6=>
buildK zz7 [(some (0,1),(t 1)),(some (3,1),a6)] λa7=>
effK (boxE 7 (.agg zz7) (List.length i)) i λa p=>
effK (stE 7 a a7 p) p λe2 b=>
faK 1 c λa8=>
ldK 1 false a8 b λd=>
eqK P false 3 d (I 1) b λf=>
condK f (
faK 2 c λq=>
ldK 1 false q b λa9=>
faK 3 c λr=>
ldK 1 false r b λb0=>
faK 4 c λs=>
ldK 1 false s b λb1=>
faK 1 a λb2=>
effD (stE 1 b2 (I 1) b) b λe3 u b3=>
faK 4 a λb4=>
effD (stE 1 b4 a9 u) u λe4 v b5=>
faK 5 a λb6=>
effD (stE 1 b6 b0 v) v λe5 w b7=>
faK 6 a λb8=>
effD (stE 1 b8 b1 w) w λe6 b9 c0=>
bif disjAll [(1,7),(3,7),(5,7),(3,9),(5,9),(5,11)] [([],[]),((idsOf q),[]),([],[]),((idsOf r),[]),([],[]),((idsOf s),[]),([],[]),b3,([],[]),b5,([],[]),b7,([],[]),c0] then (
(Zbe P T D N k (upd (upd (upd (upd (upd t 22 e) 9 c) 10 a) 30 d) 31 f) b9)) else none) (
eqK P false 3 d (I 4) b λg=>
condK g (
arithK .add (t 7) (I 1) λx=>
faK 3 c λy=>
ldK 1 false y b λc1=>
faK 1 a λc2=>
effD (stE 1 c2 (I 2) b) b λe7 z c3=>
faK 2 a λc4=>
effD (stE 1 c4 x z) z λe8 a0 c5=>
faK 5 a λc6=>
effD (stE 1 c6 c1 a0) a0 λe9 c7 c8=>
bif disjAll [(2,4),(2,6)] [([],[]),([],[]),((idsOf y),[]),([],[]),c3,([],[]),c5,([],[]),c8] then (
(Zbe P T D N k (upd (upd (upd (upd (upd (upd (upd t 22 e) 9 c) 10 a) 30 d) 31 f) 43 g) 7 x) c7)) else none) (
eqK P false 3 d (I 7) b λj=>
condK j (
faK 4 c λa1=>
ldK 1 false a1 b λc9=>
faK 1 a λd0=>
effD (stE 1 d0 (I 3) b) b λf0 a2 d1=>
faK 6 a λd2=>
effD (stE 1 d2 c9 a2) a2 λf1 l d3=>
bif disjAll [(1,3)] [([],[]),((idsOf a1),[]),([],[]),d1,([],[]),d3] then (
ldK 7 true a l λd4=>
effK (bsE 7 zz7 1 [(0,d4)] (List.length l)) l λd5 m=>
effK (appE 7 56 (t 6) d5 m (List.length m)) m λd6 n=>
faK 0 c λd7=>
ldK 1 false d7 n λd8=>
buildK zz7 [(some (0,1),(t 1)),(some (1,1),(I 5)),(some (3,1),d8)] λd9=>
effK (stE 7 a d9 n) n λf2 e0=>
(Zbe P T D N k (upd (upd (upd (upd (upd (upd (upd (upd t 22 e) 9 c) 10 a) 30 d) 31 f) 43 g) 53 j) 6 d6) e0)) else none) (
(Zgk P T D N k (upd (upd (upd (upd (upd (upd (upd t 22 e) 9 c) 10 a) 30 d) 31 f) 43 g) 53 j) b))))) (
k (.exit 1) ((upd t 22 e),h))
noncomputable def Z7k(P:Program)(T:Tab)(D:DTab)(N:Nat){β:Type}(K:Kb β)(e:Ex)(s:St):Option β:=
 e.on ((Zgj P T D N K s.1 s.2))
 (λi=>bif i==1 then ((Zgj P T D N K s.1 s.2)) else (none))
 (K (.tup [(s.1 4),(s.1 5)]) s.2)
noncomputable def Zgl(P:Program)(T:Tab)(D:DTab)(N:Nat){β:Type}(cL2:St→Option β)(K:Kb β)(a0 a1:AV)(h:Hp) :  Option β:=
callK (T 48) [a0] h λe a=>
notK e λb=>
condK b (
K (.tup [nilS,(I 1)]) a) (
callK (T 49) [a1,(I 1),(I 1073741824)] a λf c=>
notK f λd=>
condK d (
K (.tup [nilS,(I 2)]) c) (
lenK a0 λg=>
cL2 ((upd (upd (upd (upd (upd (upd (upd (upd (upd (tm0 [a0,a1]) 4 nilS) 5 (I 0)) 11 b) 15 d) 6 nilS) 7 (I 0)) 19 a0) 20 g) 21 (I 0)),c)))
noncomputable def Zgm(P:Program)(T:Tab)(D:DTab)(N:Nat){β:Type}(K:Kb β)(a0 a1:AV)(h:Hp):Option β:=Zgl P T D N (λs=>iterK (λs k=>Z4A P T D N s.1 s.2 k) N s (Z7k P T D N K)) K a0 a1 h
noncomputable def Z7l(P:Program)(T:Tab)(D:DTab)(N:Nat){β:Type}(K:Kb β)(a:AV)(h:Hp):Option β:=
lenK a λb=>
arithK .gtr b (I 64) λc=>
condK c (
K (.tup [nilS,(I 8)]) h) (
K (.tup [a,(I 0)]) h)
noncomputable def Zp3(P:Program)(T:Tab)(D:DTab)(N:Nat){β:Type}(xn:AV→AV→AV→AV→AV→Kb β)(i:Kb β)(e f g a b c:AV)(h:Hp):Option β:=
arithK .add c (I 1) λd=>
xn e f g a b d h
noncomputable def Zgn(P:Program)(T:Tab)(D:DTab)(N:Nat){β:Type}(xn:AV→AV→AV→AV→AV→Kb β)(d:Kb β)(e f g a b c:AV)(h:Hp):Option β:=
Zp3 P T D N xn d e f g a b c h
noncomputable def Zp4(P:Program)(T:Tab)(D:DTab)(N:Nat){β:Type}(xn:AV→AV→AV→AV→AV→Kb β)(k:Kb β)(l m n b c d e:AV)(h:Hp):Option β:=
ldK 7 true b h λf=>
effK (bsE 7 zz7 1 [(0,f)] (List.length h)) h λg a=>
effK (appE 7 56 m g a (List.length a)) a λi j=>
Zgn P T D N xn k l i n c d e j
noncomputable def Zbf(P:Program)(T:Tab)(D:DTab)(N:Nat){β:Type}(xn:AV→AV→AV→AV→AV→Kb β)(e:Kb β)(f g i a b c d:AV)(h:Hp):Option β:=
Zp4 P T D N xn e f g i a b c d h
noncomputable def Zgo(P:Program)(T:Tab)(D:DTab)(N:Nat){β:Type}(xn:AV→AV→AV→AV→AV→Kb β)(i:Kb β)(g j p e f d:AV)(h:Hp):Option β:=
arithK .lss d f λa4=>
condK a4 (
iaK 5 e d λa5=>
ldK 5 true a5 h λa6=>
effK (boxE 5 (.agg zz5) (List.length h)) h λc q=>
effK (stE 5 c a6 q) q λe6 k=>
faK 0 c λa7=>
ldK 1 false a7 k λa8=>
buildK zz7 [(some (0,1),g),(some (3,1),a8)] λa9=>
effK (boxE 7 (.agg zz7) (List.length k)) k λb r=>
effK (stE 7 b a9 r) r λe7 a=>
faK 1 c λb0=>
ldK 1 false b0 a λl=>
eqK P false 3 l (I 1) a λb1=>
condK b1 (
faK 2 c λs=>
ldK 1 false s a λb2=>
faK 3 c λt=>
ldK 1 false t a λb3=>
faK 4 c λu=>
ldK 1 false u a λb4=>
faK 1 b λb5=>
effD (stE 1 b5 (I 1) a) a λe8 v b6=>
faK 4 b λb7=>
effD (stE 1 b7 b2 v) v λe9 w b8=>
faK 5 b λb9=>
effD (stE 1 b9 b3 w) w λf0 x c0=>
faK 6 b λc1=>
effD (stE 1 c1 b4 x) x λf1 c2 c3=>
bif disjAll [(1,7),(3,7),(5,7),(3,9),(5,9),(5,11)] [([],[]),((idsOf s),[]),([],[]),((idsOf t),[]),([],[]),((idsOf u),[]),([],[]),b6,([],[]),b8,([],[]),c0,([],[]),c3] then (
Zbf P T D N xn i g j p b e f d c2) else none) (
eqK P false 3 l (I 4) a λc4=>
condK c4 (
arithK .add p (I 1) λy=>
faK 3 c λz=>
ldK 1 false z a λc5=>
faK 1 b λc6=>
effD (stE 1 c6 (I 2) a) a λf2 a0 c7=>
faK 2 b λc8=>
effD (stE 1 c8 y a0) a0 λf3 a1 c9=>
faK 5 b λd0=>
effD (stE 1 d0 c5 a1) a1 λf4 d1 d2=>
bif disjAll [(2,4),(2,6)] [([],[]),([],[]),((idsOf z),[]),([],[]),c7,([],[]),c9,([],[]),d2] then (
Zbf P T D N xn i g j y b e f d d1) else none) (
eqK P false 3 l (I 7) a λd3=>
condK d3 (
faK 4 c λa2=>
ldK 1 false a2 a λd4=>
faK 1 b λd5=>
effD (stE 1 d5 (I 3) a) a λf5 a3 d6=>
faK 6 b λd7=>
effD (stE 1 d7 d4 a3) a3 λf6 m d8=>
bif disjAll [(1,3)] [([],[]),((idsOf a2),[]),([],[]),d6,([],[]),d8] then (
ldK 7 true b m λd9=>
effK (bsE 7 zz7 1 [(0,d9)] (List.length m)) m λe0 n=>
effK (appE 7 56 j e0 n (List.length n)) n λe1 o=>
faK 0 c λe2=>
ldK 1 false e2 o λe3=>
buildK zz7 [(some (0,1),g),(some (1,1),(I 5)),(some (3,1),e3)] λe4=>
effK (stE 7 b e4 o) o λf7 e5=>
Zbf P T D N xn i g e1 p b e f d e5) else none) (
Zgn P T D N xn i g j p e f d a)))) (
i j h)
noncomputable def Z3o(P:Program)(T:Tab)(D:DTab)(N:Nat){β:Type}(a:Kb β):Nat→AV→AV→AV→AV→AV→Kb β
 | 0=>λ_ _ _ _ _ _ _=>none
 | n+1=>λe f g b c d h=>Zgo P T D N (Z3o P T D N a n) a e f g b c d h
noncomputable def Z4B(P:Program)(T:Tab)(D:DTab)(N:Nat){β:Type}(K:Kb β)(a0 a1:AV)(h:Hp):Option β:=
callK (T 48) [a0] h λd b=>
notK d λe=>
condK e (
K (.tup [nilS,(I 1)]) b) (
callK (T 49) [a1,(I 1),(I 1073741824)] b λf c=>
notK f λg=>
condK g (
K (.tup [nilS,(I 2)]) c) (
lenK a0 λi=>
Z3o P T D N (λa h=>Z7l P T D N K a h) N a1 nilS (I 0) a0 i (I 0) c))
theorem Zp5(xn:AV→AV→AV→AV→AV→Kb β)(x1:Kb β)(xd:Nat→St→Option β)(xq:St→Option β)(t:Tm)(h:Hp):Z4A P T D N t h (λ(e:Ex)(s:St)=>e.on (xn (s.1 1) (s.1 6) (s.1 7) (s.1 19) (s.1 20) (s.1 21) s.2) (λi=>(bif i==1 then x1 (s.1 6) s.2 else (xd i s))) (xq s))=Zgo P T D N xn x1 (t 1) (t 6) (t 7) (t 19) (t 20) (t 21) h:=by kernel_rfl
theorem Zp6(A:Ex→St→Option β)(x1:Kb β)(q1:∀s,A (.exit 1) s=x1 (s.1 6) s.2):∀(n:Nat)(s:St),iterK (λs k=>Z4A P T D N s.1 s.2 k) n s A=Z3o P T D N x1 n (s.1 1) (s.1 6) (s.1 7) (s.1 19) (s.1 20) (s.1 21) s.2:=
 Z0i (exs1 q1 (λs=>rfl)) (λs=>rfl) λn s=>Zp5 P T D N (Z3o P T D N x1 n) x1 (λi s=>A (.exit i) s) (λs=>A .ret s) s.1 s.2
theorem Zp7(K:Kb β)(a0 a1:AV)(h:Hp):Zgm P T D N K a0 a1 h=Z4B P T D N K a0 a1 h:=by
 have eL2:(λs:St=>iterK (λs k=>Z4A P T D N s.1 s.2 k) N s (Z7k P T D N K))=(λs:St=>Z3o P T D N (λw92_6 h=>Z7l P T D N K w92_6 h) N (s.1 1) (s.1 6) (s.1 7) (s.1 19) (s.1 20) (s.1 21) s.2):=funext λs=>Zp6 P T D N (Z7k P T D N K) (λw92_6 h=>Z7l P T D N K w92_6 h) (λs=>rfl) N s
 show Zgl P T D N (λs=>iterK (λs k=>Z4A P T D N s.1 s.2 k) N s (Z7k P T D N K)) K a0 a1 h=_
 rw[eL2]
 kernel_rfl
theorem Zp8(K:Kb β)(a0 a1:AV)(h:Hp):runK Tryz.prog T D N [0,1,4,5,6,7,9,10,11,15,19,20,21,22,30,31,43,53,74] Tryz.f21 K [a0,a1] h=Z4B Tryz.prog T D N K a0 a1 h:=Eq.trans (b:=Zgm Tryz.prog T D N K a0 a1 h) (by kernel_rfl) (Zp7 Tryz.prog T D N K a0 a1 h)
noncomputable def Z7m(P:Program)(T:Tab)(D:DTab)(N:Nat){β:Type}(K:Kb β)(a0 a1:AV)(h:Hp):Option β:=
effK (boxE 4 (.agg zz4) (List.length h)) h λc h2=>
callK (T 19) [a0] h2 λo p=>
exK o 0 λx5=>
exK o 1 λx6=>
exK o 2 λx7=>
effK (boxE 9 (.agg [I 0, I 0, I 0, I 0, I 0, I 0, I 0,.s (.bool false),.s (.bool false)]) (List.length p)) p λd q=>
effK (stE 9 d x5 q) q λc8 r=>
callK (T 50) [a1] r λe b=>
exK e 0 λc9=>
exK e 1 λt=>
eqK P true 26 x7 (I 0) b λu=>
grpK false u b (λv=>
eqK P true 26 t (I 0) b λw=>
v w b) λx a=>
condK x (
buildK zz4 [] λy=>
effK (stE 4 c y a) a λd0 f=>
ldK 4 true c f λz=>
K (.tup [z,(I 1)]) f) (
faK 8 d λa2=>
ldK 1 false a2 a λa3=>
notK a3 λa4=>
condK a4 (
buildK zz4 [] λa5=>
effK (stE 4 c a5 a) a λd1 g=>
ldK 4 true c g λa6=>
K (.tup [a6,(I 11)]) g) (
faK 0 d λa7=>
ldK 1 false a7 a λa8=>
faK 1 d λa9=>
ldK 1 false a9 a λb0=>
arithK .sub a8 b0 λi=>
iaK 5 a0 (I 0) λb1=>
faK 0 b1 λb2=>
ldK 1 false b2 a λb3=>
lenK a0 λb4=>
arithK .sub b4 (I 1) λb5=>
iaK 5 a0 b5 λb6=>
faK 0 b6 λb7=>
ldK 1 false b7 a λb8=>
callK (T 51) [a1,(I 9),i,b3,b8] a λj k=>
exK j 0 λb9=>
exK j 1 λd2=>
faK 3 d λc0=>
ldK 1 false c0 k λc1=>
callK (T 52) [i,c1,b9,(I 0)] k λl m=>
exK l 0 λc2=>
exK l 1 λc3=>
effK (stE 4 c c2 m) m λd3 n=>
ldK 4 true c n λc4=>
K (.tup [c4,c3]) n))
theorem Zp9(K:Kb β)(a0 a1:AV)(h:Hp):runK Tryz.prog T D N [0,1,4,5,6,8,10,11,12,25,33] Tryz.f22 K [a0,a1] h=Z7m Tryz.prog T D N K a0 a1 h:=by kernel_rfl
noncomputable def Z7n(P:Program)(T:Tab)(D:DTab)(N:Nat){β:Type}(K:Kb β)(a0 a1:AV)(h:Hp):Option β:=
effK (boxE 7 (.agg zz7) (List.length h)) h λa t=>
callK (T 73) [a0] t λi b=>
exK i 0 λu=>
exK i 1 λj=>
eqK P true 26 j (I 0) b λv=>
condK v (
buildK zz7 [] λw=>
effK (stE 7 a w b) b λz d=>
ldK 7 true a d λk=>
K (.tup [k,j]) d) (
arithK .lss a1 (I 1) λl=>
grpK false l b (λm=>
arithK .gtr a1 (I 1073741824) λn=>
m n b) λo c=>
condK o (
buildK zz7 [] λp=>
effK (stE 7 a p c) c λx e=>
ldK 7 true a e λq=>
K (.tup [q,(I 2)]) e) (
callK (T 74) [u,a1] c λr f=>
effK (stE 7 a r f) f λy g=>
ldK 7 true a g λs=>
K (.tup [s,(I 0)]) g))
theorem Zpa(K:Kb β)(a0 a1:AV)(h:Hp):runK Tryz.prog T D N [0,1,4,5,6,7,13,18] Tryz.f30 K [a0,a1] h=Z7n Tryz.prog T D N K a0 a1 h:=by kernel_rfl
noncomputable def Zbg(P:Program)(T:Tab)(D:DTab)(N:Nat){β:Type}(K:Kb β)(a0:AV)(h:Hp):Option β:=
effK (boxE 7 a0 (List.length h)) h λg i=>
ldK 7 true g i λs=>
callK (T 75) [s] i λt c=>
eqK P true 26 t (I 0) c λu=>
condK u (
K (.tup [(I 0),(I 0),(I 1)]) c) (
ldK 7 true g c λv=>
callK (T 76) [v] c λj k=>
exK j 0 λl=>
exK j 1 λm=>
effK (boxE 2 (.agg zz2) (List.length k)) k λn d=>
effK (boxE 2 (.agg zz2) (List.length d)) d λa e=>
effK (stE 2 n l e) e λw f=>
effK (stE 2 a m f) f λx b=>
faK 0 a λo=>
ldK 1 false o b λp=>
faK 1 a λq=>
ldK 1 false q b λr=>
K (.tup [p,r,(I 0)]) b)
theorem Zpb(K:Kb β)(a0:AV)(h:Hp):runK Tryz.prog T D N [0,1,2,3,4,6,9] Tryz.f31 K [a0] h=Zbg Tryz.prog T D N K a0 h:=by kernel_rfl
noncomputable def Zbh(P:Program)(T:Tab)(D:DTab)(N:Nat){β:Type}(K:Kb β)(a0:AV)(h:Hp):Option β:=
effK (boxE 2 a0 (List.length h)) h λb c=>
ldK 2 true b c λd=>
callK (T 77) [d] c λe a=>
notK e λf=>
condK f (
K (.tup [nilS,(I 1)]) a) (
ldK 2 true b a λg=>
callK (T 78) [g] a λi j=>
K (.tup [i,(I 0)]) j)
theorem Zpc(K:Kb β)(a0:AV)(h:Hp):runK Tryz.prog T D N [0,1,2,3,6] Tryz.f32 K [a0] h=Zbh Tryz.prog T D N K a0 h:=by kernel_rfl
noncomputable def Zgp(P:Program)(T:Tab)(D:DTab)(N:Nat){β:Type}(K:Kb β)(t:Tm)(h:Hp):Option β:=
lenK (t 0) λa=>
arithK .gtr (t 11) a λb=>
condK b (
K (.tup [nilS,(I 20)]) h) (
K (.tup [(t 10),(I 0)]) h)
noncomputable def Zpd(P:Program)(T:Tab)(D:DTab)(N:Nat){β:Type}(k:Ex→St→Option β)(t:Tm)(h:Hp):Option β:=
arithK .add (t 30) (I 1) λa=>
k .normal ((upd t 30 a),h)
noncomputable def Zbi(P:Program)(T:Tab)(D:DTab)(N:Nat){β:Type}(k:Ex→St→Option β)(t:Tm)(h:Hp):Option β:=
(Zpd P T D N k t h)
noncomputable def Z4C(P:Program)(T:Tab)(D:DTab)(N:Nat){β:Type}(t:Tm)(h:Hp)(k:Ex→St→Option β):Option β:=
arithK .lss (t 30) (t 29) λb=>
condK b (
convK P 3 187 (t 30) λl=>
callK (T 81) [l] h λa e=>
arithK .gtr a (t 11) λm=>
grpK false m e (λn=>
iaA 1 16384 (t 9) (t 30) λo=>
ldK 1 false o e λp=>
arithK .sub p (t 1) λq=>
callK (T 82) [q] e λr s=>
arithK .gtr r (t 2) λu=>
n u s) λc g=>
condK c (
(Zbi P T D N k (upd (upd (upd (upd t 31 b) 12 (t 30)) 13 a) 48 c) g)) (
callK (T 83) [(t 0),(t 30)] g λd i=>
arithK .lss a (t 11) λv=>
grpK false v i (λw=>
callK (T 84) [d,(t 10)] i λx y=>
arithK .lss x (I 0) λz=>
w z y) λf j=>
condK f (
(Zbi P T D N k (upd (upd (upd (upd (upd (upd (upd (upd t 31 b) 12 (t 30)) 13 a) 48 c) 14 d) 60 f) 10 d) 11 a) j)) (
(Zbi P T D N k (upd (upd (upd (upd (upd (upd t 31 b) 12 (t 30)) 13 a) 48 c) 14 d) 60 f) j)))) (
k (.exit 0) ((upd t 31 b),h))
noncomputable def Z7o(P:Program)(T:Tab)(D:DTab)(N:Nat){β:Type}(K:Kb β)(e:Ex)(s:St):Option β:=
 e.on ((Zgp P T D N K s.1 s.2))
 (λi=>bif i==0 then ((Zgp P T D N K s.1 s.2)) else (none))
 (K (.tup [(s.1 6),(s.1 7)]) s.2)
noncomputable def Zgq(P:Program)(T:Tab)(D:DTab)(N:Nat){β:Type}(cL2:St→Option β)(K:Kb β)(a0 a1 a2:AV)(h:Hp) :  Option β:=
callK (T 79) [a0,a1,a2] h λa b=>
eqK P true 26 a (I 0) b λc=>
condK c (
K (.tup [nilS,a]) b) (
callK (T 80) [a0] b λl d=>
effK (boxE 16384 (.agg (zeroL P 184)) (List.length d)) d λe f=>
effK (stE 16384 e l f) f λn m=>
lenK a0 λg=>
arithK .add g (I 1) λi=>
lenK a0 λj=>
reckK P .shl 3 (I 1) j λk=>
cL2 ((upd (upd (upd (upd (upd (upd (upd (upd (upd (tm0 [a0,a1,a2]) 6 nilS) 7 (I 0)) 8 a) 20 c) 9 e) 10 nilS) 11 i) 29 k) 30 (I 0)),m))
noncomputable def Zgr(P:Program)(T:Tab)(D:DTab)(N:Nat){β:Type}(K:Kb β)(a0 a1 a2:AV)(h:Hp):Option β:=Zgq P T D N (λs=>iterK (λs k=>Z4C P T D N s.1 s.2 k) N s (Z7o P T D N K)) K a0 a1 a2 h
noncomputable def Zbj(P:Program)(T:Tab)(D:DTab)(N:Nat){β:Type}(K:Kb β)(e a b:AV)(h:Hp):Option β:=
lenK e λc=>
arithK .gtr b c λd=>
condK d (
K (.tup [nilS,(I 20)]) h) (
K (.tup [a,(I 0)]) h)
noncomputable def Zpe(P:Program)(T:Tab)(D:DTab)(N:Nat){β:Type}(xn:AV→AV→AV→AV→AV→AV→AV→Kb β)(k:AV→AV→Kb β)(f g i j a b c d:AV)(h:Hp):Option β:=
arithK .add d (I 1) λe=>
xn f g i j a b c e h
noncomputable def Zbk(P:Program)(T:Tab)(D:DTab)(N:Nat){β:Type}(xn:AV→AV→AV→AV→AV→AV→AV→Kb β)(e:AV→AV→Kb β)(f g i j a b c d:AV)(h:Hp):Option β:=
Zpe P T D N xn e f g i j a b c d h
noncomputable def Zgs(P:Program)(T:Tab)(D:DTab)(N:Nat){β:Type}(xn:AV→AV→AV→AV→AV→AV→AV→Kb β)(i:AV→AV→Kb β)(e j k l c b d a:AV)(h:Hp):Option β:=
arithK .lss a d λq=>
condK q (
convK P 3 187 a λr=>
callK (T 81) [r] h λf g=>
arithK .gtr f b λs=>
grpK false s g (λt=>
iaA 1 16384 l a λu=>
ldK 1 false u g λv=>
arithK .sub v j λw=>
callK (T 82) [w] g λx y=>
arithK .gtr x k λz=>
t z y) λa0 m=>
condK a0 (
Zbk P T D N xn i e j k l c b d a m) (
callK (T 83) [e,a] m λn o=>
arithK .lss f b λa1=>
grpK false a1 o (λa2=>
callK (T 84) [n,c] o λa3 a4=>
arithK .lss a3 (I 0) λa5=>
a2 a5 a4) λa6 p=>
condK a6 (
Zbk P T D N xn i e j k l n f d a p) (
Zbk P T D N xn i e j k l c b d a p))) (
i e c b h)
noncomputable def Z4D(P:Program)(T:Tab)(D:DTab)(N:Nat){β:Type}(a:AV→AV→Kb β):Nat→AV→AV→AV→AV→AV→AV→AV→Kb β
 | 0=>λ_ _ _ _ _ _ _ _ _=>none
 | n+1=>λf g i j b c d e h=>Zgs P T D N (Z4D P T D N a n) a f g i j b c d e h
noncomputable def Z7p(P:Program)(T:Tab)(D:DTab)(N:Nat){β:Type}(K:Kb β)(a0 a1 a2:AV)(h:Hp):Option β:=
callK (T 79) [a0,a1,a2] h λe d=>
eqK P true 26 e (I 0) d λn=>
condK n (
K (.tup [nilS,e]) d) (
callK (T 80) [a0] d λo f=>
effK (boxE 16384 (.agg (zeroL P 184)) (List.length f)) f λg i=>
effK (stE 16384 g o i) i λq p=>
lenK a0 λj=>
arithK .add j (I 1) λk=>
lenK a0 λl=>
reckK P .shl 3 (I 1) l λm=>
Z4D P T D N (λc a b h=>Zbj P T D N K c a b h) N a0 a1 a2 g nilS k m (I 0) p)
theorem Zpf(xn:AV→AV→AV→AV→AV→AV→AV→Kb β)(x0:AV→AV→Kb β)(xd:Nat→St→Option β)(xq:St→Option β)(t:Tm)(h:Hp):Z4C P T D N t h (λ(e:Ex)(s:St)=>e.on (xn (s.1 0) (s.1 1) (s.1 2) (s.1 9) (s.1 10) (s.1 11) (s.1 29) (s.1 30) s.2) (λi=>(bif i==0 then x0 (s.1 0) (s.1 10) (s.1 11) s.2 else (xd i s))) (xq s))=Zgs P T D N xn x0 (t 0) (t 1) (t 2) (t 9) (t 10) (t 11) (t 29) (t 30) h:=by kernel_rfl
theorem Zpg(A:Ex→St→Option β)(x0:AV→AV→Kb β)(q0:∀s,A (.exit 0) s=x0 (s.1 0) (s.1 10) (s.1 11) s.2):∀(n:Nat)(s:St),iterK (λs k=>Z4C P T D N s.1 s.2 k) n s A=Z4D P T D N x0 n (s.1 0) (s.1 1) (s.1 2) (s.1 9) (s.1 10) (s.1 11) (s.1 29) (s.1 30) s.2:=
 Z0i (exs1 q0 (λs=>rfl)) (λs=>rfl) λn s=>Zpf P T D N (Z4D P T D N x0 n) x0 (λi s=>A (.exit i) s) (λs=>A .ret s) s.1 s.2
theorem Zph(K:Kb β)(a0 a1 a2:AV)(h:Hp):Zgr P T D N K a0 a1 a2 h=Z7p P T D N K a0 a1 a2 h:=by
 have eL2:(λs:St=>iterK (λs k=>Z4C P T D N s.1 s.2 k) N s (Z7o P T D N K))=(λs:St=>Z4D P T D N (λw40_0 w40_10 w40_11 h=>Zbj P T D N K w40_0 w40_10 w40_11 h) N (s.1 0) (s.1 1) (s.1 2) (s.1 9) (s.1 10) (s.1 11) (s.1 29) (s.1 30) s.2):=funext λs=>Zpg P T D N (Z7o P T D N K) (λw40_0 w40_10 w40_11 h=>Zbj P T D N K w40_0 w40_10 w40_11 h) (λs=>rfl) N s
 show Zgq P T D N (λs=>iterK (λs k=>Z4C P T D N s.1 s.2 k) N s (Z7o P T D N K)) K a0 a1 a2 h=_
 rw[eL2]
 kernel_rfl
theorem Zpi(K:Kb β)(a0 a1 a2:AV)(h:Hp):runK Tryz.prog T D N [0,1,2,6,7,8,9,10,11,12,13,14,20,29,30,31,48,60,67] Tryz.f33 K [a0,a1,a2] h=Z7p Tryz.prog T D N K a0 a1 a2 h:=Eq.trans (b:=Zgr Tryz.prog T D N K a0 a1 a2 h) (by kernel_rfl) (Zph Tryz.prog T D N K a0 a1 a2 h)
noncomputable def Z7q(P:Program)(T:Tab)(D:DTab)(N:Nat){β:Type}(K:Kb β)(a0:AV)(h:Hp):Option β:=
eqK P false 3 a0 (I 1) h λa=>
condK a (
K (.fn 85 []) h) (
eqK P false 3 a0 (I 2) h λb=>
condK b (
K (.fn 86 []) h) (
K (.s (.nilFunc)) h))
theorem Zpj(K:Kb β)(a0:AV)(h:Hp):runK Tryz.prog T D N [0,2,3,4,6] Tryz.f34 K [a0] h=Z7q Tryz.prog T D N K a0 h:=by kernel_rfl
noncomputable def Zgt(P:Program)(T:Tab)(D:DTab)(N:Nat){β:Type}(K:Kb β)(t:Tm)(h:Hp):Option β:=
sliceK 4 (t 0) (some (t 5)) none none λa=>
effK (clrE 4 zz4 a h) h λd b=>
sliceK 4 (t 0) none (some (t 5)) none λc=>
K c b
noncomputable def Zpk(P:Program)(T:Tab)(D:DTab)(N:Nat){β:Type}(k:Ex→St→Option β)(t:Tm)(h:Hp):Option β:=
arithK .add (t 6) (I 1) λa=>
k .normal ((upd t 6 a),h)
noncomputable def Zgu(P:Program)(T:Tab)(D:DTab)(N:Nat){β:Type}(k:Ex→St→Option β)(t:Tm)(h:Hp):Option β:=
(Zpk P T D N k t h)
noncomputable def Z4E(P:Program)(T:Tab)(D:DTab)(N:Nat){β:Type}(t:Tm)(h:Hp)(k:Ex→St→Option β):Option β:=
lenK (t 0) λq=>
arithK .lss (t 6) q λb=>
condK b (
iaK 4 (t 0) (t 6) λg=>
ldK 4 true g h λi=>
effK (boxE 4 (.agg zz4) (List.length h)) h λa e=>
effK (stE 4 a i e) e λr f=>
ldK 4 true a f λj=>
callVK T (t 1) [j] f λl c=>
notK l λd=>
condK d (
ldK 4 true a c λm=>
iaK 4 (t 0) (t 5) λn=>
effK (stE 4 n m c) c λs o=>
arithK .add (t 5) (I 1) λp=>
(Zgu P T D N k (upd (upd (upd (upd t 19 b) 7 a) 29 d) 5 p) o)) (
(Zgu P T D N k (upd (upd (upd t 19 b) 7 a) 29 d) c))) (
k (.exit 0) ((upd t 19 b),h))
noncomputable def Z7r(P:Program)(T:Tab)(D:DTab)(N:Nat){β:Type}(K:Kb β)(e:Ex)(s:St):Option β:=
 e.on ((Zgt P T D N K s.1 s.2))
 (λi=>bif i==0 then ((Zgt P T D N K s.1 s.2)) else (none))
 (K (s.1 4) s.2)
noncomputable def Zgv(P:Program)(T:Tab)(D:DTab)(N:Nat){β:Type}(cL2:St→Option β)(K:Kb β)(a0 a1:AV)(h:Hp) :  Option β:=
callK (T 44) [a0,a1] h λa b=>
eqK P false 3 a (.s (.int .i64 (-1))) b λc=>
condK c (
K a0 b) (
arithK .add a (I 1) λd=>
cL2 ((upd (upd (upd (upd (tm0 [a0,a1]) 4 nilS) 5 a) 12 c) 6 d),b))
noncomputable def Zgw(P:Program)(T:Tab)(D:DTab)(N:Nat){β:Type}(K:Kb β)(a0 a1:AV)(h:Hp):Option β:=Zgv P T D N (λs=>iterK (λs k=>Z4E P T D N s.1 s.2 k) N s (Z7r P T D N K)) K a0 a1 h
noncomputable def Z4F(P:Program)(T:Tab)(D:DTab)(N:Nat){β:Type}(K:Kb β)(a b:AV)(h:Hp):Option β:=
sliceK 4 a (some b) none none λc=>
effK (clrE 4 zz4 c h) h λf d=>
sliceK 4 a none (some b) none λe=>
K e d
noncomputable def Zbl(P:Program)(T:Tab)(D:DTab)(N:Nat){β:Type}(xn:AV→AV→AV→Kb β)(f:AV→Kb β)(b c d e:AV)(h:Hp):Option β:=
arithK .add e (I 1) λa=>
xn b c d a h
noncomputable def Z7s(P:Program)(T:Tab)(D:DTab)(N:Nat){β:Type}(xn:AV→AV→AV→Kb β)(a:AV→Kb β)(b c d e:AV)(h:Hp):Option β:=
Zbl P T D N xn a b c d e h
noncomputable def Z2c(P:Program)(T:Tab)(D:DTab)(N:Nat){β:Type}(xn:AV→AV→AV→Kb β)(i:AV→Kb β)(b j d e:AV)(h:Hp):Option β:=
lenK b λu=>
arithK .lss e u λk=>
condK k (
iaK 4 b e λl=>
ldK 4 true l h λm=>
effK (boxE 4 (.agg zz4) (List.length h)) h λc f=>
effK (stE 4 c m f) f λv g=>
ldK 4 true c g λn=>
callVK T j [n] g λo a=>
notK o λp=>
condK p (
ldK 4 true c a λq=>
iaK 4 b d λr=>
effK (stE 4 r q a) a λw s=>
arithK .add d (I 1) λt=>
Z7s P T D N xn i b j t e s) (
Z7s P T D N xn i b j d e a)) (
i b d h)
noncomputable def Z1p(P:Program)(T:Tab)(D:DTab)(N:Nat){β:Type}(a:AV→Kb β):Nat→AV→AV→AV→Kb β
 | 0=>λ_ _ _ _ _=>none
 | n+1=>λb c d e h=>Z2c P T D N (Z1p P T D N a n) a b c d e h
noncomputable def Z2d(P:Program)(T:Tab)(D:DTab)(N:Nat){β:Type}(K:Kb β)(a0 a1:AV)(h:Hp):Option β:=
callK (T 44) [a0,a1] h λc d=>
eqK P false 3 c (.s (.int .i64 (-1))) d λe=>
condK e (
K a0 d) (
arithK .add c (I 1) λf=>
Z1p P T D N (λa b h=>Z4F P T D N K a b h) N a0 a1 c f d)
theorem Zpl(xn:AV→AV→AV→Kb β)(x0:AV→Kb β)(xd:Nat→St→Option β)(xq:St→Option β)(t:Tm)(h:Hp):Z4E P T D N t h (λ(e:Ex)(s:St)=>e.on (xn (s.1 0) (s.1 1) (s.1 5) (s.1 6) s.2) (λi=>(bif i==0 then x0 (s.1 0) (s.1 5) s.2 else (xd i s))) (xq s))=Z2c P T D N xn x0 (t 0) (t 1) (t 5) (t 6) h:=by kernel_rfl
theorem Zpm(A:Ex→St→Option β)(x0:AV→Kb β)(q0:∀s,A (.exit 0) s=x0 (s.1 0) (s.1 5) s.2):∀(n:Nat)(s:St),iterK (λs k=>Z4E P T D N s.1 s.2 k) n s A=Z1p P T D N x0 n (s.1 0) (s.1 1) (s.1 5) (s.1 6) s.2:=
 Z0i (exs1 q0 (λs=>rfl)) (λs=>rfl) λn s=>Zpl P T D N (Z1p P T D N x0 n) x0 (λi s=>A (.exit i) s) (λs=>A .ret s) s.1 s.2
theorem Zpn(K:Kb β)(a0 a1:AV)(h:Hp):Zgw P T D N K a0 a1 h=Z2d P T D N K a0 a1 h:=by
 have eL2:(λs:St=>iterK (λs k=>Z4E P T D N s.1 s.2 k) N s (Z7r P T D N K))=(λs:St=>Z1p P T D N (λw27_0 w27_5 h=>Z4F P T D N K w27_0 w27_5 h) N (s.1 0) (s.1 1) (s.1 5) (s.1 6) s.2):=funext λs=>Zpm P T D N (Z7r P T D N K) (λw27_0 w27_5 h=>Z4F P T D N K w27_0 w27_5 h) (λs=>rfl) N s
 show Zgv P T D N (λs=>iterK (λs k=>Z4E P T D N s.1 s.2 k) N s (Z7r P T D N K)) K a0 a1 h=_
 rw[eL2]
 kernel_rfl
theorem Zpo(K:Kb β)(a0 a1:AV)(h:Hp):runK Tryz.prog T D N [0,1,4,5,6,7,12,19,29] Tryz.f35 K [a0,a1] h=Z2d Tryz.prog T D N K a0 a1 h:=Eq.trans (b:=Zgw Tryz.prog T D N K a0 a1 h) (by kernel_rfl) (Zpn Tryz.prog T D N K a0 a1 h)
noncomputable def Z7t(P:Program)(T:Tab)(D:DTab)(N:Nat){β:Type}(K:Kb β)(a0 a1 a2:AV)(h:Hp):Option β:=
effK (boxE 4 a0 (List.length h)) h λc a=>
ldK 1 false a1 a λd=>
ldK 4 true c a λe=>
effD (callVE D d [e] a (List.length a)) a λf b g=>
ldK 1 false a2 b λi=>
eqK P false 3 f i b λj=>
bif disjAll [(2,3)] [((idsOf a1),[]),((idsOf c),[]),g,((idsOf a2),[]),([],[]),([],[])] then (
K j b) else none
theorem Zpp(K:Kb β)(a0 a1 a2:AV)(h:Hp):runK Tryz.prog T D N [0,1,2,3,4] Tryz.f36 K [a0,a1,a2] h=Z7t Tryz.prog T D N K a0 a1 a2 h:=by kernel_rfl
noncomputable def Z7u(P:Program)(T:Tab)(D:DTab)(N:Nat){β:Type}(K:Kb β)(a0:AV)(h:Hp):Option β:=
callK (T 87) [a0] h λa b=>
exK a 0 λe=>
exK a 1 λc=>
eqK P false 26 c (I 0) b λd=>
K d b
theorem Zpq(K:Kb β)(a0:AV)(h:Hp):runK Tryz.prog T D N [0,2,4] Tryz.f37 K [a0] h=Z7u Tryz.prog T D N K a0 h:=by kernel_rfl
noncomputable def Z7v(P:Program)(T:Tab)(D:DTab)(N:Nat){β:Type}(K:Kb β)(a0:AV)(h:Hp):Option β:=
effK (boxE 1 a0 (List.length h)) h λa b=>
K (.fn 90 [a]) b
theorem Zpr(K:Kb β)(a0:AV)(h:Hp):runK Tryz.prog T D N [0,1,2] Tryz.f39 K [a0] h=Z7v Tryz.prog T D N K a0 h:=by kernel_rfl
noncomputable def Zgx(P:Program)(T:Tab)(D:DTab)(N:Nat){β:Type}(K:Kb β)(t:Tm)(h:Hp):Option β:=
K (t 5) h
noncomputable def Z4G(P:Program)(T:Tab)(D:DTab)(N:Nat){β:Type}(t:Tm)(h:Hp)(k:Ex→St→Option β):Option β:=
arithK .lss (t 11) (t 10) λi=>
condK i (
iaK 4 (t 9) (t 11) λx5=>
ldK 4 true x5 h λx6=>
effK (boxE 4 (.agg zz4) (List.length h)) h λa j=>
effK (stE 4 a x6 j) j λx9 b=>
ldK 4 true a b λl=>
effD (callVE D (t 1) [l] b (List.length b)) b λm c n=>
ldK 4 true a c λo=>
effD (callVE D (t 1) [o] c (List.length c)) c λp d q=>
lookK P 3 nilS false (t 5) p d λr=>
faK 3 a λf=>
ldK 1 false f d λs=>
effD (bsE 1 [I 0] 1 [(0,s)] (List.length d)) d λu e v=>
effD (appE 1 8 r u e (List.length e)) e λw g x=>
effD (mupE P 3 (t 5) m w g) g λa3 y z=>
bif disjAll [(3,6),(3,10),(7,10),(2,11),(3,11),(6,11),(7,11),(8,11)] [([],[]),([],[]),((idsOf a),[]),n,([],[]),([],[]),((idsOf a),[]),q,((idsOf (t 5)),[]),([],[]),((idsOf f),[]),v,x,z] then (
arithK .add (t 11) (I 1) λa0=>
k .normal ((upd (upd (upd t 12 i) 7 a) 11 a0),y)) else none) (
k (.exit 0) ((upd t 12 i),h))
noncomputable def Z7w(P:Program)(T:Tab)(D:DTab)(N:Nat){β:Type}(K:Kb β)(e:Ex)(s:St):Option β:=
 e.on ((Zgx P T D N K s.1 s.2))
 (λi=>bif i==0 then ((Zgx P T D N K s.1 s.2)) else (none))
 (K (s.1 4) s.2)
noncomputable def Zgy(P:Program)(T:Tab)(D:DTab)(N:Nat){β:Type}(cL2:St→Option β)(K:Kb β)(a0 a1:AV)(h:Hp) :  Option β:=
effK (some (.mp (List.length h),EN (.map []))) h λa b=>
lenK a0 λc=>
cL2 ((upd (upd (upd (upd (upd (tm0 [a0,a1]) 4 (.s (.map none))) 5 a) 9 a0) 10 c) 11 (I 0)),b)
noncomputable def Zgz(P:Program)(T:Tab)(D:DTab)(N:Nat){β:Type}(K:Kb β)(a0 a1:AV)(h:Hp):Option β:=Zgy P T D N (λs=>iterK (λs k=>Z4G P T D N s.1 s.2 k) N s (Z7w P T D N K)) K a0 a1 h
noncomputable def Z2B(P:Program)(T:Tab)(D:DTab)(N:Nat){β:Type}(K:Kb β)(a:AV)(h:Hp):Option β:=
K a h
noncomputable def Z3p(P:Program)(T:Tab)(D:DTab)(N:Nat){β:Type}(xn:AV→AV→AV→AV→Kb β)(x0:Kb β)(l e m i f:AV)(h:Hp):Option β:=
arithK .lss f i λx4=>
condK x4 (
iaK 4 m f λx5=>
ldK 4 true x5 h λx6=>
effK (boxE 4 (.agg zz4) (List.length h)) h λd n=>
effK (stE 4 d x6 n) n λx9 a=>
ldK 4 true d a λo=>
effD (callVE D l [o] a (List.length a)) a λp b q=>
ldK 4 true d b λr=>
effD (callVE D l [r] b (List.length b)) b λs c t=>
lookK P 3 nilS false e s c λu=>
faK 3 d λj=>
ldK 1 false j c λv=>
effD (bsE 1 [I 0] 1 [(0,v)] (List.length c)) c λw g x=>
effD (appE 1 8 u w g (List.length g)) g λy k z=>
effD (mupE P 3 e p y k) k λa7 a0 a1=>
bif disjAll [(3,6),(3,10),(7,10),(2,11),(3,11),(6,11),(7,11),(8,11)] [([],[]),([],[]),((idsOf d),[]),q,([],[]),([],[]),((idsOf d),[]),t,((idsOf e),[]),([],[]),((idsOf j),[]),x,z,a1] then (
arithK .add f (I 1) λa2=>
xn l e m i a2 a0) else none) (
x0 e h)
noncomputable def Z2e(P:Program)(T:Tab)(D:DTab)(N:Nat){β:Type}(a:Kb β):Nat→AV→AV→AV→AV→Kb β
 | 0=>λ_ _ _ _ _ _=>none
 | n+1=>λd e f b c h=>Z3p P T D N (Z2e P T D N a n) a d e f b c h
noncomputable def Z4H(P:Program)(T:Tab)(D:DTab)(N:Nat){β:Type}(K:Kb β)(a0 a1:AV)(h:Hp):Option β:=
effK (some (.mp (List.length h),EN (.map []))) h λb c=>
lenK a0 λd=>
Z2e P T D N (λa h=>Z2B P T D N K a h) N a1 b a0 d (I 0) c
theorem Zps(xn:AV→AV→AV→AV→Kb β)(x0:Kb β)(xd:Nat→St→Option β)(xq:St→Option β)(t:Tm)(h:Hp):Z4G P T D N t h (λ(e:Ex)(s:St)=>e.on (xn (s.1 1) (s.1 5) (s.1 9) (s.1 10) (s.1 11) s.2) (λi=>(bif i==0 then x0 (s.1 5) s.2 else (xd i s))) (xq s))=Z3p P T D N xn x0 (t 1) (t 5) (t 9) (t 10) (t 11) h:=by kernel_rfl
theorem Zpt(A:Ex→St→Option β)(x0:Kb β)(q0:∀s,A (.exit 0) s=x0 (s.1 5) s.2):∀(n:Nat)(s:St),iterK (λs k=>Z4G P T D N s.1 s.2 k) n s A=Z2e P T D N x0 n (s.1 1) (s.1 5) (s.1 9) (s.1 10) (s.1 11) s.2:=
 Z0i (exs1 q0 (λs=>rfl)) (λs=>rfl) λn s=>Zps P T D N (Z2e P T D N x0 n) x0 (λi s=>A (.exit i) s) (λs=>A .ret s) s.1 s.2
theorem Zpu(K:Kb β)(a0 a1:AV)(h:Hp):Zgz P T D N K a0 a1 h=Z4H P T D N K a0 a1 h:=by
 have eL2:(λs:St=>iterK (λs k=>Z4G P T D N s.1 s.2 k) N s (Z7w P T D N K))=(λs:St=>Z2e P T D N (λw32_5 h=>Z2B P T D N K w32_5 h) N (s.1 1) (s.1 5) (s.1 9) (s.1 10) (s.1 11) s.2):=funext λs=>Zpt P T D N (Z7w P T D N K) (λw32_5 h=>Z2B P T D N K w32_5 h) (λs=>rfl) N s
 show Zgy P T D N (λs=>iterK (λs k=>Z4G P T D N s.1 s.2 k) N s (Z7w P T D N K)) K a0 a1 h=_
 rw[eL2]
 kernel_rfl
theorem Zpv(K:Kb β)(a0 a1:AV)(h:Hp):runK Tryz.prog T D N [0,1,4,5,7,9,10,11,12] Tryz.f40 K [a0,a1] h=Z4H Tryz.prog T D N K a0 a1 h:=Eq.trans (b:=Zgz Tryz.prog T D N K a0 a1 h) (by kernel_rfl) (Zpu Tryz.prog T D N K a0 a1 h)
noncomputable def Z7x(P:Program)(T:Tab)(D:DTab)(N:Nat){β:Type}(K:Kb β)(a0 a1 a2:AV)(h:Hp):Option β:=
callK (T 10) [a0,a1,a2] h λb a=>
exK b 0 λk=>
exK b 1 λd=>
exK b 2 λe=>
eqK P true 26 e (I 0) a λl=>
condK l (
K (.tup [(I 0),(I 0),e]) a) (
lenK d λm=>
eqK P false 3 m (I 0) a λn=>
condK n (
K (.tup [(I 0),(I 0),(I 9)]) a) (
callK (T 91) [k,d] a λc f=>
exK c 0 λg=>
exK c 1 λi=>
exK c 2 λj=>
K (.tup [g,i,j]) f))
theorem Zpw(K:Kb β)(a0 a1 a2:AV)(h:Hp):runK Tryz.prog T D N [0,1,2,6,7,8,9,10,11,20,24] Tryz.f41 K [a0,a1,a2] h=Z7x Tryz.prog T D N K a0 a1 a2 h:=by kernel_rfl
noncomputable def ZgA(P:Program)(T:Tab)(D:DTab)(N:Nat){β:Type}(K:Kb β)(t:Tm)(h:Hp):Option β:=
K (t 7) h
noncomputable def Zpx(P:Program)(T:Tab)(D:DTab)(N:Nat){β:Type}(k:Ex→St→Option β)(t:Tm)(h:Hp):Option β:=
arithK .add (t 12) (I 1) λa=>
k .normal ((upd t 12 a),h)
noncomputable def ZgB(P:Program)(T:Tab)(D:DTab)(N:Nat){β:Type}(k:Ex→St→Option β)(t:Tm)(h:Hp):Option β:=
(Zpx P T D N k t h)
noncomputable def Z4I(P:Program)(T:Tab)(D:DTab)(N:Nat){β:Type}(t:Tm)(h:Hp)(k:Ex→St→Option β):Option β:=
arithK .lss (t 12) (t 11) λe=>
condK e (
iaK 4 (t 10) (t 12) λq=>
ldK 4 true q h λr=>
effK (boxE 4 (.agg zz4) (List.length h)) h λb f=>
effK (stE 4 b r f) f λs g=>
ldK 4 true b g λi=>
callVK T (t 1) [i] g λj a=>
eqK P true 3 j (t 2) a λc=>
condK c (
faK 3 b λl=>
ldK 1 false l a λm=>
effK (bsE 1 [I 0] 1 [(0,m)] (List.length a)) a λn d=>
effK (appE 1 8 (t 7) n d (List.length d)) d λo p=>
(ZgB P T D N k (upd (upd (upd (upd t 13 e) 9 b) 20 c) 7 o) p)) (
(ZgB P T D N k (upd (upd (upd t 13 e) 9 b) 20 c) a))) (
k (.exit 0) ((upd t 13 e),h))
noncomputable def Z7y(P:Program)(T:Tab)(D:DTab)(N:Nat){β:Type}(K:Kb β)(e:Ex)(s:St):Option β:=
 e.on ((ZgA P T D N K s.1 s.2))
 (λi=>bif i==0 then ((ZgA P T D N K s.1 s.2)) else (none))
 (K (s.1 6) s.2)
noncomputable def ZgC(P:Program)(T:Tab)(D:DTab)(N:Nat){β:Type}(cL2:St→Option β)(K:Kb β)(a0 a1 a2:AV)(h:Hp) :  Option β:=
lenK a0 λa=>
cL2 ((upd (upd (upd (upd (upd (tm0 [a0,a1,a2]) 6 nilS) 7 nilS) 10 a0) 11 a) 12 (I 0)),h)
noncomputable def ZgD(P:Program)(T:Tab)(D:DTab)(N:Nat){β:Type}(K:Kb β)(a0 a1 a2:AV)(h:Hp):Option β:=ZgC P T D N (λs=>iterK (λs k=>Z4I P T D N s.1 s.2 k) N s (Z7y P T D N K)) K a0 a1 a2 h
noncomputable def Zbm(P:Program)(T:Tab)(D:DTab)(N:Nat){β:Type}(K:Kb β)(a:AV)(h:Hp):Option β:=
K a h
noncomputable def Zbn(P:Program)(T:Tab)(D:DTab)(N:Nat){β:Type}(xn:AV→AV→AV→AV→AV→Kb β)(i:Kb β)(d e f a b c:AV)(h:Hp):Option β:=
arithK .add c (I 1) λg=>
xn d e f a b g h
noncomputable def Z7z(P:Program)(T:Tab)(D:DTab)(N:Nat){β:Type}(xn:AV→AV→AV→AV→AV→Kb β)(d:Kb β)(e f g a b c:AV)(h:Hp):Option β:=
Zbn P T D N xn d e f g a b c h
noncomputable def Z4J(P:Program)(T:Tab)(D:DTab)(N:Nat){β:Type}(xn:AV→AV→AV→AV→AV→Kb β)(f:Kb β)(g i j c d b:AV)(h:Hp):Option β:=
arithK .lss b d λv=>
condK v (
iaK 4 c b λw=>
ldK 4 true w h λx=>
effK (boxE 4 (.agg zz4) (List.length h)) h λk l=>
effK (stE 4 k x l) l λy m=>
ldK 4 true k m λn=>
callVK T g [n] m λo a=>
eqK P true 3 o i a λp=>
condK p (
faK 3 k λq=>
ldK 1 false q a λr=>
effK (bsE 1 [I 0] 1 [(0,r)] (List.length a)) a λs e=>
effK (appE 1 8 j s e (List.length e)) e λt u=>
Z7z P T D N xn f g i t c d b u) (
Z7z P T D N xn f g i j c d b a)) (
f j h)
noncomputable def Z2C(P:Program)(T:Tab)(D:DTab)(N:Nat){β:Type}(a:Kb β):Nat→AV→AV→AV→AV→AV→Kb β
 | 0=>λ_ _ _ _ _ _ _=>none
 | n+1=>λe f g b c d h=>Z4J P T D N (Z2C P T D N a n) a e f g b c d h
noncomputable def Z3q(P:Program)(T:Tab)(D:DTab)(N:Nat){β:Type}(K:Kb β)(a0 a1 a2:AV)(h:Hp):Option β:=
lenK a0 λb=>
Z2C P T D N (λa h=>Zbm P T D N K a h) N a1 a2 nilS a0 b (I 0) h
theorem Zpy(xn:AV→AV→AV→AV→AV→Kb β)(x0:Kb β)(xd:Nat→St→Option β)(xq:St→Option β)(t:Tm)(h:Hp):Z4I P T D N t h (λ(e:Ex)(s:St)=>e.on (xn (s.1 1) (s.1 2) (s.1 7) (s.1 10) (s.1 11) (s.1 12) s.2) (λi=>(bif i==0 then x0 (s.1 7) s.2 else (xd i s))) (xq s))=Z4J P T D N xn x0 (t 1) (t 2) (t 7) (t 10) (t 11) (t 12) h:=by kernel_rfl
theorem Zpz(A:Ex→St→Option β)(x0:Kb β)(q0:∀s,A (.exit 0) s=x0 (s.1 7) s.2):∀(n:Nat)(s:St),iterK (λs k=>Z4I P T D N s.1 s.2 k) n s A=Z2C P T D N x0 n (s.1 1) (s.1 2) (s.1 7) (s.1 10) (s.1 11) (s.1 12) s.2:=
 Z0i (exs1 q0 (λs=>rfl)) (λs=>rfl) λn s=>Zpy P T D N (Z2C P T D N x0 n) x0 (λi s=>A (.exit i) s) (λs=>A .ret s) s.1 s.2
theorem ZpA(K:Kb β)(a0 a1 a2:AV)(h:Hp):ZgD P T D N K a0 a1 a2 h=Z3q P T D N K a0 a1 a2 h:=by
 have eL2:(λs:St=>iterK (λs k=>Z4I P T D N s.1 s.2 k) N s (Z7y P T D N K))=(λs:St=>Z2C P T D N (λw20_7 h=>Zbm P T D N K w20_7 h) N (s.1 1) (s.1 2) (s.1 7) (s.1 10) (s.1 11) (s.1 12) s.2):=funext λs=>Zpz P T D N (Z7y P T D N K) (λw20_7 h=>Zbm P T D N K w20_7 h) (λs=>rfl) N s
 show ZgC P T D N (λs=>iterK (λs k=>Z4I P T D N s.1 s.2 k) N s (Z7y P T D N K)) K a0 a1 a2 h=_
 rw[eL2]
 kernel_rfl
theorem ZpB(K:Kb β)(a0 a1 a2:AV)(h:Hp):runK Tryz.prog T D N [0,1,2,6,7,9,10,11,12,13,20] Tryz.f42 K [a0,a1,a2] h=Z3q Tryz.prog T D N K a0 a1 a2 h:=Eq.trans (b:=ZgD Tryz.prog T D N K a0 a1 a2 h) (by kernel_rfl) (ZpA Tryz.prog T D N K a0 a1 a2 h)
noncomputable def ZgE(P:Program)(T:Tab)(D:DTab)(N:Nat){β:Type}(K:Kb β)(t:Tm)(h:Hp):Option β:=
K (.s (.int .i64 (-1))) h
noncomputable def Z4K(P:Program)(T:Tab)(D:DTab)(N:Nat){β:Type}(t:Tm)(h:Hp)(k:Ex→St→Option β):Option β:=
arithK .lss (t 8) (t 7) λa=>
condK a (
iaK 1 (t 0) (t 8) λd=>
ldK 1 false d h λe=>
callVK T (t 1) [e] h λb c=>
condK b (
k .ret ((upd (upd (upd (upd t 9 a) 5 (t 8)) 16 b) 4 (t 8)),c)) (
arithK .add (t 8) (I 1) λf=>
k .normal ((upd (upd (upd (upd t 9 a) 5 (t 8)) 16 b) 8 f),c))) (
k (.exit 0) ((upd t 9 a),h))
noncomputable def Z7A(P:Program)(T:Tab)(D:DTab)(N:Nat){β:Type}(K:Kb β)(e:Ex)(s:St):Option β:=
 e.on ((ZgE P T D N K s.1 s.2))
 (λi=>bif i==0 then ((ZgE P T D N K s.1 s.2)) else (none))
 (K (s.1 4) s.2)
noncomputable def ZgF(P:Program)(T:Tab)(D:DTab)(N:Nat){β:Type}(cL2:St→Option β)(K:Kb β)(a0 a1:AV)(h:Hp) :  Option β:=
lenK a0 λa=>
cL2 ((upd (upd (upd (tm0 [a0,a1]) 4 (I 0)) 7 a) 8 (I 0)),h)
noncomputable def ZgG(P:Program)(T:Tab)(D:DTab)(N:Nat){β:Type}(K:Kb β)(a0 a1:AV)(h:Hp):Option β:=ZgF P T D N (λs=>iterK (λs k=>Z4K P T D N s.1 s.2 k) N s (Z7A P T D N K)) K a0 a1 h
noncomputable def Zbo(P:Program)(T:Tab)(D:DTab)(N:Nat){β:Type}(K:Kb β)(h:Hp):Option β:=
K (.s (.int .i64 (-1))) h
noncomputable def Z4L(P:Program)(T:Tab)(D:DTab)(N:Nat){β:Type}(xn:AV→AV→AV→Kb β)(f:Qb β)(xr:Kb β)(b c d a:AV)(h:Hp):Option β:=
arithK .lss a d λg=>
condK g (
iaK 1 b a λi=>
ldK 1 false i h λj=>
callVK T c [j] h λk e=>
condK k (
xr a e) (
arithK .add a (I 1) λl=>
xn b c d l e)) (
f h)
noncomputable def Z2D(P:Program)(T:Tab)(D:DTab)(N:Nat){β:Type}(a:Qb β)(xr:Kb β):Nat→AV→AV→AV→Kb β
 | 0=>λ_ _ _ _ _=>none
 | n+1=>λb c d e h=>Z4L P T D N (Z2D P T D N a xr n) a xr b c d e h
noncomputable def Z4M(P:Program)(T:Tab)(D:DTab)(N:Nat){β:Type}(K:Kb β)(a0 a1:AV)(h:Hp):Option β:=
lenK a0 λb=>
Z2D P T D N (λh=>Zbo P T D N K h) (λa h=>K a h) N a0 a1 b (I 0) h
theorem ZpC(xn:AV→AV→AV→Kb β)(x0:Qb β)(xr:Kb β)(xd:Nat→St→Option β)(xq:St→Option β)(t:Tm)(h:Hp):Z4K P T D N t h (λ(e:Ex)(s:St)=>e.on (xn (s.1 0) (s.1 1) (s.1 7) (s.1 8) s.2) (λi=>(bif i==0 then x0 s.2 else (xd i s))) (xr (s.1 4) s.2))=Z4L P T D N xn x0 xr (t 0) (t 1) (t 7) (t 8) h:=by kernel_rfl
theorem ZpD(A:Ex→St→Option β)(x0:Qb β)(xr:Kb β)(q0:∀s,A (.exit 0) s=x0 s.2)(qr:∀s,A .ret s=xr (s.1 4) s.2):∀(n:Nat)(s:St),iterK (λs k=>Z4K P T D N s.1 s.2 k) n s A=Z2D P T D N x0 xr n (s.1 0) (s.1 1) (s.1 7) (s.1 8) s.2:=
 Z0i (exs1 q0 qr) (λs=>rfl) λn s=>ZpC P T D N (Z2D P T D N x0 xr n) x0 xr (λi s=>A (.exit i) s) (λs=>A .ret s) s.1 s.2
theorem ZpE(K:Kb β)(a0 a1:AV)(h:Hp):ZgG P T D N K a0 a1 h=Z4M P T D N K a0 a1 h:=by
 have eL2:(λs:St=>iterK (λs k=>Z4K P T D N s.1 s.2 k) N s (Z7A P T D N K))=(λs:St=>Z2D P T D N (λh=>Zbo P T D N K h) (λw9_4 h=>K w9_4 h) N (s.1 0) (s.1 1) (s.1 7) (s.1 8) s.2):=funext λs=>ZpD P T D N (Z7A P T D N K) (λh=>Zbo P T D N K h) (λw9_4 h=>K w9_4 h) (λs=>rfl) (λs=>rfl) N s
 show ZgF P T D N (λs=>iterK (λs k=>Z4K P T D N s.1 s.2 k) N s (Z7A P T D N K)) K a0 a1 h=_
 rw[eL2]
 kernel_rfl
theorem ZpF(K:Kb β)(a0 a1:AV)(h:Hp):runK Tryz.prog T D N [0,1,4,5,7,8,9,16] Tryz.f43 K [a0,a1] h=Z4M Tryz.prog T D N K a0 a1 h:=Eq.trans (b:=ZgG Tryz.prog T D N K a0 a1 h) (by kernel_rfl) (ZpE Tryz.prog T D N K a0 a1 h)
noncomputable def ZgH(P:Program)(T:Tab)(D:DTab)(N:Nat){β:Type}(K:Kb β)(t:Tm)(h:Hp):Option β:=
K (.s (.int .i64 (-1))) h
noncomputable def Z4N(P:Program)(T:Tab)(D:DTab)(N:Nat){β:Type}(t:Tm)(h:Hp)(k:Ex→St→Option β):Option β:=
arithK .lss (t 8) (t 7) λa=>
condK a (
iaK 4 (t 0) (t 8) λd=>
ldK 4 true d h λe=>
callVK T (t 1) [e] h λb c=>
condK b (
k .ret ((upd (upd (upd (upd t 9 a) 5 (t 8)) 16 b) 4 (t 8)),c)) (
arithK .add (t 8) (I 1) λf=>
k .normal ((upd (upd (upd (upd t 9 a) 5 (t 8)) 16 b) 8 f),c))) (
k (.exit 0) ((upd t 9 a),h))
noncomputable def Z7B(P:Program)(T:Tab)(D:DTab)(N:Nat){β:Type}(K:Kb β)(e:Ex)(s:St):Option β:=
 e.on ((ZgH P T D N K s.1 s.2))
 (λi=>bif i==0 then ((ZgH P T D N K s.1 s.2)) else (none))
 (K (s.1 4) s.2)
noncomputable def ZgI(P:Program)(T:Tab)(D:DTab)(N:Nat){β:Type}(cL2:St→Option β)(K:Kb β)(a0 a1:AV)(h:Hp) :  Option β:=
lenK a0 λa=>
cL2 ((upd (upd (upd (tm0 [a0,a1]) 4 (I 0)) 7 a) 8 (I 0)),h)
noncomputable def ZgJ(P:Program)(T:Tab)(D:DTab)(N:Nat){β:Type}(K:Kb β)(a0 a1:AV)(h:Hp):Option β:=ZgI P T D N (λs=>iterK (λs k=>Z4N P T D N s.1 s.2 k) N s (Z7B P T D N K)) K a0 a1 h
noncomputable def Z7C(P:Program)(T:Tab)(D:DTab)(N:Nat){β:Type}(K:Kb β)(h:Hp):Option β:=
K (.s (.int .i64 (-1))) h
noncomputable def Z7D(P:Program)(T:Tab)(D:DTab)(N:Nat){β:Type}(xn:AV→AV→AV→Kb β)(f:Qb β)(xr:Kb β)(b c d a:AV)(h:Hp):Option β:=
arithK .lss a d λg=>
condK g (
iaK 4 b a λi=>
ldK 4 true i h λj=>
callVK T c [j] h λk e=>
condK k (
xr a e) (
arithK .add a (I 1) λl=>
xn b c d l e)) (
f h)
noncomputable def Z2E(P:Program)(T:Tab)(D:DTab)(N:Nat){β:Type}(a:Qb β)(xr:Kb β):Nat→AV→AV→AV→Kb β
 | 0=>λ_ _ _ _ _=>none
 | n+1=>λb c d e h=>Z7D P T D N (Z2E P T D N a xr n) a xr b c d e h
noncomputable def Z2f(P:Program)(T:Tab)(D:DTab)(N:Nat){β:Type}(K:Kb β)(a0 a1:AV)(h:Hp):Option β:=
lenK a0 λb=>
Z2E P T D N (λh=>Z7C P T D N K h) (λa h=>K a h) N a0 a1 b (I 0) h
theorem ZpG(xn:AV→AV→AV→Kb β)(x0:Qb β)(xr:Kb β)(xd:Nat→St→Option β)(xq:St→Option β)(t:Tm)(h:Hp):Z4N P T D N t h (λ(e:Ex)(s:St)=>e.on (xn (s.1 0) (s.1 1) (s.1 7) (s.1 8) s.2) (λi=>(bif i==0 then x0 s.2 else (xd i s))) (xr (s.1 4) s.2))=Z7D P T D N xn x0 xr (t 0) (t 1) (t 7) (t 8) h:=by kernel_rfl
theorem ZpH(A:Ex→St→Option β)(x0:Qb β)(xr:Kb β)(q0:∀s,A (.exit 0) s=x0 s.2)(qr:∀s,A .ret s=xr (s.1 4) s.2):∀(n:Nat)(s:St),iterK (λs k=>Z4N P T D N s.1 s.2 k) n s A=Z2E P T D N x0 xr n (s.1 0) (s.1 1) (s.1 7) (s.1 8) s.2:=
 Z0i (exs1 q0 qr) (λs=>rfl) λn s=>ZpG P T D N (Z2E P T D N x0 xr n) x0 xr (λi s=>A (.exit i) s) (λs=>A .ret s) s.1 s.2
theorem ZpI(K:Kb β)(a0 a1:AV)(h:Hp):ZgJ P T D N K a0 a1 h=Z2f P T D N K a0 a1 h:=by
 have eL2:(λs:St=>iterK (λs k=>Z4N P T D N s.1 s.2 k) N s (Z7B P T D N K))=(λs:St=>Z2E P T D N (λh=>Z7C P T D N K h) (λw9_4 h=>K w9_4 h) N (s.1 0) (s.1 1) (s.1 7) (s.1 8) s.2):=funext λs=>ZpH P T D N (Z7B P T D N K) (λh=>Z7C P T D N K h) (λw9_4 h=>K w9_4 h) (λs=>rfl) (λs=>rfl) N s
 show ZgI P T D N (λs=>iterK (λs k=>Z4N P T D N s.1 s.2 k) N s (Z7B P T D N K)) K a0 a1 h=_
 rw[eL2]
 kernel_rfl
theorem ZgK(K:Kb β)(a0 a1:AV)(h:Hp):runK Tryz.prog T D N [0,1,4,5,7,8,9,16] Tryz.f44 K [a0,a1] h=Z2f Tryz.prog T D N K a0 a1 h:=Eq.trans (b:=ZgJ Tryz.prog T D N K a0 a1 h) (by kernel_rfl) (ZpI Tryz.prog T D N K a0 a1 h)
noncomputable def Z0p(P:Program)(T:Tab)(D:DTab)(N:Nat){β:Type}(K:Kb β)(a0 a1 a2 a3:AV)(h:Hp):Option β:=
effK (boxE 9 a0 (List.length h)) h λp h2=>
effK (boxE 5 a3 (List.length h2)) h2 λa h4=>
faK 0 a λx5=>
ldK 1 false x5 h4 λx6=>
effD (callE (D 49) [x6,(I 0),(I 100000)] h4 (List.length h4)) h4 λx7 h8 e9=>
notK x7 λi=>
gopD (wB i false) h8 (λk=>faK 1 a λv=>k v h8 ([],[])) λa5 q e0=>
gopD (wB i false) q (λk=>ldK 1 false a5 q λv=>k v q ((idsOf a5),[])) λe1 j e2=>
gopD (wB i false) j (λk=>effD (callE (D 49) [e1,(I 1),(I 7)] j (List.length j)) j k) λe3 a6 e4=>
gopD (wB i false) a6 (λk=>notK e3 λv=>k v a6 ([],[])) λe5 l e6=>
pickK i (.s (.bool true)) e5 λb=>
gopD (wB b false) l (λk=>effD (callE (D 47) [] l (List.length l)) l k) λe7 a7 e8=>
gopD (wB b false) a7 (λk=>faK 1 a λv=>k v a7 ([],[])) λa8 r e9=>
gopD (wB b false) r (λk=>ldK 1 false a8 r λv=>k v r ((idsOf a8),[])) λf0 a9 f1=>
gopD (wB b false) a9 (λk=>ixA 3 8 true e7 f0 λv=>k v a9 ([],[])) λf2 b0 f3=>
gopD (wB b false) b0 (λk=>fldK 1 false 0 f2 λv=>k v b0 ([],[])) λf4 t f5=>
gopD (wB b false) t (λk=>ldK 5 true a t λv=>k v t ((idsOf a),[])) λf6 m f7=>
gopD (wB b false) m (λk=>effD (callVE D f4 [f6] m (List.length m)) m k) λf8 b1 f9=>
gopD (wB b false) b1 (λk=>notK f8 λv=>k v b1 ([],[])) λg0 d g1=>
pickK b (.s (.bool true)) g0 λg2=>
bif disjAll [(11,13),(11,16)] [([],[]),((idsOf x5),[]),e9,([],[]),([],[]),e0,e2,e4,e6,([],[]),([],[]),e8,e9,f1,f3,f5,f7,f9,g1,([],[])] then (
condK g2 (
K (I 2) d) (
faK 0 a λg3=>
ldK 1 false g3 d λg4=>
arithK .lss g4 a2 λg5=>
condK g5 (
K (I 5) d) (
faK 1 a λb2=>
ldK 1 false b2 d λg6=>
eqK P false 3 g6 (I 1) d λg7=>
eqK P false 4 a1 g7 d λu=>
gopD (wB u false) d (λk=>faK 8 p λv=>k v d ([],[])) λb3 w g8=>
gopD (wB u false) w (λk=>ldK 1 false b3 w λv=>k v w ((idsOf b3),[])) λg9 n h0=>
pickK u (.s (.bool true)) g9 λe=>
gopD (wB e false) n (λk=>effD (callE (D 47) [] n (List.length n)) n k) λh1 b4 h2=>
gopD (wB e false) b4 (λk=>faK 1 a λv=>k v b4 ([],[])) λb5 x h3=>
gopD (wB e false) x (λk=>ldK 1 false b5 x λv=>k v x ((idsOf b5),[])) λh4 b6 h5=>
gopD (wB e false) b6 (λk=>ixA 3 8 true h1 h4 λv=>k v b6 ([],[])) λh6 b7 h7=>
gopD (wB e false) b7 (λk=>fldK 1 false 1 h6 λv=>k v b7 ([],[])) λh8 y h9=>
gopD (wB e false) y (λk=>ldK 9 true p y λv=>k v y ((idsOf p),[])) λi0 o i1=>
gopD (wB e false) o (λk=>effD (callVE D h8 [i0] o (List.length o)) o k) λi2 f i3=>
pickK e (.s (.bool true)) i2 λi4=>
bif disjAll [(10,12),(10,15)] [([],[]),([],[]),((idsOf b2),[]),([],[]),([],[]),([],[]),g8,h0,([],[]),([],[]),h2,h3,h5,h7,h9,i1,i3,([],[]),([],[])] then (
condK i4 (
K (I 11) f) (
faK 1 a λi5=>
ldK 1 false i5 f λi6=>
eqK P false 3 i6 (I 4) f λi7=>
grpK true i7 f (λi8=>
faK 3 a λi9=>
ldK 1 false i9 f λj0=>
faK 5 p λj1=>
ldK 1 false j1 f λj2=>
eqK P false 3 j0 j2 f λj3=>
i8 j3 f) λj4 g=>
grpK false j4 g (λj5=>
faK 1 a λj6=>
ldK 1 false j6 g λj7=>
eqK P false 3 j7 (I 7) g λj8=>
grpK true j8 g (λb8=>
faK 2 a λb9=>
ldK 1 false b9 g λc0=>
faK 6 p λc1=>
ldK 1 false c1 g λc2=>
eqK P true 3 c0 c2 g λc3=>
b8 c3 g) λc4 c5=>
j5 c4 c5) λc6 c=>
condK c6 (
K (I 10) c) (
faK 1 a λc7=>
ldK 1 false c7 c λc8=>
arithK .geq c8 (I 5) λc9=>
grpK true c9 c (λd0=>
faK 4 a λd1=>
ldK 1 false d1 c λd2=>
faK 4 p λd3=>
ldK 1 false d3 c λd4=>
arithK .gtr d2 d4 λd5=>
d0 d5 c) λd6 z=>
condK d6 (
K (I 17) z) (
K (I 0) z)))) else none))) else none
theorem ZpJ(K:Kb β)(a0 a1 a2 a3:AV)(h:Hp):runK Tryz.prog T D N [0,1,2,3,4,7,8,28,29,34,53,76] Tryz.f46 K [a0,a1,a2,a3] h=Z0p Tryz.prog T D N K a0 a1 a2 a3 h:=by kernel_rfl
noncomputable def Z4O(P:Program)(T:Tab)(D:DTab)(N:Nat){β:Type}(K:Kb β)(h:Hp):Option β:=
effK (boxE 24 (.agg [.s .nilFunc,.s .nilFunc,.s .nilFunc,.s .nilFunc,.s .nilFunc,.s .nilFunc,.s .nilFunc,.s .nilFunc,.s .nilFunc,.s .nilFunc,.s .nilFunc,.s .nilFunc,.s .nilFunc,.s .nilFunc,.s .nilFunc,.s .nilFunc,.s .nilFunc,.s .nilFunc,.s .nilFunc,.s .nilFunc,.s .nilFunc,.s .nilFunc,.s .nilFunc,.s .nilFunc]) (List.length h)) h λb c=>
buildK [.s .nilFunc,.s .nilFunc,.s .nilFunc] [(some (0,1),(.fn 95 [])),(some (1,1),(.fn 92 [])),(some (2,1),(.fn 97 []))] λf=>
buildK [.s .nilFunc,.s .nilFunc,.s .nilFunc] [(some (0,1),(.fn 98 [])),(some (1,1),(.fn 93 [])),(some (2,1),(.fn 99 []))] λg=>
buildK [.s .nilFunc,.s .nilFunc,.s .nilFunc] [(some (0,1),(.fn 100 [])),(some (1,1),(.fn 101 [])),(some (2,1),(.fn 102 []))] λi=>
buildK [.s .nilFunc,.s .nilFunc,.s .nilFunc] [(some (0,1),(.fn 103 [])),(some (1,1),(.fn 92 [])),(some (2,1),(.fn 104 []))] λj=>
buildK [.s .nilFunc,.s .nilFunc,.s .nilFunc] [(some (0,1),(.fn 94 [])),(some (1,1),(.fn 92 [])),(some (2,1),(.fn 105 []))] λk=>
buildK [.s .nilFunc,.s .nilFunc,.s .nilFunc] [(some (0,1),(.fn 94 [])),(some (1,1),(.fn 92 [])),(some (2,1),(.fn 106 []))] λl=>
buildK [.s .nilFunc,.s .nilFunc,.s .nilFunc] [(some (0,1),(.fn 107 [])),(some (1,1),(.fn 93 [])),(some (2,1),(.fn 108 []))] λm=>
buildK [.s .nilFunc,.s .nilFunc,.s .nilFunc,.s .nilFunc,.s .nilFunc,.s .nilFunc,.s .nilFunc,.s .nilFunc,.s .nilFunc,.s .nilFunc,.s .nilFunc,.s .nilFunc,.s .nilFunc,.s .nilFunc,.s .nilFunc,.s .nilFunc,.s .nilFunc,.s .nilFunc,.s .nilFunc,.s .nilFunc,.s .nilFunc,.s .nilFunc,.s .nilFunc,.s .nilFunc] [(some (3,3),f),(some (6,3),g),(some (9,3),i),(some (12,3),j),(some (15,3),k),(some (18,3),l),(some (21,3),m)] λd=>
effK (stE 24 b d c) c λn a=>
ldK 24 true b a λe=>
K e a
theorem ZpK(K:Kb β)(h:Hp):runK Tryz.prog T D N [0,1,2,3] Tryz.f47 K [] h=Z4O Tryz.prog T D N K  h:=by kernel_rfl
noncomputable def Z7E(P:Program)(T:Tab)(D:DTab)(N:Nat){β:Type}(K:Kb β)(a0:AV)(h:Hp):Option β:=
callK (T 19) [a0] h λa b=>
exK a 0 λf=>
exK a 1 λj=>
exK a 2 λg=>
effK (boxE 9 (.agg [I 0, I 0, I 0, I 0, I 0, I 0, I 0,.s (.bool false),.s (.bool false)]) (List.length b)) b λi c=>
effK (stE 9 i f c) c λk d=>
eqK P false 26 g (I 0) d λe=>
K e d
theorem ZpL(K:Kb β)(a0:AV)(h:Hp):runK Tryz.prog T D N [0,2,5] Tryz.f48 K [a0] h=Z7E Tryz.prog T D N K a0 h:=by kernel_rfl
noncomputable def Z7F(P:Program)(T:Tab)(D:DTab)(N:Nat){β:Type}(K:Kb β)(a0 a1 a2:AV)(h:Hp):Option β:=
arithK .geq a0 a1 λa=>
grpK true a h (λb=>
arithK .leq a0 a2 λc=>
b c h) λd e=>
K d e
theorem ZpM(K:Kb β)(a0 a1 a2:AV)(h:Hp):runK Tryz.prog T D N [0,1,2,6] Tryz.f49 K [a0,a1,a2] h=Z7F Tryz.prog T D N K a0 a1 a2 h:=by kernel_rfl
noncomputable def ZpN(P:Program)(T:Tab)(D:DTab)(N:Nat){β:Type}(K:Kb β)(t:Tm)(h:Hp):Option β:=
ldK 7 true (t 6) h λb=>
effK (stE 7 (t 4) b h) h λd a=>
ldK 7 true (t 4) a λc=>
K c a
noncomputable def Zbp(P:Program)(T:Tab)(D:DTab)(N:Nat){β:Type}(K:Kb β)(t:Tm)(h:Hp):Option β:=
(ZpN P T D N K t h)
noncomputable def ZgL(P:Program)(T:Tab)(D:DTab)(N:Nat){β:Type}(K:Kb β)(t:Tm)(h:Hp):Option β:=
eqK P false 3 (t 8) (I 0) h λa=>
condK a (
(Zbp P T D N K (upd t 89 a) h)) (
condK (t 7) (
faK 1 (t 6) λb=>
effK (stE 1 b (I 4) h) h λf c=>
(Zbp P T D N K (upd (upd t 89 a) 92 (t 7)) c)) (
faK 1 (t 6) λd=>
effK (stE 1 d (t 8) h) h λg e=>
(Zbp P T D N K (upd (upd t 89 a) 92 (t 7)) e)))
noncomputable def Z4P(P:Program)(T:Tab)(D:DTab)(N:Nat){β:Type}(t:Tm)(h:Hp)(k:Ex→St→Option β):Option β:=
nextK (t 78) h λe a=>
exK e 0 λb=>
condK b (
entryK (t 78) a λf=>
exK f 1 λc=>
arithK .gtr c (I 1) λd=>
condK d (
buildK zz7 [(some (0,1),(t 1)),(some (1,1),(I 5))] λg=>
effK (stE 7 (t 4) g a) a λj i=>
k .ret ((upd (upd (upd t 80 b) 13 c) 84 d),i)) (
k .normal ((upd (upd (upd t 80 b) 13 c) 84 d),a))) (
k (.exit 3) ((upd t 80 b),a))
noncomputable def Z7G(P:Program)(T:Tab)(D:DTab)(N:Nat){β:Type}(K:Kb β)(e:Ex)(s:St):Option β:=
 e.on ((ZgL P T D N K s.1 s.2))
 (λi=>bif i==3 then ((ZgL P T D N K s.1 s.2)) else (none))
 (ldK 7 true (s.1 4) s.2 λa=>
K a s.2)
noncomputable def ZgM(P:Program)(T:Tab)(D:DTab)(N:Nat){β:Type}(cL5:St→Option β)(K:Kb β)(t:Tm)(h:Hp) :  Option β:=
faK 1 (t 6) λc=>
ldK 1 false c h λd=>
eqK P false 3 d (I 0) h λa=>
condK a (
buildK zz7 [(some (0,1),(t 1))] λe=>
effK (stE 7 (t 4) e h) h λj b=>
ldK 7 true (t 4) b λf=>
K f b) (
effK (rngE (t 5) h (List.length h)) h λg i=>
cL5 ((upd (upd t 74 a) 78 g),i))
noncomputable def Zbq(P:Program)(T:Tab)(D:DTab)(N:Nat){β:Type}(K:Kb β)(t:Tm)(h:Hp):Option β:=ZgM P T D N (λs=>iterK (λs k=>Z4P P T D N s.1 s.2 k) N s (Z7G P T D N K)) K t h
noncomputable def ZpO(P:Program)(T:Tab)(D:DTab)(N:Nat){β:Type}(k:Ex→St→Option β)(t:Tm)(h:Hp):Option β:=
arithK .add (t 19) (I 1) λa=>
k .normal ((upd t 19 a),h)
noncomputable def Zbr(P:Program)(T:Tab)(D:DTab)(N:Nat){β:Type}(k:Ex→St→Option β)(t:Tm)(h:Hp):Option β:=
(ZpO P T D N k t h)
noncomputable def ZpP(P:Program)(T:Tab)(D:DTab)(N:Nat){β:Type}(k:Ex→St→Option β)(t:Tm)(h:Hp):Option β:=
ldK 2 true (t 11) h λa=>
lookK P 223 (I 0) false (t 5) a h λc=>
arithK .add c (I 1) λd=>
effD (mentE P 223 (I 0) (t 5) a h) h λe b f=>
exK e 1 λg=>
effD (estE (t 5) g d b) b λl i j=>
bif disjAll [] [([],[]),((idsOf (t 11)),[]),((idsOf (t 5)),[]),([],[]),f,([],[]),j] then (
(Zbr P T D N k t i)) else none
noncomputable def Z4Q(P:Program)(T:Tab)(D:DTab)(N:Nat){β:Type}(k:Ex→St→Option β)(t:Tm)(h:Hp):Option β:=
(ZpP P T D N k t h)
noncomputable def Z4R(P:Program)(T:Tab)(D:DTab)(N:Nat){β:Type}(t:Tm)(h:Hp)(k:Ex→St→Option β):Option β:=
arithK .lss (t 19) (t 18) λd=>
condK d (
iaK 7 (t 17) (t 19) λb0=>
ldK 7 true b0 h λb1=>
effK (boxE 7 (.agg zz7) (List.length h)) h λb p=>
effK (stE 7 b b1 p) p λd9 g=>
faK 0 b λb2=>
ldK 1 false b2 g λb3=>
eqK P true 3 b3 (t 1) g λe=>
condK e (
(Zbr P T D N k (upd (upd (upd t 20 d) 10 b) 26 e) g)) (
faK 1 b λb4=>
ldK 1 false b4 g λb5=>
faK 2 b λb6=>
ldK 1 false b6 g λb7=>
buildK zz2 [(some (0,1),b5),(some (1,1),b7)] λb8=>
effK (boxE 2 (.agg zz2) (List.length g)) g λf q=>
effK (stE 2 f b8 q) q λe0 a=>
faK 1 b λb9=>
ldK 1 false b9 a λc=>
eqK P false 3 c (I 1) a λi=>
condK i (
faK 4 b λr=>
ldK 1 false r a λc0=>
faK 5 b λu=>
ldK 1 false u a λc1=>
faK 6 b λv=>
ldK 1 false v a λc2=>
faK 1 (t 6) λc3=>
effD (stE 1 c3 (I 1) a) a λe1 w c4=>
faK 2 (t 6) λc5=>
effD (stE 1 c5 c0 w) w λe2 x c6=>
faK 3 (t 6) λc7=>
effD (stE 1 c7 c1 x) x λe3 y c8=>
faK 4 (t 6) λc9=>
effD (stE 1 c9 c2 y) y λe4 d0 d1=>
bif disjAll [(1,7),(3,7),(5,7),(3,9),(5,9),(5,11)] [([],[]),((idsOf r),[]),([],[]),((idsOf u),[]),([],[]),((idsOf v),[]),([],[]),c4,([],[]),c6,([],[]),c8,([],[]),d1] then (
(Z4Q P T D N k (upd (upd (upd (upd (upd (upd t 20 d) 10 b) 26 e) 11 f) 33 c) 34 i) d0)) else none) (
eqK P false 3 c (I 2) a λl=>
condK l (
faK 5 b λd2=>
ldK 1 false d2 a λd3=>
faK 3 (t 6) λd4=>
effK (stE 1 d4 d3 a) a λd5 n=>
faK 6 (t 6) λz=>
ldK 1 false z n λa0=>
arithK .add a0 (I 1) λa1=>
faK 6 (t 6) λa2=>
effK (stE 1 a2 a1 n) n λd6 a3=>
(Z4Q P T D N k (upd (upd (upd (upd (upd (upd (upd t 20 d) 10 b) 26 e) 11 f) 33 c) 34 i) 46 l) a3)) (
eqK P false 3 c (I 3) a λj=>
condK j (
faK 6 b λa4=>
ldK 1 false a4 a λa5=>
faK 5 (t 6) λa6=>
effK (stE 1 a6 a5 a) a λd7 a7=>
(Z4Q P T D N k (upd (upd (upd (upd (upd (upd (upd (upd (upd t 20 d) 10 b) 26 e) 11 f) 33 c) 34 i) 46 l) 55 j) 8 (I 2)) a7)) (
eqK P false 3 c (I 4) a λm=>
condK m (
faK 0 f λa8=>
effK (stE 1 a8 (I 3) a) a λd8 a9=>
(Z4Q P T D N k (upd (upd (upd (upd (upd (upd (upd (upd (upd (upd t 20 d) 10 b) 26 e) 11 f) 33 c) 34 i) 46 l) 55 j) 60 m) 8 (I 3)) a9)) (
eqK P false 3 c (I 5) a λo=>
condK o (
(Zbr P T D N k (upd (upd (upd (upd (upd (upd (upd (upd (upd (upd (upd t 20 d) 10 b) 26 e) 11 f) 33 c) 34 i) 46 l) 55 j) 60 m) 63 o) 7 (.s (.bool true))) a)) (
(Z4Q P T D N k (upd (upd (upd (upd (upd (upd (upd (upd (upd (upd t 20 d) 10 b) 26 e) 11 f) 33 c) 34 i) 46 l) 55 j) 60 m) 63 o) a)))))))) (
k (.exit 0) ((upd t 20 d),h))
noncomputable def Z7H(P:Program)(T:Tab)(D:DTab)(N:Nat){β:Type}(K:Kb β)(e:Ex)(s:St):Option β:=
 e.on ((Zbq P T D N K s.1 s.2))
 (λi=>bif i==0 then ((Zbq P T D N K s.1 s.2)) else (none))
 (ldK 7 true (s.1 4) s.2 λa=>
K a s.2)
noncomputable def ZgN(P:Program)(T:Tab)(D:DTab)(N:Nat){β:Type}(cL6:St→Option β)(K:Kb β)(a0 a1:AV)(h:Hp) :  Option β:=
effK (boxE 7 (.agg zz7) (List.length h)) h λf a=>
effK (some (.mp (List.length a),EN (.map []))) a λg b=>
buildK zz7 [(some (0,1),a1)] λi=>
effK (boxE 7 (.agg zz7) (List.length b)) b λc d=>
effK (stE 7 c i d) d λk j=>
lenK a0 λe=>
cL6 ((upd (upd (upd (upd (upd (upd (upd (upd (tm0 [a0,a1]) 4 f) 5 g) 6 c) 7 (.s (.bool false))) 8 (I 0)) 17 a0) 18 e) 19 (I 0)),j)
noncomputable def ZgO(P:Program)(T:Tab)(D:DTab)(N:Nat){β:Type}(K:Kb β)(a0 a1:AV)(h:Hp):Option β:=ZgN P T D N (λs=>iterK (λs k=>Z4R P T D N s.1 s.2 k) N s (Z7H P T D N K)) K a0 a1 h
noncomputable def ZgP(P:Program)(T:Tab)(D:DTab)(N:Nat){β:Type}(K:Kb β)(b e:AV)(h:Hp):Option β:=
ldK 7 true e h λc=>
effK (stE 7 b c h) h λf a=>
ldK 7 true b a λd=>
K d a
noncomputable def Z7I(P:Program)(T:Tab)(D:DTab)(N:Nat){β:Type}(K:Kb β)(a b:AV)(h:Hp):Option β:=
ZgP P T D N K a b h
noncomputable def Z7J(P:Program)(T:Tab)(D:DTab)(N:Nat){β:Type}(K:Kb β)(b a j c:AV)(h:Hp):Option β:=
eqK P false 3 c (I 0) h λd=>
condK d (
Z7I P T D N K b a h) (
condK j (
faK 1 a λe=>
effK (stE 1 e (I 4) h) h λk f=>
Z7I P T D N K b a f) (
faK 1 a λg=>
effK (stE 1 g c h) h λl i=>
Z7I P T D N K b a i))
noncomputable def Zbs(P:Program)(T:Tab)(D:DTab)(N:Nat){β:Type}(xn:AV→AV→AV→AV→AV→Kb β)(p:AV→AV→AV→Kb β)(xr:Kb β)(d c e f g b:AV)(h:Hp):Option β:=
nextK b h λi a=>
exK i 0 λj=>
condK j (
entryK b a λk=>
exK k 1 λl=>
arithK .gtr l (I 1) λm=>
condK m (
buildK zz7 [(some (0,1),d),(some (1,1),(I 5))] λn=>
effK (stE 7 c n a) a λq o=>
xr c o) (
xn d c e f g b a)) (
p c e f g a)
noncomputable def Z2F(P:Program)(T:Tab)(D:DTab)(N:Nat){β:Type}(a:AV→AV→AV→Kb β)(xr:Kb β):Nat→AV→AV→AV→AV→AV→Kb β
 | 0=>λ_ _ _ _ _ _ _=>none
 | n+1=>λc d e f g b h=>Zbs P T D N (Z2F P T D N a xr n) a xr c d e f g b h
noncomputable def Z3r(P:Program)(T:Tab)(D:DTab)(N:Nat){β:Type}(K:Kb β)(i g s j t u:AV)(h:Hp):Option β:=
faK 1 j λk=>
ldK 1 false k h λl=>
eqK P false 3 l (I 0) h λm=>
condK m (
buildK zz7 [(some (0,1),i)] λn=>
effK (stE 7 g n h) h λv f=>
ldK 7 true g f λo=>
K o f) (
effK (rngE s h (List.length h)) h λp q=>
Z2F P T D N (λa b c d h=>Z7J P T D N K a b c d h) (λe h=>ldK 7 true e h λr=>
K r h) N i g j t u p q)
noncomputable def Z2g(P:Program)(T:Tab)(D:DTab)(N:Nat){β:Type}(xn:AV→AV→AV→AV→AV→AV→AV→AV→Kb β)(l:AV→AV→AV→AV→AV→Kb β)(e f g i j k a b c:AV)(h:Hp):Option β:=
arithK .add c (I 1) λd=>
xn e f g i j k a b d h
noncomputable def Z1h(P:Program)(T:Tab)(D:DTab)(N:Nat){β:Type}(xn:AV→AV→AV→AV→AV→AV→AV→AV→Kb β)(d:AV→AV→AV→AV→AV→Kb β)(e f g i j k a b c:AV)(h:Hp):Option β:=
Z2g P T D N xn d e f g i j k a b c h
noncomputable def ZgQ(P:Program)(T:Tab)(D:DTab)(N:Nat){β:Type}(xn:AV→AV→AV→AV→AV→AV→AV→AV→Kb β)(p:AV→AV→AV→AV→AV→Kb β)(q r a s t u b e f g:AV)(h:Hp):Option β:=
ldK 2 true b h λc=>
lookK P 223 (I 0) false a c h λi=>
arithK .add i (I 1) λj=>
effD (mentE P 223 (I 0) a c h) h λk d l=>
exK k 1 λm=>
effD (estE a m j d) d λv n o=>
bif disjAll [] [([],[]),((idsOf b),[]),((idsOf a),[]),([],[]),l,([],[]),o] then (
Z1h P T D N xn p q r a s t u e f g n) else none
noncomputable def Z2G(P:Program)(T:Tab)(D:DTab)(N:Nat){β:Type}(xn:AV→AV→AV→AV→AV→AV→AV→AV→Kb β)(e:AV→AV→AV→AV→AV→Kb β)(f g i j k l a b c d:AV)(h:Hp):Option β:=
ZgQ P T D N xn e f g i j k l a b c d h
noncomputable def Z2H(P:Program)(T:Tab)(D:DTab)(N:Nat){β:Type}(xn:AV→AV→AV→AV→AV→AV→AV→AV→Kb β)(k:AV→AV→AV→AV→AV→Kb β)(j l m b o q e f d:AV)(h:Hp):Option β:=
arithK .lss d f λb6=>
condK b6 (
iaK 7 e d λb7=>
ldK 7 true b7 h λb8=>
effK (boxE 7 (.agg zz7) (List.length h)) h λc r=>
effK (stE 7 c b8 r) r λe7 g=>
faK 0 c λb9=>
ldK 1 false b9 g λc0=>
eqK P true 3 c0 j g λc1=>
condK c1 (
Z1h P T D N xn k j l m b o q e f d g) (
faK 1 c λc2=>
ldK 1 false c2 g λc3=>
faK 2 c λc4=>
ldK 1 false c4 g λc5=>
buildK zz2 [(some (0,1),c3),(some (1,1),c5)] λc6=>
effK (boxE 2 (.agg zz2) (List.length g)) g λi t=>
effK (stE 2 i c6 t) t λe8 a=>
faK 1 c λc7=>
ldK 1 false c7 a λn=>
eqK P false 3 n (I 1) a λc8=>
condK c8 (
faK 4 c λu=>
ldK 1 false u a λc9=>
faK 5 c λv=>
ldK 1 false v a λd0=>
faK 6 c λw=>
ldK 1 false w a λd1=>
faK 1 b λd2=>
effD (stE 1 d2 (I 1) a) a λe9 x d3=>
faK 2 b λd4=>
effD (stE 1 d4 c9 x) x λf0 y d5=>
faK 3 b λd6=>
effD (stE 1 d6 d0 y) y λf1 z d7=>
faK 4 b λd8=>
effD (stE 1 d8 d1 z) z λf2 d9 e0=>
bif disjAll [(1,7),(3,7),(5,7),(3,9),(5,9),(5,11)] [([],[]),((idsOf u),[]),([],[]),((idsOf v),[]),([],[]),((idsOf w),[]),([],[]),d3,([],[]),d5,([],[]),d7,([],[]),e0] then (
Z2G P T D N xn k j l m b o q i e f d d9) else none) (
eqK P false 3 n (I 2) a λe1=>
condK e1 (
faK 5 c λe2=>
ldK 1 false e2 a λa0=>
faK 3 b λa1=>
effK (stE 1 a1 a0 a) a λe3 p=>
faK 6 b λa2=>
ldK 1 false a2 p λa3=>
arithK .add a3 (I 1) λa4=>
faK 6 b λa5=>
effK (stE 1 a5 a4 p) p λe4 a6=>
Z2G P T D N xn k j l m b o q i e f d a6) (
eqK P false 3 n (I 3) a λa7=>
condK a7 (
faK 6 c λa8=>
ldK 1 false a8 a λa9=>
faK 5 b λb0=>
effK (stE 1 b0 a9 a) a λe5 b1=>
Z2G P T D N xn k j l m b o (I 2) i e f d b1) (
eqK P false 3 n (I 4) a λb2=>
condK b2 (
faK 0 i λb3=>
effK (stE 1 b3 (I 3) a) a λe6 b4=>
Z2G P T D N xn k j l m b o (I 3) i e f d b4) (
eqK P false 3 n (I 5) a λb5=>
condK b5 (
Z1h P T D N xn k j l m b (.s (.bool true)) q e f d a) (
Z2G P T D N xn k j l m b o q i e f d a))))))) (
k j l m b o q h)
noncomputable def Z2h(P:Program)(T:Tab)(D:DTab)(N:Nat){β:Type}(a:AV→AV→AV→AV→AV→Kb β):Nat→AV→AV→AV→AV→AV→AV→AV→AV→Kb β
 | 0=>λ_ _ _ _ _ _ _ _ _ _=>none
 | n+1=>λe f g i j k b c d h=>Z2H P T D N (Z2h P T D N a n) a e f g i j k b c d h
noncomputable def Z7K(P:Program)(T:Tab)(D:DTab)(N:Nat){β:Type}(K:Kb β)(a0 a1:AV)(h:Hp):Option β:=
effK (boxE 7 (.agg zz7) (List.length h)) h λm g=>
effK (some (.mp (List.length g),EN (.map []))) g λn i=>
buildK zz7 [(some (0,1),a1)] λo=>
effK (boxE 7 (.agg zz7) (List.length i)) i λj k=>
effK (stE 7 j o k) k λq p=>
lenK a0 λl=>
Z2h P T D N (λa b c d e f h=>Z3r P T D N K a b c d e f h) N a1 m n j (.s (.bool false)) (I 0) a0 l (I 0) p
theorem ZpQ(xn:AV→AV→AV→AV→AV→Kb β)(x3:AV→AV→AV→Kb β)(xr:Kb β)(xd:Nat→St→Option β)(xq:St→Option β)(t:Tm)(h:Hp):Z4P P T D N t h (λ(e:Ex)(s:St)=>e.on (xn (s.1 1) (s.1 4) (s.1 6) (s.1 7) (s.1 8) (s.1 78) s.2) (λi=>(bif i==3 then x3 (s.1 4) (s.1 6) (s.1 7) (s.1 8) s.2 else (xd i s))) (xr (s.1 4) s.2))=Zbs P T D N xn x3 xr (t 1) (t 4) (t 6) (t 7) (t 8) (t 78) h:=by kernel_rfl
theorem ZpR(A:Ex→St→Option β)(x3:AV→AV→AV→Kb β)(xr:Kb β)(q3:∀s,A (.exit 3) s=x3 (s.1 4) (s.1 6) (s.1 7) (s.1 8) s.2)(qr:∀s,A .ret s=xr (s.1 4) s.2):∀(n:Nat)(s:St),iterK (λs k=>Z4P P T D N s.1 s.2 k) n s A=Z2F P T D N x3 xr n (s.1 1) (s.1 4) (s.1 6) (s.1 7) (s.1 8) (s.1 78) s.2:=
 Z0i (exs1 q3 qr) (λs=>rfl) λn s=>ZpQ P T D N (Z2F P T D N x3 xr n) x3 xr (λi s=>A (.exit i) s) (λs=>A .ret s) s.1 s.2
theorem ZpS(K:Kb β)(t:Tm)(h:Hp):Zbq P T D N K t h=Z3r P T D N K (t 1) (t 4) (t 5) (t 6) (t 7) (t 8) h:=by
 have eL5:(λs:St=>iterK (λs k=>Z4P P T D N s.1 s.2 k) N s (Z7G P T D N K))=(λs:St=>Z2F P T D N (λw40_4 w40_6 w40_7 w40_8 h=>Z7J P T D N K w40_4 w40_6 w40_7 w40_8 h) (λw41_4 h=>ldK 7 true w41_4 h λr42=>
K r42 h) N (s.1 1) (s.1 4) (s.1 6) (s.1 7) (s.1 8) (s.1 78) s.2):=funext λs=>ZpR P T D N (Z7G P T D N K) (λw40_4 w40_6 w40_7 w40_8 h=>Z7J P T D N K w40_4 w40_6 w40_7 w40_8 h) (λw41_4 h=>ldK 7 true w41_4 h λr42=>
K r42 h) (λs=>rfl) (λs=>rfl) N s
 show ZgM P T D N (λs=>iterK (λs k=>Z4P P T D N s.1 s.2 k) N s (Z7G P T D N K)) K t h=_
 rw[eL5]
 kernel_rfl
theorem ZpT(xn:AV→AV→AV→AV→AV→AV→AV→AV→Kb β)(x0:AV→AV→AV→AV→AV→Kb β)(xd:Nat→St→Option β)(xq:St→Option β)(t:Tm)(h:Hp):Z4R P T D N t h (λ(e:Ex)(s:St)=>e.on (xn (s.1 1) (s.1 4) (s.1 5) (s.1 6) (s.1 7) (s.1 8) (s.1 17) (s.1 18) (s.1 19) s.2) (λi=>(bif i==0 then x0 (s.1 1) (s.1 4) (s.1 5) (s.1 6) (s.1 7) (s.1 8) s.2 else (xd i s))) (xq s))=Z2H P T D N xn x0 (t 1) (t 4) (t 5) (t 6) (t 7) (t 8) (t 17) (t 18) (t 19) h:=by kernel_rfl
theorem ZpU(A:Ex→St→Option β)(x0:AV→AV→AV→AV→AV→Kb β)(q0:∀s,A (.exit 0) s=x0 (s.1 1) (s.1 4) (s.1 5) (s.1 6) (s.1 7) (s.1 8) s.2):∀(n:Nat)(s:St),iterK (λs k=>Z4R P T D N s.1 s.2 k) n s A=Z2h P T D N x0 n (s.1 1) (s.1 4) (s.1 5) (s.1 6) (s.1 7) (s.1 8) (s.1 17) (s.1 18) (s.1 19) s.2:=
 Z0i (exs1 q0 (λs=>rfl)) (λs=>rfl) λn s=>ZpT P T D N (Z2h P T D N x0 n) x0 (λi s=>A (.exit i) s) (λs=>A .ret s) s.1 s.2
theorem ZpV(K:Kb β)(a0 a1:AV)(h:Hp):ZgO P T D N K a0 a1 h=Z7K P T D N K a0 a1 h:=by
 have eL6:(λs:St=>iterK (λs k=>Z4R P T D N s.1 s.2 k) N s (Z7H P T D N K))=(λs:St=>Z2h P T D N (λw121_1 w121_4 w121_5 w121_6 w121_7 w121_8 h=>Z3r P T D N K w121_1 w121_4 w121_5 w121_6 w121_7 w121_8 h) N (s.1 1) (s.1 4) (s.1 5) (s.1 6) (s.1 7) (s.1 8) (s.1 17) (s.1 18) (s.1 19) s.2):=funext λs=>ZpU P T D N (Z7H P T D N K) (λw121_1 w121_4 w121_5 w121_6 w121_7 w121_8 h=>Z3r P T D N K w121_1 w121_4 w121_5 w121_6 w121_7 w121_8 h) (λs=>ZpS P T D N K s.1 s.2) N s
 show ZgN P T D N (λs=>iterK (λs k=>Z4R P T D N s.1 s.2 k) N s (Z7H P T D N K)) K a0 a1 h=_
 rw[eL6]
 kernel_rfl
theorem ZpW(K:Kb β)(a0 a1:AV)(h:Hp):runK Tryz.prog T D N [0,1,4,5,6,7,8,10,11,13,17,18,19,20,26,33,34,46,55,60,63,74,78,80,84,89,92] Tryz.f74 K [a0,a1] h=Z7K Tryz.prog T D N K a0 a1 h:=Eq.trans (b:=ZgO Tryz.prog T D N K a0 a1 h) (by kernel_rfl) (ZpV Tryz.prog T D N K a0 a1 h)
noncomputable def Zbt(P:Program)(T:Tab)(D:DTab)(N:Nat){β:Type}(K:Kb β)(a0:AV)(h:Hp):Option β:=
effK (boxE 4 a0 (List.length h)) h λb a=>
faK 1 b λc=>
ldK 1 false c a λd=>
K d a
theorem ZpX(K:Kb β)(a0:AV)(h:Hp):runK Tryz.prog T D N [0,1,2] Tryz.f85 K [a0] h=Zbt Tryz.prog T D N K a0 h:=by kernel_rfl
noncomputable def Zbu(P:Program)(T:Tab)(D:DTab)(N:Nat){β:Type}(K:Kb β)(a0:AV)(h:Hp):Option β:=
effK (boxE 4 a0 (List.length h)) h λb a=>
faK 2 b λc=>
ldK 1 false c a λd=>
K d a
theorem ZpY(K:Kb β)(a0:AV)(h:Hp):runK Tryz.prog T D N [0,1,2] Tryz.f86 K [a0] h=Zbu Tryz.prog T D N K a0 h:=by kernel_rfl
noncomputable def ZgR(P:Program)(T:Tab)(D:DTab)(N:Nat){β:Type}(K:Kb β)(t:Tm)(h:Hp):Option β:=
K (.tup [(.s (.int .i64 (-1))),(I 0)]) h
noncomputable def Z4S(P:Program)(T:Tab)(D:DTab)(N:Nat){β:Type}(t:Tm)(h:Hp)(k:Ex→St→Option β):Option β:=
arithK .lss (t 11) (t 10) λe=>
condK e (
iaK 4 (t 9) (t 11) λx5=>
ldK 4 true x5 h λx6=>
effK (boxE 4 (.agg zz4) (List.length h)) h λb p=>
effK (stE 4 b x6 p) p λx9 c=>
faK 0 b λq=>
ldK 1 false q c λr=>
arithK .lss r (I 0) λs=>
grpK false s c (λu=>
faK 0 b λv=>
ldK 1 false v c λw=>
arithK .gtr w (I 100000) λx=>
u x c) λy f=>
grpK false y f (λz=>
faK 1 b λa0=>
ldK 1 false a0 f λa1=>
arithK .lss a1 (I 1) λa2=>
z a2 f) λa3 g=>
grpK false a3 g (λa4=>
faK 1 b λa5=>
ldK 1 false a5 g λa6=>
arithK .gtr a6 (I 1073741824) λa7=>
a4 a7 g) λa8 i=>
grpK false a8 i (λa9=>
faK 2 b λb0=>
ldK 1 false b0 i λb1=>
arithK .lss b1 (I 1) λb2=>
a9 b2 i) λb3 j=>
grpK false b3 j (λb4=>
faK 2 b λb5=>
ldK 1 false b5 j λb6=>
arithK .gtr b6 (I 1073741824) λb7=>
b4 b7 j) λb8 l=>
grpK false b8 l (λb9=>
faK 3 b λc0=>
ldK 1 false c0 l λc1=>
arithK .lss c1 (I 0) λc2=>
b9 c2 l) λc3 m=>
grpK false c3 m (λc4=>
faK 3 b λc5=>
ldK 1 false c5 m λc6=>
arithK .gtr c6 (I 1099511627776) λc7=>
c4 c7 m) λd a=>
condK d (
k .ret ((upd (upd (upd (upd (upd (upd t 12 e) 5 b) 4 (t 11)) 16 d) 2 (t 11)) 3 (I 2)),a)) (
arithK .gtr (t 11) (I 0) λc8=>
grpK true c8 a (λc9=>
faK 0 b λd0=>
ldK 1 false d0 a λd1=>
arithK .sub (t 11) (I 1) λd2=>
iaK 4 (t 0) d2 λd3=>
faK 0 d3 λd4=>
ldK 1 false d4 a λd5=>
arithK .lss d1 d5 λd6=>
grpK false d6 a (λd7=>
faK 0 b λd8=>
ldK 1 false d8 a λd9=>
arithK .sub (t 11) (I 1) λe0=>
iaK 4 (t 0) e0 λe1=>
faK 0 e1 λe2=>
ldK 1 false e2 a λe3=>
eqK P false 3 d9 e3 a λe4=>
grpK true e4 a (λe5=>
faK 1 b λe6=>
ldK 1 false e6 a λe7=>
arithK .sub (t 11) (I 1) λe8=>
iaK 4 (t 0) e8 λe9=>
faK 1 e9 λf0=>
ldK 1 false f0 a λf1=>
arithK .leq e7 f1 λf2=>
e5 f2 a) λf3 f4=>
d7 f3 f4) λf5 f6=>
c9 f5 f6) λn o=>
condK n (
k .ret ((upd (upd (upd (upd (upd (upd (upd t 12 e) 5 b) 4 (t 11)) 16 d) 56 n) 2 (t 11)) 3 (I 5)),o)) (
arithK .add (t 11) (I 1) λf7=>
k .normal ((upd (upd (upd (upd (upd (upd t 12 e) 5 b) 4 (t 11)) 16 d) 56 n) 11 f7),o)))) (
k (.exit 0) ((upd t 12 e),h))
noncomputable def Z7L(P:Program)(T:Tab)(D:DTab)(N:Nat){β:Type}(K:Kb β)(e:Ex)(s:St):Option β:=
 e.on ((ZgR P T D N K s.1 s.2))
 (λi=>bif i==0 then ((ZgR P T D N K s.1 s.2)) else (none))
 (K (.tup [(s.1 2),(s.1 3)]) s.2)
noncomputable def ZgS(P:Program)(T:Tab)(D:DTab)(N:Nat){β:Type}(cL2:St→Option β)(K:Kb β)(a0:AV)(h:Hp) :  Option β:=
lenK a0 λb=>
arithK .gtr b (I 24) λa=>
condK a (
K (.tup [(.s (.int .i64 (-1))),(I 8)]) h) (
lenK a0 λc=>
cL2 ((upd (upd (upd (upd (upd (upd (tm0 [a0]) 2 (I 0)) 3 (I 0)) 8 a) 9 a0) 10 c) 11 (I 0)),h))
noncomputable def ZgT(P:Program)(T:Tab)(D:DTab)(N:Nat){β:Type}(K:Kb β)(a0:AV)(h:Hp):Option β:=ZgS P T D N (λs=>iterK (λs k=>Z4S P T D N s.1 s.2 k) N s (Z7L P T D N K)) K a0 h
noncomputable def Zbv(P:Program)(T:Tab)(D:DTab)(N:Nat){β:Type}(K:Kb β)(h:Hp):Option β:=
K (.tup [(.s (.int .i64 (-1))),(I 0)]) h
noncomputable def Z4T(P:Program)(T:Tab)(D:DTab)(N:Nat){β:Type}(xn:AV→AV→AV→Kb β)(x0:Qb β)(xr:AV→Kb β)(l o m b:AV)(h:Hp):Option β:=
arithK .lss b m λx4=>
condK x4 (
iaK 4 o b λx5=>
ldK 4 true x5 h λx6=>
effK (boxE 4 (.agg zz4) (List.length h)) h λc p=>
effK (stE 4 c x6 p) p λx9 d=>
faK 0 c λq=>
ldK 1 false q d λr=>
arithK .lss r (I 0) λs=>
grpK false s d (λt=>
faK 0 c λu=>
ldK 1 false u d λv=>
arithK .gtr v (I 100000) λw=>
t w d) λx e=>
grpK false x e (λy=>
faK 1 c λz=>
ldK 1 false z e λa0=>
arithK .lss a0 (I 1) λa1=>
y a1 e) λa2 f=>
grpK false a2 f (λa3=>
faK 1 c λa4=>
ldK 1 false a4 f λa5=>
arithK .gtr a5 (I 1073741824) λa6=>
a3 a6 f) λa7 g=>
grpK false a7 g (λa8=>
faK 2 c λa9=>
ldK 1 false a9 g λb0=>
arithK .lss b0 (I 1) λb1=>
a8 b1 g) λb2 i=>
grpK false b2 i (λb3=>
faK 2 c λb4=>
ldK 1 false b4 i λb5=>
arithK .gtr b5 (I 1073741824) λb6=>
b3 b6 i) λb7 j=>
grpK false b7 j (λb8=>
faK 3 c λb9=>
ldK 1 false b9 j λc0=>
arithK .lss c0 (I 0) λc1=>
b8 c1 j) λc2 k=>
grpK false c2 k (λc3=>
faK 3 c λc4=>
ldK 1 false c4 k λc5=>
arithK .gtr c5 (I 1099511627776) λc6=>
c3 c6 k) λc7 a=>
condK c7 (
xr b (I 2) a) (
arithK .gtr b (I 0) λc8=>
grpK true c8 a (λc9=>
faK 0 c λd0=>
ldK 1 false d0 a λd1=>
arithK .sub b (I 1) λd2=>
iaK 4 l d2 λd3=>
faK 0 d3 λd4=>
ldK 1 false d4 a λd5=>
arithK .lss d1 d5 λd6=>
grpK false d6 a (λd7=>
faK 0 c λd8=>
ldK 1 false d8 a λd9=>
arithK .sub b (I 1) λe0=>
iaK 4 l e0 λe1=>
faK 0 e1 λe2=>
ldK 1 false e2 a λe3=>
eqK P false 3 d9 e3 a λe4=>
grpK true e4 a (λe5=>
faK 1 c λe6=>
ldK 1 false e6 a λe7=>
arithK .sub b (I 1) λe8=>
iaK 4 l e8 λe9=>
faK 1 e9 λf0=>
ldK 1 false f0 a λf1=>
arithK .leq e7 f1 λf2=>
e5 f2 a) λf3 f4=>
d7 f3 f4) λf5 f6=>
c9 f5 f6) λf7 n=>
condK f7 (
xr b (I 5) n) (
arithK .add b (I 1) λf8=>
xn l o m f8 n))) (
x0 h)
noncomputable def Z2I(P:Program)(T:Tab)(D:DTab)(N:Nat){β:Type}(a:Qb β)(xr:AV→Kb β):Nat→AV→AV→AV→Kb β
 | 0=>λ_ _ _ _ _=>none
 | n+1=>λd e b c h=>Z4T P T D N (Z2I P T D N a xr n) a xr d e b c h
noncomputable def Z4U(P:Program)(T:Tab)(D:DTab)(N:Nat){β:Type}(K:Kb β)(a0:AV)(h:Hp):Option β:=
lenK a0 λc=>
arithK .gtr c (I 24) λd=>
condK d (
K (.tup [(.s (.int .i64 (-1))),(I 8)]) h) (
lenK a0 λe=>
Z2I P T D N (λh=>Zbv P T D N K h) (λa b h=>K (.tup [a,b]) h) N a0 a0 e (I 0) h)
theorem ZpZ(xn:AV→AV→AV→Kb β)(x0:Qb β)(xr:AV→Kb β)(xd:Nat→St→Option β)(xq:St→Option β)(t:Tm)(h:Hp):Z4S P T D N t h (λ(e:Ex)(s:St)=>e.on (xn (s.1 0) (s.1 9) (s.1 10) (s.1 11) s.2) (λi=>(bif i==0 then x0 s.2 else (xd i s))) (xr (s.1 2) (s.1 3) s.2))=Z4T P T D N xn x0 xr (t 0) (t 9) (t 10) (t 11) h:=by kernel_rfl
theorem Zq0(A:Ex→St→Option β)(x0:Qb β)(xr:AV→Kb β)(q0:∀s,A (.exit 0) s=x0 s.2)(qr:∀s,A .ret s=xr (s.1 2) (s.1 3) s.2):∀(n:Nat)(s:St),iterK (λs k=>Z4S P T D N s.1 s.2 k) n s A=Z2I P T D N x0 xr n (s.1 0) (s.1 9) (s.1 10) (s.1 11) s.2:=
 Z0i (exs1 q0 qr) (λs=>rfl) λn s=>ZpZ P T D N (Z2I P T D N x0 xr n) x0 xr (λi s=>A (.exit i) s) (λs=>A .ret s) s.1 s.2
theorem Zq1(K:Kb β)(a0:AV)(h:Hp):ZgT P T D N K a0 h=Z4U P T D N K a0 h:=by
 have eL2:(λs:St=>iterK (λs k=>Z4S P T D N s.1 s.2 k) N s (Z7L P T D N K))=(λs:St=>Z2I P T D N (λh=>Zbv P T D N K h) (λw89_2 w89_3 h=>K (.tup [w89_2,w89_3]) h) N (s.1 0) (s.1 9) (s.1 10) (s.1 11) s.2):=funext λs=>Zq0 P T D N (Z7L P T D N K) (λh=>Zbv P T D N K h) (λw89_2 w89_3 h=>K (.tup [w89_2,w89_3]) h) (λs=>rfl) (λs=>rfl) N s
 show ZgS P T D N (λs=>iterK (λs k=>Z4S P T D N s.1 s.2 k) N s (Z7L P T D N K)) K a0 h=_
 rw[eL2]
 kernel_rfl
theorem Zq2(K:Kb β)(a0:AV)(h:Hp):runK Tryz.prog T D N [0,2,3,4,5,8,9,10,11,12,16,56] Tryz.f87 K [a0] h=Z4U Tryz.prog T D N K a0 h:=Eq.trans (b:=ZgT Tryz.prog T D N K a0 h) (by kernel_rfl) (Zq1 Tryz.prog T D N K a0 h)
noncomputable def ZgU(P:Program)(T:Tab)(D:DTab)(N:Nat){β:Type}(K:Kb β)(t:Tm)(h:Hp):Option β:=
K (.tup [(t 16),(t 17),(I 0)]) h
noncomputable def Zbw(P:Program)(T:Tab)(D:DTab)(N:Nat){β:Type}(k:Ex→St→Option β)(t:Tm)(h:Hp):Option β:=
k .normal (t,h)
noncomputable def Z4V(P:Program)(T:Tab)(D:DTab)(N:Nat){β:Type}(t:Tm)(h:Hp)(k:Ex→St→Option β):Option β:=
nextK (t 81) h λm e=>
exK m 0 λc=>
condK c (
entryK (t 81) e λi=>
exK i 0 λn=>
exK i 1 λd=>
effK (boxE 2 (.agg zz2) (List.length e)) e λa j=>
effK (stE 2 a n j) j λv b=>
faK 0 a λo=>
ldK 1 false o b λp=>
lenK (t 0) λq=>
eqK P true 3 p q b λf=>
condK f (
(Zbw P T D N k (upd (upd (upd (upd t 83 c) 18 a) 19 d) 91 f) b)) (
arithK .add (t 17) d λl=>
faK 1 a λr=>
ldK 1 false r b λs=>
arithK .geq s (t 15) λg=>
condK g (
arithK .add (t 16) d λu=>
(Zbw P T D N k (upd (upd (upd (upd (upd (upd (upd t 83 c) 18 a) 19 d) 91 f) 17 l) 98 g) 16 u) b)) (
(Zbw P T D N k (upd (upd (upd (upd (upd (upd t 83 c) 18 a) 19 d) 91 f) 17 l) 98 g) b)))) (
k (.exit 4) ((upd t 83 c),e))
noncomputable def Z7M(P:Program)(T:Tab)(D:DTab)(N:Nat){β:Type}(K:Kb β)(e:Ex)(s:St):Option β:=
 e.on ((ZgU P T D N K s.1 s.2))
 (λi=>bif i==4 then ((ZgU P T D N K s.1 s.2)) else (none))
 (K (.tup [(s.1 4),(s.1 5),(s.1 6)]) s.2)
noncomputable def ZgV(P:Program)(T:Tab)(D:DTab)(N:Nat){β:Type}(cL3:St→Option β)(K:Kb β)(t:Tm)(h:Hp) :  Option β:=
callK (T 161) [(t 0),(t 1)] h λb a=>
effK (rngE (t 9) a (List.length a)) a λc d=>
cL3 ((upd (upd (upd (upd t 15 b) 16 (I 0)) 17 (I 0)) 81 c),d)
noncomputable def Zbx(P:Program)(T:Tab)(D:DTab)(N:Nat){β:Type}(K:Kb β)(t:Tm)(h:Hp):Option β:=ZgV P T D N (λs=>iterK (λs k=>Z4V P T D N s.1 s.2 k) N s (Z7M P T D N K)) K t h
noncomputable def ZgW(P:Program)(T:Tab)(D:DTab)(N:Nat){β:Type}(k:Ex→St→Option β)(t:Tm)(h:Hp):Option β:=
arithK .add (t 37) (I 1) λa=>
k .normal ((upd t 37 a),h)
noncomputable def ZgX(P:Program)(T:Tab)(D:DTab)(N:Nat){β:Type}(k:Ex→St→Option β)(t:Tm)(h:Hp):Option β:=
(ZgW P T D N k (upd t 9 (t 12)) h)
noncomputable def ZgY(P:Program)(T:Tab)(D:DTab)(N:Nat){β:Type}(k:Ex→St→Option β)(t:Tm)(h:Hp):Option β:=
k .normal (t,h)
noncomputable def Z4W(P:Program)(T:Tab)(D:DTab)(N:Nat){β:Type}(t:Tm)(h:Hp)(k:Ex→St→Option β):Option β:=
nextK (t 43) h λr c=>
exK r 0 λd=>
condK d (
entryK (t 43) c λi=>
exK i 0 λs=>
exK i 1 λe=>
effK (boxE 2 (.agg zz2) (List.length c)) c λa j=>
effK (stE 2 a s j) j λb4 f=>
ldK 2 true a f λl=>
lookK P 246 (I 0) false (t 12) l f λu=>
arithK .add u e λv=>
effD (mentE P 246 (I 0) (t 12) l f) f λw m x=>
exK w 1 λy=>
effD (estE (t 12) y v m) m λb5 b z=>
bif disjAll [] [([],[]),((idsOf a),[]),((idsOf (t 12)),[]),([],[]),([],[]),x,([],[]),z] then (
faK 0 a λa0=>
ldK 1 false a0 b λa1=>
lenK (t 0) λa2=>
arithK .lss a1 a2 λg=>
condK g (
faK 0 a λn=>
ldK 1 false n b λa3=>
arithK .add a3 (I 1) λa4=>
faK 1 a λo=>
ldK 1 false o b λa5=>
arithK .add a5 (t 11) λa6=>
buildK zz2 [(some (0,1),a4),(some (1,1),a6)] λp=>
lookK P 246 (I 0) false (t 12) p b λa7=>
arithK .add a7 e λa8=>
effD (mentE P 246 (I 0) (t 12) p b) b λa9 q b0=>
exK a9 1 λb1=>
effD (estE (t 12) b1 a8 q) q λb6 b2 b3=>
bif disjAll [] [([],[]),([],[]),((idsOf n),[]),([],[]),([],[]),((idsOf o),[]),([],[]),([],[]),([],[]),((idsOf (t 12)),[]),([],[]),([],[]),b0,([],[]),b3] then (
(ZgY P T D N k (upd (upd (upd (upd t 45 d) 13 a) 14 e) 60 g) b2)) else none) (
(ZgY P T D N k (upd (upd (upd (upd t 45 d) 13 a) 14 e) 60 g) b))) else none) (
k (.exit 2) ((upd t 45 d),c))
noncomputable def Z7N(P:Program)(T:Tab)(D:DTab)(N:Nat){β:Type}(k:Ex→St→Option β)(e:Ex)(s:St):Option β:=
 e.on ((ZgX P T D N k s.1 s.2))
 (λi=>bif i==2 then ((ZgX P T D N k s.1 s.2)) else (bif i==1 then ((ZgW P T D N k s.1 s.2)) else (k (.exit i) (s.1,s.2))))
 (k .ret (s.1,s.2))
noncomputable def ZgZ(P:Program)(T:Tab)(D:DTab)(N:Nat){β:Type}(cL8:St→Option β)(t:Tm)(h:Hp)(k:Ex→St→Option β) :  Option β:=
arithK .lss (t 37) (t 36) λa=>
condK a (
iaK 1 (t 35) (t 37) λc=>
ldK 1 false c h λd=>
effK (some (.mp (List.length h),EN (.map []))) h λe b=>
effK (rngE (t 9) b (List.length b)) b λf g=>
cL8 ((upd (upd (upd (upd t 38 a) 11 d) 12 e) 43 f),g)) (
k (.exit 0) ((upd t 38 a),h))
noncomputable def Z4X(P:Program)(T:Tab)(D:DTab)(N:Nat){β:Type}(t:Tm)(h:Hp)(k:Ex→St→Option β):Option β:=ZgZ P T D N (λs=>iterK (λs k=>Z4W P T D N s.1 s.2 k) N s (Z7N P T D N k)) t h k
noncomputable def Z7O(P:Program)(T:Tab)(D:DTab)(N:Nat){β:Type}(K:Kb β)(e:Ex)(s:St):Option β:=
 e.on ((Zbx P T D N K s.1 s.2))
 (λi=>bif i==0 then ((Zbx P T D N K s.1 s.2)) else (none))
 (K (.tup [(s.1 4),(s.1 5),(s.1 6)]) s.2)
noncomputable def Zh0(P:Program)(T:Tab)(D:DTab)(N:Nat){β:Type}(cL5:St→Option β)(K:Kb β)(a0 a1:AV)(h:Hp) :  Option β:=
callK (T 158) [a0,a1] h λc a=>
eqK P true 26 c (I 0) a λe=>
condK e (
K (.tup [(I 0),(I 0),c]) a) (
effK (bsE 1 [nilS] 2 [(0,a0),(1,a1)] (List.length a)) a λn o=>
callK (T 159) [n] o λd f=>
effK (some (.mp (List.length f),EN (.map []))) f λg i=>
buildK zz2 [(some (0,1),(I 0)),(some (1,1),(I 0))] λj=>
effK (mupE P 246 g j (I 1) i) i λp k=>
callK (T 160) [d,d] k λb l=>
lenK b λm=>
cL5 ((upd (upd (upd (upd (upd (upd (upd (upd (upd (upd (tm0 [a0,a1]) 4 (I 0)) 5 (I 0)) 6 (I 0)) 7 c) 24 e) 8 d) 9 g) 35 b) 36 m) 37 (I 0)),l))
noncomputable def Zh1(P:Program)(T:Tab)(D:DTab)(N:Nat){β:Type}(K:Kb β)(a0 a1:AV)(h:Hp):Option β:=Zh0 P T D N (λs=>iterK (λs k=>Z4X P T D N s.1 s.2 k) N s (Z7O P T D N K)) K a0 a1 h
noncomputable def Zby(P:Program)(T:Tab)(D:DTab)(N:Nat){β:Type}(K:Kb β)(a b:AV)(h:Hp):Option β:=
K (.tup [a,b,(I 0)]) h
noncomputable def Z3s(P:Program)(T:Tab)(D:DTab)(N:Nat){β:Type}(xn:AV→AV→AV→AV→Kb β)(f:AV→Kb β)(e a b c d:AV)(h:Hp):Option β:=
xn e a b c d h
noncomputable def Zbz(P:Program)(T:Tab)(D:DTab)(N:Nat){β:Type}(xn:AV→AV→AV→AV→Kb β)(i:AV→Kb β)(j c d f b:AV)(h:Hp):Option β:=
nextK b h λo e=>
exK o 0 λp=>
condK p (
entryK b e λk=>
exK k 0 λq=>
exK k 1 λl=>
effK (boxE 2 (.agg zz2) (List.length e)) e λg m=>
effK (stE 2 g q m) m λz a=>
faK 0 g λr=>
ldK 1 false r a λs=>
lenK j λt=>
eqK P true 3 s t a λu=>
condK u (
Z3s P T D N xn i j c d f b a) (
arithK .add f l λn=>
faK 1 g λv=>
ldK 1 false v a λw=>
arithK .geq w c λx=>
condK x (
arithK .add d l λy=>
Z3s P T D N xn i j c y n b a) (
Z3s P T D N xn i j c d n b a))) (
i d f e)
noncomputable def Z2J(P:Program)(T:Tab)(D:DTab)(N:Nat){β:Type}(a:AV→Kb β):Nat→AV→AV→AV→AV→Kb β
 | 0=>λ_ _ _ _ _ _=>none
 | n+1=>λf b c d e h=>Zbz P T D N (Z2J P T D N a n) a f b c d e h
noncomputable def Z4Y(P:Program)(T:Tab)(D:DTab)(N:Nat){β:Type}(K:Kb β)(d i j:AV)(h:Hp):Option β:=
callK (T 161) [d,i] h λe a=>
effK (rngE j a (List.length a)) a λf g=>
Z2J P T D N (λb c h=>Zby P T D N K b c h) N d e (I 0) (I 0) f g
noncomputable def Zh2(P:Program)(T:Tab)(D:DTab)(N:Nat){β:Type}(xn:AV→AV→AV→AV→AV→Kb β)(i:AV→AV→Kb β)(e f g a b c:AV)(h:Hp):Option β:=
arithK .add c (I 1) λd=>
xn e f g a b d h
noncomputable def Z7P(P:Program)(T:Tab)(D:DTab)(N:Nat){β:Type}(xn:AV→AV→AV→AV→AV→Kb β)(e:AV→AV→Kb β)(f g a b c d:AV)(h:Hp):Option β:=
Zh2 P T D N xn e f g a b c d h
noncomputable def Z7Q(P:Program)(T:Tab)(D:DTab)(N:Nat){β:Type}(xn:AV→AV→AV→AV→AV→AV→AV→Kb β)(j:AV→AV→AV→AV→AV→Kb β)(g i a b c d e f:AV)(h:Hp):Option β:=
xn g i a b c d e f h
noncomputable def ZbA(P:Program)(T:Tab)(D:DTab)(N:Nat){β:Type}(xn:AV→AV→AV→AV→AV→AV→AV→Kb β)(v:AV→AV→AV→AV→AV→Kb β)(l w g a i j k d:AV)(h:Hp):Option β:=
nextK d h λx e=>
exK x 0 λy=>
condK y (
entryK d e λm=>
exK m 0 λz=>
exK m 1 λn=>
effK (boxE 2 (.agg zz2) (List.length e)) e λc o=>
effK (stE 2 c z o) o λc1 f=>
ldK 2 true c f λp=>
lookK P 246 (I 0) false a p f λa0=>
arithK .add a0 n λa1=>
effD (mentE P 246 (I 0) a p f) f λa2 q a3=>
exK a2 1 λa4=>
effD (estE a a4 a1 q) q λc2 b a5=>
bif disjAll [] [([],[]),((idsOf c),[]),((idsOf a),[]),([],[]),([],[]),a3,([],[]),a5] then (
faK 0 c λa6=>
ldK 1 false a6 b λa7=>
lenK l λa8=>
arithK .lss a7 a8 λa9=>
condK a9 (
faK 0 c λr=>
ldK 1 false r b λb0=>
arithK .add b0 (I 1) λb1=>
faK 1 c λs=>
ldK 1 false s b λb2=>
arithK .add b2 g λb3=>
buildK zz2 [(some (0,1),b1),(some (1,1),b3)] λt=>
lookK P 246 (I 0) false a t b λb4=>
arithK .add b4 n λb5=>
effD (mentE P 246 (I 0) a t b) b λb6 u b7=>
exK b6 1 λb8=>
effD (estE a b8 b5 u) u λc3 b9 c0=>
bif disjAll [] [([],[]),([],[]),((idsOf r),[]),([],[]),([],[]),((idsOf s),[]),([],[]),([],[]),([],[]),((idsOf a),[]),([],[]),([],[]),b7,([],[]),c0] then (
Z7Q P T D N xn v l w g a i j k d b9) else none) (
Z7Q P T D N xn v l w g a i j k d b)) else none) (
v l w a i j k e)
noncomputable def Z2K(P:Program)(T:Tab)(D:DTab)(N:Nat){β:Type}(a:AV→AV→AV→AV→AV→Kb β):Nat→AV→AV→AV→AV→AV→AV→AV→Kb β
 | 0=>λ_ _ _ _ _ _ _ _ _=>none
 | n+1=>λi j b c d e f g h=>ZbA P T D N (Z2K P T D N a n) a i j b c d e f g h
noncomputable def Z4Z(P:Program)(T:Tab)(D:DTab)(N:Nat){β:Type}(xn:AV→AV→AV→AV→AV→Kb β)(l:AV→AV→Kb β)(m n o j k a:AV)(h:Hp):Option β:=
arithK .lss a k λp=>
condK p (
iaK 1 j a λq=>
ldK 1 false q h λr=>
effK (some (.mp (List.length h),EN (.map []))) h λs b=>
effK (rngE o b (List.length b)) b λt u=>
Z2K P T D N (λg i c d e f h=>Z7P P T D N xn l g i c d e f h) N m n r s j k a t u) (
l m n o h)
noncomputable def Z2L(P:Program)(T:Tab)(D:DTab)(N:Nat){β:Type}(a:AV→AV→Kb β):Nat→AV→AV→AV→AV→AV→Kb β
 | 0=>λ_ _ _ _ _ _ _=>none
 | n+1=>λe f g b c d h=>Z4Z P T D N (Z2L P T D N a n) a e f g b c d h
noncomputable def Z50(P:Program)(T:Tab)(D:DTab)(N:Nat){β:Type}(K:Kb β)(a0 a1:AV)(h:Hp):Option β:=
callK (T 158) [a0,a1] h λf a=>
eqK P true 26 f (I 0) a λp=>
condK p (
K (.tup [(I 0),(I 0),f]) a) (
effK (bsE 1 [nilS] 2 [(0,a0),(1,a1)] (List.length a)) a λq r=>
callK (T 159) [q] r λg i=>
effK (some (.mp (List.length i),EN (.map []))) i λj k=>
buildK zz2 [(some (0,1),(I 0)),(some (1,1),(I 0))] λl=>
effK (mupE P 246 j l (I 1) k) k λs m=>
callK (T 160) [g,g] m λe n=>
lenK e λo=>
Z2L P T D N (λb c d h=>Z4Y P T D N K b c d h) N a0 a1 j e o (I 0) n)
theorem Zq3(xn:AV→AV→AV→AV→Kb β)(x4:AV→Kb β)(xd:Nat→St→Option β)(xq:St→Option β)(t:Tm)(h:Hp):Z4V P T D N t h (λ(e:Ex)(s:St)=>e.on (xn (s.1 0) (s.1 15) (s.1 16) (s.1 17) (s.1 81) s.2) (λi=>(bif i==4 then x4 (s.1 16) (s.1 17) s.2 else (xd i s))) (xq s))=Zbz P T D N xn x4 (t 0) (t 15) (t 16) (t 17) (t 81) h:=by kernel_rfl
theorem Zq4(A:Ex→St→Option β)(x4:AV→Kb β)(q4:∀s,A (.exit 4) s=x4 (s.1 16) (s.1 17) s.2):∀(n:Nat)(s:St),iterK (λs k=>Z4V P T D N s.1 s.2 k) n s A=Z2J P T D N x4 n (s.1 0) (s.1 15) (s.1 16) (s.1 17) (s.1 81) s.2:=
 Z0i (exs1 q4 (λs=>rfl)) (λs=>rfl) λn s=>Zq3 P T D N (Z2J P T D N x4 n) x4 (λi s=>A (.exit i) s) (λs=>A .ret s) s.1 s.2
theorem Zq5(K:Kb β)(t:Tm)(h:Hp):Zbx P T D N K t h=Z4Y P T D N K (t 0) (t 1) (t 9) h:=by
 have eL3:(λs:St=>iterK (λs k=>Z4V P T D N s.1 s.2 k) N s (Z7M P T D N K))=(λs:St=>Z2J P T D N (λw39_16 w39_17 h=>Zby P T D N K w39_16 w39_17 h) N (s.1 0) (s.1 15) (s.1 16) (s.1 17) (s.1 81) s.2):=funext λs=>Zq4 P T D N (Z7M P T D N K) (λw39_16 w39_17 h=>Zby P T D N K w39_16 w39_17 h) (λs=>rfl) N s
 show ZgV P T D N (λs=>iterK (λs k=>Z4V P T D N s.1 s.2 k) N s (Z7M P T D N K)) K t h=_
 rw[eL3]
 kernel_rfl
theorem Zq6(xn:AV→AV→AV→AV→AV→AV→AV→Kb β)(x2:AV→AV→AV→AV→AV→Kb β)(xd:Nat→St→Option β)(xq:St→Option β)(t:Tm)(h:Hp):Z4W P T D N t h (λ(e:Ex)(s:St)=>e.on (xn (s.1 0) (s.1 1) (s.1 11) (s.1 12) (s.1 35) (s.1 36) (s.1 37) (s.1 43) s.2) (λi=>(bif i==2 then x2 (s.1 0) (s.1 1) (s.1 12) (s.1 35) (s.1 36) (s.1 37) s.2 else (xd i s))) (xq s))=ZbA P T D N xn x2 (t 0) (t 1) (t 11) (t 12) (t 35) (t 36) (t 37) (t 43) h:=by kernel_rfl
theorem Zq7(A:Ex→St→Option β)(x2:AV→AV→AV→AV→AV→Kb β)(q2:∀s,A (.exit 2) s=x2 (s.1 0) (s.1 1) (s.1 12) (s.1 35) (s.1 36) (s.1 37) s.2):∀(n:Nat)(s:St),iterK (λs k=>Z4W P T D N s.1 s.2 k) n s A=Z2K P T D N x2 n (s.1 0) (s.1 1) (s.1 11) (s.1 12) (s.1 35) (s.1 36) (s.1 37) (s.1 43) s.2:=
 Z0i (exs1 q2 (λs=>rfl)) (λs=>rfl) λn s=>Zq6 P T D N (Z2K P T D N x2 n) x2 (λi s=>A (.exit i) s) (λs=>A .ret s) s.1 s.2
theorem Zq8(xn:AV→AV→AV→AV→AV→Kb β)(x0:AV→AV→Kb β)(xd:Nat→St→Option β)(xq:St→Option β)(t:Tm)(h:Hp):Z4X P T D N t h (λ(e:Ex)(s:St)=>e.on (xn (s.1 0) (s.1 1) (s.1 9) (s.1 35) (s.1 36) (s.1 37) s.2) (λi=>(bif i==0 then x0 (s.1 0) (s.1 1) (s.1 9) s.2 else (xd i s))) (xq s))=Z4Z P T D N xn x0 (t 0) (t 1) (t 9) (t 35) (t 36) (t 37) h:=by
 have eL8:(λs:St=>iterK (λs k=>Z4W P T D N s.1 s.2 k) N s (Z7N P T D N (λ(e:Ex)(s:St)=>e.on (xn (s.1 0) (s.1 1) (s.1 9) (s.1 35) (s.1 36) (s.1 37) s.2) (λi=>(bif i==0 then x0 (s.1 0) (s.1 1) (s.1 9) s.2 else (xd i s))) (xq s))))=(λs:St=>Z2K P T D N (λw88_0 w88_1 w88_12 w88_35 w88_36 w88_37 h=>Z7P P T D N xn x0 w88_0 w88_1 w88_12 w88_35 w88_36 w88_37 h) N (s.1 0) (s.1 1) (s.1 11) (s.1 12) (s.1 35) (s.1 36) (s.1 37) (s.1 43) s.2):=funext λs=>Zq7 P T D N (Z7N P T D N (λ(e:Ex)(s:St)=>e.on (xn (s.1 0) (s.1 1) (s.1 9) (s.1 35) (s.1 36) (s.1 37) s.2) (λi=>(bif i==0 then x0 (s.1 0) (s.1 1) (s.1 9) s.2 else (xd i s))) (xq s))) (λw88_0 w88_1 w88_12 w88_35 w88_36 w88_37 h=>Z7P P T D N xn x0 w88_0 w88_1 w88_12 w88_35 w88_36 w88_37 h) (λs=>rfl) N s
 show ZgZ P T D N (λs=>iterK (λs k=>Z4W P T D N s.1 s.2 k) N s (Z7N P T D N (λ(e:Ex)(s:St)=>e.on (xn (s.1 0) (s.1 1) (s.1 9) (s.1 35) (s.1 36) (s.1 37) s.2) (λi=>(bif i==0 then x0 (s.1 0) (s.1 1) (s.1 9) s.2 else (xd i s))) (xq s)))) t h (λ(e:Ex)(s:St)=>e.on (xn (s.1 0) (s.1 1) (s.1 9) (s.1 35) (s.1 36) (s.1 37) s.2) (λi=>(bif i==0 then x0 (s.1 0) (s.1 1) (s.1 9) s.2 else (xd i s))) (xq s))=_
 rw[eL8]
 kernel_rfl
theorem Zq9(A:Ex→St→Option β)(x0:AV→AV→Kb β)(q0:∀s,A (.exit 0) s=x0 (s.1 0) (s.1 1) (s.1 9) s.2):∀(n:Nat)(s:St),iterK (λs k=>Z4X P T D N s.1 s.2 k) n s A=Z2L P T D N x0 n (s.1 0) (s.1 1) (s.1 9) (s.1 35) (s.1 36) (s.1 37) s.2:=
 Z0i (exs1 q0 (λs=>rfl)) (λs=>rfl) λn s=>Zq8 P T D N (Z2L P T D N x0 n) x0 (λi s=>A (.exit i) s) (λs=>A .ret s) s.1 s.2
theorem Zqa(K:Kb β)(a0 a1:AV)(h:Hp):Zh1 P T D N K a0 a1 h=Z50 P T D N K a0 a1 h:=by
 have eL5:(λs:St=>iterK (λs k=>Z4X P T D N s.1 s.2 k) N s (Z7O P T D N K))=(λs:St=>Z2L P T D N (λw89_0 w89_1 w89_9 h=>Z4Y P T D N K w89_0 w89_1 w89_9 h) N (s.1 0) (s.1 1) (s.1 9) (s.1 35) (s.1 36) (s.1 37) s.2):=funext λs=>Zq9 P T D N (Z7O P T D N K) (λw89_0 w89_1 w89_9 h=>Z4Y P T D N K w89_0 w89_1 w89_9 h) (λs=>Zq5 P T D N K s.1 s.2) N s
 show Zh0 P T D N (λs=>iterK (λs k=>Z4X P T D N s.1 s.2 k) N s (Z7O P T D N K)) K a0 a1 h=_
 rw[eL5]
 kernel_rfl
theorem Zqb(K:Kb β)(a0 a1:AV)(h:Hp):runK Tryz.prog T D N [0,1,4,5,6,7,8,9,11,12,13,14,15,16,17,18,19,24,35,36,37,38,43,45,60,81,83,91,98] Tryz.f91 K [a0,a1] h=Z50 Tryz.prog T D N K a0 a1 h:=Eq.trans (b:=Zh1 Tryz.prog T D N K a0 a1 h) (by kernel_rfl) (Zqa Tryz.prog T D N K a0 a1 h)
noncomputable def Z7R(P:Program)(T:Tab)(D:DTab)(N:Nat){β:Type}(K:Kb β)(a0:AV)(h:Hp):Option β:=
effK (boxE 9 a0 (List.length h)) h λb a=>
K (.s (.bool false)) a
theorem Zqc(K:Kb β)(a0:AV)(h:Hp):runK Tryz.prog T D N [0,2] Tryz.f92 K [a0] h=Z7R Tryz.prog T D N K a0 h:=by kernel_rfl
noncomputable def Z7S(P:Program)(T:Tab)(D:DTab)(N:Nat){β:Type}(K:Kb β)(a0:AV)(h:Hp):Option β:=
effK (boxE 9 a0 (List.length h)) h λb a=>
faK 7 b λc=>
ldK 1 false c a λd=>
K d a
theorem Zqd(K:Kb β)(a0:AV)(h:Hp):runK Tryz.prog T D N [0,1,2] Tryz.f93 K [a0] h=Z7S Tryz.prog T D N K a0 h:=by kernel_rfl
noncomputable def Z7T(P:Program)(T:Tab)(D:DTab)(N:Nat){β:Type}(K:Kb β)(a0:AV)(h:Hp):Option β:=
effK (boxE 5 a0 (List.length h)) h λc a=>
faK 2 c λm=>
ldK 1 false m a λn=>
eqK P false 3 n (I 0) a λo=>
grpK true o a (λp=>
faK 3 c λq=>
ldK 1 false q a λr=>
eqK P false 3 r (I 0) a λs=>
p s a) λd b=>
grpK true d b (λe=>
faK 4 c λf=>
ldK 1 false f b λg=>
callK (T 49) [g,(I 1),(I 10737418240000)] b λi j=>
e i j) λk l=>
K k l
theorem Zqe(K:Kb β)(a0:AV)(h:Hp):runK Tryz.prog T D N [0,1,2] Tryz.f94 K [a0] h=Z7T Tryz.prog T D N K a0 h:=by kernel_rfl
noncomputable def Z7U(P:Program)(T:Tab)(D:DTab)(N:Nat){β:Type}(K:Kb β)(a0:AV)(h:Hp):Option β:=
effK (boxE 5 a0 (List.length h)) h λb e=>
faK 2 b λx=>
ldK 1 false x e λy=>
callK (T 96) [y] e λz d=>
grpK true z d (λk7=>
faK 3 b λx8=>
ldK 1 false x8 d λx9=>
callK (T 96) [x9] d λf g=>
k7 f g) λi a=>
grpK true i a (λj=>
faK 2 b λk=>
ldK 1 false k a λl=>
faK 3 b λm=>
ldK 1 false m a λn=>
eqK P true 3 l n a λo=>
j o a) λp c=>
grpK true p c (λq=>
faK 4 b λr=>
ldK 1 false r c λs=>
callK (T 49) [s,(I 1),(I 10737418240000)] c λt u=>
q t u) λv w=>
K v w
theorem Zqf(K:Kb β)(a0:AV)(h:Hp):runK Tryz.prog T D N [0,1,2] Tryz.f95 K [a0] h=Z7U Tryz.prog T D N K a0 h:=by kernel_rfl
noncomputable def Z7V(P:Program)(T:Tab)(D:DTab)(N:Nat){β:Type}(K:Kb β)(a0:AV)(h:Hp):Option β:=
callK (T 49) [a0,(I 1),(I 99)] h λa b=>
K a b
theorem Zqg(K:Kb β)(a0:AV)(h:Hp):runK Tryz.prog T D N [0,2] Tryz.f96 K [a0] h=Z7V Tryz.prog T D N K a0 h:=by kernel_rfl
noncomputable def Z7W(P:Program)(T:Tab)(D:DTab)(N:Nat){β:Type}(K:Kb β)(a0 a1:AV)(h:Hp):Option β:=
effK (boxE 5 a1 (List.length h)) h λb a=>
faK 4 b λg=>
ldK 1 false g a λi=>
faK 4 b λj=>
ldK 1 false j a λk=>
faK 2 b λl=>
ldK 1 false l a λm=>
faK 3 b λn=>
ldK 1 false n a λc=>
buildK [I 0, I 0, I 0, I 0, I 0, I 0, I 0,.s (.bool false),.s (.bool false)] [(some (0,1),i),(some (4,1),k),(some (5,1),m),(some (6,1),c)] λd=>
nilK a0 λe=>
effK (stE 9 e d a) a λo f=>
K (.tup []) f
theorem Zqh(K:Kb β)(a0 a1:AV)(h:Hp):runK Tryz.prog T D N [0,1,3] Tryz.f97 K [a0,a1] h=Z7W Tryz.prog T D N K a0 a1 h:=by kernel_rfl
noncomputable def Z7X(P:Program)(T:Tab)(D:DTab)(N:Nat){β:Type}(K:Kb β)(a0:AV)(h:Hp):Option β:=
effK (boxE 5 a0 (List.length h)) h λc d=>
faK 2 c λn=>
ldK 1 false n d λo=>
callK (T 96) [o] d λp b=>
grpK true p b (λq=>
faK 3 c λr=>
ldK 1 false r b λs=>
eqK P false 3 s (I 0) b λe=>
q e b) λf a=>
grpK true f a (λg=>
faK 4 c λi=>
ldK 1 false i a λj=>
eqK P false 3 j (I 0) a λk=>
g k a) λl m=>
K l m
theorem Zqi(K:Kb β)(a0:AV)(h:Hp):runK Tryz.prog T D N [0,1,2] Tryz.f98 K [a0] h=Z7X Tryz.prog T D N K a0 h:=by kernel_rfl
noncomputable def Z7Y(P:Program)(T:Tab)(D:DTab)(N:Nat){β:Type}(K:Kb β)(a0 a1:AV)(h:Hp):Option β:=
effK (boxE 5 a1 (List.length h)) h λe a=>
nilK a0 λb=>
faK 7 b λc=>
effK (stE 1 c (.s (.bool true)) a) a λf d=>
K (.tup []) d
theorem Zqj(K:Kb β)(a0 a1:AV)(h:Hp):runK Tryz.prog T D N [0,1] Tryz.f99 K [a0,a1] h=Z7Y Tryz.prog T D N K a0 a1 h:=by kernel_rfl
noncomputable def Z7Z(P:Program)(T:Tab)(D:DTab)(N:Nat){β:Type}(K:Kb β)(a0:AV)(h:Hp):Option β:=
effK (boxE 5 a0 (List.length h)) h λc b=>
faK 2 c λl=>
ldK 1 false l b λm=>
eqK P false 3 m (I 0) b λn=>
grpK true n b (λo=>
faK 3 c λp=>
ldK 1 false p b λq=>
eqK P false 3 q (I 0) b λr=>
o r b) λd a=>
grpK true d a (λe=>
faK 4 c λf=>
ldK 1 false f a λg=>
eqK P false 3 g (I 0) a λi=>
e i a) λj k=>
K j k
theorem Zqk(K:Kb β)(a0:AV)(h:Hp):runK Tryz.prog T D N [0,1,2] Tryz.f100 K [a0] h=Z7Z Tryz.prog T D N K a0 h:=by kernel_rfl
noncomputable def Z80(P:Program)(T:Tab)(D:DTab)(N:Nat){β:Type}(K:Kb β)(a0:AV)(h:Hp):Option β:=
effK (boxE 9 a0 (List.length h)) h λb a=>
faK 7 b λc=>
ldK 1 false c a λd=>
notK d λe=>
K e a
theorem Zql(K:Kb β)(a0:AV)(h:Hp):runK Tryz.prog T D N [0,1,2] Tryz.f101 K [a0] h=Z80 Tryz.prog T D N K a0 h:=by kernel_rfl
noncomputable def Z81(P:Program)(T:Tab)(D:DTab)(N:Nat){β:Type}(K:Kb β)(a0 a1:AV)(h:Hp):Option β:=
effK (boxE 5 a1 (List.length h)) h λe a=>
nilK a0 λb=>
faK 7 b λc=>
effK (stE 1 c (.s (.bool false)) a) a λf d=>
K (.tup []) d
theorem Zqm(K:Kb β)(a0 a1:AV)(h:Hp):runK Tryz.prog T D N [0,1] Tryz.f102 K [a0,a1] h=Z81 Tryz.prog T D N K a0 a1 h:=by kernel_rfl
noncomputable def Z82(P:Program)(T:Tab)(D:DTab)(N:Nat){β:Type}(K:Kb β)(a0:AV)(h:Hp):Option β:=
effK (boxE 5 a0 (List.length h)) h λc b=>
faK 2 c λm=>
ldK 1 false m b λn=>
eqK P false 3 n (I 0) b λo=>
grpK true o b (λp=>
faK 3 c λq=>
ldK 1 false q b λr=>
callK (T 96) [r] b λs d=>
p s d) λe a=>
grpK true e a (λf=>
faK 4 c λg=>
ldK 1 false g a λi=>
eqK P false 3 i (I 0) a λj=>
f j a) λk l=>
K k l
theorem Zqn(K:Kb β)(a0:AV)(h:Hp):runK Tryz.prog T D N [0,1,2] Tryz.f103 K [a0] h=Z82 Tryz.prog T D N K a0 h:=by kernel_rfl
noncomputable def Z83(P:Program)(T:Tab)(D:DTab)(N:Nat){β:Type}(K:Kb β)(a0 a1:AV)(h:Hp):Option β:=
effK (boxE 5 a1 (List.length h)) h λb a=>
faK 3 b λc=>
ldK 1 false c a λd=>
nilK a0 λe=>
faK 6 e λf=>
effK (stE 1 f d a) a λi g=>
K (.tup []) g
theorem Zqo(K:Kb β)(a0 a1:AV)(h:Hp):runK Tryz.prog T D N [0,1,3] Tryz.f104 K [a0,a1] h=Z83 Tryz.prog T D N K a0 a1 h:=by kernel_rfl
noncomputable def Z84(P:Program)(T:Tab)(D:DTab)(N:Nat){β:Type}(K:Kb β)(a0 a1:AV)(h:Hp):Option β:=
effK (boxE 5 a1 (List.length h)) h λe a=>
nilK a0 λs=>
faK 1 s λf=>
ldK 1 false f a λt=>
faK 4 e λg=>
ldK 1 false g a λu=>
arithK .add t u λv=>
nilK a0 λw=>
faK 4 w λb=>
ldK 1 false b a λi=>
faK 4 e λc=>
ldK 1 false c a λj=>
arithK .sub i j λk=>
nilK a0 λl=>
faK 1 l λm=>
effD (stE 1 m v a) a λx d n=>
nilK a0 λo=>
faK 4 o λp=>
effD (stE 1 p k d) d λy q r=>
bif disjAll [(14,18)] [([],[]),([],[]),([],[]),([],[]),([],[]),((idsOf f),[]),([],[]),((idsOf g),[]),([],[]),([],[]),([],[]),([],[]),((idsOf b),[]),([],[]),((idsOf c),[]),([],[]),([],[]),([],[]),n,([],[]),([],[]),r] then (
K (.tup []) q) else none
theorem Zqp(K:Kb β)(a0 a1:AV)(h:Hp):runK Tryz.prog T D N [0,1,3] Tryz.f105 K [a0,a1] h=Z84 Tryz.prog T D N K a0 a1 h:=by kernel_rfl
noncomputable def Z85(P:Program)(T:Tab)(D:DTab)(N:Nat){β:Type}(K:Kb β)(a0 a1:AV)(h:Hp):Option β:=
effK (boxE 5 a1 (List.length h)) h λe a=>
nilK a0 λs=>
faK 2 s λf=>
ldK 1 false f a λt=>
faK 4 e λg=>
ldK 1 false g a λu=>
arithK .add t u λv=>
nilK a0 λw=>
faK 4 w λb=>
ldK 1 false b a λi=>
faK 4 e λc=>
ldK 1 false c a λj=>
arithK .sub i j λk=>
nilK a0 λl=>
faK 2 l λm=>
effD (stE 1 m v a) a λx d n=>
nilK a0 λo=>
faK 4 o λp=>
effD (stE 1 p k d) d λy q r=>
bif disjAll [(14,18)] [([],[]),([],[]),([],[]),([],[]),([],[]),((idsOf f),[]),([],[]),((idsOf g),[]),([],[]),([],[]),([],[]),([],[]),((idsOf b),[]),([],[]),((idsOf c),[]),([],[]),([],[]),([],[]),n,([],[]),([],[]),r] then (
K (.tup []) q) else none
theorem Zqq(K:Kb β)(a0 a1:AV)(h:Hp):runK Tryz.prog T D N [0,1,3] Tryz.f106 K [a0,a1] h=Z85 Tryz.prog T D N K a0 a1 h:=by kernel_rfl
noncomputable def Z86(P:Program)(T:Tab)(D:DTab)(N:Nat){β:Type}(K:Kb β)(a0:AV)(h:Hp):Option β:=
effK (boxE 5 a0 (List.length h)) h λc d=>
faK 2 c λo=>
ldK 1 false o d λp=>
callK (T 96) [p] d λq b=>
grpK true q b (λr=>
faK 3 c λs=>
ldK 1 false s b λt=>
eqK P false 3 t (I 0) b λe=>
r e b) λf a=>
grpK true f a (λg=>
faK 4 c λi=>
ldK 1 false i a λj=>
callK (T 49) [j,(I 0),(I 10737418240000)] a λk l=>
g k l) λm n=>
K m n
theorem Zqr(K:Kb β)(a0:AV)(h:Hp):runK Tryz.prog T D N [0,1,2] Tryz.f107 K [a0] h=Z86 Tryz.prog T D N K a0 h:=by kernel_rfl
noncomputable def Z87(P:Program)(T:Tab)(D:DTab)(N:Nat){β:Type}(K:Kb β)(a0 a1:AV)(h:Hp):Option β:=
effK (boxE 5 a1 (List.length h)) h λf a=>
faK 4 f λg=>
ldK 1 false g a λx4=>
nilK a0 λx5=>
faK 2 x5 λi=>
ldK 1 false i a λx7=>
nilK a0 λx8=>
faK 4 x8 λj=>
ldK 1 false j a λk=>
arithK .add x7 k λl=>
faK 4 f λb=>
ldK 1 false b a λm=>
arithK .sub l m λn=>
nilK a0 λo=>
faK 3 o λp=>
effD (stE 1 p x4 a) a λa8 c q=>
nilK a0 λr=>
faK 2 r λt=>
effD (stE 1 t n c) c λa9 d u=>
nilK a0 λv=>
faK 4 v λw=>
effD (stE 1 w (I 0) d) d λb0 e x=>
nilK a0 λy=>
faK 8 y λz=>
effD (stE 1 z (.s (.bool true)) e) e λb1 a2 a3=>
bif disjAll [(16,20)] [([],[]),([],[]),([],[]),([],[]),([],[]),((idsOf g),[]),([],[]),([],[]),([],[]),((idsOf i),[]),([],[]),([],[]),([],[]),((idsOf j),[]),([],[]),([],[]),((idsOf b),[]),([],[]),([],[]),([],[]),q,([],[]),([],[]),u,([],[]),([],[]),x,([],[]),([],[]),a3] then (
K (.tup []) a2) else none
theorem Zqs(K:Kb β)(a0 a1:AV)(h:Hp):runK Tryz.prog T D N [0,1,3] Tryz.f108 K [a0,a1] h=Z87 Tryz.prog T D N K a0 a1 h:=by kernel_rfl
noncomputable def Z88(P:Program)(T:Tab)(D:DTab)(N:Nat){β:Type}(K:Kb β)(a0 a1:AV)(h:Hp):Option β:=
callK (T 190) [a0] h λc b=>
eqK P true 26 c (I 0) b λf=>
condK f (
K c b) (
callK (T 190) [a1] b λd a=>
eqK P true 26 d (I 0) a λg=>
condK g (
K d a) (
lenK a0 λi=>
lenK a1 λj=>
arithK .add i j λk=>
arithK .gtr k (I 24) λe=>
condK e (
K (I 8) a) (
K (I 0) a)))
theorem Zqt(K:Kb β)(a0 a1:AV)(h:Hp):runK Tryz.prog T D N [0,1,4,5,6,10,15,22] Tryz.f158 K [a0,a1] h=Z88 Tryz.prog T D N K a0 a1 h:=by kernel_rfl
noncomputable def Zh3(P:Program)(T:Tab)(D:DTab)(N:Nat){β:Type}(K:Kb β)(t:Tm)(h:Hp):Option β:=
K (t 6) h
noncomputable def Z51(P:Program)(T:Tab)(D:DTab)(N:Nat){β:Type}(t:Tm)(h:Hp)(k:Ex→St→Option β):Option β:=
arithK .lss (t 27) (t 26) λa=>
condK a (
iaK 1 (t 25) (t 27) λd=>
ldK 1 false d h λb=>
effK (appE 1 8 (t 6) b h (List.length h)) h λe f=>
arithK .add (t 27) (I 1) λc=>
k .normal ((upd (upd (upd (upd t 28 a) 8 b) 6 e) 27 c),f)) (
k (.exit 2) ((upd t 28 a),h))
noncomputable def Z89(P:Program)(T:Tab)(D:DTab)(N:Nat){β:Type}(K:Kb β)(e:Ex)(s:St):Option β:=
 e.on ((Zh3 P T D N K s.1 s.2))
 (λi=>bif i==2 then ((Zh3 P T D N K s.1 s.2)) else (none))
 (K (s.1 2) s.2)
noncomputable def Zh4(P:Program)(T:Tab)(D:DTab)(N:Nat){β:Type}(cL3:St→Option β)(K:Kb β)(t:Tm)(h:Hp) :  Option β:=
callK (T 191) [nilS,(t 3)] h λa b=>
lenK (t 0) λc=>
cL3 ((upd (upd (upd (upd t 6 a) 25 (t 0)) 26 c) 27 (I 0)),b)
noncomputable def ZbB(P:Program)(T:Tab)(D:DTab)(N:Nat){β:Type}(K:Kb β)(t:Tm)(h:Hp):Option β:=Zh4 P T D N (λs=>iterK (λs k=>Z51 P T D N s.1 s.2 k) N s (Z89 P T D N K)) K t h
noncomputable def Zqu(P:Program)(T:Tab)(D:DTab)(N:Nat){β:Type}(k:Ex→St→Option β)(t:Tm)(h:Hp):Option β:=
arithK .add (t 11) (I 1) λa=>
k .normal ((upd t 11 a),h)
noncomputable def Zqv(P:Program)(T:Tab)(D:DTab)(N:Nat){β:Type}(k:Ex→St→Option β)(t:Tm)(h:Hp):Option β:=
(Zqu P T D N k t h)
noncomputable def Z52(P:Program)(T:Tab)(D:DTab)(N:Nat){β:Type}(t:Tm)(h:Hp)(k:Ex→St→Option β):Option β:=
arithK .lss (t 11) (t 10) λa=>
condK a (
iaK 1 (t 9) (t 11) λe=>
ldK 1 false e h λb=>
lenK b λf=>
arithK .add (t 3) f λc=>
arithK .lss c (I 0) λd=>
condK d (
none) (
(Zqv P T D N k (upd (upd (upd (upd t 12 a) 5 b) 3 c) 20 d) h))) (
k (.exit 0) ((upd t 12 a),h))
noncomputable def Z8a(P:Program)(T:Tab)(D:DTab)(N:Nat){β:Type}(K:Kb β)(e:Ex)(s:St):Option β:=
 e.on ((ZbB P T D N K s.1 s.2))
 (λi=>bif i==0 then ((ZbB P T D N K s.1 s.2)) else (none))
 (K (s.1 2) s.2)
noncomputable def Zh5(P:Program)(T:Tab)(D:DTab)(N:Nat){β:Type}(cL4:St→Option β)(K:Kb β)(a0:AV)(h:Hp) :  Option β:=
lenK a0 λa=>
cL4 ((upd (upd (upd (upd (upd (tm0 [a0]) 2 nilS) 3 (I 0)) 9 a0) 10 a) 11 (I 0)),h)
noncomputable def Zh6(P:Program)(T:Tab)(D:DTab)(N:Nat){β:Type}(K:Kb β)(a0:AV)(h:Hp):Option β:=Zh5 P T D N (λs=>iterK (λs k=>Z52 P T D N s.1 s.2 k) N s (Z8a P T D N K)) K a0 h
noncomputable def Z2M(P:Program)(T:Tab)(D:DTab)(N:Nat){β:Type}(K:Kb β)(a:AV)(h:Hp):Option β:=
K a h
noncomputable def Z2i(P:Program)(T:Tab)(D:DTab)(N:Nat){β:Type}(xn:AV→AV→AV→Kb β)(f:Kb β)(d b c a:AV)(h:Hp):Option β:=
arithK .lss a c λg=>
condK g (
iaK 1 b a λi=>
ldK 1 false i h λj=>
effK (appE 1 8 d j h (List.length h)) h λk l=>
arithK .add a (I 1) λe=>
xn k b c e l) (
f d h)
noncomputable def Z1V(P:Program)(T:Tab)(D:DTab)(N:Nat){β:Type}(a:Kb β):Nat→AV→AV→AV→Kb β
 | 0=>λ_ _ _ _ _=>none
 | n+1=>λe b c d h=>Z2i P T D N (Z1V P T D N a n) a e b c d h
noncomputable def Z2N(P:Program)(T:Tab)(D:DTab)(N:Nat){β:Type}(K:Kb β)(b c:AV)(h:Hp):Option β:=
callK (T 191) [nilS,c] h λd e=>
lenK b λf=>
Z1V P T D N (λa h=>Z2M P T D N K a h) N d b f (I 0) e
noncomputable def Zh7(P:Program)(T:Tab)(D:DTab)(N:Nat){β:Type}(xn:AV→AV→AV→AV→Kb β)(g:AV→Kb β)(d e f a b:AV)(h:Hp):Option β:=
arithK .add b (I 1) λc=>
xn d e f a c h
noncomputable def Zh8(P:Program)(T:Tab)(D:DTab)(N:Nat){β:Type}(xn:AV→AV→AV→AV→Kb β)(c:AV→Kb β)(d e f a b:AV)(h:Hp):Option β:=
Zh7 P T D N xn c d e f a b h
noncomputable def Z53(P:Program)(T:Tab)(D:DTab)(N:Nat){β:Type}(xn:AV→AV→AV→AV→Kb β)(d:AV→Kb β)(e f g b a:AV)(h:Hp):Option β:=
arithK .lss a b λi=>
condK i (
iaK 1 g a λj=>
ldK 1 false j h λk=>
lenK k λl=>
arithK .add f l λc=>
arithK .lss c (I 0) λm=>
condK m (
none) (
Zh8 P T D N xn d e c g b a h)) (
d e f h)
noncomputable def Z2O(P:Program)(T:Tab)(D:DTab)(N:Nat){β:Type}(a:AV→Kb β):Nat→AV→AV→AV→AV→Kb β
 | 0=>λ_ _ _ _ _ _=>none
 | n+1=>λd e f b c h=>Z53 P T D N (Z2O P T D N a n) a d e f b c h
noncomputable def Z3t(P:Program)(T:Tab)(D:DTab)(N:Nat){β:Type}(K:Kb β)(a0:AV)(h:Hp):Option β:=
lenK a0 λc=>
Z2O P T D N (λa b h=>Z2N P T D N K a b h) N a0 (I 0) a0 c (I 0) h
theorem Zqw(xn:AV→AV→AV→Kb β)(x2:Kb β)(xd:Nat→St→Option β)(xq:St→Option β)(t:Tm)(h:Hp):Z51 P T D N t h (λ(e:Ex)(s:St)=>e.on (xn (s.1 6) (s.1 25) (s.1 26) (s.1 27) s.2) (λi=>(bif i==2 then x2 (s.1 6) s.2 else (xd i s))) (xq s))=Z2i P T D N xn x2 (t 6) (t 25) (t 26) (t 27) h:=by kernel_rfl
theorem Zqx(A:Ex→St→Option β)(x2:Kb β)(q2:∀s,A (.exit 2) s=x2 (s.1 6) s.2):∀(n:Nat)(s:St),iterK (λs k=>Z51 P T D N s.1 s.2 k) n s A=Z1V P T D N x2 n (s.1 6) (s.1 25) (s.1 26) (s.1 27) s.2:=
 Z0i (exs1 q2 (λs=>rfl)) (λs=>rfl) λn s=>Zqw P T D N (Z1V P T D N x2 n) x2 (λi s=>A (.exit i) s) (λs=>A .ret s) s.1 s.2
theorem Zqy(K:Kb β)(t:Tm)(h:Hp):ZbB P T D N K t h=Z2N P T D N K (t 0) (t 3) h:=by
 have eL3:(λs:St=>iterK (λs k=>Z51 P T D N s.1 s.2 k) N s (Z89 P T D N K))=(λs:St=>Z1V P T D N (λw11_6 h=>Z2M P T D N K w11_6 h) N (s.1 6) (s.1 25) (s.1 26) (s.1 27) s.2):=funext λs=>Zqx P T D N (Z89 P T D N K) (λw11_6 h=>Z2M P T D N K w11_6 h) (λs=>rfl) N s
 show Zh4 P T D N (λs=>iterK (λs k=>Z51 P T D N s.1 s.2 k) N s (Z89 P T D N K)) K t h=_
 rw[eL3]
 kernel_rfl
theorem Zqz(xn:AV→AV→AV→AV→Kb β)(x0:AV→Kb β)(xd:Nat→St→Option β)(xq:St→Option β)(t:Tm)(h:Hp):Z52 P T D N t h (λ(e:Ex)(s:St)=>e.on (xn (s.1 0) (s.1 3) (s.1 9) (s.1 10) (s.1 11) s.2) (λi=>(bif i==0 then x0 (s.1 0) (s.1 3) s.2 else (xd i s))) (xq s))=Z53 P T D N xn x0 (t 0) (t 3) (t 9) (t 10) (t 11) h:=by kernel_rfl
theorem ZqA(A:Ex→St→Option β)(x0:AV→Kb β)(q0:∀s,A (.exit 0) s=x0 (s.1 0) (s.1 3) s.2):∀(n:Nat)(s:St),iterK (λs k=>Z52 P T D N s.1 s.2 k) n s A=Z2O P T D N x0 n (s.1 0) (s.1 3) (s.1 9) (s.1 10) (s.1 11) s.2:=
 Z0i (exs1 q0 (λs=>rfl)) (λs=>rfl) λn s=>Zqz P T D N (Z2O P T D N x0 n) x0 (λi s=>A (.exit i) s) (λs=>A .ret s) s.1 s.2
theorem ZqB(K:Kb β)(a0:AV)(h:Hp):Zh6 P T D N K a0 h=Z3t P T D N K a0 h:=by
 have eL4:(λs:St=>iterK (λs k=>Z52 P T D N s.1 s.2 k) N s (Z8a P T D N K))=(λs:St=>Z2O P T D N (λw19_0 w19_3 h=>Z2N P T D N K w19_0 w19_3 h) N (s.1 0) (s.1 3) (s.1 9) (s.1 10) (s.1 11) s.2):=funext λs=>ZqA P T D N (Z8a P T D N K) (λw19_0 w19_3 h=>Z2N P T D N K w19_0 w19_3 h) (λs=>Zqy P T D N K s.1 s.2) N s
 show Zh5 P T D N (λs=>iterK (λs k=>Z52 P T D N s.1 s.2 k) N s (Z8a P T D N K)) K a0 h=_
 rw[eL4]
 kernel_rfl
theorem ZqC(K:Kb β)(a0:AV)(h:Hp):runK Tryz.prog T D N [0,2,3,5,6,8,9,10,11,12,20,25,26,27,28] Tryz.f159 K [a0] h=Z3t Tryz.prog T D N K a0 h:=Eq.trans (b:=Zh6 Tryz.prog T D N K a0 h) (by kernel_rfl) (ZqB Tryz.prog T D N K a0 h)
noncomputable def Zh9(P:Program)(T:Tab)(D:DTab)(N:Nat){β:Type}(K:Kb β)(t:Tm)(h:Hp):Option β:=
K (t 5) h
noncomputable def Zha(P:Program)(T:Tab)(D:DTab)(N:Nat){β:Type}(k:Ex→St→Option β)(t:Tm)(h:Hp):Option β:=
arithK .add (t 13) (I 1) λa=>
k .normal ((upd t 13 a),h)
noncomputable def Zhb(P:Program)(T:Tab)(D:DTab)(N:Nat){β:Type}(k:Ex→St→Option β)(t:Tm)(h:Hp):Option β:=
effK (bsE 1 [I 0] 1 [(0,(t 8))] (List.length h)) h λc a=>
effK (appE 1 8 (t 5) c a (List.length a)) a λd b=>
(Zha P T D N k (upd t 5 d) b)
noncomputable def ZqD(P:Program)(T:Tab)(D:DTab)(N:Nat){β:Type}(k:Ex→St→Option β)(t:Tm)(h:Hp):Option β:=
arithK .add (t 19) (I 1) λa=>
k .normal ((upd t 19 a),h)
noncomputable def ZqE(P:Program)(T:Tab)(D:DTab)(N:Nat){β:Type}(k:Ex→St→Option β)(t:Tm)(h:Hp):Option β:=
(ZqD P T D N k t h)
noncomputable def ZbC(P:Program)(T:Tab)(D:DTab)(N:Nat){β:Type}(k:Ex→St→Option β)(t:Tm)(h:Hp):Option β:=
(ZqE P T D N k t h)
noncomputable def Z54(P:Program)(T:Tab)(D:DTab)(N:Nat){β:Type}(t:Tm)(h:Hp)(k:Ex→St→Option β):Option β:=
arithK .lss (t 19) (t 18) λa=>
condK a (
iaK 1 (t 17) (t 19) λe=>
ldK 1 false e h λb=>
arithK .lss b (t 7) λc=>
condK c (
arithK .add (t 8) (I 2) λf=>
(ZbC P T D N k (upd (upd (upd (upd t 20 a) 10 b) 23 c) 8 f) h)) (
eqK P false 3 b (t 7) h λd=>
condK d (
arithK .add (t 8) (I 1) λg=>
(ZbC P T D N k (upd (upd (upd (upd (upd t 20 a) 10 b) 23 c) 29 d) 8 g) h)) (
(ZbC P T D N k (upd (upd (upd (upd t 20 a) 10 b) 23 c) 29 d) h)))) (
k (.exit 2) ((upd t 20 a),h))
noncomputable def Z8b(P:Program)(T:Tab)(D:DTab)(N:Nat){β:Type}(k:Ex→St→Option β)(e:Ex)(s:St):Option β:=
 e.on ((Zhb P T D N k s.1 s.2))
 (λi=>bif i==2 then ((Zhb P T D N k s.1 s.2)) else (bif i==1 then ((Zha P T D N k s.1 s.2)) else (k (.exit i) (s.1,s.2))))
 (k .ret (s.1,s.2))
noncomputable def Zhc(P:Program)(T:Tab)(D:DTab)(N:Nat){β:Type}(cL5:St→Option β)(t:Tm)(h:Hp)(k:Ex→St→Option β) :  Option β:=
arithK .lss (t 13) (t 12) λa=>
condK a (
iaK 1 (t 11) (t 13) λb=>
ldK 1 false b h λc=>
lenK (t 1) λd=>
cL5 ((upd (upd (upd (upd (upd (upd t 14 a) 7 c) 8 (I 1)) 17 (t 1)) 18 d) 19 (I 0)),h)) (
k (.exit 0) ((upd t 14 a),h))
noncomputable def Z55(P:Program)(T:Tab)(D:DTab)(N:Nat){β:Type}(t:Tm)(h:Hp)(k:Ex→St→Option β):Option β:=Zhc P T D N (λs=>iterK (λs k=>Z54 P T D N s.1 s.2 k) N s (Z8b P T D N k)) t h k
noncomputable def Z8c(P:Program)(T:Tab)(D:DTab)(N:Nat){β:Type}(K:Kb β)(e:Ex)(s:St):Option β:=
 e.on ((Zh9 P T D N K s.1 s.2))
 (λi=>bif i==0 then ((Zh9 P T D N K s.1 s.2)) else (none))
 (K (s.1 4) s.2)
noncomputable def Zhd(P:Program)(T:Tab)(D:DTab)(N:Nat){β:Type}(cL2:St→Option β)(K:Kb β)(a0 a1:AV)(h:Hp) :  Option β:=
lenK a0 λa=>
cL2 ((upd (upd (upd (upd (upd (tm0 [a0,a1]) 4 nilS) 5 nilS) 11 a0) 12 a) 13 (I 0)),h)
noncomputable def Zhe(P:Program)(T:Tab)(D:DTab)(N:Nat){β:Type}(K:Kb β)(a0 a1:AV)(h:Hp):Option β:=Zhd P T D N (λs=>iterK (λs k=>Z55 P T D N s.1 s.2 k) N s (Z8c P T D N K)) K a0 a1 h
noncomputable def ZbD(P:Program)(T:Tab)(D:DTab)(N:Nat){β:Type}(K:Kb β)(a:AV)(h:Hp):Option β:=
K a h
noncomputable def Zhf(P:Program)(T:Tab)(D:DTab)(N:Nat){β:Type}(xn:AV→AV→AV→AV→Kb β)(g:Kb β)(d e a b c:AV)(h:Hp):Option β:=
arithK .add c (I 1) λf=>
xn d e a b f h
noncomputable def Z8d(P:Program)(T:Tab)(D:DTab)(N:Nat){β:Type}(xn:AV→AV→AV→AV→Kb β)(f:Kb β)(g i j b c d:AV)(h:Hp):Option β:=
effK (bsE 1 [I 0] 1 [(0,j)] (List.length h)) h λk a=>
effK (appE 1 8 i k a (List.length a)) a λl e=>
Zhf P T D N xn f g l b c d e
noncomputable def Z8e(P:Program)(T:Tab)(D:DTab)(N:Nat){β:Type}(xn:AV→AV→AV→AV→AV→AV→AV→AV→AV→Kb β)(m:AV→AV→AV→AV→AV→Kb β)(i j k l a b c d e f:AV)(h:Hp):Option β:=
arithK .add f (I 1) λg=>
xn i j k l a b c d e g h
noncomputable def Z8f(P:Program)(T:Tab)(D:DTab)(N:Nat){β:Type}(xn:AV→AV→AV→AV→AV→AV→AV→AV→AV→Kb β)(g:AV→AV→AV→AV→AV→Kb β)(i j k l a b c d e f:AV)(h:Hp):Option β:=
Z8e P T D N xn g i j k l a b c d e f h
noncomputable def Z3u(P:Program)(T:Tab)(D:DTab)(N:Nat){β:Type}(xn:AV→AV→AV→AV→AV→AV→AV→AV→AV→Kb β)(g:AV→AV→AV→AV→AV→Kb β)(i j k l a b c d e f:AV)(h:Hp):Option β:=
Z8f P T D N xn g i j k l a b c d e f h
noncomputable def Z56(P:Program)(T:Tab)(D:DTab)(N:Nat){β:Type}(xn:AV→AV→AV→AV→AV→AV→AV→AV→AV→Kb β)(i:AV→AV→AV→AV→AV→Kb β)(j k g l b c d e f a:AV)(h:Hp):Option β:=
arithK .lss a f λn=>
condK n (
iaK 1 e a λo=>
ldK 1 false o h λm=>
arithK .lss m g λp=>
condK p (
arithK .add l (I 2) λq=>
Z3u P T D N xn i j k g q b c d e f a h) (
eqK P false 3 m g h λr=>
condK r (
arithK .add l (I 1) λs=>
Z3u P T D N xn i j k g s b c d e f a h) (
Z3u P T D N xn i j k g l b c d e f a h))) (
i j k l b c d h)
noncomputable def Z2P(P:Program)(T:Tab)(D:DTab)(N:Nat){β:Type}(a:AV→AV→AV→AV→AV→Kb β):Nat→AV→AV→AV→AV→AV→AV→AV→AV→AV→Kb β
 | 0=>λ_ _ _ _ _ _ _ _ _ _ _=>none
 | n+1=>λi j k l b c d e f g h=>Z56 P T D N (Z2P P T D N a n) a i j k l b c d e f g h
noncomputable def Z57(P:Program)(T:Tab)(D:DTab)(N:Nat){β:Type}(xn:AV→AV→AV→AV→Kb β)(l:Kb β)(k m i j a:AV)(h:Hp):Option β:=
arithK .lss a j λn=>
condK n (
iaK 1 i a λo=>
ldK 1 false o h λp=>
lenK k λq=>
Z2P P T D N (λe f g b c d h=>Z8d P T D N xn l e f g b c d h) N k m p (I 1) i j a k q (I 0) h) (
l m h)
noncomputable def Z2Q(P:Program)(T:Tab)(D:DTab)(N:Nat){β:Type}(a:Kb β):Nat→AV→AV→AV→AV→Kb β
 | 0=>λ_ _ _ _ _ _=>none
 | n+1=>λe f b c d h=>Z57 P T D N (Z2Q P T D N a n) a e f b c d h
noncomputable def Z3v(P:Program)(T:Tab)(D:DTab)(N:Nat){β:Type}(K:Kb β)(a0 a1:AV)(h:Hp):Option β:=
lenK a0 λb=>
Z2Q P T D N (λa h=>ZbD P T D N K a h) N a1 nilS a0 b (I 0) h
theorem ZqF(xn:AV→AV→AV→AV→AV→AV→AV→AV→AV→Kb β)(x2:AV→AV→AV→AV→AV→Kb β)(xd:Nat→St→Option β)(xq:St→Option β)(t:Tm)(h:Hp):Z54 P T D N t h (λ(e:Ex)(s:St)=>e.on (xn (s.1 1) (s.1 5) (s.1 7) (s.1 8) (s.1 11) (s.1 12) (s.1 13) (s.1 17) (s.1 18) (s.1 19) s.2) (λi=>(bif i==2 then x2 (s.1 1) (s.1 5) (s.1 8) (s.1 11) (s.1 12) (s.1 13) s.2 else (xd i s))) (xq s))=Z56 P T D N xn x2 (t 1) (t 5) (t 7) (t 8) (t 11) (t 12) (t 13) (t 17) (t 18) (t 19) h:=by kernel_rfl
theorem ZqG(A:Ex→St→Option β)(x2:AV→AV→AV→AV→AV→Kb β)(q2:∀s,A (.exit 2) s=x2 (s.1 1) (s.1 5) (s.1 8) (s.1 11) (s.1 12) (s.1 13) s.2):∀(n:Nat)(s:St),iterK (λs k=>Z54 P T D N s.1 s.2 k) n s A=Z2P P T D N x2 n (s.1 1) (s.1 5) (s.1 7) (s.1 8) (s.1 11) (s.1 12) (s.1 13) (s.1 17) (s.1 18) (s.1 19) s.2:=
 Z0i (exs1 q2 (λs=>rfl)) (λs=>rfl) λn s=>ZqF P T D N (Z2P P T D N x2 n) x2 (λi s=>A (.exit i) s) (λs=>A .ret s) s.1 s.2
theorem ZqH(xn:AV→AV→AV→AV→Kb β)(x0:Kb β)(xd:Nat→St→Option β)(xq:St→Option β)(t:Tm)(h:Hp):Z55 P T D N t h (λ(e:Ex)(s:St)=>e.on (xn (s.1 1) (s.1 5) (s.1 11) (s.1 12) (s.1 13) s.2) (λi=>(bif i==0 then x0 (s.1 5) s.2 else (xd i s))) (xq s))=Z57 P T D N xn x0 (t 1) (t 5) (t 11) (t 12) (t 13) h:=by
 have eL5:(λs:St=>iterK (λs k=>Z54 P T D N s.1 s.2 k) N s (Z8b P T D N (λ(e:Ex)(s:St)=>e.on (xn (s.1 1) (s.1 5) (s.1 11) (s.1 12) (s.1 13) s.2) (λi=>(bif i==0 then x0 (s.1 5) s.2 else (xd i s))) (xq s))))=(λs:St=>Z2P P T D N (λw19_1 w19_5 w19_8 w19_11 w19_12 w19_13 h=>Z8d P T D N xn x0 w19_1 w19_5 w19_8 w19_11 w19_12 w19_13 h) N (s.1 1) (s.1 5) (s.1 7) (s.1 8) (s.1 11) (s.1 12) (s.1 13) (s.1 17) (s.1 18) (s.1 19) s.2):=funext λs=>ZqG P T D N (Z8b P T D N (λ(e:Ex)(s:St)=>e.on (xn (s.1 1) (s.1 5) (s.1 11) (s.1 12) (s.1 13) s.2) (λi=>(bif i==0 then x0 (s.1 5) s.2 else (xd i s))) (xq s))) (λw19_1 w19_5 w19_8 w19_11 w19_12 w19_13 h=>Z8d P T D N xn x0 w19_1 w19_5 w19_8 w19_11 w19_12 w19_13 h) (λs=>rfl) N s
 show Zhc P T D N (λs=>iterK (λs k=>Z54 P T D N s.1 s.2 k) N s (Z8b P T D N (λ(e:Ex)(s:St)=>e.on (xn (s.1 1) (s.1 5) (s.1 11) (s.1 12) (s.1 13) s.2) (λi=>(bif i==0 then x0 (s.1 5) s.2 else (xd i s))) (xq s)))) t h (λ(e:Ex)(s:St)=>e.on (xn (s.1 1) (s.1 5) (s.1 11) (s.1 12) (s.1 13) s.2) (λi=>(bif i==0 then x0 (s.1 5) s.2 else (xd i s))) (xq s))=_
 rw[eL5]
 kernel_rfl
theorem ZqI(A:Ex→St→Option β)(x0:Kb β)(q0:∀s,A (.exit 0) s=x0 (s.1 5) s.2):∀(n:Nat)(s:St),iterK (λs k=>Z55 P T D N s.1 s.2 k) n s A=Z2Q P T D N x0 n (s.1 1) (s.1 5) (s.1 11) (s.1 12) (s.1 13) s.2:=
 Z0i (exs1 q0 (λs=>rfl)) (λs=>rfl) λn s=>ZqH P T D N (Z2Q P T D N x0 n) x0 (λi s=>A (.exit i) s) (λs=>A .ret s) s.1 s.2
theorem ZqJ(K:Kb β)(a0 a1:AV)(h:Hp):Zhe P T D N K a0 a1 h=Z3v P T D N K a0 a1 h:=by
 have eL2:(λs:St=>iterK (λs k=>Z55 P T D N s.1 s.2 k) N s (Z8c P T D N K))=(λs:St=>Z2Q P T D N (λw20_5 h=>ZbD P T D N K w20_5 h) N (s.1 1) (s.1 5) (s.1 11) (s.1 12) (s.1 13) s.2):=funext λs=>ZqI P T D N (Z8c P T D N K) (λw20_5 h=>ZbD P T D N K w20_5 h) (λs=>rfl) N s
 show Zhd P T D N (λs=>iterK (λs k=>Z55 P T D N s.1 s.2 k) N s (Z8c P T D N K)) K a0 a1 h=_
 rw[eL2]
 kernel_rfl
theorem ZqK(K:Kb β)(a0 a1:AV)(h:Hp):runK Tryz.prog T D N [0,1,4,5,7,8,10,11,12,13,14,17,18,19,20,23,29] Tryz.f160 K [a0,a1] h=Z3v Tryz.prog T D N K a0 a1 h:=Eq.trans (b:=Zhe Tryz.prog T D N K a0 a1 h) (by kernel_rfl) (ZqJ Tryz.prog T D N K a0 a1 h)
noncomputable def Zhg(P:Program)(T:Tab)(D:DTab)(N:Nat){β:Type}(K:Kb β)(t:Tm)(h:Hp):Option β:=
K (t 5) h
noncomputable def Z58(P:Program)(T:Tab)(D:DTab)(N:Nat){β:Type}(t:Tm)(h:Hp)(k:Ex→St→Option β):Option β:=
arithK .lss (t 15) (t 14) λb=>
condK b (
iaK 1 (t 13) (t 15) λe=>
ldK 1 false e h λa=>
arithK .add (t 5) a λc=>
arithK .add (t 15) (I 1) λd=>
k .normal ((upd (upd (upd (upd t 16 b) 7 a) 5 c) 15 d),h)) (
k (.exit 0) ((upd t 16 b),h))
noncomputable def Z8g(P:Program)(T:Tab)(D:DTab)(N:Nat){β:Type}(K:Kb β)(e:Ex)(s:St):Option β:=
 e.on ((Zhg P T D N K s.1 s.2))
 (λi=>bif i==0 then ((Zhg P T D N K s.1 s.2)) else (none))
 (K (s.1 4) s.2)
noncomputable def Zhh(P:Program)(T:Tab)(D:DTab)(N:Nat){β:Type}(cL2:St→Option β)(K:Kb β)(a0 a1:AV)(h:Hp) :  Option β:=
effK (bsE 1 [nilS] 2 [(0,a0),(1,a1)] (List.length h)) h λb c=>
callK (T 159) [b] c λd e=>
callK (T 160) [a0,d] e λa f=>
lenK a λg=>
cL2 ((upd (upd (upd (upd (upd (tm0 [a0,a1]) 4 (I 0)) 5 (I 0)) 13 a) 14 g) 15 (I 0)),f)
noncomputable def Zhi(P:Program)(T:Tab)(D:DTab)(N:Nat){β:Type}(K:Kb β)(a0 a1:AV)(h:Hp):Option β:=Zhh P T D N (λs=>iterK (λs k=>Z58 P T D N s.1 s.2 k) N s (Z8g P T D N K)) K a0 a1 h
noncomputable def Z8h(P:Program)(T:Tab)(D:DTab)(N:Nat){β:Type}(K:Kb β)(a:AV)(h:Hp):Option β:=
K a h
noncomputable def Z59(P:Program)(T:Tab)(D:DTab)(N:Nat){β:Type}(xn:AV→AV→AV→Kb β)(i:Kb β)(d b c a:AV)(h:Hp):Option β:=
arithK .lss a c λj=>
condK j (
iaK 1 b a λk=>
ldK 1 false k h λe=>
arithK .add d e λf=>
arithK .add a (I 1) λg=>
xn f b c g h) (
i d h)
noncomputable def Z2R(P:Program)(T:Tab)(D:DTab)(N:Nat){β:Type}(a:Kb β):Nat→AV→AV→AV→Kb β
 | 0=>λ_ _ _ _ _=>none
 | n+1=>λe b c d h=>Z59 P T D N (Z2R P T D N a n) a e b c d h
noncomputable def Z5a(P:Program)(T:Tab)(D:DTab)(N:Nat){β:Type}(K:Kb β)(a0 a1:AV)(h:Hp):Option β:=
effK (bsE 1 [nilS] 2 [(0,a0),(1,a1)] (List.length h)) h λc d=>
callK (T 159) [c] d λe f=>
callK (T 160) [a0,e] f λb g=>
lenK b λi=>
Z2R P T D N (λa h=>Z8h P T D N K a h) N (I 0) b i (I 0) g
theorem ZqL(xn:AV→AV→AV→Kb β)(x0:Kb β)(xd:Nat→St→Option β)(xq:St→Option β)(t:Tm)(h:Hp):Z58 P T D N t h (λ(e:Ex)(s:St)=>e.on (xn (s.1 5) (s.1 13) (s.1 14) (s.1 15) s.2) (λi=>(bif i==0 then x0 (s.1 5) s.2 else (xd i s))) (xq s))=Z59 P T D N xn x0 (t 5) (t 13) (t 14) (t 15) h:=by kernel_rfl
theorem ZqM(A:Ex→St→Option β)(x0:Kb β)(q0:∀s,A (.exit 0) s=x0 (s.1 5) s.2):∀(n:Nat)(s:St),iterK (λs k=>Z58 P T D N s.1 s.2 k) n s A=Z2R P T D N x0 n (s.1 5) (s.1 13) (s.1 14) (s.1 15) s.2:=
 Z0i (exs1 q0 (λs=>rfl)) (λs=>rfl) λn s=>ZqL P T D N (Z2R P T D N x0 n) x0 (λi s=>A (.exit i) s) (λs=>A .ret s) s.1 s.2
theorem ZqN(K:Kb β)(a0 a1:AV)(h:Hp):Zhi P T D N K a0 a1 h=Z5a P T D N K a0 a1 h:=by
 have eL2:(λs:St=>iterK (λs k=>Z58 P T D N s.1 s.2 k) N s (Z8g P T D N K))=(λs:St=>Z2R P T D N (λw13_5 h=>Z8h P T D N K w13_5 h) N (s.1 5) (s.1 13) (s.1 14) (s.1 15) s.2):=funext λs=>ZqM P T D N (Z8g P T D N K) (λw13_5 h=>Z8h P T D N K w13_5 h) (λs=>rfl) N s
 show Zhh P T D N (λs=>iterK (λs k=>Z58 P T D N s.1 s.2 k) N s (Z8g P T D N K)) K a0 a1 h=_
 rw[eL2]
 kernel_rfl
theorem ZqO(K:Kb β)(a0 a1:AV)(h:Hp):runK Tryz.prog T D N [0,1,4,5,7,13,14,15,16] Tryz.f161 K [a0,a1] h=Z5a Tryz.prog T D N K a0 a1 h:=Eq.trans (b:=Zhi Tryz.prog T D N K a0 a1 h) (by kernel_rfl) (ZqN Tryz.prog T D N K a0 a1 h)
noncomputable def Zhj(P:Program)(T:Tab)(D:DTab)(N:Nat){β:Type}(K:Kb β)(t:Tm)(h:Hp):Option β:=
K (I 0) h
noncomputable def Z5b(P:Program)(T:Tab)(D:DTab)(N:Nat){β:Type}(t:Tm)(h:Hp)(k:Ex→St→Option β):Option β:=
arithK .lss (t 15) (t 14) λb=>
condK b (
iaK 1 (t 13) (t 15) λi=>
ldK 1 false i h λc=>
arithK .lss c (.s (.int .i64 (-1099511627776))) λj=>
grpK false j h (λe=>
arithK .gtr c (I 1099511627776) λf=>
e f h) λa d=>
condK a (
k .ret ((upd (upd (upd (upd t 16 b) 4 c) 24 a) 2 (I 2)),d)) (
arithK .add (t 15) (I 1) λg=>
k .normal ((upd (upd (upd (upd t 16 b) 4 c) 24 a) 15 g),d))) (
k (.exit 1) ((upd t 16 b),h))
noncomputable def Z8i(P:Program)(T:Tab)(D:DTab)(N:Nat){β:Type}(K:Kb β)(e:Ex)(s:St):Option β:=
 e.on ((Zhj P T D N K s.1 s.2))
 (λi=>bif i==1 then ((Zhj P T D N K s.1 s.2)) else (none))
 (K (s.1 2) s.2)
noncomputable def Zhk(P:Program)(T:Tab)(D:DTab)(N:Nat){β:Type}(cL2:St→Option β)(K:Kb β)(a0:AV)(h:Hp) :  Option β:=
lenK a0 λc=>
eqK P false 3 c (I 0) h λa=>
condK a (
K (I 9) h) (
lenK a0 λd=>
arithK .gtr d (I 64) λb=>
condK b (
K (I 8) h) (
lenK a0 λe=>
cL2 ((upd (upd (upd (upd (upd (upd (tm0 [a0]) 2 (I 0)) 5 a) 9 b) 13 a0) 14 e) 15 (I 0)),h)))
noncomputable def Zhl(P:Program)(T:Tab)(D:DTab)(N:Nat){β:Type}(K:Kb β)(a0:AV)(h:Hp):Option β:=Zhk P T D N (λs=>iterK (λs k=>Z5b P T D N s.1 s.2 k) N s (Z8i P T D N K)) K a0 h
noncomputable def ZbE(P:Program)(T:Tab)(D:DTab)(N:Nat){β:Type}(K:Kb β)(h:Hp):Option β:=
K (I 0) h
noncomputable def Z5c(P:Program)(T:Tab)(D:DTab)(N:Nat){β:Type}(xn:AV→AV→Kb β)(k:Qb β)(xr:Kb β)(b c a:AV)(h:Hp):Option β:=
arithK .lss a c λl=>
condK l (
iaK 1 b a λm=>
ldK 1 false m h λe=>
arithK .lss e (.s (.int .i64 (-1099511627776))) λn=>
grpK false n h (λf=>
arithK .gtr e (I 1099511627776) λg=>
f g h) λi d=>
condK i (
xr (I 2) d) (
arithK .add a (I 1) λj=>
xn b c j d)) (
k h)
noncomputable def Z2S(P:Program)(T:Tab)(D:DTab)(N:Nat){β:Type}(a:Qb β)(xr:Kb β):Nat→AV→AV→Kb β
 | 0=>λ_ _ _ _=>none
 | n+1=>λb c d h=>Z5c P T D N (Z2S P T D N a xr n) a xr b c d h
noncomputable def Z5d(P:Program)(T:Tab)(D:DTab)(N:Nat){β:Type}(K:Kb β)(a0:AV)(h:Hp):Option β:=
lenK a0 λb=>
eqK P false 3 b (I 0) h λc=>
condK c (
K (I 9) h) (
lenK a0 λd=>
arithK .gtr d (I 64) λe=>
condK e (
K (I 8) h) (
lenK a0 λf=>
Z2S P T D N (λh=>ZbE P T D N K h) (λa h=>K a h) N a0 f (I 0) h))
theorem ZqP(xn:AV→AV→Kb β)(x1:Qb β)(xr:Kb β)(xd:Nat→St→Option β)(xq:St→Option β)(t:Tm)(h:Hp):Z5b P T D N t h (λ(e:Ex)(s:St)=>e.on (xn (s.1 13) (s.1 14) (s.1 15) s.2) (λi=>(bif i==1 then x1 s.2 else (xd i s))) (xr (s.1 2) s.2))=Z5c P T D N xn x1 xr (t 13) (t 14) (t 15) h:=by kernel_rfl
theorem ZqQ(A:Ex→St→Option β)(x1:Qb β)(xr:Kb β)(q1:∀s,A (.exit 1) s=x1 s.2)(qr:∀s,A .ret s=xr (s.1 2) s.2):∀(n:Nat)(s:St),iterK (λs k=>Z5b P T D N s.1 s.2 k) n s A=Z2S P T D N x1 xr n (s.1 13) (s.1 14) (s.1 15) s.2:=
 Z0i (exs1 q1 qr) (λs=>rfl) λn s=>ZqP P T D N (Z2S P T D N x1 xr n) x1 xr (λi s=>A (.exit i) s) (λs=>A .ret s) s.1 s.2
theorem ZqR(K:Kb β)(a0:AV)(h:Hp):Zhl P T D N K a0 h=Z5d P T D N K a0 h:=by
 have eL2:(λs:St=>iterK (λs k=>Z5b P T D N s.1 s.2 k) N s (Z8i P T D N K))=(λs:St=>Z2S P T D N (λh=>ZbE P T D N K h) (λw16_2 h=>K w16_2 h) N (s.1 13) (s.1 14) (s.1 15) s.2):=funext λs=>ZqQ P T D N (Z8i P T D N K) (λh=>ZbE P T D N K h) (λw16_2 h=>K w16_2 h) (λs=>rfl) (λs=>rfl) N s
 show Zhk P T D N (λs=>iterK (λs k=>Z5b P T D N s.1 s.2 k) N s (Z8i P T D N K)) K a0 h=_
 rw[eL2]
 kernel_rfl
theorem ZqS(K:Kb β)(a0:AV)(h:Hp):runK Tryz.prog T D N [0,2,4,5,9,13,14,15,16,24] Tryz.f190 K [a0] h=Z5d Tryz.prog T D N K a0 h:=Eq.trans (b:=Zhl Tryz.prog T D N K a0 h) (by kernel_rfl) (ZqR Tryz.prog T D N K a0 h)
noncomputable def Z8j(P:Program)(T:Tab)(D:DTab)(N:Nat){β:Type}(K:Kb β)(a:AV)(h:Hp):Option β:=
K a h
noncomputable def ZbF(P:Program)(T:Tab)(D:DTab)(N:Nat){β:Type}(K:Kb β)(a e:AV)(h:Hp):Option β:=
capK a λf=>
lenK a λg=>
arithK .sub f g λi=>
arithK .sub e i λb=>
arithK .gtr b (I 0) λj=>
condK j (
capK a λk=>
sliceK 1 a none (some k) none λl=>
effK (mkE 1 8 [I 0] l b (List.length h)) h λm n=>
lenK a λc=>
sliceK 1 m none (some c) none λd=>
Z8j P T D N K d n) (
Z8j P T D N K a h)
noncomputable def Z5e(P:Program)(T:Tab)(D:DTab)(N:Nat){β:Type}(K:Kb β)(a0 a1:AV)(h:Hp):Option β:=
arithK .lss a1 (I 0) λa=>
condK a (
none) (
ZbF P T D N K a0 a1 h)
theorem ZqT(K:Kb β)(a0 a1:AV)(h:Hp):runK Tryz.prog T D N [0,1,4,6,16] Tryz.f191 K [a0,a1] h=Z5e Tryz.prog T D N K a0 a1 h:=by kernel_rfl
end Go.AM


namespace Go.AM
open Go.RowKit
variable {P:Program} {μ μ':Mu} {h h' h1:Hp} {w w':World}
def Near(h a:Hp):Prop:=a.length=h.length∧∀(id:Nat)(o:AObj),h[id]? = some o→a[id]? = some o∨∃sz es es' own nil,o = .arr sz es own nil∧a[id]? = some (.arr sz es' own nil)∧es'.length=es.length∧∀e ∈ es',∀c ∈ e,plain c=true
theorem Near.back(n:Near h h1){id:Nat}{o:AObj}(ho:h1[id]? = some o):h[id]? = some o∨∃sz es es' own nil,o = .arr sz es' own nil∧h[id]? = some (.arr sz es own nil)∧es'.length=es.length∧∀e ∈ es',∀c ∈ e,plain c=true:=by
 have hl:id<h.length:=by rw[← n.1];exact (List.getElem?_eq_some_iff.1 ho).1
 have hh:h[id]? = some h[id]:=List.getElem?_eq_getElem hl;rcases n.2 id _ hh with h2 | ⟨sz,es,es',own,nil,h2,h3,h4,h5⟩
 ·left
  rw[h2] at ho;rw[hh];exact ho
 ·right
  rw[h3] at ho;injection ho with ho
  exact ⟨sz,es,es',own,nil,ho.symm,by rw[hh,h2],h4,h5⟩
theorem Step.forget2{g:List AObj}(R:Rel μ h w)(n:Near h h1)(S:Step μ h w μ' (h1++g) w'):Step μ h w (μ.mix μ') h1 w'∧Ext (μ.mix μ') h1 μ' (h1++g):=by
 have hin:∀i o,h1[i]? = some o→(h1++g)[i]? = some o:=λi o hi=>by
  rw[List.getElem?_append_left (List.getElem?_eq_some_iff.1 hi).1];exact hi
 have hloc:∀(id:Nat)(o:AObj),h[id]? = some o→o ≠ .dead→μ' id=μ id:=by
  intro id o ho hd;have:=S.evo.obj id o ho
  cases o with
  | dead=>exact absurd rfl hd
  | loop m ps asg body ts st pend=>obtain ⟨_,_,_,h2⟩:=this;exact h2
  | iter m n seen=>obtain ⟨_,_,h2⟩:=this;exact h2
  | map kvs=>obtain ⟨_,_,h2⟩:=this;exact h2
  | arr sz es own nil=>
   obtain ⟨es',nil',q1,q2,q3⟩:=this;rcases n.2 id _ ho with h2 | ⟨sz2,es2,es3,own2,nil2,h2,h3,h4,h5⟩
   ·rw[hin _ _ h2] at q1
    injection q1 with q1;injection q1 with e1 e2 e3 e4
    exact q3 (by rw[e2])
   ·rw[hin _ _ h3] at q1
    injection q1 with q1;injection q1 with e1 e2 e3 e4
    injection h2 with f1 f2 f3 f4;exact q3 (by rw[← e2,h4,f2])
 have hloc1:∀(id:Nat)(o:AObj),h1[id]? = some o→o ≠ .dead→μ' id=μ id:=by
  intro id o ho hd;rcases n.back ho with h2 | ⟨sz,es,es',own,nil,h2,h3,h4,h5⟩
  ·exact hloc id o h2 hd
  ·exact hloc id _ h3 (by simp)
 have he:Ext (μ.mix μ') h1 μ' (h1++g):=⟨λk hk=>⟨hk,rfl⟩,λid o ho=>⟨hin _ _ ho,λhd=>hloc1 id o ho hd⟩⟩
 have hE:Evo μ h (μ.mix μ') h1:=by
  refine ⟨S.evo.imm,λid o ho => ?_⟩
  rcases n.2 id _ ho with h2 | ⟨sz2,es2,es3,own2,nil2,rfl,h3,h4,h5⟩
  ·cases o with
   | dead=>trivial
   | loop m ps asg body ts st pend=>exact ⟨st,pend,h2,rfl⟩
   | iter m n seen=>exact ⟨seen,h2,rfl⟩
   | map kvs=>exact ⟨kvs,h2,rfl⟩
   | arr sz es own nil=>exact ⟨es,nil,h2,Nat.le_refl _,λ_=>rfl⟩
  ·exact ⟨es3,nil2,h3,by omega,λ_=>rfl⟩
 have hmu:∀i o b x c,h1[i]? = some o→isOwn o=true→(μ.mix μ') i = .real b x c→μ' i = .real b x c:=λi o b x c p1 p2 p3=>by
  rw[hloc1 i o p1 (by rintro rfl;simp[isOwn] at p2)];exact p3
 have hown:∀b,Own (μ.mix μ') h1 b→Own μ' (h1++g) b:=by
  rintro b ⟨id,o,x,c,p1,p2,p3⟩
  exact ⟨id,o,x,c,hin _ _ p1,p2,hmu _ _ _ _ _ p1 p2 p3⟩
 have hown0:∀b,Own (μ.mix μ') h1 b→Own μ h b:=by
  rintro b ⟨id,o,x,c,p1,p2,p3⟩
  rcases n.back p1 with h2 | ⟨sz,es,es',own,nil,rfl,h3,h4,h5⟩
  ·exact ⟨id,o,x,c,h2,p2,p3⟩
  ·exact ⟨id,_,x,c,h3,p2,p3⟩
 refine ⟨⟨⟨λid o ho => ?_, ?_, ?_, ?_⟩,hE,S.frame,λb hb => .inl (hown0 b hb),S.fresh⟩,he⟩
 ·have H:=S.rel.obj id o (hin _ _ ho)
  rcases n.back ho with h2 | ⟨sz,es,es',own,nil,rfl,h3,h4,h5⟩
  ·exact ORel.back he ho (w:=w) (ORel.mono hE rfl (λ_ _ _ _=>rfl) (Nat.le_refl _) (R.obj id o h2)) H
  ·refine ⟨H.1, ?_⟩
   have H2:=H.2;have hm:μ' id=(μ.mix μ') id:=hloc1 id _ ho (by simp)
   rw[← hm];cases hmu2:μ' id with
   | virt A=>rw[hmu2] at H2;exact H2
   | real blk x c=>
    rw[hmu2] at H2;obtain ⟨q1,q2,q3,q4,q5,q6⟩:=H2
    refine ⟨q1,q2,q3,q4,λi e j a p q => ?_,q6⟩
    obtain ⟨v,r1,r2,r3⟩:=q5 i e j a p q;exact ⟨v,r1,r2,Z2v he.imm (h5 e (List.mem_of_getElem? p) a (List.mem_of_getElem? q)) r3⟩
 ·intro i j o p b x c y d hi hj hoi hpj hmi hmj
  exact S.rel.sep i j o p b x c y d (hin _ _ hi) (hin _ _ hj) hoi hpj (hmu _ _ _ _ _ hi hoi hmi) (hmu _ _ _ _ _ hj hpj hmj)
 ·intro i sz es nil b x c hi hmi hO
  rcases n.back hi with h2 | ⟨sz2,es2,es3,own2,nil2,h2,h3,h4,h5⟩
  ·exact R.apart i sz es nil b x c h2 hmi (hown0 b hO)
  ·injection h2 with f1 f2 f3 f4
   subst f1 f3 f4;exact R.apart i _ es2 _ b x c h3 hmi (hown0 b hO)
 ·intro k hk
  obtain ⟨p1,p2,p3⟩:=S.rel.imm k hk;exact ⟨p1,p2,λhO=>p3 (hown k hO)⟩
def Writes(F:Fun)(id:Nat)(x:AV)(sz:Nat)(xs zs:List AV):Prop:=
 (∀c ∈ zs,plain c=true)∧∀H:Hp,H[id]? = some (.arr sz [xs] true false)→∃g,F [.ptr id 0 0 1,x] H=some (.tup [],H.set id (.arr sz [zs] true false)++g)
open Classical in
def wrD(F:Fun):DFun:=λargs h base=>match args with
 | [.ptr id 0 0 1,x]=>match h[id]? with
  | some (.arr sz [xs] true false)=>if hx:∃zs,Writes F id x sz xs zs then some (.tup [],⟨[(id,.arr sz [hx.choose] true false)],[],[id]⟩) else none
  | _=>none
 | _=>none
theorem Writes.unique{F:Fun}{id:Nat}{x:AV}{sz:Nat}{xs zs ys:List AV}{h:Hp}(hid:h[id]? = some (.arr sz [xs] true false))(h1:Writes F id x sz xs zs)(h2:Writes F id x sz xs ys):zs=ys:=by
 obtain ⟨g1,e1⟩:=h1.2 h hid;obtain ⟨g2,e2⟩:=h2.2 h hid;rw[e1] at e2;injection e2 with e2;injection e2 with _ e2;have hl:=(List.getElem?_eq_some_iff.1 hid).1;have:=congrArg (λl:Hp=>l[id]?) e2
 rw[List.getElem?_append_left (by simpa using hl),List.getElem?_append_left (by simpa using hl),List.getElem?_set_self hl,List.getElem?_set_self hl] at this
 injection this with this;injection this with _ this
 injection this
theorem Z2j{F:Fun}{id:Nat}{x:AV}{sz:Nat}{xs zs:List AV}{h:Hp}(hid:h[id]? = some (.arr sz [xs] true false))(hw:Writes F id x sz xs zs)(base:Nat):wrD F [.ptr id 0 0 1,x] h base=some (.tup [],⟨[(id,.arr sz [zs] true false)],[],[id]⟩):=by
 have hx:∃zs,Writes F id x sz xs zs:=⟨zs,hw⟩;simp only[wrD,hid];rw[dif_pos hx,Writes.unique hid hx.choose_spec hw]
theorem ZbG{F:Fun}{args:List AV}{h:Hp}{base:Nat}{v:AV}{e:Eff}(hk:wrD F args h base=some (v,e)):∃id x sz xs zs,args=[.ptr id 0 0 1,x]∧h[id]? = some (.arr sz [xs] true false)∧Writes F id x sz xs zs∧v = .tup []∧e=⟨[(id,.arr sz [zs] true false)],[],[id]⟩:=by
 unfold wrD at hk;split at hk<;>try (simp at hk;done)
 rename_i id x;split at hk<;>try (simp at hk;done)
 rename_i sz xs hid;split at hk<;>try (simp at hk;done)
 rename_i hx;simp only[Option.some.injEq,Prod.mk.injEq] at hk
 exact ⟨id,x,sz,xs,hx.choose,rfl,hid,hx.choose_spec,hk.1.symm,hk.2.symm⟩
theorem ZqU(F:Fun):DLoc (wrD F):=by
 refine ⟨λargs h base v e hk H hag => ?_,λargs h base v e hk p hp => ?_⟩
 ·obtain ⟨id,x,sz,xs,zs,rfl,hid,hw,rfl,rfl⟩:=ZbG hk
  exact Z2j (hag id (by simp) _ hid) hw base
 ·obtain ⟨id,x,sz,xs,zs,rfl,hid,hw,rfl,rfl⟩:=ZbG hk
  simp only[List.mem_singleton] at hp;subst hp
  exact ⟨_,hid,by simp⟩
theorem ZqV{F:Fun}{f:FuncId}(hc:CSound P f F):DCalls P f (wrD F):=by
 intro args h base v e hk hd μ w cargs R hargs;obtain ⟨id,x,sz,xs,zs,rfl,hid,hw,rfl,rfl⟩:=ZbG hk
 obtain ⟨g,hg⟩:=hw.2 h hid;obtain ⟨hgo,hcall⟩:=hc _ _ _ _ hg μ w cargs R hargs;refine ⟨hgo,Calls.mono hcall ?_⟩;rintro en w' ⟨cv,μ',rfl,hst,hv⟩;have hl:=(List.getElem?_eq_some_iff.1 hid).1
 have hn:Near h (h.set id (.arr sz [zs] true false)):=by
  refine ⟨by simp,λj o ho => ?_⟩
  by_cases hj:id=j
  ·subst hj
   rw[hid] at ho;injection ho with ho
   subst ho
   right
   refine ⟨sz,[xs],[zs],true,false,rfl,by rw[List.getElem?_set_self hl],rfl, ?_⟩
   intro e he c hc;simp only[List.mem_singleton] at he
   subst he;exact hw.1 c hc
  ·left
   rw[List.getElem?_set_ne hj];exact ho
 obtain ⟨h1,h2⟩:=Step.forget2 R hn hst;exact ⟨cv,_,rfl,by simpa [apAt] using h1,Z2v h2.imm rfl hv⟩
theorem DSound.wr{D:DTab}(DS:DSound P D){f:Nat}{F:Fun}(hc:CSound P f F):DSound P (updD D f (wrD F)):=DS.upd (ZqU F) (ZqV hc)
end Go.AM


namespace Go.AM
open Go.RowKit
variable {P:Program} {μ μ':Mu} {h h':Hp} {w w':World} {β:Type} {ks:List Nat} {np nt:Nat} {ds:List Deferred} {ρ:Option Nat}
def CSoundK(P:Program)(f:FuncId)(RK:{β:Type}→(Kb β)→List AV→Qb β):Prop:=∀{β:Type}(K:Kb β)(args:List AV)(h:Hp)(res:β),RK K args h=some res→∀μ w (cargs:Array Value),Rel μ h w→VRs μ h args cargs.toList→
 Goes P f∧Calls P f cargs w λe w'=>∃v h' cv μ',K v h'=some res∧e = .returned cv∧Step μ h w μ' h' w'∧VR μ' h' v cv
theorem Zhm(R0:Rel μ h w){h1:Hp}{a:Act}{t:Tm}{fn:Func}{v:AV}{h':Hp}(hx:outsK P t h1 fn.results.toList (λvs=>some (pack vs,h1))=some (v,h')){Q:Ending→World→Prop}(hQ:∀cv μ' w',Step μ h w μ' h' w'→VR μ' h' v cv→Q (.returned cv) w'):∀(rs:List Nat)(μ1:Mu)(w1:World),Step μ h w μ1 h1 w1→rs.Nodup→
  (∀r ∈ rs,w.heap.size≤r∧μ1.imm r∧μ1.base.heap[r]? = some (.deferred (some [])))→(∀i,VR μ1 h1 (t i) (a.eval (.tmp i)))→
  LeavesInM (FW none) 0 P fn a.tmps Q (rs.map (λr=>{ target := .collected r,args := #[] })) .returning w1
 | [],μ1,w1,S,_,_,hv=>by
  obtain ⟨xs,u,e,r1,r2⟩:=ZfE S.rel hv hx;simp only[Option.some.injEq,Prod.mk.injEq] at e;obtain ⟨rfl,rfl⟩:=e;exact ⟨u,r1,hQ u μ1 _ S r2⟩
 | r::rs,μ1,w1,S,hn,hr,hv=>by
  obtain ⟨p1,p2,p3⟩:=hr r (by simp)
  obtain ⟨q1,μ2,q2,q3,q4⟩:=Step.take (P:=P) R0 S p1 p2 p3;rw[List.nodup_cons] at hn;refine ⟨by simp,.inl ⟨r,_,rfl,q1, ?_⟩⟩
  exact Zhm R0 hx hQ rs μ2 _ q2 hn.2 (λr' hr'=>by
   obtain ⟨s1,s2,s3⟩:=hr r' (by simp[hr'])
   have hne:r'≠r:=λe=>hn.1 (e ▸ hr')
   exact ⟨s1,(q4 r' hne s2).1,(q4 r' hne s2).2.trans s3⟩) λi=>q3 _ _ (hv i)
theorem Zhn{T:Tab}{D:DTab}(TS:TSound P T)(DS:DSound P D)(hm:P.follows .mixedOrders=true){f:FuncId}{fn:Func}(hf:P.funcs[f]? = some fn)(hok:fnOk ks np fn=true)(N:Nat):CSoundK P f (λ{β} K args h=>if args.length=np then runK P T D N ks fn K args h else none):=by
 intro β K args h res hk μ w cargs R hargs;simp only[fnOk,Bool.and_eq_true,decide_eq_true_eq,Bool.not_eq_true'] at hok
 obtain ⟨⟨hnt,hname⟩,hc⟩:=hok;cases hb:fn.body with
 | none=>rw[hb] at hc;cases hc
 | some c=>
  rw[hb] at hc;refine ⟨⟨fn,hf,hname,by rw[hb];rfl⟩, ?_⟩
  dsimp only at hk;split at hk<;>try (simp at hk;done)
  rename_i hlen;unfold runK at hk
  rw[hb] at hk;simp only at hk
  have hsz:cargs.size=np:=by rw[← hlen,hargs.length];simp
  have hfit:Fit ks np fn.ntmps [] μ h (tm0 args) { tmps:=cargs++Array.replicate (fn.ntmps-cargs.size) undef,defers:=[] }:=by
   refine ⟨by simp;omega,rfl,λi => ?_,λi _=>rfl,λi _ hi => ?_⟩
   ·rw[Z4a,Z4i]
    cases ha:args[i]? with
    | none=>simp[VR]
    | some x=>
     obtain ⟨u,h1,h2⟩:=hargs.get i x ha
     have hlt:i<cargs.size:=by
      rw[← Array.length_toList];exact (List.getElem?_eq_some_iff.1 h1).1
     have:(Act.mk (cargs++Array.replicate (fn.ntmps-cargs.size) undef) []).eval (.tmp i)=u:=by
      simp only[Act.eval,Array.getD_eq_getD_getElem?,Array.getElem?_append_left hlt];have:cargs[i]? = some u:=by simpa using h1
      rw[this];rfl
     rw[this];exact h2
   ·rw[Z4i,List.getElem?_eq_none (by omega)];rfl
  refine callsIn_wide.1 (callsIn_of_wp_marks (n:=0) (F:=FW none) hf hb trivial ?_);refine Z1N (ρ:=none) (b0:=w.heap.size) TS DS hm c hc (.inl rfl) [] _ _ _ _ _ _ _ _ hk hfit ⟨[],rfl,List.nodup_nil,λr hr=>by cases hr⟩ (Nat.le_refl _) R ?_
  intro e t' h1 a' w' μ' ds' q1 q2 qm q3
  have key:outsK P t' h1 fn.results.toList (λvs=>K (pack vs) h1)=some res→LeavesInM (FW none) 0 P fn a'.tmps (λe w'=>∃v h' cv μ',K v h'=some res∧e = .returned cv∧Step μ h w μ' h' w'∧VR μ' h' v cv) a'.defers .returning w':=by
   intro hx;obtain ⟨rs,m1,m2,m3⟩:=qm
   rw[Z1O] at hx;obtain ⟨vs,hvs,hKv⟩:=Option.bind_eq_some_iff.1 hx
   have hx2:outsK P t' h1 fn.results.toList (λvs=>some (pack vs,h1))=some (pack vs,h1):=by rw[Z1O,hvs];rfl
   rw[q2.defers,m1];exact Zhm R hx2 (λcv μ' w' s1 s2=>⟨_,_,cv,μ',hKv,rfl,s1,s2⟩) rs μ' w' q3 m2 m3 q2.val
  cases e with
  | normal=>exact key q1
  | exit i=>simp[finK,Ex.on] at q1
  | ret=>exact key q1
noncomputable def closedXK(shp shr:List Sh)(RK:{β:Type}→(Kb β)→List AV→Qb β):Fun:=λargs h=>
 match cvts false h args with
 | some asl=>match RK (λv g=>cvt (!plains args) g v) (nrms shp asl) [] with
  | some v'=>some (nrmR shr v',h)
  | none=>none
 | none=>none
theorem Zho{f:FuncId}{RK:{β:Type}→(Kb β)→List AV→Qb β}(shp shr:List Sh)(hc:CSoundK P f RK):CSound P f (closedXK shp shr RK):=by
 intro args h v h' hk μ w cargs R hargs
 unfold closedXK at hk;split at hk<;>try (simp at hk;done)
 rename_i asl hcv;split at hk<;>try (simp at hk;done)
 rename_i u' hF
 simp only[Option.some.injEq,Prod.mk.injEq] at hk;obtain ⟨rfl,rfl⟩:=hk
 cases hpl:plains args with
 | true=>
  rw[Z1P hpl] at hcv;injection hcv with hcv
  subst hcv;have R1:Rel μ [] w:=Rel.nil λk hk=>⟨(R.imm k hk).1,(R.imm k hk).2.1⟩
  obtain ⟨hg,hcall⟩:=hc _ _ _ _ hF μ w cargs R1 (Z3i shp (Z3h (ImmLe.refl _) hpl hargs));refine ⟨hg,Calls.mono hcall ?_⟩;rintro e w' ⟨u,g,cv,μ2,hu,rfl,S,hv⟩;rw[hpl] at hu;have hnew:∀k,Own μ2 g k→w.heap.size≤k:=λk hk=>(S.own k hk).elim (λq=>(Own.nil q).elim) id
  have him:∀k,μ2.imm k→μ.imm k∨w.heap.size≤k:=λk hk=>(S.fresh k hk).elim .inl λq=>q.elim (λq=>(Own.nil q).elim) .inr
  obtain ⟨ξ,hξ⟩:∃ξ:Mu,ξ={ loc:=μ.loc,base:=w',imm:=λk=>μ2.imm k∨Own μ2 g k }:=⟨_,rfl⟩
  have hle:ImmLe μ ξ:=λk hk=>by
   subst hξ;refine ⟨.inl (S.evo.imm k hk).1, ?_⟩
   exact ((S.rel.imm k (S.evo.imm k hk).1).2.1).trans (S.evo.imm k hk).2
  obtain ⟨r1,r2,r3⟩:=Rel.over (g:=g) R S.frame (ξ:=ξ) (by rw[hξ]) hle (λk hk=>by
   subst hξ;rcases hk with hk | hk
   ·exact ⟨(S.rel.imm k hk).1,rfl,λhO=>by
     have:=R.own_lt hO
     rcases him k hk with q | q
     ·exact (R.imm k q).2.2 hO
     ·omega⟩
   ·exact ⟨S.rel.own_lt hk,rfl,λhO=>by have:=R.own_lt hO;have:=hnew k hk;omega⟩)
  have hfin:=Z4j (ν:=ξ) S.rel (λk hk=>by subst hξ;rfl) (λk hk=>by subst hξ;exact .inr hk) (λ_ k hk=>by subst hξ;exact .inl hk) hv hu
  refine ⟨cv,ξ,rfl,⟨r1,r2,r3,λb hb => .inl ?_,λk hk => ?_⟩,Z70 (VR.lift h hfin)⟩
  ·subst hξ;exact hb
  ·subst hξ
   rcases hk with hk | hk
   ·exact (him k hk).elim .inl λq => .inr (.inr q)
   ·exact .inr (.inr (hnew k hk))
 | false=>
  obtain ⟨μ1,hμ1⟩:∃μ1:Mu,μ1={ loc:=μ.loc,base:=w,imm:=λk=>μ.imm k∨Own μ h k }:=⟨_,rfl⟩
  have R1:Rel μ1 [] w:=Rel.nil λk hk=>by
   subst hμ1;rcases hk with hk | hk
   ·exact ⟨(R.imm k hk).1,rfl⟩
   ·exact ⟨R.own_lt hk,rfl⟩
  have hargs1:VRs μ1 [] asl cargs.toList:=Z3j R (λk hk=>by subst hμ1;rfl) (λk hk=>by subst hμ1;exact .inr hk) (λ_ k hk=>by subst hμ1;exact .inl hk) hargs hcv
  obtain ⟨hg,hcall⟩:=hc _ _ _ _ hF μ1 w cargs R1 (Z3i shp hargs1);refine ⟨hg,Calls.mono hcall ?_⟩;rintro e w' ⟨u,g,cv,μ2,hu,rfl,S,hv⟩;rw[hpl] at hu;have hnew:∀k,Own μ2 g k→w.heap.size≤k:=λk hk=>(S.own k hk).elim (λq=>(Own.nil q).elim) id
  have hbl:∀k,k<w.heap.size→w'.heap[k]? = w.heap[k]? := λk hk=>S.frame.block k hk Own.nil
  obtain ⟨ξ,hξ⟩:∃ξ:Mu,ξ={ loc:=μ.loc,base:=w',imm:=λk=>μ.imm k∨Own μ2 g k }:=⟨_,rfl⟩
  have hle:ImmLe μ ξ:=λk hk=>by
   subst hξ;exact ⟨.inl hk,(hbl k (R.imm k hk).1).trans (R.imm k hk).2.1⟩
  obtain ⟨r1,r2,r3⟩:=Rel.over (g:=g) R S.frame (ξ:=ξ) (by rw[hξ]) hle (λk hk=>by
   subst hξ;rcases hk with hk | hk
   ·exact ⟨Nat.lt_of_lt_of_le (R.imm k hk).1 S.frame.size,rfl,(R.imm k hk).2.2⟩
   ·exact ⟨S.rel.own_lt hk,rfl,λhO=>by have:=R.own_lt hO;have:=hnew k hk;omega⟩)
  have hfin:=Z4j (ν:=ξ) S.rel (λk hk=>by subst hξ;rfl) (λk hk=>by subst hξ;exact .inr hk) (λhst=>by simp at hst) hv hu
  refine ⟨cv,ξ,rfl,⟨r1,r2,r3,λb hb => .inl ?_,λk hk => ?_⟩,Z70 (VR.lift h hfin)⟩
  ·subst hξ;exact hb
  ·subst hξ
   rcases hk with hk | hk
   ·exact .inl hk
   ·exact .inr (.inr (hnew k hk))

theorem Zhp{shp shr:List Sh}{RK:{β:Type}→(Kb β)→List AV→Qb β}{args:List AV}{v:AV}(ha:plains args=true)(hv:RK (λv g=>cvt false g v) (nrms shp args) []=some v)(h:Hp):closedXK shp shr RK args h=some (nrmR shr v,h):=by
 unfold closedXK;rw[Z1P ha]
 simp only[ha,Bool.not_true];rw[hv]
end Go.AM
end
