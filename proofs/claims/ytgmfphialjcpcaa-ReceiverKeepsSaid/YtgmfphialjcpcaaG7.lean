import Derived.Test.YtgmfphialjcpcaaG6
import Derived.Below
import Derived.ChangeOld
import Derived.Carry
import Derived.OpenShut
set_option linter.unusedSectionVars false
set_option linter.unusedVariables false
set_option linter.unusedSimpArgs false
set_option linter.constructorNameAsVariable false
namespace Go.AM
open Go.Proofs
set_option linter.unusedVariables false
set_option linter.unusedSimpArgs false
set_option linter.constructorNameAsVariable false
set_option maxRecDepth 20000
theorem Zwx {T:Tab} {D:DTab} {N:Nat} {x0:Hp→Option AV} {xr:AV→Hp→Option AV} {a b:List Hrd} {p q:Bool} {h:Hp} (hab:a.length=b.length) (hl:a.length<1000000) (hx:x0 h=xr (B true) h) (heq:∀(x y:Hrd) (k:Go.AM.K AV),eqK Try.prog true 36 (.agg (encH x)) (.agg (encH y)) h k=k (B (!(x==y)))):∀(n i:Nat),i≤a.length→a.length<i+n→
  Z3H Try.prog T D N x0 xr n (.lst 2 p (a.map encH)) (.lst 2 q (b.map encH)) (I a.length) (I i) h=xr (B (decide (a.drop i=b.drop i))) h:=by
 intro n
 induction n with
 | zero=>intro i h1 h2;omega
 | succ n ih=>
  intro i h1 h2
  show Z6R Try.prog T D N (Z3H Try.prog T D N x0 xr n) x0 xr _ _ _ _ h=_
  rcases Nat.lt_or_ge i a.length with hi | hi
  ·have c1:((i:Int)<(a.length:Int)):=by omega
   have hw:IntKind.i64.wrap ((i:Int)+1)=((i+1:Nat):Int):=by rw [wrap64 (by omega) (by omega)];omega
   have ia:∀k:Go.AM.K AV,iaK 2 (.lst 2 p (a.map encH)) (I i) k=k (.ep (encH a[i]) 0):=fun k=>Z0P i rfl (List.getElem?_eq_getElem hi) k
   have ib:∀k:Go.AM.K AV,iaK 2 (.lst 2 q (b.map encH)) (I i) k=k (.ep (encH (b[i]'(by omega))) 0):=fun k=>Z0P i rfl (List.getElem?_eq_getElem (by omega)) k
   have ld:∀(x:Hrd) (k:Go.AM.K AV),ldK 2 true (.ep (encH x) 0) h k=k (.agg (encH x)):=fun x k=>rfl
   rw [List.drop_eq_getElem_cons hi,List.drop_eq_getElem_cons (show i<b.length by omega)]
   simp -implicitDefEqProofs only [Z6R,Z0d,List.length_map,Z08,c1,decide_true,Z00,if_true,ia,ib,ld,heq,Z0I,hw,ih (i+1) (by omega) (by omega),List.cons.injEq,Bool.decide_and]
   by_cases e:a[i]=b[i]
   ·simp [e]
   ·simp [e]
  ·have:i=a.length:=by omega
   subst this
   have c1:¬((a.length:Int)<(a.length:Int)):=by omega
   simp -implicitDefEqProofs only [Z6R,Z0d,List.length_map,Z08,c1,decide_false,Z00,Bool.false_eq_true,if_false,hx]
   rw [List.drop_eq_nil_of_le (Nat.le_refl _),List.drop_eq_nil_of_le (by omega)]
   rfl
theorem Zwy (a b:List Hrd) (p q:Bool) (hl:a.length<1000000) (heq:∀(x y:Hrd) (h:Hp) (k:Go.AM.K AV),eqK Try.prog true 36 (.agg (encH x)) (.agg (encH y)) h k=k (B (!(x==y)))) (h:Hp):Z6b [.lst 2 p (a.map encH), .lst 2 q (b.map encH)] h=some (B (decide (a=b)),h):=by
 refine Zt2 rfl ?_ h
 simp only [nrm,nrmC]
 by_cases hab:a.length=b.length
 ·have e:((a.length:Int)==(b.length:Int))=true:=by simp [hab]
  have:=Zwx (T:=Z6a) (D:=Z69) (N:=NN) (x0:=fun h=>Z9a Try.prog Z6a Z69 NN (fun v g=>cvt false g v) h) (xr:=fun w13_4 h=>cvt false h w13_4) (a:=a) (b:=b) (p:=p) (q:=q) (h:=[]) hab hl rfl (fun x y k=>heq x y [] k) NN 0 (by omega) (by have:=NN_ge;omega)
  simp only [List.drop_zero] at this
  simp -implicitDefEqProofs only [Z5k,Z0d,List.length_map,Z06,e,Bool.true_xor,Bool.not_true,Z00,Bool.false_eq_true,if_false]
  exact this
 ·have e:((a.length:Int)==(b.length:Int))=false:=by simp;omega
  have hne:a≠b:=fun h=>hab (by rw [h])
  simp [Z5k,e,hne]
attribute [local congr] Z0e Z0f Z0g Z0h Z0i Z0j Z0k Z0l Z0m Z0n Z0o Z0p Z0q Z0r Z0s Z0t Z0u Z0v Z0w Z0x Z0y Z0z Z0A Z0B Z0C Z0D Z0E
abbrev bxO (b:Bool) (o:Outb):AObj := .arr 3 [cellsO b o] true false
abbrev bxI (b1 b2:Bool) (i:Inbx):AObj := .arr 3 [cellsI b1 b2 i] true false
abbrev bxE (e:Envl):AObj := .arr 10 [encV e] true false
theorem ldO {β:Type} {h:Hp} {p:Nat} {b:Bool} {o:Outb} (g:h[p]? = some (bxO b o)) (k:Go.AM.K β):ldK 3 true (.ptr p 0 0 1) h k=k (ob b o):=by rw [Z01,g];rfl
theorem ldI3 {β:Type} {h:Hp} {p:Nat} {b1 b2:Bool} {i:Inbx} (g:h[p]? = some (bxI b1 b2 i)) (k:Go.AM.K β):ldK 3 true (.ptr p 0 0 1) h k=k (ib b1 b2 i):=by rw [Z01,g];rfl
set_option maxHeartbeats 4000000 in
theorem Zwz (h:Hp):Z7X [] h=some (B true,h):=by
 refine Ztg rfl ?_ h
 have n1:∀h,Z67 [I 1] h=some (.tup [ob true oX0,I 0],h):=fun h=>(Zw3 1 h).trans rfl
 have n2:∀h,Z5w [I 2] h=some (.tup [ib true true iX0,I 0],h):=fun h=>(Zwv 2 h).trans rfl
 have gm1:∀h base,Z7W [I 1] h base=some (.agg (encM mX1),EF []):=fun h base=>(Z22 (Zis 1 h) base).trans (by simp [idss,ids])
 have gm2:∀h base,Z7W [I 2] h base=some (.agg (encM mX2),EF []):=fun h base=>(Z22 (Zis 2 h) base).trans (by simp [idss,ids])
 obtain ⟨b1,f1⟩:=Zit true oX0 2 mX1 (by decide +kernel) (by decide) (by decide) (by decide +kernel) (by decide) (by decide)
 replace f1:∀h,Z3r [ob true oX0,I 2, .agg (encM mX1)] h=some (.tup [ob b1 oX1, .agg (encV eX1),I 0],h):=f1
 obtain ⟨b2,f2⟩:=Zit b1 oX1 2 mX2 (by decide +kernel) (by decide) (by decide) (by decide +kernel) (by decide) (by decide)
 replace f2:∀h,Z3r [ob b1 oX1,I 2, .agg (encM mX2)] h=some (.tup [ob b2 oX2, .agg (encV eX2),I 0],h):=f2
 have cl:∀(b:Bool) (o:Outb) (m:Msg) (v:AV),(∀h,Z3r [ob b o,I 2, .agg (encM m)] h=some (v,h))→∀h base,Zb8 [ob b o,I 2, .agg (encM m)] h base=some (v,EF []):=fun b o m v hv h base=>by
  exact (Z22 (hv h) base).trans (by simp [idss,ids,SL,encM])
 have gs1:=cl _ _ _ _ f1
 have gs2:=cl _ _ _ _ f2
 have tp0:∀(a b c:AV) (k:Go.AM.K AV),exK (.tup [a,b,c]) 0 k=k a:=fun a b c k=>rfl
 have tp1:∀(a b c:AV) (k:Go.AM.K AV),exK (.tup [a,b,c]) 1 k=k b:=fun a b c k=>rfl
 have tp2:∀(a b c:AV) (k:Go.AM.K AV),exK (.tup [a,b,c]) 2 k=k c:=fun a b c k=>rfl
 have tq0:∀(a b:AV) (k:Go.AM.K AV),exK (.tup [a,b]) 0 k=k a:=fun a b k=>rfl
 have tq1:∀(a b:AV) (k:Go.AM.K AV),exK (.tup [a,b]) 1 k=k b:=fun a b k=>rfl
 -- the heaps
 have x0:∀k:AV→Hp→Option AV,effK (boxE 3 (.agg zO) ([]:Hp).length) [] k=k (.ptr 0 0 0 1) [.arr 3 [zO] true false]:=fun k=>rfl
 have s0:∀k:AV→Hp→Option AV,effK (stE 3 (.ptr 0 0 0 1) (ob true oX0) [.arr 3 [zO] true false]) [.arr 3 [zO] true false] k=k .u [bxO true oX0]:=fun k=>Z0F (v := .u) (id:=0) (o:=bxO true oX0) (ft:=[0]) rfl k
 have l0:∀k:Go.AM.K AV,ldK 3 true (.ptr 0 0 0 1) [bxO true oX0] k=k (ob true oX0):=fun k=>ldO (p:=0) rfl k
 have d1:∀k:AV→Hp→Ent→Option AV,effD (boxE 10 (.agg zE) ([bxO true oX0]:Hp).length) [bxO true oX0] k=k (.ptr 1 0 0 1) [bxO true oX0, .arr 10 [zE] true false] ([],[1]):=fun k=>rfl
 have d2:∀k:AV→Hp→Ent→Option AV,effD (stE 3 (.ptr 0 0 0 1) (ob b1 oX1) [bxO true oX0, .arr 10 [zE] true false]) [bxO true oX0, .arr 10 [zE] true false] k=k .u [bxO b1 oX1, .arr 10 [zE] true false] ([0],[0]):=fun k=>Z0a (v := .u) (id:=0) (o:=bxO b1 oX1) (ft:=[0]) rfl k
 have d3:∀k:AV→Hp→Ent→Option AV,effD (stE 10 (.ptr 1 0 0 1) (.agg (encV eX1)) [bxO b1 oX1, .arr 10 [zE] true false]) [bxO b1 oX1, .arr 10 [zE] true false] k=k .u [bxO b1 oX1,bxE eX1] ([1],[1]):=fun k=>Z0a (v := .u) (id:=1) (o:=bxE eX1) (ft:=[1]) rfl k
 have l1:∀k:Go.AM.K AV,ldK 3 true (.ptr 0 0 0 1) [bxO b1 oX1,bxE eX1] k=k (ob b1 oX1):=fun k=>ldO (p:=0) rfl k
 have d4:∀k:AV→Hp→Ent→Option AV,effD (boxE 10 (.agg zE) ([bxO b1 oX1,bxE eX1]:Hp).length) [bxO b1 oX1,bxE eX1] k=k (.ptr 2 0 0 1) [bxO b1 oX1,bxE eX1, .arr 10 [zE] true false] ([],[2]):=fun k=>rfl
 have d5:∀k:AV→Hp→Ent→Option AV,effD (stE 3 (.ptr 0 0 0 1) (ob b2 oX2) [bxO b1 oX1,bxE eX1, .arr 10 [zE] true false]) [bxO b1 oX1,bxE eX1, .arr 10 [zE] true false] k=k .u [bxO b2 oX2,bxE eX1, .arr 10 [zE] true false] ([0],[0]):=fun k=>Z0a (v := .u) (id:=0) (o:=bxO b2 oX2) (ft:=[0]) rfl k
 have d6:∀k:AV→Hp→Ent→Option AV,effD (stE 10 (.ptr 2 0 0 1) (.agg (encV eX2)) [bxO b2 oX2,bxE eX1, .arr 10 [zE] true false]) [bxO b2 oX2,bxE eX1, .arr 10 [zE] true false] k=k .u [bxO b2 oX2,bxE eX1,bxE eX2] ([2],[2]):=fun k=>Z0a (v := .u) (id:=2) (o:=bxE eX2) (ft:=[2]) rfl k
 have dj1:disjAll [(0,1),(0,7),(1,7),(2,7)] [(idsOf (.ptr 0 0 0 1),[]),([],[]),([],[]),([],[]),([],[]),([],[]),([],[]),([],[1]),([0],[0]),([1],[1]),([],[])]=true:=rfl
 have dj2:disjAll [(0,1),(0,7),(1,7),(2,7)] [(idsOf (.ptr 0 0 0 1),[]),([],[]),([],[]),([],[]),([],[]),([],[]),([],[]),([],[2]),([0],[0]),([2],[2]),([],[])]=true:=rfl
 obtain ⟨H3,hH3⟩:∃H3:Hp,H3=[bxO b2 oX2,bxE eX1,bxE eX2]:=⟨_,rfl⟩
 rw [← hH3] at d6
 have x3:∀k:AV→Hp→Option AV,effK (boxE 3 (.agg zI) H3.length) H3 k=k (.ptr 3 0 0 1) (H3++[.arr 3 [zI] true false]):=fun k=>by rw [hH3];rfl
 obtain ⟨H4,hH4⟩:∃H4:Hp,H4=H3++[bxI true true iX0]:=⟨_,rfl⟩
 have s3:∀k:AV→Hp→Option AV,effK (stE 3 (.ptr 3 0 0 1) (ib true true iX0) (H3++[.arr 3 [zI] true false])) (H3++[.arr 3 [zI] true false]) k=k .u H4:=fun k=>by
  rw [hH4,hH3];exact Z0F (v := .u) (id:=3) (o:=bxI true true iX0) (ft:=[3]) rfl k
 have w0:IntKind.i64.wrap (0+0)=0:=by kernel_rfl
 have l40:∀k:Go.AM.K AV,ldK 3 true (.ptr 0 0 0 1) H4 k=k (ob b2 oX2):=fun k=>ldO (p:=0) (by rw [hH4,hH3];rfl) k
 have l43:∀k:Go.AM.K AV,ldK 3 true (.ptr 3 0 0 1) H4 k=k (ib true true iX0):=fun k=>ldI3 (p:=3) (by rw [hH4,hH3];rfl) k
 obtain ⟨b3,c1,c2,fX⟩:=ZdB b2 oX2 true true iX0 3 2 (by decide) (by decide) (by decide) (by decide) (by decide) H4
 rw [exX1] at fX
 replace fX:Z1Z [ob b2 oX2,ib true true iX0, .s (.int .u64 3), .s (.int .u64 2)] H4=some (.tup [ob b3 oX3,ib c1 c2 iX2,I 0],H4):=fX
 have x4:∀k:AV→Hp→Option AV,effK (boxE 3 (.agg zO) H4.length) H4 k=k (.ptr 4 0 0 1) (H4++[.arr 3 [zO] true false]):=fun k=>by rw [hH4,hH3];rfl
 have x5:∀k:AV→Hp→Option AV,effK (boxE 3 (.agg zI) (H4++[AObj.arr 3 [zO] true false]).length) (H4++[.arr 3 [zO] true false]) k=k (.ptr 5 0 0 1) (H4++[.arr 3 [zO] true false, .arr 3 [zI] true false]):=fun k=>by rw [hH4,hH3];rfl
 have s4:∀k:AV→Hp→Option AV,effK (stE 3 (.ptr 4 0 0 1) (ob b3 oX3) (H4++[.arr 3 [zO] true false, .arr 3 [zI] true false])) (H4++[.arr 3 [zO] true false, .arr 3 [zI] true false]) k=k .u (H4++[bxO b3 oX3, .arr 3 [zI] true false]):=fun k=>by
  rw [hH4,hH3];exact Z0F (v := .u) (id:=4) (o:=bxO b3 oX3) (ft:=[4]) rfl k
 obtain ⟨H6,hH6⟩:∃H6:Hp,H6=H4++[bxO b3 oX3,bxI c1 c2 iX2]:=⟨_,rfl⟩
 have s5:∀k:AV→Hp→Option AV,effK (stE 3 (.ptr 5 0 0 1) (ib c1 c2 iX2) (H4++[bxO b3 oX3, .arr 3 [zI] true false])) (H4++[bxO b3 oX3, .arr 3 [zI] true false]) k=k .u H6:=fun k=>by
  rw [hH6,hH4,hH3];exact Z0F (v := .u) (id:=5) (o:=bxI c1 c2 iX2) (ft:=[5]) rfl k
 have l64:∀k:Go.AM.K AV,ldK 3 true (.ptr 4 0 0 1) H6 k=k (ob b3 oX3):=fun k=>ldO (p:=4) (by rw [hH6,hH4,hH3];rfl) k
 have l65:∀k:Go.AM.K AV,ldK 3 true (.ptr 5 0 0 1) H6 k=k (ib c1 c2 iX2):=fun k=>ldI3 (p:=5) (by rw [hH6,hH4,hH3];rfl) k
 obtain ⟨b4,c3,c4,fY⟩:=ZdB b3 oX3 c1 c2 iX2 1 1 (by decide) (by decide) (by decide) (by decide) (by decide) H6
 rw [exX2] at fY
 replace fY:Z1Z [ob b3 oX3,ib c1 c2 iX2, .s (.int .u64 1), .s (.int .u64 1)] H6=some (.tup [ob b4 oX4,ib c3 c4 iX2,I 0],H6):=fY
 have x6:∀k:AV→Hp→Option AV,effK (boxE 3 (.agg zO) H6.length) H6 k=k (.ptr 6 0 0 1) (H6++[.arr 3 [zO] true false]):=fun k=>by rw [hH6,hH4,hH3];rfl
 have x7:∀k:AV→Hp→Option AV,effK (boxE 3 (.agg zI) (H6++[AObj.arr 3 [zO] true false]).length) (H6++[.arr 3 [zO] true false]) k=k (.ptr 7 0 0 1) (H6++[.arr 3 [zO] true false, .arr 3 [zI] true false]):=fun k=>by rw [hH6,hH4,hH3];rfl
 have s6:∀k:AV→Hp→Option AV,effK (stE 3 (.ptr 6 0 0 1) (ob b4 oX4) (H6++[.arr 3 [zO] true false, .arr 3 [zI] true false])) (H6++[.arr 3 [zO] true false, .arr 3 [zI] true false]) k=k .u (H6++[bxO b4 oX4, .arr 3 [zI] true false]):=fun k=>by
  rw [hH6,hH4,hH3];exact Z0F (v := .u) (id:=6) (o:=bxO b4 oX4) (ft:=[6]) rfl k
 obtain ⟨H8,hH8⟩:∃H8:Hp,H8=H6++[bxO b4 oX4,bxI c3 c4 iX2]:=⟨_,rfl⟩
 have s7:∀k:AV→Hp→Option AV,effK (stE 3 (.ptr 7 0 0 1) (ib c3 c4 iX2) (H6++[bxO b4 oX4, .arr 3 [zI] true false])) (H6++[bxO b4 oX4, .arr 3 [zI] true false]) k=k .u H8:=fun k=>by
  rw [hH8,hH6,hH4,hH3];exact Z0F (v := .u) (id:=7) (o:=bxI c3 c4 iX2) (ft:=[7]) rfl k
 have e4:H8[4]? = some (bxO b3 oX3):=by rw [hH8,hH6,hH4,hH3];rfl
 have e5:H8[5]? = some (bxI c1 c2 iX2):=by rw [hH8,hH6,hH4,hH3];rfl
 have e6:H8[6]? = some (bxO b4 oX4):=by rw [hH8,hH6,hH4,hH3];rfl
 have e7:H8[7]? = some (bxI c3 c4 iX2):=by rw [hH8,hH6,hH4,hH3];rfl
 have q42:∀k:Go.AM.K AV,ldK 1 false (.ptr 4 0 2 1) H8 k=k (SL 10 encV b3 [eX1]):=fun k=>by rw [Z01,e4];rfl
 have q52:∀k:Go.AM.K AV,ldK 1 false (.ptr 5 0 2 1) H8 k=k (SL 7 encM c2 [mX1,mX2]):=fun k=>by rw [Z01,e5];rfl
 have q62:∀k:Go.AM.K AV,ldK 1 false (.ptr 6 0 2 1) H8 k=k (SL 10 encV b4 []):=fun k=>by rw [Z01,e6];rfl
 have q51:∀k:Go.AM.K AV,ldK 1 false (.ptr 5 0 1 1) H8 k=k (SL 2 encH c1 [⟨1,1⟩,⟨1,2⟩]):=fun k=>by rw [Z01,e5];rfl
 have q71:∀k:Go.AM.K AV,ldK 1 false (.ptr 7 0 1 1) H8 k=k (SL 2 encH c3 [⟨1,1⟩,⟨1,2⟩]):=fun k=>by rw [Z01,e7];rfl
 have q5:∀k:Go.AM.K AV,ldK 3 true (.ptr 5 0 0 1) H8 k=k (ib c1 c2 iX2):=fun k=>ldI3 e5 k
 have q7:∀k:Go.AM.K AV,ldK 3 true (.ptr 7 0 0 1) H8 k=k (ib c3 c4 iX2):=fun k=>ldI3 e7 k
 have ln1:∀k:Go.AM.K AV,lenK (SL 10 encV b3 [eX1]) k=k (I 1):=fun k=>rfl
 have ln2:∀k:Go.AM.K AV,lenK (SL 7 encM c2 [mX1,mX2]) k=k (I 2):=fun k=>rfl
 have ln3:∀k:Go.AM.K AV,lenK (SL 10 encV b4 []) k=k (I 0):=fun k=>rfl
 have fA:=Zww c1 c2 c3 c4 iX2 iX2 (by decide) (by decide) (by decide) (by decide) H8
 rw [show agreesI iX2 iX2=true by unfold agreesI;rw [cX2];simp] at fA
 have fE:=Zwy [⟨1,1⟩,⟨1,2⟩] [⟨1,1⟩,⟨1,2⟩] (c1&&false) (c3&&false) (by decide) (fun x y h k=>by rw [Zdx,Bool.true_xor]) H8
 replace fE:Z6b [SL 2 encH c1 [⟨1,1⟩,⟨1,2⟩],SL 2 encH c3 [⟨1,1⟩,⟨1,2⟩]] H8=some (B true,H8):=fE
 have fC:=Z6o c3 c4 iX2 (by decide) (by decide) H8
 rw [cX2] at fC
 simp -implicitDefEqProofs only [Z8Q,Ztb,Z03,n1,tq0,tq1,x0,s0,l0,Zt5,Zt4,Z1G,gm1,Z4u,gs1,tp0,tp1,tp2,d1,d2,d3,dj1,cond_true,l1,gm2,gs2,d4,d5,d6,dj2,Zt7,n2,x3,s3,Z0I,w0,Z06,beq_self_eq_true,Bool.true_xor,Bool.not_true,Z00,Bool.false_eq_true,if_false,l40,l43,Zta,fX,x4,x5,s4,s5,l64,l65,fY,x6,x7,s6,s7,Z07,Nat.zero_add,q42,ln1,Bool.false_xor,Z3e,q52,ln2,q62,ln3,q5,q7,Zt9,fA,q51,q71,Ztc,fE,Zt8,fC]
 rfl
end Go.AM


namespace Go.AM
open Go.Proofs
set_option linter.unusedVariables false
set_option linter.unusedSimpArgs false
set_option linter.constructorNameAsVariable false
set_option maxRecDepth 20000
attribute [local congr] Z0e Z0f Z0g Z0h Z0i Z0j Z0k Z0l Z0m Z0n Z0o Z0p Z0q Z0r Z0s Z0t Z0u Z0v Z0w Z0x Z0y Z0z Z0A Z0B Z0C Z0D Z0E
end Go.AM


namespace Go.AM
open Go.Proofs
set_option linter.unusedVariables false
set_option linter.unusedSimpArgs false
set_option linter.constructorNameAsVariable false
set_option maxRecDepth 20000
attribute [local congr] Z0e Z0f Z0g Z0h Z0i Z0j Z0k Z0l Z0m Z0n Z0o Z0p Z0q Z0r Z0s Z0t Z0u Z0v Z0w Z0x Z0y Z0z Z0A Z0B Z0C Z0D Z0E
structure Fol where
 d:Docu
 en:Bool
 an:Int
 cnt:List ((Int × Int) × Int)
def cntP (c:List ((Int × Int) × Int)) (p:Int × Int):Int:=((fndT c p).map (·.2)).getD 0
def bumpP (c:List ((Int × Int) × Int)) (p:Int × Int):List ((Int × Int) × Int):=updT c p (IntKind.i64.wrap (cntP c p+1))
def stepF (mv:Int) (s:Fol) (m:Msg):Fol:=
 if m.mv≠mv then s
 else if m.kind=1 then { s with d:={ s.d with stage:=1,frm:=m.frm,to:=m.to,sent:=m.alc },cnt:=bumpP s.cnt (m.kind,m.num) }
 else if m.kind=2 then { s with d:={ s.d with to:=m.to,chg:=IntKind.i64.wrap (s.d.chg+1) },cnt:=bumpP s.cnt (m.kind,m.num) }
 else if m.kind=3 then { s with d:={ s.d with got:=m.alc },an:=2,cnt:=bumpP s.cnt (m.kind,m.num) }
 else if m.kind=4 then { s with an:=3,cnt:=bumpP s.cnt (3,m.num) }
 else if m.kind=5 then { s with en:=true }
 else { s with cnt:=bumpP s.cnt (m.kind,m.num) }
def begF (mv:Int):Fol:=⟨⟨mv,0,0,0,0,0,0⟩,false,0,[]⟩
def folF (mv:Int) (l:List Msg):Fol:=l.foldl (stepF mv) (begF mv)
def noneD (mv:Int):Docu:=⟨mv,0,0,0,0,0,0⟩
def confD (mv:Int):Docu:=⟨mv,5,0,0,0,0,0⟩
def endF (mv:Int) (s:Fol):Docu:=
 if s.d.stage=0 then noneD mv
 else if (s.cnt.any fun e=>decide (1<e.2))=true then confD mv
 else if s.an=0 then s.d else if s.en=true then { s.d with stage:=4 } else { s.d with stage:=s.an }
def docF (mv:Int) (l:List Msg):Docu:=endF mv (folF mv l)
abbrev fI:Int→AV:=fun n => .s (.int .i64 n)
theorem twoP:TwoInts Try.prog 140 3:=⟨⟨_,Try.underlying140,_,_,rfl,rfl,rfl,rfl,rfl,eq_false (by decide),eq_false (by decide)⟩,Try.underlying3,by kernel_rfl⟩
section
variable {β:Type}
theorem get3 {o0 o1 o2 x:AObj} {g t:Hp}:(o0::o1::o2::(g++x::t))[g.length+3]? = some x:=by
 simp [List.getElem?_append_right]
theorem get4 {o0 o1 o2 x y:AObj} {g t:Hp}:(o0::o1::o2::(g++x::y::t))[g.length+4]? = some y:=by
 simp [List.getElem?_append_right]
theorem set3 {o0 o1 o2 x z:AObj} {g t:Hp}:(o0::o1::o2::(g++x::t)).set (g.length+3) z=o0::o1::o2::(g++z::t):=by
 simp [List.set_append_right]
theorem set4 {o0 o1 o2 x y z:AObj} {g t:Hp}:(o0::o1::o2::(g++x::y::t)).set (g.length+4) z=o0::o1::o2::(g++x::z::t):=by
 simp [List.set_append_right]
variable {o0 o1 o2:AObj} {g t:Hp} {m:Msg}
theorem lq (j:Nat) (k:Go.AM.K β) {x:AV} (hx:(encM m)[j]? = some x):ldK 1 false (.ptr (g.length+3) 0 j 1) (o0::o1::o2::(g ++ .arr 7 [encM m] true false::t)) k=k x:=by
 rw [Z01,get3]
 simp [hx]
theorem lq0 (k:Go.AM.K β):ldK 1 false (.ptr (g.length+3) 0 0 1) (o0::o1::o2::(g ++ .arr 7 [encM m] true false::t)) k=k (I m.mv):=lq 0 k rfl
theorem lq1 (k:Go.AM.K β):ldK 1 false (.ptr (g.length+3) 0 1 1) (o0::o1::o2::(g ++ .arr 7 [encM m] true false::t)) k=k (I m.kind):=lq 1 k rfl
theorem lq2 (k:Go.AM.K β):ldK 1 false (.ptr (g.length+3) 0 2 1) (o0::o1::o2::(g ++ .arr 7 [encM m] true false::t)) k=k (I m.num):=lq 2 k rfl
theorem lq4 (k:Go.AM.K β):ldK 1 false (.ptr (g.length+3) 0 4 1) (o0::o1::o2::(g ++ .arr 7 [encM m] true false::t)) k=k (I m.frm):=lq 4 k rfl
theorem lq5 (k:Go.AM.K β):ldK 1 false (.ptr (g.length+3) 0 5 1) (o0::o1::o2::(g ++ .arr 7 [encM m] true false::t)) k=k (I m.to):=lq 5 k rfl
theorem lq6 (k:Go.AM.K β):ldK 1 false (.ptr (g.length+3) 0 6 1) (o0::o1::o2::(g ++ .arr 7 [encM m] true false::t)) k=k (I m.alc):=lq 6 k rfl
theorem bq7 (k:AV→Hp→Option β):effK (boxE 7 (.agg zM) (o0::o1::o2::g).length) (o0::o1::o2::g) k=k (.ptr (g.length+3) 0 0 1) (o0::o1::o2::(g++[.arr 7 [zM] true false])):=by
 exact (Z12 7 (o0::o1::o2::g).length (.agg zM) _ k rfl rfl rfl).trans rfl
theorem sq7 (k:AV→Hp→Option β):effK (stE 7 (.ptr (g.length+3) 0 0 1) (.agg (encM m)) (o0::o1::o2::(g++[.arr 7 [zM] true false]))) (o0::o1::o2::(g++[.arr 7 [zM] true false])) k=k .u (o0::o1::o2::(g++[.arr 7 [encM m] true false])):=by
 rw [Z0H (v := .u) (id:=g.length+3) (o := .arr 7 [encM m] true false) (ft:=[g.length+3]) (by rw [Z0G,get3];simp [encM]),set3]
theorem bq2 {x:AObj} (k:AV→Hp→Option β):effK (boxE 2 (.agg [.s (.int .i64 0), .s (.int .i64 0)]) (o0::o1::o2::(g++[x])).length) (o0::o1::o2::(g++[x])) k=k (.ptr (g.length+4) 0 0 1) (o0::o1::o2::(g++[x, .arr 2 [[I 0,I 0]] true false])):=by
 rw [Z12 2 _ _ _ k rfl rfl rfl];simp
theorem sq2 {x:AObj} {a b:Int} (k:AV→Hp→Option β):effK (stE 2 (.ptr (g.length+4) 0 0 1) (.agg [I a,I b]) (o0::o1::o2::(g++[x, .arr 2 [[I 0,I 0]] true false]))) (o0::o1::o2::(g++[x, .arr 2 [[I 0,I 0]] true false])) k=k .u (o0::o1::o2::(g++[x, .arr 2 [[I a,I b]] true false])):=by
 rw [Z0H (v := .u) (id:=g.length+4) (o := .arr 2 [[I a,I b]] true false) (ft:=[g.length+4]) (by rw [Z0G,get4];simp),set4]
theorem sq20 {x:AObj} {a b c:Int} (k:AV→Hp→Option β):effK (stE 1 (.ptr (g.length+4) 0 0 1) (I c) (o0::o1::o2::(g++[x, .arr 2 [[I a,I b]] true false]))) (o0::o1::o2::(g++[x, .arr 2 [[I a,I b]] true false])) k=k .u (o0::o1::o2::(g++[x, .arr 2 [[I c,I b]] true false])):=by
 rw [Z0H (v := .u) (id:=g.length+4) (o := .arr 2 [[I c,I b]] true false) (ft:=[g.length+4]) (by rw [Z0G,get4];simp),set4]
theorem lw2 {x:AObj} {a b:AV} (k:Go.AM.K β):ldK 2 true (.ptr (g.length+4) 0 0 1) (o0::o1::o2::(g++[x, .arr 2 [[a,b]] true false])) k=k (.agg [a,b]):=by
 rw [Z01,get4]
 simp
end
theorem of_j9 {β:Type} {T:Tab} {D:DTab} {N:Nat} {xn:AV→AV→AV→AV→AV→AV→AV→AV→AV→Hp→Option β} {x0:AV→AV→AV→AV→AV→AV→Hp→Option β} {v1 v4 v6 v7 v8 v17 v18 v19:AV} {o0 o2 x:AObj} {g:Hp} {c:List ((Int × Int) × Int)} {a b:Int}:
  Z4B Try.prog T D N xn x0 v1 v4 (.mp 1) v6 v7 v8 (.ptr (g.length+4) 0 0 1) v17 v18 v19 (o0 :: .map (kvT fI c)::o2::(g++[x, .arr 2 [[I a,I b]] true false])) =
   Z1W Try.prog T D N xn x0 v1 v4 (.mp 1) v6 v7 v8 v17 v18 v19 (o0 :: .map (kvT fI (bumpP c (a,b)))::o2::(g++[x, .arr 2 [[I a,I b]] true false])):=by
 obtain ⟨bv,j,c1,h1,h2⟩:=ZvM (f:=fI) (h:=o0 :: .map (kvT fI c)::o2::(g++[x, .arr 2 [[I a,I b]] true false])) (id:=1) (c:=c) (p:=(a,b)) (z:=(0:Int)) (x:=IntKind.i64.wrap (cntP c (a,b)+1)) twoP rfl
 have hl:∀k:Go.AM.K β,lookK Try.prog 140 (.s (.int .i64 0)) false (.mp 1) (.agg [I a,I b]) (o0 :: .map (kvT fI c)::o2::(g++[x, .arr 2 [[I a,I b]] true false])) k=k (I (cntP c (a,b))):=fun k=>by
  rw [Zi4 (p:=(a,b)) (f:=fI) (c:=c) twoP rfl]
  unfold cntP
  cases fndT c (a,b)<;>rfl
 have e1:∀k:AV→Hp→Ent→Option β,effD (mentE Try.prog 140 (.s (.int .i64 0)) (.mp 1) (.agg [I a,I b]) (o0 :: .map (kvT fI c)::o2::(g++[x, .arr 2 [[I a,I b]] true false]))) (o0 :: .map (kvT fI c)::o2::(g++[x, .arr 2 [[I a,I b]] true false])) k=k (.tup [bv, .s (.int .i64 j)]) (o0 :: .map (kvT fI c1)::o2::(g++[x, .arr 2 [[I a,I b]] true false])) ([1],[1]):=fun k=>Z0a h1 k
 have e2:∀k:AV→Hp→Ent→Option β,effD (estE (.mp 1) (.s (.int .i64 j)) (I (IntKind.i64.wrap (cntP c (a,b)+1))) (o0 :: .map (kvT fI c1)::o2::(g++[x, .arr 2 [[I a,I b]] true false]))) (o0 :: .map (kvT fI c1)::o2::(g++[x, .arr 2 [[I a,I b]] true false])) k=k .u (o0 :: .map (kvT fI (bumpP c (a,b)))::o2::(g++[x, .arr 2 [[I a,I b]] true false])) ([1],[1]):=fun k=>Z0a (h2 _ rfl) k
 have x1:∀k:Go.AM.K β,exK (.tup [bv, .s (.int .i64 j)]) 1 k=k (.s (.int .i64 j)):=fun k=>rfl
 simp -implicitDefEqProofs only [Z4B,ZgH,lw2,hl,Z0I,e1,x1,e2,Zl9,cond_true]
theorem of_b6 {β:Type} {T:Tab} {D:DTab} {N:Nat} {xn:AV→AV→AV→AV→AV→AV→AV→AV→AV→Hp→Option β} {x0:AV→AV→AV→AV→AV→AV→Hp→Option β} {l:List Msg} {b:Bool} {i:Nat} {m:Msg} {mv:Int} {s:Fol} {o0:AObj} {g:Hp} (hl:l.length<1000000) (hi:l[i]? = some m):
  ∃g',Z4C Try.prog T D N xn x0 (I mv) (.ptr 0 0 0 1) (.mp 1) (.ptr 2 0 0 1) (B s.en) (I s.an) (.lst 7 b (l.map encM)) (I l.length) (I i) (o0 :: .map (kvT fI s.cnt) :: .arr 7 [encDo s.d] true false::g) =
   xn (I mv) (.ptr 0 0 0 1) (.mp 1) (.ptr 2 0 0 1) (B (stepF mv s m).en) (I (stepF mv s m).an) (.lst 7 b (l.map encM)) (I l.length) (I ((i+1:Nat):Int)) (o0 :: .map (kvT fI (stepF mv s m).cnt) :: .arr 7 [encDo (stepF mv s m).d] true false::g'):=by
 have hil:i<l.length:=(List.getElem?_eq_some_iff.1 hi).1
 have c1:((i:Int)<(l.length:Int)):=by omega
 have hw:IntKind.i64.wrap ((i:Int)+1)=((i+1:Nat):Int):=by rw [wrap64 (by omega) (by omega)];omega
 have ic:∀k:Go.AM.K β,iaK 7 (.lst 7 b (l.map encM)) (I i) k=k (.ep (encM m) 0):=fun k=>Z0P i rfl hi k
 have ld:∀(h:Hp) (k:Go.AM.K β),ldK 7 true (.ep (encM m) 0) h k=k (.agg (encM m)):=fun h k=>rfl
 have bd:∀k:Go.AM.K β,buildK [.s (.int .i64 0), .s (.int .i64 0)] [(some (0,1),I m.kind),(some (1,1),I m.num)] k=k (.agg [I m.kind,I m.num]):=fun k=>rfl
 obtain ⟨⟨d0,d1,d2,d3,d4,d5,d6⟩,en,an,cnt⟩:=s
 simp only [encDo]
 have dj4:disjAll [(1,7),(3,7),(5,7),(3,9),(5,9),(5,11)] [([],[]),(idsOf (AV.ptr (g.length+3) 0 4 1),[]),([],[]),(idsOf (AV.ptr (g.length+3) 0 5 1),[]),([],[]),(idsOf (AV.ptr (g.length+3) 0 6 1),[]),([],[]),([2],[2]),([],[]),([2],[2]),([],[]),([2],[2]),([],[]),([2],[2])]=true:=by simp [disjAll,disj2,idsOf]
 by_cases hm:m.mv=mv
 ·have em:(m.mv==mv)=true:=by simpa using hm
  have en':¬(m.mv≠mv):=by simpa using hm
  refine ⟨g++[.arr 7 [encM m] true false, .arr 2 [[I (if m.kind=4 then 3 else m.kind),I m.num]] true false], ?_⟩
  simp -implicitDefEqProofs only [Z4C,Z08,c1,decide_true,Z00,if_true,ic,ld,bq7,sq7,Z07,Nat.zero_add,lq0,Z06,em,Bool.true_xor,Bool.false_xor,Bool.not_true,Bool.false_eq_true,if_false,lq1,lq2,bd,bq2,sq2]
  by_cases k1:m.kind=1
  ·have q1:(m.kind==1)=true:=by simpa using k1
   simp -implicitDefEqProofs only [q1,if_true,lq4,lq5,lq6,Z07,Nat.zero_add,Z1l,Z1m,Z1n,Z1d,Z1e,Z1o,Z1p,Z1q,Z1r,Z1s,Z1t,Z1u,Z1v,Z1w,Z1x,Z1y,Z1z,Z1A,Z1B,Z1C,Z1D,of_j9,dj4,cond_true,Z1W,Z4m,Z0I,hw]
   simp [stepF,hm,k1]
  have q1:(m.kind==1)=false:=by simpa using k1
  by_cases k2:m.kind=2
  ·have q2:(m.kind==2)=true:=by simpa using k2
   simp -implicitDefEqProofs only [q1,q2,Bool.false_eq_true,if_false,if_true,lq5,Z07,Nat.zero_add,Z1l,Z1m,Z1n,Z1d,Z1e,Z1o,Z1p,Z1q,Z1r,Z1s,Z1t,Z1u,Z1v,Z1w,Z1x,Z1y,Z1z,Z1A,Z1B,Z1C,Z1D,of_j9,Z1W,Z4m,Z0I,hw]
   simp [stepF,hm,k1,k2]
  have q2:(m.kind==2)=false:=by simpa using k2
  by_cases k3:m.kind=3
  ·have q3:(m.kind==3)=true:=by simpa using k3
   have dj:disjAll [(1,4)] [([],[]),(idsOf (AV.ptr (g.length+3) 0 6 1),[]),([],[]),([],[]),([2],[2])]=true:=by simp [disjAll,disj2,idsOf]
   simp -implicitDefEqProofs only [q1,q2,q3,Bool.false_eq_true,if_false,if_true,lq6,Z07,Nat.zero_add,Z1l,Z1m,Z1n,Z1d,Z1e,Z1o,Z1p,Z1q,Z1r,Z1s,Z1t,Z1u,Z1v,Z1w,Z1x,Z1y,Z1z,Z1A,Z1B,Z1C,Z1D,of_j9,dj,cond_true,Z1W,Z4m,Z0I,hw]
   simp [stepF,hm,k1,k2,k3]
  have q3:(m.kind==3)=false:=by simpa using k3
  by_cases k4:m.kind=4
  ·have q4:(m.kind==4)=true:=by simpa using k4
   simp -implicitDefEqProofs only [q1,q2,q3,q4,Bool.false_eq_true,if_false,if_true,Z07,Nat.zero_add,sq20,of_j9,Z1W,Z4m,Z0I,hw]
   simp [stepF,hm,k1,k2,k3,k4]
  have q4:(m.kind==4)=false:=by simpa using k4
  by_cases k5:m.kind=5
  ·have q5:(m.kind==5)=true:=by simpa using k5
   simp -implicitDefEqProofs only [q1,q2,q3,q4,q5,Bool.false_eq_true,if_false,if_true,Z1W,Z4m,Z0I,hw]
   simp [stepF,hm,k1,k2,k3,k4,k5]
  have q5:(m.kind==5)=false:=by simpa using k5
  simp only [k4,if_false]
  simp -implicitDefEqProofs only [q1,q2,q3,q4,q5,Bool.false_eq_true,if_false,if_true,of_j9,Z1W,Z4m,Z0I,hw]
  simp [stepF,hm,k1,k2,k3,k4,k5]
 ·have em:(m.mv==mv)=false:=by simpa using hm
  have en':m.mv≠mv:=hm
  refine ⟨g++[.arr 7 [encM m] true false], ?_⟩
  simp -implicitDefEqProofs only [Z4C,Z08,c1,decide_true,Z00,if_true,ic,ld,bq7,sq7,Z07,Nat.zero_add,lq0,Z06,em,Bool.true_xor,Bool.not_false,Z1W,Z4m,Z0I,hw,stepF,en',ne_eq,not_false_eq_true]
theorem of_L6 {β:Type} {T:Tab} {D:DTab} {N:Nat} {x0:AV→AV→AV→AV→AV→AV→Hp→Option β} {X:Option β} {l:List Msg} {b:Bool} {mv:Int} {o0:AObj} (hl:l.length<1000000) (hx:∀g,x0 (I mv) (.ptr 0 0 0 1) (.mp 1) (.ptr 2 0 0 1) (B (folF mv l).en) (I (folF mv l).an) (o0 :: .map (kvT fI (folF mv l).cnt) :: .arr 7 [encDo (folF mv l).d] true false::g)=X):∀(n i:Nat) (g:Hp),i≤l.length→l.length<i+n→
  Z3k Try.prog T D N x0 n (I mv) (.ptr 0 0 0 1) (.mp 1) (.ptr 2 0 0 1) (B (folF mv (l.take i)).en) (I (folF mv (l.take i)).an) (.lst 7 b (l.map encM)) (I l.length) (I i) (o0 :: .map (kvT fI (folF mv (l.take i)).cnt) :: .arr 7 [encDo (folF mv (l.take i)).d] true false::g)=X:=by
 intro n
 induction n with
 | zero=>intro i g h1 h2;omega
 | succ n ih=>
  intro i g h1 h2
  show Z4C Try.prog T D N (Z3k Try.prog T D N x0 n) x0 _ _ _ _ _ _ _ _ _ _=_
  rcases Nat.lt_or_ge i l.length with hi | hi
  ·have hm:l[i]? = some l[i]:=List.getElem?_eq_getElem hi
   obtain ⟨g',e⟩:=of_b6 (T:=T) (D:=D) (N:=N) (xn:=Z3k Try.prog T D N x0 n) (x0:=x0) (b:=b) (mv:=mv) (s:=folF mv (l.take i)) (o0:=o0) (g:=g) hl hm
   rw [e]
   have hs:stepF mv (folF mv (l.take i)) l[i]=folF mv (l.take (i+1)):=by
    unfold folF
    rw [Z8n hm,List.foldl_append]
    rfl
   rw [hs]
   exact ih (i+1) g' (by omega) (by omega)
  ·have:i=l.length:=by omega
   subst this
   have c1:¬((l.length:Int)<(l.length:Int)):=by omega
   rw [List.take_length]
   simp -implicitDefEqProofs only [Z4C,Z08,c1,decide_false,Z00,Bool.false_eq_true,if_false]
   exact hx g
theorem of_L5 {T:Tab} {D:DTab} {N:Nat} {x3:AV→AV→AV→AV→Hp→Option AV} {xr:AV→Hp→Option AV} {X:Option AV} {mv:Int} {en an:AV} {c:List ((Int × Int) × Int)} {d:Docu} {id:Nat}
  (h3:(c.any fun e=>decide (1<e.2))=false→∀z t,x3 (.ptr 0 0 0 1) (.ptr 2 0 0 1) en an (.arr 7 [zM] true false::z :: .arr 7 [encDo d] true false::t)=X) (hr:(c.any fun e=>decide (1<e.2))=true→∀z z2 t,xr (.ptr 0 0 0 1) (.arr 7 [encDo (confD mv)] true false::z::z2::t)=X):
  ∀(n:Nat) (seen:List Nat) (t:Hp),(leftIt c.length seen).length<n→(∀j ∈ seen,∀e,c[j]? = some e→¬1<e.2)→(.arr 7 [zM] true false :: .map (kvT fI c) :: .arr 7 [encDo d] true false::t:Hp)[id]? = some (.iter 1 c.length seen)→
  Z4l Try.prog T D N x3 xr n (I mv) (.ptr 0 0 0 1) (.ptr 2 0 0 1) en an (.it id) (.arr 7 [zM] true false :: .map (kvT fI c) :: .arr 7 [encDo d] true false::t)=X:=by
 intro n
 induction n with
 | zero=>intro seen t h1;omega
 | succ n ih=>
  intro seen t h1 hseen hid
  have hn:(kvT fI c).length=c.length:=by simp [kvT]
  have hid3:∃q,id=q+3:=by
   match id,hid with
   | 0,hid=>simp at hid
   | 1,hid=>simp at hid
   | 2,hid=>simp at hid
   | q+3,_=>exact ⟨q,rfl⟩
  obtain ⟨q,rfl⟩:=hid3
  have hset:∀o,(.arr 7 [zM] true false :: .map (kvT fI c) :: .arr 7 [encDo d] true false::t:Hp).set (q+3) o = .arr 7 [zM] true false :: .map (kvT fI c) :: .arr 7 [encDo d] true false::t.set q o:=fun o=>rfl
  have hql:q<t.length:=by simpa using (List.getElem?_eq_some_iff.1 hid).1
  show ZcM Try.prog T D N (Z4l Try.prog T D N x3 xr n) x3 xr _ _ _ _ _ _ _=_
  refine ZvP hid rfl hn _ (fun h0 => ?_) fun j hj => ?_
  ·simp -implicitDefEqProofs only [Z15,List.getElem?_cons_zero,Z00,Bool.false_eq_true,if_false]
   refine h3 ?_ _ _
   rw [List.any_eq_false]
   intro e he
   obtain ⟨j,hj,rfl⟩:=List.getElem_of_mem he
   have:j ∉ leftIt c.length seen:=by rw [h0];simp
   rw [Zdp] at this
   have hs:j ∈ seen:=by
    rcases Decidable.em (j ∈ seen) with h | h
    ·exact h
    ·exact absurd ⟨hj,h⟩ this
   simpa using hseen j hs _ (List.getElem?_eq_getElem hj)
  ·obtain ⟨hjl,hjs⟩:=Zdp.1 hj
   have hcj:c[j]? = some c[j]:=List.getElem?_eq_getElem hjl
   have hkj:(kvT fI c)[j]? = some (keyT c[j].1,fI c[j].2):=by simp [kvT,hjl]
   rw [hset]
   have en1:∀k:Go.AM.K AV,entryK (.it (q+3)) (.arr 7 [zM] true false :: .map (kvT fI c) :: .arr 7 [encDo d] true false::t.set q (.iter 1 c.length (seen++[j]))) k=k (.tup [keyAV (keyT c[j].1),I c[j].2]):=fun k=>ZvQ (seen:=seen) (n:=c.length) (j:=j) (h := .arr 7 [zM] true false :: .map (kvT fI c) :: .arr 7 [encDo d] true false::t.set q (.iter 1 c.length (seen++[j]))) (id:=q+3) (m:=1) (by simp [hql]) rfl hn hkj k
   have bc:∀k:Go.AM.K AV,buildK [.s (.int .i64 0), .s (.int .i64 0), .s (.int .i64 0), .s (.int .i64 0), .s (.int .i64 0), .s (.int .i64 0), .s (.int .i64 0)] [(some (0,1),I mv),(some (1,1), .s (.int .i64 5))] k=k (.agg [I mv,I 5,I 0,I 0,I 0,I 0,I 0]):=fun k=>rfl
   simp -implicitDefEqProofs only [Z15,List.getElem?_cons_zero,Z00,if_true]
   rw [en1]
   simp -implicitDefEqProofs only [Z15,List.getElem?_cons_zero,List.getElem?_cons_succ,Z00,Z0L,bc,ew7_0]
   by_cases h2:1<c[j].2
   ·rw [if_pos (by simpa using h2)]
    exact hr (List.any_eq_true.2 ⟨c[j],List.getElem_mem hjl,by simpa using h2⟩) _ _ _
   ·rw [if_neg (by simpa using h2)]
    refine ih (seen++[j]) _ (by have:=ZvN hj;omega) (fun i hi e he => ?_) (by simp [hql])
    rcases List.mem_append.1 hi with hi | hi
    ·exact hseen i hi e he
    ·simp only [List.mem_singleton] at hi
     subst hi
     rw [hcj] at he
     injection he with he
     rw [← he];exact h2
theorem Ziu {α:Type}:∀(c:List ((Int × Int) × α)) (p:Int × Int) (x:α),(updT c p x).length≤c.length+1
 | [],p,x=>by simp [updT]
 | (q,y)::c,p,x=>by
  have:=Ziu c p x
  simp only [updT]
  split<;>simp<;>omega
theorem ZwA (mv:Int) (s:Fol) (m:Msg):(stepF mv s m).cnt.length≤s.cnt.length+1:=by
 unfold stepF
 repeat' split
 all_goals first | exact Ziu _ _ _ | (simp;done)
theorem Ziv (mv:Int):∀(l:List Msg) (s:Fol),(l.foldl (stepF mv) s).cnt.length≤s.cnt.length+l.length
 | [],s=>by simp
 | m::l,s=>by
  have h1:=Ziv mv l (stepF mv s m)
  have h2:=ZwA mv s m
  simp only [List.foldl_cons,List.length_cons]
  omega
theorem ZwB (l:List Msg) (b:Bool) (mv:Int) (hl:l.length<1000000) (h:Hp):Z8c [.lst 7 b (l.map encM),I mv] h=some (.agg (encDo (docF mv l)),h):=by
 refine Zus (v := .agg (encDo (docF mv l))) rfl ?_ h
 simp only [nrm,nrmC]
 have b0:∀k:Go.AM.K AV,buildK [.s (.int .i64 0), .s (.int .i64 0), .s (.int .i64 0), .s (.int .i64 0), .s (.int .i64 0), .s (.int .i64 0), .s (.int .i64 0)] [(some (0,1),I mv)] k=k (.agg (encDo (noneD mv))):=fun k=>rfl
 have mk:∀(o:AObj) (k:AV→Hp→Option AV),effK (some (.mp (List.length [o]),EN (.map []))) [o] k=k (.mp 1) [o, .map []]:=fun o k=>rfl
 simp -implicitDefEqProofs only [Z9X,bx7_0,mk,b0,bx7_2,encDo,noneD,ew7_2,Z0d,List.length_map]
 have key:=of_L6 (T:=Z4Y) (D:=Z4X) (N:=NN) (x0:=fun w121_1 w121_4 w121_5 w121_6 w121_7 w121_8 h=>Z5v Try.prog Z4Y Z4X NN (fun v g=>cvt false g v) w121_1 w121_4 w121_5 w121_6 w121_7 w121_8 h) (X:=some (AV.agg (encDo (docF mv l)))) (l:=l) (b:=b) (mv:=mv) (o0 := .arr 7 [zM] true false) hl ?_ NN 0 [] (by omega) (by have:=NN_ge;omega)
 ·exact key
 ·intro g
  have b1:∀k:Go.AM.K AV,buildK zM [(some (0,1),I mv)] k=k (.agg (encDo (noneD mv))):=fun k=>rfl
  unfold docF
  have hcl:(folF mv l).cnt.length≤l.length:=by have:=Ziv mv l (begF mv);simpa [begF,folF] using this
  generalize folF mv l=s at *
  obtain ⟨⟨d0,d1,d2,d3,d4,d5,d6⟩,en,an,c⟩:=s
  simp -implicitDefEqProofs only [Z5v,Z07,Nat.zero_add,encDo,Z1d,Z06,Bool.false_xor,Z00,b1]
  by_cases h1:d1=0
  ·subst h1
   simp -implicitDefEqProofs only [beq_self_eq_true,if_true,encDo,noneD,ew7_0,lw7_0,endF]
   rfl
  ·have e1:(d1==0)=false:=by simpa using h1
   have rg:∀(o2:AObj) (k:AV→Hp→Option AV),effK (rngE (.mp 1) (.arr 7 [zM] true false :: .map (kvT fI c)::o2::g) (.arr 7 [zM] true false :: .map (kvT fI c)::o2::g:Hp).length) (.arr 7 [zM] true false :: .map (kvT fI c)::o2::g) k=k (.it (g.length+3)) (.arr 7 [zM] true false :: .map (kvT fI c)::o2::(g++[.iter 1 c.length []])):=fun o2 k=>by
    have:(kvT fI c).length=c.length:=by simp [kvT]
    simp [rngE,effK,ap,this]
   simp -implicitDefEqProofs only [e1,Bool.false_eq_true,if_false,rg]
   refine of_L5 (d:=⟨d0,d1,d2,d3,d4,d5,d6⟩) (c:=c) (fun hc z t => ?_) (fun hc z z2 t => ?_) NN [] _ ?_ (by simp) ?_
   ·simp -implicitDefEqProofs only [Z9W,Z06,Bool.false_xor,Z00,encDo,Z07,Nat.zero_add,Z1e,Z9V,ZgG,lw7_2,ew7_0,lw7_0,endF,h1,if_false,hc,Bool.false_eq_true]
    by_cases h2:an=0
    ·subst h2;rfl
    ·have e2:(an==0)=false:=by simpa using h2
     simp only [e2,h2,if_false,Bool.false_eq_true]
     cases en<;>rfl
   ·simp -implicitDefEqProofs only [encDo,confD,lw7_0,endF,h1,if_false,hc,if_true]
    rfl
   ·have:=List.length_filter_le (fun j => !([]:List Nat).contains j) (List.range c.length)
    rw [List.length_range] at this
    have hN:=NN_ge
    unfold leftIt
    simp only at hcl
    omega
   ·exact get3
end Go.AM


namespace Go.AM
open Go.Proofs
set_option linter.unusedVariables false
set_option linter.unusedSimpArgs false
set_option linter.constructorNameAsVariable false
set_option maxRecDepth 20000
def ofk (mv k:Int) (l:List Msg):List Msg:=l.filter fun m=>m.mv==mv&&m.kind==k
theorem Z02 (mv k:Int) (l:List Msg) (m:Msg):ofk mv k (l++[m])=if m.mv=mv∧m.kind=k then ofk mv k l++[m] else ofk mv k l:=by
 unfold ofk
 rw [List.filter_append]
 by_cases h:m.mv=mv∧m.kind=k
 ·simp [h]
 ·rw [if_neg h]
  have:(m.mv==mv&&m.kind==k)=false:=by
   rw [Bool.eq_false_iff];intro q;simp at q;exact h q
  simp [this]
theorem ZbT {mv k:Int} {l:List Msg} {m:Msg}:m ∈ ofk mv k l↔m ∈ l∧m.mv=mv∧m.kind=k:=by unfold ofk;simp
def docS (mv:Int) (l:List Msg):Docu:=
 match (ofk mv 1 l).getLast? with
 | none=>noneD mv
 | some d=>
  if 1<(ofk mv 1 l).length∨1<(ofk mv 3 l).length+(ofk mv 4 l).length∨¬((ofk mv 2 l).map (·.num)).Nodup then confD mv
  else ⟨mv,if ofk mv 3 l=[]∧ofk mv 4 l=[] then 1 else if ofk mv 5 l≠[] then 4 else if ofk mv 4 l=[] then 2 else 3,d.frm,match (ofk mv 2 l).getLast? with | some c=>c.to | none=>d.to,d.alc,(((ofk mv 3 l).getLast?).map (·.alc)).getD 0,(ofk mv 2 l).length⟩
theorem Z6p {m:Msg} (h:checkM m=0):1≤m.kind∧m.kind≤5∧1≤m.mv∧m.mv≤1073741824∧formM m=true:=by
 unfold checkM at h
 split at h
 ·simp at h
 ·rename_i hr
  split at h
  ·rename_i hf
   simp [rangeM] at hr
   exact ⟨by omega,by omega,by omega,by omega,hf⟩
  ·simp at h
theorem ZdC {m:Msg} (h:checkM m=0):m.kind=1∨m.kind=3∨m.kind=4∨m.kind=5→m.num=0:=by
 obtain ⟨-, -, -, -,hf⟩:=Z6p h
 rintro (k | k | k | k)<;>simp [formM,k] at hf<;>simp_all
theorem ZbU {a b:Msg} (h:ltM a b=true):a.mv≤b.mv∧(a.mv=b.mv→a.kind≤b.kind∧(a.kind=b.kind→a.num≤b.num)):=by
 unfold ltM cellsM at h
 simp only [ZcU,Bool.or_eq_true,Bool.and_eq_true,decide_eq_true_eq] at h
 omega
def partM (m:Msg):Option (Int × Int):=if m.kind=5 then none else if m.kind=4 then some (3,m.num) else some (m.kind,m.num)
abbrev keysD {α:Type} (c:List ((Int × Int) × α)):Prop:=c.Pairwise fun a b=>a.1≠b.1
theorem Ziw {α:Type}:∀ {c:List ((Int × Int) × α)} {p:Int × Int} {x:α} {e:(Int × Int) × α},e ∈ updT c p x→e=(p,x)∨e ∈ c
 | [],p,x,e,h=>by simp [updT] at h;exact .inl h
 | (q,y)::c,p,x,e,h=>by
  simp only [updT] at h
  split at h
  ·rcases List.mem_cons.1 h with h | h
   ·exact .inl h
   ·exact .inr (by simp [h])
  ·rcases List.mem_cons.1 h with h | h
   ·exact .inr (by simp [h])
   ·rcases Ziw h with h | h
    ·exact .inl h
    ·exact .inr (by simp [h])
theorem Zix {α:Type}:∀ {c:List ((Int × Int) × α)} (p:Int × Int) (x:α),keysD c→keysD (updT c p x)
 | [],p,x,h=>by simp [updT]
 | (q,y)::c,p,x,h=>by
  rw [keysD,List.pairwise_cons] at h
  simp only [updT]
  split
  ·rename_i e
   subst e
   rw [keysD,List.pairwise_cons]
   exact h
  ·rename_i e
   rw [keysD,List.pairwise_cons]
   refine ⟨fun z hz => ?_,Zix p x h.2⟩
   rcases Ziw hz with rfl | hz
   ·exact fun q=>e q.symm
   ·exact h.1 z hz
theorem Ziy {α:Type}:∀ {c:List ((Int × Int) × α)} {e:(Int × Int) × α},keysD c→e ∈ c→(fndT c e.1).map (·.2)=some e.2
 | [],e,_,h=>by simp at h
 | (q,y)::c,e,hk,h=>by
  rw [keysD,List.pairwise_cons] at hk
  rcases List.mem_cons.1 h with rfl | h
  ·simp [fndT]
  ·have:¬e.1=q:=fun q=>hk.1 e h q.symm
   simp only [fndT,if_neg this,Option.map_map]
   have ih:=Ziy hk.2 h
   rw [← ih]
   rfl
theorem ZwC (c:List ((Int × Int) × Int)) (p q:Int × Int):cntP (bumpP c p) q=if q=p then IntKind.i64.wrap (cntP c p+1) else cntP c q:=by
 unfold cntP bumpP
 rw [Zi1]
 split<;>rfl
theorem ZwD {c:List ((Int × Int) × Int)} (hk:keysD c):(c.any fun e=>decide (1<e.2))=true↔∃p,1<cntP c p:=by
 rw [List.any_eq_true]
 constructor
 ·rintro ⟨e,he,h⟩
  refine ⟨e.1, ?_⟩
  unfold cntP
  rw [Ziy hk he]
  simpa using h
 ·rintro ⟨p,h⟩
  unfold cntP at h
  cases hf:fndT c p with
  | none=>rw [hf] at h;simp at h
  | some r=>
   obtain ⟨j,x⟩:=r
   rw [hf] at h
   exact ⟨(p,x),List.mem_of_getElem? (Zdo hf).1,by simpa using h⟩
structure InF (mv:Int) (l:List Msg) (s:Fol):Prop where
 mve:s.d.mv=mv
 stage:s.d.stage=if ofk mv 1 l=[] then 0 else 1
 frm:s.d.frm=(((ofk mv 1 l).getLast?).map (·.frm)).getD 0
 sent:s.d.sent=(((ofk mv 1 l).getLast?).map (·.alc)).getD 0
 to:s.d.to=match (ofk mv 2 l).getLast? with | some c=>c.to | none=>(((ofk mv 1 l).getLast?).map (·.to)).getD 0
 got:s.d.got=(((ofk mv 3 l).getLast?).map (·.alc)).getD 0
 chg:s.d.chg=(ofk mv 2 l).length
 en:s.en = !(ofk mv 5 l).isEmpty
 an:s.an=if ofk mv 4 l≠[] then 3 else if ofk mv 3 l≠[] then 2 else 0
 cnt:∀p,cntP s.cnt p=(l.countP fun m=>m.mv==mv&&partM m==some p:Nat)
 keys:keysD s.cnt
theorem ZbV (mv k:Int) (l:List Msg):(ofk mv k l).length≤l.length:=List.length_filter_le _ _
theorem InF.step {mv:Int} {l:List Msg} {s:Fol} {m:Msg} (H:InF mv l s) (hs:Srt (l++[m])) (hm:checkM m=0) (hl:l.length<1000000):InF mv (l++[m]) (stepF mv s m):=by
 obtain ⟨k0,k5, -⟩:=Z6p hm
 have hlt:∀x ∈ l,ltM x m=true:=fun x hx=>by
  rw [Srt,List.pairwise_append] at hs
  exact hs.2.2 x hx m (by simp)
 by_cases hmv:m.mv=mv
 ·have noK:∀k,m.kind<k→ofk mv k l=[]:=fun k hk=>by
   rw [List.eq_nil_iff_forall_not_mem]
   intro x hx
   obtain ⟨h1,h2,h3⟩:=ZbT.1 hx
   have:=ZbU (hlt x h1)
   have h4:=this.2 (by omega)
   omega
  have wr:IntKind.i64.wrap (((ofk mv 2 l).length:Int)+1)=(((ofk mv 2 l).length+1:Nat):Int):=by
   have:=ZbV mv 2 l
   rw [wrap64 (by omega) (by omega)];rfl
  have cn:∀(p q:Int × Int) (b:Bool),((partM m==some q)=b)→cntP s.cnt q=(l.countP fun m=>m.mv==mv&&partM m==some q:Nat)→(((l++[m]).countP fun m=>m.mv==mv&&partM m==some q:Nat):Int)=cntP s.cnt q+if b=true then 1 else 0:=by
   intro p q b hb hc
   rw [List.countP_append,hc]
   simp [hmv,hb]
   cases b<;>rfl
  have wc:∀q,IntKind.i64.wrap (cntP s.cnt q+1)=cntP s.cnt q+1:=fun q=>by
   have h1:=H.cnt q
   have h2:=List.countP_le_length (p:=fun m:Msg=>m.mv==mv&&partM m==some q) (l:=l)
   rw [wrap64 (by omega) (by omega)]
  have cb:∀p,partM m=some p→∀q,cntP (bumpP s.cnt p) q=((l++[m]).countP fun m=>m.mv==mv&&partM m==some q:Nat):=fun p hp q=>by
   rw [ZwC]
   by_cases e:q=p
   ·subst e
    rw [if_pos rfl,wc,cn q q true (by simp [hp]) (H.cnt q)];simp
   ·rw [if_neg e,cn p q false (by simp [hp];exact fun h=>e h.symm) (H.cnt q)];simp
  have kb:∀p,keysD (bumpP s.cnt p):=fun p=>Zix p _ H.keys
  have hk:m.kind=1∨m.kind=2∨m.kind=3∨m.kind=4∨m.kind=5:=by omega
  rcases hk with k | k | k | k | k
  ·have e2:=noK 2 (by omega)
   have st:stepF mv s m={ s with d:={ s.d with stage:=1,frm:=m.frm,to:=m.to,sent:=m.alc },cnt:=bumpP s.cnt (m.kind,m.num) }:=by simp [stepF,hmv,k]
   rw [st]
   exact ⟨H.mve,by simp [Z02,hmv,k],by simp [Z02,hmv,k],by simp [Z02,hmv,k],by simp [Z02,hmv,k,e2],by simp [Z02,hmv,k,H.got],by simp [Z02,hmv,k,H.chg],by simp [Z02,hmv,k,H.en],by simp [Z02,hmv,k,H.an],cb _ (by simp [partM,k]),kb _⟩
  ·have st:stepF mv s m={ s with d:={ s.d with to:=m.to,chg:=IntKind.i64.wrap (s.d.chg+1) },cnt:=bumpP s.cnt (m.kind,m.num) }:=by simp [stepF,hmv,k]
   rw [st]
   exact ⟨H.mve,by simp [Z02,hmv,k,H.stage],by simp [Z02,hmv,k,H.frm],by simp [Z02,hmv,k,H.sent],by simp [Z02,hmv,k],by simp [Z02,hmv,k,H.got],by simp [Z02,hmv,k,H.chg,wr],by simp [Z02,hmv,k,H.en],by simp [Z02,hmv,k,H.an],cb _ (by simp [partM,k]),kb _⟩
  ·have e4:=noK 4 (by omega)
   have st:stepF mv s m={ s with d:={ s.d with got:=m.alc },an:=2,cnt:=bumpP s.cnt (m.kind,m.num) }:=by simp [stepF,hmv,k]
   rw [st]
   exact ⟨H.mve,by simp [Z02,hmv,k,H.stage],by simp [Z02,hmv,k,H.frm],by simp [Z02,hmv,k,H.sent],by simp [Z02,hmv,k,H.to],by simp [Z02,hmv,k],by simp [Z02,hmv,k,H.chg],by simp [Z02,hmv,k,H.en],by simp [Z02,hmv,k,e4],cb _ (by simp [partM,k]),kb _⟩
  ·have st:stepF mv s m={ s with an:=3,cnt:=bumpP s.cnt (3,m.num) }:=by simp [stepF,hmv,k]
   rw [st]
   exact ⟨H.mve,by simp [Z02,hmv,k,H.stage],by simp [Z02,hmv,k,H.frm],by simp [Z02,hmv,k,H.sent],by simp [Z02,hmv,k,H.to],by simp [Z02,hmv,k,H.got],by simp [Z02,hmv,k,H.chg],by simp [Z02,hmv,k,H.en],by simp [Z02,hmv,k],cb _ (by simp [partM,k]),kb _⟩
  ·have st:stepF mv s m={ s with en:=true }:=by simp [stepF,hmv,k]
   rw [st]
   exact ⟨H.mve,by simp [Z02,hmv,k,H.stage],by simp [Z02,hmv,k,H.frm],by simp [Z02,hmv,k,H.sent],by simp [Z02,hmv,k,H.to],by simp [Z02,hmv,k,H.got],by simp [Z02,hmv,k,H.chg],by simp [Z02,hmv,k],by simp [Z02,hmv,k,H.an],fun q=>by rw [cn q q false (by simp [partM,k]) (H.cnt q)];simp,H.keys⟩
 ·have st:stepF mv s m=s:=by simp [stepF,hmv]
  have ek:∀k,ofk mv k (l++[m])=ofk mv k l:=fun k=>by rw [Z02,if_neg (by simp [hmv])]
  rw [st]
  exact ⟨H.mve,by rw [ek];exact H.stage,by rw [ek];exact H.frm,by rw [ek];exact H.sent,by rw [ek,ek];exact H.to,by rw [ek];exact H.got,by rw [ek];exact H.chg,by rw [ek];exact H.en,by rw [ek,ek];exact H.an,fun p=>by rw [List.countP_append,H.cnt p];simp [hmv],H.keys⟩
theorem InF.beg (mv:Int):InF mv [] (begF mv):=⟨rfl,rfl,rfl,rfl,rfl,rfl,rfl,rfl,rfl,fun p=>rfl, .nil⟩
theorem InF.all {mv:Int} {l:List Msg} (hs:Srt l) (hv:∀m ∈ l,checkM m=0) (hl:l.length<1000000):∀i,i≤l.length→InF mv (l.take i) (folF mv (l.take i))
 | 0,_=>by rw [List.take_zero];exact InF.beg mv
 | i+1,hi=>by
  have ih:=InF.all (mv:=mv) hs hv hl i (by omega)
  have hx:l[i]? = some l[i]:=List.getElem?_eq_getElem (by omega)
  have ht:=Z8n hx
  have:folF mv (l.take (i+1))=stepF mv (folF mv (l.take i)) l[i]:=by
   unfold folF;rw [ht,List.foldl_append];rfl
  rw [this,ht]
  refine ih.step ?_ (hv _ (List.getElem_mem _)) (by simp;omega)
  rw [← ht]
  exact hs.sublist (List.take_sublist _ _)
theorem ZwE {mv:Int} {l:List Msg} (hv:∀m ∈ l,checkM m=0):(∃p,1<(l.countP fun m=>m.mv==mv&&partM m==some p))↔(1<(ofk mv 1 l).length∨1<(ofk mv 3 l).length+(ofk mv 4 l).length∨¬((ofk mv 2 l).map (·.num)).Nodup):=by
 have h1:(l.countP fun m=>m.mv==mv&&partM m==some (1,0))=(ofk mv 1 l).length:=by
  unfold ofk
  rw [← List.countP_eq_length_filter]
  refine List.countP_congr fun m hm => ?_
  have hk:=Z6p (hv m hm)
  have hn:=ZdC (hv m hm)
  simp only [Bool.and_eq_true,beq_iff_eq,partM]
  constructor
  ·rintro ⟨a,b⟩
   refine ⟨a, ?_⟩
   split at b
   ·simp at b
   ·split at b
    ·simp at b
    ·simp at b;exact b.1
  ·rintro ⟨a,b⟩
   exact ⟨a,by simp [b,hn (.inl b)]⟩
 have h3:(l.countP fun m=>m.mv==mv&&partM m==some (3,0))=(ofk mv 3 l).length+(ofk mv 4 l).length:=by
  unfold ofk
  rw [← List.countP_eq_length_filter, ← List.countP_eq_length_filter]
  clear h1
  induction l with
  | nil=>rfl
  | cons m l ih=>
   have ih:=ih fun x hx=>hv x (by simp [hx])
   have hn:=ZdC (hv m (by simp))
   simp only [List.countP_cons,ih]
   by_cases hmv:m.mv=mv
   ·by_cases q5:m.kind=5
    ·simp [partM,hmv,q5]
    ·by_cases q4:m.kind=4
     ·simp [partM,hmv,q4,hn (.inr (.inr (.inl q4)))];omega
     ·by_cases q3:m.kind=3
      ·simp [partM,hmv,q3,hn (.inr (.inl q3))];omega
      ·simp [partM,hmv,q5,q4,q3]
   ·simp [hmv]
 have h2:∀j,(l.countP fun m=>m.mv==mv&&partM m==some (2,j))=((ofk mv 2 l).map (·.num)).count j:=by
  intro j
  clear h1 h3
  rw [List.count_eq_countP,List.countP_map]
  unfold ofk
  rw [List.countP_filter]
  refine List.countP_congr fun m hm => ?_
  simp only [Bool.and_eq_true,beq_iff_eq,partM,Function.comp]
  constructor
  ·rintro ⟨a,b⟩
   split at b
   ·simp at b
   ·split at b
    ·simp at b
    ·simp at b;exact ⟨b.2,a,b.1⟩
  ·rintro ⟨a,b,c⟩
   exact ⟨b,by simp [c,a]⟩
 constructor
 ·rintro ⟨⟨a,b⟩,h⟩
  -- the key is one of these
  obtain ⟨m,hm,hp⟩:=List.countP_pos_iff.1 (by omega:0<l.countP fun m=>m.mv==mv&&partM m==some (a,b))
  simp only [Bool.and_eq_true,beq_iff_eq] at hp
  have hk:=Z6p (hv m hm)
  have hn:=ZdC (hv m hm)
  have hpp:=hp.2
  unfold partM at hpp
  split at hpp
  ·simp at hpp
  ·split at hpp
   ·rename_i q5 q4
    simp at hpp
    obtain ⟨rfl,rfl⟩:=hpp
    rw [hn (.inr (.inr (.inl q4))),h3] at h
    exact .inr (.inl h)
   ·rename_i q5 q4
    simp at hpp
    obtain ⟨rfl,rfl⟩:=hpp
    have:m.kind=1∨m.kind=2∨m.kind=3:=by omega
    rcases this with k | k | k
    ·rw [k,hn (.inl k),h1] at h;exact .inl h
    ·rw [k,h2] at h
     refine .inr (.inr fun hnd => ?_)
     rw [List.nodup_iff_count] at hnd
     have:=hnd m.num
     omega
    ·rw [k,hn (.inr (.inl k)),h3] at h;exact .inr (.inl h)
 ·rintro (h | h | h)
  ·exact ⟨(1,0),by rw [h1];exact h⟩
  ·exact ⟨(3,0),by rw [h3];exact h⟩
  ·rw [List.nodup_iff_count] at h
   simp only [Classical.not_forall] at h
   obtain ⟨j,hj⟩:=h
   exact ⟨(2,j),by rw [h2];omega⟩
theorem ZwF {mv:Int} {l:List Msg} (hs:Srt l) (hv:∀m ∈ l,checkM m=0) (hl:l.length<1000000):docF mv l=docS mv l:=by
 have H:=InF.all (mv:=mv) hs hv hl l.length (Nat.le_refl _)
 rw [List.take_length] at H
 unfold docF
 generalize folF mv l=s at *
 unfold endF docS
 cases hd:(ofk mv 1 l).getLast? with
 | none=>
  have h0:ofk mv 1 l=[]:=List.getLast?_eq_none_iff.1 hd
  rw [if_pos (by rw [H.stage,if_pos h0])]
 | some d=>
  have h0:ofk mv 1 l≠[]:=fun e=>by rw [e] at hd;simp at hd
  have hst:s.d.stage=1:=by rw [H.stage,if_neg h0]
  rw [if_neg (by rw [hst];decide)]
  simp only []
  have hc:(s.cnt.any fun e=>decide (1<e.2))=true↔(1<(ofk mv 1 l).length∨1<(ofk mv 3 l).length+(ofk mv 4 l).length∨¬((ofk mv 2 l).map (·.num)).Nodup):=by
   rw [ZwD H.keys, ← ZwE hv]
   constructor
   ·rintro ⟨p,h⟩;rw [H.cnt] at h;exact ⟨p,by omega⟩
   ·rintro ⟨p,h⟩;exact ⟨p,by rw [H.cnt];omega⟩
  by_cases hcc:(s.cnt.any fun e=>decide (1<e.2))=true
  ·rw [if_pos hcc,if_pos (hc.1 hcc)]
  ·rw [if_neg hcc,if_neg fun h=>hcc (hc.2 h)]
   obtain ⟨⟨d0,d1,d2,d3,d4,d5,d6⟩,en,an,c⟩:=s
   obtain ⟨q1,q2,q3,q4,q5,q6,q7,q8,q9, -, -⟩:=H
   simp only at q1 q2 q3 q4 q5 q6 q7 q8 q9 hst
   rw [hd] at q3 q4 q5
   subst q1 q3 q4 q6 q7 q8 q9 hst
   simp only [Option.map_some,Option.getD_some] at q5 ⊢
   subst q5
   by_cases r3:ofk d0 3 l=[]
   ·by_cases r4:ofk d0 4 l=[]
    ·simp [r3,r4]
    ·by_cases r5:ofk d0 5 l=[]
     ·simp [r3,r4,r5]
     ·simp [r3,r4,r5]
   ·by_cases r4:ofk d0 4 l=[]
    ·by_cases r5:ofk d0 5 l=[]
     ·simp [r3,r4,r5]
     ·simp [r3,r4,r5]
    ·by_cases r5:ofk d0 5 l=[]
     ·simp [r3,r4,r5]
     ·simp [r3,r4,r5]
end Go.AM


namespace Go.AM
open Go.Proofs
set_option linter.unusedVariables false
set_option linter.unusedSimpArgs false
set_option linter.constructorNameAsVariable false
set_option maxRecDepth 20000
attribute [local congr] Z0e Z0f Z0g Z0h Z0i Z0j Z0k Z0l Z0m Z0n Z0o Z0p Z0q Z0r Z0s Z0t Z0u Z0v Z0w Z0x Z0y Z0z Z0A Z0B Z0C Z0D Z0E
structure Frs where
 d:Docu
 dis:Int
 ans:Int
 en:Int
 cf:Bool
 rf:Bool
def stepR (mv:Int) (p:Msg) (s:Frs) (m:Msg):Frs:=
 if m.mv≠mv then s
 else if m.kind=1 then { s with d:={ s.d with frm:=m.frm,to:=m.to,sent:=m.alc },dis:=IntKind.i64.wrap (s.dis+1) }
 else if m.kind=2 then { s with d:={ s.d with to:=m.to,chg:=IntKind.i64.wrap (s.d.chg+1) },cf:=s.cf||(p.mv==mv&&p.kind==m.kind&&p.num==m.num) }
 else if m.kind=3 then { s with d:={ s.d with got:=m.alc },ans:=IntKind.i64.wrap (s.ans+1) }
 else if m.kind=4 then { s with ans:=IntKind.i64.wrap (s.ans+1),rf:=true }
 else { s with en:=IntKind.i64.wrap (s.en+1) }
def foldR (mv:Int):Msg→Frs→List Msg→Frs
 | _,s,[]=>s
 | p,s,m::l=>foldR mv m (stepR mv p s m) l
def begR (mv:Int):Frs:=⟨noneD mv,0,0,0,false,false⟩
def zeroM:Msg:=⟨0,0,0,0,0,0,0⟩
section
variable {β:Type}
variable {o0 o1:AObj} {g t:Hp} {m:Msg}
theorem le0 (h:Hp) (k:Go.AM.K β):ldK 1 false (.ep (encM m) 0) h k=k (I m.mv):=rfl
end
end Go.AM


namespace Go.AM
open Go.Proofs
set_option linter.unusedVariables false
set_option linter.unusedSimpArgs false
set_option linter.constructorNameAsVariable false
set_option maxRecDepth 20000
structure InR (mv:Int) (l:List Msg) (s:Frs):Prop where
 mve:s.d.mv=mv
 stage:s.d.stage=0
 frm:s.d.frm=(((ofk mv 1 l).getLast?).map (·.frm)).getD 0
 sent:s.d.sent=(((ofk mv 1 l).getLast?).map (·.alc)).getD 0
 to:s.d.to=match (ofk mv 2 l).getLast? with | some c=>c.to | none=>(((ofk mv 1 l).getLast?).map (·.to)).getD 0
 got:s.d.got=(((ofk mv 3 l).getLast?).map (·.alc)).getD 0
 chg:s.d.chg=(ofk mv 2 l).length
 dis:s.dis=(ofk mv 1 l).length
 ans:s.ans=((ofk mv 3 l).length+(ofk mv 4 l).length:Nat)
 en:s.en=(ofk mv 5 l).length
 rf:s.rf = !(ofk mv 4 l).isEmpty
 cf:s.cf=decide (¬((ofk mv 2 l).map (·.num)).Nodup)
theorem ZwG {l:List Msg} {m p x:Msg} (hs:Srt (l++[m])) (hp:(zeroM::l).getLast? = some p) (hx:x ∈ l):p ∈ l∧(x=p∨ltM x p=true):=by
 rcases List.eq_nil_or_concat l with rfl | ⟨l',q,rfl⟩
 ·simp at hx
 ·rw [List.concat_eq_append] at *
  have:p=q:=by rw [← List.cons_append,List.getLast?_append] at hp;simpa using hp.symm
  subst this
  refine ⟨by simp, ?_⟩
  rcases List.mem_append.1 hx with hx | hx
  ·right
   rw [Srt,List.append_assoc,List.pairwise_append] at hs
   exact hs.2.2 x hx p (by simp)
  ·simp at hx;exact .inl hx
theorem InR.step {mv:Int} {l:List Msg} {s:Frs} {m p:Msg} (H:InR mv l s) (hs:Srt (l++[m])) (hm:checkM m=0) (hp:(zeroM::l).getLast? = some p) (h0:mv≠0) (hl:l.length<1000000):InR mv (l++[m]) (stepR mv p s m):=by
 obtain ⟨k0,k5, -⟩:=Z6p hm
 have hlt:∀x ∈ l,ltM x m=true:=fun x hx=>by
  rw [Srt,List.pairwise_append] at hs
  exact hs.2.2 x hx m (by simp)
 by_cases hmv:m.mv=mv
 ·have noK:∀k,m.kind<k→ofk mv k l=[]:=fun k hk=>by
   rw [List.eq_nil_iff_forall_not_mem]
   intro x hx
   obtain ⟨h1,h2,h3⟩:=ZbT.1 hx
   have:=ZbU (hlt x h1)
   have h4:=this.2 (by omega)
   omega
  have wr:∀k,IntKind.i64.wrap (((ofk mv k l).length:Int)+1)=((ofk mv k l).length:Int)+1:=fun k=>by
   have:=ZbV mv k l
   rw [wrap64 (by omega) (by omega)]
  have wa:IntKind.i64.wrap (((((ofk mv 3 l).length+(ofk mv 4 l).length:Nat)):Int)+1)=((((ofk mv 3 l).length+(ofk mv 4 l).length:Nat)):Int)+1:=by
   have h3:=ZbV mv 3 l
   have h4:=ZbV mv 4 l
   rw [wrap64 (by omega) (by omega)]
  have hk:m.kind=1∨m.kind=2∨m.kind=3∨m.kind=4∨m.kind=5:=by omega
  rcases hk with k | k | k | k | k
  ·have e2:=noK 2 (by omega)
   have st:stepR mv p s m={ s with d:={ s.d with frm:=m.frm,to:=m.to,sent:=m.alc },dis:=IntKind.i64.wrap (s.dis+1) }:=by simp [stepR,hmv,k]
   rw [st]
   exact ⟨H.mve,H.stage,by simp [Z02,hmv,k],by simp [Z02,hmv,k],by simp [Z02,hmv,k,e2],by simp [Z02,hmv,k,H.got],by simp [Z02,hmv,k,H.chg],by simp [Z02,hmv,k,H.dis,wr],by simp [Z02,hmv,k,H.ans],by simp [Z02,hmv,k,H.en],by simp [Z02,hmv,k,H.rf],by simp [Z02,hmv,k,H.cf]⟩
  ·have st:stepR mv p s m={ s with d:={ s.d with to:=m.to,chg:=IntKind.i64.wrap (s.d.chg+1) },cf:=s.cf||(p.mv==mv&&p.kind==m.kind&&p.num==m.num) }:=by simp [stepR,hmv,k]
   rw [st]
   refine ⟨H.mve,H.stage,by simp [Z02,hmv,k,H.frm],by simp [Z02,hmv,k,H.sent],by simp [Z02,hmv,k],by simp [Z02,hmv,k,H.got],by simp [Z02,hmv,k,H.chg,wr],by simp [Z02,hmv,k,H.dis],by simp [Z02,hmv,k,H.ans],by simp [Z02,hmv,k,H.en],by simp [Z02,hmv,k,H.rf], ?_⟩
   rw [Z02,if_pos ⟨hmv,k⟩,List.map_append,H.cf]
   rw [Bool.eq_iff_iff]
   simp only [Bool.or_eq_true,Bool.and_eq_true,beq_iff_eq,decide_eq_true_eq]
   rw [List.nodup_append]
   have key:(p.mv=mv∧p.kind=m.kind)∧p.num=m.num↔∃x ∈ ofk mv 2 l,x.num=m.num:=by
    constructor
    ·rintro ⟨⟨h1,h2⟩,h3⟩
     have hpl:p ∈ l:=by
      rcases List.eq_nil_or_concat l with rfl | ⟨l',q,rfl⟩
      ·simp at hp;subst hp;exact absurd h1.symm h0
      ·rw [List.concat_eq_append, ← List.cons_append,List.getLast?_append] at hp
       have:q=p:=by simpa using hp
       simp [this]
     exact ⟨p,ZbT.2 ⟨hpl,h1,by omega⟩,h3⟩
    ·rintro ⟨x,hx,h3⟩
     obtain ⟨h1,h2,h4⟩:=ZbT.1 hx
     obtain ⟨hpl,hxp⟩:=ZwG hs hp h1
     rcases hxp with rfl | hxp
     ·exact ⟨⟨h2,by omega⟩,h3⟩
     ·have a1:=ZbU hxp
      have a2:=ZbU (hlt p hpl)
      omega
   constructor
   ·rintro (h | h)
    ·exact fun q=>h q.1
    ·obtain ⟨x,hx,hxn⟩:=key.1 h
     intro q
     exact q.2.2 x.num (List.mem_map.2 ⟨x,hx,rfl⟩) m.num (by simp) hxn
   ·intro h
    by_cases hn:((ofk mv 2 l).map (·.num)).Nodup
    ·right
     refine key.2 ?_
     rcases Classical.em (∃x ∈ ofk mv 2 l,x.num=m.num) with h2 | h2
     ·exact h2
     ·refine absurd ⟨hn,by simp, ?_⟩ h
      intro a ha b hb hab
      obtain ⟨x,hx,rfl⟩:=List.mem_map.1 ha
      simp at hb
      exact h2 ⟨x,hx,by rw [hab,hb]⟩
    ·exact .inl hn
  ·have st:stepR mv p s m={ s with d:={ s.d with got:=m.alc },ans:=IntKind.i64.wrap (s.ans+1) }:=by simp [stepR,hmv,k]
   rw [st]
   exact ⟨H.mve,H.stage,by simp [Z02,hmv,k,H.frm],by simp [Z02,hmv,k,H.sent],by simp [Z02,hmv,k,H.to],by simp [Z02,hmv,k],by simp [Z02,hmv,k,H.chg],by simp [Z02,hmv,k,H.dis],by rw [H.ans,wa,Z02,Z02,if_pos ⟨hmv,k⟩,if_neg (by omega),List.length_append];simp;omega,by simp [Z02,hmv,k,H.en],by simp [Z02,hmv,k,H.rf],by simp [Z02,hmv,k,H.cf]⟩
  ·have st:stepR mv p s m={ s with ans:=IntKind.i64.wrap (s.ans+1),rf:=true }:=by simp [stepR,hmv,k]
   rw [st]
   exact ⟨H.mve,H.stage,by simp [Z02,hmv,k,H.frm],by simp [Z02,hmv,k,H.sent],by simp [Z02,hmv,k,H.to],by simp [Z02,hmv,k,H.got],by simp [Z02,hmv,k,H.chg],by simp [Z02,hmv,k,H.dis],by rw [H.ans,wa,Z02,Z02,if_neg (by omega),if_pos ⟨hmv,k⟩,List.length_append];simp;omega,by simp [Z02,hmv,k,H.en],by simp [Z02,hmv,k],by simp [Z02,hmv,k,H.cf]⟩
  ·have st:stepR mv p s m={ s with en:=IntKind.i64.wrap (s.en+1) }:=by simp [stepR,hmv,k]
   rw [st]
   exact ⟨H.mve,H.stage,by simp [Z02,hmv,k,H.frm],by simp [Z02,hmv,k,H.sent],by simp [Z02,hmv,k,H.to],by simp [Z02,hmv,k,H.got],by simp [Z02,hmv,k,H.chg],by simp [Z02,hmv,k,H.dis],by simp [Z02,hmv,k,H.ans],by simp [Z02,hmv,k,H.en,wr],by simp [Z02,hmv,k,H.rf],by simp [Z02,hmv,k,H.cf]⟩
 ·have st:stepR mv p s m=s:=by simp [stepR,hmv]
  have ek:∀k,ofk mv k (l++[m])=ofk mv k l:=fun k=>by rw [Z02,if_neg (by simp [hmv])]
  rw [st]
  exact ⟨H.mve,H.stage,by rw [ek];exact H.frm,by rw [ek];exact H.sent,by rw [ek,ek];exact H.to,by rw [ek];exact H.got,by rw [ek];exact H.chg,by rw [ek];exact H.dis,by rw [ek,ek];exact H.ans,by rw [ek];exact H.en,by rw [ek];exact H.rf,by rw [ek];exact H.cf⟩
theorem InR.beg (mv:Int):InR mv [] (begR mv):=⟨rfl,rfl,rfl,rfl,rfl,rfl,rfl,rfl,rfl,rfl,rfl,rfl⟩
theorem InR.all {mv:Int} (h0:mv≠0):∀(post pre:List Msg) (p:Msg) (s:Frs),Srt (pre++post)→(∀m ∈ post,checkM m=0)→(pre++post).length<1000000→(zeroM::pre).getLast? = some p→InR mv pre s→InR mv (pre++post) (foldR mv p s post)
 | [],pre,p,s,_,_,_,_,H=>by simpa [foldR] using H
 | m::post,pre,p,s,hs,hv,hl,hp,H=>by
  have e:pre++m::post=(pre++[m])++post:=by simp
  rw [e] at hs hl ⊢
  refine InR.all h0 post (pre++[m]) m (stepR mv p s m) hs (fun x hx=>hv x (by simp [hx])) hl (by rw [← List.cons_append,List.getLast?_append];simp) (H.step ?_ (hv m (by simp)) hp h0 (by simp at hl;omega))
  exact hs.sublist (List.sublist_append_left _ _)
end Go.AM


namespace Go.AM
open Go.Proofs
set_option linter.unusedVariables false
set_option linter.unusedSimpArgs false
set_option linter.constructorNameAsVariable false
set_option maxRecDepth 20000
attribute [local congr] Z0e Z0f Z0g Z0h Z0i Z0j Z0k Z0l Z0m Z0n Z0o Z0p Z0q Z0r Z0s Z0t Z0u Z0v Z0w Z0x Z0y Z0z Z0A Z0B Z0C Z0D Z0E
theorem ZwH {l:List Msg} (h:errM l=0):(normL l).length≤64∧∀m ∈ normL l,checkM m=0:=by
 obtain ⟨h1,h2⟩:=Z6n.1 h
 exact ⟨Nat.le_trans (Z6l l) h1,fun m hm=>h2 m (Z51.1 hm)⟩
def allG (n:List Msg):Int→List Msg→List Docu
 | _,[]=>[]
 | p,m::l=>if m.mv≠p then docS m.mv n::allG n m.mv l else allG n p l
theorem ZdD (n:List Msg):∀(l:List Msg) (p:Int),(allG n p l).length≤l.length
 | [],p=>by simp [allG]
 | m::l,p=>by
  have h1:=ZdD n l m.mv
  have h2:=ZdD n l p
  simp only [allG]
  split<;>simp<;>omega
def allS (l:List Msg):List Docu:=if errM l=0 then allG (normL l) 0 (normL l) else []
theorem Ziz (l:List Msg):(allS l).length≤l.length:=by
 have h1:=ZdD (normL l) (normL l) 0
 have h2:=Z6l l
 unfold allS
 split
 ·omega
 ·simp
section
variable {β:Type}
theorem bxh {h:Hp} (k:AV→Hp→Option β):effK (boxE 7 (.agg zM) h.length) h k=k (.ptr h.length 0 0 1) (h++[.arr 7 [zM] true false]):=Z12 7 h.length (.agg zM) h k rfl rfl rfl
theorem sth {h:Hp} {m:Msg} (k:AV→Hp→Option β):effK (stE 7 (.ptr h.length 0 0 1) (.agg (encM m)) (h++[.arr 7 [zM] true false])) (h++[.arr 7 [zM] true false]) k=k .u (h++[.arr 7 [encM m] true false]):=by
 rw [Z0H (v := .u) (id:=h.length) (o := .arr 7 [encM m] true false) (ft:=[h.length]) (by simp [encM]),Z3f];rfl
theorem lh0 {h:Hp} {m:Msg} (k:Go.AM.K β):ldK 1 false (.ptr h.length 0 0 1) (h++[.arr 7 [encM m] true false]) k=k (I m.mv):=by simp [encM]
theorem bsD {h:Hp} {d:Docu} (k:AV→Hp→Option β):effK (bsE 7 zM 1 [(0, .agg (encDo d))] h.length) h k=k (.sl 7 h.length 0 1 1 true) (h++[.arr 7 [encDo d] true false]):=by simp [bsE,fillS,encDo,effK,ap]
theorem ZwI {h:Hp} {v:AV} {o:List Docu} {d:Docu} (O:Gro 7 encDo h v o) (hl:o.length<1000000):∃v' h',(∀ {β:Type} (k:AV→Hp→Option β),effK (appE 7 56 v (.sl 7 h.length 0 1 1 true) (h++[.arr 7 [encDo d] true false]) (h++[AObj.arr 7 [encDo d] true false]).length) (h++[.arr 7 [encDo d] true false]) k=k v' h')∧Gro 7 encDo h' v' (o++[d]):=by
 obtain ⟨v',e,a1,a2, -⟩:=Gro.snocE (h:=h++[AObj.arr 7 [encDo d] true false]) (by_:=56) (m:=h.length) (z:=d) (b:=true) (O.app [AObj.arr 7 [encDo d] true false]) (by simp) (fun q=>by have:=O.lt q;omega) (by simp [encDo]) (by omega)
 exact ⟨v',_,fun k=>by rw [a1];rfl,a2⟩
end
theorem ZwJ {N:Nat} {x0:AV→Hp→Option AV} {X:Option AV} {n:List Msg} {b:Bool} (hs:Srt n) (hv:∀m ∈ n,checkM m=0) (hl:n.length<1000) (hx:∀v h,Gro 7 encDo h v (allG n 0 n)→x0 v h=X):∀(k:Nat) (pre post:List Msg) (p:Int) (o:List Docu) (v:AV) (h:Hp),n=pre++post→post.length<k→(pre=[]→p=0)→(∀q,pre.getLast? = some q→p=q.mv)→o++allG n p post=allG n 0 n→o.length≤pre.length→Gro 7 encDo h v o→
  Z42 Try.prog Z20 Z3t N x0 k (.lst 7 b (n.map encM)) v (.lst 7 b (n.map encM)) (I n.length) (I pre.length) h=X:=by
 intro k
 induction k with
 | zero=>intro pre post p o v h _ h2;omega
 | succ k ih=>
  intro pre post p o v h hc hn hp0 hp ho hol O
  show Z73 Try.prog Z20 Z3t N (Z42 Try.prog Z20 Z3t N x0 k) x0 _ _ _ _ _ h=_
  cases post with
  | nil=>
   have:n=pre:=by simpa using hc
   subst this
   have c1:¬((n.length:Int)<(n.length:Int)):=by omega
   simp -implicitDefEqProofs only [Z73,Z08,c1,decide_false,Z00,Bool.false_eq_true,if_false]
   simp only [allG,List.append_nil] at ho
   exact hx v h (by rw [← ho];exact O)
  | cons m post=>
   have hi:pre.length<n.length:=by rw [hc];simp
   have hci:n[pre.length]? = some m:=by rw [hc];simp
   have hmn:m ∈ n:=by rw [hc];simp
   obtain ⟨-, -,hm1, -⟩:=Z6p (hv m hmn)
   have hlt:((pre.length:Int)<(n.length:Int)):=by omega
   have hw:IntKind.i64.wrap ((pre.length:Int)+1)=(((pre++[m]).length:Nat):Int):=by rw [wrap64 (by omega) (by omega)];simp
   have ic:∀k:Go.AM.K AV,iaK 7 (.lst 7 b (n.map encM)) (I pre.length) k=k (.ep (encM m) 0):=fun k=>Z0P pre.length rfl hci k
   have ld:∀k:Go.AM.K AV,ldK 7 true (.ep (encM m) 0) h k=k (.agg (encM m)):=fun k=>rfl
   have O1:=O.app [AObj.arr 7 [encM m] true false]
   have cnd:∀(K:AV→Hp→Option AV),grpK false (.s (.bool ((pre.length:Int)==0))) (h++[.arr 7 [encM m] true false]) (fun k16=>arithK .sub (I pre.length) (.s (.int .i64 1)) fun x19=>iaK 7 (.lst 7 b (n.map encM)) x19 fun x20=>faK 0 x20 fun x21=>ldK 1 false x21 (h++[.arr 7 [encM m] true false]) fun x22=>eqK Try.prog true 3 (I m.mv) x22 (h++[.arr 7 [encM m] true false]) fun x23=>k16 x23 (h++[.arr 7 [encM m] true false])) K=K (B (!(m.mv==p))) (h++[.arr 7 [encM m] true false]):=fun K=>by
    rcases List.eq_nil_or_concat pre with e | ⟨pre',q,e⟩
    ·subst e
     have:(m.mv==p)=false:=by rw [hp0 rfl];simp;omega
     rw [this]
     rfl
    ·rw [List.concat_eq_append] at e
     subst e
     have hq:p=q.mv:=hp q (by simp)
     have e0:(((pre'++[q]).length:Nat):Int)≠0:=by simp;omega
     have e0':((((pre'++[q]).length:Nat):Int)==0)=false:=by simpa using e0
     have w1:IntKind.i64.wrap ((((pre'++[q]).length:Nat):Int)-1)=((pre'.length:Nat):Int):=by
      have hpl:(pre'++[q]).length=pre'.length+1:=by simp
      rw [hpl] at hi ⊢
      rw [wrap64 (by omega) (by omega)];omega
     have gq:n[pre'.length]? = some q:=by rw [hc];simp
     have iq:∀k:Go.AM.K AV,iaK 7 (.lst 7 b (n.map encM)) (I pre'.length) k=k (.ep (encM q) 0):=fun k=>Z0P pre'.length rfl gq k
     simp -implicitDefEqProofs only [e0',Z5d,Z5c,w1,iq,Z1F,Nat.add_zero,le0,Z06,Bool.true_xor,hq]
   simp -implicitDefEqProofs only [Z73,Z08,hlt,decide_true,Z00,if_true,ic,ld,bxh,sth,Z06,Bool.false_xor,Z07,Nat.zero_add,lh0,cnd]
   by_cases hmp:m.mv=p
   ·have e:(m.mv==p)=true:=by simpa using hmp
    simp -implicitDefEqProofs only [e,Bool.not_true,Bool.false_eq_true,if_false,Z9v,ZcE,Z0I,hw]
    simp only [allG,hmp,ne_eq,not_true_eq_false,if_false] at ho
    refine ih (pre++[m]) post p o v _ (by simpa using hc) (by simpa using hn) (by simp) (fun q hq => ?_) ho (by simp;omega) O1
    simp at hq;rw [← hq];exact hmp.symm
   ·have e:(m.mv==p)=false:=by simpa using hmp
    have fo:=fun h=>ZwB n b m.mv (by omega) h
    rw [ZwF hs hv (by omega)] at fo
    have hoN:o.length<1000000:=by omega
    obtain ⟨v',h',g1,g2⟩:=ZwI (d:=docS m.mv n) O1 hoN
    simp -implicitDefEqProofs only [e,Bool.not_false,if_true,Zuv,Z03,fo,bsD,g1,Z9v,ZcE,Z0I,hw]
    simp only [allG,if_pos hmp] at ho
    exact ih (pre++[m]) post m.mv (o++[docS m.mv n]) v' h' (by simpa using hc) (by simpa using hn) (by simp) (fun q hq=>by simp at hq;rw [hq]) (by simpa using ho) (by simp;omega) g2
theorem ZwK (l:List Msg) (b:Bool) (hl:l.length<1000):∃w,(∀st,Z4z Try.prog Z20 Z3t NN (fun v g=>cvt st g v) (SLm b l) []=some (.tup [w,I (errM l)]))∧nrm (.l 7) w = .lst 7 (allS l).isEmpty ((allS l).map encDo):=by
 have fN:=ZvJ l b (by omega)
 have x0:∀k:Go.AM.K AV,exK (normR b l) 0 k=k (if errM l=0 then SLm b (normL l) else .lst 7 true []):=fun k=>rfl
 have x1:∀k:Go.AM.K AV,exK (normR b l) 1 k=k (I (errM l)):=fun k=>rfl
 by_cases he:errM l=0
 ·have hn:=Z6l l
  obtain ⟨w,hw1,hw2⟩:∃w,(∀st v h,Gro 7 encDo h v (allG (normL l) 0 (normL l))→Z72 Try.prog Z20 Z3t NN (fun v g=>cvt st g v) v h=some (.tup [w,I 0]))∧nrm (.l 7) w = .lst 7 (allG (normL l) 0 (normL l)).isEmpty ((allG (normL l) 0 (normL l)).map encDo):=by
   by_cases hz:allG (normL l) 0 (normL l)=[]
   ·refine ⟨nilS,fun st v h O => ?_,by rw [hz];rfl⟩
    rcases O with ⟨-,rfl⟩ | ⟨h1, -⟩
    ·rfl
    ·exact absurd hz h1
   ·refine ⟨.lst 7 false ((allG (normL l) 0 (normL l)).map encDo),fun st v h O => ?_, ?_⟩
    ·rcases O with ⟨h1, -⟩ | ⟨h1,k,rfl,h2⟩
     ·exact absurd h1 hz
     ·have:=Z0X (st:=st) (full:=false) h2 (n:=(allG (normL l) 0 (normL l)).length) (fr:=(allG (normL l) 0 (normL l)).length) (by simp) (by simp) (Z0U fun x=>by cases st<;>simp [encDo,isS])
      simp only [Z72,Z3g,Z17,Z16,this,cvt_s]
      rfl
    ·have:(allG (normL l) 0 (normL l)).isEmpty=false:=by simpa using hz
     rw [this];rfl
  refine ⟨w,fun st => ?_,by unfold allS;rw [if_pos he];exact hw2⟩
  simp -implicitDefEqProofs only [Z4z,ZhH,Z03,fN,x0,x1,he,Z06,beq_self_eq_true,Bool.true_xor,Bool.not_true,Z00,Bool.false_eq_true,if_false,if_true,SLm,Z0d,List.length_map]
  exact ZwJ (Z8p l) (ZwH he).2 (by omega) (hw1 st) NN [] (normL l) 0 [] nilS [] rfl (by have:=NN_ge;omega) (fun _=>rfl) (by simp) rfl (by simp) .nil
 ·have e:(errM l==0)=false:=by simpa using he
  refine ⟨nilS,fun st => ?_,by unfold allS;rw [if_neg he];rfl⟩
  simp -implicitDefEqProofs only [Z4z,ZhH,Z03,fN,x0,x1,Z06,e,Bool.true_xor,Bool.not_false,Z00,if_true]
  rfl
def allV (l:List Msg):AV := .tup [.lst 7 (allS l).isEmpty ((allS l).map encDo),I (errM l)]
theorem ZwL (l:List Msg) (b:Bool) (hl:l.length<1000) (h:Hp):Z8d [SLm b l] h=some (allV l,h):=by
 obtain ⟨w,hw1,hw2⟩:=ZwK l b hl
 refine (Zuz (a0:=SLm b l) rfl (hw1 false) h).trans ?_
 show some (AV.tup [nrm (.l 7) w,I (errM l)],h)=_
 rw [hw2]
 rfl
end Go.AM


namespace Go.AM
open Go.Proofs
set_option linter.unusedVariables false
set_option linter.unusedSimpArgs false
set_option linter.constructorNameAsVariable false
set_option maxRecDepth 20000
attribute [local congr] Z0e Z0f Z0g Z0h Z0i Z0j Z0k Z0l Z0m Z0n Z0o Z0p Z0q Z0r Z0s Z0t Z0u Z0v Z0w Z0x Z0y Z0z Z0A Z0B Z0C Z0D Z0E
end Go.AM


namespace Go.AM
open Go.Proofs
set_option linter.unusedVariables false
set_option linter.unusedSimpArgs false
set_option linter.constructorNameAsVariable false
set_option maxRecDepth 20000
attribute [local congr] Z0e Z0f Z0g Z0h Z0i Z0j Z0k Z0l Z0m Z0n Z0o Z0p Z0q Z0r Z0s Z0t Z0u Z0v Z0w Z0x Z0y Z0z Z0A Z0B Z0C Z0D Z0E
theorem ZwM (b1 b2:Bool) (i:Inbx) (hl:i.heard.length<100000) (hm:i.msgs.length<100000) (H:Hp):Z4S [ib b1 b2 i] H=some (.agg [I i.node, .sl 2 (H.length+3) 0 i.heard.length i.heard.length false, .sl 7 (H.length+5) 0 i.msgs.length i.msgs.length false],H++[bxI b1 b2 i, .arr 3 [[I i.node, .sl 2 (H.length+3) 0 i.heard.length i.heard.length false, .sl 7 (H.length+5) 0 i.msgs.length i.msgs.length false]] true false, .arr 2 [] true false, .arr 2 (i.heard.map encH) true false, .arr 7 [] true false, .arr 7 (i.msgs.map encM) true false]):=by
 rw [Ztk]
 obtain ⟨node,heard,msgs⟩:=i
 dsimp only at hl hm ⊢
 obtain ⟨LH,hLH⟩:∃LH:AV,LH=SL 2 encH b1 heard:=⟨_,rfl⟩
 obtain ⟨LM,hLM⟩:∃LM:AV,LM=SL 7 encM b2 msgs:=⟨_,rfl⟩
 obtain ⟨o0,ho0⟩:∃o0:AObj,o0 = .arr 3 [[I node,LH,LM]] true false:=⟨_,rfl⟩
 have eb:bxI b1 b2 ⟨node,heard,msgs⟩=o0:=by rw [ho0,hLH,hLM]
 rw [eb,show ib b1 b2 ⟨node,heard,msgs⟩ = .agg [I node,LH,LM] by rw [hLH,hLM]]
 obtain ⟨n,hn⟩:∃n,n=H.length:=⟨_,rfl⟩
 rw [← hn]
 have x0:∀k:AV→Hp→Option (AV × Hp),effK (boxE 3 (.agg [I node,LH,LM]) H.length) H k=k (.ptr n 0 0 1) (H++[o0]):=fun k=>by rw [hn,ho0];exact bx3 rfl (by rw [hLH,hLM];rfl) k
 have hl1:∀o:AObj,(H++[o]).length=n+1:=fun o=>by rw [hn];simp
 have hl2:∀o p:AObj,(H++[o,p]).length=n+2:=fun o p=>by rw [hn];simp
 have hl3:∀o p q:AObj,(H++[o,p,q]).length=n+3:=fun o p q=>by rw [hn];simp
 have hl4:∀o p q r:AObj,(H++[o,p,q,r]).length=n+4:=fun o p q r=>by rw [hn];simp
 have hl5:∀o p q r s:AObj,(H++[o,p,q,r,s]).length=n+5:=fun o p q r s=>by rw [hn];simp
 have gt:∀(l:List AObj) (j:Nat),(H++l)[n+j]? = l[j]? := fun l j=>by rw [hn,List.getElem?_append_right (by omega),show H.length+j-H.length=j by omega]
 have st':∀(l:List AObj) (j:Nat) (o:AObj),(H++l).set (n+j) o=H++l.set j o:=fun l j o=>by rw [hn,List.set_append_right _ _ (by omega),show H.length+j-H.length=j by omega]
 have x1:∀k:AV→Hp→Option (AV × Hp),effK (boxE 3 (.agg zI) (H++[o0]).length) (H++[o0]) k=k (.ptr (n+1) 0 0 1) (H++[o0, .arr 3 [zI] true false]):=fun k=>by
  refine (bx3 rfl rfl k).trans ?_
  rw [hl1,List.append_assoc];rfl
 have l0:∀(l:List AObj) (k:Go.AM.K (AV × Hp)),ldK 1 false (.ptr n 0 0 1) (H++o0::l) k=k (I node):=fun l k=>by rw [Z01,show n=n+0 from rfl,gt];rw [ho0];rfl
 have l1:∀(l:List AObj) (k:Go.AM.K (AV × Hp)),ldK 1 false (.ptr n 0 1 1) (H++o0::l) k=k LH:=fun l k=>by rw [Z01,show n=n+0 from rfl,gt];rw [ho0,hLH];rfl
 have l2:∀(l:List AObj) (k:Go.AM.K (AV × Hp)),ldK 1 false (.ptr n 0 2 1) (H++o0::l) k=k LM:=fun l k=>by rw [Z01,show n=n+0 from rfl,gt];rw [ho0,hLM];rfl
 have d1:∀k:AV→Hp→Ent→Option (AV × Hp),effD (bsE 2 zH 0 [] (H++[o0, .arr 3 [zI] true false]).length) (H++[o0, .arr 3 [zI] true false]) k=k (.sl 2 (n+2) 0 0 0 true) (H++[o0, .arr 3 [zI] true false, .arr 2 [] true false]) ([],[n+2]):=fun k=>by
  rw [hl2];simp [bsE,fillS,effD,ap,wrOf,hl2]
 have rH:∀h:Hp,readSl h LH=some (heard.map encH):=fun h=>by rw [hLH];rfl
 have rM:∀h:Hp,readSl h LM=some (msgs.map encM):=fun h=>by rw [hLM];rfl
 have aH:((heard.map encH).all fun e=>e.length==2)=true:=by rw [List.all_eq_true];intro e he;obtain ⟨x, -,rfl⟩:=List.mem_map.1 he;rfl
 have aM:((msgs.map encM).all fun e=>e.length==7)=true:=by rw [List.all_eq_true];intro e he;obtain ⟨x, -,rfl⟩:=List.mem_map.1 he;rfl
 have iH:idsOf LH=[]:=by rw [hLH];rfl
 have iM:idsOf LM=[]:=by rw [hLM];rfl
 have d2:∀k:AV→Hp→Ent→Option (AV × Hp),effD (appE 2 16 (.sl 2 (n+2) 0 0 0 true) LH (H++[o0, .arr 3 [zI] true false, .arr 2 [] true false]) (H++[o0,AObj.arr 3 [zI] true false, .arr 2 [] true false]).length) (H++[o0, .arr 3 [zI] true false, .arr 2 [] true false]) k=k (.sl 2 (n+3) 0 heard.length heard.length false) (H++[o0, .arr 3 [zI] true false, .arr 2 [] true false, .arr 2 (heard.map encH) true false]) ([n+2],[n+3]):=fun k=>by
  have:appE 2 16 (.sl 2 (n+2) 0 0 0 true) LH (H++[o0, .arr 3 [zI] true false, .arr 2 [] true false]) (n+3)=some (.sl 2 (n+3) 0 heard.length heard.length false,⟨[],[.arr 2 (heard.map encH) true false],[n+2]⟩):=by
   unfold appE
   rw [rH]
   simp only [gt]
   simp only [List.getElem?_cons_succ,List.getElem?_cons_zero,List.length_map,List.length_nil]
   rw [if_pos ⟨trivial,trivial,by omega,aH⟩,if_pos ⟨trivial,by omega, .inl trivial⟩]
   simp [iH]
  rw [hl3,this]
  simp [effD,ap,wrOf,hl3]
 have d3:∀k:AV→Hp→Ent→Option (AV × Hp),effD (bsE 7 [I 0,I 0,I 0,I 0,I 0,I 0,I 0] 0 [] (H++[o0, .arr 3 [zI] true false, .arr 2 [] true false, .arr 2 (heard.map encH) true false]).length) (H++[o0, .arr 3 [zI] true false, .arr 2 [] true false, .arr 2 (heard.map encH) true false]) k=k (.sl 7 (n+4) 0 0 0 true) (H++[o0, .arr 3 [zI] true false, .arr 2 [] true false, .arr 2 (heard.map encH) true false, .arr 7 [] true false]) ([],[n+4]):=fun k=>by
  rw [hl4];simp [bsE,fillS,effD,ap,wrOf,hl4]
 have d4:∀k:AV→Hp→Ent→Option (AV × Hp),effD (appE 7 56 (.sl 7 (n+4) 0 0 0 true) LM (H++[o0, .arr 3 [zI] true false, .arr 2 [] true false, .arr 2 (heard.map encH) true false, .arr 7 [] true false]) (H++[o0,AObj.arr 3 [zI] true false, .arr 2 [] true false, .arr 2 (heard.map encH) true false, .arr 7 [] true false]).length) (H++[o0, .arr 3 [zI] true false, .arr 2 [] true false, .arr 2 (heard.map encH) true false, .arr 7 [] true false]) k=k (.sl 7 (n+5) 0 msgs.length msgs.length false) (H++[o0, .arr 3 [zI] true false, .arr 2 [] true false, .arr 2 (heard.map encH) true false, .arr 7 [] true false, .arr 7 (msgs.map encM) true false]) ([n+4],[n+5]):=fun k=>by
  have:appE 7 56 (.sl 7 (n+4) 0 0 0 true) LM (H++[o0, .arr 3 [zI] true false, .arr 2 [] true false, .arr 2 (heard.map encH) true false, .arr 7 [] true false]) (n+5)=some (.sl 7 (n+5) 0 msgs.length msgs.length false,⟨[],[.arr 7 (msgs.map encM) true false],[n+4]⟩):=by
   unfold appE
   rw [rM]
   simp only [gt]
   simp only [List.getElem?_cons_succ,List.getElem?_cons_zero,List.length_map,List.length_nil]
   rw [if_pos ⟨trivial,trivial,by omega,aM⟩,if_pos ⟨trivial,by omega, .inl trivial⟩]
   simp [iM]
  rw [hl5,this]
  simp [effD,ap,wrOf,hl5]
 have bK:∀k:Go.AM.K (AV × Hp),buildK zI [(some (0,1),I node),(some (1,1), .sl 2 (n+3) 0 heard.length heard.length false),(some (2,1), .sl 7 (n+5) 0 msgs.length msgs.length false)] k=k (.agg [I node, .sl 2 (n+3) 0 heard.length heard.length false, .sl 7 (n+5) 0 msgs.length msgs.length false]):=fun k=>rfl
 have d5:∀k:AV→Hp→Ent→Option (AV × Hp),effD (stE 3 (.ptr (n+1) 0 0 1) (.agg [I node, .sl 2 (n+3) 0 heard.length heard.length false, .sl 7 (n+5) 0 msgs.length msgs.length false]) (H++[o0, .arr 3 [zI] true false, .arr 2 [] true false, .arr 2 (heard.map encH) true false, .arr 7 [] true false, .arr 7 (msgs.map encM) true false])) (H++[o0, .arr 3 [zI] true false, .arr 2 [] true false, .arr 2 (heard.map encH) true false, .arr 7 [] true false, .arr 7 (msgs.map encM) true false]) k=k .u (H++[o0, .arr 3 [[I node, .sl 2 (n+3) 0 heard.length heard.length false, .sl 7 (n+5) 0 msgs.length msgs.length false]] true false, .arr 2 [] true false, .arr 2 (heard.map encH) true false, .arr 7 [] true false, .arr 7 (msgs.map encM) true false]) ([n+1],[n+1]):=fun k=>by
  have:stE 3 (.ptr (n+1) 0 0 1) (.agg [I node, .sl 2 (n+3) 0 heard.length heard.length false, .sl 7 (n+5) 0 msgs.length msgs.length false]) (H++[o0, .arr 3 [zI] true false, .arr 2 [] true false, .arr 2 (heard.map encH) true false, .arr 7 [] true false, .arr 7 (msgs.map encM) true false])=some (.u,⟨[(n+1, .arr 3 [[I node, .sl 2 (n+3) 0 heard.length heard.length false, .sl 7 (n+5) 0 msgs.length msgs.length false]] true false)],[],[n+1]⟩):=by
   rw [Z0G,gt]
   simp [putAt]
  rw [Z0a this,st']
  rfl
 have dj:disjAll [(1,2),(2,4),(1,5),(1,6),(2,6),(4,6),(5,6),(2,8),(5,8),(6,8),(1,9)] [([],[]),(idsOf (.ptr n 0 0 1),[]),([],[n+2]),([],[]),(idsOf (.ptr n 0 1 1),[]),([n+2],[n+3]),([],[n+4]),([],[]),(idsOf (.ptr n 0 2 1),[]),([n+4],[n+5]),([],[]),([n+1],[n+1])]=true:=by
  simp [disjAll,disj2,idsOf]
 have lw:∀(l:List AObj) (o:AObj) (k:Go.AM.K (AV × Hp)),ldK 3 true (.ptr (n+1) 0 0 1) (H++o :: .arr 3 [[I node, .sl 2 (n+3) 0 heard.length heard.length false, .sl 7 (n+5) 0 msgs.length msgs.length false]] true false::l) k=k (.agg [I node, .sl 2 (n+3) 0 heard.length heard.length false, .sl 7 (n+5) 0 msgs.length msgs.length false]):=fun l o k=>by rw [Z01,gt];rfl
 simp -implicitDefEqProofs only [Z5i,x0,x1,Z07,Nat.zero_add,l0,d1,l1,d2,d3,l2,d4,bK,d5,dj,cond_true,lw]
theorem ZdE (b1 b2:Bool) (i:Inbx) (hl:i.heard.length<100000) (hm:i.msgs.length<100000) (h:Hp):Z6f [ib b1 b2 i] h=some (ib false false i,h):=by
 refine (Ztm (a0:=ib b1 b2 i) (v:=ib false false i) rfl ?_ h).trans rfl
 have hr:=ZwM b1 b2 i hl hm []
 have hK:=(Zdg (fun v g=>cvt false g v) (ib b1 b2 i) []).symm
 show Z5i Try.prog Z6e Z6d NN (fun v g=>cvt false g v) (ib b1 b2 i) []=_
 rw [hK,hr]
 show cvt false _ (.agg [I i.node, .sl 2 3 0 i.heard.length i.heard.length false, .sl 7 5 0 i.msgs.length i.msgs.length false])=_
 simp only [Z3x,Z17,Z16,cvt_s]
 rw [Z0X (st:=false) (es:=i.heard.map encH) (nl:=false) rfl (by simp) (by simp) (Z0U fun x=>by simp [encH]),Z0X (st:=false) (es:=i.msgs.map encM) (nl:=false) rfl (by simp) (by simp) (Z0U fun x=>by simp [encM])]
 rfl
end Go.AM


namespace Go.AM
open Go.Proofs
set_option linter.unusedVariables false
set_option linter.unusedSimpArgs false
set_option linter.constructorNameAsVariable false
set_option maxRecDepth 20000
attribute [local congr] Z0e Z0f Z0g Z0h Z0i Z0j Z0k Z0l Z0m Z0n Z0o Z0p Z0q Z0r Z0s Z0t Z0u Z0v Z0w Z0x Z0y Z0z Z0A Z0B Z0C Z0D Z0E
def lastLt (p:Option Hrd) (x:Hrd):Bool:=match p with | some q => !ltH q x | none=>false
theorem ZwN (node:Int) (p:Option Hrd) (x:Hrd) (r:List Hrd):chkH node p (x::r)=if (!isNode x.frm||decide (x.num<1)||decide (x.num > 1073741824))=true then 2 else if x.frm=node then 10 else if lastLt p x=true then 5 else chkH node (some x) r:=by
 rw [Zie]
 cases p with
 | none=>rfl
 | some q=>
  have:decide (cmpH q x≥0)=lastLt (some q) x:=by
   unfold lastLt ltH
   by_cases h:cmpH q x<0
   ·simp [h]
   ·simp [h];omega
  simp only [this]
end Go.AM


namespace Go.AM
open Go.RowKit
set_option linter.unusedVariables false
def mu0 (w:World):Mu:=⟨fun _ => .virt none,w,fun k=>k<w.heap.size⟩
theorem rel0 (w:World):Rel (mu0 w) [] w where
 obj:=fun id o h=>by simp at h
 sep:=fun i j o p b x c y d h=>by simp at h
 apart:=fun i sz es nil b x c h=>by simp at h
 imm:=fun k hk=>⟨hk,rfl,fun ⟨id,o,off,c,h,_⟩=>by simp at h⟩
theorem own0 (w:World) (b:Nat):¬Own (mu0 w) [] b:=fun ⟨id,o,off,c,h,_⟩=>by simp at h
theorem below0 {w w':World} {μ':Mu} {h':Hp} (s:Step (mu0 w) [] w μ' h' w'):Below w.heap.size w w':=
 ⟨s.frame.os,s.frame.tape,s.frame.output,s.frame.size,fun k hk=>s.frame.block k hk (own0 w k)⟩
theorem row_calls {P:Program} {f:FuncId} {F:Fun} {args:List AV} {h':Hp} {b:Bool} {W:World} {cargs:Array Value} (hc:CSound P f F) (hF:F args []=some (.s (.bool b),h')) (hv:VRs (mu0 W) [] args cargs.toList):
  Calls P f cargs W fun e W'=>e = .returned (.bool b)∧Below W.heap.size W W':=by
 refine (hc args [] _ h' hF (mu0 W) W cargs (rel0 W) hv).2.mono fun e W' => ?_
 rintro ⟨cv,μ',rfl,s,hr⟩
 simp only [VR] at hr
 exact ⟨by rw [hr.2],below0 s⟩

inductive Ty where
 | int (k:IntKind)
 | bool
 | str
 | sl (e:List Ty)
def tyFs (f:TypeId→Option (List Ty)) (size:TypeId→Nat):List Field→Nat→Option (List Ty)
 | [],_=>some []
 | x::l,pos=>match f x.type,tyFs f size l (pos+size x.type) with
  | some a,some b=>if x.offset=pos∧a.length=size x.type then some (a++b) else none
  | _,_=>none
def tyOf (P:Program):Nat→TypeId→Option (List Ty)
 | 0,_=>none
 | n+1,t=>match P.underlying t with
  | some .bool=>some [.bool]
  | some (.int k)=>some [.int k]
  | some .string=>some [.str]
  | some (.slice e)=>match tyOf P n e with
   | some l=>if l.length=P.cellsOf e∧0<l.length then some [.sl l] else none
   | none=>none
  | some (.struct fs)=>match tyFs (tyOf P n) P.cellsOf fs.toList 0 with
   | some l=>if l.length=P.cellsOf t then some l else none
   | none=>none
  | some (.array m e)=>match tyOf P n e with
   | some l=>if l.length=P.cellsOf e∧m * P.cellsOf e=P.cellsOf t then some (List.replicate m l).flatten else none
   | none=>none
  | _=>none
mutual
def HasT:Ty→AV→Prop
 | .int k,a=>∃n,a = .s (.int k n)∧(Lit.int k n).wf=true
 | .bool,a=>∃b,a = .s (.bool b)
 | .str,a=>∃s:ByteArray,a = .s (.string s)∧s.size≤maxLen
 | .sl ts,a=>∃nil es,a = .lst ts.length nil es∧(nil=true→es=[])∧es.length≤maxLen∧∀e ∈ es,HasTs ts e
def HasTs:List Ty→List AV→Prop
 | [],asl=>asl=[]
 | t::ts,asl=>∃a as',asl=a::as'∧HasT t a∧HasTs ts as'
end
theorem HasTs.app:∀ {ts us:List Ty} {asl bs:List AV},HasTs ts asl→HasTs us bs→HasTs (ts++us) (asl++bs)
 | [],us,asl,bs,h,k=>by simp only [HasTs] at h;subst h;exact k
 | t::ts,us,asl,bs,h,k=>by
  simp only [HasTs] at h
  obtain ⟨a,as',rfl,h1,h2⟩:=h
  simp only [List.cons_append,HasTs]
  exact ⟨a,_,rfl,h1,HasTs.app h2 k⟩
theorem HasTs.len:∀ {ts:List Ty} {asl:List AV},HasTs ts asl→asl.length=ts.length
 | [],asl,h=>by simp only [HasTs] at h;subst h;rfl
 | t::ts,asl,h=>by
  simp only [HasTs] at h
  obtain ⟨a,as',rfl,h1,h2⟩:=h
  simp [HasTs.len h2]
theorem HasT.ok:∀ {t:Ty} {a:AV},HasT t a→okC a=true
 | .int k,a,h=>by simp only [HasT] at h;obtain ⟨n,rfl,_⟩:=h;rfl
 | .bool,a,h=>by simp only [HasT] at h;obtain ⟨n,rfl⟩:=h;rfl
 | .str,a,h=>by simp only [HasT] at h;obtain ⟨n,rfl,_⟩:=h;rfl
 | .sl ts,a,h=>by simp only [HasT] at h;obtain ⟨n,es,rfl,_⟩:=h;rfl
theorem HasTs.ok:∀ {ts:List Ty} {asl:List AV},HasTs ts asl→∀x ∈ asl,okC x=true
 | [],asl,h,x,hx=>by simp only [HasTs] at h;subst h;simp at hx
 | t::ts,asl,h,x,hx=>by
  simp only [HasTs] at h
  obtain ⟨a,as',rfl,h1,h2⟩:=h
  rcases List.mem_cons.1 hx with rfl | hx
  ·exact h1.ok
  ·exact h2.ok x hx
theorem ZdF {μ:Mu} {h:Hp}:∀ {asl bs:List AV} {cs ds:List Value},VRs μ h asl cs→VRs μ h bs ds→VRs μ h (asl++bs) (cs++ds)
 | [],bs,cs,ds,h1,h2=>by simp only [VRs] at h1;subst h1;exact h2
 | a::asl,bs,cs,ds,h1,h2=>by
  simp only [VRs] at h1
  obtain ⟨v,vs,rfl,h3,h4⟩:=h1
  simp only [List.cons_append,VRs]
  exact ⟨v,_,rfl,h3,ZdF h4 h2⟩
section
variable {H:Type} {enc:TypeId × Value→H} {P:Program} {w:World} {base:Nat} {spare:Nat→Bool} {held:Bool}
def Opened (w:World) (ts:List Ty) (cs:List Value):Prop:=∃asl,HasTs ts asl∧VRs (mu0 w) [] asl cs∧∀u ∈ cs,u.oneCell'=true
theorem Z6q {t:Ty} {u:Value} {a:AV} (h1:HasT t a) (h2:VR (mu0 w) [] a u) (h3:u.oneCell'=true):Opened w [t] [u]:=
 ⟨[a],by simp only [HasTs];exact ⟨a,[],rfl,h1,rfl⟩,by simp only [VRs];exact ⟨u,[],rfl,h2,rfl⟩,by simpa using h3⟩
theorem ZiA {f:TypeId→Option (List Ty)} {g:TypeId→List Value→Prop} {cs:List Value} (hg:∀t ts cs',f t=some ts→g t cs'→Opened w ts cs'):∀(l:List Field) (pos:Nat) (ts:List Ty),tyFs f P.cellsOf l pos=some ts→
  (∀x ∈ l,g x.type ((cs.drop x.offset).take (P.cellsOf x.type)))→Opened w ts ((cs.drop pos).take ts.length)
 | [],pos,ts,h,_=>by
  simp only [tyFs,Option.some.injEq] at h
  subst h
  exact ⟨[],rfl,rfl,by simp⟩
 | x::l,pos,ts,h,hx=>by
  simp only [tyFs] at h
  split at h
  ·rename_i a b h1 h2
   split at h
   ·rename_i hc
    simp only [Option.some.injEq] at h
    subst h
    obtain ⟨h3,h4⟩:=hc
    obtain ⟨asl,p1,p2,p3⟩:=hg _ _ _ h1 (hx x (by simp))
    obtain ⟨bs,q1,q2,q3⟩:=ZiA hg l _ b h2 (fun y hy=>hx y (by simp [hy]))
    have e:(cs.drop pos).take (a++b).length=(cs.drop x.offset).take (P.cellsOf x.type)++(cs.drop (pos+P.cellsOf x.type)).take b.length:=by
     rw [List.length_append,h4,h3, ← List.drop_drop,List.take_add]
    rw [e]
    refine ⟨asl++bs,p1.app q1,ZdF p2 q2, ?_⟩
    intro u hu
    rcases List.mem_append.1 hu with hu | hu
    ·exact p3 u hu
    ·exact q3 u hu
   ·simp at h
  ·simp at h
theorem ZiB {ts:List Ty} {sz:Nat} {cs:List Value}:∀(n i0:Nat),(∀i,i<n→Opened w ts ((cs.drop ((i0+i) * sz)).take sz))→Opened w (List.replicate n ts).flatten ((cs.drop (i0 * sz)).take (n * sz))
 | 0,i0,_=>⟨[],rfl,by simp [VRs],by simp⟩
 | n+1,i0,h=>by
  obtain ⟨asl,p1,p2,p3⟩:=h 0 (by omega)
  obtain ⟨bs,q1,q2,q3⟩:=ZiB n (i0+1) (fun i hi=>by have:=h (i+1) (by omega);rwa [show i0+(i+1)=i0+1+i by omega] at this)
  have e:(cs.drop (i0 * sz)).take ((n+1) * sz)=(cs.drop (i0 * sz)).take sz++(cs.drop ((i0+1) * sz)).take (n * sz):=by
   rw [show (n+1) * sz=sz+n * sz by rw [Nat.add_mul];omega,show (i0+1) * sz=i0 * sz+sz by rw [Nat.add_mul];omega, ← List.drop_drop,List.take_add]
  rw [e,List.replicate_succ,List.flatten_cons]
  refine ⟨asl++bs,p1.app q1,ZdF p2 q2, ?_⟩
  intro u hu
  rcases List.mem_append.1 hu with hu | hu
  ·exact p3 u hu
  ·exact q3 u hu
theorem ZiC {ts:List Ty} {sz b:Nat} (hts:ts.length=sz):∀(n o:Nat),(∀i,i<n→∃cs,Opened w ts cs∧cs.length=sz∧∀j u,cs[j]? = some u→w.cell? ⟨b,o+i * sz+j,none⟩=some u)→
  ∃es vs,es.length=n∧(∀e ∈ es,HasTs ts e)∧VRf (mu0 w) [] es vs∧∀j u,vs[j]? = some u→w.cell? ⟨b,o+j,none⟩=some u∧u.oneCell'=true
 | 0,o,h=>⟨[],[],rfl,by simp,rfl,by simp⟩
 | n+1,o,h=>by
  obtain ⟨cs,⟨asl,h1,h2,h3⟩,h4,h5⟩:=h 0 (by omega)
  obtain ⟨es,vs,k1,k2,k3,k4⟩:=ZiC hts n (o+sz) (fun i hi=>by
   obtain ⟨cs',q1,q2,q3⟩:=h (i+1) (by omega)
   refine ⟨cs',q1,q2,fun j u hu => ?_⟩
   rw [← q3 j u hu]
   congr 2
   rw [Nat.add_mul];omega)
  refine ⟨asl::es,cs++vs,by simp [k1], ?_, ?_, ?_⟩
  ·intro e he
   rcases List.mem_cons.1 he with rfl | he
   ·exact h1
   ·exact k2 e he
  ·simp only [VRf];exact ⟨cs,vs,rfl,h2,k3⟩
  ·intro j u hj
   by_cases hlt:j<cs.length
   ·rw [List.getElem?_append_left hlt] at hj
    have:=h5 j u hj
    exact ⟨by simpa using this,h3 u (List.mem_of_getElem? hj)⟩
   ·rw [List.getElem?_append_right (by omega)] at hj
    have:=k4 _ _ hj
    rw [show o+sz+(j-cs.length)=o+j by omega] at this
    exact this
theorem ZwO {a:Addr} {v:Value} (h:w.cell? a=some v):a.block<w.heap.size:=by
 rcases Nat.lt_or_ge a.block w.heap.size with h1 | h1
 ·exact h1
 ·have:w.heap[a.block]? = none:=by simpa using h1
  simp [World.cell?,this] at h
theorem ZbW:∀(fuel n:Nat) (t:TypeId) (ts:List Ty) (cs:List Value) (x:DataW H × List MemPlace),tyOf P n t=some ts→DataW.trod enc P w base spare held fuel t cs=some x→Opened w ts cs
 | 0,n,t,ts,cs,x,_,h=>by simp [DataW.trod] at h
 | fuel+1,0,t,ts,cs,x,h0,_=>by simp [tyOf] at h0
 | fuel+1,n+1,t,ts,cs,x,h0,h=>by
  unfold tyOf at h0
  cases hu:P.underlying t with
  | none=>rw [hu] at h0;simp at h0
  | some T=>
   rw [hu] at h0
   cases T with
   | bool=>
    simp only [Option.some.injEq] at h0
    subst h0
    obtain ⟨b,rfl,_⟩:=DataW.trod_bool hu h
    exact Z6q (a := .s (.bool b)) (by simp [HasT]) (by simp [VR,gv]) rfl
   | int k=>
    simp only [Option.some.injEq] at h0
    subst h0
    obtain ⟨m,rfl,_,hw⟩:=DataW.trod_int hu h
    exact Z6q (a := .s (.int k m)) (by simp [HasT,hw]) (by simp [VR,gv]) rfl
   | string=>
    simp only [Option.some.injEq] at h0
    subst h0
    obtain ⟨s,rfl,_,hs⟩:=DataW.trod_string hu h
    exact Z6q (a := .s (.string s)) (by simp [HasT,hs]) (by simp [VR,gv]) rfl
   | slice e=>
    simp only at h0
    cases he:tyOf P n e with
    | none=>rw [he] at h0;simp at h0
    | some l=>
     rw [he] at h0
     simp only at h0
     split at h0
     ·rename_i hl
      simp only [Option.some.injEq] at h0
      subst h0
      rcases DataW.trod_slice hu h with ⟨rfl,_⟩ | ⟨a,len,cap,elems,rest,m,hm,rfl,_,hb,h1,h2,h3,h4,_,_⟩
      ·refine Z6q (a := .lst l.length true []) ?_ ?_ rfl
       ·simp only [HasT];exact ⟨true,[],rfl,fun _=>rfl,by simp,by simp⟩
       ·simp only [VR]
        exact ⟨none,0,rfl,by simp,by simp,rfl,fun _=>rfl,by simp,by simp⟩
      ·have hm':m=fuel:=by omega
       subst hm'
       have cell:∀i,i<len→∃cs,Opened w l cs∧cs.length=P.cellsOf e∧∀j,j<P.cellsOf e→w.cell? ((a.add (i * P.cellsOf e)).add j)=cs[j]? := by
        intro i hi
        have hi':=h4 i hi
        rw [List.getElem?_eq_getElem (by omega),Option.bind_eq_some_iff] at hi'
        obtain ⟨cs,q1,q2⟩:=hi'
        have q3:=World.cells?_some q1
        exact ⟨cs,ZbW m n e l cs _ he q2,q3.2.1,q3.2.2⟩
       obtain ⟨b,off,spot⟩:=a
       have hsp:len≠0→spot=none:=fun hn=>by
        obtain ⟨cs,_,q2,q3⟩:=cell 0 (by omega)
        have q4:=q3 0 (by omega)
        rw [List.getElem?_eq_getElem (by omega)] at q4
        simpa [Addr.add] using World.cell?_spot q4
       by_cases hn:len=0
       ·subst hn
        refine Z6q (a := .lst l.length false []) ?_ ?_ rfl
        ·simp only [HasT];exact ⟨false,[],rfl,fun _=>rfl,by simp,by simp⟩
        ·simp only [VR]
         exact ⟨_,cap,rfl,by simp,h2,rfl,by simp,by simp,by simp⟩
       ·have hs:=hsp hn
        subst hs
        obtain ⟨es,vs,k1,k2,k3,k4⟩:=ZiC (w:=w) (ts:=l) (sz:=P.cellsOf e) (b:=b) hl.1 len off (fun i hi=>by
         obtain ⟨cs,q1,q2,q3⟩:=cell i hi
         refine ⟨cs,q1,q2,fun j u hj => ?_⟩
         have hjl:=(List.getElem?_eq_some_iff.1 hj).1
         have:=q3 j (by omega)
         rw [hj] at this
         rw [← this,Go.WideShapes.add_plain,Go.WideShapes.add_plain])
        refine Z6q (a := .lst l.length false es) ?_ ?_ rfl
        ·simp only [HasT];exact ⟨false,es,rfl,by simp,by omega,k2⟩
        ·simp only [VR]
         refine ⟨_,cap,by rw [k1],by omega,h2,rfl,by simp,fun e' he'=>⟨(k2 e' he').len,(k2 e' he').ok⟩,fun _=>⟨b,off,vs,rfl, ?_,k3,k4⟩⟩
         obtain ⟨cs,q1,q2,q3⟩:=cell 0 (by omega)
         have q4:=q3 0 (by omega)
         rw [List.getElem?_eq_getElem (by omega)] at q4
         show b<w.heap.size
         rw [Go.WideShapes.add_plain,Go.WideShapes.add_plain] at q4
         exact ZwO q4
     ·simp at h0
   | struct fs=>
    simp only at h0
    cases he:tyFs (tyOf P n) P.cellsOf fs.toList 0 with
    | none=>rw [he] at h0;simp at h0
    | some l=>
     rw [he] at h0
     simp only at h0
     split at h0
     ·rename_i hl
      simp only [Option.some.injEq] at h0
      subst h0
      obtain ⟨xs,m,hm,_,h2,h3,h4⟩:=DataW.trod_struct hu h
      have hm':m=fuel:=by omega
      subst hm'
      have:=ZiA (w:=w) (P:=P) (f:=tyOf P n) (g:=fun t cs'=>∃y,DataW.trod enc P w base spare held m t cs'=some y) (cs:=cs) (fun t ts cs' q1 ⟨y,q2⟩=>ZbW m n t ts cs' y q1 q2) fs.toList 0 l he (fun y hy=>by
       obtain ⟨i,hi⟩:=List.getElem?_of_mem hy
       have hi2:fs[i]? = some y:=by simpa using hi
       have:=h4 i y hi2
       have hlt:i<xs.length:=by rw [h3];exact (Array.getElem?_eq_some_iff.1 hi2).1
       rw [List.getElem?_eq_getElem hlt] at this
       exact ⟨_,this⟩)
      rw [List.drop_zero,hl, ← h2,List.take_length] at this
      exact this
     ·simp at h0
   | array k e=>
    simp only at h0
    cases he:tyOf P n e with
    | none=>rw [he] at h0;simp at h0
    | some l=>
     rw [he] at h0
     simp only at h0
     split at h0
     ·rename_i hl
      simp only [Option.some.injEq] at h0
      subst h0
      obtain ⟨xs,m,hm,_,h2,h3,h4⟩:=DataW.trod_array hu h
      have hm':m=fuel:=by omega
      subst hm'
      have:=ZiB (w:=w) (ts:=l) (sz:=P.cellsOf e) (cs:=cs) k 0 (fun i hi=>by
       have h5:=h4 i hi
       rw [List.getElem?_eq_getElem (by omega)] at h5
       have h6:=ZbW m n e l _ _ he h5
       rwa [Nat.zero_add])
      rw [Nat.zero_mul,List.drop_zero,hl.2, ← h2,List.take_length] at this
      exact this
     ·simp at h0
   | _=>simp at h0
theorem open_agg {t:TypeId} {fs:Array Field} {r:Reach} {b:Nat} {v:Value} {d:DataW H} {ps:List MemPlace} {n:Nat} {ts:List Ty} (hu:P.underlying t=some (.struct fs)) (ht:tyOf P n t=some ts) (hval:Value.okWide P w r b t v)
  (hd:DataW.Trod enc P w base spare held t v d ps):∃asl,HasTs ts asl∧VR (mu0 w) [] (.agg asl) v:=by
 obtain ⟨cs,rfl,_⟩:=WideShapes.okWide_struct hu hval
 obtain ⟨fuel,hf⟩:=hd
 obtain ⟨asl,h1,h2,_⟩:=ZbW fuel n t ts _ _ ht hf
 exact ⟨asl,h1,by simp only [VR];exact ⟨cs,rfl,h2⟩⟩
end
theorem ZiD {n:Int} (h:(Lit.int .u64 n).wf=true):0≤n∧n≤18446744073709551615:=by
 simp [Lit.wf,IntKind.min,IntKind.max,IntKind.signed,IntKind.bits] at h;omega
theorem ZdG {α:Type} {ts:List Ty} {f:α→List AV} (hf:∀cs,HasTs ts cs→∃x,cs=f x) {a:AV} (h:HasT (.sl ts) a):∃(l:List α) (b:Bool),a = .lst ts.length (b&&l.isEmpty) (l.map f):=by
 simp only [HasT] at h
 obtain ⟨nil,es,rfl,hn,hm,he⟩:=h
 have:∃l:List α,es=l.map f:=by
  clear hn hm
  induction es with
  | nil=>exact ⟨[],rfl⟩
  | cons e es ih=>
   obtain ⟨x,hx⟩:=hf e (he e (by simp))
   obtain ⟨l,hl⟩:=ih (fun e' h'=>he e' (by simp [h']))
   exact ⟨x::l,by simp [hx,hl]⟩
 obtain ⟨l,rfl⟩:=this
 refine ⟨l,nil, ?_⟩
 cases nil with
 | false=>rfl
 | true=>
  have:l=[]:=by simpa using hn rfl
  subst this;rfl
end Go.AM


namespace Go.AM
open Go.Proofs
set_option linter.unusedVariables false
set_option linter.unusedSimpArgs false
set_option linter.constructorNameAsVariable false
set_option maxRecDepth 20000
attribute [local congr] Z0e Z0f Z0g Z0h Z0i Z0j Z0k Z0l Z0m Z0n Z0o Z0p Z0q Z0r Z0s Z0t Z0u Z0v Z0w Z0x Z0y Z0z Z0A Z0B Z0C Z0D Z0E
theorem ZwP {cs:List AV} (h:HasTs [.int .i64, .int .i64, .int .i64, .int .i64, .int .i64, .int .i64, .int .i64] cs):∃p:Msg,cs=encM p:=by
 simp only [HasTs,HasT] at h
 obtain ⟨_,_,rfl,⟨a,rfl,_⟩,_,_,rfl,⟨b,rfl,_⟩,_,_,rfl,⟨c,rfl,_⟩,_,_,rfl,⟨d,rfl,_⟩,_,_,rfl,⟨e,rfl,_⟩,_,_,rfl,⟨f,rfl,_⟩,_,_,rfl,⟨g,rfl,_⟩,rfl⟩:=h
 exact ⟨⟨a,b,c,d,e,f,g⟩,rfl⟩
theorem ZwQ {cs:List AV} (h:HasTs [.int .i64, .int .i64] cs):∃p:Hrd,cs=encH p:=by
 simp only [HasTs,HasT] at h
 obtain ⟨_,_,rfl,⟨a,rfl,_⟩,_,_,rfl,⟨b,rfl,_⟩,rfl⟩:=h
 exact ⟨⟨a,b⟩,rfl⟩
theorem has_Inbx {cs:List AV} (h:HasTs [.int .i64, .sl [.int .i64, .int .i64], .sl [.int .i64, .int .i64, .int .i64, .int .i64, .int .i64, .int .i64, .int .i64]] cs):∃(i:Inbx) (b1 b2:Bool),cs=cellsI b1 b2 i:=by
 obtain ⟨_,_,rfl,h1,_,_,rfl,h2,_,_,rfl,h3,rfl⟩:=h
 obtain ⟨n,rfl, -⟩:=h1
 obtain ⟨l,b1,rfl⟩:=ZdG (fun _ h=>ZwQ h) h2
 obtain ⟨m,b2,rfl⟩:=ZdG (fun _ h=>ZwP h) h3
 exact ⟨⟨n,l,m⟩,b1,b2,rfl⟩
theorem ZwR {cs:List AV} (h:HasTs [.int .i64, .int .i64, .int .i64, .int .i64, .int .i64, .int .i64, .int .i64, .int .i64, .int .i64, .int .i64] cs):∃p:Envl,cs=encV p:=by
 simp only [HasTs,HasT] at h
 obtain ⟨_,_,rfl,⟨x,rfl,_⟩,_,_,rfl,⟨y,rfl,_⟩,_,_,rfl,⟨z,rfl,_⟩,_,_,rfl,⟨a,rfl,_⟩,_,_,rfl,⟨b,rfl,_⟩,_,_,rfl,⟨c,rfl,_⟩,_,_,rfl,⟨d,rfl,_⟩,_,_,rfl,⟨e,rfl,_⟩,_,_,rfl,⟨f,rfl,_⟩,_,_,rfl,⟨g,rfl,_⟩,rfl⟩:=h
 exact ⟨⟨x,y,z,⟨a,b,c,d,e,f,g⟩⟩,rfl⟩
theorem ZwS {a:AV} (h:HasT (.sl [.int .i64, .int .i64, .int .i64, .int .i64, .int .i64, .int .i64, .int .i64, .int .i64, .int .i64, .int .i64]) a):∃(l:List Envl) (b:Bool),a=SL 10 encV b l:=ZdG (fun _ h=>ZwR h) h
theorem has_Outb {cs:List AV} (h:HasTs [.int .i64, .int .i64, .sl [.int .i64, .int .i64, .int .i64, .int .i64, .int .i64, .int .i64, .int .i64, .int .i64, .int .i64, .int .i64]] cs):∃(o:Outb) (b:Bool),cs=cellsO b o:=by
 obtain ⟨_,_,rfl,h1,_,_,rfl,h2,_,_,rfl,h3,rfl⟩:=h
 obtain ⟨n,rfl, -⟩:=h1
 obtain ⟨m,rfl, -⟩:=h2
 obtain ⟨l,b,rfl⟩:=ZwS h3
 exact ⟨⟨n,m,l⟩,b,rfl⟩
theorem ZwT {β:Type} (v:AV) (h:Hp) (k:AV→Hp→Ent→Option β):effD (some (v,EF [])) h k=k v h ([],[]):=by
 simp [effD,ap,wrOf,EF]
theorem ZdH {β:Type} {shp shr:List Sh} {F:Fun} {args:List AV} {v:AV} (hF:∀h,closedX shp shr F args h=some (v,h)) (hi:idss args=[]) (h:Hp) (k:AV→Hp→Ent→Option β):effD (callE (some (closedXD shp shr F)) args h h.length) h k=k v h ([],[]):=by
 show effD (closedXD shp shr F args h h.length) h k=_
 rw [Z22 (hF h) h.length,hi]
 exact ZwT v h k
theorem ZiE (b1 b2:Bool) (i:Inbx):ids (ib b1 b2 i)=[]:=by simp [ids,idss,SL]
theorem ZiF (b:Bool) (o:Outb):ids (ob b o)=[]:=by simp [ids,idss,SL]
end Go.AM


namespace Go.AM
open Go.Proofs
set_option linter.unusedVariables false
set_option linter.unusedSimpArgs false
set_option linter.constructorNameAsVariable false
set_option maxRecDepth 20000
attribute [local congr] Z0e Z0f Z0g Z0h Z0i Z0j Z0k Z0l Z0m Z0n Z0o Z0p Z0q Z0r Z0s Z0t Z0u Z0v Z0w Z0x Z0y Z0z Z0A Z0B Z0C Z0D Z0E
structure RTk (c1 c2:Bool) (i:Inbx) (e:Envl) (L:List Hrd) (VM:AV) (h:Hp):Prop where
 g0:h[0]? = some (bxI c1 c2 i)
 g1:h[1]? = some (bxE e)
 g2:h[2]? = some (.arr 3 [zI] true false)
 g3:h[3]? = some (.arr 2 [zH] true false)
 g4:h[4]? = some (.arr 2 [encH ⟨e.frm,e.num⟩] true false)
 g8:h[8]? = some (.arr 2 (L.map encH) true false)
 g11:h[11]? = some (.arr 3 [[I i.node, .sl 2 8 0 L.length L.length false,VM]] true false)
def CVm (h:Hp) (V:AV) (M:List Msg):Prop:=(V = .sl 7 10 0 M.length M.length false∧h[10]? = some (.arr 7 (M.map encM) true false))∨V = .lst 7 false (M.map encM)
section
variable {c1 c2:Bool} {i:Inbx} {e:Envl} {L:List Hrd} {VM:AV} {h:Hp} {M:List Msg}
theorem CVm.cvt (C:CVm h VM M):cvt false h VM=some (.lst 7 false (M.map encM)):=by
 rcases C with ⟨rfl,h1⟩ | rfl
 ·exact Z0X (st:=false) (n:=M.length) (fr:=M.length) (full:=false) h1 (by simp) (by simp) (Z0U fun x=>by simp [encM])
 ·exact Zcx ..
theorem RTk.l01 (R:RTk c1 c2 i e L VM h) (k:Go.AM.K AV):ldK 1 false (.ptr 0 0 1 1) h k=k (SL 2 encH c1 i.heard):=by rw [Z01,R.g0];rfl
theorem RTk.l13 (R:RTk c1 c2 i e L VM h) (k:Go.AM.K AV):ldK 7 true (.ptr 1 0 3 1) h k=k (.agg (encM e.msg)):=by rw [Z01,R.g1];rfl
theorem RTk.l4w (R:RTk c1 c2 i e L VM h) (k:Go.AM.K AV):ldK 2 true (.ptr 4 0 0 1) h k=k (.agg (encH ⟨e.frm,e.num⟩)):=by rw [Z01,R.g4];rfl
theorem RTk.out (R:RTk c1 c2 i e L VM h) (C:CVm h VM M) (fr:Bool):∃h1 h2:Hp,
  (∀(k:AV→Hp→Ent→Option AV),effD (stE 3 (.ptr 2 0 0 1) (.agg [I i.node, .sl 2 8 0 L.length L.length false,VM]) h) h k=k .u h1 ([2],[2])) ∧
  (∀(k:AV→Hp→Ent→Option AV),effD (stE 2 (.ptr 3 0 0 1) (.agg (encH ⟨e.frm,e.num⟩)) h1) h1 k=k .u h2 ([3],[3])) ∧
  (∀k:Go.AM.K AV,ldK 3 true (.ptr 11 0 0 1) h k=k (.agg [I i.node, .sl 2 8 0 L.length L.length false,VM])) ∧
  (∀k:Go.AM.K AV,ldK 3 true (.ptr 2 0 0 1) h2 k=k (.agg [I i.node, .sl 2 8 0 L.length L.length false,VM])) ∧
  (∀k:Go.AM.K AV,ldK 2 true (.ptr 3 0 0 1) h2 k=k (.agg (encH ⟨e.frm,e.num⟩))) ∧
  cvt false h2 (.tup [.agg [I i.node, .sl 2 8 0 L.length L.length false,VM], .agg (encH ⟨e.frm,e.num⟩),B fr,I 0])=some (.tup [.agg [I i.node, .lst 2 false (L.map encH), .lst 7 false (M.map encM)], .agg (encH ⟨e.frm,e.num⟩),B fr,I 0]):=by
 have hs:(∃id n,VM = .sl 7 id 0 n n false)∨∃es,VM = .lst 7 false es:=by
  rcases C with ⟨rfl, -⟩ | rfl
  ·exact .inl ⟨_,_,rfl⟩
  ·exact .inr ⟨_,rfl⟩
 obtain ⟨o,ho⟩:∃o:AObj,o = .arr 3 [[I i.node, .sl 2 8 0 L.length L.length false,VM]] true false:=⟨_,rfl⟩
 have a3:(h.set 2 o)[3]? = some (.arr 2 [zH] true false):=getSetN R.g3 (by omega)
 have C2:CVm ((h.set 2 o).set 3 (.arr 2 [encH ⟨e.frm,e.num⟩] true false)) VM M:=by
  rcases C with ⟨rfl,h1⟩ | rfl
  ·exact .inl ⟨rfl,getSetN (getSetN h1 (by omega)) (by omega)⟩
  ·exact .inr rfl
 have g82:((h.set 2 o).set 3 (.arr 2 [encH ⟨e.frm,e.num⟩] true false))[8]? = some (.arr 2 (L.map encH) true false):=getSetN (getSetN R.g8 (by omega)) (by omega)
 refine ⟨h.set 2 o,(h.set 2 o).set 3 (.arr 2 [encH ⟨e.frm,e.num⟩] true false),fun k => ?_,fun k => ?_,fun k => ?_,fun k => ?_,fun k => ?_, ?_⟩
 ·have:stE 3 (.ptr 2 0 0 1) (.agg [I i.node, .sl 2 8 0 L.length L.length false,VM]) h=some (.u,⟨[(2,o)],[],[2]⟩):=by
   rw [Z0G,R.g2,ho]
   rcases hs with ⟨id,n,rfl⟩ | ⟨es,rfl⟩<;>simp [putAt]
  exact Z0a this k
 ·have:stE 2 (.ptr 3 0 0 1) (.agg (encH ⟨e.frm,e.num⟩)) (h.set 2 o)=some (.u,⟨[(3, .arr 2 [encH ⟨e.frm,e.num⟩] true false)],[],[3]⟩):=by
   rw [Z0G,a3]
   simp [putAt,encH]
  exact Z0a this k
 ·rw [Z01,R.g11];rcases hs with ⟨id,n,rfl⟩ | ⟨es,rfl⟩<;>rfl
 ·have:((h.set 2 o).set 3 (.arr 2 [encH ⟨e.frm,e.num⟩] true false))[2]? = some o:=getSetN (getSelfN R.g2) (by omega)
  rw [Z01,this,ho];rcases hs with ⟨id,n,rfl⟩ | ⟨es,rfl⟩<;>rfl
 ·have:((h.set 2 o).set 3 (.arr 2 [encH ⟨e.frm,e.num⟩] true false))[3]? = some (.arr 2 [encH ⟨e.frm,e.num⟩] true false):=getSelfN a3
  rw [Z01,this];rfl
 ·have cw:cvt false ((h.set 2 o).set 3 (.arr 2 [encH ⟨e.frm,e.num⟩] true false)) (.sl 2 8 0 L.length L.length false)=some (.lst 2 false (L.map encH)):=Z0X (st:=false) (n:=L.length) (fr:=L.length) (full:=false) g82 (by simp) (by simp) (Z0U fun x=>by simp [encH])
  simp only [Z3g,Z17,Z16,Z3x,cvt_s,C2.cvt,cw]
  rfl
end
end Go.AM


namespace Go.AM
open Go.Proofs
set_option linter.unusedVariables false
set_option linter.unusedSimpArgs false
set_option linter.constructorNameAsVariable false
set_option maxRecDepth 20000
attribute [local congr] Z0e Z0f Z0g Z0h Z0i Z0j Z0k Z0l Z0m Z0n Z0o Z0p Z0q Z0r Z0s Z0t Z0u Z0v Z0w Z0x Z0y Z0z Z0A Z0B Z0C Z0D Z0E
section
variable {c1 c2:Bool} {i:Inbx} {e:Envl} {L:List Hrd} {VM:AV} {h:Hp} {M:List Msg}
end
end Go.AM


namespace Go.AM
open Go.Proofs
set_option linter.unusedVariables false
set_option linter.unusedSimpArgs false
set_option linter.constructorNameAsVariable false
set_option maxRecDepth 20000
attribute [local congr] Z0e Z0f Z0g Z0h Z0i Z0j Z0k Z0l Z0m Z0n Z0o Z0p Z0q Z0r Z0s Z0t Z0u Z0v Z0w Z0x Z0y Z0z Z0A Z0B Z0C Z0D Z0E
end Go.AM


namespace Go.AM
open Go.Proofs
set_option linter.unusedVariables false
set_option linter.unusedSimpArgs false
set_option linter.constructorNameAsVariable false
set_option maxRecDepth 20000
attribute [local congr] Z0e Z0f Z0g Z0h Z0i Z0j Z0k Z0l Z0m Z0n Z0o Z0p Z0q Z0r Z0s Z0t Z0u Z0v Z0w Z0x Z0y Z0z Z0A Z0B Z0C Z0D Z0E
end Go.AM


namespace Go.AM
open Go.Proofs
set_option linter.unusedVariables false
set_option linter.unusedSimpArgs false
set_option linter.constructorNameAsVariable false
set_option maxRecDepth 20000
attribute [local congr] Z0e Z0f Z0g Z0h Z0i Z0j Z0k Z0l Z0m Z0n Z0o Z0p Z0q Z0r Z0s Z0t Z0u Z0v Z0w Z0x Z0y Z0z Z0A Z0B Z0C Z0D Z0E
end Go.AM


namespace Go.AM
open Go.Proofs
set_option linter.unusedVariables false
set_option linter.unusedSimpArgs false
set_option linter.constructorNameAsVariable false
set_option maxRecDepth 20000
attribute [local congr] Z0e Z0f Z0g Z0h Z0i Z0j Z0k Z0l Z0m Z0n Z0o Z0p Z0q Z0r Z0s Z0t Z0u Z0v Z0w Z0x Z0y Z0z Z0A Z0B Z0C Z0D Z0E
theorem ZwU {shp shr:List Sh} {F:Fun} {args:List AV} {v:AV} {h h1:Hp} (ha:plains args=true) (hF:closedX shp shr F args h=some (v,h1)) (h':Hp):closedX shp shr F args h'=some (v,h'):=by
 unfold closedX at hF ⊢
 rw [Z21 ha] at hF ⊢
 dsimp only at hF ⊢
 cases q:F (nrms shp args) [] with
 | none=>rw [q] at hF;cases hF
 | some p=>
  rw [q] at hF
  dsimp only at hF ⊢
  cases q2:cvt (!plains args) p.2 p.1 with
  | none=>rw [q2] at hF;cases hF
  | some w=>
   rw [q2] at hF
   injection hF with hF
   injection hF with h1 h2
   rw [← h1]
end Go.AM


namespace Go.AM
open Go.Proofs
set_option linter.unusedVariables false
set_option linter.unusedSimpArgs false
set_option linter.constructorNameAsVariable false
theorem Z8r {l:List Hrd} {x y:Hrd}:y ∈ insH l x↔y=x∨y ∈ l:=by
 unfold insH
 rw [List.mem_append,List.mem_cons]
 have:y ∈ l↔y ∈ l.take (posH l x)∨y ∈ l.drop (posH l x):=by rw [← List.mem_append,List.take_append_drop]
 rw [this]
 constructor
 ·rintro (h | h | h)
  ·exact .inr (.inl h)
  ·exact .inl h
  ·exact .inr (.inr h)
 ·rintro (h | h | h)
  ·exact .inr (.inl h)
  ·exact .inl h
  ·exact .inr (.inr h)
theorem ZwV {l:List Hrd} {x:Hrd} (hs:AscH l) (hn:x ∉ l):AscH (insH l x):=by
 have hlo:∀y ∈ l.take (posH l x),ltH y x=true:=fun y hy=>by
  obtain ⟨j,hj,he⟩:=List.mem_iff_getElem.1 hy
  rw [List.length_take] at hj
  rw [List.getElem_take] at he
  have:=Zdw (x:=x) hs (j:=j) (y:=y) (by rw [List.getElem?_eq_some_iff];exact ⟨by omega,he⟩)
  rw [this];simp;omega
 have hhi:∀y ∈ l.drop (posH l x),ltH x y=true:=fun y hy=>by
  obtain ⟨j,hj,he⟩:=List.mem_iff_getElem.1 hy
  rw [List.length_drop] at hj
  rw [List.getElem_drop] at he
  have h1:=Zdw (x:=x) hs (j:=posH l x+j) (y:=y) (by rw [List.getElem?_eq_some_iff];exact ⟨by omega,he⟩)
  have h2:ltH y x=false:=by rw [h1];simp
  cases q:ltH x y with
  | true=>rfl
  | false=>
   have:=Zwh q h2
   subst this
   exact absurd (List.mem_of_mem_drop hy) hn
 have hsp:AscH (l.take (posH l x)++l.drop (posH l x)):=by rw [List.take_append_drop];exact hs
 obtain ⟨p1,p2,p3⟩:=List.pairwise_append.1 hsp
 unfold insH
 refine List.pairwise_append.2 ⟨p1,List.pairwise_cons.2 ⟨hhi,p2⟩,fun a ha b hb => ?_⟩
 rcases List.mem_cons.1 hb with rfl | hb
 ·exact hlo a ha
 ·exact p3 a ha b hb
theorem ZiG {node:Int}:∀ {l:List Hrd} {p:Option Hrd},AscH l→(∀q,p=some q→∀x ∈ l,ltH q x=true)→(∀x ∈ l,isNode x.frm=true∧1≤x.num∧x.num≤1073741824∧x.frm≠node)→chkH node p l=0
 | [],p,_,_,_=>Zif node p
 | x::r,p,hs,hp,hv=>by
  obtain ⟨v1,v2,v3,v4⟩:=hv x (by simp)
  obtain ⟨q1,q2⟩:=List.pairwise_cons.1 hs
  have e1:(!isNode x.frm||decide (x.num<1)||decide (x.num > 1073741824))=false:=by
   rw [v1];simp;omega
  have e2:lastLt p x=false:=by
   cases p with
   | none=>rfl
   | some q=>simp [lastLt,hp q rfl x (by simp)]
  rw [ZwN,if_neg (by rw [e1];simp),if_neg v4,if_neg (by rw [e2];simp)]
  exact ZiG q2 (fun q hq y hy=>by injection hq with hq;subst hq;exact q1 y hy) (fun y hy=>hv y (by simp [hy]))
def inI (i:Inbx) (e:Envl):Inbx:=⟨i.node,insH i.heard ⟨e.frm,e.num⟩,if i.msgs.contains e.msg=true then i.msgs else normL (i.msgs++[e.msg])⟩
theorem ZdI (i:Inbx) (e:Envl):((takeI i e).2.2.2≠0∧(takeI i e).1=⟨0,[],[]⟩∧(takeI i e).2.2.1=false) ∨
  (chkI i=0∧formE e=0∧e.to=i.node∧(⟨e.frm,e.num⟩:Hrd) ∈ i.heard∧takeI i e=(i,⟨e.frm,e.num⟩,false,0)) ∨
  (chkI i=0∧formE e=0∧e.to=i.node∧(⟨e.frm,e.num⟩:Hrd) ∉ i.heard∧i.heard.length≠256∧(i.msgs.contains e.msg=false→i.msgs.length≠64)∧takeI i e=(inI i e,⟨e.frm,e.num⟩,true,0)):=by
 unfold takeI
 by_cases h1:chkI i=0
 ·rw [if_neg (fun hh=>hh h1)]
  by_cases h2:formE e=0
  ·rw [if_neg (fun hh=>hh h2)]
   by_cases h3:e.to=i.node
   ·rw [if_neg (fun hh=>hh h3)]
    by_cases h4:i.heard.contains ⟨e.frm,e.num⟩=true
    ·rw [if_pos h4]
     exact .inr (.inl ⟨h1,h2,h3,List.contains_iff_mem.1 h4,rfl⟩)
    ·rw [if_neg h4]
     by_cases h5:i.heard.length=256∨(i.msgs.contains e.msg=false∧i.msgs.length=64)
     ·rw [if_pos h5]
      exact .inl ⟨by simp,rfl,rfl⟩
     ·rw [if_neg h5]
      exact .inr (.inr ⟨h1,h2,h3,fun hh=>h4 (List.contains_iff_mem.2 hh),fun hh=>h5 (.inl hh),fun h6 h7=>h5 (.inr ⟨h6,h7⟩),rfl⟩)
   ·rw [if_pos h3];exact .inl ⟨by simp,rfl,rfl⟩
  ·rw [if_pos h2];exact .inl ⟨h2,rfl,rfl⟩
 ·rw [if_pos h1];exact .inl ⟨by simp,rfl,rfl⟩
theorem ZbX (i:Inbx) (e:Envl) (m:Msg):m ∈ (inI i e).msgs↔m ∈ i.msgs∨m=e.msg:=by
 unfold inI
 dsimp only
 by_cases h:i.msgs.contains e.msg=true
 ·rw [if_pos h]
  constructor
  ·exact .inl
  ·rintro (h1 | rfl)
   ·exact h1
   ·exact List.contains_iff_mem.1 h
 ·rw [if_neg h,Z51,List.mem_append,List.mem_singleton]
theorem ZwW (i:Inbx) (e:Envl) (h:normL i.msgs=i.msgs):normL (inI i e).msgs=(inI i e).msgs:=by
 unfold inI
 dsimp only
 by_cases q:i.msgs.contains e.msg=true
 ·rw [if_pos q];exact h
 ·rw [if_neg q];exact ZbN (Z8p _)
theorem ZiH {i:Inbx} {e:Envl} (h1:chkI i=0) (h2:formE e=0) (h3:e.to=i.node) (h4:(⟨e.frm,e.num⟩:Hrd) ∉ i.heard) (h5:i.heard.length≠256) (h6:i.msgs.contains e.msg=false→i.msgs.length≠64):chkI (inI i e)=0:=by
 obtain ⟨k1,k2,k3,k4,k5,k6,k7⟩:=Z8q h1
 obtain ⟨hasc, -,hval⟩:=ZbR k4
 obtain ⟨m1,m2,m3,m4,m5,m6⟩:=Zdy h2
 have hlen:(inI i e).heard.length=i.heard.length+1:=Zdz _ _
 have hml:(inI i e).msgs.length≤64∧(inI i e).msgs.length≤i.msgs.length+1:=by
  unfold inI
  dsimp only
  by_cases q:i.msgs.contains e.msg=true
  ·rw [if_pos q];omega
  ·rw [if_neg q]
   have:=h6 (by simpa using q)
   have l:=Z6l (i.msgs++[e.msg])
   simp only [List.length_append,List.length_singleton] at l
   omega
 refine ZbS k1 (by omega) hml.1 (ZiG (ZwV hasc h4) (fun q hq=>by cases hq) fun x hx => ?_) (Z6n.2 ⟨hml.1,fun m hm => ?_⟩) (ZwW i e k6) (by omega)
 ·rcases Z8r.1 hx with rfl | hx
  ·exact ⟨m2,m4,m5,fun hh=>m6 (hh.trans h3.symm)⟩
  ·exact hval x hx
 ·rcases (ZbX i e m).1 hm with hm | rfl
  ·exact (Z6n.1 k5).2 m hm
  ·exact m1
end Go.AM


namespace Go.AM
open Go.Proofs
set_option linter.unusedVariables false
set_option linter.unusedSimpArgs false
set_option linter.constructorNameAsVariable false
set_option maxRecDepth 20000
attribute [local congr] Z0e Z0f Z0g Z0h Z0i Z0j Z0k Z0l Z0m Z0n Z0o Z0p Z0q Z0r Z0s Z0t Z0u Z0v Z0w Z0x Z0y Z0z Z0A Z0B Z0C Z0D Z0E
def smallI (i:Inbx):Bool:=decide (i.heard.length≤20)&&decide (i.msgs.length≤20)
theorem ZwX (b1 b2:Bool) (i:Inbx) (h:Hp):Z7Y [ib b1 b2 i] h=some (B (smallI i),h):=by
 refine Zts (a0:=ib b1 b2 i) rfl ?_ h
 rw [show nrm (.a [none,some 2,some 7]) (ib b1 b2 i)=ib b1 b2 i from rfl]
 have x0:∀k:AV→Hp→Option AV,effK (boxE 3 (ib b1 b2 i) ([]:Hp).length) [] k=k (.ptr 0 0 0 1) [bxI b1 b2 i]:=fun k=>rfl
 have l1:∀k:Go.AM.K AV,ldK 1 false (.ptr 0 0 1 1) [bxI b1 b2 i] k=k (SL 2 encH b1 i.heard):=fun k=>rfl
 have l2:∀k:Go.AM.K AV,ldK 1 false (.ptr 0 0 2 1) [bxI b1 b2 i] k=k (SL 7 encM b2 i.msgs):=fun k=>rfl
 have la:∀k:Go.AM.K AV,lenK (SL 2 encH b1 i.heard) k=k (I i.heard.length):=fun k=>by rw [SL,Z0d,List.length_map]
 have lb:∀k:Go.AM.K AV,lenK (SL 7 encM b2 i.msgs) k=k (I i.msgs.length):=fun k=>by rw [SL,Z0d,List.length_map]
 simp -implicitDefEqProofs only [Z8V,x0,Z07,Nat.zero_add,l1,l2,la,lb,Z11,Z0W]
 unfold smallI
 have e1:decide ((i.heard.length:Int)≤20)=decide (i.heard.length≤20):=by by_cases q:i.heard.length≤20<;>simp [q]<;>omega
 have e2:decide ((i.msgs.length:Int)≤20)=decide (i.msgs.length≤20):=by by_cases q:i.msgs.length≤20<;>simp [q]<;>omega
 rw [e1,e2]
 rfl
end Go.AM


namespace Go.AM
open Go.Proofs
set_option linter.unusedVariables false
set_option linter.unusedSimpArgs false
set_option linter.constructorNameAsVariable false
def stepT (X:Inbx) (e:Envl):Inbx:=if (takeI X e).2.2.2=0 then (takeI X e).1 else X
theorem ZwY {X:Inbx} {e:Envl} (h:chkI X≠0∨formE e≠0∨e.to≠X.node):stepT X e=X:=by
 unfold stepT
 rcases ZdI X e with ⟨h1, -⟩ | ⟨h1,h2,h3, -⟩ | ⟨h1,h2,h3, -⟩
 ·rw [if_neg h1]
 ·rcases h with h | h | h
  ·exact absurd h1 h
  ·exact absurd h2 h
  ·exact absurd h3 h
 ·rcases h with h | h | h
  ·exact absurd h1 h
  ·exact absurd h2 h
  ·exact absurd h3 h
abbrev hdE (e:Envl):Hrd:=⟨e.frm,e.num⟩
structure Behind (i X:Inbx) (P:List Envl):Prop where
 node:X.node=i.node
 ok:chkI X=0
 hrd:∀h,h ∈ X.heard↔h ∈ i.heard∨∃e ∈ P,formE e=0∧e.to=i.node∧hdE e=h
 msg:∀m,m ∈ X.msgs↔m ∈ i.msgs∨∃e ∈ P,formE e=0∧e.to=i.node∧hdE e ∉ i.heard∧e.msg=m
 lh:X.heard.length≤i.heard.length+P.length
 lm:X.msgs.length≤i.msgs.length+P.length
theorem Behind.step {i X:Inbx} {P:List Envl} {e:Envl} (B:Behind i X P) (hs:smallI i=true) (hP:P.length<40) (hu:∀e' ∈ P,hdE e'=hdE e→e'=e):Behind i (stepT X e) (P++[e]):=by
 have hs':=hs
 unfold smallI at hs'
 simp only [Bool.and_eq_true,decide_eq_true_eq] at hs'
 have lh:=B.lh
 have lm:=B.lm
 by_cases g:formE e=0∧e.to=i.node
 ·obtain ⟨g1,g2⟩:=g
  rcases ZdI X e with ⟨h1, -⟩ | ⟨h1,h2,h3,h4,h5⟩ | ⟨h1,h2,h3,h4,h5,h6,h7⟩
  ·exfalso
   apply h1
   unfold takeI
   rw [if_neg (fun hh=>hh B.ok),if_neg (fun hh=>hh g1),if_neg (fun hh=>hh (g2.trans B.node.symm))]
   by_cases q:X.heard.contains (hdE e)=true
   ·rw [if_pos q]
   ·rw [if_neg q,if_neg (by omega)]
  ·have:stepT X e=X:=by unfold stepT;rw [h5];rfl
   rw [this]
   refine ⟨B.node,B.ok,fun h => ?_,fun m => ?_,by simp;omega,by simp;omega⟩
   ·rw [B.hrd]
    constructor
    ·rintro (h | ⟨e',he,r⟩)
     ·exact .inl h
     ·exact .inr ⟨e',by simp [he],r⟩
    ·rintro (h | ⟨e',he,r1,r2,r3⟩)
     ·exact .inl h
     ·rcases List.mem_append.1 he with he | he
      ·exact .inr ⟨e',he,r1,r2,r3⟩
      ·simp only [List.mem_singleton] at he;subst he
       rw [← r3];exact (B.hrd _).1 h4
   ·rw [B.msg]
    constructor
    ·rintro (h | ⟨e',he,r⟩)
     ·exact .inl h
     ·exact .inr ⟨e',by simp [he],r⟩
    ·rintro (h | ⟨e',he,r1,r2,r3,r4⟩)
     ·exact .inl h
     ·rcases List.mem_append.1 he with he | he
      ·exact .inr ⟨e',he,r1,r2,r3,r4⟩
      ·simp only [List.mem_singleton] at he;subst he
       rcases (B.hrd _).1 h4 with q | ⟨e2,he2,q1,q2,q3⟩
       ·exact absurd q r3
       ·have:=hu e2 he2 q3
        subst this
        exact .inr ⟨e2,he2,q1,q2,r3,r4⟩
  ·have:stepT X e=inI X e:=by unfold stepT;rw [h7];rfl
   rw [this]
   have hlen:=ZdA X e
   rw [h7] at hlen
   dsimp only at hlen
   refine ⟨B.node,ZiH h1 h2 h3 h4 h5 h6,fun h => ?_,fun m => ?_,by simp;omega,by simp;omega⟩
   ·rw [show h ∈ (inI X e).heard↔h=hdE e∨h ∈ X.heard from Z8r,B.hrd]
    constructor
    ·rintro (h | h | ⟨e',he,r⟩)
     ·exact .inr ⟨e,by simp,g1,g2,h.symm⟩
     ·exact .inl h
     ·exact .inr ⟨e',by simp [he],r⟩
    ·rintro (h | ⟨e',he,r1,r2,r3⟩)
     ·exact .inr (.inl h)
     ·rcases List.mem_append.1 he with he | he
      ·exact .inr (.inr ⟨e',he,r1,r2,r3⟩)
      ·simp only [List.mem_singleton] at he;subst he
       exact .inl r3.symm
   ·rw [ZbX,B.msg]
    constructor
    ·rintro ((h | ⟨e',he,r⟩) | h)
     ·exact .inl h
     ·exact .inr ⟨e',by simp [he],r⟩
     ·exact .inr ⟨e,by simp,g1,g2,fun hh=>h4 ((B.hrd _).2 (.inl hh)),h.symm⟩
    ·rintro (h | ⟨e',he,r1,r2,r3,r4⟩)
     ·exact .inl (.inl h)
     ·rcases List.mem_append.1 he with he | he
      ·exact .inl (.inr ⟨e',he,r1,r2,r3,r4⟩)
      ·simp only [List.mem_singleton] at he;subst he
       exact .inr r4.symm
 ·have:stepT X e=X:=ZwY (by
   by_cases q:formE e=0
   ·exact .inr (.inr fun hh=>g ⟨q,hh.trans B.node⟩)
   ·exact .inr (.inl q))
  rw [this]
  refine ⟨B.node,B.ok,fun h => ?_,fun m => ?_,by simp;omega,by simp;omega⟩
  ·rw [B.hrd]
   constructor
   ·rintro (h | ⟨e',he,r⟩)
    ·exact .inl h
    ·exact .inr ⟨e',by simp [he],r⟩
   ·rintro (h | ⟨e',he,r1,r2,r3⟩)
    ·exact .inl h
    ·rcases List.mem_append.1 he with he | he
     ·exact .inr ⟨e',he,r1,r2,r3⟩
     ·simp only [List.mem_singleton] at he;subst he
      exact absurd ⟨r1,r2⟩ g
  ·rw [B.msg]
   constructor
   ·rintro (h | ⟨e',he,r⟩)
    ·exact .inl h
    ·exact .inr ⟨e',by simp [he],r⟩
   ·rintro (h | ⟨e',he,r1,r2,r3⟩)
    ·exact .inl h
    ·rcases List.mem_append.1 he with he | he
     ·exact .inr ⟨e',he,r1,r2,r3⟩
     ·simp only [List.mem_singleton] at he;subst he
      exact absurd ⟨r1,r2⟩ g
theorem Behind.all {i:Inbx} {L:List Envl} (hs:smallI i=true) (hL:L.length<40) (hu:∀a ∈ L,∀b ∈ L,hdE a=hdE b→a=b):∀(post pre:List Envl) (X:Inbx),L=pre++post→Behind i X pre→Behind i (post.foldl stepT X) L
 | [],pre,X,hc,B=>by
  rw [List.append_nil] at hc
  subst hc
  exact B
 | e::post,pre,X,hc,B=>by
  have hlen:L.length=pre.length+post.length+1:=by rw [hc];simp;omega
  exact Behind.all hs hL hu post (pre++[e]) (stepT X e) (by simp [hc]) (B.step hs (by omega) fun e' he' hh=>hu e' (by rw [hc];simp [he']) e (by rw [hc];simp) hh)
end Go.AM


namespace Go.AM
open Go.Proofs
set_option linter.unusedVariables false
set_option linter.unusedSimpArgs false
set_option linter.constructorNameAsVariable false
theorem ZiI {node next:Int}:∀ {l:List Envl} {p:Option Int},l.Pairwise (fun a b=>a.num<b.num)→(∀q,p=some q→∀x ∈ l,q<x.num)→(∀x ∈ l,formE x=0∧x.frm=node∧x.num<next)→chkP node next p l=0
 | [],p,_,_,_=>Zib node next p
 | x::r,p,hs,hp,hv=>by
  obtain ⟨v1,v2,v3⟩:=hv x (by simp)
  obtain ⟨q1,q2⟩:=List.pairwise_cons.1 hs
  rw [Zia,if_neg (fun hh=>hh v1),if_neg (fun hh=>hh v2)]
  refine (if_neg ?_).trans ?_
  ·cases p with
   | none=>simp;omega
   | some q=>have:=hp q rfl x (by simp);simp;omega
  exact ZiI q2 (fun q hq y hy=>by injection hq with hq;subst hq;exact q1 y hy) (fun y hy=>hv y (by simp [hy]))
theorem ZwZ {o:Outb} (h:chkO o=0) (f:Envl→Bool):chkO ⟨o.node,o.next,o.pend.filter f⟩=0:=by
 obtain ⟨h1,h2,h3,h4,h5⟩:=Z53 h
 obtain ⟨k1,k2,k3⟩:=Z52 h5
 unfold chkO
 have e:(!isNode o.node||decide (o.next<1)||decide (o.next > 1073741825))=false:=by rw [h1];simp;omega
 have hl:=List.length_filter_le f o.pend
 rw [if_neg (by rw [e];simp),if_neg (by dsimp only;omega)]
 exact ZiI (k1.filter _) (fun q hq=>by cases hq) (fun x hx=>k3 x (List.mem_filter.1 hx).1)
theorem Zx0 {j:Inbx} {x:Envl} (h:(takeI j x).2.2.2=0):chkI j=0∧x.to=j.node∧(takeI j x).2.1=hdE x∧(takeI j x).1.node=j.node∧chkI (takeI j x).1=0∧hdE x ∈ (takeI j x).1.heard∧(∀h ∈ j.heard,h ∈ (takeI j x).1.heard)∧(∀m ∈ j.msgs,m ∈ (takeI j x).1.msgs) ∧
  ∀h ∈ (takeI j x).1.heard,h ∈ j.heard∨(hdE x=h∧x.msg ∈ (takeI j x).1.msgs):=by
 rcases ZdI j x with ⟨h1, -⟩ | ⟨h1,h2,h3,h4,h5⟩ | ⟨h1,h2,h3,h4,h5,h6,h7⟩
 ·exact absurd h h1
 ·rw [h5]
  exact ⟨h1,h3,rfl,rfl,h1,h4,fun _ q=>q,fun _ q=>q,fun _ q => .inl q⟩
 ·rw [h7]
  refine ⟨h1,h3,rfl,rfl,ZiH h1 h2 h3 h4 h5 h6,Z8r.2 (.inl rfl),fun _ q=>Z8r.2 (.inr q),fun m hm=>(ZbX j x m).2 (.inl hm),fun h q => ?_⟩
  rcases Z8r.1 q with q | q
  ·exact .inr ⟨q.symm,(ZbX j x _).2 (.inr rfl)⟩
  ·exact .inl q
theorem Zx1 {p:Outb} {hd:Hrd} (h:chkO p=0) (h1:hd.frm=p.node) (h2:1≤hd.num) (h3:hd.num<p.next):(heardO p hd).1=⟨p.node,p.next,p.pend.filter fun x => !(x.num==hd.num)⟩:=by
 unfold heardO
 have e:(decide (hd.num<1)||decide (hd.num≥p.next))=false:=by simp;omega
 rw [if_neg (fun hh=>hh h),if_neg (fun hh=>hh h1),if_neg (by rw [e];simp)]
structure ExF (p:Outb) (j:Inbx) (p':Outb) (j':Inbx) (post:List Envl):Prop where
 nd:p'.node=p.node
 nx:p'.next=p.next
 jn:j'.node=j.node
 co:chkO p'=0
 ci:chkI j'=0
 sub:∀y ∈ p'.pend,y ∈ p.pend
 gone:∀y ∈ p.pend,y ∉ p'.pend→hdE y ∈ j'.heard∧∃x ∈ post,x.num=y.num
 hk:∀h ∈ j.heard,h ∈ j'.heard
 mm:∀m ∈ j.msgs,m ∈ j'.msgs
 hb:∀h ∈ j'.heard,h ∈ j.heard∨∃x ∈ post,hdE x=h∧x.msg ∈ j'.msgs
theorem ZdJ {ar an:Nat}:∀(post:List Envl) (k:Nat) (p:Outb) (j:Inbx),chkO p=0→chkI j=0→(∀x ∈ post,x.frm=p.node∧1≤x.num∧x.num<p.next)→(exL ar an k post p j).2.2=0→
  ExF p j (exL ar an k post p j).1 (exL ar an k post p j).2.1 post∧(∀x ∈ post,x.num ∉ []) ∧
   ((∀m,k≤m→m<k+post.length→bitN ar m=true∧bitN an m=true)→∀x ∈ post,hdE x ∈ (exL ar an k post p j).2.1.heard∧∀y ∈ (exL ar an k post p j).1.pend,y.num≠x.num)
 | [],k,p,j,hp,hj,_,_=>⟨⟨rfl,rfl,rfl,hp,hj,fun _ q=>q,fun _ q r=>absurd q r,fun _ q=>q,fun _ q=>q,fun _ q => .inl q⟩,by simp,by simp⟩
 | x::r,k,p,j,hp,hj,hv,he=>by
  rw [exL] at he ⊢
  by_cases q1:bitN ar k=false
  ·rw [if_pos q1] at he ⊢
   obtain ⟨F, -,G⟩:=ZdJ r (k+1) p j hp hj (fun y hy=>hv y (by simp [hy])) he
   refine ⟨⟨F.nd,F.nx,F.jn,F.co,F.ci,F.sub,fun y h1 h2 => ?_,F.hk,F.mm,fun h q => ?_⟩,by simp,fun hb => ?_⟩
   ·obtain ⟨a,b,c,d⟩:=F.gone y h1 h2
    exact ⟨a,b,by simp [c],d⟩
   ·rcases F.hb h q with q | ⟨y,hy,r⟩
    ·exact .inl q
    ·exact .inr ⟨y,by simp [hy],r⟩
   ·have:=(hb k (Nat.le_refl _) (by simp)).1
    rw [q1] at this;cases this
  ·rw [if_neg q1] at he ⊢
   by_cases q2:(takeI j x).2.2.2≠0
   ·rw [if_pos q2] at he
    exact absurd he q2
   ·rw [if_neg q2] at he ⊢
    have q2':(takeI j x).2.2.2=0:=Classical.byContradiction q2
    obtain ⟨-,t2,t3,t4,t5,t6,t7,t8,t9⟩:=Zx0 q2'
    rw [t3] at he ⊢
    obtain ⟨v1,v2,v3⟩:=hv x (by simp)
    obtain ⟨p1,hp1⟩:∃p1,p1=if bitN an k=true then (heardO p (hdE x)).1 else p:=⟨_,rfl⟩
    have f1:p1.node=p.node∧p1.next=p.next∧chkO p1=0∧(∀y ∈ p1.pend,y ∈ p.pend)∧(∀y ∈ p.pend,y ∉ p1.pend→y.num=x.num)∧(bitN an k=true→∀y ∈ p1.pend,y.num≠x.num):=by
     rw [hp1]
     by_cases q3:bitN an k=true
     ·rw [if_pos q3,Zx1 hp v1 v2 v3]
      refine ⟨rfl,rfl,ZwZ hp _,fun y hy=>(List.mem_filter.1 hy).1,fun y hy hn => ?_,fun _ y hy => ?_⟩
      ·refine Classical.byContradiction fun hc=>hn (List.mem_filter.2 ⟨hy, ?_⟩)
       simp [hc]
      ·have:=(List.mem_filter.1 hy).2
       simpa using this
     ·rw [if_neg q3]
      exact ⟨rfl,rfl,hp,fun _ q=>q,fun _ q r=>absurd q r,fun q=>absurd q q3⟩
    obtain ⟨g1,g2,g3,g4,g5,g6⟩:=f1
    rw [← hp1] at he ⊢
    obtain ⟨F, -,G⟩:=ZdJ r (k+1) p1 (takeI j x).1 g3 t5 (fun y hy=>by rw [g1,g2];exact hv y (by simp [hy])) he
    refine ⟨⟨F.nd.trans g1,F.nx.trans g2,F.jn.trans t4,F.co,F.ci,fun y hy=>g4 y (F.sub y hy),fun y h1 h2 => ?_,fun h q=>F.hk h (t7 h q),fun m q=>F.mm m (t8 m q),fun h q => ?_⟩,by simp,fun hb y hy => ?_⟩
    ·by_cases hy:y ∈ p1.pend
     ·obtain ⟨a,b,c,d⟩:=F.gone y hy h2
      exact ⟨a,b,by simp [c],d⟩
     ·have hn:=g5 y h1 hy
      obtain ⟨-, -, -, -,cp⟩:=Z53 hp
      have hyf:=((Z52 cp).2.2 y h1).2.1
      have:hdE y=hdE x:=by simp only [hdE,hn,hyf,v1]
      exact ⟨by rw [this];exact F.hk _ t6,x,by simp,hn.symm⟩
    ·rcases F.hb h q with q | ⟨y,hy,r⟩
     ·rcases t9 h q with q | ⟨a,b⟩
      ·exact .inl q
      ·exact .inr ⟨x,by simp,a,F.mm _ b⟩
     ·exact .inr ⟨y,by simp [hy],r⟩
    ·rcases List.mem_cons.1 hy with rfl | hy
     ·refine ⟨F.hk _ t6,fun z hz => ?_⟩
      exact g6 (hb k (Nat.le_refl _) (by simp)).2 z (F.sub z hz)
     ·exact G (fun m h1 h2=>hb m (by omega) (by simp;omega)) y hy
theorem ZiJ {o:Outb} {i:Inbx} {ar an:Nat} (h:(exO o i ar an).2.2=0):chkO o=0∧chkI i=0∧ExF o i (exO o i ar an).1 (exO o i ar an).2.1 (againL i.node o.pend) ∧
  ((∀m,m<(againL i.node o.pend).length→bitN ar m=true∧bitN an m=true)→∀x ∈ againL i.node o.pend,hdE x ∈ (exO o i ar an).2.1.heard∧∀y ∈ (exO o i ar an).1.pend,y.num≠x.num):=by
 unfold exO at h ⊢
 by_cases q1:chkO o≠0∨chkI i≠0
 ·rw [if_pos q1] at h;exact absurd h (by decide)
 ·rw [if_neg q1] at h ⊢
  have c1:chkO o=0:=Classical.byContradiction fun hh=>q1 (.inl hh)
  have c2:chkI i=0:=Classical.byContradiction fun hh=>q1 (.inr hh)
  by_cases q2:o.node=i.node
  ·rw [if_pos q2] at h;exact absurd h (by decide)
  ·rw [if_neg q2] at h ⊢
   obtain ⟨-, -, -, -,cp⟩:=Z53 c1
   have hval:=(Z52 cp).2.2
   obtain ⟨F, -,G⟩:=ZdJ (againL i.node o.pend) 0 o i c1 c2 (fun x hx=>by
    have hm:=(List.mem_filter.1 hx).1
    obtain ⟨a,b,c⟩:=hval x hm
    obtain ⟨-, -, -,d, -⟩:=Zdy a
    exact ⟨b,d,c⟩) h
   exact ⟨c1,c2,F,fun hb=>G fun m _ h2=>hb m (by omega)⟩
theorem ZdK {ar an:Nat}:∀(post:List Envl) (k:Nat) (p:Outb) (j:Inbx),(exL ar an k post p j).2.2≠0→(exL ar an k post p j).1=⟨0,0,[]⟩∧(exL ar an k post p j).2.1=⟨0,[],[]⟩
 | [],k,p,j,h=>by rw [exL] at h;exact absurd rfl h
 | x::r,k,p,j,h=>by
  rw [exL] at h ⊢
  by_cases q1:bitN ar k=false
  ·rw [if_pos q1] at h ⊢;exact ZdK r _ _ _ h
  ·rw [if_neg q1] at h ⊢
   by_cases q2:(takeI j x).2.2.2≠0
   ·rw [if_pos q2];exact ⟨rfl,rfl⟩
   ·rw [if_neg q2] at h ⊢;exact ZdK r _ _ _ h
theorem Zx2 {o:Outb} {i:Inbx} {ar an:Nat} (h:(exO o i ar an).2.2≠0):(exO o i ar an).1=⟨0,0,[]⟩∧(exO o i ar an).2.1=⟨0,[],[]⟩:=by
 unfold exO at h ⊢
 by_cases q1:chkO o≠0∨chkI i≠0
 ·rw [if_pos q1];exact ⟨rfl,rfl⟩
 ·rw [if_neg q1] at h ⊢
  by_cases q2:o.node=i.node
  ·rw [if_pos q2];exact ⟨rfl,rfl⟩
  ·rw [if_neg q2] at h ⊢;exact ZdK _ _ _ _ h
theorem Zx3 {o:Outb} (h:chkO o=0) {x y:Envl} (hx:x ∈ o.pend) (hy:y ∈ o.pend) (e:x.num=y.num):x=y:=by
 obtain ⟨-, -, -, -,cp⟩:=Z53 h
 have hs:=(Z52 cp).1
 obtain ⟨j,hj⟩:=List.mem_iff_getElem?.1 hx
 obtain ⟨k,hk⟩:=List.mem_iff_getElem?.1 hy
 obtain ⟨j1,rfl⟩:=List.getElem?_eq_some_iff.1 hj
 obtain ⟨k1,rfl⟩:=List.getElem?_eq_some_iff.1 hk
 rcases Nat.lt_trichotomy j k with q | q | q
 ·have:=List.pairwise_iff_getElem.1 hs _ _ j1 k1 q;omega
 ·subst q;rfl
 ·have:=List.pairwise_iff_getElem.1 hs _ _ k1 j1 q;omega
structure Aft (o:Outb) (i:Inbx) (p:Outb) (j:Inbx):Prop where
 nd:p.node=o.node
 nx:p.next=o.next
 jn:j.node=i.node
 sub:∀y ∈ p.pend,y ∈ o.pend
 gone:∀y ∈ o.pend,y ∉ p.pend→y.to=i.node∧hdE y ∈ j.heard
 mm:∀m ∈ i.msgs,m ∈ j.msgs
 hb:∀h ∈ j.heard,h ∈ i.heard∨∃x ∈ o.pend,hdE x=h∧x.msg ∈ j.msgs
theorem Aft.refl (o:Outb) (i:Inbx):Aft o i o i:=⟨rfl,rfl,rfl,fun _ q=>q,fun _ q r=>absurd q r,fun _ q=>q,fun _ q => .inl q⟩
theorem Aft.step {o:Outb} {i:Inbx} {p:Outb} {j:Inbx} {ar an:Nat} (A:Aft o i p j) (hc:chkO o=0) (h:(exO p j ar an).2.2=0):Aft o i (exO p j ar an).1 (exO p j ar an).2.1:=by
 obtain ⟨c1,c2,F, -⟩:=ZiJ h
 refine ⟨F.nd.trans A.nd,F.nx.trans A.nx,F.jn.trans A.jn,fun y hy=>A.sub y (F.sub y hy),fun y hy hn => ?_,fun m hm=>F.mm m (A.mm m hm),fun h hh => ?_⟩
 ·by_cases q:y ∈ p.pend
  ·obtain ⟨g1,x,hx,g2⟩:=F.gone y q hn
   obtain ⟨hxp,hxt⟩:=List.mem_filter.1 hx
   have:x=y:=Zx3 c1 hxp q g2
   subst this
   exact ⟨by rw [← A.jn];exact eq_of_beq hxt,g1⟩
  ·obtain ⟨a,b⟩:=A.gone y hy q
   exact ⟨a,F.hk _ b⟩
 ·rcases F.hb h hh with q | ⟨x,hx,e,m⟩
  ·rcases A.hb h q with q | ⟨x,hx,e,m⟩
   ·exact .inl q
   ·exact .inr ⟨x,hx,e,F.mm _ m⟩
  ·exact .inr ⟨x,A.sub x (List.mem_filter.1 hx).1,e,m⟩
end Go.AM


namespace Go.AM
open Go.Proofs
set_option linter.unusedVariables false
set_option linter.unusedSimpArgs false
set_option linter.constructorNameAsVariable false
set_option maxRecDepth 20000
attribute [local congr] Z0e Z0f Z0g Z0h Z0i Z0j Z0k Z0l Z0m Z0n Z0o Z0p Z0q Z0r Z0s Z0t Z0u Z0v Z0w Z0x Z0y Z0z Z0A Z0B Z0C Z0D Z0E
structure TkInv (h H:Hp) (X:Inbx) (b1 b2:Bool):Prop where
 ext:∃g,H=h++g
 g0:H[h.length]? = some (.arr 3 [zI] true false)
 g1:H[h.length+1]? = some (bxI b1 b2 X)
theorem TkInv.app {h H:Hp} {X:Inbx} {b1 b2:Bool} (I:TkInv h H X b1 b2) (g:Hp):TkInv h (H++g) X b1 b2:=by
 obtain ⟨⟨g',rfl⟩,q1,q2⟩:=I
 exact ⟨⟨g'++g,by rw [List.append_assoc]⟩,Z09 q1,Z09 q2⟩
theorem TkInv.put {h H:Hp} {X Y:Inbx} {b1 b2 c1 c2:Bool} (I:TkInv h H X b1 b2):TkInv h (H.set (h.length+1) (bxI c1 c2 Y)) Y c1 c2:=by
 obtain ⟨⟨g',rfl⟩,q1,q2⟩:=I
 refine ⟨⟨g'.set 1 (bxI c1 c2 Y), ?_⟩,getSetN q1 (by omega),getSelfN q2⟩
 rw [List.set_append_right _ _ (by omega),show h.length+1-h.length=1 by omega]
end Go.AM


namespace Go.AM
open Go.Proofs
set_option linter.unusedVariables false
set_option linter.unusedSimpArgs false
set_option linter.constructorNameAsVariable false
set_option maxRecDepth 20000
section
variable {β:Type} {P:Program} {T:Tab} {D:DTab} {N:Nat} {K:AV→Hp→Option β}
section
variable {x0:AV→AV→Hp→Option β} {x2:AV→Hp→Option β} {ps:List (AV × List Envl)} {nl:Bool}
end
end
attribute [local congr] Z0e Z0f Z0g Z0h Z0i Z0j Z0k Z0l Z0m Z0n Z0o Z0p Z0q Z0r Z0s Z0t Z0u Z0v Z0w Z0x Z0y Z0z Z0A Z0B Z0C Z0D Z0E
end Go.AM


namespace Go.AM
open Go.Proofs
set_option linter.unusedVariables false
set_option linter.unusedSimpArgs false
set_option linter.constructorNameAsVariable false
set_option maxRecDepth 20000
section
variable {β:Type} {P:Program} {T:Tab} {D:DTab} {N:Nat} {K:AV→Hp→Option β}
theorem Zx4 {T:Tab} {D:DTab} {N:Nat} {x0:Hp→Option β} {xr:AV→Hp→Option β} {l:List Envl} {b:Bool} {v:Envl} {h:Hp} {m:Nat} (hm:h[m]? = some (.arr 10 [encV v] true false)) (hl:l.length<4611686018427387904) (heq:∀(x y:Envl) (h:Hp) (k:Go.AM.K β),eqK Try.prog false 29 (.agg (encV x)) (.agg (encV y)) h k=k (B (x==y))):
  ∀(n i:Nat),i≤l.length→l.length<i+n→Z3X Try.prog T D N x0 xr n (.lst 10 b (l.map encV)) (.ptr m 0 0 1) (I l.length) (I i) h=match (l.drop i).findIdx? (fun y=>v==y) with | some j=>xr (I ((i+j:Nat):Int)) h | none=>x0 h:=by
 intro n
 induction n with
 | zero=>intro i h1 h2;omega
 | succ n ih=>
  intro i h1 h2
  show Z9q Try.prog T D N (Z3X Try.prog T D N x0 xr n) x0 xr _ _ _ _ h=_
  unfold Z9q
  rcases Nat.lt_or_ge i l.length with hi | hi
  ·have hx:l[i]? = some l[i]:=List.getElem?_eq_getElem hi
   have hlt:((i:Int)<(l.length:Int)):=by omega
   have hw:IntKind.i64.wrap ((i:Int)+1)=((i+1:Nat):Int):=by rw [wrap64 (by omega) (by omega)];omega
   have hpx:=fun k=>heq v l[i] h k
   have h3:=ih (i+1) hi (by omega)
   have ic:∀k:Go.AM.K β,iaK 10 (.lst 10 b (l.map encV)) (I i) k=k (.ep (encV l[i]) 0):=fun k=>Z0P i rfl hx k
   have ld:∀k:Go.AM.K β,ldK 10 true (.ep (encV l[i]) 0) h k=k ((fun y => .agg (encV y)) l[i]):=fun k=>by simp [encV]
   rw [List.drop_eq_getElem_cons hi,List.findIdx?_cons]
   have lv:∀k:Go.AM.K β,ldK 10 true (.ptr m 0 0 1) h k=k ((fun x => .agg (encV x)) v):=fun k=>by simp [hm,encV]
   dsimp only at h3 ld lv ⊢
   simp only [Z08,hlt,decide_true,Z00,if_true,ic,ld,lv,hpx]
   cases hc:(v==l[i]) with
   | true=>simp
   | false=>
    simp only [Bool.false_eq_true,if_false,Z0I,hw]
    refine h3.trans ?_
    cases (List.drop (i+1) l).findIdx? (fun y=>v==y) with
    | none=>rfl
    | some j=>
     show xr (I ((i+1+j:Nat):Int)) h=xr (I ((i+(j+1):Nat):Int)) h
     rw [show i+1+j=i+(j+1) by omega]
  ·have:i=l.length:=by omega
   subst this
   simp
theorem ZiK (l:List Envl) (b:Bool) (v:Envl) (hl:l.length<1000000) (heq:∀(x y:Envl) (h:Hp) (k:Go.AM.K AV),eqK Try.prog false 29 (.agg (encV x)) (.agg (encV y)) h k=k (B (x==y))) (h:Hp):Z3s [.lst 10 b (l.map encV),(fun x => .agg (encV x)) v] h=some (B (l.contains v),h):=by
 have e:∀h,Z80 [.lst 10 b (l.map encV),(fun x => .agg (encV x)) v] h=some (I (match l.findIdx? (fun y=>v==y) with | some j=>(j:Int) | none => -1),h):=
  ZtE rfl (by
   have:=Zx4 (l:=l) (T:=Z6i) (D:=Z6h) (N:=NN) (b:=b) (v:=v) (h:=[.arr 10 [encV v] true false]) (m:=0) (x0:=fun h=>Z9p Try.prog Z6i Z6h NN (fun v g=>cvt false g v) h) (xr:=fun a h=>cvt false h a) rfl (by omega) heq NN 0 (Nat.zero_le _) (by have:=NN_ge;omega)
   have bx:∀k:AV→Hp→Option AV,effK (boxE 10 ((fun x => .agg (encV x)) v) ([]:Hp).length) [] k=k (.ptr 0 0 0 1) [.arr 10 [encV v] true false]:=fun k=>by simp [boxE,encV]
   simp only [nrm,nrmC,Z71,Z0d,List.length_map,bx]
   simp only [List.drop_zero] at this
   refine this.trans ?_
   cases l.findIdx? (fun y=>v==y) with
   | none=>rfl
   | some j=>simp)
 have bx:∀k:AV→Hp→Option AV,effK (boxE 10 ((fun x => .agg (encV x)) v) ([]:Hp).length) [] k=k (.ptr 0 0 0 1) [.arr 10 [encV v] true false]:=fun k=>by simp [boxE,encV]
 have lv:∀k:Go.AM.K AV,ldK 10 true (.ptr 0 0 0 1) [.arr 10 [encV v] true false] k=k ((fun x => .agg (encV x)) v):=fun k=>by simp [encV]
 refine ZtK rfl ?_ h
 simp only [nrm,nrmC,Z90,bx,lv,ZtH,Z03,e]
 have:l.contains v=(l.findIdx? (fun y=>v==y)).isSome:=by rw [List.findIdx?_isSome,List.contains_eq_any_beq]
 rw [this]
 cases l.findIdx? (fun y=>v==y)<;>simp
end
attribute [local congr] Z0e Z0f Z0g Z0h Z0i Z0j Z0k Z0l Z0m Z0n Z0o Z0p Z0q Z0r Z0s Z0t Z0u Z0v Z0w Z0x Z0y Z0z Z0A Z0B Z0C Z0D Z0E
theorem ZiL (x y:Envl) (n:Bool) (h:Hp) {β:Type} (k:Go.AM.K β):eqK Try.prog n 29 (.agg (encV x)) (.agg (encV y)) h k=k (B (xor n (x==y))):=by
 obtain ⟨a0,a1,a2,a3,a4,a5,a6,a7,a8,a9⟩:=x
 obtain ⟨b0,b1,b2,b3,b4,b5,b6,b7,b8,b9⟩:=y
 simp only [encV,Zlk]
 congr 4
 rw [Bool.eq_iff_iff]
 simp [Envl.mk.injEq,Msg.mk.injEq]
theorem Zx5 (b:Bool) (o:Outb) (hl:o.pend.length<100000) (h:Hp):Z6g [ob b o] h=some (ob false o,h):=by
 refine (Zty (a0:=ob b o) (v:=ob false o) rfl ?_ h).trans rfl
 rw [show nrm (.a [none,none,some 10]) (ob b o)=ob b o from rfl]
 obtain ⟨node,next,pend⟩:=o
 dsimp only at hl
 obtain ⟨LP,hLP⟩:∃LP:AV,LP=SL 10 encV b pend:=⟨_,rfl⟩
 rw [show ob b ⟨node,next,pend⟩ = .agg [I node,I next,LP] by rw [hLP]]
 have x0:∀k:AV→Hp→Option AV,effK (boxE 3 (.agg [I node,I next,LP]) ([]:Hp).length) [] k=k (.ptr 0 0 0 1) [.arr 3 [[I node,I next,LP]] true false]:=fun k=>by rw [hLP];rfl
 have x1:∀k:AV→Hp→Option AV,effK (boxE 3 (.agg zO) ([AObj.arr 3 [[I node,I next,LP]] true false]:Hp).length) [.arr 3 [[I node,I next,LP]] true false] k=k (.ptr 1 0 0 1) [.arr 3 [[I node,I next,LP]] true false, .arr 3 [zO] true false]:=fun k=>rfl
 have x2:∀k:AV→Hp→Option AV,effK (bsE 10 zE 0 [] ([AObj.arr 3 [[I node,I next,LP]] true false, .arr 3 [zO] true false]:Hp).length) [.arr 3 [[I node,I next,LP]] true false, .arr 3 [zO] true false] k=k (.sl 10 2 0 0 0 true) [.arr 3 [[I node,I next,LP]] true false, .arr 3 [zO] true false, .arr 10 [] true false]:=fun k=>rfl
 obtain ⟨H2,hH2⟩:∃H2:Hp,H2=[AObj.arr 3 [[I node,I next,LP]] true false, .arr 3 [zO] true false, .arr 10 [] true false]:=⟨_,rfl⟩
 rw [← hH2] at x2
 have l2:∀k:Go.AM.K AV,ldK 1 false (.ptr 0 0 2 1) H2 k=k LP:=fun k=>by rw [hH2,hLP];rfl
 have rP:readSl H2 LP=some (pend.map encV):=by rw [hLP];rfl
 have aP:((pend.map encV).all fun e=>e.length==10)=true:=by rw [List.all_eq_true];intro e he;obtain ⟨x, -,rfl⟩:=List.mem_map.1 he;rfl
 have iP:idsOf LP=[]:=by rw [hLP];rfl
 have d2:∀k:AV→Hp→Option AV,effK (appE 10 80 (.sl 10 2 0 0 0 true) LP H2 H2.length) H2 k=k (.sl 10 3 0 pend.length pend.length false) (H2++[.arr 10 (pend.map encV) true false]):=fun k=>by
  have:appE 10 80 (.sl 10 2 0 0 0 true) LP H2 H2.length=some (.sl 10 3 0 pend.length pend.length false,⟨[],[.arr 10 (pend.map encV) true false],[2]⟩):=by
   have g2:H2[2]? = some (.arr 10 [] true false):=by rw [hH2];rfl
   have hl3:H2.length=3:=by rw [hH2];rfl
   unfold appE
   rw [rP]
   simp only [g2,List.length_map,List.length_nil,hl3]
   rw [if_pos ⟨trivial,trivial,by omega,aP⟩,if_pos ⟨trivial,by omega, .inl trivial⟩]
   simp [iP]
  rw [this];rfl
 obtain ⟨H3,hH3⟩:∃H3:Hp,H3=H2++[AObj.arr 10 (pend.map encV) true false]:=⟨_,rfl⟩
 rw [← hH3] at d2
 obtain ⟨c,hc⟩:∃c:List AV,c=[I node,I next, .sl 10 3 0 pend.length pend.length false]:=⟨_,rfl⟩
 obtain ⟨H4,hH4⟩:∃H4:Hp,H4=H3.set 0 (.arr 3 [c] true false):=⟨_,rfl⟩
 have s0:∀k:AV→Hp→Option AV,effK (stE 1 (.ptr 0 0 2 1) (.sl 10 3 0 pend.length pend.length false) H3) H3 k=k .u H4:=fun k=>by
  have:stE 1 (.ptr 0 0 2 1) (.sl 10 3 0 pend.length pend.length false) H3=some (.u,⟨[(0, .arr 3 [c] true false)],[],[0]⟩):=by
   rw [Z0G,hH3,hH2,hc,hLP]
   simp [putAt]
  rw [Z0F this,hH4]
 have l4:∀k:Go.AM.K AV,ldK 3 true (.ptr 0 0 0 1) H4 k=k (.agg c):=fun k=>by rw [hH4,hH3,hH2,hc];rfl
 obtain ⟨H5,hH5⟩:∃H5:Hp,H5=H4.set 1 (.arr 3 [c] true false):=⟨_,rfl⟩
 have s1:∀k:AV→Hp→Option AV,effK (stE 3 (.ptr 1 0 0 1) (.agg c) H4) H4 k=k .u H5:=fun k=>by
  have:stE 3 (.ptr 1 0 0 1) (.agg c) H4=some (.u,⟨[(1, .arr 3 [c] true false)],[],[1]⟩):=by
   rw [Z0G,hH4,hH3,hH2,hc]
   simp [putAt]
  rw [Z0F this,hH5]
 have l5:∀k:Go.AM.K AV,ldK 3 true (.ptr 1 0 0 1) H5 k=k (.agg c):=fun k=>by rw [hH5,hH4,hH3,hH2,hc];rfl
 have g3:H5[3]? = some (.arr 10 (pend.map encV) true false):=by rw [hH5,hH4,hH3,hH2];rfl
 simp -implicitDefEqProofs only [Z8Y,x0,x1,x2,Z07,Nat.zero_add,l2,d2,s0,l4,s1,l5]
 rw [hc]
 simp only [Z3x,Z17,Z16,cvt_s]
 rw [Z0X (st:=false) (es:=pend.map encV) (nl:=false) g3 (by simp) (by simp) (Z0U fun x=>by simp [encV,encM])]
 rfl
abbrev Bts:=Fin 18446744073709551616 × Fin 18446744073709551616
def encB (p:Bts):List AV:=[.s (.int .u64 (p.1.1:Int)), .s (.int .u64 (p.2.1:Int))]
theorem has_Bits {cs:List AV} (h:HasTs [.int .u64, .int .u64] cs):∃p:Bts,cs=encB p:=by
 simp only [HasTs,HasT] at h
 obtain ⟨_,_,rfl,⟨x,rfl,hx⟩,_,_,rfl,⟨y,rfl,hy⟩,rfl⟩:=h
 have h1:=ZiD hx
 have h2:=ZiD hy
 refine ⟨(⟨x.toNat,by omega⟩,⟨y.toNat,by omega⟩), ?_⟩
 unfold encB
 dsimp only
 rw [Int.toNat_of_nonneg h1.1,Int.toNat_of_nonneg h2.1]
end Go.AM


namespace Go.AM
open Go.Proofs
set_option linter.unusedVariables false
set_option linter.unusedSimpArgs false
set_option linter.constructorNameAsVariable false
set_option maxRecDepth 20000
attribute [local congr] Z0e Z0f Z0g Z0h Z0i Z0j Z0k Z0l Z0m Z0n Z0o Z0p Z0q Z0r Z0s Z0t Z0u Z0v Z0w Z0x Z0y Z0z Z0A Z0B Z0C Z0D Z0E
theorem ZdL {ar an:Nat}:∀(post:List Envl) (k:Nat) (p:Outb) (j:Inbx),(exL ar an k post p j).1.pend.length≤p.pend.length∧(exL ar an k post p j).2.1.heard.length≤j.heard.length+post.length∧(exL ar an k post p j).2.1.msgs.length≤j.msgs.length+post.length
 | [],k,p,j=>by rw [exL];simp
 | x::r,k,p,j=>by
  rw [exL]
  simp only [List.length_cons]
  by_cases q1:bitN ar k=false
  ·rw [if_pos q1]
   have:=ZdL (ar:=ar) (an:=an) r (k+1) p j
   omega
  ·rw [if_neg q1]
   by_cases q2:(takeI j x).2.2.2≠0
   ·rw [if_pos q2];simp
   ·rw [if_neg q2]
    have h1:=ZdA j x
    have h2:=Zir p (takeI j x).2.1
    have h3:=ZdL (ar:=ar) (an:=an) r (k+1) (if bitN an k=true then (heardO p (takeI j x).2.1).1 else p) (takeI j x).1
    by_cases q3:bitN an k=true
    ·rw [if_pos q3] at h3 ⊢;omega
    ·rw [if_neg q3] at h3 ⊢;omega
theorem Zx6 (o:Outb) (i:Inbx) (ar an:Nat):(exO o i ar an).1.pend.length≤o.pend.length∧(exO o i ar an).2.1.heard.length≤i.heard.length+o.pend.length∧(exO o i ar an).2.1.msgs.length≤i.msgs.length+o.pend.length:=by
 unfold exO
 by_cases q1:chkO o≠0∨chkI i≠0
 ·rw [if_pos q1];simp
 ·rw [if_neg q1]
  by_cases q2:o.node=i.node
  ·rw [if_pos q2];simp
  ·rw [if_neg q2]
   have h1:=ZdL (ar:=ar) (an:=an) (againL i.node o.pend) 0 o i
   have h2:(againL i.node o.pend).length≤o.pend.length:=List.length_filter_le _ _
   omega
structure LsI (o:Outb) (c:Bool) (i:Inbx) (c1 c2:Bool) (p:Outb) (b:Bool) (j:Inbx) (b1 b2:Bool) (H:Hp):Prop where
 g0:H[0]? = some (bxO c o)
 g1:H[1]? = some (bxI c1 c2 i)
 g2:H[2]? = some (bxO b p)
 g3:H[3]? = some (bxI b1 b2 j)
theorem LsI.app {o p:Outb} {c b c1 c2 b1 b2:Bool} {i j:Inbx} {H:Hp} (J:LsI o c i c1 c2 p b j b1 b2 H) (g:Hp):LsI o c i c1 c2 p b j b1 b2 (H++g):=⟨Z09 J.g0,Z09 J.g1,Z09 J.g2,Z09 J.g3⟩
end Go.AM


namespace Go.AM
open Go.Proofs
set_option linter.unusedVariables false
set_option linter.unusedSimpArgs false
set_option linter.constructorNameAsVariable false
set_option maxRecDepth 20000
theorem ZdM:∀ {a c:List Msg},Srt a→Srt c→(∀x ∈ a,x ∈ c)→a.Sublist c
 | [],c,_,_,_=>List.nil_sublist _
 | x::a,[],_,_,h=>by have:=h x (by simp);simp at this
 | x::a,y::c,ha,hc,h=>by
  rw [Srt,List.pairwise_cons] at ha hc
  by_cases e:x=y
  ·subst e
   refine (ZdM ha.2 hc.2 fun z hz => ?_).cons_cons x
   rcases List.mem_cons.1 (h z (by simp [hz])) with rfl | h1
   ·have:=ha.1 z hz;rw [Z8o] at this;cases this
   ·exact h1
  ·have hx:x ∈ c:=by
    rcases List.mem_cons.1 (h x (by simp)) with h1 | h1
    ·exact absurd h1 e
    ·exact h1
   refine (ZdM (c:=c) (by rw [Srt,List.pairwise_cons];exact ha) hc.2 fun z hz => ?_).cons y
   rcases List.mem_cons.1 hz with rfl | hz
   ·exact hx
   ·rcases List.mem_cons.1 (h z (by simp [hz])) with rfl | h1
    ·have h2:=Zdq (hc.1 x hx) (ha.1 z hz)
     rw [Z8o] at h2;cases h2
    ·exact h1
theorem Z8s {mv k:Int} {a c:List Msg} (h:a.Sublist c):(ofk mv k a).Sublist (ofk mv k c):=h.filter _
theorem ZiM (mv:Int) (l:List Msg):(docS mv l).mv=mv:=by
 unfold docS
 cases (ofk mv 1 l).getLast? with
 | none=>rfl
 | some d=>dsimp only;split<;>rfl
theorem Zx7 {mv:Int} {a c:List Msg} (h:a.Sublist c):laterS (docS mv a) (docS mv c)=true:=by
 unfold laterS
 rw [ZiM,ZiM,if_neg (by simp)]
 by_cases hq:(docS mv a==docS mv c||(docS mv a).stage==0||(docS mv c).stage==5)=true
 ·rw [if_pos hq]
 ·rw [if_neg hq]
  simp only [Bool.or_eq_true,not_or,beq_iff_eq] at hq
  obtain ⟨⟨-,h0⟩,h5⟩:=hq
  have s1:=Z8s (mv:=mv) (k:=1) h
  have s2:=Z8s (mv:=mv) (k:=2) h
  have s3:=Z8s (mv:=mv) (k:=3) h
  have s4:=Z8s (mv:=mv) (k:=4) h
  have s5:=Z8s (mv:=mv) (k:=5) h
  cases ha:(ofk mv 1 a).getLast? with
  | none=>exact absurd (by unfold docS;rw [ha];rfl) h0
  | some d=>
   have na:ofk mv 1 a≠[]:=fun e=>by rw [e] at ha;simp at ha
   have la:0<(ofk mv 1 a).length:=List.length_pos_iff.2 na
   have lc:(ofk mv 1 a).length≤(ofk mv 1 c).length:=s1.length_le
   cases hc:(ofk mv 1 c).getLast? with
   | none=>
    have hn:ofk mv 1 c=[]:=List.getLast?_eq_none_iff.1 hc
    have hz:(ofk mv 1 c).length=0:=by rw [hn];rfl
    omega
   | some d'=>
    by_cases cf:1<(ofk mv 1 c).length∨1<(ofk mv 3 c).length+(ofk mv 4 c).length∨¬((ofk mv 2 c).map (·.num)).Nodup
    ·exact absurd (by unfold docS;rw [hc];simp only [];rw [if_pos cf];rfl) h5
    ·have n1:¬1<(ofk mv 1 c).length:=fun h=>cf (.inl h)
     have e1:ofk mv 1 a=ofk mv 1 c:=s1.eq_of_length (by omega)
     have hd:d=d':=by rw [e1,hc] at ha;injection ha with q;exact q.symm
     subst hd
     have l3:=s3.length_le
     have l4:=s4.length_le
     have l34:(ofk mv 3 c).length+(ofk mv 4 c).length≤1:=by
      rcases Nat.lt_or_ge 1 ((ofk mv 3 c).length+(ofk mv 4 c).length) with h | h
      ·exact absurd (.inr (.inl h)) cf
      ·exact h
     have nd:((ofk mv 2 c).map (·.num)).Nodup:=by
      rcases Classical.em ((ofk mv 2 c).map (·.num)).Nodup with h | h
      ·exact h
      ·exact absurd (.inr (.inr h)) cf
     have ca:¬(1<(ofk mv 1 a).length∨1<(ofk mv 3 a).length+(ofk mv 4 a).length∨¬((ofk mv 2 a).map (·.num)).Nodup):=by
      rintro (h | h | h)
      ·exact cf (.inl (by rw [← e1];exact h))
      ·omega
      ·exact h (nd.sublist (s2.map _))
     have da:docS mv a=⟨mv,if ofk mv 3 a=[]∧ofk mv 4 a=[] then 1 else if ofk mv 5 a≠[] then 4 else if ofk mv 4 a=[] then 2 else 3,d.frm,match (ofk mv 2 a).getLast? with | some c=>c.to | none=>d.to,d.alc,(((ofk mv 3 a).getLast?).map (·.alc)).getD 0,(ofk mv 2 a).length⟩:=by
      unfold docS;rw [ha];simp only [];rw [if_neg ca]<;>(cases (ofk mv 2 a).getLast? <;> rfl)
     have dc:docS mv c=⟨mv,if ofk mv 3 c=[]∧ofk mv 4 c=[] then 1 else if ofk mv 5 c≠[] then 4 else if ofk mv 4 c=[] then 2 else 3,d.frm,match (ofk mv 2 c).getLast? with | some c=>c.to | none=>d.to,d.alc,(((ofk mv 3 c).getLast?).map (·.alc)).getD 0,(ofk mv 2 c).length⟩:=by
      unfold docS;rw [hc];simp only [];rw [if_neg cf]<;>(cases (ofk mv 2 c).getLast? <;> rfl)
     have h2:(decide ((docS mv a).chg<(docS mv c).chg)||((docS mv c).chg==(docS mv a).chg&&(docS mv a).to==(docS mv c).to))=true:=by
      have l2:=s2.length_le
      rcases Nat.lt_or_ge (ofk mv 2 a).length (ofk mv 2 c).length with hlt | hge
      ·rw [da,dc]
       have:((ofk mv 2 a).length:Int)<((ofk mv 2 c).length:Int):=by omega
       simp [this]
      ·have e2:ofk mv 2 a=ofk mv 2 c:=s2.eq_of_length (by omega)
       rw [da,dc,e2]
       simp
     have hg:goesS (docS mv a) (docS mv c)=true:=by
      rw [da,dc]
      unfold goesS
      simp only []
      by_cases r:ofk mv 3 a=[]∧ofk mv 4 a=[]
      ·rw [if_pos r,if_pos rfl]
       split
       ·rfl
       ·split
        ·rfl
        ·split<;>rfl
      ·have l1:(ofk mv 3 a).length+(ofk mv 4 a).length=1:=by
        have h1:0<(ofk mv 3 a).length+(ofk mv 4 a).length:=by
         rcases Nat.eq_zero_or_pos ((ofk mv 3 a).length+(ofk mv 4 a).length) with h | h
         ·exact absurd ⟨List.eq_nil_of_length_eq_zero (by omega),List.eq_nil_of_length_eq_zero (by omega)⟩ r
         ·exact h
        omega
       have e3:ofk mv 3 a=ofk mv 3 c:=s3.eq_of_length (by omega)
       have e4:ofk mv 4 a=ofk mv 4 c:=s4.eq_of_length (by omega)
       rw [if_neg r]
       rw [e3,e4] at r
       rw [if_neg r,e3,e4]
       have h5':ofk mv 5 a≠[]→ofk mv 5 c≠[]:=fun hn he=>by rw [he] at s5;exact hn (List.sublist_nil.1 s5)
       by_cases q5:ofk mv 5 a=[]
       ·by_cases q4:ofk mv 4 c=[]
        ·by_cases q6:ofk mv 5 c=[]
         ·simp [q5,q4,q6]
         ·simp [q5,q4,q6]
        ·have q3:ofk mv 3 c=[]:=by
          have:0<(ofk mv 4 c).length:=List.length_pos_iff.2 q4
          exact List.eq_nil_of_length_eq_zero (by omega)
         by_cases q6:ofk mv 5 c=[]
         ·simp [q5,q4,q6,q3]
         ·simp [q5,q4,q6,q3]
       ·have q6:=h5' q5
        simp [q5,q6]
     rw [h2,hg]
     rw [da,dc]
     simp
theorem Zx8 {l m:List Msg} (h:∀x ∈ l,x ∈ m):(normL l).Sublist (normL m):=ZdM (Z8p l) (Z8p m) fun x hx=>Z51.2 (h x (Z51.1 hx))
def mvsG:Int→List Msg→List Int
 | _,[]=>[]
 | p,m::l=>if m.mv≠p then m.mv::mvsG m.mv l else mvsG p l
theorem ZbY (n:List Msg):∀(l:List Msg) (p:Int),allG n p l=(mvsG p l).map fun mv=>docS mv n
 | [],p=>rfl
 | m::l,p=>by
  simp only [allG,mvsG]
  split
  ·rw [List.map_cons,ZbY n l m.mv]
  ·exact ZbY n l p
theorem ZdN:∀(l:List Msg) (p x:Int),x≠p→(x ∈ mvsG p l↔∃m ∈ l,m.mv=x)∨x ∈ mvsG p l
 | [],p,x,_ => .inl (by simp [mvsG])
 | m::l,p,x,hx=>by
  simp only [mvsG]
  by_cases hm:m.mv=x
  ·right
   rw [if_pos (by omega)]
   simp [hm]
  ·split
   ·rcases ZdN l m.mv x (Ne.symm hm) with h | h
    ·exact .inl (by simp [h,Ne.symm hm,hm])
    ·exact .inr (by simp [h])
   ·rcases ZdN l p x hx with h | h
    ·exact .inl (by simp [h,hm])
    ·exact .inr h
theorem ZbZ:∀(l:List Msg) (p x:Int),x ∈ mvsG p l→∃m ∈ l,m.mv=x
 | [],p,x,h=>by simp [mvsG] at h
 | m::l,p,x,h=>by
  simp only [mvsG] at h
  split at h
  ·rcases List.mem_cons.1 h with rfl | h
   ·exact ⟨m,by simp,rfl⟩
   ·obtain ⟨y,hy,e⟩:=ZbZ l _ x h
    exact ⟨y,by simp [hy],e⟩
  ·obtain ⟨y,hy,e⟩:=ZbZ l _ x h
   exact ⟨y,by simp [hy],e⟩
theorem Zx9 {l:List Msg} {x:Int} (h0:x≠0):x ∈ mvsG 0 l↔∃m ∈ l,m.mv=x:=by
 constructor
 ·exact ZbZ l 0 x
 ·intro h
  rcases ZdN l 0 x h0 with q | q
  ·exact q.2 h
  ·exact q
end Go.AM


namespace Go.AM
open Go.Proofs
set_option linter.unusedVariables false
set_option linter.unusedSimpArgs false
set_option linter.constructorNameAsVariable false
set_option maxRecDepth 20000
section
variable {β:Type} {P:Program} {T:Tab} {D:DTab} {N:Nat} {K:AV→Hp→Option β}
theorem Zxa {x0:Hp→Option β} {xr:AV→Hp→Option β} {l:List Msg} {v fv:AV} {h:Hp} {p:Msg→Bool} (hl:l.length<4611686018427387904) (hE:∀(i:Nat) (x:Msg),l[i]? = some x→∀k:Go.AM.K β,iaK 7 v (I i) (fun q=>ldK 7 true q h k)=k (.agg (encM x))) (hp:∀x ∈ l,∀k:AV→Hp→Option β,callVK T fv [.agg (encM x)] h k=k (B (p x)) h):
  ∀(n i:Nat),i≤l.length→l.length<i+n→Z24 P T D N x0 xr n v fv (I l.length) (I i) h=match (l.drop i).findIdx? p with | some j=>xr (I ((i+j:Nat):Int)) h | none=>x0 h:=by
 intro n
 induction n with
 | zero=>intro i h1 h2;omega
 | succ n ih=>
  intro i h1 h2
  show Z5m P T D N (Z24 P T D N x0 xr n) x0 xr _ _ _ _ h=_
  unfold Z5m
  rcases Nat.lt_or_ge i l.length with hi | hi
  ·have hx:l[i]? = some l[i]:=List.getElem?_eq_getElem hi
   have hlt:((i:Int)<(l.length:Int)):=by omega
   have hw:IntKind.i64.wrap ((i:Int)+1)=((i+1:Nat):Int):=by rw [wrap64 (by omega) (by omega)];omega
   have hpx:=hp l[i] (List.getElem_mem hi)
   have hex:=hE i l[i] hx
   rw [List.drop_eq_getElem_cons hi,List.findIdx?_cons]
   simp -implicitDefEqProofs only [Z08,hlt,decide_true,Z00,if_true,hex,hpx,Z0I,hw]
   cases hc:p l[i] with
   | true=>simp
   | false=>
    have h3:=ih (i+1) hi (by omega)
    simp only [Bool.false_eq_true,if_false]
    refine h3.trans ?_
    cases (List.drop (i+1) l).findIdx? p with
    | none=>rfl
    | some j=>
     show xr (I ((i+1+j:Nat):Int)) h=xr (I ((i+(j+1):Nat):Int)) h
     rw [show i+1+j=i+(j+1) by omega]
  ·have:i=l.length:=by omega
   subst this
   have c1:¬((l.length:Int)<(l.length:Int)):=by omega
   simp [c1]
theorem Zxb {l:List Msg} {v fv:AV} {h:Hp} {p:Msg→Bool} {K:AV→Hp→Option β} (hl:l.length<N) (hN:l.length<4611686018427387904) (hL:∀k:Go.AM.K β,lenK v k=k (I l.length)) (hE:∀(i:Nat) (x:Msg),l[i]? = some x→∀k:Go.AM.K β,iaK 7 v (I i) (fun q=>ldK 7 true q h k)=k (.agg (encM x))) (hp:∀x ∈ l,∀k:AV→Hp→Option β,callVK T fv [.agg (encM x)] h k=k (B (p x)) h):
  Z25 P T D N K v fv h=K (I (match l.findIdx? p with | some j=>(j:Int) | none => -1)) h:=by
 unfold Z25
 simp only [hL]
 have:=Zxa (P:=P) (D:=D) (N:=N) (x0:=fun h=>Z6Y P T D N K h) (xr:=fun a h=>K a h) hN hE hp N 0 (Nat.zero_le _) (by omega)
 simp only [List.drop_zero] at this
 refine this.trans ?_
 cases l.findIdx? p with
 | none=>rfl
 | some j=>simp
theorem Zxc {x0:Hp→Option β} {xr:AV→Hp→Option β} {l:List Docu} {v fv:AV} {h:Hp} {p:Docu→Bool} (hl:l.length<4611686018427387904) (hE:∀(i:Nat) (x:Docu),l[i]? = some x→∀k:Go.AM.K β,iaK 7 v (I i) (fun q=>ldK 7 true q h k)=k (.agg (encDo x))) (hp:∀x ∈ l,∀k:AV→Hp→Option β,callVK T fv [.agg (encDo x)] h k=k (B (p x)) h):
  ∀(n i:Nat),i≤l.length→l.length<i+n→Z44 P T D N x0 xr n v fv (I l.length) (I i) h=match (l.drop i).findIdx? p with | some j=>xr (I ((i+j:Nat):Int)) h | none=>x0 h:=by
 intro n
 induction n with
 | zero=>intro i h1 h2;omega
 | succ n ih=>
  intro i h1 h2
  show Z9y P T D N (Z44 P T D N x0 xr n) x0 xr _ _ _ _ h=_
  unfold Z9y
  rcases Nat.lt_or_ge i l.length with hi | hi
  ·have hx:l[i]? = some l[i]:=List.getElem?_eq_getElem hi
   have hlt:((i:Int)<(l.length:Int)):=by omega
   have hw:IntKind.i64.wrap ((i:Int)+1)=((i+1:Nat):Int):=by rw [wrap64 (by omega) (by omega)];omega
   have hpx:=hp l[i] (List.getElem_mem hi)
   have hex:=hE i l[i] hx
   rw [List.drop_eq_getElem_cons hi,List.findIdx?_cons]
   simp -implicitDefEqProofs only [Z08,hlt,decide_true,Z00,if_true,hex,hpx,Z0I,hw]
   cases hc:p l[i] with
   | true=>simp
   | false=>
    have h3:=ih (i+1) hi (by omega)
    simp only [Bool.false_eq_true,if_false]
    refine h3.trans ?_
    cases (List.drop (i+1) l).findIdx? p with
    | none=>rfl
    | some j=>
     show xr (I ((i+1+j:Nat):Int)) h=xr (I ((i+(j+1):Nat):Int)) h
     rw [show i+1+j=i+(j+1) by omega]
  ·have:i=l.length:=by omega
   subst this
   have c1:¬((l.length:Int)<(l.length:Int)):=by omega
   simp [c1]
theorem Zxd {l:List Docu} {v fv:AV} {h:Hp} {p:Docu→Bool} {K:AV→Hp→Option β} (hl:l.length<N) (hN:l.length<4611686018427387904) (hL:∀k:Go.AM.K β,lenK v k=k (I l.length)) (hE:∀(i:Nat) (x:Docu),l[i]? = some x→∀k:Go.AM.K β,iaK 7 v (I i) (fun q=>ldK 7 true q h k)=k (.agg (encDo x))) (hp:∀x ∈ l,∀k:AV→Hp→Option β,callVK T fv [.agg (encDo x)] h k=k (B (p x)) h):
  Z5p P T D N K v fv h=K (I (match l.findIdx? p with | some j=>(j:Int) | none => -1)) h:=by
 unfold Z5p
 simp only [hL]
 have:=Zxc (P:=P) (D:=D) (N:=N) (x0:=fun h=>Z9x P T D N K h) (xr:=fun a h=>K a h) hN hE hp N 0 (Nat.zero_le _) (by omega)
 simp only [List.drop_zero] at this
 refine this.trans ?_
 cases l.findIdx? p with
 | none=>rfl
 | some j=>simp
end
theorem Zxe {l m:List Msg} (hl:errM l=0) (hm:errM m=0) (hs:∀x ∈ l,x ∈ m):∀d ∈ allS l,∃y ∈ allS m,laterS d y=true:=by
 intro d hd
 have e1:allS l=(mvsG 0 (normL l)).map fun mv=>docS mv (normL l):=by unfold allS;rw [if_pos hl,ZbY]
 have e2:allS m=(mvsG 0 (normL m)).map fun mv=>docS mv (normL m):=by unfold allS;rw [if_pos hm,ZbY]
 rw [e1] at hd
 obtain ⟨mv,h1,rfl⟩:=List.mem_map.1 hd
 obtain ⟨x,hx,hxm⟩:=ZbZ _ _ _ h1
 have hxl:=Z51.1 hx
 have hc:=(Z6n.1 hl).2 x hxl
 have h0:mv≠0:=by
  intro hz
  rw [hz] at hxm
  unfold checkM at hc
  have hr:rangeM x=true:=by unfold rangeM;simp [hxm]
  rw [if_pos hr] at hc
  exact absurd hc (by decide)
 refine ⟨docS mv (normL m), ?_,Zx7 (Zx8 hs)⟩
 rw [e2]
 exact List.mem_map.2 ⟨mv,(Zx9 h0).2 ⟨x,Z51.2 (hs x hxl),hxm⟩,rfl⟩
attribute [local congr] Z0e Z0f Z0g Z0h Z0i Z0j Z0k Z0l Z0m Z0n Z0o Z0p Z0q Z0r Z0s Z0t Z0u Z0v Z0w Z0x Z0y Z0z Z0A Z0B Z0C Z0D Z0E
theorem ZiN (b1 b2:Bool) (i:Inbx) (hl:i.heard.length<1000) (hm:i.msgs.length<1000) (h:Hp):Z8e [ib b1 b2 i] h=some (if chkI i=0 then allV i.msgs else .tup [.lst 7 true [],I 1],h):=by
 have x0:∀k:AV→Hp→Option AV,effK (boxE 3 (ib b1 b2 i) ([]:Hp).length) [] k=k (.ptr 0 0 0 1) [bxI b1 b2 i]:=fun k=>rfl
 have l0:∀k:Go.AM.K AV,ldK 3 true (.ptr 0 0 0 1) [bxI b1 b2 i] k=k (ib b1 b2 i):=fun k=>rfl
 have l2:∀k:Go.AM.K AV,ldK 1 false (.ptr 0 0 2 1) [bxI b1 b2 i] k=k (SL 7 encM b2 i.msgs):=fun k=>rfl
 have fC:=Z6o b1 b2 i (by omega) hm
 have fA:=ZwL i.msgs b2 hm
 by_cases z:chkI i=0
 ·have ez:(!(chkI i==0))=false:=by simp [z]
  refine (ZhJ (a0:=ib b1 b2 i) (v:=allV i.msgs) rfl ?_ h).trans (by rw [if_pos z];rfl)
  rw [show nrm (.a [none,some 2,some 7]) (ib b1 b2 i)=ib b1 b2 i from rfl]
  have t0:∀k:Go.AM.K AV,exK (allV i.msgs) 0 k=k (.lst 7 (allS i.msgs).isEmpty ((allS i.msgs).map encDo)):=fun k=>rfl
  have t1:∀k:Go.AM.K AV,exK (allV i.msgs) 1 k=k (I (errM i.msgs)):=fun k=>rfl
  simp -implicitDefEqProofs only [Z6P,x0,l0,ZhI,Z03,fC,Z06,Bool.true_xor,ez,Z00,Bool.false_eq_true,if_false,Z07,Nat.zero_add,l2,ZuC,fA,t0,t1]
  rfl
 ·have ez:(!(chkI i==0))=true:=by simp [z]
  refine (ZhJ (a0:=ib b1 b2 i) (v := .tup [nilS,I 1]) rfl ?_ h).trans (by rw [if_neg z];rfl)
  rw [show nrm (.a [none,some 2,some 7]) (ib b1 b2 i)=ib b1 b2 i from rfl]
  simp -implicitDefEqProofs only [Z6P,x0,l0,ZhI,Z03,fC,Z06,Bool.true_xor,ez,Z00,if_true]
  rfl
theorem Zxf {o p:Outb} {c b:Bool} {h:Hp} {id:Nat} (ho:h[id]? = some (bxO c o)) (hl:o.pend.length<1000) (hp:p.pend.length<1000) (hall:∀y ∈ p.pend,y ∈ o.pend):Z8b [SL 10 encV b p.pend, .fn 37 [.ptr id 0 0 1]] h=some (B false,h):=by
 have at1:∀y,Z4V [.agg (encV y), .ptr id 0 0 1] h=some (B (!o.pend.contains y),h):=fun y=>by
  refine Zua (g:=[bxE y]) ?_ rfl
  have bx:∀k:AV→Hp→Option (AV × Hp),effK (boxE 10 (.agg (encV y)) h.length) h k=k (.ptr h.length 0 0 1) (h++[bxE y]):=fun k=>Z12 10 h.length (.agg (encV y)) h k rfl rfl rfl
  have l1:∀k:Go.AM.K (AV × Hp),ldK 1 false (.ptr id 0 2 1) (h++[bxE y]) k=k (SL 10 encV c o.pend):=fun k=>by rw [Z01,Z09 ho];rfl
  have l2:∀k:Go.AM.K (AV × Hp),ldK 10 true (.ptr h.length 0 0 1) (h++[bxE y]) k=k (.agg (encV y)):=fun k=>by rw [Z01,Z0O];rfl
  have fP:∀h,Z3s [SL 10 encV c o.pend, .agg (encV y)] h=some (B (o.pend.contains y),h):=fun h=>ZiK o.pend (c&&o.pend.isEmpty) y (by omega) (fun x y h k=>by rw [ZiL,Bool.false_xor]) h
  simp -implicitDefEqProofs only [Z92,bx,Z07,Nat.zero_add,l1,l2,Zu7,Z03,fP,Z0J]
 have fi:Z89 [SL 10 encV b p.pend, .fn 37 [.ptr id 0 0 1]] h=some (I (-1),h):=
  Zuh (g:=[]) (by
   rw [List.append_nil]
   have:=Zdv (T:=Z4W) (P:=Try.prog) (D:=Z88) (N:=NN) (K:=fun v h=>some (v,h)) (l:=p.pend) (v:=SL 10 encV b p.pend) (fv := .fn 37 [.ptr id 0 0 1]) (h:=h) (p:=fun y => !o.pend.contains y) (by have:=NN_ge;omega) (by omega) (fun k=>by rw [SL,Z0d,List.length_map]) (fun i y hy k=>by rw [SL,Z0P i rfl hy];rfl) (fun y hy k=>by
    show callK (Z4W 37) [.agg (encV y), .ptr id 0 0 1] h k=_
    simp -implicitDefEqProofs only [Zud,Z03,at1])
   rw [this,show p.pend.findIdx? (fun y => !o.pend.contains y)=none from List.findIdx?_eq_none_iff.2 fun y hy=>by simp [hall y hy]]) rfl
 refine Zuo (g:=[]) ?_ rfl
 rw [List.append_nil]
 simp -implicitDefEqProofs only [Z91,Zuk,Z03,fi,Z0T]
 rfl
theorem Zxg {a i:Inbx} {b1 b2 c2:Bool} {h:Hp} {id:Nat} (ha:h[id]? = some (bxI b1 b2 a)) (hl:a.msgs.length<1000000) (hi:i.msgs.length<1000) (hall:∀m ∈ i.msgs,m ∈ a.msgs):Z86 [SL 7 encM c2 i.msgs, .fn 38 [.ptr id 0 0 1]] h=some (B false,h):=by
 have at1:∀m,Z4T [.agg (encM m), .ptr id 0 0 1] h=some (B (!a.msgs.contains m),h):=fun m=>by
  refine ZtQ (g:=[.arr 7 [encM m] true false]) ?_ rfl
  have bx:∀k:AV→Hp→Option (AV × Hp),effK (boxE 7 (.agg (encM m)) h.length) h k=k (.ptr h.length 0 0 1) (h++[.arr 7 [encM m] true false]):=fun k=>Z12 7 h.length (.agg (encM m)) h k rfl rfl rfl
  have l1:∀k:Go.AM.K (AV × Hp),ldK 1 false (.ptr id 0 2 1) (h++[.arr 7 [encM m] true false]) k=k (SL 7 encM b2 a.msgs):=fun k=>by rw [Z01,Z09 ha];rfl
  have l2:∀k:Go.AM.K (AV × Hp),ldK 7 true (.ptr h.length 0 0 1) (h++[.arr 7 [encM m] true false]) k=k (.agg (encM m)):=fun k=>by rw [Z01,Z0O];rfl
  have fM:∀h,Z4q [SL 7 encM b2 a.msgs, .agg (encM m)] h=some (B (a.msgs.contains m),h):=fun h=>Zi5 a.msgs (b2&&a.msgs.isEmpty) m hl (fun x y h k=>by rw [Z6k,Bool.false_xor]) h
  simp -implicitDefEqProofs only [Z93,bx,Z07,Nat.zero_add,l1,l2,ZtN,Z03,fM,Z0J]
 have fi:Z84 [SL 7 encM c2 i.msgs, .fn 38 [.ptr id 0 0 1]] h=some (I (-1),h):=
  ZtX (g:=[]) (by
   rw [List.append_nil]
   have:=Zxb (T:=Z4U) (P:=Try.prog) (D:=Z83) (N:=NN) (K:=fun v h=>some (v,h)) (l:=i.msgs) (v:=SL 7 encM c2 i.msgs) (fv := .fn 38 [.ptr id 0 0 1]) (h:=h) (p:=fun m => !a.msgs.contains m) (by have:=NN_ge;omega) (by omega) (fun k=>by rw [SL,Z0d,List.length_map]) (fun i y hy k=>by rw [SL,Z0P i rfl hy];rfl) (fun y hy k=>by
    show callK (Z4U 38) [.agg (encM y), .ptr id 0 0 1] h k=_
    simp -implicitDefEqProofs only [ZtT,Z03,at1])
   rw [this,show i.msgs.findIdx? (fun m => !a.msgs.contains m)=none from List.findIdx?_eq_none_iff.2 fun y hy=>by simp [hall y hy]]) rfl
 refine Zu4 (g:=[]) ?_ rfl
 rw [List.append_nil]
 simp -implicitDefEqProofs only [Z4x,Zu0,Z03,fi,Z0T]
 rfl
theorem Zxh {d:Docu} {L:List Docu} {b:Bool} {h:Hp} {id:Nat} (hd:h[id]? = some (.arr 7 [encDo d] true false)) (hL:L.length<1000):Z8m [.lst 7 b (L.map encDo), .fn 41 [.ptr id 0 0 1]] h=some (B (L.any fun y=>laterS d y),h):=by
 have at1:∀y,Z4Z [.agg (encDo y), .ptr id 0 0 1] h=some (B (laterS d y),h):=fun y=>by
  refine ZuY (g:=[.arr 7 [encDo y] true false]) ?_ rfl
  have bx:∀k:AV→Hp→Option (AV × Hp),effK (boxE 7 (.agg (encDo y)) h.length) h k=k (.ptr h.length 0 0 1) (h++[.arr 7 [encDo y] true false]):=fun k=>Z12 7 h.length (.agg (encDo y)) h k rfl rfl rfl
  have l1:∀k:Go.AM.K (AV × Hp),ldK 7 true (.ptr id 0 0 1) (h++[.arr 7 [encDo y] true false]) k=k (.agg (encDo d)):=fun k=>by rw [Z01,Z09 hd];rfl
  have l2:∀k:Go.AM.K (AV × Hp),ldK 7 true (.ptr h.length 0 0 1) (h++[.arr 7 [encDo y] true false]) k=k (.agg (encDo y)):=fun k=>by rw [Z01,Z0O];rfl
  have fL:=fun h=>Zvw d y h
  simp -implicitDefEqProofs only [Z95,bx,l1,l2,ZuV,Z03,fL]
 have fi:Z8k [.lst 7 b (L.map encDo), .fn 41 [.ptr id 0 0 1]] h=some (I (match L.findIdx? (fun y=>laterS d y) with | some j=>(j:Int) | none => -1),h):=
  Zv5 (g:=[]) (by
   rw [List.append_nil]
   refine Zxd (T:=Z50) (P:=Try.prog) (D:=Z8j) (N:=NN) (K:=fun v h=>some (v,h)) (l:=L) (v := .lst 7 b (L.map encDo)) (fv := .fn 41 [.ptr id 0 0 1]) (h:=h) (p:=fun y=>laterS d y) (by have:=NN_ge;omega) (by omega) (fun k=>by rw [Z0d,List.length_map]) (fun i y hy k=>by rw [Z0P i rfl hy];rfl) (fun y hy k=>by
    show callK (Z50 41) [.agg (encDo y), .ptr id 0 0 1] h k=_
    simp -implicitDefEqProofs only [Zv1,Z03,at1])) rfl
 refine Zvc (g:=[]) ?_ rfl
 rw [List.append_nil]
 simp -implicitDefEqProofs only [Z94,Zv8,Z03,fi,Z0T]
 have:(L.any fun y=>laterS d y)=(L.findIdx? (fun y=>laterS d y)).isSome:=by rw [List.findIdx?_isSome]
 rw [this]
 cases L.findIdx? (fun y=>laterS d y)<;>simp
theorem Zxi {x2:Hp→Option AV} {xr:AV→Hp→Option AV} {A L:List Docu} {b1 b2:Bool} (hA:A.length<1000) (hL:L.length<1000) (h2:∀h,x2 h=some (B true)) (hall:∀d ∈ A,∃y ∈ L,laterS d y=true):∀(n:Nat) (pre post:List Docu) (H:Hp),A=pre++post→post.length<n→
  Z3A Try.prog Z0N Z0Y NN x2 xr n (.lst 7 b2 (L.map encDo)) (.lst 7 b1 (A.map encDo)) (I A.length) (I pre.length) H=some (B true):=by
 intro n
 induction n with
 | zero=>intro pre post H _ h2;omega
 | succ n ih=>
  intro pre post H hc hn
  show Z6K Try.prog Z0N Z0Y NN (Z3A Try.prog Z0N Z0Y NN x2 xr n) x2 xr _ _ _ _ H=_
  cases post with
  | nil=>
   have:A=pre:=by simpa using hc
   have c3:¬((pre.length:Int)<(A.length:Int)):=by rw [this];omega
   simp -implicitDefEqProofs only [Z6K,Z08,c3,decide_false,Z00,Bool.false_eq_true,if_false,h2]
  | cons d post=>
   have hx:A[pre.length]? = some d:=by rw [hc];simp
   have hi:pre.length<A.length:=by rw [hc];simp
   have hlt:((pre.length:Int)<(A.length:Int)):=by omega
   have hw:IntKind.i64.wrap ((pre.length:Int)+1)=(((pre++[d]).length:Nat):Int):=by rw [wrap64 (by omega) (by omega)];simp
   have ia:∀k':Go.AM.K AV,iaK 7 (.lst 7 b1 (A.map encDo)) (I pre.length) k'=k' (.ep (encDo d) 0):=fun k'=>Z0P pre.length rfl hx k'
   have lx:∀k:Go.AM.K AV,ldK 7 true (.ep (encDo d) 0) H k=k (.agg (encDo d)):=fun k=>rfl
   obtain ⟨H1,hH1⟩:∃H1:Hp,H1=H++[AObj.arr 7 [encDo d] true false]:=⟨_,rfl⟩
   have bx:∀k:AV→Hp→Option AV,effK (boxE 7 (.agg zM) H.length) H k=k (.ptr H.length 0 0 1) (H++[.arr 7 [zM] true false]):=fun k=>Z12 7 H.length (.agg zM) H k rfl rfl rfl
   have ns:∀k:AV→Hp→Option AV,effK (stE 7 (.ptr H.length 0 0 1) (.agg (encDo d)) (H++[.arr 7 [zM] true false])) (H++[.arr 7 [zM] true false]) k=k .u H1:=fun k=>by
    rw [Z0F (v := .u) (id:=H.length) (o := .arr 7 [encDo d] true false) (ft:=[H.length]) (by simp [encDo]),Z3f,hH1];rfl
   have fA:=Zxh (d:=d) (L:=L) (b:=b2) (h:=H1) (id:=H.length) (by rw [hH1,Z0O];rfl) hL
   obtain ⟨y,hy1,hy2⟩:=hall d (by rw [hc];simp)
   have e:(L.any fun y=>laterS d y)=true:=List.any_eq_true.2 ⟨y,hy1,hy2⟩
   rw [e] at fA
   have hrec:=ih (pre++[d]) post H1 (by simp [hc]) (by simpa using hn)
   simp -implicitDefEqProofs only [Z6K,Z08,hlt,decide_true,Z00,if_true,ia,lx,bx,ns,Zvm,Z03,fA,Z0J,Bool.not_true,Bool.false_eq_true,if_false,Z0I,hw]
   exact hrec
structure KpI (i:Inbx) (c1 c2:Bool) (p:Outb) (b:Bool) (j:Inbx) (b1 b2:Bool) (H:Hp):Prop where
 g1:H[1]? = some (bxI c1 c2 i)
 g3:H[3]? = some (bxO b p)
 g4:H[4]? = some (bxI b1 b2 j)
theorem KpI.app {i j:Inbx} {c1 c2 b b1 b2:Bool} {p:Outb} {H:Hp} (J:KpI i c1 c2 p b j b1 b2 H) (g:Hp):KpI i c1 c2 p b j b1 b2 (H++g):=⟨Z09 J.g1,Z09 J.g3,Z09 J.g4⟩
theorem Zxj {x0:AV→AV→Hp→Option AV} {xr:AV→Hp→Option AV} {o p:Outb} {c b:Bool} {i j:Inbx} {c1 c2 b1 b2:Bool} {Y:Option AV} (ho:o.pend.length<1000) (hp:p.pend.length<1000) (hj:j.heard.length<1000) (h0:∀H,KpI i c1 c2 p b j b1 b2 H→x0 (.ptr 1 0 0 1) (.ptr 4 0 0 1) H=Y) (hall:∀y ∈ o.pend,y ∉ p.pend→y.to=i.node∧hdE y ∈ j.heard):∀(n:Nat) (pre post:List Envl) (H:Hp),o.pend=pre++post→post.length<n→KpI i c1 c2 p b j b1 b2 H→
  Z3B Try.prog Z0N Z0Y NN x0 xr n (.ptr 1 0 0 1) (.ptr 3 0 0 1) (.ptr 4 0 0 1) (SL 10 encV c o.pend) (I o.pend.length) (I pre.length) H=Y:=by
 intro n
 induction n with
 | zero=>intro pre post H _ h2;omega
 | succ n ih=>
  intro pre post H hc hn J
  show Z5h Try.prog Z0N Z0Y NN (Z3B Try.prog Z0N Z0Y NN x0 xr n) x0 xr _ _ _ _ _ _ H=_
  cases post with
  | nil=>
   have:o.pend=pre:=by simpa using hc
   have c3:¬((pre.length:Int)<(o.pend.length:Int)):=by rw [this];omega
   simp -implicitDefEqProofs only [Z5h,Z08,c3,decide_false,Z00,Bool.false_eq_true,if_false,h0 H J]
  | cons y post=>
   have hx:o.pend[pre.length]? = some y:=by rw [hc];simp
   have hi:pre.length<o.pend.length:=by rw [hc];simp
   have hlt:((pre.length:Int)<(o.pend.length:Int)):=by omega
   have hw:IntKind.i64.wrap ((pre.length:Int)+1)=(((pre++[y]).length:Nat):Int):=by rw [wrap64 (by omega) (by omega)];simp
   have ia:∀k':Go.AM.K AV,iaK 10 (SL 10 encV c o.pend) (I pre.length) k'=k' (.ep (encV y) 0):=fun k'=>Z0P pre.length rfl hx k'
   have lx:∀k:Go.AM.K AV,ldK 10 true (.ep (encV y) 0) H k=k (.agg (encV y)):=fun k=>rfl
   obtain ⟨H1,hH1⟩:∃H1:Hp,H1=H++[bxE y]:=⟨_,rfl⟩
   have bx:∀k:AV→Hp→Option AV,effK (boxE 10 (.agg zE) H.length) H k=k (.ptr H.length 0 0 1) (H++[.arr 10 [zE] true false]):=fun k=>Z12 10 H.length (.agg zE) H k rfl rfl rfl
   have ns:∀k:AV→Hp→Option AV,effK (stE 10 (.ptr H.length 0 0 1) (.agg (encV y)) (H++[.arr 10 [zE] true false])) (H++[.arr 10 [zE] true false]) k=k .u H1:=fun k=>by
    rw [Z0F (v := .u) (id:=H.length) (o:=bxE y) (ft:=[H.length]) (by simp [encV,encM]),Z3f,hH1];rfl
   have J1:KpI i c1 c2 p b j b1 b2 H1:=by rw [hH1];exact J.app _
   have gy:H1[H.length]? = some (bxE y):=by rw [hH1,Z0O];rfl
   have y0:∀k:Go.AM.K AV,ldK 1 false (.ptr H.length 0 0 1) H1 k=k (I y.frm):=fun k=>by rw [Z01,gy];rfl
   have y1:∀k:Go.AM.K AV,ldK 1 false (.ptr H.length 0 1 1) H1 k=k (I y.to):=fun k=>by rw [Z01,gy];rfl
   have y2:∀k:Go.AM.K AV,ldK 1 false (.ptr H.length 0 2 1) H1 k=k (I y.num):=fun k=>by rw [Z01,gy];rfl
   have yw:∀k:Go.AM.K AV,ldK 10 true (.ptr H.length 0 0 1) H1 k=k (.agg (encV y)):=fun k=>by rw [Z01,gy];rfl
   have i0:∀k:Go.AM.K AV,ldK 1 false (.ptr 1 0 0 1) H1 k=k (I i.node):=fun k=>by rw [Z01,J1.g1];rfl
   have p2:∀k:Go.AM.K AV,ldK 1 false (.ptr 3 0 2 1) H1 k=k (SL 10 encV b p.pend):=fun k=>by rw [Z01,J1.g3];rfl
   have j1:∀k:Go.AM.K AV,ldK 1 false (.ptr 4 0 1 1) H1 k=k (SL 2 encH b1 j.heard):=fun k=>by rw [Z01,J1.g4];rfl
   have bK:∀k:Go.AM.K AV,buildK zH [(some (0,1),I y.frm),(some (1,1),I y.num)] k=k (.agg (encH (hdE y))):=fun k=>rfl
   have fP:∀h,Z3s [SL 10 encV b p.pend, .agg (encV y)] h=some (B (p.pend.contains y),h):=fun h=>ZiK p.pend (b&&p.pend.isEmpty) y (by omega) (fun x y h k=>by rw [ZiL,Bool.false_xor]) h
   have fH:∀h,Z4p [SL 2 encH b1 j.heard, .agg (encH (hdE y))] h=some (B (j.heard.contains (hdE y)),h):=fun h=>Zip j.heard (b1&&j.heard.isEmpty) (hdE y) (by omega) (fun x y h k=>by rw [Zdx,Bool.false_xor]) h
   have hrec:=ih (pre++[y]) post H1 (by simp [hc]) (by simpa using hn) J1
   by_cases q:y ∈ p.pend
   ·rw [List.contains_iff_mem.2 q] at fP
    simp -implicitDefEqProofs only [Z5h,Z08,hlt,decide_true,Z00,if_true,ia,lx,bx,ns,Z07,Nat.zero_add,p2,yw,ZhL,Z03,fP,Z0J,Bool.not_true,Z6I,Bool.false_eq_true,if_false,Z0I,hw]
    exact hrec
   ·have e1:p.pend.contains y=false:=by
     cases hq:p.pend.contains y with
     | false=>rfl
     | true=>exact absurd (List.contains_iff_mem.1 hq) q
    rw [e1] at fP
    obtain ⟨h3,h4⟩:=hall y (by rw [hc];simp) q
    rw [List.contains_iff_mem.2 h4] at fH
    have e3:(y.to==i.node)=true:=by simp [h3]
    simp -implicitDefEqProofs only [Z5h,Z08,hlt,decide_true,Z00,if_true,ia,lx,bx,ns,Z07,Nat.zero_add,p2,yw,ZhL,Z03,fP,Z0J,Bool.not_false,Z3e,y1,i0,Z06,Bool.true_xor,e3,Bool.not_true,Z5d,j1,y0,y2,bK,Zvi,fH,Bool.false_eq_true,if_false,Z0I,hw]
    exact hrec
end Go.AM


namespace Go.AM
open Go.Proofs
set_option linter.unusedVariables false
set_option linter.unusedSimpArgs false
set_option linter.constructorNameAsVariable false
set_option maxRecDepth 20000
attribute [local congr] Z0e Z0f Z0g Z0h Z0i Z0j Z0k Z0l Z0m Z0n Z0o Z0p Z0q Z0r Z0s Z0t Z0u Z0v Z0w Z0x Z0y Z0z Z0A Z0B Z0C Z0D Z0E
set_option maxHeartbeats 4000000 in
theorem keeps_law (o:Outb) (c:Bool) (i:Inbx) (c1 c2:Bool) (x:Bts):Zdj [.agg (cellsO c o), .agg (cellsI c1 c2 i), .agg (encB x)] []=some (B true,[]):=by
 refine Zvp (a0:=ob c o) (a1:=ib c1 c2 i) (a2 := .agg (encB x)) rfl ?_ []
 rw [show nrm (.a [none,none,some 10]) (ob c o)=ob c o from rfl,show nrm (.a [none,some 2,some 7]) (ib c1 c2 i)=ib c1 c2 i from rfl]
 obtain ⟨H,hH⟩:∃H:Hp,H=[bxO c o,bxI c1 c2 i, .arr 2 [encB x] true false]:=⟨_,rfl⟩
 have x0:∀k:AV→Hp→Option AV,effK (boxE 3 (ob c o) ([]:Hp).length) [] k=k (.ptr 0 0 0 1) [bxO c o]:=fun k=>rfl
 have x1:∀k:AV→Hp→Option AV,effK (boxE 3 (ib c1 c2 i) ([bxO c o]:Hp).length) [bxO c o] k=k (.ptr 1 0 0 1) [bxO c o,bxI c1 c2 i]:=fun k=>rfl
 have x2:∀k:AV→Hp→Option AV,effK (boxE 2 (.agg (encB x)) ([bxO c o,bxI c1 c2 i]:Hp).length) [bxO c o,bxI c1 c2 i] k=k (.ptr 2 0 0 1) H:=fun k=>by rw [hH];rfl
 have lo2:∀k:Go.AM.K AV,ldK 1 false (.ptr 0 0 2 1) H k=k (SL 10 encV c o.pend):=fun k=>by rw [hH];rfl
 have lnP:∀(b:Bool) (l:List Envl) (k:Go.AM.K AV),lenK (SL 10 encV b l) k=k (I l.length):=fun b l k=>by rw [SL,Z0d,List.length_map]
 have lnH:∀(b:Bool) (l:List Hrd) (k:Go.AM.K AV),lenK (SL 2 encH b l) k=k (I l.length):=fun b l k=>by rw [SL,Z0d,List.length_map]
 have li:∀k:Go.AM.K AV,ldK 3 true (.ptr 1 0 0 1) H k=k (ib c1 c2 i):=fun k=>by rw [hH];rfl
 have lo:∀k:Go.AM.K AV,ldK 3 true (.ptr 0 0 0 1) H k=k (ob c o):=fun k=>by rw [hH];rfl
 have b0:∀k:Go.AM.K AV,ldK 1 false (.ptr 2 0 0 1) H k=k (.s (.int .u64 (x.1.1:Int))):=fun k=>by rw [hH];rfl
 have b1:∀k:Go.AM.K AV,ldK 1 false (.ptr 2 0 1 1) H k=k (.s (.int .u64 (x.2.1:Int))):=fun k=>by rw [hH];rfl
 have fw:=Zwz
 have fs:=ZwX c1 c2 i
 simp -implicitDefEqProofs only [Z6L,x0,x1,x2,Zvf,Z03,fw,Z0J,Bool.not_true,Z00,Bool.false_eq_true,if_false,Z07,Nat.zero_add,lo2,lnP,Z0L,li,Zvh,fs,Z0M]
 by_cases big:o.pend.length≤14∧smallI i=true
 ·obtain ⟨q1,q2⟩:=big
  have q2':=q2
  unfold smallI at q2'
  simp only [Bool.and_eq_true,decide_eq_true_eq] at q2'
  obtain ⟨a3,a4⟩:=q2'
  have e:(decide ((o.pend.length:Int) > 14) || !smallI i)=false:=by simp [q2];omega
  have k1:∀(h:Hp) (k:AV→Hp→Ent→Option AV),effD (callE (Z0Y 28) [ob c o] h h.length) h k=k (ob false o) h ([],[]):=ZdH (fun h=>Zx5 c o (by omega) h) (by simp [idss,ZiF])
  have k2:∀(h:Hp) (k:AV→Hp→Ent→Option AV),effD (callE (Z0Y 14) [ib c1 c2 i] h h.length) h k=k (ib false false i) h ([],[]):=ZdH (fun h=>ZdE c1 c2 i (by omega) (by omega) h) (by simp [idss,ZiE])
  obtain ⟨d,d1,d2,hE⟩:=ZdB false o false false i x.1.1 x.2.1 x.1.2 x.2.2 (by omega) (by omega) (by omega) []
  have hlen:=Zx6 o i x.1.1 x.2.1
  have hbad:=@Zx2 o i x.1.1 x.2.1
  have hgood:(exO o i x.1.1 x.2.1).2.2=0→chkI i=0∧chkI (exO o i x.1.1 x.2.1).2.1=0∧Aft o i (exO o i x.1.1 x.2.1).1 (exO o i x.1.1 x.2.1).2.1:=fun hz=>by
   obtain ⟨g1,g2,F, -⟩:=ZiJ hz
   exact ⟨g2,F.ci,(Aft.refl o i).step g1 hz⟩
  generalize exO o i x.1.1 x.2.1=r at hE hlen hbad hgood
  obtain ⟨p,j,er⟩:=r
  unfold exV at hE
  dsimp only at hE hlen hbad hgood
  have k3:∀(h:Hp) (k:AV→Hp→Ent→Option AV),effD (callE (Z0Y 30) [ob false o,ib false false i, .s (.int .u64 (x.1.1:Int)), .s (.int .u64 (x.2.1:Int))] h h.length) h k=k (.tup [ob d p,ib d1 d2 j,I er]) h ([],[]):=ZdH (ZwU rfl hE) (by simp [idss,ZiE,ZiF,ids])
  obtain ⟨H5,hH5⟩:∃H5:Hp,H5=[bxO c o,bxI c1 c2 i, .arr 2 [encB x] true false,bxO d p,bxI d1 d2 j]:=⟨_,rfl⟩
  have d4:∀k:AV→Hp→Ent→Option AV,effD (boxE 3 (.agg zO) H.length) H k=k (.ptr 3 0 0 1) (H++[.arr 3 [zO] true false]) ([],[3]):=fun k=>by rw [hH];rfl
  have d5:∀k:AV→Hp→Ent→Option AV,effD (boxE 3 (.agg zI) (H++[AObj.arr 3 [zO] true false]).length) (H++[.arr 3 [zO] true false]) k=k (.ptr 4 0 0 1) (H++[.arr 3 [zO] true false, .arr 3 [zI] true false]) ([],[4]):=fun k=>by rw [hH];rfl
  have d6:∀k:AV→Hp→Ent→Option AV,effD (stE 3 (.ptr 3 0 0 1) (ob d p) (H++[.arr 3 [zO] true false, .arr 3 [zI] true false])) (H++[.arr 3 [zO] true false, .arr 3 [zI] true false]) k=k .u (H++[bxO d p, .arr 3 [zI] true false]) ([3],[3]):=fun k=>by rw [hH];rfl
  have d7:∀k:AV→Hp→Ent→Option AV,effD (stE 3 (.ptr 4 0 0 1) (ib d1 d2 j) (H++[bxO d p, .arr 3 [zI] true false])) (H++[bxO d p, .arr 3 [zI] true false]) k=k .u H5 ([4],[4]):=fun k=>by rw [hH,hH5];rfl
  have dj:disjAll [(1,2),(1,5),(3,5),(1,7),(3,7),(0,13),(1,13),(2,13),(3,13),(5,13),(7,13),(8,13),(0,14),(1,14),(2,14),(3,14),(5,14),(7,14),(8,14),(13,14)] [(idsOf (.ptr 0 0 0 1),[]),([],[]),(idsOf (.ptr 1 0 0 1),[]),([],[]),([],[]),(idsOf (.ptr 2 0 0 1),[]),([],[]),(idsOf (.ptr 2 0 1 1),[]),([],[]),([],[]),([],[]),([],[]),([],[]),([],[3]),([],[4]),([3],[3]),([4],[4]),([],[])]=true:=rfl
  have t0:∀(a b c:AV) (k:Go.AM.K AV),exK (.tup [a,b,c]) 0 k=k a:=fun a b c k=>rfl
  have t1:∀(a b c:AV) (k:Go.AM.K AV),exK (.tup [a,b,c]) 1 k=k b:=fun a b c k=>rfl
  have t2:∀(a b c:AV) (k:Go.AM.K AV),exK (.tup [a,b,c]) 2 k=k c:=fun a b c k=>rfl
  have p0:∀k:Go.AM.K AV,ldK 1 false (.ptr 3 0 0 1) H5 k=k (I p.node):=fun k=>by rw [hH5];rfl
  have p1:∀k:Go.AM.K AV,ldK 1 false (.ptr 3 0 1 1) H5 k=k (I p.next):=fun k=>by rw [hH5];rfl
  have p2:∀k:Go.AM.K AV,ldK 1 false (.ptr 3 0 2 1) H5 k=k (SL 10 encV d p.pend):=fun k=>by rw [hH5];rfl
  have j0:∀k:Go.AM.K AV,ldK 1 false (.ptr 4 0 0 1) H5 k=k (I j.node):=fun k=>by rw [hH5];rfl
  have j1:∀k:Go.AM.K AV,ldK 1 false (.ptr 4 0 1 1) H5 k=k (SL 2 encH d1 j.heard):=fun k=>by rw [hH5];rfl
  have o1:∀k:Go.AM.K AV,ldK 1 false (.ptr 0 0 1 1) H5 k=k (I o.next):=fun k=>by rw [hH5];rfl
  have o2:∀k:Go.AM.K AV,ldK 1 false (.ptr 0 0 2 1) H5 k=k (SL 10 encV c o.pend):=fun k=>by rw [hH5];rfl
  simp -implicitDefEqProofs only [e,Bool.false_eq_true,if_false,lo,k1,li,k2,Z07,Nat.zero_add,b0,b1,k3,t0,t1,t2,d4,d5,d6,d7,dj,cond_true,Z06,Bool.true_xor,Z00]
  by_cases z:er=0
  ·have ez:(!(er==0))=false:=by simp [z]
   obtain ⟨g1,g2,A⟩:=hgood z
   have f1:=Zxf (o:=o) (p:=p) (c:=c) (b:=d) (h:=H5) (id:=0) (by rw [hH5];rfl) (by omega) (by omega) A.sub
   have hnx:(!(p.next==o.next))=false:=by simp [A.nx]
   simp -implicitDefEqProofs only [ez,Bool.false_eq_true,if_false,p2,Zvk,Z03,f1,Z5d,p1,o1,Z06,Bool.true_xor,hnx,Z00,o2,lnP]
   have J5:KpI i c1 c2 p d j d1 d2 H5:=by rw [hH5];exact ⟨rfl,rfl,rfl⟩
   refine Zxj (x0:=fun w162_4 w162_8 h=>Z5g Try.prog Z0N Z0Y NN (fun v g=>cvt false g v) w162_4 w162_8 h) (o:=o) (c:=c) (Y:=some (B true)) (by omega) (by omega) (by omega) (fun H J => ?_) A.gone NN [] o.pend H5 rfl (by have:=NN_ge;omega) J5
   have i2:∀k:Go.AM.K AV,ldK 1 false (.ptr 1 0 2 1) H k=k (SL 7 encM c2 i.msgs):=fun k=>by rw [Z01,J.g1];rfl
   have iw:∀k:Go.AM.K AV,ldK 3 true (.ptr 1 0 0 1) H k=k (ib c1 c2 i):=fun k=>ldI3 J.g1 k
   have jw:∀k:Go.AM.K AV,ldK 3 true (.ptr 4 0 0 1) H k=k (ib d1 d2 j):=fun k=>ldI3 J.g4 k
   have f2:=Zxg (a:=j) (i:=i) (c2:=c2) (h:=H) (id:=4) J.g4 (by omega) (by omega) A.mm
   have y1:=fun h=>ZdE c1 c2 i (by omega) (by omega) h
   have y2:=fun h=>ZdE d1 d2 j (by omega) (by omega) h
   have y3:=fun h=>ZiN false false i (by omega) (by omega) h
   have y4:=fun h=>ZiN false false j (by omega) (by omega) h
   rw [if_pos g1] at y3
   rw [if_pos g2] at y4
   have s0:∀(l:List Msg) (k:Go.AM.K AV),exK (allV l) 0 k=k (.lst 7 (allS l).isEmpty ((allS l).map encDo)):=fun l k=>rfl
   have s1:∀(l:List Msg) (k:Go.AM.K AV),exK (allV l) 1 k=k (I (errM l)):=fun l k=>rfl
   obtain ⟨-, -,m3, -,m5, -⟩:=Z8q g1
   obtain ⟨-, -,n3, -,n5, -⟩:=Z8q g2
   have hl1:=Ziz i.msgs
   have hl2:=Ziz j.msgs
   have lnD:∀(l:List Docu) (b:Bool) (k:Go.AM.K AV),lenK (.lst 7 b (l.map encDo)) k=k (I l.length):=fun l b k=>by rw [Z0d,List.length_map]
   simp -implicitDefEqProofs only [Z5g,Z07,Nat.zero_add,i2,Zvj,Z03,f2,Z00,Bool.false_eq_true,if_false,iw,Zvg,y1,Zvl,y3,s0,s1,jw,y2,y4,m5,n5,Z06,beq_self_eq_true,Bool.true_xor,Bool.not_true,Z5d,lnD]
   exact Zxi (x2:=fun h=>Z8P Try.prog Z0N Z0Y NN (fun v g=>cvt false g v) h) (by omega) (by omega) (fun h=>rfl) (Zxe m5 n5 A.mm) NN [] (allS i.msgs) H rfl (by have:=NN_ge;omega)
  ·have ez:(!(er==0))=true:=by simp [z]
   obtain ⟨o1',o2'⟩:=hbad z
   subst o1'
   subst o2'
   have z1:∀(b:Bool) (k:Go.AM.K AV),lenK (SL 10 encV b []) k=k (I 0):=fun b k=>rfl
   have z2:∀(b:Bool) (k:Go.AM.K AV),lenK (SL 2 encH b []) k=k (I 0):=fun b k=>rfl
   simp -implicitDefEqProofs only [ez,if_true,Z07,Nat.zero_add,p0,Z06,beq_self_eq_true,Bool.false_xor,Z3e,p2,z1,j0,j1,z2]
   rfl
 ·have e:(decide ((o.pend.length:Int) > 14) || !smallI i)=true:=by
   cases z1:decide ((o.pend.length:Int) > 14) with
   | true=>rfl
   | false=>
    cases z2:smallI i with
    | false=>rfl
    | true=>
     simp only [decide_eq_false_iff_not] at z1
     exact absurd ⟨by omega,z2⟩ big
  simp -implicitDefEqProofs only [e,if_true]
  rfl
end Go.AM

