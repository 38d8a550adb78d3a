import Derived.Test.YtfpkacmgcaojlaaGreatG4
set_option linter.unusedSectionVars false
set_option linter.unusedVariables false
set_option linter.unusedSimpArgs false
set_option linter.constructorNameAsVariable false
set_option maxRecDepth 100000
noncomputable section
namespace Go.AM
open Go.Proofs
section
variable {β:Type} {P:Program} {T:Tab} {D:DTab} {N:Nat}
variable {K:Kb β}
end
end Go.AM


namespace Go.AM
open Go.Proofs
section
variable {β:Type} {P:Program} {T:Tab} {D:DTab} {N:Nat} {K:Kb β}
end
end Go.AM


namespace Go.AM
open Go.Proofs
def win(n lo hi:Int):Bool:=decide (lo≤n)&&decide (n≤hi)
section
variable {β:Type} {P:Program} {T:Tab} {D:DTab} {N:Nat} {K:Kb β}
end
end Go.AM


namespace Go.AM
open Go.Proofs
structure Leg where
 day:Int
 kind:Int
 place:Int
 to:Int
 alc:Int
deriving DecidableEq
def encL(x:Leg):List AV:=[I x.day,I x.kind,I x.place,I x.to,I x.alc]
structure Jny where
 dep:Int
 spl:Int
 lost:Int
 arr:Int
 tra:Int
 frm:Int
 to:Int
 halt:Bool
 endd:Bool
deriving DecidableEq
def encJ(j:Jny):List AV:=[I j.dep,I j.spl,I j.lost,I j.arr,I j.tra,I j.frm,I j.to,B j.halt,B j.endd]
def zeroJ:Jny:=⟨0,0,0,0,0,0,0,false,false⟩
def partL(x:Leg):Bool:=x.place==0&&x.to==0&&win x.alc 1 10737418240000
def formL(x:Leg):Bool:=
 if x.kind=1 then win x.place 1 99&&win x.to 1 99&&x.place != x.to&&win x.alc 1 10737418240000
 else if x.kind=2 then win x.place 1 99&&x.to==0&&x.alc==0
 else if x.kind=3 then x.place==0&&x.to==0&&x.alc==0
 else if x.kind=4 then x.place==0&&win x.to 1 99&&x.alc==0
 else if x.kind=5 then partL x
 else if x.kind=6 then partL x
 else win x.place 1 99&&x.to==0&&win x.alc 0 10737418240000
def refL(j:Jny)(k:Int):Bool:=if k=2 then j.halt else if k=3 then !j.halt else if k=7 then j.halt else false
def faultL(j:Jny)(begun:Bool)(last:Int)(x:Leg):Int:=
 if (win x.day 0 100000&&win x.kind 1 7&&formL x)=false then 2
 else if x.day<last then 5
 else if ((begun==decide (x.kind=1))||j.endd||refL j x.kind)=true then 11
 else if (x.kind=4∧x.to=j.frm)∨(x.kind=7∧x.place≠j.to) then 10
 else if 5≤x.kind∧j.tra<x.alc then 17 else 0
def actL(j:Jny)(x:Leg):Jny:=
 if x.kind=1 then ⟨x.alc,0,0,0,x.alc,x.place,x.to,false,false⟩
 else if x.kind=2 then { j with halt:=true }
 else if x.kind=3 then { j with halt:=false }
 else if x.kind=4 then { j with to:=x.to }
 else if x.kind=5 then { j with spl:=j.spl+x.alc,tra:=j.tra-x.alc }
 else if x.kind=6 then { j with lost:=j.lost+x.alc,tra:=j.tra-x.alc }
 else { j with arr:=x.alc,lost:=j.lost+j.tra-x.alc,tra:=0,endd:=true }
structure InvJ(j:Jny):Prop where
 sum:j.dep=j.tra+j.spl+j.lost+j.arr
 dep:j.dep≤10737418240000
 tra:0≤j.tra
 spl:0≤j.spl
 lost:0≤j.lost
 arr:0≤j.arr
 en:j.endd=true→j.tra=0
 ne:j.endd=false→j.arr=0
theorem invZ:InvJ zeroJ:=⟨rfl,by decide,by decide,by decide,by decide,by decide,by decide,by decide⟩
theorem ZdQ{j:Jny}{begun:Bool}{last:Int}{x:Leg}(h:faultL j begun last x=0):
  (0≤x.day∧x.day≤100000)∧(1≤x.kind∧x.kind≤7)∧formL x=true∧last≤x.day∧(x.kind=1↔begun=false)∧j.endd=false∧refL j x.kind=false∧¬(x.kind=4∧x.to=j.frm)∧¬(x.kind=7∧x.place≠j.to)∧¬(5≤x.kind∧j.tra<x.alc):=by
 unfold faultL at h;split at h
 ·simp at h
 ·rename_i h1
  split at h
  ·simp at h
  ·rename_i h2
   split at h
   ·simp at h
   ·rename_i h3
    split at h
    ·simp at h
    ·rename_i h4
     split at h
     ·simp at h
     ·rename_i h5
      simp only[Bool.not_eq_false,Bool.and_eq_true,win,decide_eq_true_eq] at h1;simp only[Bool.or_eq_true,not_or,Bool.not_eq_true] at h3;rw[not_or] at h4;refine ⟨h1.1.1,h1.1.2,h1.2,by omega, ?_,h3.1.2,h3.2,h4.1,h4.2,h5⟩
      have:=h3.1.1
      cases begun<;>by_cases q:x.kind=1<;>simp[q] at this ⊢
theorem Zlm{x:Leg}(hk:1≤x.kind∧x.kind≤7)(h:formL x=true):0≤x.alc∧x.alc≤10737418240000:=by
 unfold formL partL at h;rcases (show x.kind=1∨x.kind=2∨x.kind=3∨x.kind=4∨x.kind=5∨x.kind=6∨x.kind=7 by omega) with e | e | e | e | e | e | e<;>simp[e,win] at h<;>omega
theorem ZCd{j:Jny}{begun:Bool}{last:Int}{x:Leg}(hj:InvJ j)(h:faultL j begun last x=0):InvJ (actL j x):=by
 obtain ⟨-,hk,hf,-,-,he,-,-,-,hs⟩:=ZdQ h;have hb:=Zlm hk hf;obtain ⟨s1,s2,s3,s4,s5,s6,s7,s8⟩:=hj;have s8':=s8 he;unfold actL;rcases (show x.kind=1∨x.kind=2∨x.kind=3∨x.kind=4∨x.kind=5∨x.kind=6∨x.kind=7 by omega) with e | e | e | e | e | e | e
 ·simp only[e,if_true];exact ⟨by simp,by simp;omega,by simp;omega,by simp,by simp,by simp,by simp,by simp⟩
 ·simp only[e];exact ⟨s1,s2,s3,s4,s5,s6,s7,s8⟩
 ·simp only[e];exact ⟨s1,s2,s3,s4,s5,s6,s7,s8⟩
 ·simp only[e];exact ⟨s1,s2,s3,s4,s5,s6,s7,s8⟩
 ·simp only[e] at hs ⊢;exact ⟨by simp;omega,by simpa using s2,by simp;omega,by simp;omega,by simpa using s5,by simpa using s6,by simp[he],by simpa using s8⟩
 ·simp only[e] at hs ⊢;exact ⟨by simp;omega,by simpa using s2,by simp;omega,by simpa using s4,by simp;omega,by simpa using s6,by simp[he],by simpa using s8⟩
 ·simp only[e] at hs ⊢;exact ⟨by simp;omega,by simpa using s2,by simp,by simpa using s4,by simp;omega,by simp;omega,by simp,by simp⟩
def runL:Jny→Bool→Int→Nat→List Leg→Jny × Int × Int
 | j,_,_,_,[]=>(j,-1,0)
 | j,bg,last,i,x::l=>if faultL j bg last x=0 then runL (actL j x) true x.day (i+1) l else (zeroJ,i,faultL j bg last x)
def runS(l:List Leg):Jny × Int × Int:=if 128<l.length then (zeroJ,-1,8) else runL zeroJ false 0 0 l
def okS(l:List Leg):Bool:=decide ((runS l).2.2=0)
structure Allow where
 frm:Int
 cls:Int
 mon:Int
 rate:Int
deriving DecidableEq
section
variable {β:Type} {P:Program} {T:Tab} {D:DTab} {N:Nat} {K:Kb β}
end
end Go.AM


namespace Go.AM
open Go.Proofs
section
variable {β:Type} {P:Program} {T:Tab} {D:DTab} {N:Nat} {K:Kb β}
end
end Go.AM


namespace Go.AM
open Go.Proofs
section
variable {β:Type} {P:Program} {T:Tab} {D:DTab} {N:Nat} {K:Kb β}
end
end Go.AM


namespace Go.AM
open Go.Proofs
section
variable {β:Type} {P:Program} {ty:TypeId}
end
end Go.AM


namespace Go.AM
open Go.Proofs
section
variable {β:Type} {P:Program} {ty:TypeId}
variable {T:Tab} {D:DTab} {N:Nat} {x0:AV→AV→Kb β}
end
end Go.AM


namespace Go.AM
open Go.Proofs
section
variable {β:Type} {P:Program} {T:Tab} {D:DTab} {N:Nat} {K:Kb β}
end
end Go.AM


namespace Go.AM
open Go.Proofs
theorem Z3a(a b c:Int)(h:Hp):Z0v [I a,I b,I c] h=some (B (win a b c),h):=Zsu rfl (by simp[Z7F,win]) h
theorem Zar(a:Int)(h:Hp):Z1k [I a] h=some (B (win a 1 99),h):=ZsE rfl (by simp[Z7V,Z3a]) h
theorem Z3b{h:Hp}{g:List AObj}{id:Nat}{x o:AObj}(hid:h[id]? = some x):(h++g).set id o=h.set id o++g:=by
 rw[List.set_append_left _ _ (List.getElem?_eq_some_iff.1 hid).1]
theorem wr_7(id:Nat)(j:Jny)(x:Leg):Writes Z1z id (.agg (encL x)) 9 (encJ j) (encJ { j with halt:=true }):=by
 refine ⟨by simp[plain,encJ],λH hid=>⟨[.arr 5 [encL x] true false], ?_⟩⟩
 rw[ZsY];have hid':=Z07 (g:=[.arr 5 [encL x] true false]) hid
 have hs:=λo=>Z3b (g:=[.arr 5 [encL x] true false]) (o:=o) hid
 have hg:∀o:AObj,(H.set id o++[.arr 5 [encL x] true false])[id]? = some o:=λo=>by
  rw[List.getElem?_append_left (by simpa using (List.getElem?_eq_some_iff.1 hid).1),List.getElem?_set_self (List.getElem?_eq_some_iff.1 hid).1]
 have hss:∀o p:AObj,(H.set id o++[AObj.arr 5 [encL x] true false]).set id p=H.set id p++[AObj.arr 5 [encL x] true false]:=λo p=>by
  rw[List.set_append_left _ _ (by simpa using (List.getElem?_eq_some_iff.1 hid).1),List.set_set]
 simp only[encL,encJ] at hid' hs hg hss ⊢
 simp[Z7Y,boxE,nilK,hid',stE,ap,hs]
theorem wr_10(id:Nat)(j:Jny)(x:Leg):Writes Z1C id (.agg (encL x)) 9 (encJ j) (encJ { j with halt:=false }):=by
 refine ⟨by simp[plain,encJ],λH hid=>⟨[.arr 5 [encL x] true false], ?_⟩⟩
 rw[Ztd];have hid':=Z07 (g:=[.arr 5 [encL x] true false]) hid
 have hs:=λo=>Z3b (g:=[.arr 5 [encL x] true false]) (o:=o) hid
 have hg:∀o:AObj,(H.set id o++[.arr 5 [encL x] true false])[id]? = some o:=λo=>by
  rw[List.getElem?_append_left (by simpa using (List.getElem?_eq_some_iff.1 hid).1),List.getElem?_set_self (List.getElem?_eq_some_iff.1 hid).1]
 have hss:∀o p:AObj,(H.set id o++[AObj.arr 5 [encL x] true false]).set id p=H.set id p++[AObj.arr 5 [encL x] true false]:=λo p=>by
  rw[List.set_append_left _ _ (by simpa using (List.getElem?_eq_some_iff.1 hid).1),List.set_set]
 simp only[encL,encJ] at hid' hs hg hss ⊢
 simp[Z81,boxE,nilK,hid',stE,ap,hs]
theorem wr_12(id:Nat)(j:Jny)(x:Leg):Writes Z1E id (.agg (encL x)) 9 (encJ j) (encJ { j with to:=x.to }):=by
 refine ⟨by simp[plain,encJ],λH hid=>⟨[.arr 5 [encL x] true false], ?_⟩⟩
 rw[Ztn];have hid':=Z07 (g:=[.arr 5 [encL x] true false]) hid
 have hs:=λo=>Z3b (g:=[.arr 5 [encL x] true false]) (o:=o) hid
 have hg:∀o:AObj,(H.set id o++[.arr 5 [encL x] true false])[id]? = some o:=λo=>by
  rw[List.getElem?_append_left (by simpa using (List.getElem?_eq_some_iff.1 hid).1),List.getElem?_set_self (List.getElem?_eq_some_iff.1 hid).1]
 have hss:∀o p:AObj,(H.set id o++[AObj.arr 5 [encL x] true false]).set id p=H.set id p++[AObj.arr 5 [encL x] true false]:=λo p=>by
  rw[List.set_append_left _ _ (by simpa using (List.getElem?_eq_some_iff.1 hid).1),List.set_set]
 simp only[encL,encJ] at hid' hs hg hss ⊢
 simp[Z83,boxE,nilK,hid',stE,ap,hs]
theorem wr_5(id:Nat)(j:Jny)(x:Leg):Writes Z1x id (.agg (encL x)) 9 (encJ j) (encJ ⟨x.alc,0,0,0,x.alc,x.place,x.to,false,false⟩):=by
 refine ⟨by simp[plain,encJ],λH hid=>⟨[.arr 5 [encL x] true false], ?_⟩⟩
 rw[ZsO];have hid':=Z07 (g:=[.arr 5 [encL x] true false]) hid
 have hs:=λo=>Z3b (g:=[.arr 5 [encL x] true false]) (o:=o) hid
 have hg:∀o:AObj,(H.set id o++[.arr 5 [encL x] true false])[id]? = some o:=λo=>by
  rw[List.getElem?_append_left (by simpa using (List.getElem?_eq_some_iff.1 hid).1),List.getElem?_set_self (List.getElem?_eq_some_iff.1 hid).1]
 have hss:∀o p:AObj,(H.set id o++[AObj.arr 5 [encL x] true false]).set id p=H.set id p++[AObj.arr 5 [encL x] true false]:=λo p=>by
  rw[List.set_append_left _ _ (by simpa using (List.getElem?_eq_some_iff.1 hid).1),List.set_set]
 simp only[encL,encJ] at hid' hs hg hss ⊢
 simp[Z7W,boxE,nilK,hid',stE,ap,hs,buildK,fillA]
theorem wr_13(id:Nat)(j:Jny)(x:Leg)(w1:IntKind.i64.wrap (j.spl+x.alc)=j.spl+x.alc)(w2:IntKind.i64.wrap (j.tra-x.alc)=j.tra-x.alc):Writes Z1F id (.agg (encL x)) 9 (encJ j) (encJ { j with spl:=j.spl+x.alc,tra:=j.tra-x.alc }):=by
 refine ⟨by simp[plain,encJ],λH hid=>⟨[.arr 5 [encL x] true false], ?_⟩⟩
 rw[Zts];have hl:id≠H.length:=by have:=(List.getElem?_eq_some_iff.1 hid).1;omega
 have hid':=Z07 (g:=[.arr 5 [encL x] true false]) hid;have hs:=λo=>Z3b (g:=[.arr 5 [encL x] true false]) (o:=o) hid
 have hg:∀o:AObj,(H.set id o++[.arr 5 [encL x] true false])[id]? = some o:=λo=>by
  rw[List.getElem?_append_left (by simpa using (List.getElem?_eq_some_iff.1 hid).1),List.getElem?_set_self (List.getElem?_eq_some_iff.1 hid).1]
 have hss:∀o p:AObj,(H.set id o++[AObj.arr 5 [encL x] true false]).set id p=H.set id p++[AObj.arr 5 [encL x] true false]:=λo p=>by
  rw[List.set_append_left _ _ (by simpa using (List.getElem?_eq_some_iff.1 hid).1),List.set_set]
 simp only[encL,encJ] at hid' hs hg hss ⊢
 simp[Z84,boxE,nilK,hid',stE,ap,hs,w1,w2,hl,hg,hss,disjAll,disj2,wrOf,idsOf]
theorem wr_14(id:Nat)(j:Jny)(x:Leg)(w1:IntKind.i64.wrap (j.lost+x.alc)=j.lost+x.alc)(w2:IntKind.i64.wrap (j.tra-x.alc)=j.tra-x.alc):Writes Z1G id (.agg (encL x)) 9 (encJ j) (encJ { j with lost:=j.lost+x.alc,tra:=j.tra-x.alc }):=by
 refine ⟨by simp[plain,encJ],λH hid=>⟨[.arr 5 [encL x] true false], ?_⟩⟩
 rw[Ztx];have hl:id≠H.length:=by have:=(List.getElem?_eq_some_iff.1 hid).1;omega
 have hid':=Z07 (g:=[.arr 5 [encL x] true false]) hid;have hs:=λo=>Z3b (g:=[.arr 5 [encL x] true false]) (o:=o) hid
 have hg:∀o:AObj,(H.set id o++[.arr 5 [encL x] true false])[id]? = some o:=λo=>by
  rw[List.getElem?_append_left (by simpa using (List.getElem?_eq_some_iff.1 hid).1),List.getElem?_set_self (List.getElem?_eq_some_iff.1 hid).1]
 have hss:∀o p:AObj,(H.set id o++[AObj.arr 5 [encL x] true false]).set id p=H.set id p++[AObj.arr 5 [encL x] true false]:=λo p=>by
  rw[List.set_append_left _ _ (by simpa using (List.getElem?_eq_some_iff.1 hid).1),List.set_set]
 simp only[encL,encJ] at hid' hs hg hss ⊢
 simp[Z85,boxE,nilK,hid',stE,ap,hs,w1,w2,hl,hg,hss,disjAll,disj2,wrOf,idsOf]
theorem wr_16(id:Nat)(j:Jny)(x:Leg)(w1:IntKind.i64.wrap (j.lost+j.tra)=j.lost+j.tra)(w2:IntKind.i64.wrap (j.lost+j.tra-x.alc)=j.lost+j.tra-x.alc):Writes Z1I id (.agg (encL x)) 9 (encJ j) (encJ { j with arr:=x.alc,lost:=j.lost+j.tra-x.alc,tra:=0,endd:=true }):=by
 refine ⟨by simp[plain,encJ],λH hid=>⟨[.arr 5 [encL x] true false], ?_⟩⟩
 rw[ZtH];have hl:id≠H.length:=by have:=(List.getElem?_eq_some_iff.1 hid).1;omega
 have hid':=Z07 (g:=[.arr 5 [encL x] true false]) hid;have hs:=λo=>Z3b (g:=[.arr 5 [encL x] true false]) (o:=o) hid
 have hg:∀o:AObj,(H.set id o++[.arr 5 [encL x] true false])[id]? = some o:=λo=>by
  rw[List.getElem?_append_left (by simpa using (List.getElem?_eq_some_iff.1 hid).1),List.getElem?_set_self (List.getElem?_eq_some_iff.1 hid).1]
 have hss:∀o p:AObj,(H.set id o++[AObj.arr 5 [encL x] true false]).set id p=H.set id p++[AObj.arr 5 [encL x] true false]:=λo p=>by
  rw[List.set_append_left _ _ (by simpa using (List.getElem?_eq_some_iff.1 hid).1),List.set_set]
 simp only[encL,encJ] at hid' hs hg hss ⊢
 simp[Z87,boxE,nilK,hid',stE,ap,hs,w1,w2,hl,hg,hss,disjAll,disj2,wrOf,idsOf]
def kindsT:List AV:=[.s .nilFunc,.s .nilFunc,.s .nilFunc,
 .fn 95 [],.fn 92 [],.fn 97 [],.fn 98 [],.fn 93 [],.fn 99 [],
 .fn 100 [],.fn 101 [],.fn 102 [],.fn 103 [],.fn 92 [],.fn 104 [],
 .fn 94 [],.fn 92 [],.fn 105 [],.fn 94 [],.fn 92 [],.fn 106 [],
 .fn 107 [],.fn 93 [],.fn 108 []]
theorem ZCe{β:Type}(K:Kb β)(h:Hp):Z4O Tryz.prog Z0l Z63 NN K h=K (.agg kindsT) (h++[.arr 24 [kindsT] true false]):=by
 have hl:(h++[AObj.arr 24 [kindsT] true false])[h.length]? = some (.arr 24 [kindsT] true false):=by simp
 simp[Z4O,boxE,buildK,fillA,stE,ap,kindsT]
theorem ZCf(h:Hp):Z20 [] h=some (.agg kindsT,h):=ZtM (g:=[.arr 24 [kindsT] true false]) (ZCe _ h) rfl
theorem Zln(h:Hp)(base:Nat):Z3K [] h base=some (.agg kindsT,EF []):=ZfY ⟨rfl,λH _=>⟨[],by simpa using ZCf H⟩⟩ base
theorem Zas(j:Jny)(h:Hp):Z1t [.agg (encJ j)] h=some (B false,h):=Zsj rfl (by simp[Z7R,boxE,encJ]) h
theorem Zlo(j:Jny)(h:Hp):Z1u [.agg (encJ j)] h=some (B j.halt,h):=Zso rfl (by simp[Z7S,boxE,encJ]) h
theorem ZCg(j:Jny)(h:Hp):Z1B [.agg (encJ j)] h=some (B (!j.halt),h):=Zt8 rfl (by simp[Z80,boxE,encJ]) h
theorem Zlp(x:Leg)(h:Hp):Z1v [.agg (encL x)] h=some (B (partL x),h):=by
 refine Zsz rfl ?_ h;unfold partL;cases c1:(x.place==0)<;>cases c2:(x.to==0)<;>simp[Z7T,boxE,encL,Z3a,c1,c2]
theorem ZCh(x:Leg)(h:Hp):Z1w [.agg (encL x)] h=some (B (win x.place 1 99&&win x.to 1 99&&x.place != x.to&&win x.alc 1 10737418240000),h):=by
 refine ZsJ rfl ?_ h;have c4:(!decide (x.place=x.to))=(x.place != x.to):=by by_cases e:x.place=x.to<;>simp[e]
 cases c1:win x.place 1 99<;>cases c2:win x.to 1 99<;>cases c3:(x.place==x.to)<;>simp[Z7U,boxE,encL,Z3a,Zar,c1,c2,c3,bne]
theorem ZCi(x:Leg)(h:Hp):Z1y [.agg (encL x)] h=some (B (win x.place 1 99&&x.to==0&&x.alc==0),h):=by
 refine ZsT rfl ?_ h;cases c1:win x.place 1 99<;>cases c2:(x.to==0)<;>simp[Z7X,boxE,encL,Z3a,Zar,c1,c2]
theorem ZCj(x:Leg)(h:Hp):Z1A [.agg (encL x)] h=some (B (x.place==0&&x.to==0&&x.alc==0),h):=by
 refine Zt3 rfl ?_ h;cases c1:(x.place==0)<;>cases c2:(x.to==0)<;>simp[Z7Z,boxE,encL,c1,c2]
theorem ZCk(x:Leg)(h:Hp):Z1D [.agg (encL x)] h=some (B (x.place==0&&win x.to 1 99&&x.alc==0),h):=by
 refine Zti rfl ?_ h;cases c1:(x.place==0)<;>cases c2:win x.to 1 99<;>simp[Z82,boxE,encL,Zar,c1,c2]
theorem ZCl(x:Leg)(h:Hp):Z1H [.agg (encL x)] h=some (B (win x.place 1 99&&x.to==0&&win x.alc 0 10737418240000),h):=by
 refine ZtC rfl ?_ h;cases c1:win x.place 1 99<;>cases c2:(x.to==0)<;>simp[Z86,boxE,encL,Z3a,Zar,c1,c2]
theorem Z17{β:Type}(neq a b:Bool)(h:Hp)(k:Go.AM.K β):eqK Tryz.prog neq 4 (B a) (B b) h k=k (B (xor neq (a==b))):=by
 have:Tryz.prog.underlying 4=some .bool:=by kernel_rfl
 simp[eqK,this]
def formF(k:Int):Nat:=if k=1 then 95 else if k=2 then 98 else if k=3 then 100 else if k=4 then 103 else if k=5 then 94 else if k=6 then 94 else 107
def refF(k:Int):Nat:=if k=1 then 92 else if k=2 then 93 else if k=3 then 101 else if k=4 then 92 else if k=5 then 92 else if k=6 then 92 else 93
def actF(k:Int):Nat:=if k=1 then 97 else if k=2 then 99 else if k=3 then 102 else if k=4 then 104 else if k=5 then 105 else if k=6 then 106 else 108
theorem kinds7{k:Int}(h:1≤k∧k≤7):k=1∨k=2∨k=3∨k=4∨k=5∨k=6∨k=7:=by omega
theorem ixk{β:Type}{k:Int}(h:1≤k∧k≤7)(K:AV→Option β):ixA 3 8 true (.agg kindsT) (I k) K=K (.agg [.fn (formF k) [],.fn (refF k) [],.fn (actF k) []]):=by
 rcases kinds7 h with e | e | e | e | e | e | e<;>subst e<;>rfl
theorem gd{shp shr:List Sh}{F:Fun}{args:List AV}{v:AV}{h:Hp}(hk:closedX shp shr F args h=some (v,h))(hi:idss args=[])(base:Nat):closedXD shp shr F args h base=some (v,EF []):=(ZfX hk base).trans (by rw[hi];rfl)
theorem idsL(x:Leg):idss [.agg (encL x)]=[]:=by simp[idss,ids,encL]
theorem idsJ(j:Jny):idss [.agg (encJ j)]=[]:=by simp[idss,ids,encJ]
theorem gform{k:Int}(hk:1≤k∧k≤7)(x:Leg)(hx:x.kind=k)(h:Hp)(base:Nat):callVE Z0f (.fn (formF k) []) [.agg (encL x)] h base=some (B (formL x),EF []):=by
 rcases kinds7 hk with e | e | e | e | e | e | e<;>subst e<;>rw[Z3k,List.append_nil]<;>unfold formL<;>simp only[hx]
 ·exact gd (ZCh x h) (idsL x) base
 ·exact gd (ZCi x h) (idsL x) base
 ·exact gd (ZCj x h) (idsL x) base
 ·exact gd (ZCk x h) (idsL x) base
 ·exact gd (Zlp x h) (idsL x) base
 ·exact gd (Zlp x h) (idsL x) base
 ·exact gd (ZCl x h) (idsL x) base
theorem gref{k:Int}(hk:1≤k∧k≤7)(j:Jny)(h:Hp)(base:Nat):callVE Z0f (.fn (refF k) []) [.agg (encJ j)] h base=some (B (refL j k),EF []):=by
 rcases kinds7 hk with e | e | e | e | e | e | e<;>subst e<;>rw[Z3k,List.append_nil]
 ·exact gd (Zas j h) (idsJ j) base
 ·exact gd (Zlo j h) (idsJ j) base
 ·exact gd (ZCg j h) (idsJ j) base
 ·exact gd (Zas j h) (idsJ j) base
 ·exact gd (Zas j h) (idsJ j) base
 ·exact gd (Zas j h) (idsJ j) base
 ·exact gd (Zlo j h) (idsJ j) base
theorem Z12(a b c:Int)(h:Hp)(base:Nat):Z8F [I a,I b,I c] h base=some (B (win a b c),EF []):=gd (Z3a a b c h) (by simp[idss,ids]) base
set_option maxHeartbeats 4000000 in
theorem ZCm(j:Jny)(begun:Bool)(last:Int)(x:Leg)(h:Hp):Z3L [.agg (encJ j),B begun,I last,.agg (encL x)] h=some (I (faultL j begun last x),h):=by
 refine ZtS (by simp[encJ,encL]) ?_ h
 unfold faultL;have gt:=Zln
 cases c1:win x.day 0 100000
 ·simp[Z0p,boxE,encJ,encL,Z12,c1,disjAll,disj2,wrOf,ap,idsOf,EF]
 cases c2:win x.kind 1 7
 ·simp[Z0p,boxE,encJ,encL,Z12,c1,c2,disjAll,disj2,wrOf,ap,idsOf,EF]
 have hk:1≤x.kind∧x.kind≤7:=by simpa [win] using c2
 have i1:=λK:AV→Option AV=>ixk hk K
 have i2:=gform hk x rfl;have i3:=gref hk j;have e1:(x.kind==1)=decide (x.kind=1):=by by_cases q:x.kind=1<;>simp[q]
 have e2:(begun==decide (x.kind=1))=(begun==(x.kind==1)):=by rw[e1]
 rw[e2];have i0:∀(a b c:AV)(k:KV),fldK 1 false 0 (.agg [a,b,c]) k=k a:=λa b c k=>rfl
 have i5:∀(a b c:AV)(k:KV),fldK 1 false 1 (.agg [a,b,c]) k=k b:=λa b c k=>rfl
 simp only[Z3k,List.append_nil] at i2 i3;generalize formF x.kind=ff at *
 generalize refF x.kind=fr at *;generalize actF x.kind=fa at *;simp only[encL,encJ] at i2 i3;cases c3:formL x with
 | false=>
  rw[c3] at i2;simp[Z0p,boxE,encJ,encL,Z12,Z17,c1,c2,gt,i1,i0,i5,i2,disjAll,disj2,wrOf,ap,idsOf,EF]
 | true=>
  rw[c3] at i2;by_cases c4:x.day<last
  ·simp[Z0p,boxE,encJ,encL,Z12,Z17,c1,c2,gt,i1,i0,i5,i2,c4,disjAll,disj2,wrOf,ap,idsOf,EF]
  cases c5:(begun==(x.kind==1)) with
  | true=>
   simp[Z0p,boxE,encJ,encL,Z12,Z17,c1,c2,gt,i1,i0,i5,i2,c4,c5,disjAll,disj2,wrOf,ap,idsOf,EF]
  | false=>
   cases c6:j.endd with
   | true=>
    simp[Z0p,boxE,encJ,encL,Z12,Z17,c1,c2,gt,i1,i0,i5,i2,c4,c5,c6,disjAll,disj2,wrOf,ap,idsOf,EF]
   | false=>
    cases c7:refL j x.kind with
    | true=>
     rw[c7] at i3;rw[c6] at i3;simp[Z0p,boxE,encJ,encL,Z12,Z17,c1,c2,gt,i1,i0,i5,i2,i3,c4,c5,c6,disjAll,disj2,wrOf,ap,idsOf,EF]
    | false=>
     rw[c7] at i3;rw[c6] at i3;have q4:∀a b:Int,(a==b)=decide (a=b):=λa b=>by by_cases q:a=b<;>simp[q]
     have run:Z0p Tryz.prog Z0j Z0f NN (λv g=>cvt false g v) (.agg (encJ j)) (B begun) (I last) (.agg (encL x)) []=some (I (if (x.kind=4∧x.to=j.frm)∨(x.kind=7∧x.place≠j.to) then 10 else if 5≤x.kind∧j.tra<x.alc then 17 else 0)):=by
      by_cases d1:x.kind=4
      ·have d1':(x.kind==4)=true:=by simpa using d1
       have d2:¬x.kind=7:=by omega
       have d2':(x.kind==7)=false:=by simpa using d2
       have d5:¬5≤x.kind:=by omega
       cases d3:(x.to==j.frm)
       ·have d3':¬x.to=j.frm:=by simpa using d3
        rw[if_neg (by simp[d2,d3']),if_neg (by simp[d5])]
        simp[Z0p,boxE,encJ,encL,Z12,Z17,c1,c2,gt,i1,i0,i5,i2,i3,c4,c5,c6,d1',d2',d3,d5,disjAll,disj2,wrOf,ap,idsOf,EF]
       ·have d3':x.to=j.frm:=by simpa using d3
        rw[if_pos (.inl ⟨d1,d3'⟩)];simp[Z0p,boxE,encJ,encL,Z12,Z17,c1,c2,gt,i1,i0,i5,i2,i3,c4,c5,c6,d1',d2',d3,d5,disjAll,disj2,wrOf,ap,idsOf,EF]
      ·have d1':(x.kind==4)=false:=by simpa using d1
       by_cases d2:x.kind=7
       ·have d2':(x.kind==7)=true:=by simpa using d2
        have d5:5≤x.kind:=by omega
        cases d4:(x.place==j.to)
        ·have d4':¬x.place=j.to:=by simpa using d4
         rw[if_pos (.inr ⟨d2,d4'⟩)];simp[Z0p,boxE,encJ,encL,Z12,Z17,c1,c2,gt,i1,i0,i5,i2,i3,c4,c5,c6,d1',d2',d4,d5,disjAll,disj2,wrOf,ap,idsOf,EF]
        ·have d4':x.place=j.to:=by simpa using d4
         rw[if_neg (by simp[d1,d4'])]
         by_cases d6:j.tra<x.alc
         ·rw[if_pos ⟨d5,d6⟩]
          simp[Z0p,boxE,encJ,encL,Z12,Z17,c1,c2,gt,i1,i0,i5,i2,i3,c4,c5,c6,d1',d2',d4,d5,d6,disjAll,disj2,wrOf,ap,idsOf,EF]
         ·rw[if_neg (by simp[d6])]
          simp[Z0p,boxE,encJ,encL,Z12,Z17,c1,c2,gt,i1,i0,i5,i2,i3,c4,c5,c6,d1',d2',d4,d5,d6,disjAll,disj2,wrOf,ap,idsOf,EF]
       ·have d2':(x.kind==7)=false:=by simpa using d2
        rw[if_neg (by simp[d1,d2])]
        by_cases d5:5≤x.kind
        ·by_cases d6:j.tra<x.alc
         ·rw[if_pos ⟨d5,d6⟩]
          simp[Z0p,boxE,encJ,encL,Z12,Z17,c1,c2,gt,i1,i0,i5,i2,i3,c4,c5,c6,d1',d2',d5,d6,disjAll,disj2,wrOf,ap,idsOf,EF]
         ·rw[if_neg (by simp[d6])]
          simp[Z0p,boxE,encJ,encL,Z12,Z17,c1,c2,gt,i1,i0,i5,i2,i3,c4,c5,c6,d1',d2',d5,d6,disjAll,disj2,wrOf,ap,idsOf,EF]
        ·rw[if_neg (by simp[d5])]
         simp[Z0p,boxE,encJ,encL,Z12,Z17,c1,c2,gt,i1,i0,i5,i2,i3,c4,c5,c6,d1',d2',d5,disjAll,disj2,wrOf,ap,idsOf,EF]
     rw[run];simp[c4]
theorem gact{j:Jny}{begun:Bool}{last:Int}{x:Leg}(hj:InvJ j)(hf:faultL j begun last x=0){h:Hp}{id:Nat}(hid:h[id]? = some (.arr 9 [encJ j] true false))(base:Nat):
  callVE Z0c (.fn (actF x.kind) []) [.ptr id 0 0 1,.agg (encL x)] h base=some (.tup [],⟨[(id,.arr 9 [encJ (actL j x)] true false)],[],[id]⟩):=by
 obtain ⟨-,hk,hfo,-,-,-,-,-,-,hs⟩:=ZdQ hf;have hb:=Zlm hk hfo;obtain ⟨s1,s2,s3,s4,s5,s6,s7,s8⟩:=hj;unfold actL;rcases kinds7 hk with e | e | e | e | e | e | e<;>rw[Z3k,List.append_nil]<;>simp only[e] at hs ⊢
 ·exact Z2j hid (wr_5 id j x) base
 ·exact Z2j hid (wr_7 id j x) base
 ·exact Z2j hid (wr_10 id j x) base
 ·exact Z2j hid (wr_12 id j x) base
 ·exact Z2j hid (wr_13 id j x (wrap64 (by omega) (by omega)) (wrap64 (by omega) (by omega))) base
 ·exact Z2j hid (wr_14 id j x (wrap64 (by omega) (by omega)) (wrap64 (by omega) (by omega))) base
 ·exact Z2j hid (wr_16 id j x (wrap64 (by omega) (by omega)) (wrap64 (by omega) (by omega))) base
def runX{β:Type}(X:Jny→Option β)(Y:Nat→Int→Option β):Jny→Bool→Int→Nat→List Leg→Option β
 | j,_,_,_,[]=>X j
 | j,bg,last,i,x::l=>if faultL j bg last x=0 then runX X Y (actL j x) true x.day (i+1) l else Y i (faultL j bg last x)
def boxL(x:Leg):AObj := .arr 5 [encL x] true false
theorem ZCn{β:Type}{N:Nat}{x0:AV→Kb β}{xr:AV→AV→Kb β}{X:Jny→Option β}{Y:Nat→Int→Option β}
  (hx:∀h j,h[0]? = some (.arr 9 [encJ zeroJ] true false)→h[1]? = some (.arr 9 [encJ j] true false)→x0 (.ptr 0 0 0 1) (.ptr 1 0 0 1) h=X j)
  (hr:∀h (i:Nat) e,h[0]? = some (.arr 9 [encJ zeroJ] true false)→xr (.ptr 0 0 0 1) (I i) (I e) h=Y i e) (l:List Leg) (b:Bool) (hl:l.length<1000000):
  ∀(n:Nat)(pre post:List Leg)(j:Jny)(bg:Bool)(last:Int)(h:Hp),l=pre++post→post.length<n→InvJ j→bg=decide (0<(pre.length:Int))→h[0]? = some (.arr 9 [encJ zeroJ] true false)→h[1]? = some (.arr 9 [encJ j] true false)→
  Z2A Tryz.prog Z0e Z0c N x0 xr n (.ptr 0 0 0 1) (.ptr 1 0 0 1) (I last) (.lst 5 b (l.map encL)) (I l.length) (I pre.length) h=runX X Y j bg last pre.length post:=by
 intro n;induction n with
 | zero=>intro pre post j bg last h _ h2;omega
 | succ n ih=>
  intro pre post j bg last h hc hn hj hbg h0 h1;show Z4z Tryz.prog Z0e Z0c N (Z2A Tryz.prog Z0e Z0c N x0 xr n) x0 xr _ _ _ _ _ _ h=_
  cases post with
  | nil=>
   have:l=pre:=by simpa using hc
   subst this;simp[Z4z,runX,hx h j h0 h1]
  | cons c post=>
   have hi:pre.length<l.length:=by rw[hc];simp
   have hci:l[pre.length]? = some c:=by rw[hc];simp
   have hlt:((pre.length:Int)<(l.length:Int)):=by omega
   have hw:IntKind.i64.wrap ((pre.length:Int)+1)=(((pre++[c]).length:Nat):Int):=by rw[wrap64 (by omega) (by omega)];simp
   have ic:∀k:Go.AM.K β,iaK 5 (.lst 5 b (l.map encL)) (I pre.length) k=k (.ep (encL c) 0):=λk=>Z0s pre.length rfl hci k
   obtain ⟨H,hH⟩:∃H,H=h++[boxL c]:=⟨_,rfl⟩;have H0:H[0]? = some (.arr 9 [encJ zeroJ] true false):=by rw[hH];exact Z07 h0
   have H1:H[1]? = some (.arr 9 [encJ j] true false):=by rw[hH];exact Z07 h1
   have HL:H[h.length]? = some (boxL c):=by rw[hH];simp
   have l1:1<h.length:=(List.getElem?_eq_some_iff.1 h1).1;have ff:=ZCm j bg last c H;have ldc:∀(g:Hp)(k:Go.AM.K β),ldK 5 true (.ep (encL c) 0) g k=k (.agg (encL c)):=λg k=>by simp[encL]
   have bx:∀k:Kb β,effK (boxE 5 (.agg [I 0,I 0,I 0,I 0,I 0]) h.length) h k=k (.ptr h.length 0 0 1) (h++[.arr 5 [[I 0,I 0,I 0,I 0,I 0]] true false]):=λk=>Z0Y 5 h.length _ h k rfl rfl rfl
   have sx:∀k:Kb β,effK (stE 5 (.ptr h.length 0 0 1) (.agg (encL c)) (h++[.arr 5 [[I 0,I 0,I 0,I 0,I 0]] true false])) (h++[.arr 5 [[I 0,I 0,I 0,I 0,I 0]] true false]) k=k .u H:=λk=>by
    rw[hH];simp[encL,stE,ap,boxL]
   have ldj:∀k:Go.AM.K β,ldK 9 true (.ptr 1 0 0 1) H k=k (.agg (encJ j)):=λk=>by simp[H1,encJ]
   have ldx:∀k:Go.AM.K β,ldK 5 true (.ptr h.length 0 0 1) H k=k (.agg (encL c)):=λk=>by simp[HL,boxL,encL]
   have gtb:∀k:Go.AM.K β,arithK .gtr (I pre.length) (I 0) k=k (B bg):=λk=>by simp[hbg]
   unfold Z4z;rw[Z05,decide_eq_true hlt,Z02,if_pos rfl,ic,ldc,bx,sx,ldj,gtb,ldx,ZtV,Z06,ff]
   clear bx sx ldc ic ldx;rw[runX]
   by_cases hf:faultL j bg last c=0
   ·rw[if_pos hf]
    obtain ⟨-,hk,-⟩:=ZdQ hf;have ga:=gact hj hf H1;have ixc:=λK:AV→Option β=>ixk hk K
    have i2:∀(a b c:AV)(k:Go.AM.K β),fldK 1 false 2 (.agg [a,b,c]) k=k c:=λa b c k=>rfl
    have hlen:H.length=h.length+1:=by rw[hH];simp
    have step:=ih (pre++[c]) post (actL j c) true c.day (H.set 1 (.arr 9 [encJ (actL j c)] true false)) (by simpa using hc) (by simpa using hn) (ZCd hj hf) (by simp) (by rw[List.getElem?_set_ne (by omega)];exact H0) (List.getElem?_set_self (by omega))
    have e1:(pre++[c]).length=pre.length+1:=by simp
    rw[e1] at step hw;rw[← step];simp only[Z3k,List.append_nil] at ga;have HL':∀o,(H.set 1 o)[h.length]? = some (boxL c):=λo=>by rw[List.getElem?_set_ne (by omega)];exact HL
    have hw':IntKind.i64.wrap ((pre.length:Int)+1)=(pre.length:Int)+1:=by rw[hw];simp
    have hneq:h.length≠1:=by omega
    generalize actF c.kind=fa at *;clear hlen hH;generalize h.length=q at *;simp only[boxL,encL] at HL HL';simp only[encL] at ga;simp[hf,Zln,HL,HL',ixc,i2,ga,encL,hw',disjAll,disj2,wrOf,ap,idsOf,EF,hneq]
   ·have hf':(faultL j bg last c==0)=false:=by simpa using hf
    rw[if_neg hf];have l0:0<H.length:=by rw[hH];simp
    have hrr:=λo=>hr (H.set 0 o) pre.length (faultL j bg last c)
    have hset:(H.set 0 (.arr 9 [encJ zeroJ] true false))[0]? = some (.arr 9 [encJ zeroJ] true false):=List.getElem?_set_self l0;have:=hrr _ hset;rw[← this];have z0:=H0;simp only[encJ,zeroJ] at z0 ⊢
    simp[hf',buildK,fillA,stE,z0,ap]
def tupR(r:Jny × Int × Int):AV := .tup [.agg (encJ r.1),I r.2.1,I r.2.2]
theorem Zlq:∀(l:List Leg)(j:Jny)(bg:Bool)(last:Int)(i:Nat),runX (λj=>some (tupR (j,-1,0))) (λi e=>some (tupR (zeroJ,i,e))) j bg last i l=some (tupR (runL j bg last i l))
 | [],_,_,_,_=>rfl
 | x::l,j,bg,last,i=>by
  rw[runX,runL];by_cases h:faultL j bg last x=0
  ·rw[if_pos h,if_pos h,Zlq l]
  ·rw[if_neg h,if_neg h]
theorem Zlr(l:List Leg)(b:Bool)(hl:l.length<1000000)(h:Hp):Z2n [.lst 5 b (l.map encL)] h=some (tupR (runS l),h):=by
 refine ZtY rfl ?_ h;unfold runS;by_cases h1:128<l.length
 ·have h1':(128:Int)<(l.length:Int):=by omega
  rw[if_pos h1];simp[Z3n,boxE,h1',buildK,fillA,stE,ap,tupR,encJ,zeroJ]
 ·have h1':¬(128:Int)<(l.length:Int):=by omega
  rw[if_neg h1, ← Zlq]
  have L:=ZCn (N:=NN) (x0:=λw46_2 w46_5 h=>Z4y Tryz.prog Z0e Z0c NN (λv g=>cvt false g v) w46_2 w46_5 h) (xr:=λw47_2 w47_3 w47_4 h=>ldK 9 true w47_2 h λr48=>cvt false h (.tup [r48,w47_3,w47_4]))
   (X:=λj=>some (tupR (j,-1,0))) (Y:=λi e=>some (tupR (zeroJ,i,e)))
   (λh j h0 h1=>by
    have l0:∀o:AObj,(h.set 0 o)[0]? = some o:=λo=>List.getElem?_set_self (List.getElem?_eq_some_iff.1 h0).1
    simp only[encJ,zeroJ] at h0 h1;generalize hq:h.set 0=st at *
    simp[Z4y,h0,h1,stE,ap,tupR,encJ,l0,hq])
   (λh i e h0=>by
    simp only[encJ,zeroJ] at h0;simp[h0,tupR,encJ,zeroJ]) l b hl NN [] l zeroJ false 0 [.arr 9 [encJ zeroJ] true false,.arr 9 [encJ zeroJ] true false] rfl (by have:=NN_ge;omega) invZ rfl rfl rfl
  rw[← show ((List.length ([]:List Leg):Nat))=0 from rfl, ← L];simp[Z3n,boxE,h1',encJ,zeroJ]
theorem ZCo(l:List Leg)(b:Bool)(hl:l.length<1000000)(h:Hp):Z66 [.lst 5 b (l.map encL)] h=some (B (okS l),h):=by
 refine Zu4 rfl ?_ h;have e:((runS l).2.2==0)=okS l:=by unfold okS;by_cases q:(runS l).2.2=0<;>simp[q]
 simp[Z7E,Zlr l b hl,tupR,boxE,stE,ap,encJ,e]
end Go.AM



namespace Go.AM
variable {β:Type} {P:Program} {kt:TypeId} {kk:IntKind}
structure TwoInts(P:Program)(kt:TypeId)(t:TypeId):Prop where
 st : ∃ fs : Array Field, P.underlying kt = some (.struct fs) ∧ ∃ f0 f1 : Field, fs = #[f0, f1] ∧ f0.type = t ∧ f1.type = t ∧ f0.offset = 0 ∧ f1.offset = 1 ∧ (f0.name = "_") = False ∧ (f1.name = "_") = False
 it:P.underlying t=some (.int .i64)
 held:P.stoodInHeld kt=false
theorem Z44{t:TypeId}(it:P.underlying t=some (.int .i64))(cs:Array Value)(i:Nat){v:Value}(hv:cs[i]? = some v):pureVal P (part t cs i)=some v:=by
 unfold part;rw[Z0Z]
 have:pureVal P (isAgg t)=some false:=by
  unfold isAgg;rw[Z0Z,Z1U it]
  rfl
 rw[this,Option.bind_some];simp[hv]
 rfl
theorem Zls{t:TypeId}(it:P.underlying t=some (.int .i64))(d:Nat)(a b:Int):pureVal P (Op.equalIn (d+1) t (.int .i64 a) (.int .i64 b))=some (a==b):=by
 unfold Op.equalIn
 rw[Z0Z,Z1U it]
 rfl
theorem ZCp{t:TypeId}(H:TwoInts P kt t)(a b c e:Int):pureVal P (Op.equal kt (.agg #[.int .i64 a,.int .i64 b]) (.agg #[.int .i64 c,.int .i64 e]))=some (a==c&&b==e):=by
 obtain ⟨⟨fs,hu,f0,f1,rfl,t0,t1,o0,o1,q0,q1⟩,it,hh⟩:=H;unfold Op.equal;rw[show Op.maxDepth=(Op.maxDepth-2)+1+1 from rfl];unfold Op.equalIn;rw[Z0Z,Z1U hu];simp only[Option.bind_some];have pp:pureVal P program=some P:=rfl;have e0:=Z44 it #[.int .i64 a,.int .i64 b] 0 (v := .int .i64 a) rfl;have e1:=Z44 it #[.int .i64 a,.int .i64 b] 1 (v := .int .i64 b) rfl;have e2:=Z44 it #[.int .i64 c,.int .i64 e] 0 (v := .int .i64 c) rfl;have e3:=Z44 it #[.int .i64 c,.int .i64 e] 1 (v := .int .i64 e) rfl;have g0:=Zls it (Op.maxDepth-2) a c;have g1:=Zls it (Op.maxDepth-2) b e;rw[Z0Z,pp,Option.bind_some,hh];simp only[Bool.false_eq_true,if_false, ← Array.forIn_toList,List.forIn_cons,List.forIn_nil,Z0Z,t0,t1,o0,o1,q0,q1,e0,e1,e2,e3,g0,g1,Option.bind_some,ne_eq,not_false_eq_true,if_true]
 cases h1:(a==c)<;>cases h2:(b==e)<;>simp[h1,h2,Z0Z,Zg4,e1,e3,g1]
theorem ZdR{t:TypeId}(H:TwoInts P kt t)(a b c e:Int):keyEq P kt (.agg #[.int .i64 a,.int .i64 b]) (.agg #[.int .i64 c,.int .i64 e])=some (decide ((a,b)=(c,e))):=by
 unfold keyEq;rw[ZCp H]
 by_cases h1:a=c
 ·by_cases h2:b=e
  ·subst h1 h2
   have:Instr.sameBits 10000 (.agg #[.int .i64 a,.int .i64 b]) (.agg #[.int .i64 a,.int .i64 b])=true:=by simp[Instr.sameBits]
   simp[this]
  ·have:(b==e)=false:=by simpa using h2
   rw[this];simp[h2]
 ·have:(a==c)=false:=by simpa using h1
  rw[this];simp[h1]
theorem Zat{t:TypeId}(H:TwoInts P kt t)(a b:Int):keyOk P kt (.agg #[.int .i64 a,.int .i64 b])=true:=by
 obtain ⟨⟨fs,hu,f0,f1,rfl,t0,t1,o0,o1,q0,q1⟩,it,hh⟩:=H
 have ck:∀(m:Bool)(n:Nat)(v:Int),pureVal P (Instr.checkKey m (n+1) t (.int .i64 v))=some ():=by
  intro m n v;unfold Instr.checkKey
  rw[Z0Z,Z1U it]
  rfl
 have e0:=Z44 it #[.int .i64 a,.int .i64 b] 0 (v := .int .i64 a) rfl;have e1:=Z44 it #[.int .i64 a,.int .i64 b] 1 (v := .int .i64 b) rfl
 have key:∀m,pureVal P (Instr.checkKey m 10000 kt (.agg #[.int .i64 a,.int .i64 b]))=some ():=by
  intro m;rw[show (10000:Nat)=9998+1+1 from rfl]
  unfold Instr.checkKey
  rw[Z0Z,Z1U hu];simp only[Option.bind_some];simp only[← Array.forIn_toList,List.forIn_cons,List.forIn_nil,Z0Z,t0,t1,o0,o1,q0,q1,e0,e1,ck,Option.bind_some,ne_eq,not_false_eq_true,if_true,Zg4]
 unfold keyOk;rw[key,key]
 rfl
abbrev keyT(p:Int × Int):Value := .agg #[.int .i64 p.1,.int .i64 p.2]
abbrev keyA(p:Int × Int):AV := .agg [.s (.int .i64 p.1),.s (.int .i64 p.2)]
section
variable {α:Type}
def kvT(f:α→AV)(c:List ((Int × Int) × α)):List (Value × AV):=c.map λe=>(keyT e.1,f e.2)
def fndT:List ((Int × Int) × α)→Int × Int→Option (Nat × α)
 | [],_=>none
 | (q,x)::r,p=>if p=q then some (0,x) else (fndT r p).map λy=>(y.1+1,y.2)
def updT:List ((Int × Int) × α)→Int × Int→α→List ((Int × Int) × α)
 | [],p,x=>[(p,x)]
 | (q,y)::r,p,x=>if p=q then (p,x)::r else (q,y)::updT r p x
theorem Zlt:∀{c:List ((Int × Int) × α)}{p:Int × Int}{j:Nat}{x:α},fndT c p=some (j,x)→c[j]? = some (p,x)∧∀y,updT c p y=c.set j (p,y)
 | [],p,j,x,h=>by simp[fndT] at h
 | (q,y)::r,p,j,x,h=>by
  simp only[fndT] at h;by_cases e:p=q
  ·rw[if_pos e] at h
   simp only[Option.some.injEq,Prod.mk.injEq] at h;obtain ⟨rfl,rfl⟩:=h
   subst e;exact ⟨rfl,λz=>by simp[updT]⟩
  ·rw[if_neg e] at h
   simp only[Option.map_eq_some_iff,Prod.mk.injEq] at h;obtain ⟨⟨i,z⟩,h1,rfl,rfl⟩:=h
   obtain ⟨h2,h3⟩:=Zlt h1;exact ⟨by simpa using h2,λw=>by simp only[updT,if_neg e,h3];rfl⟩
theorem Zlu:∀{c:List ((Int × Int) × α)}{p:Int × Int},fndT c p=none→(∀y,updT c p y=c++[(p,y)])∧∀y,fndT (c++[(p,y)]) p=some (c.length,y)
 | [],p,_=>⟨λ_=>rfl,λ_=>by simp[fndT]⟩
 | (q,z)::r,p,h=>by
  simp only[fndT] at h;by_cases e:p=q
  ·rw[if_pos e] at h;cases h
  ·rw[if_neg e,Option.map_eq_none_iff] at h
   obtain ⟨h1,h2⟩:=Zlu h;exact ⟨λy=>by simp only[updT,if_neg e,h1];rfl,λy=>by simp only[List.cons_append,fndT,if_neg e,h2];rfl⟩
variable {f:α→AV} {t:TypeId}
theorem Zau(H:TwoInts P kt t)(p:Int × Int):∀c:List ((Int × Int) × α),findKV (kvT f c) (keyEq P kt) (keyT p)=some ((fndT c p).map λr=>(r.1,f r.2))
 | []=>rfl
 | (q,x)::c=>by
  have ih:=Zau H p c;simp only[kvT,List.map_cons,findKV,ZdR H,fndT] at ih ⊢
  by_cases e:p=q
  ·subst e;simp
  ·have hd:decide ((p.1,p.2)=(q.1,q.2))=false:=decide_eq_false e
   simp only[hd,if_neg e,ih,Option.map_some,Option.map_map]
   rfl
theorem Zlv(H:TwoInts P kt t)(p:Int × Int):∀c:List ((Int × Int) × α),lookupKV (kvT f c) (keyEq P kt) (keyT p)=some ((fndT c p).map λr=>f r.2)
 | []=>rfl
 | (q,x)::c=>by
  have ih:=Zlv H p c;simp only[kvT,List.map_cons,lookupKV,ZdR H,fndT] at ih ⊢
  by_cases e:p=q
  ·subst e;simp
  ·have hd:decide ((p.1,p.2)=(q.1,q.2))=false:=decide_eq_false e
   simp only[hd,if_neg e,ih,Option.map_map]
   rfl
theorem Zlw(H:TwoInts P kt t)(p:Int × Int)(x:α):∀c:List ((Int × Int) × α),updateKV (kvT f c) (keyEq P kt) (keyT p) (f x)=some (kvT f (updT c p x))
 | []=>rfl
 | (q,y)::c=>by
  have ih:=Zlw H p x c;simp only[kvT,List.map_cons,updateKV,ZdR H,updT] at ih ⊢
  by_cases e:p=q
  ·subst e;simp
  ·have hd:decide ((p.1,p.2)=(q.1,q.2))=false:=decide_eq_false e
   simp only[hd,if_neg e,ih,Option.map_some,List.map_cons]
theorem Zlx{h:Hp}{id:Nat}{c:List ((Int × Int) × α)}{z:AV}{ok:Bool}{p:Int × Int}(H:TwoInts P kt t)(hid:h[id]? = some (.map (kvT f c)))(k:K β):
  lookK P kt z ok (.mp id) (keyA p) h k=match fndT c p with
   | some r=>k (if ok then .tup [f r.2,.s (.bool true)] else f r.2)
   | none=>k (if ok then .tup [z,.s (.bool false)] else z):=by
 unfold lookK;have e:toV (keyA p)=some (keyT p):=rfl
 simp only[e,hid,Zat H,Zlv H p c,if_true];cases fndT c p<;>rfl
theorem ZCq{h:Hp}{id:Nat}{c:List ((Int × Int) × α)}{p:Int × Int}{x:α}(H:TwoInts P kt t)(hid:h[id]? = some (.map (kvT f c))):
  mupE P kt (.mp id) (keyA p) (f x) h=some (.u,⟨[(id,.map (kvT f (updT c p x)))],[],[id]⟩):=by
 unfold mupE;have e:toV (keyA p)=some (keyT p):=rfl
 simp only[e,hid,Zat H,Zlw H p x c,if_true]
theorem Zly{h:Hp}{id:Nat}{c:List ((Int × Int) × α)}{p:Int × Int}{z x:α}(H:TwoInts P kt t)(hid:h[id]? = some (.map (kvT f c))):
  ∃(b:AV)(j:Nat)(c1:List ((Int × Int) × α)),mentE P kt (f z) (.mp id) (keyA p) h=some (.tup [b,.s (.int .i64 j)],⟨[(id,.map (kvT f c1))],[],[id]⟩) ∧
   ∀h1:Hp,h1[id]? = some (.map (kvT f c1))→estE (.mp id) (.s (.int .i64 j)) (f x) h1=some (.u,⟨[(id,.map (kvT f (updT c p x)))],[],[id]⟩):=by
 have e:toV (keyA p)=some (keyT p):=rfl;cases hf:fndT c p with
 | some r=>
  obtain ⟨j,y⟩:=r;obtain ⟨g1,g2⟩:=Zlt hf;have gk:(kvT f c)[j]? = some (keyT p,f y):=by simp[kvT,g1]
  have gs:(kvT f c).set j (keyT p,f y)=kvT f c:=Z49 gk;refine ⟨f y,j,c, ?_,λh1 hh => ?_⟩
  ·unfold mentE
   simp only[e,hid,Zat H,Zau H p c,hf,Option.map_some,if_true,gs]
  ·unfold estE
   simp only[hh];rw[if_pos (by omega),Int.toNat_natCast,gk]
   simp only[kvT,g2,List.map_set]
 | none=>
  obtain ⟨g1,g2⟩:=Zlu hf;have ga:kvT f c++[(keyT p,f z)]=kvT f (c++[(p,z)]):=by simp[kvT]
  have gl:(kvT f c).length=c.length:=by simp[kvT]
  refine ⟨f z,c.length,c++[(p,z)], ?_,λh1 hh => ?_⟩
  ·unfold mentE
   simp only[e,hid,Zat H,Zau H p c,hf,Option.map_none,if_true,ga,Zau H p (c++[(p,z)]),g2,Option.map_some,gl]
  ·unfold estE
   simp only[hh];rw[if_pos (by omega),Int.toNat_natCast]
   have:(kvT f (c++[(p,z)]))[c.length]? = some (keyT p,f z):=by simp[kvT]
   rw[this];simp[kvT,g1]
end
theorem Z6F{n j:Nat}{seen:List Nat}:j ∈ leftIt n seen↔j<n∧j ∉ seen:=by
 unfold leftIt;rw[List.mem_filter,List.mem_range]
 simp
theorem ZdS{n j:Nat}{seen:List Nat}(hj:j ∈ leftIt n seen):(leftIt n (seen++[j])).length<(leftIt n seen).length:=by
 obtain ⟨h1,h2⟩:=Z6F.1 hj;unfold leftIt
 have:(List.range n).filter (λi => !(seen++[j]).contains i)=((List.range n).filter λi => !seen.contains i).filter λi=>i != j:=by
  rw[List.filter_filter];congr 1
  funext i
  simp[List.contains_append];by_cases e:i=j<;>simp[e]
 rw[this];exact List.length_filter_lt_length_iff_exists.2 ⟨j,hj,by simp⟩
theorem ZCr{d x:Option β}{l:List (Option β)}(h0:l=[]→d=x)(h:∀y ∈ l,y=x):allSame d l=x:=by
 cases l with
 | nil=>exact h0 rfl
 | cons y ys=>
  simp only[allSame];rw[if_pos λz hz=>by rw[h z (by simp[hz]),h y (by simp)]]
  exact h y (by simp)
theorem ZdT{h:Hp}{id m n:Nat}{seen:List Nat}{kvs:List (Value × AV)}{X:Option β}(hid:h[id]? = some (.iter m n seen))(hm:h[m]? = some (.map kvs))(hn:kvs.length=n)(k:Kb β)
  (h0:leftIt n seen=[]→k (.tup [.s (.bool false)]) h=X) (h1:∀j ∈ leftIt n seen,k (.tup [.s (.bool true),.u,.u]) (h.set id (.iter m n (seen++[j])))=X):nextK (.it id) h k=X:=by
 unfold nextK;simp only[hid,hm,hn,if_true]
 refine ZCr (λe=>h0 (by simpa using e)) λy hy => ?_
 obtain ⟨j,hj,rfl⟩:=List.mem_map.1 hy;exact h1 j hj
theorem ZdU{h:Hp}{id m n j:Nat}{seen:List Nat}{kvs:List (Value × AV)}{ky:Value}{v:AV}(hid:h[id]? = some (.iter m n (seen++[j])))(hm:h[m]? = some (.map kvs))(hn:kvs.length=n)(hj:kvs[j]? = some (ky,v))(k:K β):entryK (.it id) h k=k (.tup [keyAV ky,v]):=by
 unfold entryK;simp only[hid,hm,List.getLast?_append,List.getLast?_singleton,Option.some_or,hn,if_true,hj]
end Go.AM


namespace Go.AM
structure Msg where
 mv:Int
 kind:Int
 num:Int
 day:Int
 frm:Int
 to:Int
 alc:Int
deriving DecidableEq
def encM(m:Msg):List AV:=[I m.mv,I m.kind,I m.num,I m.day,I m.frm,I m.to,I m.alc]
structure Docu where
 mv:Int
 stage:Int
 frm:Int
 to:Int
 sent:Int
 got:Int
 chg:Int
deriving DecidableEq
def encDo(d:Docu):List AV:=[I d.mv,I d.stage,I d.frm,I d.to,I d.sent,I d.got,I d.chg]
section
variable {β:Type}
theorem Z18{r:R}{v:AV}{id:Nat}{o:AObj}{ft:List Nat}{h:Hp}(hr:r=some (v,⟨[(id,o)],[],ft⟩))(k:Kb β):effK r h k=k v (h.set id o):=by subst hr;simp[effK,ap]
theorem Z1e{r:R}{v:AV}{id:Nat}{o:AObj}{ft:List Nat}{h:Hp}(hr:r=some (v,⟨[(id,o)],[],ft⟩))(k:AV→Hp→Ent→Option β):effD r h k=k v (h.set id o) (ft,[id]):=by subst hr;simp[effD,ap,wrOf]
theorem lw7_0{a b c d e f g:AV}{t:Hp}{w n:Bool}(k:K β):ldK 7 true (.ptr 0 0 0 1) (.arr 7 [[a,b,c,d,e,f,g]] w n::t) k=k (.agg [a,b,c,d,e,f,g]):=rfl
theorem ew7_0{a b c d e f g:AV}{x0 x1 x2 x3 x4 x5 x6:Int}{t:Hp}{n:Bool}(k:Kb β):effK (stE 7 (.ptr 0 0 0 1) (.agg [(.s (.int .i64 x0)),(.s (.int .i64 x1)),(.s (.int .i64 x2)),(.s (.int .i64 x3)),(.s (.int .i64 x4)),(.s (.int .i64 x5)),(.s (.int .i64 x6))]) (.arr 7 [[a,b,c,d,e,f,g]] true n::t)) (.arr 7 [[a,b,c,d,e,f,g]] true n::t) k=k .u (.arr 7 [[(.s (.int .i64 x0)),(.s (.int .i64 x1)),(.s (.int .i64 x2)),(.s (.int .i64 x3)),(.s (.int .i64 x4)),(.s (.int .i64 x5)),(.s (.int .i64 x6))]] true n::t):=Z18 rfl k
theorem bx7_0{x0 x1 x2 x3 x4 x5 x6:Int}(k:Kb β):effK (boxE 7 (.agg [(.s (.int .i64 x0)),(.s (.int .i64 x1)),(.s (.int .i64 x2)),(.s (.int .i64 x3)),(.s (.int .i64 x4)),(.s (.int .i64 x5)),(.s (.int .i64 x6))]) ([]:Hp).length) [] k=k (.ptr 0 0 0 1) [.arr 7 [[(.s (.int .i64 x0)),(.s (.int .i64 x1)),(.s (.int .i64 x2)),(.s (.int .i64 x3)),(.s (.int .i64 x4)),(.s (.int .i64 x5)),(.s (.int .i64 x6))]] true false]:=rfl
theorem ZdV{o0:AObj}{o1:AObj}{a b c d e f g:AV}{t:Hp}{w n:Bool}(k:K β):ldK 1 false (.ptr 2 0 0 1) (o0::o1 :: .arr 7 [[a,b,c,d,e,f,g]] w n::t) k=k a:=rfl
theorem ZdW{o0:AObj}{o1:AObj}{a b c d e f g:AV}{x:Int}{t:Hp}{n:Bool}(k:Kb β):effK (stE 1 (.ptr 2 0 0 1) (.s (.int .i64 x)) (o0::o1 :: .arr 7 [[a,b,c,d,e,f,g]] true n::t)) (o0::o1 :: .arr 7 [[a,b,c,d,e,f,g]] true n::t) k=k .u (o0::o1 :: .arr 7 [[(.s (.int .i64 x)),b,c,d,e,f,g]] true n::t):=Z18 rfl k
theorem ZdX{o0:AObj}{o1:AObj}{a b c d e f g:AV}{x:Int}{t:Hp}{n:Bool}(k:AV→Hp→Ent→Option β):effD (stE 1 (.ptr 2 0 0 1) (.s (.int .i64 x)) (o0::o1 :: .arr 7 [[a,b,c,d,e,f,g]] true n::t)) (o0::o1 :: .arr 7 [[a,b,c,d,e,f,g]] true n::t) k=k .u (o0::o1 :: .arr 7 [[(.s (.int .i64 x)),b,c,d,e,f,g]] true n::t) ([2],[2]):=Z1e rfl k
theorem Zav{o0:AObj}{o1:AObj}{a b c d e f g:AV}{t:Hp}{w n:Bool}(k:K β):ldK 1 false (.ptr 2 0 1 1) (o0::o1 :: .arr 7 [[a,b,c,d,e,f,g]] w n::t) k=k b:=rfl
theorem Zaw{o0:AObj}{o1:AObj}{a b c d e f g:AV}{x:Int}{t:Hp}{n:Bool}(k:Kb β):effK (stE 1 (.ptr 2 0 1 1) (.s (.int .i64 x)) (o0::o1 :: .arr 7 [[a,b,c,d,e,f,g]] true n::t)) (o0::o1 :: .arr 7 [[a,b,c,d,e,f,g]] true n::t) k=k .u (o0::o1 :: .arr 7 [[a,(.s (.int .i64 x)),c,d,e,f,g]] true n::t):=Z18 rfl k
theorem ZdY{o0:AObj}{o1:AObj}{a b c d e f g:AV}{x:Int}{t:Hp}{n:Bool}(k:AV→Hp→Ent→Option β):effD (stE 1 (.ptr 2 0 1 1) (.s (.int .i64 x)) (o0::o1 :: .arr 7 [[a,b,c,d,e,f,g]] true n::t)) (o0::o1 :: .arr 7 [[a,b,c,d,e,f,g]] true n::t) k=k .u (o0::o1 :: .arr 7 [[a,(.s (.int .i64 x)),c,d,e,f,g]] true n::t) ([2],[2]):=Z1e rfl k
theorem ZdZ{o0:AObj}{o1:AObj}{a b c d e f g:AV}{t:Hp}{w n:Bool}(k:K β):ldK 1 false (.ptr 2 0 2 1) (o0::o1 :: .arr 7 [[a,b,c,d,e,f,g]] w n::t) k=k c:=rfl
theorem Ze0{o0:AObj}{o1:AObj}{a b c d e f g:AV}{x:Int}{t:Hp}{n:Bool}(k:Kb β):effK (stE 1 (.ptr 2 0 2 1) (.s (.int .i64 x)) (o0::o1 :: .arr 7 [[a,b,c,d,e,f,g]] true n::t)) (o0::o1 :: .arr 7 [[a,b,c,d,e,f,g]] true n::t) k=k .u (o0::o1 :: .arr 7 [[a,b,(.s (.int .i64 x)),d,e,f,g]] true n::t):=Z18 rfl k
theorem Ze1{o0:AObj}{o1:AObj}{a b c d e f g:AV}{x:Int}{t:Hp}{n:Bool}(k:AV→Hp→Ent→Option β):effD (stE 1 (.ptr 2 0 2 1) (.s (.int .i64 x)) (o0::o1 :: .arr 7 [[a,b,c,d,e,f,g]] true n::t)) (o0::o1 :: .arr 7 [[a,b,c,d,e,f,g]] true n::t) k=k .u (o0::o1 :: .arr 7 [[a,b,(.s (.int .i64 x)),d,e,f,g]] true n::t) ([2],[2]):=Z1e rfl k
theorem Ze2{o0:AObj}{o1:AObj}{a b c d e f g:AV}{t:Hp}{w n:Bool}(k:K β):ldK 1 false (.ptr 2 0 3 1) (o0::o1 :: .arr 7 [[a,b,c,d,e,f,g]] w n::t) k=k d:=rfl
theorem Ze3{o0:AObj}{o1:AObj}{a b c d e f g:AV}{x:Int}{t:Hp}{n:Bool}(k:Kb β):effK (stE 1 (.ptr 2 0 3 1) (.s (.int .i64 x)) (o0::o1 :: .arr 7 [[a,b,c,d,e,f,g]] true n::t)) (o0::o1 :: .arr 7 [[a,b,c,d,e,f,g]] true n::t) k=k .u (o0::o1 :: .arr 7 [[a,b,c,(.s (.int .i64 x)),e,f,g]] true n::t):=Z18 rfl k
theorem Ze4{o0:AObj}{o1:AObj}{a b c d e f g:AV}{x:Int}{t:Hp}{n:Bool}(k:AV→Hp→Ent→Option β):effD (stE 1 (.ptr 2 0 3 1) (.s (.int .i64 x)) (o0::o1 :: .arr 7 [[a,b,c,d,e,f,g]] true n::t)) (o0::o1 :: .arr 7 [[a,b,c,d,e,f,g]] true n::t) k=k .u (o0::o1 :: .arr 7 [[a,b,c,(.s (.int .i64 x)),e,f,g]] true n::t) ([2],[2]):=Z1e rfl k
theorem Ze5{o0:AObj}{o1:AObj}{a b c d e f g:AV}{t:Hp}{w n:Bool}(k:K β):ldK 1 false (.ptr 2 0 4 1) (o0::o1 :: .arr 7 [[a,b,c,d,e,f,g]] w n::t) k=k e:=rfl
theorem Ze6{o0:AObj}{o1:AObj}{a b c d e f g:AV}{x:Int}{t:Hp}{n:Bool}(k:Kb β):effK (stE 1 (.ptr 2 0 4 1) (.s (.int .i64 x)) (o0::o1 :: .arr 7 [[a,b,c,d,e,f,g]] true n::t)) (o0::o1 :: .arr 7 [[a,b,c,d,e,f,g]] true n::t) k=k .u (o0::o1 :: .arr 7 [[a,b,c,d,(.s (.int .i64 x)),f,g]] true n::t):=Z18 rfl k
theorem Ze7{o0:AObj}{o1:AObj}{a b c d e f g:AV}{x:Int}{t:Hp}{n:Bool}(k:AV→Hp→Ent→Option β):effD (stE 1 (.ptr 2 0 4 1) (.s (.int .i64 x)) (o0::o1 :: .arr 7 [[a,b,c,d,e,f,g]] true n::t)) (o0::o1 :: .arr 7 [[a,b,c,d,e,f,g]] true n::t) k=k .u (o0::o1 :: .arr 7 [[a,b,c,d,(.s (.int .i64 x)),f,g]] true n::t) ([2],[2]):=Z1e rfl k
theorem Ze8{o0:AObj}{o1:AObj}{a b c d e f g:AV}{t:Hp}{w n:Bool}(k:K β):ldK 1 false (.ptr 2 0 5 1) (o0::o1 :: .arr 7 [[a,b,c,d,e,f,g]] w n::t) k=k f:=rfl
theorem Ze9{o0:AObj}{o1:AObj}{a b c d e f g:AV}{x:Int}{t:Hp}{n:Bool}(k:Kb β):effK (stE 1 (.ptr 2 0 5 1) (.s (.int .i64 x)) (o0::o1 :: .arr 7 [[a,b,c,d,e,f,g]] true n::t)) (o0::o1 :: .arr 7 [[a,b,c,d,e,f,g]] true n::t) k=k .u (o0::o1 :: .arr 7 [[a,b,c,d,e,(.s (.int .i64 x)),g]] true n::t):=Z18 rfl k
theorem Zea{o0:AObj}{o1:AObj}{a b c d e f g:AV}{x:Int}{t:Hp}{n:Bool}(k:AV→Hp→Ent→Option β):effD (stE 1 (.ptr 2 0 5 1) (.s (.int .i64 x)) (o0::o1 :: .arr 7 [[a,b,c,d,e,f,g]] true n::t)) (o0::o1 :: .arr 7 [[a,b,c,d,e,f,g]] true n::t) k=k .u (o0::o1 :: .arr 7 [[a,b,c,d,e,(.s (.int .i64 x)),g]] true n::t) ([2],[2]):=Z1e rfl k
theorem Zeb{o0:AObj}{o1:AObj}{a b c d e f g:AV}{t:Hp}{w n:Bool}(k:K β):ldK 1 false (.ptr 2 0 6 1) (o0::o1 :: .arr 7 [[a,b,c,d,e,f,g]] w n::t) k=k g:=rfl
theorem Zec{o0:AObj}{o1:AObj}{a b c d e f g:AV}{x:Int}{t:Hp}{n:Bool}(k:Kb β):effK (stE 1 (.ptr 2 0 6 1) (.s (.int .i64 x)) (o0::o1 :: .arr 7 [[a,b,c,d,e,f,g]] true n::t)) (o0::o1 :: .arr 7 [[a,b,c,d,e,f,g]] true n::t) k=k .u (o0::o1 :: .arr 7 [[a,b,c,d,e,f,(.s (.int .i64 x))]] true n::t):=Z18 rfl k
theorem Zed{o0:AObj}{o1:AObj}{a b c d e f g:AV}{x:Int}{t:Hp}{n:Bool}(k:AV→Hp→Ent→Option β):effD (stE 1 (.ptr 2 0 6 1) (.s (.int .i64 x)) (o0::o1 :: .arr 7 [[a,b,c,d,e,f,g]] true n::t)) (o0::o1 :: .arr 7 [[a,b,c,d,e,f,g]] true n::t) k=k .u (o0::o1 :: .arr 7 [[a,b,c,d,e,f,(.s (.int .i64 x))]] true n::t) ([2],[2]):=Z1e rfl k
theorem lw7_2{o0:AObj}{o1:AObj}{a b c d e f g:AV}{t:Hp}{w n:Bool}(k:K β):ldK 7 true (.ptr 2 0 0 1) (o0::o1 :: .arr 7 [[a,b,c,d,e,f,g]] w n::t) k=k (.agg [a,b,c,d,e,f,g]):=rfl
theorem ew7_2{o0:AObj}{o1:AObj}{a b c d e f g:AV}{x0 x1 x2 x3 x4 x5 x6:Int}{t:Hp}{n:Bool}(k:Kb β):effK (stE 7 (.ptr 2 0 0 1) (.agg [(.s (.int .i64 x0)),(.s (.int .i64 x1)),(.s (.int .i64 x2)),(.s (.int .i64 x3)),(.s (.int .i64 x4)),(.s (.int .i64 x5)),(.s (.int .i64 x6))]) (o0::o1 :: .arr 7 [[a,b,c,d,e,f,g]] true n::t)) (o0::o1 :: .arr 7 [[a,b,c,d,e,f,g]] true n::t) k=k .u (o0::o1 :: .arr 7 [[(.s (.int .i64 x0)),(.s (.int .i64 x1)),(.s (.int .i64 x2)),(.s (.int .i64 x3)),(.s (.int .i64 x4)),(.s (.int .i64 x5)),(.s (.int .i64 x6))]] true n::t):=Z18 rfl k
theorem bx7_2{o0:AObj}{o1:AObj}{x0 x1 x2 x3 x4 x5 x6:Int}(k:Kb β):effK (boxE 7 (.agg [(.s (.int .i64 x0)),(.s (.int .i64 x1)),(.s (.int .i64 x2)),(.s (.int .i64 x3)),(.s (.int .i64 x4)),(.s (.int .i64 x5)),(.s (.int .i64 x6))]) ([o0,o1]:Hp).length) [o0,o1] k=k (.ptr 2 0 0 1) [o0,o1,.arr 7 [[(.s (.int .i64 x0)),(.s (.int .i64 x1)),(.s (.int .i64 x2)),(.s (.int .i64 x3)),(.s (.int .i64 x4)),(.s (.int .i64 x5)),(.s (.int .i64 x6))]] true false]:=rfl
end
end Go.AM


namespace Go.AM
open Go.Proofs
attribute [local congr] Z0w Z0x Z0y Z0z Z0A Z0B Z0C Z0D Z0E Z0F Z0G Z0H Z0I Z0J Z0K Z0L Z0M Z0N Z0O Z0P Z0Q Z0R Z0S Z0T Z0U Z0V Z0W
theorem ZCs{l:List Msg}{i:Nat}{x:Msg}(hx:l[i]? = some x):l.take (i+1)=l.take i++[x]:=by
 rw[List.take_add_one,hx];rfl
abbrev zM:List AV:=zz7
section
variable {β:Type} {P:Program} {T:Tab} {D:DTab} {N:Nat} {K:Kb β}
end
end Go.AM


namespace Go.AM
open Go.Proofs
end Go.AM


namespace Go.AM
open Go.Proofs
attribute [local congr] Z0w Z0x Z0y Z0z Z0A Z0B Z0C Z0D Z0E Z0F Z0G Z0H Z0I Z0J Z0K Z0L Z0M Z0N Z0O Z0P Z0Q Z0R Z0S Z0T Z0U Z0V Z0W
structure Fol where
 d:Docu
 en:Bool
 an:Int
 cnt:List ((Int × Int) × Int)
def cntP(c:List ((Int × Int) × Int))(p:Int × Int):Int:=((fndT c p).map (·.2)).getD 0
def bumpP(c:List ((Int × Int) × Int))(p:Int × Int):List ((Int × Int) × Int):=updT c p (IntKind.i64.wrap (cntP c p+1))
def stepF(mv:Int)(s:Fol)(m:Msg):Fol:=
 if m.mv≠mv then s
 else if m.kind=1 then { s with d:={ s.d with stage:=1,frm:=m.frm,to:=m.to,sent:=m.alc },cnt:=bumpP s.cnt (m.kind,m.num) }
 else if m.kind=2 then { s with d:={ s.d with to:=m.to,chg:=IntKind.i64.wrap (s.d.chg+1) },cnt:=bumpP s.cnt (m.kind,m.num) }
 else if m.kind=3 then { s with d:={ s.d with got:=m.alc },an:=2,cnt:=bumpP s.cnt (m.kind,m.num) }
 else if m.kind=4 then { s with an:=3,cnt:=bumpP s.cnt (3,m.num) }
 else if m.kind=5 then { s with en:=true }
 else { s with cnt:=bumpP s.cnt (m.kind,m.num) }
def begF(mv:Int):Fol:=⟨⟨mv,0,0,0,0,0,0⟩,false,0,[]⟩
def folF(mv:Int)(l:List Msg):Fol:=l.foldl (stepF mv) (begF mv)
def noneD(mv:Int):Docu:=⟨mv,0,0,0,0,0,0⟩
def confD(mv:Int):Docu:=⟨mv,5,0,0,0,0,0⟩
def endF(mv:Int)(s:Fol):Docu:=
 if s.d.stage=0 then noneD mv
 else if (s.cnt.any λe=>decide (1<e.2))=true then confD mv
 else if s.an=0 then s.d else if s.en=true then { s.d with stage:=4 } else { s.d with stage:=s.an }
def docF(mv:Int)(l:List Msg):Docu:=endF mv (folF mv l)
abbrev fI:Int→AV:=λn => .s (.int .i64 n)
theorem twoP:TwoInts Tryz.prog 223 3:=⟨⟨_,Tryz.underlying223,_,_,rfl,rfl,rfl,rfl,rfl,eq_false (by decide),eq_false (by decide)⟩,Tryz.underlying3,by kernel_rfl⟩
section
variable {β:Type}
theorem get3{o0 o1 o2 x:AObj}{g t:Hp}:(o0::o1::o2::(g++x::t))[g.length+3]? = some x:=by
 simp[List.getElem?_append_right]
theorem get4{o0 o1 o2 x y:AObj}{g t:Hp}:(o0::o1::o2::(g++x::y::t))[g.length+4]? = some y:=by
 simp[List.getElem?_append_right]
theorem set3{o0 o1 o2 x z:AObj}{g t:Hp}:(o0::o1::o2::(g++x::t)).set (g.length+3) z=o0::o1::o2::(g++z::t):=by
 simp[List.set_append_right]
theorem set4{o0 o1 o2 x y z:AObj}{g t:Hp}:(o0::o1::o2::(g++x::y::t)).set (g.length+4) z=o0::o1::o2::(g++x::z::t):=by
 simp[List.set_append_right]
variable {o0 o1 o2:AObj} {g t:Hp} {m:Msg}
theorem lq(j:Nat)(k:Go.AM.K β){x:AV}(hx:(encM m)[j]? = some x):ldK 1 false (.ptr (g.length+3) 0 j 1) (o0::o1::o2::(g ++ .arr 7 [encM m] true false::t)) k=k x:=by
 rw[Z0d,get3];simp[hx]
theorem lq0(k:Go.AM.K β):ldK 1 false (.ptr (g.length+3) 0 0 1) (o0::o1::o2::(g ++ .arr 7 [encM m] true false::t)) k=k (I m.mv):=lq 0 k rfl
theorem lq1(k:Go.AM.K β):ldK 1 false (.ptr (g.length+3) 0 1 1) (o0::o1::o2::(g ++ .arr 7 [encM m] true false::t)) k=k (I m.kind):=lq 1 k rfl
theorem lq2(k:Go.AM.K β):ldK 1 false (.ptr (g.length+3) 0 2 1) (o0::o1::o2::(g ++ .arr 7 [encM m] true false::t)) k=k (I m.num):=lq 2 k rfl
theorem lq4(k:Go.AM.K β):ldK 1 false (.ptr (g.length+3) 0 4 1) (o0::o1::o2::(g ++ .arr 7 [encM m] true false::t)) k=k (I m.frm):=lq 4 k rfl
theorem lq5(k:Go.AM.K β):ldK 1 false (.ptr (g.length+3) 0 5 1) (o0::o1::o2::(g ++ .arr 7 [encM m] true false::t)) k=k (I m.to):=lq 5 k rfl
theorem lq6(k:Go.AM.K β):ldK 1 false (.ptr (g.length+3) 0 6 1) (o0::o1::o2::(g ++ .arr 7 [encM m] true false::t)) k=k (I m.alc):=lq 6 k rfl
theorem bq7(k:Kb β):effK (boxE 7 (.agg zM) (o0::o1::o2::g).length) (o0::o1::o2::g) k=k (.ptr (g.length+3) 0 0 1) (o0::o1::o2::(g++[.arr 7 [zM] true false])):=by
 exact (Z0Y 7 (o0::o1::o2::g).length (.agg zM) _ k rfl rfl rfl).trans rfl
theorem sq7(k:Kb β):effK (stE 7 (.ptr (g.length+3) 0 0 1) (.agg (encM m)) (o0::o1::o2::(g++[.arr 7 [zM] true false]))) (o0::o1::o2::(g++[.arr 7 [zM] true false])) k=k .u (o0::o1::o2::(g++[.arr 7 [encM m] true false])):=by
 rw[Z18 (v := .u) (id:=g.length+3) (o := .arr 7 [encM m] true false) (ft:=[g.length+3]) (by rw[Z4o,get3];simp[encM]),set3]
theorem bq2{x:AObj}(k:Kb β):effK (boxE 2 (.agg zz2) (o0::o1::o2::(g++[x])).length) (o0::o1::o2::(g++[x])) k=k (.ptr (g.length+4) 0 0 1) (o0::o1::o2::(g++[x,.arr 2 [[I 0,I 0]] true false])):=by
 rw[Z0Y 2 _ _ _ k rfl rfl rfl];simp
theorem sq2{x:AObj}{a b:Int}(k:Kb β):effK (stE 2 (.ptr (g.length+4) 0 0 1) (.agg [I a,I b]) (o0::o1::o2::(g++[x,.arr 2 [[I 0,I 0]] true false]))) (o0::o1::o2::(g++[x,.arr 2 [[I 0,I 0]] true false])) k=k .u (o0::o1::o2::(g++[x,.arr 2 [[I a,I b]] true false])):=by
 rw[Z18 (v := .u) (id:=g.length+4) (o := .arr 2 [[I a,I b]] true false) (ft:=[g.length+4]) (by rw[Z4o,get4];simp),set4]
theorem sq20{x:AObj}{a b c:Int}(k:Kb β):effK (stE 1 (.ptr (g.length+4) 0 0 1) (I c) (o0::o1::o2::(g++[x,.arr 2 [[I a,I b]] true false]))) (o0::o1::o2::(g++[x,.arr 2 [[I a,I b]] true false])) k=k .u (o0::o1::o2::(g++[x,.arr 2 [[I c,I b]] true false])):=by
 rw[Z18 (v := .u) (id:=g.length+4) (o := .arr 2 [[I c,I b]] true false) (ft:=[g.length+4]) (by rw[Z4o,get4];simp),set4]
theorem lw2{x:AObj}{a b:AV}(k:Go.AM.K β):ldK 2 true (.ptr (g.length+4) 0 0 1) (o0::o1::o2::(g++[x,.arr 2 [[a,b]] true false])) k=k (.agg [a,b]):=by
 rw[Z0d,get4]
 simp
end
theorem of_j9{β:Type}{T:Tab}{D:DTab}{N:Nat}{xn:AV→AV→AV→AV→AV→AV→AV→AV→Kb β}{x0:AV→AV→AV→AV→AV→Kb β}{v1 v4 v6 v7 v8 v17 v18 v19:AV}{o0 o2 x:AObj}{g:Hp}{c:List ((Int × Int) × Int)}{a b:Int}:
  Z2G Tryz.prog T D N xn x0 v1 v4 (.mp 1) v6 v7 v8 (.ptr (g.length+4) 0 0 1) v17 v18 v19 (o0 :: .map (kvT fI c)::o2::(g++[x,.arr 2 [[I a,I b]] true false])) =
   Z1h Tryz.prog T D N xn x0 v1 v4 (.mp 1) v6 v7 v8 v17 v18 v19 (o0 :: .map (kvT fI (bumpP c (a,b)))::o2::(g++[x,.arr 2 [[I a,I b]] true false])):=by
 obtain ⟨bv,j,c1,h1,h2⟩:=Zly (f:=fI) (h:=o0 :: .map (kvT fI c)::o2::(g++[x,.arr 2 [[I a,I b]] true false])) (id:=1) (c:=c) (p:=(a,b)) (z:=(0:Int)) (x:=IntKind.i64.wrap (cntP c (a,b)+1)) twoP rfl
 have hl:∀k:Go.AM.K β,lookK Tryz.prog 223 (I 0) false (.mp 1) (.agg [I a,I b]) (o0 :: .map (kvT fI c)::o2::(g++[x,.arr 2 [[I a,I b]] true false])) k=k (I (cntP c (a,b))):=λk=>by
  rw[Zlx (p:=(a,b)) (f:=fI) (c:=c) twoP rfl];unfold cntP
  cases fndT c (a,b)<;>rfl
 have e1:∀k:AV→Hp→Ent→Option β,effD (mentE Tryz.prog 223 (I 0) (.mp 1) (.agg [I a,I b]) (o0 :: .map (kvT fI c)::o2::(g++[x,.arr 2 [[I a,I b]] true false]))) (o0 :: .map (kvT fI c)::o2::(g++[x,.arr 2 [[I a,I b]] true false])) k=k (.tup [bv,.s (.int .i64 j)]) (o0 :: .map (kvT fI c1)::o2::(g++[x,.arr 2 [[I a,I b]] true false])) ([1],[1]):=λk=>Z1e h1 k
 have e2:∀k:AV→Hp→Ent→Option β,effD (estE (.mp 1) (.s (.int .i64 j)) (I (IntKind.i64.wrap (cntP c (a,b)+1))) (o0 :: .map (kvT fI c1)::o2::(g++[x,.arr 2 [[I a,I b]] true false]))) (o0 :: .map (kvT fI c1)::o2::(g++[x,.arr 2 [[I a,I b]] true false])) k=k .u (o0 :: .map (kvT fI (bumpP c (a,b)))::o2::(g++[x,.arr 2 [[I a,I b]] true false])) ([1],[1]):=λk=>Z1e (h2 _ rfl) k
 have x1:∀k:Go.AM.K β,exK (.tup [bv,.s (.int .i64 j)]) 1 k=k (.s (.int .i64 j)):=λk=>rfl
 simp -implicitDefEqProofs only[Z2G,ZgQ,lw2,hl,Z08,e1,x1,e2,Zba,cond_true]
theorem of_b6{β:Type}{T:Tab}{D:DTab}{N:Nat}{xn:AV→AV→AV→AV→AV→AV→AV→AV→Kb β}{x0:AV→AV→AV→AV→AV→Kb β}{l:List Msg}{b:Bool}{i:Nat}{m:Msg}{mv:Int}{s:Fol}{o0:AObj}{g:Hp}(hl:l.length<1000000)(hi:l[i]? = some m):
  ∃g',Z2H Tryz.prog T D N xn x0 (I mv) (.ptr 0 0 0 1) (.mp 1) (.ptr 2 0 0 1) (B s.en) (I s.an) (.lst 7 b (l.map encM)) (I l.length) (I i) (o0 :: .map (kvT fI s.cnt) :: .arr 7 [encDo s.d] true false::g) =
   xn (I mv) (.ptr 0 0 0 1) (.mp 1) (.ptr 2 0 0 1) (B (stepF mv s m).en) (I (stepF mv s m).an) (.lst 7 b (l.map encM)) (I l.length) (I ((i+1:Nat):Int)) (o0 :: .map (kvT fI (stepF mv s m).cnt) :: .arr 7 [encDo (stepF mv s m).d] true false::g'):=by
 have hil:i<l.length:=(List.getElem?_eq_some_iff.1 hi).1;have c1:((i:Int)<(l.length:Int)):=by omega
 have hw:IntKind.i64.wrap ((i:Int)+1)=((i+1:Nat):Int):=by rw[wrap64 (by omega) (by omega)];omega
 have ic:∀k:Go.AM.K β,iaK 7 (.lst 7 b (l.map encM)) (I i) k=k (.ep (encM m) 0):=λk=>Z0s i rfl hi k
 have ld:∀(h:Hp)(k:Go.AM.K β),ldK 7 true (.ep (encM m) 0) h k=k (.agg (encM m)):=λh k=>rfl
 have bd:∀k:Go.AM.K β,buildK zz2 [(some (0,1),I m.kind),(some (1,1),I m.num)] k=k (.agg [I m.kind,I m.num]):=λk=>rfl
 obtain ⟨⟨d0,d1,d2,d3,d4,d5,d6⟩,en,an,cnt⟩:=s;simp only[encDo];have dj4:disjAll [(1,7),(3,7),(5,7),(3,9),(5,9),(5,11)] [([],[]),(idsOf (AV.ptr (g.length+3) 0 4 1),[]),([],[]),(idsOf (AV.ptr (g.length+3) 0 5 1),[]),([],[]),(idsOf (AV.ptr (g.length+3) 0 6 1),[]),([],[]),([2],[2]),([],[]),([2],[2]),([],[]),([2],[2]),([],[]),([2],[2])]=true:=by simp[disjAll,disj2,idsOf]
 by_cases hm:m.mv=mv
 ·have em:(m.mv==mv)=true:=by simpa using hm
  have en':¬(m.mv≠mv):=by simpa using hm
  refine ⟨g++[.arr 7 [encM m] true false,.arr 2 [[I (if m.kind=4 then 3 else m.kind),I m.num]] true false], ?_⟩
  simp -implicitDefEqProofs only[Z2H,Z05,c1,decide_true,Z02,if_true,ic,ld,bq7,sq7,Z0m,Nat.zero_add,lq0,Z04,em,Bool.true_xor,Bool.false_xor,Bool.not_true,Bool.false_eq_true,if_false,lq1,lq2,bd,bq2,sq2]
  by_cases k1:m.kind=1
  ·have q1:(m.kind==1)=true:=by simpa using k1
   simp -implicitDefEqProofs only[q1,if_true,lq4,lq5,lq6,Z0m,Nat.zero_add,ZdV,ZdW,ZdX,Zav,Zaw,ZdY,ZdZ,Ze0,Ze1,Ze2,Ze3,Ze4,Ze5,Ze6,Ze7,Ze8,Ze9,Zea,Zeb,Zec,Zed,of_j9,dj4,cond_true,Z1h,Z2g,Z08,hw]
   simp[stepF,hm,k1]
  have q1:(m.kind==1)=false:=by simpa using k1
  by_cases k2:m.kind=2
  ·have q2:(m.kind==2)=true:=by simpa using k2
   simp -implicitDefEqProofs only[q1,q2,Bool.false_eq_true,if_false,if_true,lq5,Z0m,Nat.zero_add,ZdV,ZdW,ZdX,Zav,Zaw,ZdY,ZdZ,Ze0,Ze1,Ze2,Ze3,Ze4,Ze5,Ze6,Ze7,Ze8,Ze9,Zea,Zeb,Zec,Zed,of_j9,Z1h,Z2g,Z08,hw]
   simp[stepF,hm,k1,k2]
  have q2:(m.kind==2)=false:=by simpa using k2
  by_cases k3:m.kind=3
  ·have q3:(m.kind==3)=true:=by simpa using k3
   have dj:disjAll [(1,4)] [([],[]),(idsOf (AV.ptr (g.length+3) 0 6 1),[]),([],[]),([],[]),([2],[2])]=true:=by simp[disjAll,disj2,idsOf]
   simp -implicitDefEqProofs only[q1,q2,q3,Bool.false_eq_true,if_false,if_true,lq6,Z0m,Nat.zero_add,ZdV,ZdW,ZdX,Zav,Zaw,ZdY,ZdZ,Ze0,Ze1,Ze2,Ze3,Ze4,Ze5,Ze6,Ze7,Ze8,Ze9,Zea,Zeb,Zec,Zed,of_j9,dj,cond_true,Z1h,Z2g,Z08,hw]
   simp[stepF,hm,k1,k2,k3]
  have q3:(m.kind==3)=false:=by simpa using k3
  by_cases k4:m.kind=4
  ·have q4:(m.kind==4)=true:=by simpa using k4
   simp -implicitDefEqProofs only[q1,q2,q3,q4,Bool.false_eq_true,if_false,if_true,Z0m,Nat.zero_add,sq20,of_j9,Z1h,Z2g,Z08,hw]
   simp[stepF,hm,k1,k2,k3,k4]
  have q4:(m.kind==4)=false:=by simpa using k4
  by_cases k5:m.kind=5
  ·have q5:(m.kind==5)=true:=by simpa using k5
   simp -implicitDefEqProofs only[q1,q2,q3,q4,q5,Bool.false_eq_true,if_false,if_true,Z1h,Z2g,Z08,hw]
   simp[stepF,hm,k1,k2,k3,k4,k5]
  have q5:(m.kind==5)=false:=by simpa using k5
  simp only[k4,if_false];simp -implicitDefEqProofs only[q1,q2,q3,q4,q5,Bool.false_eq_true,if_false,if_true,of_j9,Z1h,Z2g,Z08,hw];simp[stepF,hm,k1,k2,k3,k4,k5]
 ·have em:(m.mv==mv)=false:=by simpa using hm
  have en':m.mv≠mv:=hm;refine ⟨g++[.arr 7 [encM m] true false], ?_⟩;simp -implicitDefEqProofs only[Z2H,Z05,c1,decide_true,Z02,if_true,ic,ld,bq7,sq7,Z0m,Nat.zero_add,lq0,Z04,em,Bool.true_xor,Bool.not_false,Z1h,Z2g,Z08,hw,stepF,en',ne_eq,not_false_eq_true]
theorem of_L6{β:Type}{T:Tab}{D:DTab}{N:Nat}{x0:AV→AV→AV→AV→AV→Kb β}{X:Option β}{l:List Msg}{b:Bool}{mv:Int}{o0:AObj}(hl:l.length<1000000)(hx:∀g,x0 (I mv) (.ptr 0 0 0 1) (.mp 1) (.ptr 2 0 0 1) (B (folF mv l).en) (I (folF mv l).an) (o0 :: .map (kvT fI (folF mv l).cnt) :: .arr 7 [encDo (folF mv l).d] true false::g)=X):∀(n i:Nat)(g:Hp),i≤l.length→l.length<i+n→
  Z2h Tryz.prog T D N x0 n (I mv) (.ptr 0 0 0 1) (.mp 1) (.ptr 2 0 0 1) (B (folF mv (l.take i)).en) (I (folF mv (l.take i)).an) (.lst 7 b (l.map encM)) (I l.length) (I i) (o0 :: .map (kvT fI (folF mv (l.take i)).cnt) :: .arr 7 [encDo (folF mv (l.take i)).d] true false::g)=X:=by
 intro n;induction n with
 | zero=>intro i g h1 h2;omega
 | succ n ih=>
  intro i g h1 h2;show Z2H Tryz.prog T D N (Z2h Tryz.prog T D N x0 n) x0 _ _ _ _ _ _ _ _ _ _=_
  rcases Nat.lt_or_ge i l.length with hi | hi
  ·have hm:l[i]? = some l[i]:=List.getElem?_eq_getElem hi
   obtain ⟨g',e⟩:=of_b6 (T:=T) (D:=D) (N:=N) (xn:=Z2h Tryz.prog T D N x0 n) (x0:=x0) (b:=b) (mv:=mv) (s:=folF mv (l.take i)) (o0:=o0) (g:=g) hl hm;rw[e]
   have hs:stepF mv (folF mv (l.take i)) l[i]=folF mv (l.take (i+1)):=by
    unfold folF;rw[ZCs hm,List.foldl_append]
    rfl
   rw[hs];exact ih (i+1) g' (by omega) (by omega)
  ·have:i=l.length:=by omega
   subst this;have c1:¬((l.length:Int)<(l.length:Int)):=by omega
   rw[List.take_length];simp -implicitDefEqProofs only[Z2H,Z05,c1,decide_false,Z02,Bool.false_eq_true,if_false];exact hx g
theorem of_L5{T:Tab}{D:DTab}{N:Nat}{x3:AV→AV→AV→Kb AV}{xr:Kb AV}{X:Option AV}{mv:Int}{en an:AV}{c:List ((Int × Int) × Int)}{d:Docu}{id:Nat}
  (h3:(c.any λe=>decide (1<e.2))=false→∀z t,x3 (.ptr 0 0 0 1) (.ptr 2 0 0 1) en an (.arr 7 [zM] true false::z :: .arr 7 [encDo d] true false::t)=X) (hr:(c.any λe=>decide (1<e.2))=true→∀z z2 t,xr (.ptr 0 0 0 1) (.arr 7 [encDo (confD mv)] true false::z::z2::t)=X):
  ∀(n:Nat)(seen:List Nat)(t:Hp),(leftIt c.length seen).length<n→(∀j ∈ seen,∀e,c[j]? = some e→¬1<e.2)→(.arr 7 [zM] true false :: .map (kvT fI c) :: .arr 7 [encDo d] true false::t:Hp)[id]? = some (.iter 1 c.length seen)→
  Z2F Tryz.prog T D N x3 xr n (I mv) (.ptr 0 0 0 1) (.ptr 2 0 0 1) en an (.it id) (.arr 7 [zM] true false :: .map (kvT fI c) :: .arr 7 [encDo d] true false::t)=X:=by
 intro n;induction n with
 | zero=>intro seen t h1;omega
 | succ n ih=>
  intro seen t h1 hseen hid;have hn:(kvT fI c).length=c.length:=by simp[kvT]
  have hid3:∃q,id=q+3:=by
   match id,hid with
   | 0,hid=>simp at hid
   | 1,hid=>simp at hid
   | 2,hid=>simp at hid
   | q+3,_=>exact ⟨q,rfl⟩
  obtain ⟨q,rfl⟩:=hid3;have hset:∀o,(.arr 7 [zM] true false :: .map (kvT fI c) :: .arr 7 [encDo d] true false::t:Hp).set (q+3) o = .arr 7 [zM] true false :: .map (kvT fI c) :: .arr 7 [encDo d] true false::t.set q o:=λo=>rfl
  have hql:q<t.length:=by simpa using (List.getElem?_eq_some_iff.1 hid).1
  show Zbs Tryz.prog T D N (Z2F Tryz.prog T D N x3 xr n) x3 xr _ _ _ _ _ _ _=_;refine ZdT hid rfl hn _ (λh0 => ?_) λj hj => ?_
  ·simp -implicitDefEqProofs only[Z76,List.getElem?_cons_zero,Z02,Bool.false_eq_true,if_false]
   refine h3 ?_ _ _;rw[List.any_eq_false];intro e he;obtain ⟨j,hj,rfl⟩:=List.getElem_of_mem he;have:j ∉ leftIt c.length seen:=by rw[h0];simp
   rw[Z6F] at this
   have hs:j ∈ seen:=by
    rcases Decidable.em (j ∈ seen) with h | h
    ·exact h
    ·exact absurd ⟨hj,h⟩ this
   simpa using hseen j hs _ (List.getElem?_eq_getElem hj)
  ·obtain ⟨hjl,hjs⟩:=Z6F.1 hj
   have hcj:c[j]? = some c[j]:=List.getElem?_eq_getElem hjl;have hkj:(kvT fI c)[j]? = some (keyT c[j].1,fI c[j].2):=by simp[kvT,hjl]
   rw[hset];have en1:∀k:KV,entryK (.it (q+3)) (.arr 7 [zM] true false :: .map (kvT fI c) :: .arr 7 [encDo d] true false::t.set q (.iter 1 c.length (seen++[j]))) k=k (.tup [keyAV (keyT c[j].1),I c[j].2]):=λk=>ZdU (seen:=seen) (n:=c.length) (j:=j) (h := .arr 7 [zM] true false :: .map (kvT fI c) :: .arr 7 [encDo d] true false::t.set q (.iter 1 c.length (seen++[j]))) (id:=q+3) (m:=1) (by simp[hql]) rfl hn hkj k
   have bc:∀k:KV,buildK zz7 [(some (0,1),I mv),(some (1,1),.s (.int .i64 5))] k=k (.agg [I mv,I 5,I 0,I 0,I 0,I 0,I 0]):=λk=>rfl
   simp -implicitDefEqProofs only[Z76,List.getElem?_cons_zero,Z02,if_true]
   rw[en1];simp -implicitDefEqProofs only[Z76,List.getElem?_cons_zero,List.getElem?_cons_succ,Z02,Z14,bc,ew7_0];by_cases h2:1<c[j].2
   ·rw[if_pos (by simpa using h2)]
    exact hr (List.any_eq_true.2 ⟨c[j],List.getElem_mem hjl,by simpa using h2⟩) _ _ _
   ·rw[if_neg (by simpa using h2)]
    refine ih (seen++[j]) _ (by have:=ZdS hj;omega) (λi hi e he => ?_) (by simp[hql])
    rcases List.mem_append.1 hi with hi | hi
    ·exact hseen i hi e he
    ·simp only[List.mem_singleton] at hi
     subst hi;rw[hcj] at he
     injection he with he;rw[← he];exact h2
theorem Z6G{α:Type}:∀(c:List ((Int × Int) × α))(p:Int × Int)(x:α),(updT c p x).length≤c.length+1
 | [],p,x=>by simp[updT]
 | (q,y)::c,p,x=>by
  have:=Z6G c p x
  simp only[updT];split<;>simp<;>omega
theorem ZCt(mv:Int)(s:Fol)(m:Msg):(stepF mv s m).cnt.length≤s.cnt.length+1:=by
 unfold stepF;repeat' split
 all_goals first | exact Z6G _ _ _ | (simp;done)
theorem Zlz(mv:Int):∀(l:List Msg)(s:Fol),(l.foldl (stepF mv) s).cnt.length≤s.cnt.length+l.length
 | [],s=>by simp
 | m::l,s=>by
  have h1:=Zlz mv l (stepF mv s m);have h2:=ZCt mv s m;simp only[List.foldl_cons,List.length_cons]
  omega
theorem ZCu(l:List Msg)(b:Bool)(mv:Int)(hl:l.length<1000000)(h:Hp):Z3T [.lst 7 b (l.map encM),I mv] h=some (.agg (encDo (docF mv l)),h):=by
 refine ZxW (v := .agg (encDo (docF mv l))) rfl ?_ h;simp only[nrm,nrmC];have b0:∀k:KV,buildK zz7 [(some (0,1),I mv)] k=k (.agg (encDo (noneD mv))):=λk=>rfl
 have mk:∀(o:AObj)(k:Kb AV),effK (some (.mp (List.length [o]),EN (.map []))) [o] k=k (.mp 1) [o,.map []]:=λo k=>rfl
 simp -implicitDefEqProofs only[Z7K,bx7_0,mk,b0,bx7_2,encDo,noneD,ew7_2,Z0b,List.length_map]
 have key:=of_L6 (T:=Z31) (D:=Z30) (N:=NN) (x0:=λw121_1 w121_4 w121_5 w121_6 w121_7 w121_8 h=>Z3r Tryz.prog Z31 Z30 NN (λv g=>cvt false g v) w121_1 w121_4 w121_5 w121_6 w121_7 w121_8 h) (X:=some (AV.agg (encDo (docF mv l)))) (l:=l) (b:=b) (mv:=mv) (o0 := .arr 7 [zM] true false) hl ?_ NN 0 [] (by omega) (by have:=NN_ge;omega)
 ·exact key
 ·intro g
  have b1:∀k:KV,buildK zM [(some (0,1),I mv)] k=k (.agg (encDo (noneD mv))):=λk=>rfl
  unfold docF;have hcl:(folF mv l).cnt.length≤l.length:=by have:=Zlz mv l (begF mv);simpa [begF,folF] using this
  generalize folF mv l=s at *;obtain ⟨⟨d0,d1,d2,d3,d4,d5,d6⟩,en,an,c⟩:=s;simp -implicitDefEqProofs only[Z3r,Z0m,Nat.zero_add,encDo,Zav,Z04,Bool.false_xor,Z02,b1];by_cases h1:d1=0
  ·subst h1
   simp -implicitDefEqProofs only[beq_self_eq_true,if_true,encDo,noneD,ew7_0,lw7_0,endF]
   rfl
  ·have e1:(d1==0)=false:=by simpa using h1
   have rg:∀(o2:AObj)(k:Kb AV),effK (rngE (.mp 1) (.arr 7 [zM] true false :: .map (kvT fI c)::o2::g) (.arr 7 [zM] true false :: .map (kvT fI c)::o2::g:Hp).length) (.arr 7 [zM] true false :: .map (kvT fI c)::o2::g) k=k (.it (g.length+3)) (.arr 7 [zM] true false :: .map (kvT fI c)::o2::(g++[.iter 1 c.length []])):=λo2 k=>by
    have:(kvT fI c).length=c.length:=by simp[kvT]
    simp[rngE,effK,ap,this]
   simp -implicitDefEqProofs only[e1,Bool.false_eq_true,if_false,rg]
   refine of_L5 (d:=⟨d0,d1,d2,d3,d4,d5,d6⟩) (c:=c) (λhc z t => ?_) (λhc z z2 t => ?_) NN [] _ ?_ (by simp) ?_
   ·simp -implicitDefEqProofs only[Z7J,Z04,Bool.false_xor,Z02,encDo,Z0m,Nat.zero_add,Zaw,Z7I,ZgP,lw7_2,ew7_0,lw7_0,endF,h1,if_false,hc,Bool.false_eq_true]
    by_cases h2:an=0
    ·subst h2;rfl
    ·have e2:(an==0)=false:=by simpa using h2
     simp only[e2,h2,if_false,Bool.false_eq_true];cases en<;>rfl
   ·simp -implicitDefEqProofs only[encDo,confD,lw7_0,endF,h1,if_false,hc,if_true]
    rfl
   ·have:=List.length_filter_le (λj => !([]:List Nat).contains j) (List.range c.length)
    rw[List.length_range] at this;have hN:=NN_ge
    unfold leftIt;simp only at hcl
    omega
   ·exact get3
end Go.AM



namespace Go.AM
open Go.Proofs
attribute [local congr] Z0w Z0x Z0y Z0z Z0A Z0B Z0C Z0D Z0E Z0F Z0G Z0H Z0I Z0J Z0K Z0L Z0M Z0N Z0O Z0P Z0Q Z0R Z0S Z0T Z0U Z0V Z0W
abbrev legsX:List Leg:=[⟨1,1,1,2,100⟩,⟨3,7,2,0,97⟩]
abbrev legsA:AV := .lst 5 false (legsX.map encL)
abbrev msgsX:List (List AV):=[[I 5,I 1,I 0,I 1,I 1,I 2,I 100],[I 5,I 3,I 0,I 3,I 0,I 0,I 97],[I 5,I 5,I 0,I 3,I 0,I 0,I 0]]
theorem ZCv:okS legsX=true:=by decide
theorem ZCw(T:Tab)(D:DTab)(N n:Nat)(st:Bool):Z3o Tryz.prog T D N (λw92_6 h=>Z7l Tryz.prog T D N (λv g=>cvt st g v) w92_6 h) (n+3) (I 5) nilS (I 0) legsA (I 2) (I 0) []=some (.tup [.lst 7 false msgsX,I 0]):=by cases st<;>kernel_rfl
theorem ZCx{x0:AV}{h:Hp}(ha:cvts false h [x0,I 5]=some [legsA,I 5]):Z68 [x0,I 5] h=some (.tup [.lst 7 false msgsX,I 0],h):=by
 have fr:=ZCo legsX false (by decide)
 rw[ZCv] at fr;obtain ⟨n,hn⟩:∃n,NN=n+3:=⟨NN-3,by have:=NN_ge;omega⟩
 refine (Zuc (v := .tup [.lst 7 false msgsX,I 0]) ha λst => ?_).trans rfl
 refine Eq.trans ?_ (ZCw Z2Y Z67 NN n st);rw[← hn];have w:win 5 1 1073741824=true:=rfl;have fi:=Z3a 5 1 1073741824;rw[w] at fi;have ln:∀k:KV,lenK legsA k=k (I 2):=λk=>rfl
 rw[show nrm (.l 5) legsA=legsA from rfl];simp -implicitDefEqProofs only[Z4B,Zu7,Zu8,Z06,fr,fi,Z0q,Bool.not_true,Z02,Bool.false_eq_true,if_false,ln]
theorem ZCy(h:Hp):Z3M [.lst 4 true []] h=some (.tup [I (-1),I 0],h):=by kernel_rfl
theorem ZCz(h:Hp):Z9t [.lst 4 true [],I 9,I 100,I 1,I 3] h=some (.tup [I 0,I 0],h):=by kernel_rfl
theorem ZCA(h:Hp):Z9v [I 100,I 97,I 0,I 0] h=some (.tup [.agg [I 0,I 0,I 3,I 0],I 0],h):=by kernel_rfl
theorem ZCB{x0:AV}{h:Hp}(ha:cvts false h [x0,nilS]=some [legsA,nilS]):Z6h [x0,nilS] h=some (.tup [.agg [I 0,I 0,I 3,I 0],I 0],h):=by
 refine ZwO ha λst => ?_
 have hr:runS legsX=(⟨100,0,3,97,0,1,2,false,true⟩,-1,0):=by decide
 have fr:∀h,Z2n [legsA] h=some (tupR (⟨100,0,3,97,0,1,2,false,true⟩,-1,0),h):=λh=>(Zlr legsX false (by decide) h).trans (by rw[hr])
 have x0:∀k:Kb AV,effK (boxE 4 (.agg [I 0,I 0,I 0,I 0]) ([]:Hp).length) [] k=k (.ptr 0 0 0 1) [.arr 4 [[I 0,I 0,I 0,I 0]] true false]:=λk=>rfl
 have t0:∀k:KV,exK (tupR (⟨100,0,3,97,0,1,2,false,true⟩,-1,0)) 0 k=k (.agg (encJ ⟨100,0,3,97,0,1,2,false,true⟩)):=λk=>rfl
 have t1:∀k:KV,exK (tupR (⟨100,0,3,97,0,1,2,false,true⟩,-1,0)) 1 k=k (I (-1)):=λk=>rfl
 have t2:∀k:KV,exK (tupR (⟨100,0,3,97,0,1,2,false,true⟩,-1,0)) 2 k=k (I 0):=λk=>rfl
 obtain ⟨zJ,hzJ⟩:∃zJ:List AV,zJ=[I 0,I 0,I 0,I 0,I 0,I 0,I 0,B false,B false]:=⟨_,rfl⟩;obtain ⟨H2,hH2⟩:∃H2:Hp,H2=[.arr 4 [[I 0,I 0,I 0,I 0]] true false,.arr 9 [encJ ⟨100,0,3,97,0,1,2,false,true⟩] true false]:=⟨_,rfl⟩;have x1:∀k:Kb AV,effK (boxE 9 (.agg [I 0,I 0,I 0,I 0,I 0,I 0,I 0,B false,B false]) ([AObj.arr 4 [[I 0,I 0,I 0,I 0]] true false]:Hp).length) [.arr 4 [[I 0,I 0,I 0,I 0]] true false] k=k (.ptr 1 0 0 1) [.arr 4 [[I 0,I 0,I 0,I 0]] true false,.arr 9 [[I 0,I 0,I 0,I 0,I 0,I 0,I 0,B false,B false]] true false]:=λk=>rfl
 have s1:∀k:Kb AV,effK (stE 9 (.ptr 1 0 0 1) (.agg (encJ ⟨100,0,3,97,0,1,2,false,true⟩)) [.arr 4 [[I 0,I 0,I 0,I 0]] true false,.arr 9 [[I 0,I 0,I 0,I 0,I 0,I 0,I 0,B false,B false]] true false]) [.arr 4 [[I 0,I 0,I 0,I 0]] true false,.arr 9 [[I 0,I 0,I 0,I 0,I 0,I 0,I 0,B false,B false]] true false] k=k .u H2:=λk=>by rw[hH2];rfl
 have u0:∀(a b:AV)(k:KV),exK (.tup [a,b]) 0 k=k a:=λa b k=>rfl
 have u1:∀(a b:AV)(k:KV),exK (.tup [a,b]) 1 k=k b:=λa b k=>rfl
 have l8:∀k:KV,ldK 1 false (.ptr 1 0 8 1) H2 k=k (B true):=λk=>by rw[hH2];rfl
 have l0:∀k:KV,ldK 1 false (.ptr 1 0 0 1) H2 k=k (I 100):=λk=>by rw[hH2];rfl
 have l1:∀k:KV,ldK 1 false (.ptr 1 0 1 1) H2 k=k (I 0):=λk=>by rw[hH2];rfl
 have l3:∀k:KV,ldK 1 false (.ptr 1 0 3 1) H2 k=k (I 97):=λk=>by rw[hH2];rfl
 have ln:∀k:KV,lenK legsA k=k (I 2):=λk=>rfl
 have i0:∀k:KV,iaK 5 legsA (I 0) k=k (.ep (encL ⟨1,1,1,2,100⟩) 0):=λk=>rfl
 have i1:∀k:KV,iaK 5 legsA (I 1) k=k (.ep (encL ⟨3,7,2,0,97⟩) 0):=λk=>rfl
 have e0:∀k:KV,ldK 1 false (.ep (encL ⟨1,1,1,2,100⟩) 0) H2 k=k (I 1):=λk=>rfl
 have e1:∀k:KV,ldK 1 false (.ep (encL ⟨3,7,2,0,97⟩) 0) H2 k=k (I 3):=λk=>rfl
 have w1:IntKind.i64.wrap (100-0)=100:=by decide
 have w2:IntKind.i64.wrap (2-1)=1:=by decide
 have s2:∀k:Kb AV,effK (stE 4 (.ptr 0 0 0 1) (.agg [I 0,I 0,I 3,I 0]) H2) H2 k=k .u (H2.set 0 (.arr 4 [[I 0,I 0,I 3,I 0]] true false)):=λk=>by rw[hH2];rfl
 have l4:∀k:KV,ldK 4 true (.ptr 0 0 0 1) (H2.set 0 (.arr 4 [[I 0,I 0,I 3,I 0]] true false)) k=k (.agg [I 0,I 0,I 3,I 0]):=λk=>by rw[hH2];rfl
 have fC:=ZCy;have fA:=ZCz;have fS:=ZCA;rw[show nrm (.l 5) legsA=legsA from rfl,show nrm (.l 4) nilS = .lst 4 true [] from rfl];generalize legsA=L at *;simp -implicitDefEqProofs only[Z7m,x0,ZwH,ZwI,ZwJ,ZwK,Z06,fr,t0,t1,t2,x1,s1,fC,u0,u1,Z04,beq_self_eq_true,Bool.true_xor,Bool.not_true,Z4n,Z02,Bool.false_eq_true,if_false,Z0m,Nat.zero_add,l8,Z0q,l0,l1,Z73,w1,i0,Zb7,e0,ln,w2,i1,e1,fA,l3,fS,s2,l4];cases st<;>rfl
theorem ZCC(h:Hp):Z9E [.lst 7 false msgsX] h=some (.tup [.lst 7 false msgsX,I 0],h):=by kernel_rfl
theorem ZCD{x0:AV}{h:Hp}(ha:cvts false h [x0]=some [.agg [I 1,I 0,I 10,I 20,I 0,I 0,.lst 3 false [[I 2,I 7,I 9]]]]):Z6m [x0] h=some (.tup [I 3,I 11,I 0],h):=ZyX ha λst=>by cases st<;>kernel_rfl
theorem ZCE{x0:AV}{h:Hp}(ha:cvts false h [x0]=some [.agg [I 2,.lst 4 false [[I 0,I 2,I 1,I 2]]]]):Z6n [x0] h=some (.tup [.lst 1 false [[I 2]],I 0],h):=(Zzi (v := .tup [.lst 1 false [[I 2]],I 0]) ha λst=>by cases st<;>kernel_rfl).trans rfl
theorem ZCF{x0:AV}{h:Hp}(ha:cvts false h [x0,I 3,I 0]=some [.lst 2 false [[I 4,I 3]],I 3,I 0]):Z6p [x0,I 3,I 0] h=some (.tup [.lst 1 false [[I 4]],I 0],h):=(ZA4 (v := .tup [.lst 1 false [[I 4]],I 0]) ha λst=>by cases st<;>kernel_rfl).trans rfl
end Go.AM


namespace Go.AM
section
variable {β α:Type}
theorem Z22{r:R}{v:AV}{id:Nat}{o:AObj}{ft:List Nat}{h:Hp}(hr:r=some (v,⟨[(id,o)],[],ft⟩))(k:Kb β):effK r h k=k v (h.set id o):=by subst hr;simp[effK,ap]
theorem ldE{f:α→List AV}{sz:Nat}{W:List α}{id i n:Nat}{h:Hp}{b:Bool}{x:α}(hf:(f x).length=sz)(hid:h[id]? = some (.arr sz (W.map f) true b))(hn:W.length=n)(hx:W[i]? = some x)(k:K β):ldK sz true (.ptr id i 0 n) h k=k (.agg (f x)):=by
 subst hf;simp[hid,hn,hx,pickC]
theorem stEl{f:α→List AV}{sz:Nat}{W:List α}{id i n:Nat}{h:Hp}{b:Bool}{x:α}(hf:∀x,(f x).length=sz)(ho:(f x).all okC=true)(hid:h[id]? = some (.arr sz (W.map f) true b))(hn:W.length=n)(hi:i<W.length)(k:Kb β):effK (stE sz (.ptr id i 0 n) (.agg (f x)) h) h k=k .u (h.set id (.arr sz ((W.set i x).map f) true b)):=by
 have hx:W[i]? = some W[i]:=List.getElem?_eq_getElem hi
 have:stE sz (.ptr id i 0 n) (.agg (f x)) h=some (.u,⟨[(id,.arr sz ((W.map f).set i (f x)) true b)],[],[id]⟩):=by
  have e1:=hf x;have e2:=hf W[i];rw[Z4o,hid];simp only[List.length_map,hn,cellsOf,e1,ho,List.getElem?_map,hx,Option.map_some,e2,Nat.zero_add,Nat.le_refl,if_true,true_and,and_self];simp only[putAt,e1,List.take_zero,List.nil_append,Nat.zero_add];rw[List.drop_eq_nil_of_le (by omega),List.append_nil]
 rw[Z22 this,List.map_set]
end
structure Kept(h hh:Hp)(k:Nat):Prop where
 len:h.length≤hh.length
 same:∀j,j≠k→j<h.length→hh[j]? = h[j]?
theorem Kept.refl(h:Hp)(k:Nat):Kept h h k:=⟨Nat.le_refl _,λ_ _ _=>rfl⟩
theorem Kept.app{h hh:Hp}{k:Nat}(K:Kept h hh k)(g:Hp):Kept h (hh++g) k:=⟨by have:=K.len;simp;omega,λj h1 h2=>by rw[List.getElem?_append_left (by have:=K.len;omega)];exact K.same j h1 h2⟩
theorem Kept.set{h hh:Hp}{k:Nat}(K:Kept h hh k)(o:AObj):Kept h (hh.set k o) k:=⟨by have:=K.len;simpa using this,λj h1 h2=>by rw[List.getElem?_set_ne (Ne.symm h1)];exact K.same j h1 h2⟩
structure DelInv{α:Type}(f:α→List AV)(p:α→Bool)(sz:Nat)(l:List α)(h:Hp)(k i w:Nat)(hh:Hp)(W:List α):Prop where
 kept:Kept h hh k
 at_:hh[k]? = some (.arr sz (W.map f) true false)
 len:W.length=l.length
 hw:w=((l.take i).filter λx => !p x).length
 pre:W.take w=(l.take i).filter λx => !p x
 post:W.drop i=l.drop i
section
variable {α:Type} {f:α→List AV} {p:α→Bool} {sz:Nat} {l:List α} {h:Hp} {k i w:Nat} {hh:Hp} {W:List α}
theorem DelInv.wi(I:DelInv f p sz l h k i w hh W):w≤i:=by
 rw[I.hw];exact Nat.le_trans (List.length_filter_le _ _) (by rw[List.length_take];omega)
theorem DelInv.wl(I:DelInv f p sz l h k i w hh W):w≤l.length:=by
 rw[I.hw];exact Nat.le_trans (List.length_filter_le _ _) (by rw[List.length_take];omega)
theorem DelInv.get(I:DelInv f p sz l h k i w hh W){x:α}(hx:l[i]? = some x):W[i]? = some x:=by
 have:=congrArg (λq=>q[0]?) I.post
 simpa [hx] using this
theorem ZlA{l:List α}{i:Nat}{x:α}(hx:l[i]? = some x):l.take (i+1)=l.take i++[x]:=by rw[List.take_add_one,hx];rfl
theorem DelInv.skip(I:DelInv f p sz l h k i w hh W){x:α}(hx:l[i]? = some x)(hp:p x=true)(g:Hp):DelInv f p sz l h k (i+1) w (hh++g) W:=by
 have e:(l.take (i+1)).filter (λx => !p x)=(l.take i).filter λx => !p x:=by rw[ZlA hx];simp[hp]
 refine ⟨I.kept.app g,Z07 I.at_,I.len,by rw[e];exact I.hw,by rw[e];exact I.pre, ?_⟩
 have:=congrArg (List.drop 1) I.post
 simpa [List.drop_drop] using this
theorem DelInv.keep(I:DelInv f p sz l h k i w hh W){x:α}(hx:l[i]? = some x)(hp:p x=false)(g:Hp):DelInv f p sz l h k (i+1) (w+1) ((hh++g).set k (.arr sz ((W.set w x).map f) true false)) (W.set w x):=by
 have hi:=(List.getElem?_eq_some_iff.1 hx).1;have hw:=I.wi;have hl:=I.len;have e:(l.take (i+1)).filter (λx => !p x)=((l.take i).filter λx => !p x)++[x]:=by rw[ZlA hx];simp[hp]
 refine ⟨(I.kept.app g).set _, ?_,by simpa using hl,by rw[e,List.length_append, ← I.hw];rfl, ?_, ?_⟩
 ·have:=(List.getElem?_eq_some_iff.1 (Z07 (g:=g) I.at_)).1
  rw[List.getElem?_set_self this]
 ·rw[e, ← I.pre,List.take_add_one,List.take_set,List.getElem?_set_self (by omega),List.set_eq_of_length_le (by rw[List.length_take];omega)]
  rfl
 ·rw[List.drop_set_of_lt (by omega)]
  have:=congrArg (List.drop 1) I.post
  simpa [List.drop_drop] using this
theorem ZCG{β:Type}{z:List AV}{fr:Nat}{full:Bool}(hat:hh[k]? = some (.arr sz (W.map f) true false))(hw:w≤W.length)(hfr:fr=W.length)(K:Kb β):
  effK (clrE sz z (.sl sz k w (W.length-w) fr full) hh) hh K=K (.tup []) (hh.set k (.arr sz ((W.take w).map f++List.replicate (W.length-w) z) true false)):=by
 have:clrE sz z (.sl sz k w (W.length-w) fr full) hh=some (.tup [],⟨[(k,.arr sz ((W.take w).map f++List.replicate (W.length-w) z) true false)],[],[k]⟩):=by
  have e:w+(W.length-w)=W.length:=by omega
  simp only[clrE,hat,List.length_map,hfr,e,Nat.le_refl,and_self,if_true];rw[List.drop_eq_nil_of_le (by simp),List.append_nil,List.map_take]
 rw[Z22 this]
end
end Go.AM


namespace Go.AM
open Go.Proofs
attribute [local congr] Z0w Z0x Z0y Z0z Z0A Z0B Z0C Z0D Z0E Z0F Z0G Z0H Z0I Z0J Z0K Z0L Z0M Z0N Z0O Z0P Z0Q Z0R Z0S Z0T Z0U Z0V Z0W
theorem getSetN{h:Hp}{i j:Nat}{x o:AObj}(hj:h[j]? = some x)(hij:i≠j):(h.set i o)[j]? = some x:=by rw[List.getElem?_set_ne hij];exact hj
theorem getSelfN{h:Hp}{i:Nat}{x o:AObj}(hi:h[i]? = some x):(h.set i o)[i]? = some o:=List.getElem?_set_self (List.getElem?_eq_some_iff.1 hi).1
structure Fnd where
 day:Int
 cask:Int
 clerk:Int
 loss:Int
deriving DecidableEq
def encF(x:Fnd):List AV:=[I x.day,I x.cask,I x.clerk,I x.loss]
abbrev zF:List AV:=[I 0,I 0,I 0,I 0]
abbrev SLf(b:Bool)(l:List Fnd):AV := .lst 4 b (l.map encF)
def badF(x:Fnd):Bool:=decide (x.day<0)||decide (x.day > 100000)||decide (x.cask<1)||decide (x.cask > 1073741824)||decide (x.clerk<1)||decide (x.clerk > 1073741824)||decide (x.loss<0)||decide (x.loss > 1099511627776)
def behF(p:Option Fnd)(x:Fnd):Bool:=match p with | some q=>decide (x.day<q.day)||((x.day==q.day)&&decide (x.cask≤q.cask)) | none=>false
def chkF:Option Fnd→Nat→List Fnd→Int × Int
 | _,_,[]=>(-1,0)
 | p,n,x::r=>if badF x=true then ((n:Int),2) else if behF p x=true then ((n:Int),5) else chkF (some x) (n+1) r
def chkFs(l:List Fnd):Int × Int:=if 24<l.length then (-1,8) else chkF none 0 l
theorem ZCH{x0:Hp→Option AV}{xr:AV→Kb AV}{X:Int × Int→Option AV}{l:List Fnd}{b:Bool}(hl:l.length<1000000)(h0:∀h,x0 h=X (-1,0))(hr:∀(i e:Int) h,xr (I i) (I e) h=X (i,e)):∀(n:Nat)(pre post:List Fnd)(h:Hp),l=pre++post→post.length<n→
  Z2I Tryz.prog Z2U Z2T NN x0 xr n (SLf b l) (SLf b l) (I l.length) (I pre.length) h=X (chkF pre.getLast? pre.length post):=by
 intro n;induction n with
 | zero=>intro pre post h _ h2;omega
 | succ n ih=>
  intro pre post h hc hn;show Z4T Tryz.prog Z2U Z2T NN (Z2I Tryz.prog Z2U Z2T NN x0 xr n) x0 xr _ _ _ _ h=_
  cases post with
  | nil=>
   have:l=pre:=by simpa using hc
   subst this;have c1:¬((l.length:Int)<(l.length:Int)):=by omega
   simp -implicitDefEqProofs only[Z4T,Z05,c1,decide_false,Z02,Bool.false_eq_true,if_false,h0,chkF]
  | cons x post=>
   have hx:l[pre.length]? = some x:=by rw[hc];simp
   have hi:pre.length<l.length:=by rw[hc];simp
   have hlt:((pre.length:Int)<(l.length:Int)):=by omega
   have hw:IntKind.i64.wrap ((pre.length:Int)+1)=(((pre++[x]).length:Nat):Int):=by rw[wrap64 (by omega) (by omega)];simp
   have ic:∀k:KV,iaK 4 (SLf b l) (I pre.length) k=k (.ep (encF x) 0):=λk=>Z0s pre.length rfl hx k
   have ld:∀k:KV,ldK 4 true (.ep (encF x) 0) h k=k (.agg (encF x)):=λk=>rfl
   obtain ⟨y,hy⟩:∃y,y=h++[AObj.arr 4 [encF x] true false]:=⟨_,rfl⟩;have bx:∀k:Kb AV,effK (boxE 4 (.agg zF) h.length) h k=k (.ptr h.length 0 0 1) (h++[.arr 4 [zF] true false]):=λk=>Z0Y 4 h.length (.agg zF) h k rfl rfl rfl
   have ns:∀k:Kb AV,effK (stE 4 (.ptr h.length 0 0 1) (.agg (encF x)) (h++[.arr 4 [zF] true false])) (h++[.arr 4 [zF] true false]) k=k .u y:=λk=>by
    rw[Z22 (v := .u) (id:=h.length) (o := .arr 4 [encF x] true false) (ft:=[h.length]) (by simp[encF]),Z27,hy];rfl
   have hb:y[h.length]? = some (.arr 4 [encF x] true false):=by rw[hy,Z0n];rfl
   have l0:∀k:KV,ldK 1 false (.ptr h.length 0 0 1) y k=k (I x.day):=λk=>by rw[Z0d,hb];rfl
   have l1:∀k:KV,ldK 1 false (.ptr h.length 0 1 1) y k=k (I x.cask):=λk=>by rw[Z0d,hb];rfl
   have l2:∀k:KV,ldK 1 false (.ptr h.length 0 2 1) y k=k (I x.clerk):=λk=>by rw[Z0d,hb];rfl
   have l3:∀k:KV,ldK 1 false (.ptr h.length 0 3 1) y k=k (I x.loss):=λk=>by rw[Z0d,hb];rfl
   simp -implicitDefEqProofs only[Z4T,Z05,hlt,decide_true,Z02,if_true,ic,ld,bx,ns,Z0m,Nat.zero_add,l0,l1,l2,l3,Z14,Z26]
   have hbad:(decide (x.day<0)||decide (x.day > 100000)||decide (x.cask<1)||decide (x.cask > 1073741824)||decide (x.clerk<1)||decide (x.clerk > 1073741824)||decide (x.loss<0)||decide (x.loss > 1099511627776))=badF x:=rfl
   rw[hbad];simp only[chkF];by_cases q1:badF x=true
   ·rw[if_pos q1,if_pos q1,hr]
   ·rw[if_neg q1,if_neg q1]
    have grp:∀k:Kb AV,(grpK true (B (decide ((pre.length:Int) > 0))) y (λk57=>arithK .sub (I pre.length) (I 1) λx60=>iaK 4 (SLf b l) x60 λx61=>faK 0 x61 λx62=>ldK 1 false x62 y λx63=>arithK .lss (I x.day) x63 λx64=>grpK false x64 y (λk65=>arithK .sub (I pre.length) (I 1) λx68=>iaK 4 (SLf b l) x68 λx69=>faK 0 x69 λx70=>ldK 1 false x70 y λx71=>eqK Tryz.prog false 3 (I x.day) x71 y λx72=>grpK true x72 y (λk73=>arithK .sub (I pre.length) (I 1) λx76=>iaK 4 (SLf b l) x76 λx77=>faK 1 x77 λx78=>ldK 1 false x78 y λx79=>arithK .leq (I x.cask) x79 λx80=>k73 x80 y) λx81 h82=>k65 x81 h82) λx83 h84=>k57 x83 h84) k)=k (B (behF pre.getLast? x)) y:=λk=>by
     by_cases hp:pre.length=0
     ·have:pre=[]:=List.eq_nil_of_length_eq_zero hp
      subst this
      rfl
     ·have c0:(pre.length:Int) > 0:=by omega
      obtain ⟨m,hm⟩:∃m,m=pre.length-1:=⟨_,rfl⟩;have hwm:IntKind.i64.wrap ((pre.length:Int)-1)=(m:Int):=by rw[wrap64 (by omega) (by omega)];omega
      obtain ⟨z,hz⟩:∃z,pre.getLast? = some z:=by
       cases hq:pre.getLast? with
       | none=>rw[List.getLast?_eq_none_iff] at hq;rw[hq] at hp;exact absurd rfl hp
       | some z=>exact ⟨z,rfl⟩
      have hzm:l[m]? = some z:=by
       rw[hc,List.getElem?_append_left (by omega),hm, ← List.getLast?_eq_getElem?,hz]
      have im:∀k:KV,iaK 4 (SLf b l) (I m) k=k (.ep (encF z) 0):=λk=>Z0s m rfl hzm k
      have z0:∀k:KV,ldK 1 false (.ep (encF z) 0) y k=k (I z.day):=λk=>rfl
      have z1:∀k:KV,ldK 1 false (.ep (encF z) 1) y k=k (I z.cask):=λk=>rfl
      rw[hz];simp -implicitDefEqProofs only[c0,decide_true,Zb5,l0,l1,Z73,hwm,im,Zb7,Nat.zero_add,z0,z1,Z05,Z04,Bool.false_xor,Z74,Zb4,Z26]
      rfl
    refine (grp _).trans ?_;simp -implicitDefEqProofs only[Z02];by_cases q2:behF pre.getLast? x=true
    ·rw[if_pos q2,if_pos q2,hr]
    ·rw[if_neg q2,if_neg q2]
     simp -implicitDefEqProofs only[Z08,hw]
     refine (ih (pre++[x]) post y (by simpa using hc) (by simpa using hn)).trans ?_
     simp
theorem ZCI(l:List Fnd)(b:Bool)(hl:l.length<1000000)(h:Hp):Z5j [SLf b l] h=some (.tup [I (chkFs l).1,I (chkFs l).2],h):=by
 refine Zrn (a0:=SLf b l) rfl ?_ h;rw[show nrm (.l 4) (SLf b l)=SLf b l from rfl];have ln:∀k:KV,lenK (SLf b l) k=k (I l.length):=λk=>by rw[Z0b,List.length_map]
 unfold chkFs;simp -implicitDefEqProofs only[Z4U,ln,Z14,Z02]
 by_cases h24:24<l.length
 ·have c:(l.length:Int) > 24:=by omega
  rw[if_pos h24];simp -implicitDefEqProofs only[c,decide_true,if_true]
  rfl
 ·have c:¬((l.length:Int) > 24):=by omega
  rw[if_neg h24];simp -implicitDefEqProofs only[c,decide_false,Bool.false_eq_true,if_false];exact ZCH (X:=λr=>some (.tup [I r.1,I r.2])) hl (λh=>rfl) (λi e h=>rfl) NN [] l [] rfl (by have:=NN_ge;omega)
def rightF(l:List Fnd):Bool:=(chkFs l).2==0
theorem ZlB(l:List Fnd)(b:Bool)(hl:l.length<1000000)(h:Hp):Z2V [SLf b l] h=some (B (rightF l),h):=by
 refine Zrt (a0:=SLf b l) rfl ?_ h;rw[show nrm (.l 4) (SLf b l)=SLf b l from rfl];have fc:=ZCI l b hl;have u0:∀(a b:AV)(k:KV),exK (.tup [a,b]) 0 k=k a:=λa b k=>rfl
 have u1:∀(a b:AV)(k:KV),exK (.tup [a,b]) 1 k=k b:=λa b k=>rfl
 simp -implicitDefEqProofs only[Z7u,Zrq,Z06,fc,u0,u1,Z04,Bool.false_xor]
 rfl
def ofF(c:Bool)(x:Fnd):Int:=bif c then x.cask else x.clerk
abbrev fvW(c:Bool):AV := .fn (bif c then 85 else 86) []
theorem Zee(x:Fnd)(h:Hp):Z1a [.agg (encF x)] h=some (I x.cask,h):=Zr7 (a0 := .agg (encF x)) rfl rfl h
theorem Zef(x:Fnd)(h:Hp):Z1b [.agg (encF x)] h=some (I x.clerk,h):=Zrc (a0 := .agg (encF x)) rfl rfl h
theorem ZCJ(by_:Int)(h:Hp):Z1r [I by_] h=some (if by_=1 then fvW true else if by_=2 then fvW false else .s .nilFunc,h):=by
 rw[Zrh];by_cases q1:by_=1
 ·subst q1;rfl
 ·by_cases q2:by_=2
  ·subst q2;rfl
  ·have e1:(by_==1)=false:=by simpa using q1
   have e2:(by_==2)=false:=by simpa using q2
   rw[if_neg q1,if_neg q2];simp -implicitDefEqProofs only[Z7q,Z04,e1,e2,Bool.false_xor,Z02,Bool.false_eq_true,if_false]
theorem ZCK{β:Type}(c:Bool)(x:Fnd)(h:Hp)(k:Kb β):callVK Z15 (fvW c) [.agg (encF x)] h k=k (I (ofF c x)) h:=by
 cases c with
 | true=>show callK (Z15 85) [.agg (encF x)] h k=_;simp -implicitDefEqProofs only[ZrB,Z06,Zee];rfl
 | false=>show callK (Z15 86) [.agg (encF x)] h k=_;simp -implicitDefEqProofs only[ZrC,Z06,Zef];rfl
theorem Z1f{β:Type}{shp shr:List Sh}{F:Fun}{args:List AV}{v:AV}(hF:∀h,closedX shp shr F args h=some (v,h))(hi:idss args=[])(h:Hp)(k:AV→Hp→Ent→Option β):effD (callE (some (closedXD shp shr F)) args h h.length) h k=k v h ([],[]):=by
 show effD (closedXD shp shr F args h h.length) h k=_;rw[ZfX (hF h) h.length,hi,ZnW];simp[effD,ap,wrOf,EF]
theorem Zax(x:Fnd):idss [.agg (encF x)]=[]:=by simp[idss,ids,encF]
theorem ZCL{β:Type}(c:Bool)(x:Fnd)(h:Hp)(k:AV→Hp→Ent→Option β):effD (callVE Z0u (fvW c) [.agg (encF x)] h h.length) h k=k (I (ofF c x)) h ([],[]):=by
 cases c with
 | true=>exact Z1f (λh=>Zee x h) (Zax x) h k
 | false=>exact Z1f (λh=>Zef x h) (Zax x) h k
abbrev enL(n:Int):List AV:=[I n]
def othF(c:Bool)(id:Int)(l:List Fnd):List Int:=(l.filter λx => !(ofF c x==id)).map (·.loss)
theorem ZCM(c:Bool)(id:Int)(l:List Fnd)(x:Fnd):othF c id (l++[x])=if ofF c x=id then othF c id l else othF c id l++[x.loss]:=by
 unfold othF;rw[List.filter_append,List.map_append]
 by_cases q:ofF c x=id<;>simp[q]
theorem ZCN(c:Bool)(id:Int)(l:List Fnd):(othF c id l).length≤l.length:=by unfold othF;rw[List.length_map];exact List.length_filter_le _ _
theorem ZCO{x0:Kb AV}{X:Option AV}{l:List Fnd}{b c:Bool}{id:Int}(hl:l.length<100000)(hx:∀v h,Gro 1 enL h v (othF c id l)→x0 v h=X):∀(n:Nat)(pre post:List Fnd)(v:AV)(h:Hp),l=pre++post→post.length<n→Gro 1 enL h v (othF c id pre)→
  Z2C Tryz.prog Z15 Z2k NN x0 n (fvW c) (I id) v (SLf b l) (I l.length) (I pre.length) h=X:=by
 intro n;induction n with
 | zero=>intro pre post v h _ h2;omega
 | succ n ih=>
  intro pre post v h hc hn G;show Z4J Tryz.prog Z15 Z2k NN (Z2C Tryz.prog Z15 Z2k NN x0 n) x0 _ _ _ _ _ _ h=_
  cases post with
  | nil=>
   have:l=pre:=by simpa using hc
   subst this;have c1:¬((l.length:Int)<(l.length:Int)):=by omega
   simp -implicitDefEqProofs only[Z4J,Z05,c1,decide_false,Z02,Bool.false_eq_true,if_false]
   exact hx v h G
  | cons x post=>
   have hx:l[pre.length]? = some x:=by rw[hc];simp
   have hi:pre.length<l.length:=by rw[hc];simp
   have hlt:((pre.length:Int)<(l.length:Int)):=by omega
   have hw:IntKind.i64.wrap ((pre.length:Int)+1)=(((pre++[x]).length:Nat):Int):=by rw[wrap64 (by omega) (by omega)];simp
   have ic:∀k:KV,iaK 4 (SLf b l) (I pre.length) k=k (.ep (encF x) 0):=λk=>Z0s pre.length rfl hx k
   have ld:∀k:KV,ldK 4 true (.ep (encF x) 0) h k=k (.agg (encF x)):=λk=>rfl
   obtain ⟨y,hy⟩:∃y,y=h++[AObj.arr 4 [encF x] true false]:=⟨_,rfl⟩;have bx:∀k:Kb AV,effK (boxE 4 (.agg zF) h.length) h k=k (.ptr h.length 0 0 1) (h++[.arr 4 [zF] true false]):=λk=>Z0Y 4 h.length (.agg zF) h k rfl rfl rfl
   have ns:∀k:Kb AV,effK (stE 4 (.ptr h.length 0 0 1) (.agg (encF x)) (h++[.arr 4 [zF] true false])) (h++[.arr 4 [zF] true false]) k=k .u y:=λk=>by
    rw[Z22 (v := .u) (id:=h.length) (o := .arr 4 [encF x] true false) (ft:=[h.length]) (by simp[encF]),Z27,hy];rfl
   have hb:y[h.length]? = some (.arr 4 [encF x] true false):=by rw[hy,Z0n];rfl
   have lw:∀k:KV,ldK 4 true (.ptr h.length 0 0 1) y k=k (.agg (encF x)):=λk=>by rw[Z0d,hb];rfl
   have l3:∀k:KV,ldK 1 false (.ptr h.length 0 3 1) y k=k (I x.loss):=λk=>by rw[Z0d,hb];rfl
   have cw:=λk:Kb AV=>ZCK c x y k
   have Gy:Gro 1 enL y v (othF c id pre):=by rw[hy];exact G.app _
   have hyl:y.length=h.length+1:=by rw[hy];simp
   have hsn:=ZCM c id pre x;have hol:=ZCN c id pre;simp -implicitDefEqProofs only[Z4J,Z05,hlt,decide_true,Z02,if_true,ic,ld,bx,ns,lw,cw,Z04,Bool.true_xor];by_cases q:ofF c x=id
   ·have qb:(!(ofF c x==id))=false:=by simp[q]
    rw[if_pos q] at hsn;simp -implicitDefEqProofs only[qb,Bool.false_eq_true,if_false,Z7z,Zbn,Z08,hw];exact ih (pre++[x]) post v y (by simpa using hc) (by simpa using hn) (by rw[hsn];exact Gy)
   ·have qb:(!(ofF c x==id))=true:=by simp[q]
    rw[if_neg q] at hsn;obtain ⟨y2,hy2⟩:∃y2,y2=y++[AObj.arr 1 [[I x.loss]] true false]:=⟨_,rfl⟩
    have bs:∀k:Kb AV,effK (bsE 1 [I 0] 1 [(0,I x.loss)] y.length) y k=k (.sl 1 y.length 0 1 1 true) y2:=λk=>by rw[hy2];simp[bsE,fillS,effK,ap]
    have hv:idOf v≠some y.length:=λhh=>by have:=Gy.lt hh;omega
    obtain ⟨v',h',e1,e2,-⟩:=Gro.snoc AV (sz:=1) (f:=enL) (h:=y2) (v:=v) (l:=othF c id pre) (by rw[hy2];exact Gy.app _) (by_:=8) (m:=y.length) (z:=x.loss) (b:=true) (by rw[hy2,Z0n];rfl) hv (λ_ _=>rfl) (by omega)
    simp -implicitDefEqProofs only[qb,if_true,Z0m,Nat.zero_add,l3,bs,e1,Z7z,Zbn,Z08,hw]
    exact ih (pre++[x]) post v' h' (by simpa using hc) (by simpa using hn) (by rw[hsn];exact e2)
theorem ZCP(l:List Fnd)(b c:Bool)(id:Int)(hl:l.length<100000)(h:Hp):Z5l [SLf b l,fvW c,I id] h=some (.lst 1 (othF c id l).isEmpty ((othF c id l).map enL),h):=by
 have ln:∀k:KV,lenK (SLf b l) k=k (I l.length):=λk=>by rw[Z0b,List.length_map]
 have hp:plains [SLf b l,fvW c,I id]=true:=by cases c<;>rfl
 have run:∀w,(∀v h,Gro 1 enL h v (othF c id l)→cvt false h v=some w)→Z3q Tryz.prog Z15 Z2k NN (λv g=>cvt false g v) (nrm (.l 4) (SLf b l)) (fvW c) (I id) []=some w:=λw hw=>by
  rw[show nrm (.l 4) (SLf b l)=SLf b l from rfl];simp -implicitDefEqProofs only[Z3q,ln];exact ZCO (c:=c) (id:=id) hl (λv h O=>hw v h O) NN [] l nilS [] rfl (by have:=NN_ge;omega) Gro.nil
 by_cases q:othF c id l=[]
 ·rw[q] at run ⊢
  exact (Zhy (a0:=SLf b l) (a1:=fvW c) (a2:=I id) hp (run nilS λv h O=>by
   rcases O with ⟨_,rfl⟩ | ⟨q',_⟩
   ·rfl
   ·exact absurd rfl q') h).trans rfl
 ·have qe:(othF c id l).isEmpty=false:=by simpa using q
  rw[qe]
  exact (Zhy (a0:=SLf b l) (a1:=fvW c) (a2:=I id) hp (run (.lst 1 false ((othF c id l).map enL)) λv h O=>by
   rcases O with ⟨q',_⟩ | ⟨_,k,rfl,hk⟩
   ·exact absurd q' q
   ·exact Z1T (st:=false) (es:=(othF c id l).map enL) (nl:=false) hk (by simp) (by simp) (Z1S λx=>by simp)) h).trans rfl
end Go.AM


namespace Go.AM
open Go.Proofs
section
variable {β:Type} {P:Program} {kt:TypeId}
def kvA(c:List (Int × AV)):List (Value × AV):=c.map λe=>(Value.int .i64 e.1,e.2)
def getA:List (Int × AV)→Int→Option AV
 | [],_=>none
 | (q,x)::r,n=>if n=q then some x else getA r n
def updA:List (Int × AV)→Int→AV→List (Int × AV)
 | [],n,v=>[(n,v)]
 | (q,x)::r,n,v=>if n=q then (n,v)::r else (q,x)::updA r n v
theorem ZlC(hu:P.underlying kt=some (.int .i64))(n:Int):∀c:List (Int × AV),lookupKV (kvA c) (keyEq P kt) (.int .i64 n)=some (getA c n)
 | []=>rfl
 | (q,x)::c=>by
  have ih:=ZlC hu n c;simp only[kvA,List.map_cons,lookupKV,Zll hu,getA] at ih ⊢
  by_cases e:n=q
  ·subst e;simp
  ·simp only[decide_eq_false e,if_neg e,ih]
theorem ZlD(hu:P.underlying kt=some (.int .i64))(n:Int)(v:AV):∀c:List (Int × AV),updateKV (kvA c) (keyEq P kt) (.int .i64 n) v=some (kvA (updA c n v))
 | []=>rfl
 | (q,x)::c=>by
  have ih:=ZlD hu n v c;simp only[kvA,List.map_cons,updateKV,Zll hu,updA] at ih ⊢
  by_cases e:n=q
  ·subst e;simp
  ·simp only[decide_eq_false e,if_neg e,ih];rfl
theorem lookA{h:Hp}{id:Nat}{c:List (Int × AV)}{z:AV}{n:Int}(hu:P.underlying kt=some (.int .i64))(hid:h[id]? = some (.map (kvA c)))(k:K β):lookK P kt z false (.mp id) (I n) h k=k ((getA c n).getD z):=by
 have hv:toV (I n)=some (.int .i64 n):=rfl;unfold lookK;simp only[hv,hid,Zlk hu,if_true,ZlC hu];cases getA c n<;>simp
theorem mupA{h:Hp}{id:Nat}{c:List (Int × AV)}{n:Int}{v:AV}(hu:P.underlying kt=some (.int .i64))(hid:h[id]? = some (.map (kvA c))):mupE P kt (.mp id) (I n) v h=some (.u,⟨[(id,.map (kvA (updA c n v)))],[],[id]⟩):=by
 have hv:toV (I n)=some (.int .i64 n):=rfl;unfold mupE;simp only[hv,hid,Zlk hu,if_true,ZlD hu]
end
theorem ZlE:∀(c:List (Int × AV))(n m:Int)(v:AV),getA (updA c n v) m=if m=n then some v else getA c m
 | [],n,m,v=>by simp[updA,getA]
 | (q,x)::c,n,m,v=>by
  have ih:=ZlE c n m v;simp only[updA];by_cases e:n=q
  ·subst e
   simp only[if_true,getA];by_cases e2:m=n<;>simp[e2]
  ·simp only[if_neg e,getA]
   by_cases e2:m=q
   ·subst e2
    rw[if_pos rfl,if_pos rfl,if_neg (λhh=>e hh.symm)]
   ·rw[if_neg e2,if_neg e2,ih]
theorem ZlF:∀(c:List (Int × AV))(n:Int)(v:AV),(updA c n v).map (·.1)=if n ∈ c.map (·.1) then c.map (·.1) else c.map (·.1)++[n]
 | [],n,v=>by simp[updA]
 | (q,x)::c,n,v=>by
  have ih:=ZlF c n v;simp only[updA];by_cases e:n=q
  ·subst e;simp
  ·rw[if_neg e,List.map_cons,ih]
   by_cases e2:n ∈ c.map (·.1)
   ·rw[if_pos e2,if_pos (by simp[e2])];rfl
   ·rw[if_neg e2,if_neg (by simp only[List.map_cons,List.mem_cons,not_or];exact ⟨e,e2⟩)];rfl
def ownF(c:Bool)(id:Int)(l:List Fnd):List Int:=(l.filter λx=>ofF c x==id).map (·.loss)
theorem ZCQ(c:Bool)(id:Int)(l:List Fnd)(x:Fnd):ownF c id (l++[x])=if ofF c x=id then ownF c id l++[x.loss] else ownF c id l:=by
 unfold ownF;rw[List.filter_append,List.map_append]
 by_cases q:ofF c x=id<;>simp[q]
theorem ZlG(c:Bool)(id:Int)(l:List Fnd):(ownF c id l).length≤l.length:=by unfold ownF;rw[List.length_map];exact List.length_filter_le _ _
theorem ZCR{c:Bool}{id:Int}{l:List Fnd}:ownF c id l=[]↔∀x ∈ l,ofF c x≠id:=by
 unfold ownF;rw[List.map_eq_nil_iff,List.filter_eq_nil_iff]
 simp
structure GrM(c:Bool)(pre:List Fnd)(mid:Nat)(h:Hp)(m:List (Int × AV)):Prop where
 at_:h[mid]? = some (.map (kvA m))
 gr:∀id,Gro 1 enL h ((getA m id).getD nilS) (ownF c id pre)
 apart:∀i j k,idOf ((getA m i).getD nilS)=some k→idOf ((getA m j).getD nilS)=some k→i=j
 nid:∀i,idOf ((getA m i).getD nilS)≠some mid
 keys:(m.map (·.1)).Nodup∧∀i,i ∈ m.map (·.1)↔∃x ∈ pre,ofF c x=i
attribute [local congr] Z0w Z0x Z0y Z0z Z0A Z0B Z0C Z0D Z0E Z0F Z0G Z0H Z0I Z0J Z0K Z0L Z0M Z0N Z0O Z0P Z0Q Z0R Z0S Z0T Z0U Z0V Z0W
theorem ZCS{c b:Bool}{l pre post:List Fnd}{x:Fnd}{mid:Nat}{h:Hp}{m:List (Int × AV)}(hc:l=pre++x::post)(hl:l.length<100000)(J:GrM c pre mid h m){xn:AV→AV→AV→AV→AV→Hp→Option (AV × Hp)}{x0:AV→Hp→Option (AV × Hp)}:
  ∃h' m',GrM c (pre++[x]) mid h' m'∧Z3p Tryz.prog Z10 Z0u NN xn x0 (fvW c) (.mp mid) (SLf b l) (I l.length) (I pre.length) h=xn (fvW c) (.mp mid) (SLf b l) (I l.length) (I ((pre++[x]).length:Nat)) h':=by
 obtain ⟨g1,g2,g3,g4,g5,g6⟩:=J;have hx:l[pre.length]? = some x:=by rw[hc];simp
 have hi:pre.length<l.length:=by rw[hc];simp
 have hlt:((pre.length:Int)<(l.length:Int)):=by omega
 have hw:IntKind.i64.wrap ((pre.length:Int)+1)=(((pre++[x]).length:Nat):Int):=by rw[wrap64 (by omega) (by omega)];simp
 have ic:∀k:Go.AM.K (AV × Hp),iaK 4 (SLf b l) (I pre.length) k=k (.ep (encF x) 0):=λk=>Z0s pre.length rfl hx k
 have ld:∀k:Go.AM.K (AV × Hp),ldK 4 true (.ep (encF x) 0) h k=k (.agg (encF x)):=λk=>rfl
 obtain ⟨y,hy⟩:∃y,y=h++[AObj.arr 4 [encF x] true false]:=⟨_,rfl⟩;have bx:∀k:AV→Hp→Option (AV × Hp),effK (boxE 4 (.agg zF) h.length) h k=k (.ptr h.length 0 0 1) (h++[.arr 4 [zF] true false]):=λk=>Z0Y 4 h.length (.agg zF) h k rfl rfl rfl
 have ns:∀k:AV→Hp→Option (AV × Hp),effK (stE 4 (.ptr h.length 0 0 1) (.agg (encF x)) (h++[.arr 4 [zF] true false])) (h++[.arr 4 [zF] true false]) k=k .u y:=λk=>by
  rw[Z22 (v := .u) (id:=h.length) (o := .arr 4 [encF x] true false) (ft:=[h.length]) (by simp[encF]),Z27,hy];rfl
 have hb:y[h.length]? = some (.arr 4 [encF x] true false):=by rw[hy,Z0n];rfl
 have lw:∀k:Go.AM.K (AV × Hp),ldK 4 true (.ptr h.length 0 0 1) y k=k (.agg (encF x)):=λk=>by rw[Z0d,hb];rfl
 have l3:∀k:Go.AM.K (AV × Hp),ldK 1 false (.ptr h.length 0 3 1) y k=k (I x.loss):=λk=>by rw[Z0d,hb];rfl
 have cw:=λk:AV→Hp→Ent→Option (AV × Hp)=>ZCL c x y k
 have ym:y[mid]? = some (.map (kvA m)):=by rw[hy];exact Z07 g1
 have hml:mid<h.length:=(List.getElem?_eq_some_iff.1 g1).1;have hu:Tryz.prog.underlying 3=some (.int .i64):=by kernel_rfl
 have lk:=λk:Go.AM.K (AV × Hp)=>lookA (P:=Tryz.prog) (kt:=3) (z:=nilS) (n:=ofF c x) hu ym k
 obtain ⟨v,hv⟩:∃v,v=(getA m (ofF c x)).getD nilS:=⟨_,rfl⟩;rw[← hv] at lk;have Gy:∀id,Gro 1 enL y ((getA m id).getD nilS) (ownF c id pre):=λid=>by rw[hy];exact (g2 id).app _
 have hyl:y.length=h.length+1:=by rw[hy];simp
 have hol:=ZlG c (ofF c x) pre;obtain ⟨y2,hy2⟩:∃y2,y2=y++[AObj.arr 1 [[I x.loss]] true false]:=⟨_,rfl⟩;have hy2l:y2.length=h.length+2:=by rw[hy2];simp[hyl]
 have bs:∀k:AV→Hp→Ent→Option (AV × Hp),effD (bsE 1 [I 0] 1 [(0,I x.loss)] y.length) y k=k (.sl 1 y.length 0 1 1 true) y2 ([],[y.length]):=λk=>by
  have:bsE 1 [I 0] 1 [(0,I x.loss)] y.length=some (.sl 1 y.length 0 1 1 true,⟨[],[.arr 1 [[I x.loss]] true false],[]⟩):=by simp[bsE,fillS]
  rw[this,hy2];simp[effD,ap,wrOf]
 have hlt2:∀id k,idOf ((getA m id).getD nilS)=some k→k<h.length:=λid k hh=>(g2 id).lt hh
 have hvn:idOf v≠some y.length:=λhh=>by rw[hv] at hh;have:=hlt2 _ _ hh;omega
 obtain ⟨v',f,a1,a2,a3,a4,a5⟩:=Gro.snocE (f:=enL) (sz:=1) (h:=y2) (v:=v) (l:=ownF c (ofF c x) pre) (by_:=8) (m:=y.length) (z:=x.loss) (b:=true) (by rw[hy2,hv];exact (Gy _).app _) (by rw[hy2,Z0n];rfl) hvn (λ_ _=>rfl) (by omega)
 obtain ⟨y3,hy3⟩:∃y3,y3=ap y2 f:=⟨_,rfl⟩;rw[← hy3] at a2 a3 a4;obtain ⟨ea,hea⟩:∃ea:Ent,ea=(f.foot,wrOf y2.length f):=⟨_,rfl⟩;have ae:∀k:AV→Hp→Ent→Option (AV × Hp),effD (appE 1 8 v (.sl 1 y.length 0 1 1 true) y2 y2.length) y2 k=k v' y3 ea:=λk=>by rw[a1,hea,hy3];rfl
 have y3m:y3[mid]? = some (.map (kvA m)):=a4 mid _ (by rw[hy2];exact Z07 ym) (by rw[hv];exact g4 _)
 obtain ⟨y4,hy4⟩:∃y4,y4=y3.set mid (.map (kvA (updA m (ofF c x) v'))):=⟨_,rfl⟩
 have mu:∀k:AV→Hp→Ent→Option (AV × Hp),effD (mupE Tryz.prog 3 (.mp mid) (I (ofF c x)) v' y3) y3 k=k .u y4 ([mid],[mid]):=λk=>by
  rw[Z1e (mupA (P:=Tryz.prog) (kt:=3) (n:=ofF c x) (v:=v') hu y3m),hy4]
 have hne:h.length≠y.length:=by omega
 have dj:disjAll [(3,6),(3,10),(7,10),(2,11),(3,11),(6,11),(7,11),(8,11)] [([],[]),([],[]),(idsOf (.ptr h.length 0 0 1),[]),([],[]),([],[]),([],[]),(idsOf (.ptr h.length 0 0 1),[]),([],[]),(idsOf (.mp mid),[]),([],[]),(idsOf (.ptr h.length 0 3 1),[]),([],[y.length]),ea,([mid],[mid])]=true:=by
  simp[disjAll,disj2,idsOf];omega
 have hv'm:idOf v'≠some mid:=by
  rcases a5 with a5 | a5
  ·rw[a5,hv];exact g4 _
  ·rw[a5];simp;omega
 have key:∀id,(getA (updA m (ofF c x) v') id).getD nilS=if id=ofF c x then v' else (getA m id).getD nilS:=λid=>by
  rw[ZlE];by_cases e:id=ofF c x<;>simp[e]
 refine ⟨y4,updA m (ofF c x) v',⟨?_,λid => ?_,λi j k hi hj => ?_,λi => ?_, ?_⟩, ?_⟩
 ·rw[hy4];exact getSelfN y3m
 ·rw[key,ZCQ]
  by_cases e:id=ofF c x
  ·subst e
   rw[if_pos rfl,if_pos rfl];refine a2.keep λk o hk ho => ?_
   rw[hy4];exact getSetN ho (λhh=>hv'm (by rw[hk,hh]))
  ·rw[if_neg e,if_neg (λhh=>e hh.symm)]
   refine (Gy id).keep λk o hk ho => ?_
   rw[hy4];refine getSetN (a4 k o (by rw[hy2];exact Z07 ho) λhh=>e (g3 _ _ k hk (by rw[hv] at hh;exact hh))) (λhh=>g4 id (by rw[hk,hh]))
 ·rw[key] at hi hj
  have new:∀i,i≠ofF c x→idOf ((getA m i).getD nilS)=some k→idOf v'≠some k:=λi hne hi hk=>by
   rcases a5 with a5 | a5
   ·rw[a5,hv] at hk;exact hne (g3 _ _ k hi hk)
   ·rw[a5] at hk;simp only[Option.some.injEq] at hk;have:=hlt2 _ _ hi;omega
  by_cases ei:i=ofF c x
  ·by_cases ej:j=ofF c x
   ·rw[ei,ej]
   ·rw[if_pos ei] at hi;rw[if_neg ej] at hj;exact absurd hi (new j ej hj)
  ·rw[if_neg ei] at hi
   by_cases ej:j=ofF c x
   ·rw[if_pos ej] at hj;exact absurd hj (new i ei hi)
   ·rw[if_neg ej] at hj;exact g3 _ _ k hi hj
 ·rw[key]
  by_cases e:i=ofF c x
  ·rw[if_pos e];exact hv'm
  ·rw[if_neg e];exact g4 i
 ·rw[ZlF]
  by_cases e:ofF c x ∈ m.map (·.1)
  ·rw[if_pos e]
   refine ⟨g5,λi => ?_⟩
   rw[g6]
   constructor
   ·rintro ⟨z,hz,h⟩;exact ⟨z,by simp[hz],h⟩
   ·rintro ⟨z,hz,h⟩
    rcases List.mem_append.1 hz with hz | hz
    ·exact ⟨z,hz,h⟩
    ·simp only[List.mem_singleton] at hz;subst hz
     obtain ⟨z',hz',h'⟩:=(g6 _).1 e;exact ⟨z',hz',h'.trans h⟩
  ·rw[if_neg e]
   refine ⟨List.nodup_append.2 ⟨g5,by simp,λa ha b hb=>by simp only[List.mem_singleton] at hb;subst hb;intro hh;subst hh;exact e ha⟩,λi => ?_⟩
   rw[List.mem_append,g6]
   constructor
   ·rintro (⟨z,hz,h⟩ | h)
    ·exact ⟨z,by simp[hz],h⟩
    ·simp only[List.mem_singleton] at h;exact ⟨x,by simp,h.symm⟩
   ·rintro ⟨z,hz,h⟩
    rcases List.mem_append.1 hz with hz | hz
    ·exact .inl ⟨z,hz,h⟩
    ·simp only[List.mem_singleton] at hz;subst hz;exact .inr (by simp[h])
 ·simp -implicitDefEqProofs only[Z3p,Z05,hlt,decide_true,Z02,if_true,ic,ld,bx,ns,lw,cw,lk,Z0m,Nat.zero_add,l3,bs,ae,mu,dj,cond_true,Z08,hw]
theorem ZCT{c b:Bool}{l:List Fnd}{mid:Nat}(hl:l.length<100000):∀(n:Nat)(pre post:List Fnd)(h:Hp)(m:List (Int × AV)),l=pre++post→post.length<n→GrM c pre mid h m→
  ∃h' m',GrM c l mid h' m'∧Z2e Tryz.prog Z10 Z0u NN (λw32_5 h=>Z2B Tryz.prog Z10 Z0u NN (λv h=>some (v,h)) w32_5 h) n (fvW c) (.mp mid) (SLf b l) (I l.length) (I pre.length) h=some (.mp mid,h'):=by
 intro n;induction n with
 | zero=>intro pre post h m _ h2;omega
 | succ n ih=>
  intro pre post h m hc hn J;cases post with
  | nil=>
   have:l=pre:=by simpa using hc
   subst this;have c1:¬((l.length:Int)<(l.length:Int)):=by omega
   refine ⟨h,m,J, ?_⟩;show Z3p Tryz.prog Z10 Z0u NN (Z2e Tryz.prog Z10 Z0u NN (λw32_5 h=>Z2B Tryz.prog Z10 Z0u NN (λv h=>some (v,h)) w32_5 h) n) _ _ _ _ _ _ h=_
   simp -implicitDefEqProofs only[Z3p,Z05,c1,decide_false,Z02,Bool.false_eq_true,if_false]
   rfl
  | cons x post=>
   obtain ⟨h',m',J',e⟩:=ZCS (b:=b) hc hl J (xn:=Z2e Tryz.prog Z10 Z0u NN (λw32_5 h=>Z2B Tryz.prog Z10 Z0u NN (λv h=>some (v,h)) w32_5 h) n) (x0:=λw32_5 h=>Z2B Tryz.prog Z10 Z0u NN (λv h=>some (v,h)) w32_5 h)
   obtain ⟨h2,m2,J2,e2⟩:=ih (pre++[x]) post h' m' (by simpa using hc) (by simpa using hn) J'
   exact ⟨h2,m2,J2,e.trans e2⟩
theorem ZlH(l:List Fnd)(b c:Bool)(hl:l.length<100000)(h:Hp):∃h' m,Z1W [SLf b l,fvW c] h=some (.mp h.length,h')∧GrM c l h.length h' m:=by
 obtain ⟨h',m',J,e⟩:=ZCT (c:=c) (b:=b) (mid:=h.length) hl NN [] l (h++[.map []]) [] rfl (by have:=NN_ge;omega) ⟨by rw[Z0n];rfl,λid=>Gro.nil,λi j k hi=>by simp[getA] at hi,λi hi=>by simp[getA] at hi,by simp,by simp⟩
 refine ⟨h',m', ?_,J⟩;rw[Zry];have ln:∀k:Go.AM.K (AV × Hp),lenK (SLf b l) k=k (I l.length):=λk=>by rw[Z0b,List.length_map]
 have e0:∀k:AV→Hp→Option (AV × Hp),effK (some (.mp h.length,EN (.map []))) h k=k (.mp h.length) (h++[.map []]):=λk=>by simp[effK,ap,EN]
 simp -implicitDefEqProofs only[Z4H,e0,ln]
 exact e
end Go.AM


namespace Go.AM
open Go.Proofs
section
variable {β:Type} {P:Program} {T:Tab} {D:DTab} {N:Nat} {K:Kb β}
theorem ZCU{x0:Qb β}{xr:Kb β}{l:List Fnd}{v fv:AV}{h:Hp}{p:Fnd→Bool}(hl:l.length<4611686018427387904)(hE:∀(i:Nat) (x:Fnd),l[i]? = some x→∀k:Go.AM.K β,iaK 4 v (I i) (λq=>ldK 4 true q h k)=k (.agg (encF x)))(hp:∀x ∈ l,∀k:Kb β,callVK T fv [.agg (encF x)] h k=k (B (p x)) h):
  ∀(n i:Nat),i≤l.length→l.length<i+n→Z2E P T D N x0 xr n v fv (I l.length) (I i) h=match (l.drop i).findIdx? p with | some j=>xr (I ((i+j:Nat):Int)) h | none=>x0 h:=by
 intro n;induction n with
 | zero=>intro i h1 h2;omega
 | succ n ih=>
  intro i h1 h2;show Z7D P T D N (Z2E P T D N x0 xr n) x0 xr _ _ _ _ h=_
  unfold Z7D;rcases Nat.lt_or_ge i l.length with hi | hi
  ·have hx:l[i]? = some l[i]:=List.getElem?_eq_getElem hi
   have hlt:((i:Int)<(l.length:Int)):=by omega
   have hw:IntKind.i64.wrap ((i:Int)+1)=((i+1:Nat):Int):=by rw[wrap64 (by omega) (by omega)];omega
   have hpx:=hp l[i] (List.getElem_mem hi);have hex:=hE i l[i] hx;rw[List.drop_eq_getElem_cons hi,List.findIdx?_cons];simp -implicitDefEqProofs only[Z05,hlt,decide_true,Z02,if_true,hex,hpx,Z08,hw];cases hc:p l[i] with
   | true=>simp
   | false=>
    have h3:=ih (i+1) hi (by omega)
    simp only[Bool.false_eq_true,if_false];refine h3.trans ?_
    cases (List.drop (i+1) l).findIdx? p with
    | none=>rfl
    | some j=>
     show xr (I ((i+1+j:Nat):Int)) h=xr (I ((i+(j+1):Nat):Int)) h;rw[show i+1+j=i+(j+1) by omega]
  ·have:i=l.length:=by omega
   subst this;have c1:¬((l.length:Int)<(l.length:Int)):=by omega
   simp[c1]
theorem Zeg{l:List Fnd}{v fv:AV}{h:Hp}{p:Fnd→Bool}{K:Kb β}(hl:l.length<N)(hN:l.length<4611686018427387904)(hL:∀k:Go.AM.K β,lenK v k=k (I l.length))(hE:∀(i:Nat) (x:Fnd),l[i]? = some x→∀k:Go.AM.K β,iaK 4 v (I i) (λq=>ldK 4 true q h k)=k (.agg (encF x)))(hp:∀x ∈ l,∀k:Kb β,callVK T fv [.agg (encF x)] h k=k (B (p x)) h):
  Z2f P T D N K v fv h=K (I (match l.findIdx? p with | some j=>(j:Int) | none => -1)) h:=by
 unfold Z2f;simp only[hL]
 have:=ZCU (P:=P) (D:=D) (N:=N) (x0:=λh=>Z7C P T D N K h) (xr:=λa h=>K a h) hN hE hp N 0 (Nat.zero_le _) (by omega)
 simp only[List.drop_zero] at this;refine this.trans ?_
 cases l.findIdx? p with
 | none=>rfl
 | some j=>simp
theorem ZCV{x0:AV→Kb β}{l:List Fnd}{k:Nat}{fv:AV}{h:Hp}{p:Fnd→Bool}(hl:l.length<4611686018427387904)(hp:∀x ∈ l,∀hh:Hp,Kept h hh k→∀K:Kb β,callVK T fv [.agg (encF x)] hh K=K (B (p x)) hh):
  ∀(n i w:Nat)(hh:Hp)(W:List Fnd),i≤l.length→l.length<i+n→DelInv encF p 4 l h k i w hh W→
  ∃(w':Nat)(hh':Hp)(W':List Fnd),Z1p P T D N x0 n (.sl 4 k 0 l.length l.length false) fv (I w) (I i) hh=x0 (.sl 4 k 0 l.length l.length false) (I w') hh'∧DelInv encF p 4 l h k l.length w' hh' W':=by
 intro n;induction n with
 | zero=>intro i w hh W h1 h2;omega
 | succ n ih=>
  intro i w hh W h1 h2 J;have lL:∀k':Go.AM.K β,lenK (.sl 4 k 0 l.length l.length false) k'=k' (I l.length):=λk'=>rfl
  rcases Nat.lt_or_ge i l.length with hi | hi
  ·have hx:l[i]? = some l[i]:=List.getElem?_eq_getElem hi
   have hxl:l[i] ∈ l:=List.getElem_mem hi;generalize l[i]=x at hx hxl;have hlt:((i:Int)<(l.length:Int)):=by omega
   have hw:IntKind.i64.wrap ((i:Int)+1)=((i+1:Nat):Int):=by rw[wrap64 (by omega) (by omega)];omega
   have hwi:=J.wi;have hw1:IntKind.i64.wrap ((w:Int)+1)=((w+1:Nat):Int):=by rw[wrap64 (by omega) (by omega)];omega
   have ia:∀(m:Nat)(hm:m<l.length)(k':Go.AM.K β),iaK 4 (.sl 4 k 0 l.length l.length false) (I m) k'=k' (.ptr k m 0 l.length):=λm hm k'=>by
    have e1:(0:Int)≤(m:Int):=by omega
    have e2:((m:Nat):Int)<((l.length:Nat):Int):=by omega
    simp[iaK,e2]
   have l1:∀k':Go.AM.K β,ldK 4 true (.ptr k i 0 l.length) hh k'=k' (.agg (encF x)):=λk'=>ldE (f:=encF) (by simp[encF]) J.at_ J.len (J.get hx) k'
   have bx:∀k':Kb β,effK (boxE 4 (.agg [I 0,I 0,I 0,I 0]) hh.length) hh k'=k' (.ptr hh.length 0 0 1) (hh++[.arr 4 [[I 0,I 0,I 0,I 0]] true false]):=λk'=>Z0Y 4 hh.length (.agg [I 0,I 0,I 0,I 0]) hh k' rfl rfl rfl
   have sb:∀k':Kb β,effK (stE 4 (.ptr hh.length 0 0 1) (.agg (encF x)) (hh++[.arr 4 [[I 0,I 0,I 0,I 0]] true false])) (hh++[.arr 4 [[I 0,I 0,I 0,I 0]] true false]) k'=k' .u (hh++[.arr 4 [encF x] true false]):=λk'=>by
    rw[Z22 (v := .u) (id:=hh.length) (o := .arr 4 [encF x] true false) (ft:=[hh.length]) (by simp[encF]),Z27];rfl
   have lb:∀k':Go.AM.K β,ldK 4 true (.ptr hh.length 0 0 1) (hh++[.arr 4 [encF x] true false]) k'=k' (.agg (encF x)):=λk'=>by simp[encF]
   have cp:=hp x hxl (hh++[AObj.arr 4 [encF x] true false]) (J.kept.app _)
   have sw:∀k':Kb β,effK (stE 4 (.ptr k w 0 l.length) (.agg (encF x)) (hh++[.arr 4 [encF x] true false])) (hh++[.arr 4 [encF x] true false]) k'=k' .u ((hh++[AObj.arr 4 [encF x] true false]).set k (.arr 4 ((W.set w x).map encF) true false)):=λk'=>
    stEl (f:=encF) (i:=w) (λx=>by simp[encF]) (by simp[encF]) (Z07 J.at_) J.len (by have:=J.len;omega) k'
   have body:∀(w':Nat)(hh':Hp)(W':List Fnd),DelInv encF p 4 l h k (i+1) w' hh' W'→∃(w'':Nat)(hh'':Hp)(W'':List Fnd),Z1p P T D N x0 n (.sl 4 k 0 l.length l.length false) fv (I w') (I ((i+1:Nat):Int)) hh'=x0 (.sl 4 k 0 l.length l.length false) (I w'') hh''∧DelInv encF p 4 l h k l.length w'' hh'' W'':=λw' hh' W' J'=>ih (i+1) w' hh' W' hi (by omega) J'
   cases hc:p x with
   | true=>
    obtain ⟨w',hh',W',e1,e2⟩:=body w _ W (J.skip hx hc [AObj.arr 4 [encF x] true false]);refine ⟨w',hh',W', ?_,e2⟩;rw[← e1];show Z2c P T D N (Z1p P T D N x0 n) x0 _ _ _ _ hh=_;simp -implicitDefEqProofs only[Z2c,lL,Z05,hlt,decide_true,Z02,if_true,ia i hi,l1,bx,sb,lb,cp,hc,Z0q,Bool.not_true,Bool.false_eq_true,if_false,Z7s,Zbl,Z08,hw]
   | false=>
    obtain ⟨w',hh',W',e1,e2⟩:=body (w+1) _ _ (J.keep hx hc [AObj.arr 4 [encF x] true false]);refine ⟨w',hh',W', ?_,e2⟩;rw[← e1];show Z2c P T D N (Z1p P T D N x0 n) x0 _ _ _ _ hh=_;simp -implicitDefEqProofs only[Z2c,lL,Z05,hlt,decide_true,Z02,if_true,ia i hi,ia w (by omega),l1,bx,sb,lb,cp,hc,Z0q,Bool.not_false,sw,Z7s,Zbl,Z08,hw,hw1]
  ·have:i=l.length:=by omega
   subst this;have c1:¬((l.length:Int)<(l.length:Int)):=by omega
   refine ⟨w,hh,W, ?_,J⟩;show Z2c P T D N (Z1p P T D N x0 n) x0 _ _ _ _ hh=_;simp -implicitDefEqProofs only[Z2c,lL,Z05,c1,decide_false,Z02,Bool.false_eq_true,if_false]
theorem ZCW{l:List Fnd}{k:Nat}{fv:AV}{h:Hp}{p:Fnd→Bool}{K:Kb β}(hk:h[k]? = some (.arr 4 (l.map encF) true false))(hl:l.length<N)(hN:l.length<1000000)
  (hi:∀K:Kb β,callK (T 44) [.sl 4 k 0 l.length l.length false,fv] h K=K (I (match l.findIdx? p with | some j=>(j:Int) | none => -1)) h)
  (hp:∀x ∈ l,∀hh:Hp,Kept h hh k→∀K:Kb β,callVK T fv [.agg (encF x)] hh K=K (B (p x)) hh):
  ∃hh:Hp,Z2d P T D N K (.sl 4 k 0 l.length l.length false) fv h=K (.sl 4 k 0 (l.filter λx => !p x).length l.length false) hh∧hh[k]? = some (.arr 4 ((l.filter λx => !p x).map encF++List.replicate (l.length-(l.filter λx => !p x).length) [I 0,I 0,I 0,I 0]) true false)∧Kept h hh k:=by
 cases hf:l.findIdx? p with
 | none=>
  have hno:∀x ∈ l,p x=false:=λx hx=>by have:=List.findIdx?_eq_none_iff.1 hf x hx;simpa using this
  have e:(l.filter λx => !p x)=l:=List.filter_eq_self.2 λx hx=>by simp[hno x hx]
  rw[e];refine ⟨h, ?_,by rw[Nat.sub_self,List.replicate_zero,List.append_nil];exact hk,.refl h k⟩
  rw[hf] at hi;simp -implicitDefEqProofs only[Z2d,hi,Z04,beq_self_eq_true,Bool.false_xor,Z02,if_true]
 | some j=>
  rw[hf] at hi;obtain ⟨hj,hpj,hbef⟩:=List.findIdx?_eq_some_iff_getElem.1 hf
  have hx:l[j]? = some l[j]:=List.getElem?_eq_getElem hj
  have hnb:∀x ∈ l.take j,p x=false:=λx hx=>by
   obtain ⟨i,hi,rfl⟩:=List.getElem_of_mem hx;rw[List.length_take] at hi;have:=hbef i (by omega)
   rw[List.getElem_take];simpa using this
  have e:((l.take j).filter λx => !p x)=l.take j:=List.filter_eq_self.2 λx hx=>by simp[hnb x hx]
  have J0:DelInv encF p 4 l h k j j h l:=⟨.refl h k,hk,rfl,by rw[e,List.length_take];omega,by rw[e],rfl⟩
  have J1:DelInv encF p 4 l h k (j+1) j h l:=by have:=J0.skip hx hpj [];rwa [List.append_nil] at this
  obtain ⟨w,hh,W,e1,e2⟩:=ZCV (P:=P) (T:=T) (D:=D) (x0:=λw27_0 w27_5 h=>Z4F P T D N K w27_0 w27_5 h) (by omega) hp N (j+1) j h l hj (by omega) J1
  have hw:w=(l.filter λx => !p x).length:=by have:=e2.hw;rwa [List.take_length] at this
  have hpre:W.take w=l.filter λx => !p x:=by have:=e2.pre;rwa [List.take_length] at this
  have hwl:w≤W.length:=by rw[e2.len];exact e2.wl
  have hj1:((j:Int) == -1)=false:=by rw[beq_eq_false_iff_ne];omega
  have wj:IntKind.i64.wrap ((j:Int)+1)=((j+1:Nat):Int):=by rw[wrap64 (by omega) (by omega)];omega
  have sl1:∀k':Go.AM.K β,sliceK 4 (.sl 4 k 0 l.length l.length false) (some (I w)) none none k'=k' (.sl 4 k w (l.length-w) l.length false):=λk'=>by
   have:=e2.wl
   simp[sliceK,boundOr,this]
  have sl2:∀k':Go.AM.K β,sliceK 4 (.sl 4 k 0 l.length l.length false) none (some (I w)) none k'=k' (.sl 4 k 0 w l.length false):=λk'=>by
   have:=e2.wl
   simp[sliceK,boundOr,this]
  have cl:=λk'=>ZCG (β:=β) (z:=[I 0,I 0,I 0,I 0]) (fr:=l.length) (full:=false) e2.at_ hwl e2.len.symm k'
  rw[e2.len] at cl;refine ⟨hh.set k (.arr 4 ((W.take w).map encF++List.replicate (l.length-w) [I 0,I 0,I 0,I 0]) true false), ?_, ?_,e2.kept.set _⟩
  ·simp -implicitDefEqProofs only[Z2d,hi,Z04,hj1,Bool.false_xor,Z02,Bool.false_eq_true,if_false,Z08,wj]
   refine e1.trans ?_;simp -implicitDefEqProofs only[Z4F,sl1,sl2,cl];rw[hw]
  ·rw[List.getElem?_set_self (List.getElem?_eq_some_iff.1 e2.at_).1,hpre,hw]
end
attribute [local congr] Z0w Z0x Z0y Z0z Z0A Z0B Z0C Z0D Z0E Z0F Z0G Z0H Z0I Z0J Z0K Z0L Z0M Z0N Z0O Z0P Z0Q Z0R Z0S Z0T Z0U Z0V Z0W
theorem ZCX{st:Bool}{h:Hp}{sz id w fr:Nat}{full nl:Bool}{es rest:List (List AV)}(hid:h[id]? = some (.arr sz (es++rest) true nl))(hw:es.length=w)(hf:(es++rest).length=fr)(ok:okE st es=true):cvt st h (.sl sz id 0 w fr full)=some (.lst sz nl es):=by
 subst hw hf;have e:((es++rest).drop 0).take es.length=es:=by rw[List.drop_zero,List.take_left]
 simp[cvt,hid,ok]
theorem ZlI{β:Type}(neq c:Bool)(h:Hp)(k:Go.AM.K β):eqK Tryz.prog neq 112 (fvW c) (.s .nilFunc) h k=k (B neq):=by cases c<;>kernel_rfl
theorem ZlJ{β:Type}(neq:Bool)(h:Hp)(k:Go.AM.K β):eqK Tryz.prog neq 112 (.s .nilFunc) (.s .nilFunc) h k=k (B (!neq)):=by cases neq<;>kernel_rfl
def whoB(by_:Int):Option Bool:=if by_=1 then some true else if by_=2 then some false else none
def whoV:Option Bool→AV
 | some c=>fvW c
 | none => .s .nilFunc
theorem Zeh(by_:Int)(h:Hp):Z1r [I by_] h=some (whoV (whoB by_),h):=by
 rw[ZCJ];unfold whoB
 by_cases q1:by_=1
 ·rw[if_pos q1,if_pos q1];rfl
 ·rw[if_neg q1,if_neg q1]
  by_cases q2:by_=2
  ·rw[if_pos q2,if_pos q2];rfl
  ·rw[if_neg q2,if_neg q2];rfl
def ofS(l:List Fnd)(by_ id:Int):List Int × List Int × Int:=
 if rightF l=false then ([],[],1) else match whoB by_ with
  | none=>([],[],2)
  | some c=>if ownF c id l=[] then ([],[],7) else (ownF c id l,othF c id l,0)
abbrev lstZ(l:List Int):AV := .lst 1 l.isEmpty (l.map enL)
theorem Z6H(l:List Fnd)(b:Bool)(by_ id:Int)(hl:l.length<100000)(h:Hp):Z16 [SLf b l,I by_,I id] h=some (.tup [lstZ (ofS l by_ id).1,lstZ (ofS l by_ id).2.1,I (ofS l by_ id).2.2],h):=by
 have hp:plains [SLf b l,I by_,I id]=true:=rfl;have fr:=ZlB l b (by omega)
 have fw:=Zeh by_;have hn:nrm (.l 4) (SLf b l)=SLf b l:=rfl
 have err:∀e:Int,Z29 Tryz.prog Z1X Z5m NN (λv g=>cvt false g v) (SLf b l) (I by_) (I id) []=some (.tup [nilS,nilS,I e])→Z16 [SLf b l,I by_,I id] h=some (.tup [lstZ [],lstZ [],I e],h):=λe he=>
  (ZhA (a0:=SLf b l) (a1:=I by_) (a2:=I id) hp (by rw[hn];exact he) h).trans rfl
 unfold ofS;cases hr:rightF l with
 | false=>
  rw[hr] at fr;rw[if_pos rfl];refine err 1 ?_
  simp -implicitDefEqProofs only[Z29,Z8t,Z8u,Z06,fw,fr,Z0q,Bool.not_false,Z02,if_true]
  rfl
 | true=>
  rw[hr] at fr;rw[if_neg (by simp)]
  cases hb:whoB by_ with
  | none=>
   rw[hb] at fw;refine err 2 ?_
   have e1:=λh (k:KV)=>ZlJ false h k
   simp -implicitDefEqProofs only[Z29,Z8t,Z8u,Z06,fw,fr,Z0q,Bool.not_true,Z02,Bool.false_eq_true,if_false,whoV,e1,Bool.not_false,if_true]
   rfl
  | some c=>
   rw[hb] at fw;have e1:=λh (k:KV)=>ZlI false c h k
   obtain ⟨h',m,eg0,G0⟩:=ZlH l b c hl [];have eg:Z1W [SLf b l,fvW c] []=some (.mp 0,h'):=eg0;have G:GrM c l 0 h' m:=G0;have hu:Tryz.prog.underlying 3=some (.int .i64):=by kernel_rfl
   have lk:=λk:KV=>lookA (P:=Tryz.prog) (kt:=3) (z:=nilS) (n:=id) hu G.at_ k
   have Gv:=G.gr id;generalize (getA m id).getD nilS=v at lk Gv;have lv:=λk:KV=>Gv.len k
   have pre:∀X:Option AV,(∀k:KV,condK (B ((ownF c id l).length==0)) (k nilS) (k nilS)=k nilS)→True:=λ_ _=>trivial
   by_cases q:ownF c id l=[]
   ·show Z16 _ _=some (.tup [lstZ (if ownF c id l=[] then ([],[],7) else (ownF c id l,othF c id l,0)).1,lstZ (if ownF c id l=[] then ([],[],7) else (ownF c id l,othF c id l,0)).2.1,I (if ownF c id l=[] then ([],[],7) else (ownF c id l,othF c id l,0)).2.2],h)
    rw[if_pos q];refine err 7 ?_
    have e2:(((ownF c id l).length:Int)==0)=true:=by rw[q];rfl
    simp -implicitDefEqProofs only[Z29,Z8t,Z8u,Zhz,Z06,fw,fr,Z0q,Bool.not_true,Z02,Bool.false_eq_true,if_false,whoV,e1,eg,lk,lv,Z04,Bool.false_xor,e2,if_true]
    rfl
   ·show Z16 _ _=some (.tup [lstZ (if ownF c id l=[] then ([],[],7) else (ownF c id l,othF c id l,0)).1,lstZ (if ownF c id l=[] then ([],[],7) else (ownF c id l,othF c id l,0)).2.1,I (if ownF c id l=[] then ([],[],7) else (ownF c id l,othF c id l,0)).2.2],h)
    rw[if_neg q]
    have e2:(((ownF c id l).length:Int)==0)=false:=by
     rw[beq_eq_false_iff_ne];have:=List.length_pos_iff.2 q
     omega
    have fo:=ZCP l b c id hl;refine (ZhA (a0:=SLf b l) (a1:=I by_) (a2:=I id) (v := .tup [.lst 1 false ((ownF c id l).map enL),lstZ (othF c id l),I 0]) hp ?_ h).trans ?_
    ·rw[hn]
     simp -implicitDefEqProofs only[Z29,Z8t,Z8u,Zhz,ZrI,Z06,fw,fr,Z0q,Bool.not_true,Z02,Bool.false_eq_true,if_false,whoV,e1,eg,lk,lv,Z04,Bool.false_xor,e2,fo]
     obtain ⟨k,rfl,hk⟩:∃k,v = .sl 1 k 0 (ownF c id l).length (ownF c id l).length false∧h'[k]? = some (.arr 1 ((ownF c id l).map enL) true false):=by
      rcases Gv with ⟨q',_⟩ | ⟨_,k,r1,r2⟩
      ·exact absurd q' q
      ·exact ⟨k,r1,r2⟩
     simp only[Z77,Z4q,Z4p,cvt_s];rw[Z1T (st:=false) (es:=(ownF c id l).map enL) (nl:=false) hk (by simp) (by simp) (Z1S λx=>by simp)]
     have:cvt false h' (lstZ (othF c id l))=some (lstZ (othF c id l)):=ZfN rfl
     rw[this]
     rfl
    ·have:(ownF c id l).isEmpty=false:=by simpa using q
     show _=some (AV.tup [.lst 1 (ownF c id l).isEmpty _,_,_],h);rw[this];rfl
abbrev SLg(b:Bool)(l:List Fnd):AV := .lst 4 (b&&l.isEmpty) (l.map encF)
theorem ZlK(l:List Fnd)(b:Bool)(hl:l.length<100000)(h:Hp):Z1q [SLg b l] h=if (b&&l.isEmpty)=true then some (nilS,h) else some (.sl 4 (h.length+1) 0 l.length l.length false,h++[.arr 4 [] true false,.arr 4 (l.map encF) true false]):=by
 rw[Zr0];by_cases hb:(b&&l.isEmpty)=true
 ·simp[Z2y,hb]
 ·have hb':(b&&l.isEmpty)=false:=by simpa using hb
  have hle:l.length * 32≤140737488355328:=by omega
  have h2:((l.map encF).all λe=>e.length==4)=true:=by simp[encF]
  simp[Z2y,hb',bsE,fillS,appE,readSl,hle,h2,ap]
theorem Zay(l:List Fnd)(b:Bool)(hl:l.length<100000)(h:Hp):Z3y [SLg b l] h=some (SLg b l,h):=by
 refine (Zr2 (a0:=SLg b l) (v:=if (b&&l.isEmpty)=true then nilS else SLg b l) rfl ?_ h).trans ?_
 ·have rC:=ZlK l b hl []
  have hK:=(ZbH (λv g=>cvt false g v) (SLg b l) []).symm
  show Z2y Tryz.prog Z3x Z3w NN (λv g=>cvt false g v) (SLg b l) []=_
  rw[hK,rC];by_cases hb:(b&&l.isEmpty)=true
  ·rw[if_pos hb,if_pos hb];rfl
  ·rw[if_neg hb,if_neg hb]
   have hb':(b&&l.isEmpty)=false:=by simpa using hb
   refine (Z1T (st:=false) (n:=l.length) (fr:=l.length) (full:=false) (sz:=4) (id:=1) (h:=[.arr 4 [] true false,.arr 4 (l.map encF) true false]) rfl (by simp) (by simp) (Z1S λx=>by simp[encF])).trans ?_
   show some (AV.lst 4 false (l.map encF))=some (AV.lst 4 (b&&l.isEmpty) (l.map encF));rw[hb']
 ·by_cases hb:(b&&l.isEmpty)=true
  ·rw[if_pos hb]
   obtain ⟨e1,e2⟩:=Bool.and_eq_true_iff.1 hb;have:l=[]:=by simpa using e2
   rw[this,e1];rfl
  ·rw[if_neg hb];rfl
theorem ZCY{β:Type}(c:Bool)(x:Fnd)(h:Hp)(k:AV→Hp→Ent→Option β):effD (callVE Z2W (fvW c) [.agg (encF x)] h h.length) h k=k (I (ofF c x)) h ([],[]):=by
 cases c with
 | true=>exact Z1f (λh=>Zee x h) (Zax x) h k
 | false=>exact Z1f (λh=>Zef x h) (Zax x) h k
theorem ZlL{x:Fnd}{c:Bool}{id:Int}{h:Hp}(h1:h[1]? = some (.arr 1 [[fvW c]] true false))(h0:h[0]? = some (.arr 1 [[I id]] true false)):Z1Y [.agg (encF x),.ptr 1 0 0 1,.ptr 0 0 0 1] h=some (B (ofF c x==id),h):=by
 refine ZrQ (g:=[.arr 4 [encF x] true false]) ?_ rfl;obtain ⟨y,hy⟩:∃y,y=h++[AObj.arr 4 [encF x] true false]:=⟨_,rfl⟩;rw[← hy];have bx:∀k:AV→Hp→Option (AV × Hp),effK (boxE 4 (.agg (encF x)) h.length) h k=k (.ptr h.length 0 0 1) y:=λk=>by rw[hy];exact Z0Y 4 h.length _ h k rfl rfl rfl
 have y1:y[1]? = some (.arr 1 [[fvW c]] true false):=by rw[hy];exact Z07 h1
 have y0:y[0]? = some (.arr 1 [[I id]] true false):=by rw[hy];exact Z07 h0
 have yb:y[h.length]? = some (.arr 4 [encF x] true false):=by rw[hy,Z0n];rfl
 have l1:∀k:Go.AM.K (AV × Hp),ldK 1 false (.ptr 1 0 0 1) y k=k (fvW c):=λk=>by rw[Z0d,y1];rfl
 have l0:∀k:Go.AM.K (AV × Hp),ldK 1 false (.ptr 0 0 0 1) y k=k (I id):=λk=>by rw[Z0d,y0];rfl
 have lw:∀k:Go.AM.K (AV × Hp),ldK 4 true (.ptr h.length 0 0 1) y k=k (.agg (encF x)):=λk=>by rw[Z0d,yb];rfl
 have cw:=λk:AV→Hp→Ent→Option (AV × Hp)=>ZCY c x y k
 have dj:disjAll [(2,3)] [(idsOf (.ptr 1 0 0 1),[]),(idsOf (.ptr h.length 0 0 1),[]),([],[]),(idsOf (.ptr 0 0 0 1),[]),([],[]),([],[])]=true:=by simp[disjAll,disj2,idsOf]
 simp -implicitDefEqProofs only[Z7t,bx,l1,lw,cw,l0,Z04,Bool.false_xor,dj,cond_true]
def remF(c:Bool)(id:Int)(l:List Fnd):List Fnd:=l.filter λx => !(ofF c x==id)
theorem ZCZ(l:List Fnd)(b c:Bool)(id:Int)(hl:l.length<1000)(h:Hp)(h1:h[1]? = some (.arr 1 [[fvW c]] true false))(h0:h[0]? = some (.arr 1 [[I id]] true false)):∃cv hc v hh,Z1q [SLg b l] h=some (cv,hc)∧Z3F [cv,.fn 36 [.ptr 1 0 0 1,.ptr 0 0 0 1]] hc=some (v,hh)∧∃w,(∀st,cvt st hh v=some w)∧nrm (.l 4) w = .lst 4 (b&&l.isEmpty) ((remF c id l).map encF):=by
 have hN:=NN_ge;have rC:=ZlK l b (by omega) h
 by_cases hb:(b&&l.isEmpty)=true
 ·rw[if_pos hb] at rC
  obtain ⟨rfl,hl0⟩:=Bool.and_eq_true_iff.1 hb;have:l=[]:=by simpa using hl0
  subst this
  have fi:Z3E [nilS,.fn 36 [.ptr 1 0 0 1,.ptr 0 0 0 1]] h=some (I (-1),h):=
   ZhB (g:=[]) (by rw[List.append_nil];exact Zeg (l:=[]) (p:=λ_=>true) (by have:=NN_ge;simp;omega) (by simp) (λ_=>rfl) (by simp) (by simp)) rfl
  refine ⟨nilS,h,nilS,h,rC, ?_,nilS,λst=>rfl,rfl⟩
  rw[ZhD];simp -implicitDefEqProofs only[Z2d,ZhC,Z06,fi,Z04,beq_self_eq_true,Bool.false_xor,Z02,if_true]
 ·rw[if_neg hb] at rC
  obtain ⟨hc,hhc⟩:∃hc:Hp,hc=h++[.arr 4 [] true false,.arr 4 (l.map encF) true false]:=⟨_,rfl⟩;have hlen:hc.length=h.length+2:=by rw[hhc];simp
  have hk:hc[h.length+1]? = some (.arr 4 (l.map encF) true false):=by rw[hhc,Zb9];rfl
  have hi1:1<h.length:=(List.getElem?_eq_some_iff.1 h1).1;have h1c:hc[1]? = some (.arr 1 [[fvW c]] true false):=by rw[hhc];exact Z07 h1
  have h0c:hc[0]? = some (.arr 1 [[I id]] true false):=by rw[hhc];exact Z07 h0
  rw[← hhc] at rC
  have fi:Z3E [.sl 4 (h.length+1) 0 l.length l.length false,.fn 36 [.ptr 1 0 0 1,.ptr 0 0 0 1]] hc=some (I (match l.findIdx? (λm=>ofF c m==id) with | some j=>(j:Int) | none => -1),hc):=
   ZhB (g:=[]) (by
    rw[List.append_nil];refine Zeg (l:=l) (p:=λm=>ofF c m==id) (by omega) (by omega) (λ_=>rfl) (λi x hx k => ?_) (λx hx k => ?_)
    ·have hi:=(List.getElem?_eq_some_iff.1 hx).1
     have e2:((i:Nat):Int)<((l.length:Nat):Int):=by omega
     have ia:∀k':Go.AM.K (AV × Hp),iaK 4 (.sl 4 (h.length+1) 0 l.length l.length false) (I i) k'=k' (.ptr (h.length+1) i 0 l.length):=λk'=>by simp[iaK,e2]
     rw[ia];exact ldE (f:=encF) rfl hk rfl hx k
    ·show callK (Z3D 36) [.agg (encF x),.ptr 1 0 0 1,.ptr 0 0 0 1] hc k=_
     simp -implicitDefEqProofs only[ZrT,Z06,ZlL h1c h0c]) rfl
  have cb:∀x ∈ l,∀hh:Hp,Kept hc hh (h.length+1)→∀K:AV→Hp→Option (AV × Hp),callVK Z1Z (.fn 36 [.ptr 1 0 0 1,.ptr 0 0 0 1]) [.agg (encF x)] hh K=K (B (ofF c x==id)) hh:=λx hx hh J K=>by
   have h1h:hh[1]? = some (.arr 1 [[fvW c]] true false):=by rw[J.same 1 (by omega) (by omega),h1c]
   have h0h:hh[0]? = some (.arr 1 [[I id]] true false):=by rw[J.same 0 (by omega) (by omega),h0c]
   show callK (Z1Z 36) [.agg (encF x),.ptr 1 0 0 1,.ptr 0 0 0 1] hh K=_;simp -implicitDefEqProofs only[ZrZ,Z06,ZlL h1h h0h]
  obtain ⟨hh,e1,e2,e3⟩:=ZCW (P:=Tryz.prog) (T:=Z1Z) (D:=Z5o) (N:=NN) (K:=λv h=>some (v,h)) (fv := .fn 36 [.ptr 1 0 0 1,.ptr 0 0 0 1]) hk (by omega) (by omega) (λK=>by
   simp -implicitDefEqProofs only[ZhC,Z06,fi]<;>rfl) cb
  rw[show (l.filter λx => !(ofF c x==id))=remF c id l from rfl] at e1 e2
  have hw:(remF c id l).length≤l.length:=List.length_filter_le _ _;refine ⟨_,_,_,hh,rC,by rw[ZhD];exact e1,.lst 4 false ((remF c id l).map encF), ?_,by rw[Bool.eq_false_iff.2 hb];rfl⟩
  exact λst=>ZCX e2 (by simp) (by simp;omega) (Z1S λx=>by cases st<;>rfl)
def witS(l:List Fnd)(by_ id:Int):List Fnd × Int:=
 if (ofS l by_ id).2.2≠0 then ([],(ofS l by_ id).2.2) else match whoB by_ with | some c=>(remF c id l,0) | none=>([],0)
theorem ZlM{l:List Fnd}{b:Bool}{by_ id:Int}{c:Bool}(hl:l.length<1000)(hc:whoB by_=some c)(z:(ofS l by_ id).2.2=0):∃w,nrm (.l 4) w = .lst 4 (b&&l.isEmpty) ((remF c id l).map encF)∧∀st,Z2x Tryz.prog Z1i Z3G NN (λv g=>cvt st g v) (SLg b l) (I by_) (I id) []=some (.tup [w,I 0]):=by
 have fO:=Z6H l (b&&l.isEmpty) by_ id (by omega)
 have fw:=Zeh by_;obtain ⟨H0,hH0⟩:∃H0:Hp,H0=[.arr 1 [[I id]] true false]:=⟨_,rfl⟩;have x0:∀k:Kb AV,effK (boxE 1 (I id) ([]:Hp).length) [] k=k (.ptr 0 0 0 1) H0:=λk=>by rw[hH0];rfl
 have l0:∀k:KV,ldK 1 false (.ptr 0 0 0 1) H0 k=k (I id):=λk=>by rw[hH0];rfl
 have t0:∀(a b c:AV)(k:KV),exK (.tup [a,b,c]) 0 k=k a:=λa b c k=>rfl
 have t1:∀(a b c:AV)(k:KV),exK (.tup [a,b,c]) 1 k=k b:=λa b c k=>rfl
 have t2:∀(a b c:AV)(k:KV),exK (.tup [a,b,c]) 2 k=k c:=λa b c k=>rfl
 have ez:(!((ofS l by_ id).2.2==0))=false:=by simp[z]
 rw[hc] at fw;obtain ⟨H1,hH1⟩:∃H1:Hp,H1=[.arr 1 [[I id]] true false,.arr 1 [[fvW c]] true false]:=⟨_,rfl⟩
 have x1:∀k:Kb AV,effK (boxE 1 (.s .nilFunc) H0.length) H0 k=k (.ptr 1 0 0 1) (H0++[.arr 1 [[.s .nilFunc]] true false]):=λk=>by rw[hH0];rfl
 have s1:∀k:Kb AV,effK (stE 1 (.ptr 1 0 0 1) (fvW c) (H0++[.arr 1 [[.s .nilFunc]] true false])) (H0++[.arr 1 [[.s .nilFunc]] true false]) k=k .u H1:=λk=>by rw[hH1,hH0];rfl
 obtain ⟨cv,hcp,v,hh,r1,r2,w,w1,w2⟩:=ZCZ l b c id hl H1 (by rw[hH1];rfl) (by rw[hH1];rfl)
 refine ⟨w,w2,λst => ?_⟩
 simp -implicitDefEqProofs only[Z2x,x0,l0,ZhE,Zs5,Zs4,Zs6,Z06,fO,t0,t1,t2,Z04,Bool.true_xor,ez,Z02,Bool.false_eq_true,if_false,fw,whoV,x1,s1,r1,r2]
 simp only[Z77,Z4q,Z4p,w1,cvt_s]
 rfl
theorem ZD0(l:List Fnd)(b:Bool)(by_ id:Int)(hl:l.length<1000)(h:Hp):∃b',Z1j [SLg b l,I by_,I id] h=some (.tup [SLg b' (witS l by_ id).1,I (witS l by_ id).2],h):=by
 have hp:plains [SLg b l,I by_,I id]=true:=rfl;have hn:nrm (.l 4) (SLg b l)=SLg b l:=rfl;unfold witS;by_cases z:(ofS l by_ id).2.2=0
 ·rw[if_neg (λhh=>hh z)]
  obtain ⟨c,hc⟩:∃c,whoB by_=some c:=by
   cases hb:whoB by_ with
   | some c=>exact ⟨c,rfl⟩
   | none=>
    unfold ofS at z;rw[hb] at z
    split at z<;>simp at z
  rw[hc];obtain ⟨w,w2,hw⟩:=ZlM (b:=b) hl hc z
  refine ⟨b&&l.isEmpty,(ZhG (a0:=SLg b l) (a1:=I by_) (a2:=I id) (v := .tup [w,I 0]) hp (by rw[hn];exact hw false) h).trans ?_⟩
  show some (AV.tup [nrm (.l 4) w,I 0],h)=some (.tup [.lst 4 ((b&&l.isEmpty)&&(remF c id l).isEmpty) _,I 0],h);rw[w2]
  have:(b&&l.isEmpty)=((b&&l.isEmpty)&&(remF c id l).isEmpty):=by
   cases hb:(b&&l.isEmpty) with
   | false=>rfl
   | true=>
    obtain ⟨-,hl0⟩:=Bool.and_eq_true_iff.1 hb;have:l=[]:=by simpa using hl0
    subst this;rfl
  rw[← this]
 ·have ez:(!((ofS l by_ id).2.2==0))=true:=by simp[z]
  have fO:=Z6H l (b&&l.isEmpty) by_ id (by omega)
  have x0:∀k:Kb AV,effK (boxE 1 (I id) ([]:Hp).length) [] k=k (.ptr 0 0 0 1) [.arr 1 [[I id]] true false]:=λk=>rfl
  have l0:∀k:KV,ldK 1 false (.ptr 0 0 0 1) [.arr 1 [[I id]] true false] k=k (I id):=λk=>rfl
  have t0:∀(a b c:AV)(k:KV),exK (.tup [a,b,c]) 0 k=k a:=λa b c k=>rfl
  have t1:∀(a b c:AV)(k:KV),exK (.tup [a,b,c]) 1 k=k b:=λa b c k=>rfl
  have t2:∀(a b c:AV)(k:KV),exK (.tup [a,b,c]) 2 k=k c:=λa b c k=>rfl
  rw[if_pos z];refine ⟨true,(ZhG (a0:=SLg b l) (a1:=I by_) (a2:=I id) (v := .tup [nilS,I (ofS l by_ id).2.2]) hp ?_ h).trans rfl⟩
  rw[hn];simp -implicitDefEqProofs only[Z2x,x0,l0,ZhE,Z06,fO,t0,t1,t2,Z04,Bool.true_xor,ez,Z02,if_true]
  rfl
end Go.AM


namespace Go.AM
open Go.Proofs
attribute [local congr] Z0w Z0x Z0y Z0z Z0A Z0B Z0C Z0D Z0E Z0F Z0G Z0H Z0I Z0J Z0K Z0L Z0M Z0N Z0O Z0P Z0Q Z0R Z0S Z0T Z0U Z0V Z0W
abbrev msgsM:List Msg:=[⟨5,1,0,1,1,2,100⟩,⟨5,3,0,3,0,0,97⟩,⟨5,5,0,3,0,0,0⟩]
theorem docX:docF 5 msgsM=⟨5,4,1,2,100,97,0⟩:=by decide
theorem ZD1(h:Hp):Z6j [.lst 7 false msgsX,I 5] h=some (.tup [.agg [I 5,I 4,I 1,I 2,I 100,I 97,I 0],I 0],h):=by
 refine Zy4 (a0 := .lst 7 false msgsX) (a1:=I 5) rfl ?_ h;have fn:=ZCC;have fd:∀h,Z3T [.lst 7 false msgsX,I 5] h=some (.agg [I 5,I 4,I 1,I 2,I 100,I 97,I 0],h):=λh=>(ZCu msgsM false 5 (by decide) h).trans (by rw[docX];rfl)
 have u0:∀(a b:AV)(k:KV),exK (.tup [a,b]) 0 k=k a:=λa b k=>rfl
 have u1:∀(a b:AV)(k:KV),exK (.tup [a,b]) 1 k=k b:=λa b k=>rfl
 have x0:∀k:Kb AV,effK (boxE 7 (.agg [I 0,I 0,I 0,I 0,I 0,I 0,I 0]) ([]:Hp).length) [] k=k (.ptr 0 0 0 1) [.arr 7 [[I 0,I 0,I 0,I 0,I 0,I 0,I 0]] true false]:=λk=>rfl
 have s0:∀k:Kb AV,effK (stE 7 (.ptr 0 0 0 1) (.agg [I 5,I 4,I 1,I 2,I 100,I 97,I 0]) [.arr 7 [[I 0,I 0,I 0,I 0,I 0,I 0,I 0]] true false]) [.arr 7 [[I 0,I 0,I 0,I 0,I 0,I 0,I 0]] true false] k=k .u [.arr 7 [[I 5,I 4,I 1,I 2,I 100,I 97,I 0]] true false]:=λk=>rfl
 have l0:∀k:KV,ldK 7 true (.ptr 0 0 0 1) [.arr 7 [[I 5,I 4,I 1,I 2,I 100,I 97,I 0]] true false] k=k (.agg [I 5,I 4,I 1,I 2,I 100,I 97,I 0]):=λk=>rfl
 have c1:decide ((5:Int)<1)=false:=by decide
 have c2:decide ((5:Int) > 1073741824)=false:=by decide
 rw[show nrm (.l 7) (.lst 7 false msgsX) = .lst 7 false msgsX from rfl];generalize AV.lst 7 false msgsX=L at *
 simp -implicitDefEqProofs only[Z7n,x0,ZxZ,Zy0,Z06,fn,u0,u1,Z04,beq_self_eq_true,Bool.true_xor,Bool.not_true,Z02,Bool.false_eq_true,if_false,Z05,Z14,c1,c2,Z26,Bool.or_false,fd,s0,l0]
 rfl
theorem F_wit{x0:AV}{h:Hp}(ha:cvts false h [x0,I 1,I 1]=some [.lst 4 false [[I 1,I 1,I 1,I 1],[I 1,I 2,I 2,I 1]],I 1,I 1]):Z1j [x0,I 1,I 1] h=some (.tup [.lst 4 false [[I 1,I 2,I 2,I 1]],I 0],h):=by
 obtain ⟨w,w1,w2⟩:=ZlM (l:=[⟨1,1,1,1⟩,⟨1,2,2,1⟩]) (b:=false) (by_:=1) (id:=1) (c:=true) (by decide) rfl (by decide)
 refine (Zs9 (v := .tup [w,I 0]) ha w2).trans ?_;show some (AV.tup [nrm (.l 4) w,I 0],h)=_;rw[w1]
 rfl
theorem ZD2(T:Tab)(D:DTab)(n:Nat)(st:Bool)(x:Int):Z2b Tryz.prog T D (n+2) (λv g=>cvt st g v) (.lst 1 false [[I x]]) (.lst 1 false [[I x]]) []=some (B true):=by
 have e0:∀(h:Hp)(k:KV),eqK Tryz.prog true 3 (I x) (I x) h k=k (B false):=λh k=>by simp[Z04]
 have l0:∀k:KV,lenK (.lst 1 false [[I x]]) k=k (I 1):=λk=>rfl
 have i0:∀k:KV,iaK 1 (.lst 1 false [[I x]]) (I 0) k=k (.ep [I x] 0):=λk=>rfl
 have d0:∀(h:Hp)(k:KV),ldK 1 false (.ep [I x] 0) h k=k (I x):=λh k=>rfl
 have w0:IntKind.i64.wrap (0+1)=1:=by decide
 have c0:decide ((0:Int)<1)=true:=by decide
 have c1:decide ((1:Int)<1)=false:=by decide
 simp -implicitDefEqProofs only[Z2b,Z2a,Z3m,Z7e,l0,Z04,beq_self_eq_true,Bool.true_xor,Bool.not_true,Z02,Bool.false_eq_true,if_false,Z05,c0,c1,if_true,i0,d0,Z08,w0]
 cases st<;>rfl
theorem F_eqL{x1:AV}{h:Hp}(x:Int)(ha:cvts false h [.lst 1 false [[I x]],x1]=some [.lst 1 false [[I x]],.lst 1 false [[I x]]]):Z1s [.lst 1 false [[I x]],x1] h=some (B true,h):=by
 obtain ⟨n,hn⟩:∃n,NN=n+2:=⟨NN-2,by have:=NN_ge;omega⟩
 refine Zse ha λst => ?_
 rw[hn];exact ZD2 _ _ n st x
abbrev o0X:AObj := .arr 5 [[I 1,I 1,I 1,I 2,I 100],[I 3,I 7,I 2,I 0,I 97]] true false
abbrev o1X:AObj := .arr 4 [[I 0,I 0,I 3,I 0]] true false
abbrev o2X:AObj := .arr 7 [[I 5,I 4,I 1,I 2,I 100,I 97,I 0]] true false
abbrev o3X:AObj := .arr 3 [[I 2,I 7,I 9]] true false
abbrev o4X:AObj := .arr 4 [[I 0,I 2,I 1,I 2]] true false
abbrev o5X:AObj := .arr 2 [[I 4,I 3]] true false
abbrev o6X:AObj := .arr 4 [[I 1,I 1,I 1,I 1],[I 1,I 2,I 2,I 1]] true false
abbrev o7X:AObj := .arr 1 [[I 2]] true false
abbrev o8X:AObj := .arr 1 [[I 4]] true false
set_option maxHeartbeats 4000000 in
theorem ZD3(h:Hp):Z6q [] h=some (B true,h):=by
 refine ZAi rfl ?_ h;obtain ⟨H0,e0⟩:∃H:Hp,H=[o0X]:=⟨_,rfl⟩;obtain ⟨H1,e1⟩:∃H:Hp,H=[o0X,o1X]:=⟨_,rfl⟩;obtain ⟨H2,e2⟩:∃H:Hp,H=[o0X,o1X,o2X]:=⟨_,rfl⟩;obtain ⟨H3,e3⟩:∃H:Hp,H=[o0X,o1X,o2X,o3X]:=⟨_,rfl⟩;obtain ⟨H4,e4⟩:∃H:Hp,H=[o0X,o1X,o2X,o3X,o4X]:=⟨_,rfl⟩;obtain ⟨H5,e5⟩:∃H:Hp,H=[o0X,o1X,o2X,o3X,o4X,o5X]:=⟨_,rfl⟩;obtain ⟨H6,e6⟩:∃H:Hp,H=[o0X,o1X,o2X,o3X,o4X,o5X,o6X]:=⟨_,rfl⟩;obtain ⟨H7,e7⟩:∃H:Hp,H=[o0X,o1X,o2X,o3X,o4X,o5X,o6X,o7X]:=⟨_,rfl⟩;obtain ⟨H8,e8⟩:∃H:Hp,H=[o0X,o1X,o2X,o3X,o4X,o5X,o6X,o7X,o8X]:=⟨_,rfl⟩;have u0:∀(a b:AV)(k:KV),exK (.tup [a,b]) 0 k=k a:=λa b k=>rfl
 have u1:∀(a b:AV)(k:KV),exK (.tup [a,b]) 1 k=k b:=λa b k=>rfl
 have v0:∀(a b c:AV)(k:KV),exK (.tup [a,b,c]) 0 k=k a:=λa b c k=>rfl
 have v1:∀(a b c:AV)(k:KV),exK (.tup [a,b,c]) 1 k=k b:=λa b c k=>rfl
 have v2:∀(a b c:AV)(k:KV),exK (.tup [a,b,c]) 2 k=k c:=λa b c k=>rfl
 have b1:∀k:KV,buildK [I 0,I 0,I 0,I 0,I 0] [(some (0,1),I 1),(some (1,1),I 1),(some (2,1),I 1),(some (3,1),I 2),(some (4,1),I 100)] k=k (.agg [I 1,I 1,I 1,I 2,I 100]):=λk=>rfl
 have b2:∀k:KV,buildK [I 0,I 0,I 0,I 0,I 0] [(some (0,1),I 3),(some (1,1),I 7),(some (2,1),I 2),(some (4,1),I 97)] k=k (.agg [I 3,I 7,I 2,I 0,I 97]):=λk=>rfl
 have s0:∀k:Kb AV,effK (bsE 5 [I 0,I 0,I 0,I 0,I 0] 2 [(0,.agg [I 1,I 1,I 1,I 2,I 100]),(1,.agg [I 3,I 7,I 2,I 0,I 97])] ([]:Hp).length) [] k=k (.sl 5 0 0 2 2 true) H0:=λk=>by rw[e0];rfl
 have fm:=ZCx (x0 := .sl 5 0 0 2 2 true) (h:=H0) (by rw[e0];rfl)
 have fc:=ZCB (x0 := .sl 5 0 0 2 2 true) (h:=H0) (by rw[e0];rfl)
 have x1:∀k:Kb AV,effK (boxE 4 (.agg [I 0,I 0,I 0,I 0]) H0.length) H0 k=k (.ptr 1 0 0 1) (H0++[.arr 4 [[I 0,I 0,I 0,I 0]] true false]):=λk=>by rw[e0];rfl
 have s1:∀k:Kb AV,effK (stE 4 (.ptr 1 0 0 1) (.agg [I 0,I 0,I 3,I 0]) (H0++[.arr 4 [[I 0,I 0,I 0,I 0]] true false])) (H0++[.arr 4 [[I 0,I 0,I 0,I 0]] true false]) k=k .u H1:=λk=>by rw[e0,e1];rfl
 have fd:=ZD1;have x2:∀k:Kb AV,effK (boxE 7 (.agg [I 0,I 0,I 0,I 0,I 0,I 0,I 0]) H1.length) H1 k=k (.ptr 2 0 0 1) (H1++[.arr 7 [[I 0,I 0,I 0,I 0,I 0,I 0,I 0]] true false]):=λk=>by rw[e1];rfl
 have s2:∀k:Kb AV,effK (stE 7 (.ptr 2 0 0 1) (.agg [I 5,I 4,I 1,I 2,I 100,I 97,I 0]) (H1++[.arr 7 [[I 0,I 0,I 0,I 0,I 0,I 0,I 0]] true false])) (H1++[.arr 7 [[I 0,I 0,I 0,I 0,I 0,I 0,I 0]] true false]) k=k .u H2:=λk=>by rw[e1,e2];rfl
 have b3:∀k:KV,buildK [I 0,I 0,I 0] [(some (0,1),I 2),(some (1,1),I 7),(some (2,1),I 9)] k=k (.agg [I 2,I 7,I 9]):=λk=>rfl
 have s3:∀k:Kb AV,effK (bsE 3 [I 0,I 0,I 0] 1 [(0,.agg [I 2,I 7,I 9])] H2.length) H2 k=k (.sl 3 3 0 1 1 true) H3:=λk=>by rw[e2,e3];rfl
 have b4:∀k:KV,buildK [I 0,I 0,I 0,I 0,I 0,I 0,nilS] [(some (0,1),I 1),(some (2,1),I 10),(some (3,1),I 20),(some (6,1),.sl 3 3 0 1 1 true)] k=k (.agg [I 1,I 0,I 10,I 20,I 0,I 0,.sl 3 3 0 1 1 true]):=λk=>rfl
 have fr:=ZCD (x0 := .agg [I 1,I 0,I 10,I 20,I 0,I 0,.sl 3 3 0 1 1 true]) (h:=H3) (by rw[e3];rfl)
 have b5:∀k:KV,buildK [I 0,I 0,I 0,I 0] [(some (0,1),I 0),(some (1,1),I 2),(some (2,1),I 1),(some (3,1),I 2)] k=k (.agg [I 0,I 2,I 1,I 2]):=λk=>rfl
 have s4:∀k:Kb AV,effK (bsE 4 [I 0,I 0,I 0,I 0] 1 [(0,.agg [I 0,I 2,I 1,I 2])] H3.length) H3 k=k (.sl 4 4 0 1 1 true) H4:=λk=>by rw[e3,e4];rfl
 have b6:∀k:KV,buildK [I 0,nilS] [(some (0,1),I 2),(some (1,1),.sl 4 4 0 1 1 true)] k=k (.agg [I 2,.sl 4 4 0 1 1 true]):=λk=>rfl
 have fo:=ZCE (x0 := .agg [I 2,.sl 4 4 0 1 1 true]) (h:=H4) (by rw[e4];rfl)
 have b7:∀k:KV,buildK [I 0,I 0] [(some (0,1),I 4),(some (1,1),I 3)] k=k (.agg [I 4,I 3]):=λk=>rfl
 have s5:∀k:Kb AV,effK (bsE 2 [I 0,I 0] 1 [(0,.agg [I 4,I 3])] H4.length) H4 k=k (.sl 2 5 0 1 1 true) H5:=λk=>by rw[e4,e5];rfl
 have fg:=ZCF (x0 := .sl 2 5 0 1 1 true) (h:=H5) (by rw[e5];rfl)
 have b8:∀k:KV,buildK [I 0,I 0,I 0,I 0] [(some (0,1),I 1),(some (1,1),I 1),(some (2,1),I 1),(some (3,1),I 1)] k=k (.agg [I 1,I 1,I 1,I 1]):=λk=>rfl
 have b9:∀k:KV,buildK [I 0,I 0,I 0,I 0] [(some (0,1),I 1),(some (1,1),I 2),(some (2,1),I 2),(some (3,1),I 1)] k=k (.agg [I 1,I 2,I 2,I 1]):=λk=>rfl
 have s6:∀k:Kb AV,effK (bsE 4 [I 0,I 0,I 0,I 0] 2 [(0,.agg [I 1,I 1,I 1,I 1]),(1,.agg [I 1,I 2,I 2,I 1])] H5.length) H5 k=k (.sl 4 6 0 2 2 true) H6:=λk=>by rw[e5,e6];rfl
 have fw:=F_wit (x0 := .sl 4 6 0 2 2 true) (h:=H6) (by rw[e6];rfl)
 have n1:∀k:KV,lenK (.lst 7 false msgsX) k=k (I 3):=λk=>rfl
 have l1:∀k:KV,ldK 4 true (.ptr 1 0 0 1) H6 k=k (.agg [I 0,I 0,I 3,I 0]):=λk=>by rw[e6];rfl
 have ba:∀k:KV,buildK [I 0,I 0,I 0,I 0] [(some (2,1),I 3)] k=k (.agg [I 0,I 0,I 3,I 0]):=λk=>rfl
 have q1:∀(h:Hp)(k:KV),eqK Tryz.prog false 62 (.agg [I 0,I 0,I 3,I 0]) (.agg [I 0,I 0,I 3,I 0]) h k=k (B true):=λh k=>by kernel_rfl
 have l2:∀k:KV,ldK 1 false (.ptr 2 0 1 1) H6 k=k (I 4):=λk=>by rw[e6];rfl
 have l3:∀k:KV,ldK 1 false (.ptr 2 0 5 1) H6 k=k (I 97):=λk=>by rw[e6];rfl
 have s7:∀k:Kb AV,effK (bsE 1 [I 0] 1 [(0,I 2)] H6.length) H6 k=k (.sl 1 7 0 1 1 true) H7:=λk=>by rw[e6,e7];rfl
 have f7:=F_eqL (x1 := .sl 1 7 0 1 1 true) (h:=H7) 2 (by rw[e7];rfl)
 have s8:∀k:Kb AV,effK (bsE 1 [I 0] 1 [(0,I 4)] H7.length) H7 k=k (.sl 1 8 0 1 1 true) H8:=λk=>by rw[e7,e8];rfl
 have f8:=F_eqL (x1 := .sl 1 8 0 1 1 true) (h:=H8) 4 (by rw[e8];rfl)
 have n2:∀k:KV,lenK (.lst 4 false [[I 1,I 2,I 2,I 1]]) k=k (I 1):=λk=>rfl
 have z0:IntKind.i64.wrap (0+0)=0:=by decide
 have ap:∀(a b:Int)(k:KV),arithK .add (I 0) (I 0) k=k (I 0):=λa b k=>by rw[Z08,z0]
 generalize AV.lst 7 false msgsX=L at *;simp -implicitDefEqProofs only[Z79,ZA7,ZA8,ZA9,ZAa,ZAb,ZAc,ZAd,ZAe,Z06,b1,b2,s0,fm,u0,u1,v0,v1,v2,fc,x1,s1,fd,x2,s2,b3,s3,b4,fr,b5,s4,b6,fo,b7,s5,fg,b8,b9,s6,fw,n1,Z04,beq_self_eq_true,Bool.false_xor,Zb5,l1,ba,q1,Z0m,Nat.zero_add,l2,l3,s7,f7,s8,f8,n2,Z08,z0]
 rfl
end Go.AM


namespace Go.AM
variable {α β:Type} {sz:Nat} {enc:α→List AV} {h:Hp}
structure Part(enc:α→List AV)(h:Hp)(p:AV × List α):Prop where
 read:readSl h p.1=some (p.2.map enc)
 len:lenK p.1 some=some (I p.2.length)
theorem Part.lenK{p:AV × List α}(q:Part enc h p)(k:K β):Go.AM.lenK p.1 k=k (I p.2.length):=by rw[Zev,q.len];rfl
theorem Part.app{p:AV × List α}(q:Part enc h p)(g:List AObj):Part enc (h++g) p:=⟨ZaK q.read λid _ o ho=>Z07 ho,q.len⟩
theorem Part.nil:Part enc h (nilS,[]):=⟨rfl,rfl⟩
theorem Part.lst(sz:Nat)(b:Bool)(l:List α):Part enc h (.lst sz b (l.map enc),l):=⟨rfl,by simp⟩
theorem Part.sl{sz id n:Nat}{b nl:Bool}{l:List α}(hid:h[id]? = some (.arr sz (l.map enc) true nl))(hn:l.length=n):Part enc h (.sl sz id 0 n n b,l):=by
 subst hn;have ht:(l.map enc).take l.length=l.map enc:=List.take_of_length_le (by simp)
 exact ⟨by simp[readSl,hid,ht],by simp⟩
def total(ps:List (AV × List α)):Nat:=(ps.map (·.2.length)).sum
def flat(ps:List (AV × List α)):List α:=ps.flatMap (·.2)
theorem ZlN(ps:List (AV × List α))(p:AV × List α):total (ps++[p])=total ps+p.2.length:=by simp[total]
theorem Zei(ps qs:List (AV × List α)):total (ps++qs)=total ps+total qs:=by simp[total]
theorem Zaz(p:AV × List α)(ps:List (AV × List α)):total (p::ps)=p.2.length+total ps:=by simp[total]
theorem Z45(ps:List (AV × List α)):(flat ps).length=total ps:=by
 induction ps with
 | nil=>rfl
 | cons p ps ih=>simp only[flat,List.flatMap_cons,List.length_append,Zaz] at ih ⊢;rw[ih]
theorem ZlO(ps:List (AV × List α))(p:AV × List α):flat (ps++[p])=flat ps++p.2:=by simp[flat]
theorem ZD4{sz by_ n id base:Nat}{h:Hp}{A B news:List (List AV)}{x:AV}(hr:readSl h x=some news)(hid:h[id]? = some (.arr sz (A++B) true false))(hn:A.length+B.length=n)(hl:news.length≤B.length)(hs:(news.all λe=>e.length==sz)=true)(hb:n * by_≤140737488355328):
  appE sz by_ (.sl sz id 0 A.length n false) x h base=some (.sl sz id 0 (A.length+news.length) n false,⟨[(id,.arr sz (A++news++B.drop news.length) true false)],[],id::idsOf x⟩):=by
 have hb2:(A.length+news.length) * by_≤140737488355328:=Nat.le_trans (Nat.mul_le_mul_right _ (by omega)) hb
 have hl2:(A++B).length=n:=by simpa using hn
 by_cases he:A.length=n
 ·have hB:B=[]:=List.eq_nil_of_length_eq_zero (by omega)
  subst hB;have hN:news=[]:=List.eq_nil_of_length_eq_zero (by simpa using hl)
  subst hN;simp[appE,hr,hid,he,hb]
 ·have h1:(A++B).take A.length=A:=by simp
  have h2:(A++B).drop (A.length+news.length)=B.drop news.length:=by rw[List.drop_append,List.drop_of_length_le (by omega)];simp
  unfold appE;simp only[hr,hid]
  rw[if_pos ⟨hl2,trivial,hb2,hs⟩,if_neg (by simp),if_neg (by omega),if_pos ⟨trivial,trivial,by omega⟩]
  simp only[Nat.zero_add,h1,h2]
end Go.AM
namespace Go.AM
def notBehind{α:Type}(bef:α→α→Bool):Option α→α→Bool
 | some q,p => !bef q p
 | none,_=>false
@[simp] theorem ZHy{α:Type}(bef:α→α→Bool)(q p:α):notBehind bef (some q) p = !bef q p:=rfl
@[simp] theorem ZHz{α:Type}(bef:α→α→Bool)(p:α):notBehind bef none p=false:=rfl
end Go.AM


namespace Go.AM
open Go.Proofs
section
variable {β:Type} {P:Program} {T:Tab} {D:DTab} {N:Nat} {K:Kb β}
abbrev SL{α:Type}(sz:Nat)(f:α→List AV)(b:Bool)(l:List α):AV := .lst sz (b&&l.isEmpty) (l.map f)
section
variable {x0:AV→Kb β} {x2:Kb β} {ps:List (AV × List Int)} {nl:Bool}
theorem ZD5(n:Nat)(h:Hp)(hn:n<1000000):Z3Z [nilS,I n] h=some (if n=0 then (nilS,h) else (.sl 1 h.length 0 0 n false,h++[.arr 1 (List.replicate n [I 0]) true false])):=by
 rw[ZAN];have w0:IntKind.i64.wrap 0=0:=wrap64 (by omega) (by omega)
 by_cases h0:n=0
 ·subst h0
  simp[Z5e,ZbF,Z8j,capK,w0]
 ·have h1:¬(n:Int)<0:=by omega
  have h2:(0:Int)<(n:Int):=by omega
  have h3:(n:Int) * 8≤140737488355328:=by omega
  have w1:IntKind.i64.wrap (n:Int)=(n:Int):=wrap64 (by omega) (by omega)
  simp[Z5e,ZbF,Z8j,capK,w0,h0,h1,h2,h3,show 0<n by omega,w1,sliceK,boundOr,mkE,effK,ap]
theorem ZD6{v0:AV}{h:Hp}(hp:∀p ∈ ps,Part enL h p)(hm:ps.length<1000000)(ht:total ps<1000000):∀(n:Nat)(pre post:List (AV × List Int)),ps=pre++post→post.length<n→
  Z2O P T D N x0 n v0 (I (total pre)) (.lst 1 nl (ps.map λp=>[p.1])) (I ps.length) (I pre.length) h=x0 v0 (I (total ps)) h:=by
 intro n;induction n with
 | zero=>intro pre post _ h;omega
 | succ n ih=>
  intro pre post hc hn;show Z53 P T D N (Z2O P T D N x0 n) x0 _ _ _ _ _ h=_
  cases post with
  | nil=>
   have:ps=pre:=by simpa using hc
   subst this;simp[Z53]
  | cons p post=>
   have hi:pre.length<ps.length:=by rw[hc];simp
   have hx:ps[pre.length]? = some p:=by rw[hc];simp
   have hlt:((pre.length:Int)<(ps.length:Int)):=by omega
   have hw:IntKind.i64.wrap ((pre.length:Int)+1)=(((pre++[p]).length:Nat):Int):=by rw[wrap64 (by omega) (by omega)];simp
   have htp:total ps=total pre+(p.2.length+total post):=by rw[hc,Zei,Zaz]
   have hw2:IntKind.i64.wrap ((total pre:Int)+(p.2.length:Int))=((total (pre++[p]):Nat):Int):=by rw[wrap64 (by omega) (by omega),ZlN];omega
   have h0:¬((total (pre++[p]):Nat):Int)<0:=by omega
   have hL:=λk=>(hp p (List.mem_of_getElem? hx)).lenK (β:=β) k
   rw[← ih (pre++[p]) post (by simpa using hc) (by simpa using hn)]
   simp[Z53,hlt,hx,hL,hw2,h0,Zh8,Zh7,hw]
theorem ZD7{h:Hp}(hp:∀p ∈ ps,Part enL h p)(hm:ps.length<1000000)(ht:total ps<1000000):∀(n:Nat)(pre post:List (AV × List Int)),ps=pre++post→post.length<n→
  Z1V P T D N x2 n (.sl 1 h.length 0 ((flat pre).map enL).length (total ps) false) (.lst 1 nl (ps.map λp=>[p.1])) (I ps.length) (I pre.length) (h++[.arr 1 ((flat pre).map enL++List.replicate (total ps-total pre) [I 0]) true false]) =
   x2 (.sl 1 h.length 0 (total ps) (total ps) false) (h++[.arr 1 ((flat ps).map enL) true false]):=by
 intro n;induction n with
 | zero=>intro pre post _ h;omega
 | succ n ih=>
  intro pre post hc hn;show Z2i P T D N (Z1V P T D N x2 n) x2 _ _ _ _ _=_
  cases post with
  | nil=>
   have:ps=pre:=by simpa using hc
   subst this;simp[Z2i,Z45]
  | cons p post=>
   have hi:pre.length<ps.length:=by rw[hc];simp
   have hx:ps[pre.length]? = some p:=by rw[hc];simp
   have hlt:((pre.length:Int)<(ps.length:Int)):=by omega
   have hw:IntKind.i64.wrap ((pre.length:Int)+1)=(((pre++[p]).length:Nat):Int):=by rw[wrap64 (by omega) (by omega)];simp
   have htp:total ps=total pre+(p.2.length+total post):=by rw[hc,Zei,Zaz]
   have hP:=(hp p (List.mem_of_getElem? hx)).app [.arr 1 ((flat pre).map enL++List.replicate (total ps-total pre) [I 0]) true false];have hf:=ZD4 (by_:=8) (sz:=1) (n:=total ps) (base:=h.length+1) hP.read (Z0n h [.arr 1 ((flat pre).map enL++List.replicate (total ps-total pre) [I 0]) true false]) (by simp[Z45];omega) (by simp;omega) (by simp[enL]) (by omega)
   have e1:((flat pre).map enL).length+(p.2.map enL).length=((flat (pre++[p])).map enL).length:=by rw[ZlO];simp
   have e2:(flat pre).map enL++p.2.map enL++(List.replicate (total ps-total pre) [I 0]).drop (p.2.map enL).length=(flat (pre++[p])).map enL++List.replicate (total ps-total (pre++[p])) [I 0]:=by
    rw[ZlO,List.map_append,List.drop_replicate,ZlN,List.length_map,Nat.sub_sub]
   rw[e1,e2] at hf;rw[← ih (pre++[p]) post (by simpa using hc) (by simpa using hn)]
   generalize ((flat pre).map enL).length=k1 at *;generalize ((flat (pre++[p])).map enL).length=k2 at *;generalize (flat pre).map enL++List.replicate (total ps-total pre) [I 0]=o1 at *;generalize (flat (pre++[p])).map enL++List.replicate (total ps-total (pre++[p])) [I 0]=o2 at *;simp[Z2i,hlt,hx,hf,hw]
theorem ZD8{h:Hp}(hp:∀p ∈ ps,Part enL h p)(hm:ps.length<1000000)(ht:total ps=0):∀(n:Nat)(pre post:List (AV × List Int)),ps=pre++post→post.length<n→
  Z1V P T D N x2 n nilS (.lst 1 nl (ps.map λp=>[p.1])) (I ps.length) (I pre.length) h=x2 nilS h:=by
 intro n;induction n with
 | zero=>intro pre post _ h;omega
 | succ n ih=>
  intro pre post hc hn;show Z2i P T D N (Z1V P T D N x2 n) x2 _ _ _ _ _=_
  cases post with
  | nil=>
   have:ps=pre:=by simpa using hc
   subst this;simp[Z2i]
  | cons p post=>
   have hi:pre.length<ps.length:=by rw[hc];simp
   have hx:ps[pre.length]? = some p:=by rw[hc];simp
   have hlt:((pre.length:Int)<(ps.length:Int)):=by omega
   have hw:IntKind.i64.wrap ((pre.length:Int)+1)=(((pre++[p]).length:Nat):Int):=by rw[wrap64 (by omega) (by omega)];simp
   have htp:total ps=total pre+(p.2.length+total post):=by rw[hc,Zei,Zaz]
   have hP:=(hp p (List.mem_of_getElem? hx)).read;have hpe:p.2=[]:=List.eq_nil_of_length_eq_zero (by omega)
   rw[hpe] at hP;rw[← ih (pre++[p]) post (by simpa using hc) (by simpa using hn)]
   simp[Z2i,hlt,hx,appE,hP,hw]
end
theorem ZD9(ps:List (AV × List Int))(nl:Bool)(h:Hp){x0:AV}(ha:cvts false h [x0]=some [.lst 1 nl (ps.map λp=>[p.1])])(hp:∀p ∈ ps,(p.1=nilS∧p.2=[])∨∃b,p.1 = .lst 1 b (p.2.map enL))(hm:ps.length<1000000)(ht:total ps<1000000):
  Z2s [x0] h=some (SL 1 enL (flat ps).isEmpty (flat ps),h):=by
 have hP:∀(h:Hp),∀p ∈ ps,Part enL h p:=λh p hm=>by
  obtain ⟨v,l⟩:=p;rcases hp _ hm with ⟨e1,e2⟩ | ⟨b,e1⟩
  ·dsimp only at e1 e2;subst e1 e2;exact .nil
  ·dsimp only at e1;subst e1;exact .lst 1 b l
 have run:∀st,Z3t Tryz.prog Z1d Z1l NN (λv g=>cvt st g v) (nrm (.l 1) (.lst 1 nl (ps.map λp=>[p.1]))) []=some (if total ps=0 then nilS else .lst 1 false ((flat ps).map enL)):=by
  intro st;have l4:=ZD6 (P:=Tryz.prog) (T:=Z1d) (D:=Z1l) (N:=NN) (x0:=λw19_0 w19_3 h=>Z2N Tryz.prog Z1d Z1l NN (λv g=>cvt st g v) w19_0 w19_3 h) (v0 := .lst 1 nl (ps.map λp=>[p.1])) (nl:=nl) (hP []) hm ht NN [] ps rfl (by have:=NN_ge;omega)
  refine Eq.trans ?_ (l4.trans ?_)
  ·simp[Z3t,total]
  ·have g:=ZD5 (total ps) [] ht
   by_cases h0:total ps=0
   ·have l3:=ZD8 (P:=Tryz.prog) (T:=Z1d) (D:=Z1l) (N:=NN) (x2:=λw11_6 h=>Z2M Tryz.prog Z1d Z1l NN (λv g=>cvt st g v) w11_6 h) (nl:=nl) (hP []) hm h0 NN [] ps rfl (by have:=NN_ge;omega)
    rw[if_pos h0] at g ⊢
    simp[Z2N,g];refine Eq.trans ?_ (l3.trans ?_)<;>simp[flat,total,Z2M]
   ·have l3:=ZD7 (P:=Tryz.prog) (T:=Z1d) (D:=Z1l) (N:=NN) (x2:=λw11_6 h=>Z2M Tryz.prog Z1d Z1l NN (λv g=>cvt st g v) w11_6 h) (nl:=nl) (hP []) hm ht NN [] ps rfl (by have:=NN_ge;omega)
    rw[if_neg h0] at g ⊢
    simp[Z2N,g];refine Eq.trans ?_ (l3.trans ?_)
    ·simp[flat,total]
    ·have hok:okE st ((flat ps).map enL)=true:=Z1S (by intro x;cases st<;>simp[enL,isS])
     simp only[Z2M];exact Z1T (by simp) (by simp[Z45]) (by simp[Z45]) hok
 refine (ZAS ha run).trans ?_;by_cases h0:total ps=0
 ·have:flat ps=[]:=List.eq_nil_of_length_eq_zero (by rw[Z45,h0])
  rw[if_pos h0,this];rfl
 ·have:(flat ps).isEmpty=false:=by
   rw[List.isEmpty_eq_false_iff];intro e;rw[← Z45,e] at h0;exact h0 rfl
  rw[if_neg h0,this];rfl
end
attribute [local congr] Z0w Z0x Z0y Z0z Z0A Z0B Z0C Z0D Z0E Z0F Z0G Z0H Z0I Z0J Z0K Z0L Z0M Z0N Z0O Z0P Z0Q Z0R Z0S Z0T Z0U Z0V Z0W
abbrev lsz(b:Bool)(l:List Int):AV := .lst 1 b (l.map enL)
def outR(n:Int):Bool:=decide (n < -1099511627776)||decide (n > 1099511627776)
def fltR(l:List Int):Int:=if l=[] then 9 else if 64<l.length then 8 else if l.any outR=true then 2 else 0
theorem ZDa{x1:Hp→Option AV}{xr:Kb AV}{X:Int→Option AV}{l:List Int}{b:Bool}(hl:l.length<1000000)(h0:∀h,x1 h=X 0)(hr:∀(e:Int) h,xr (I e) h=X e):∀(n:Nat)(pre post:List Int)(h:Hp),l=pre++post→post.length<n→
  Z2S Tryz.prog Z35 Z34 NN x1 xr n (lsz b l) (I l.length) (I pre.length) h=X (if post.any outR=true then 2 else 0):=by
 intro n;induction n with
 | zero=>intro pre post h _ h2;omega
 | succ n ih=>
  intro pre post h hc hn;show Z5c Tryz.prog Z35 Z34 NN (Z2S Tryz.prog Z35 Z34 NN x1 xr n) x1 xr _ _ _ h=_
  cases post with
  | nil=>
   have:l=pre:=by simpa using hc
   subst this;have c1:¬((l.length:Int)<(l.length:Int)):=by omega
   simp -implicitDefEqProofs only[Z5c,Z05,c1,decide_false,Z02,Bool.false_eq_true,if_false,h0,List.any_nil]
  | cons x post=>
   have hx:l[pre.length]? = some x:=by rw[hc];simp
   have hi:pre.length<l.length:=by rw[hc];simp
   have hlt:((pre.length:Int)<(l.length:Int)):=by omega
   have hw:IntKind.i64.wrap ((pre.length:Int)+1)=(((pre++[x]).length:Nat):Int):=by rw[wrap64 (by omega) (by omega)];simp
   have ic:∀k:KV,iaK 1 (lsz b l) (I pre.length) k=k (.ep (enL x) 0):=λk=>Z0s pre.length rfl hx k
   have ld:∀k:KV,ldK 1 false (.ep (enL x) 0) h k=k (I x):=λk=>rfl
   simp -implicitDefEqProofs only[Z5c,Z05,hlt,decide_true,Z02,if_true,ic,ld,Z14,Z26]
   have ho:(decide (x < -1099511627776)||decide (x > 1099511627776))=outR x:=rfl
   rw[ho,List.any_cons];cases q:outR x with
   | true=>simp -implicitDefEqProofs only[if_true,Bool.true_or,hr]
   | false=>
    simp -implicitDefEqProofs only[Bool.false_eq_true,if_false,Bool.false_or,Z08,hw]
    exact ih (pre++[x]) post h (by simpa using hc) (by simpa using hn)
theorem ZlP(l:List Int)(b:Bool)(hl:l.length<1000000)(h:Hp):Z6s [lsz b l] h=some (I (fltR l),h):=by
 refine ZAB (a0:=lsz b l) rfl ?_ h;rw[show nrm (.l 1) (lsz b l)=lsz b l from rfl];have ln:∀k:KV,lenK (lsz b l) k=k (I l.length):=λk=>by rw[Z0b,List.length_map]
 unfold fltR;simp -implicitDefEqProofs only[Z5d,ln,Z04,Bool.false_xor,Z02]
 by_cases q0:l=[]
 ·have e:((l.length:Int)==0)=true:=by rw[q0];rfl
  rw[if_pos q0];simp -implicitDefEqProofs only[e,if_true]
  rfl
 ·have e:((l.length:Int)==0)=false:=by
   rw[beq_eq_false_iff_ne];have:=List.length_pos_iff.2 q0
   omega
  rw[if_neg q0];simp -implicitDefEqProofs only[e,Bool.false_eq_true,if_false,Z14,Z02];by_cases h64:64<l.length
  ·have c:(l.length:Int) > 64:=by omega
   rw[if_pos h64];simp -implicitDefEqProofs only[c,decide_true,if_true]
   rfl
  ·have c:¬((l.length:Int) > 64):=by omega
   rw[if_neg h64];simp -implicitDefEqProofs only[c,decide_false,Bool.false_eq_true,if_false];exact ZDa (X:=λe=>some (I e)) hl (λh=>rfl) (λe h=>rfl) NN [] l [] rfl (by have:=NN_ge;omega)
def twoR(a c:List Int):Int:=if fltR a≠0 then fltR a else if fltR c≠0 then fltR c else if 24<a.length+c.length then 8 else 0
theorem ZDb(a c:List Int)(b1 b2:Bool)(ha:a.length<1000000)(hc:c.length<1000000)(h:Hp):Z6u [lsz b1 a,lsz b2 c] h=some (I (twoR a c),h):=by
 refine ZAI (a0:=lsz b1 a) (a1:=lsz b2 c) rfl ?_ h;rw[show nrm (.l 1) (lsz b1 a)=lsz b1 a from rfl,show nrm (.l 1) (lsz b2 c)=lsz b2 c from rfl];have l1:∀k:KV,lenK (lsz b1 a) k=k (I a.length):=λk=>by rw[Z0b,List.length_map]
 have l2:∀k:KV,lenK (lsz b2 c) k=k (I c.length):=λk=>by rw[Z0b,List.length_map]
 have f1:=ZlP a b1 ha;have f2:=ZlP c b2 hc;have w:IntKind.i64.wrap ((a.length:Int)+(c.length:Int))=((a.length+c.length:Nat):Int):=by rw[wrap64 (by omega) (by omega)];omega
 unfold twoR;simp -implicitDefEqProofs only[Z88,ZAE,Z06,f1,f2,Z04,Bool.true_xor,Z02]
 by_cases q1:fltR a=0
 ·have e1:(!(fltR a==0))=false:=by simp[q1]
  rw[if_neg (show ¬fltR a≠0 from λhh=>hh q1)]
  simp -implicitDefEqProofs only[e1,Bool.false_eq_true,if_false]
  by_cases q2:fltR c=0
  ·have e2:(!(fltR c==0))=false:=by simp[q2]
   rw[if_neg (show ¬fltR c≠0 from λhh=>hh q2)]
   simp -implicitDefEqProofs only[e2,Bool.false_eq_true,if_false,l1,l2,Z08,w,Z14,Z02]
   by_cases h24:24<a.length+c.length
   ·have cc:((a.length+c.length:Nat):Int) > 24:=by omega
    rw[if_pos h24];simp -implicitDefEqProofs only[cc,decide_true,if_true]
    rfl
   ·have cc:¬(((a.length+c.length:Nat):Int) > 24):=by omega
    rw[if_neg h24];simp -implicitDefEqProofs only[cc,decide_false,Bool.false_eq_true,if_false]
    rfl
  ·have e2:(!(fltR c==0))=true:=by simp[q2]
   rw[if_pos (show fltR c≠0 from q2)];simp -implicitDefEqProofs only[e2,if_true]
   rfl
 ·have e1:(!(fltR a==0))=true:=by simp[q1]
  rw[if_pos (show fltR a≠0 from q1)];simp -implicitDefEqProofs only[e1,if_true]
  rfl
def rkS(n r m:Int):Int:=if m<n then IntKind.i64.wrap (r+2) else if m=n then IntKind.i64.wrap (r+1) else r
def rkN(n:Int)(all:List Int):Int:=all.foldl (rkS n) 1
def rksN(l all:List Int):List Int:=l.map λn=>rkN n all
theorem ZDc{x2:AV→AV→AV→AV→AV→Kb AV}{al:List Int}{b:Bool}{v5 v11 v12 v13:AV}{n0:Int}(hl:al.length<1000000)(h:Hp):∀(n:Nat)(pre post:List Int)(r:Int),al=pre++post→post.length<n→
  Z2P Tryz.prog Z1n Z1m NN x2 n (lsz b al) v5 (I n0) (I r) v11 v12 v13 (lsz b al) (I al.length) (I pre.length) h=x2 (lsz b al) v5 (I (post.foldl (rkS n0) r)) v11 v12 v13 h:=by
 intro n;induction n with
 | zero=>intro pre post r _ h2;omega
 | succ n ih=>
  intro pre post r hc hn;show Z56 Tryz.prog Z1n Z1m NN (Z2P Tryz.prog Z1n Z1m NN x2 n) x2 _ _ _ _ _ _ _ _ _ _ h=_
  cases post with
  | nil=>
   have:al=pre:=by simpa using hc
   subst this;have c1:¬((al.length:Int)<(al.length:Int)):=by omega
   simp -implicitDefEqProofs only[Z56,Z05,c1,decide_false,Z02,Bool.false_eq_true,if_false,List.foldl_nil]
  | cons x post=>
   have hx:al[pre.length]? = some x:=by rw[hc];simp
   have hi:pre.length<al.length:=by rw[hc];simp
   have hlt:((pre.length:Int)<(al.length:Int)):=by omega
   have hw:IntKind.i64.wrap ((pre.length:Int)+1)=(((pre++[x]).length:Nat):Int):=by rw[wrap64 (by omega) (by omega)];simp
   have ic:∀k:KV,iaK 1 (lsz b al) (I pre.length) k=k (.ep (enL x) 0):=λk=>Z0s pre.length rfl hx k
   have ld:∀k:KV,ldK 1 false (.ep (enL x) 0) h k=k (I x):=λk=>rfl
   have ih':=λr'=>ih (pre++[x]) post r' (by simpa using hc) (by simpa using hn)
   rw[List.foldl_cons];simp -implicitDefEqProofs only[Z56,Z05,hlt,decide_true,Z02,if_true,ic,ld];unfold rkS
   by_cases q1:x<n0
   ·rw[if_pos q1]
    simp -implicitDefEqProofs only[q1,decide_true,if_true,Z08,Z3u,Z8f,Z8e,hw]
    exact ih' _
   ·rw[if_neg q1]
    by_cases q2:x=n0
    ·have e2:(x==n0)=true:=by simp[q2]
     rw[if_pos q2];simp -implicitDefEqProofs only[q1,decide_false,Bool.false_eq_true,if_false,Z04,Bool.false_xor,e2,Z02,if_true,Z08,Z3u,Z8f,Z8e,hw];exact ih' _
    ·have e2:(x==n0)=false:=by simp[q2]
     rw[if_neg q2];simp -implicitDefEqProofs only[q1,decide_false,Bool.false_eq_true,if_false,Z04,Bool.false_xor,e2,Z02,Z08,Z3u,Z8f,Z8e,hw];exact ih' _
theorem ZDd{x0:Kb AV}{X:Option AV}{l al:List Int}{b1 b2:Bool}(hl:l.length<100000)(hal:al.length<100000)(hx:∀v h,Gro 1 enL h v (rksN l al)→x0 v h=X):∀(n:Nat)(pre post:List Int)(v:AV)(h:Hp),l=pre++post→post.length<n→Gro 1 enL h v (rksN pre al)→
  Z2Q Tryz.prog Z1n Z1m NN x0 n (lsz b2 al) v (lsz b1 l) (I l.length) (I pre.length) h=X:=by
 intro n;induction n with
 | zero=>intro pre post v h _ h2;omega
 | succ n ih=>
  intro pre post v h hc hn G;show Z57 Tryz.prog Z1n Z1m NN (Z2Q Tryz.prog Z1n Z1m NN x0 n) x0 _ _ _ _ _ h=_
  cases post with
  | nil=>
   have:l=pre:=by simpa using hc
   subst this;have c1:¬((l.length:Int)<(l.length:Int)):=by omega
   simp -implicitDefEqProofs only[Z57,Z05,c1,decide_false,Z02,Bool.false_eq_true,if_false]
   exact hx v h G
  | cons x post=>
   have hx:l[pre.length]? = some x:=by rw[hc];simp
   have hi:pre.length<l.length:=by rw[hc];simp
   have hlt:((pre.length:Int)<(l.length:Int)):=by omega
   have hw:IntKind.i64.wrap ((pre.length:Int)+1)=(((pre++[x]).length:Nat):Int):=by rw[wrap64 (by omega) (by omega)];simp
   have ic:∀k:KV,iaK 1 (lsz b1 l) (I pre.length) k=k (.ep (enL x) 0):=λk=>Z0s pre.length rfl hx k
   have ld:∀k:KV,ldK 1 false (.ep (enL x) 0) h k=k (I x):=λk=>rfl
   have ln:∀k:KV,lenK (lsz b2 al) k=k (I al.length):=λk=>by rw[Z0b,List.length_map]
   simp -implicitDefEqProofs only[Z57,Z05,hlt,decide_true,Z02,if_true,ic,ld,ln]
   refine (ZDc (al:=al) (b:=b2) (n0:=x) (by omega) h NN [] al 1 rfl (by have:=NN_ge;omega)).trans ?_
   obtain ⟨r,hr⟩:∃r,r=rkN x al:=⟨_,rfl⟩;rw[show al.foldl (rkS x) 1=r from hr.symm];obtain ⟨y2,hy2⟩:∃y2,y2=h++[AObj.arr 1 [[I r]] true false]:=⟨_,rfl⟩;have bs:∀k:Kb AV,effK (bsE 1 [I 0] 1 [(0,I r)] h.length) h k=k (.sl 1 h.length 0 1 1 true) y2:=λk=>by rw[hy2];simp[bsE,fillS,effK,ap]
   have hv:idOf v≠some h.length:=λhh=>by have:=G.lt hh;omega
   have hlen:(rksN pre al).length=pre.length:=by simp[rksN]
   obtain ⟨v',h',e1,e2,-⟩:=Gro.snoc AV (sz:=1) (f:=enL) (h:=y2) (v:=v) (l:=rksN pre al) (by rw[hy2];exact G.app _) (by_:=8) (m:=h.length) (z:=r) (b:=true) (by rw[hy2,Z0n];rfl) hv (λ_ _=>rfl) (by rw[hlen];omega)
   have hsn:rksN (pre++[x]) al=rksN pre al++[r]:=by simp[rksN,hr]
   simp -implicitDefEqProofs only[Z8d,bs,e1,Zhf,Z08,hw]
   exact ih (pre++[x]) post v' h' (by simpa using hc) (by simpa using hn) (by rw[hsn];exact e2)
theorem ZlQ(l al:List Int)(b1 b2:Bool)(hl:l.length<100000)(hal:al.length<100000)(h:Hp):Z36 [lsz b1 l,lsz b2 al] h=some (lstZ (rksN l al),h):=by
 have ln:∀k:KV,lenK (lsz b1 l) k=k (I l.length):=λk=>by rw[Z0b,List.length_map]
 have run:∀w,(∀v h,Gro 1 enL h v (rksN l al)→cvt false h v=some w)→Z3v Tryz.prog Z1n Z1m NN (λv g=>cvt false g v) (nrm (.l 1) (lsz b1 l)) (nrm (.l 1) (lsz b2 al)) []=some w:=λw hw=>by
  rw[show nrm (.l 1) (lsz b1 l)=lsz b1 l from rfl,show nrm (.l 1) (lsz b2 al)=lsz b2 al from rfl];simp -implicitDefEqProofs only[Z3v,ln];exact ZDd hl hal (λv h O=>hw v h O) NN [] l nilS [] rfl (by have:=NN_ge;omega) Gro.nil
 by_cases q:rksN l al=[]
 ·rw[q] at run ⊢
  exact (Zlc (a0:=lsz b1 l) (a1:=lsz b2 al) rfl (run nilS λv h O=>by
   rcases O with ⟨_,rfl⟩ | ⟨q',_⟩
   ·rfl
   ·exact absurd rfl q') h).trans rfl
 ·have qe:(rksN l al).isEmpty=false:=by simpa using q
  rw[show lstZ (rksN l al) = .lst 1 false ((rksN l al).map enL) by rw[lstZ,qe]]
  exact (Zlc (a0:=lsz b1 l) (a1:=lsz b2 al) rfl (run (.lst 1 false ((rksN l al).map enL)) λv h O=>by
   rcases O with ⟨q',_⟩ | ⟨_,k,rfl,hk⟩
   ·exact absurd q' q
   ·exact Z1T (st:=false) (es:=(rksN l al).map enL) (nl:=false) hk (by simp) (by simp) (Z1S λx=>by simp)) h).trans rfl
theorem ZlR(a c:List Int)(b1 b2:Bool)(ha:a.length<100000)(hc:c.length<100000){h:Hp}{k:Nat}(hk:h[k]? = some (.arr 1 [[lsz b1 a],[lsz b2 c]] true false)):Z2s [.sl 1 k 0 2 2 true] h=some (lsz (a++c).isEmpty (a++c),h):=by
 have:=ZD9 [((lsz b1 a:AV),a),(lsz b2 c,c)] false h (x0 := .sl 1 k 0 2 2 true) (by simp only[Z4q,Z4p,Z1T (st:=false) (n:=2) (fr:=2) (full:=true) hk rfl rfl rfl];rfl) (λp hp=>by
  simp only[List.mem_cons,List.not_mem_nil,or_false] at hp;rcases hp with rfl | rfl
  ·exact .inr ⟨b1,rfl⟩
  ·exact .inr ⟨b2,rfl⟩) (by simp) (by simp[total];omega)
 rw[this];have:flat [((lsz b1 a:AV),a),(lsz b2 c,c)]=a++c:=by simp[flat]
 rw[this,SL,Bool.and_self]
def sumR(l:List Int):Int:=l.foldl (λs r=>IntKind.i64.wrap (s+r)) 0
def statR(a c:List Int):Int:=sumR (rksN a (a++c))
theorem ZDe{x0:Kb AV}{l:List Int}{b:Bool}(hl:l.length<1000000)(h:Hp):∀(n:Nat)(pre post:List Int)(s:Int),l=pre++post→post.length<n→
  Z2R Tryz.prog Z1K Z2t NN x0 n (I s) (lsz b l) (I l.length) (I pre.length) h=x0 (I (post.foldl (λs r=>IntKind.i64.wrap (s+r)) s)) h:=by
 intro n;induction n with
 | zero=>intro pre post s _ h2;omega
 | succ n ih=>
  intro pre post s hc hn;show Z59 Tryz.prog Z1K Z2t NN (Z2R Tryz.prog Z1K Z2t NN x0 n) x0 _ _ _ _ h=_
  cases post with
  | nil=>
   have:l=pre:=by simpa using hc
   subst this;have c1:¬((l.length:Int)<(l.length:Int)):=by omega
   simp -implicitDefEqProofs only[Z59,Z05,c1,decide_false,Z02,Bool.false_eq_true,if_false,List.foldl_nil]
  | cons x post=>
   have hx:l[pre.length]? = some x:=by rw[hc];simp
   have hi:pre.length<l.length:=by rw[hc];simp
   have hlt:((pre.length:Int)<(l.length:Int)):=by omega
   have hw:IntKind.i64.wrap ((pre.length:Int)+1)=(((pre++[x]).length:Nat):Int):=by rw[wrap64 (by omega) (by omega)];simp
   have ic:∀k:KV,iaK 1 (lsz b l) (I pre.length) k=k (.ep (enL x) 0):=λk=>Z0s pre.length rfl hx k
   have ld:∀k:KV,ldK 1 false (.ep (enL x) 0) h k=k (I x):=λk=>rfl
   simp -implicitDefEqProofs only[Z59,Z05,hlt,decide_true,Z02,if_true,ic,ld,Z08,hw,List.foldl_cons]
   exact ih (pre++[x]) post _ (by simpa using hc) (by simpa using hn)
theorem ZDf(a c:List Int)(b1 b2:Bool)(ha:a.length<10000)(hc:c.length<10000)(h:Hp):Z6v [lsz b1 a,lsz b2 c] h=some (I (statR a c),h):=by
 refine ZB4 (a0:=lsz b1 a) (a1:=lsz b2 c) rfl ?_ h;rw[show nrm (.l 1) (lsz b1 a)=lsz b1 a from rfl,show nrm (.l 1) (lsz b2 c)=lsz b2 c from rfl];have bs:∀k:Kb AV,effK (bsE 1 [nilS] 2 [(0,lsz b1 a),(1,lsz b2 c)] ([]:Hp).length) [] k=k (.sl 1 0 0 2 2 true) [.arr 1 [[lsz b1 a],[lsz b2 c]] true false]:=λk=>rfl
 have fc:=ZlR a c b1 b2 (by omega) (by omega) (h:=[.arr 1 [[lsz b1 a],[lsz b2 c]] true false]) (k:=0) rfl
 have fk:=ZlQ a (a++c) b1 (a++c).isEmpty (by omega) (by simp;omega)
 have hlen:(rksN a (a++c)).length=a.length:=by simp[rksN]
 have ln:∀k:KV,lenK (lstZ (rksN a (a++c))) k=k (I (rksN a (a++c)).length):=λk=>by rw[Z0b,List.length_map]
 simp -implicitDefEqProofs only[Z5a,bs,ZAZ,ZB0,Z06,fc,fk,ln]
 refine (ZDe (x0:=λw13_5 h=>Z8h Tryz.prog Z1K Z2t NN (λv g=>cvt false g v) w13_5 h) (l:=rksN a (a++c)) (b:=(rksN a (a++c)).isEmpty) (by omega) [.arr 1 [[lsz b1 a],[lsz b2 c]] true false] NN [] (rksN a (a++c)) 0 rfl (by have:=NN_ge;omega)).trans ?_
 rfl
end Go.AM


namespace Go.AM
open Go.Proofs
def cg(a b:Int):Prop:=(18446744073709551616:Int) ∣ a-b
theorem cg.rfl{a:Int}:cg a a:=⟨0,by omega⟩
theorem cg.of_eq{a b:Int}(h:a=b):cg a b:=by subst h;exact cg.rfl
theorem cg.symm{a b:Int}(h:cg a b):cg b a:=by obtain ⟨k,hk⟩:=h;exact ⟨-k,by omega⟩
theorem cg.trans{a b c:Int}(h:cg a b)(h2:cg b c):cg a c:=by obtain ⟨k,hk⟩:=h;obtain ⟨m,hm⟩:=h2;exact ⟨k+m,by omega⟩
theorem cg.add{a b c d:Int}(h:cg a b)(h2:cg c d):cg (a+c) (b+d):=by obtain ⟨k,hk⟩:=h;obtain ⟨m,hm⟩:=h2;exact ⟨k+m,by omega⟩
theorem cg.mul{a b:Int}(h:cg a b)(n:Int):cg (a * n) (b * n):=by
 unfold cg at *
 rw[← Int.sub_mul];exact Int.dvd_mul_of_dvd_left h
theorem Zej(a:Int):cg (IntKind.i64.wrap a) a:=by rw[IntKind.wrap_i64];unfold cg;omega
theorem cg.wrap{a b:Int}(h:cg a b):IntKind.i64.wrap a=IntKind.i64.wrap b:=by rw[IntKind.wrap_i64,IntKind.wrap_i64];unfold cg at h;omega
theorem Zek(a:Int):IntKind.i64.wrap (IntKind.i64.wrap a)=IntKind.i64.wrap a:=(Zej a).wrap
abbrev CM:=List ((Int × Int) × Int)
def sumW(c:CM)(w:Int × Int→Int):Int:=(c.map λe=>e.2 * w e.1).sum
theorem ZlS(w:Int × Int→Int)(p:Int × Int)(x:Int):∀c:CM,sumW (updT c p x) w=sumW c w+(x-cntP c p) * w p
 | []=>by simp[sumW,updT,cntP,fndT]
 | (q,y)::c=>by
  have ih:=ZlS w p x c;unfold sumW cntP at ih ⊢
  simp only[updT,fndT];by_cases e:p=q
  ·subst e
   simp only[if_true,List.map_cons,List.sum_cons,Option.map_some,Option.getD_some];rw[Int.sub_mul];omega
  ·simp only[if_neg e,List.map_cons,List.sum_cons,ih,Option.map_map]
   rw[show ((λx:Nat × Int=>x.2) ∘ λy:Nat × Int=>(y.1+1,y.2))=λx=>x.2 from rfl]
   omega
theorem Zel(w:Int × Int→Int)(p:Int × Int)(n:Int)(c:CM):cg (sumW (updT c p (IntKind.i64.wrap (cntP c p+n))) w) (sumW c w+n * w p):=by
 rw[ZlS];refine cg.add cg.rfl (cg.mul ?_ (w p))
 have:=Zej (cntP c p+n)
 unfold cg at *
 omega
def stpW(A r:Int)(w:Int × Int→Int)(k:Int × Int):Int:=w k+if k.1<A then w (IntKind.i64.wrap (k.1+1),IntKind.i64.wrap (k.2+r)) else 0
def ent1(A r:Int)(d:CM)(k:Int × Int)(n:Int):CM:=
 let d1:=updT d k (IntKind.i64.wrap (cntP d k+n))
 if k.1<A then updT d1 (IntKind.i64.wrap (k.1+1),IntKind.i64.wrap (k.2+r)) (IntKind.i64.wrap (cntP d1 (IntKind.i64.wrap (k.1+1),IntKind.i64.wrap (k.2+r))+n)) else d1
theorem ZDg(A r:Int)(d:CM)(k:Int × Int)(n:Int)(w:Int × Int→Int):cg (sumW (ent1 A r d k n) w) (sumW d w+n * stpW A r w k):=by
 unfold ent1 stpW;dsimp only
 by_cases q:k.1<A
 ·rw[if_pos q,if_pos q]
  refine (Zel w _ n _).trans ?_;rw[Int.mul_add];have:=Zel w k n d;unfold cg at *
  omega
 ·rw[if_neg q,if_neg q,Int.add_zero]
  exact Zel w k n d
theorem ZlT{g:Nat→Int}{j:Nat}:∀{l:List Nat},l.Nodup→j ∈ l→((l.filter λi=>i != j).map g).sum+g j=(l.map g).sum
 | [],_,h=>by simp at h
 | a::l,hn,h=>by
  rw[List.nodup_cons] at hn;by_cases e:a=j
  ·subst e
   have hf:l.filter (λi=>i != a)=l:=List.filter_eq_self.2 λx hx=>by
    have:x≠a:=λhh=>hn.1 (hh ▸ hx)
    simpa using this
   rw[List.filter_cons_of_neg (by simp),hf,List.map_cons,List.sum_cons]
   omega
  ·have hj2:j ∈ l:=(List.mem_cons.1 h).resolve_left λhh=>e hh.symm
   have ih:=ZlT (g:=g) hn.2 hj2;rw[List.filter_cons_of_pos (by simpa using e),List.map_cons,List.sum_cons,List.map_cons,List.sum_cons]
   omega
theorem ZDh{n j:Nat}{seen:List Nat}:leftIt n (seen++[j])=(leftIt n seen).filter λi=>i != j:=by
 unfold leftIt;rw[List.filter_filter]
 congr 1
 funext i
 simp[List.contains_append];by_cases e:i=j<;>simp[e]
theorem ZDi{g:Nat→Int}{n j:Nat}{seen:List Nat}(hj:j ∈ leftIt n seen):((leftIt n (seen++[j])).map g).sum+g j=((leftIt n seen).map g).sum:=by
 rw[ZDh];exact ZlT (List.nodup_range.sublist List.filter_sublist) hj
def restW(c:CM)(seen:List Nat)(w:Int × Int→Int):Int:=((leftIt c.length seen).map λj=>match c[j]? with | some e=>e.2 * w e.1 | none=>0).sum
theorem Zem{c:CM}{seen:List Nat}{j:Nat}{e:(Int × Int) × Int}(hj:j ∈ leftIt c.length seen)(he:c[j]? = some e)(w:Int × Int→Int):restW c seen w=restW c (seen++[j]) w+e.2 * w e.1:=by
 unfold restW;rw[← ZDi (g:=λj=>match c[j]? with | some e=>e.2 * w e.1 | none=>0) hj]
 rw[he]
theorem ZlU{c:CM}{seen:List Nat}(h:leftIt c.length seen=[])(w:Int × Int→Int):restW c seen w=0:=by unfold restW;rw[h];rfl
theorem Zen(w:Int × Int→Int):∀c:CM,restW c [] w=sumW c w:=by
 intro c;unfold restW sumW
 have h0:leftIt c.length []=List.range c.length:=by unfold leftIt;exact List.filter_eq_self.2 λx _=>by simp
 rw[h0];congr 1
 apply List.ext_getElem?
 intro i;rw[List.getElem?_map,List.getElem?_map]
 by_cases hi:i<c.length
 ·rw[List.getElem?_range hi,List.getElem?_eq_getElem hi];simp[hi]
 ·rw[List.getElem?_eq_none (by simpa using hi),List.getElem?_eq_none (by simpa using hi)];rfl
end Go.AM


namespace Go.AM
open Go.Proofs
attribute [local congr] Z0w Z0x Z0y Z0z Z0A Z0B Z0C Z0D Z0E Z0F Z0G Z0H Z0I Z0J Z0K Z0L Z0M Z0N Z0O Z0P Z0Q Z0R Z0S Z0T Z0U Z0V Z0W
theorem twoK:TwoInts Tryz.prog 246 3:=⟨⟨_,Tryz.underlying246,_,_,rfl,rfl,rfl,rfl,rfl,eq_false (by decide),eq_false (by decide)⟩,Tryz.underlying3,by kernel_rfl⟩
theorem bumpK{h:Hp}{id:Nat}{d:CM}(hid:h[id]? = some (.map (kvT fI d)))(a b x:Int):∃(bv:AV)(j:Nat)(c1:CM),
  (∀k:KV,lookK Tryz.prog 246 (I 0) false (.mp id) (.agg [I a,I b]) h k=k (I (cntP d (a,b)))) ∧
  (∀k:AV→Hp→Ent→Option AV,effD (mentE Tryz.prog 246 (I 0) (.mp id) (.agg [I a,I b]) h) h k=k (.tup [bv,.s (.int .i64 j)]) (h.set id (.map (kvT fI c1))) ([id],[id])) ∧
  (∀k:AV→Hp→Ent→Option AV,effD (estE (.mp id) (.s (.int .i64 j)) (I x) (h.set id (.map (kvT fI c1)))) (h.set id (.map (kvT fI c1))) k=k .u (h.set id (.map (kvT fI (updT d (a,b) x)))) ([id],[id])):=by
 obtain ⟨bv,j,c1,h1,h2⟩:=Zly (f:=fI) (h:=h) (id:=id) (c:=d) (p:=(a,b)) (z:=(0:Int)) (x:=x) twoK hid;refine ⟨bv,j,c1,λk => ?_,λk=>Z1e h1 k,λk => ?_⟩
 ·refine (Zlx (z:=I 0) (ok:=false) (p:=(a,b)) (f:=fI) (c:=d) twoK hid k).trans ?_
  unfold cntP;cases fndT d (a,b)<;>rfl
 ·rw[Z1e (h2 _ (getSelfN hid)),List.set_set]
theorem ZDj(A r:Int)(d:CM)(k:Int × Int)(n:Int):(ent1 A r d k n).length≤d.length+2:=by
 unfold ent1;dsimp only
 by_cases q:k.1<A
 ·rw[if_pos q]
  refine Nat.le_trans (Z6G _ _ _) ?_;have:=Z6G d k (IntKind.i64.wrap (cntP d k+n))
  omega
 ·rw[if_neg q]
  have:=Z6G d k (IntKind.i64.wrap (cntP d k+n))
  omega
structure Inv8(mc mn it:Nat)(c d:CM)(seen:List Nat)(h:Hp):Prop where
 hc:h[mc]? = some (.map (kvT fI c))
 hd:h[mn]? = some (.map (kvT fI d))
 hi:h[it]? = some (.iter mc c.length seen)
 n1:mc≠mn
 n2:mc≠it
 n3:mn≠it
set_option maxHeartbeats 4000000 in
theorem at_L8{x2:AV→AV→AV→AV→AV→Kb AV}{X:Option AV}{c:CM}{r:Int}{mc mn it:Nat}{v1 v35 v36 v37:AV}{a:List Int}{b:Bool}{G:(Int × Int→Int)→Int}
  (hx:∀d h,h[mn]? = some (.map (kvT fI d))→d.length≤2 * c.length→(∀w,cg (sumW d w) (G w))→x2 (lsz b a) v1 (.mp mn) v35 v36 v37 h=X):∀(n:Nat)(seen:List Nat)(d:CM)(h:Hp),(leftIt c.length seen).length<n→d.length+2 * (leftIt c.length seen).length≤2 * c.length→Inv8 mc mn it c d seen h→(∀w,cg (sumW d w+restW c seen (stpW a.length r w)) (G w))→
  Z2K Tryz.prog Z0r Z13 NN x2 n (lsz b a) v1 (I r) (.mp mn) v35 v36 v37 (.it it) h=X:=by
 intro n;induction n with
 | zero=>intro seen d h h1;omega
 | succ n ih=>
  intro seen d h h1 hB J hG;obtain ⟨hc,hd,hi,n1,n2,n3⟩:=J
  have hn:(kvT fI c).length=c.length:=by simp[kvT]
  show ZbA Tryz.prog Z0r Z13 NN (Z2K Tryz.prog Z0r Z13 NN x2 n) x2 _ _ _ _ _ _ _ _ h=_;refine ZdT hi hc hn _ (λh0 => ?_) λj hj => ?_
  ·have e0:∀k:KV,exK (.tup [.s (.bool false)]) 0 k=k (B false):=λk=>rfl
   simp -implicitDefEqProofs only[e0,Z02,Bool.false_eq_true,if_false]
   refine hx d h hd (by omega) λw => ?_
   have:=hG w
   rw[ZlU h0,Int.add_zero] at this;exact this
  ·obtain ⟨hjl,hjs⟩:=Z6F.1 hj
   have hlt:=ZdS hj;obtain ⟨e,he⟩:∃e,e=c[j]:=⟨_,rfl⟩;have hcj:c[j]? = some e:=by rw[he];exact List.getElem?_eq_getElem hjl
   obtain ⟨⟨ka,kb⟩,nn⟩:=e;have hkj:(kvT fI c)[j]? = some (keyT (ka,kb),fI nn):=by unfold kvT;rw[List.getElem?_map,hcj];rfl
   obtain ⟨g,hg⟩:∃g,g=h.set it (.iter mc c.length (seen++[j])):=⟨_,rfl⟩;rw[← hg];have gc:g[mc]? = some (.map (kvT fI c)):=by rw[hg];exact getSetN hc (Ne.symm n2)
   have gd:g[mn]? = some (.map (kvT fI d)):=by rw[hg];exact getSetN hd (Ne.symm n3)
   have gi:g[it]? = some (.iter mc c.length (seen++[j])):=by rw[hg];exact getSelfN hi
   have en1:∀k:KV,entryK (.it it) g k=k (.tup [.agg [I ka,I kb],I nn]):=λk=>ZdU gi gc hn hkj k
   have e0:∀k:KV,exK (.tup [.s (.bool true),.u,.u]) 0 k=k (B true):=λk=>rfl
   have x0:∀k:KV,exK (.tup [.agg [I ka,I kb],I nn]) 0 k=k (.agg [I ka,I kb]):=λk=>rfl
   have x1:∀k:KV,exK (.tup [.agg [I ka,I kb],I nn]) 1 k=k (I nn):=λk=>rfl
   obtain ⟨y,hy⟩:∃y,y=g++[AObj.arr 2 [[I ka,I kb]] true false]:=⟨_,rfl⟩;have bx:∀k:Kb AV,effK (boxE 2 (.agg [I 0,I 0]) g.length) g k=k (.ptr g.length 0 0 1) (g++[.arr 2 [[I 0,I 0]] true false]):=λk=>Z0Y 2 g.length (.agg [I 0,I 0]) g k rfl rfl rfl
   have ns:∀k:Kb AV,effK (stE 2 (.ptr g.length 0 0 1) (.agg [I ka,I kb]) (g++[.arr 2 [[I 0,I 0]] true false])) (g++[.arr 2 [[I 0,I 0]] true false]) k=k .u y:=λk=>by
    rw[Z22 (v := .u) (id:=g.length) (o := .arr 2 [[I ka,I kb]] true false) (ft:=[g.length]) (by simp),Z27,hy];rfl
   have yb:y[g.length]? = some (.arr 2 [[I ka,I kb]] true false):=by rw[hy,Z0n];rfl
   have yd:y[mn]? = some (.map (kvT fI d)):=by rw[hy];exact Z07 gd
   have hgl:mn<g.length:=(List.getElem?_eq_some_iff.1 gd).1;have hgi:it<g.length:=(List.getElem?_eq_some_iff.1 gi).1;have hgc:mc<g.length:=(List.getElem?_eq_some_iff.1 gc).1;have lw:∀k:KV,ldK 2 true (.ptr g.length 0 0 1) y k=k (.agg [I ka,I kb]):=λk=>by rw[Z0d,yb];rfl
   obtain ⟨bv,q,c1,k1,k2,k3⟩:=bumpK yd ka kb (IntKind.i64.wrap (cntP d (ka,kb)+nn));obtain ⟨d1,hd1⟩:∃d1,d1=updT d (ka,kb) (IntKind.i64.wrap (cntP d (ka,kb)+nn)):=⟨_,rfl⟩;obtain ⟨y1,hy1⟩:∃y1,y1=y.set mn (.map (kvT fI d1)):=⟨_,rfl⟩;rw[← hd1, ← hy1] at k3;have q1:∀k:KV,exK (.tup [bv,.s (.int .i64 q)]) 1 k=k (.s (.int .i64 q)):=λk=>rfl
   have y1b:y1[g.length]? = some (.arr 2 [[I ka,I kb]] true false):=by rw[hy1];exact getSetN yb (by omega)
   have y1d:y1[mn]? = some (.map (kvT fI d1)):=by rw[hy1];exact getSelfN yd
   have la:∀k:KV,ldK 1 false (.ptr g.length 0 0 1) y1 k=k (I ka):=λk=>by rw[Z0d,y1b];rfl
   have lb:∀k:KV,ldK 1 false (.ptr g.length 0 1 1) y1 k=k (I kb):=λk=>by rw[Z0d,y1b];rfl
   have ln:∀k:KV,lenK (lsz b a) k=k (I a.length):=λk=>by rw[Z0b,List.length_map]
   have keep:∀(d':CM),Inv8 mc mn it c d' (seen++[j]) (y1.set mn (.map (kvT fI d'))):=λd'=>⟨getSetN (by rw[hy1];exact getSetN (by rw[hy];exact Z07 gc) (Ne.symm n1)) (Ne.symm n1),getSelfN y1d,getSetN (by rw[hy1];exact getSetN (by rw[hy];exact Z07 gi) n3) n3,n1,n2,n3⟩
   have hrest:=λw=>Zem hj hcj w
   have hent:=λw=>ZDg a.length r d (ka,kb) nn w
   have hnext:∀w,cg (sumW (ent1 a.length r d (ka,kb) nn) w+restW c (seen++[j]) (stpW a.length r w)) (G w):=λw=>by
    refine cg.trans ?_ (hG w);have h2:=hent w;have h3:=hrest (stpW a.length r w);dsimp only at h3;unfold cg at *
    omega
   have hlen:=ZDj a.length r d (ka,kb) nn;simp -implicitDefEqProofs only[e0,Z02,if_true,en1,x0,x1,bx,ns,lw,k1,Z08,k2,q1,k3,Zba,cond_true,Z0m,Nat.zero_add,la,ln,Z05];by_cases qa:ka<(a.length:Int)
   ·have e1:ent1 a.length r d (ka,kb) nn=updT d1 (IntKind.i64.wrap (ka+1),IntKind.i64.wrap (kb+r)) (IntKind.i64.wrap (cntP d1 (IntKind.i64.wrap (ka+1),IntKind.i64.wrap (kb+r))+nn)):=by
     unfold ent1;dsimp only;rw[if_pos qa, ← hd1]
    obtain ⟨bv2,p,c2,m1,m2,m3⟩:=bumpK y1d (IntKind.i64.wrap (ka+1)) (IntKind.i64.wrap (kb+r)) (IntKind.i64.wrap (cntP d1 (IntKind.i64.wrap (ka+1),IntKind.i64.wrap (kb+r))+nn));rw[← e1] at m3;have q2:∀k:KV,exK (.tup [bv2,.s (.int .i64 p)]) 1 k=k (.s (.int .i64 p)):=λk=>rfl
    have bd:∀k:KV,buildK [I 0,I 0] [(some (0,1),I (IntKind.i64.wrap (ka+1))),(some (1,1),I (IntKind.i64.wrap (kb+r)))] k=k (.agg [I (IntKind.i64.wrap (ka+1)),I (IntKind.i64.wrap (kb+r))]):=λk=>rfl
    simp -implicitDefEqProofs only[qa,decide_true,if_true,Z0m,Nat.zero_add,la,lb,Z08,bd,m1,m2,q2,m3,Zba,cond_true,Z7Q]
    exact ih (seen++[j]) _ _ (by omega) (by omega) (keep _) hnext
   ·have e1:ent1 a.length r d (ka,kb) nn=d1:=by
     unfold ent1;dsimp only;rw[if_neg qa, ← hd1]
    simp -implicitDefEqProofs only[qa,decide_false,Bool.false_eq_true,if_false,Z7Q]
    rw[e1] at hnext hlen;have k0:=keep d1
    rw[Z49 y1d] at k0;exact ih (seen++[j]) d1 y1 (by omega) (by omega) k0 hnext
theorem at_L5{x0:AV→AV→Kb AV}{X:Option AV}{v1:AV}{a rs:List Int}{b b2:Bool}(hrs:rs.length<100000):∀(n:Nat)(pre post:List Int)(mc:Nat)(c:CM)(h:Hp)(W:(Int × Int→Int)→Int),rs=pre++post→post.length<n→h[mc]? = some (.map (kvT fI c))→(∀w,cg (sumW c w) (W w))→c.length * 2 ^ post.length<1000000→
  (∀mc c h,h[mc]? = some (.map (kvT fI c))→(∀w,cg (sumW c w) (W (post.foldr (λr w=>stpW a.length r w) w)))→c.length<1000000→x0 (lsz b a) v1 (.mp mc) h=X)→
  Z2L Tryz.prog Z0r Z13 NN x0 n (lsz b a) v1 (.mp mc) (lsz b2 rs) (I rs.length) (I pre.length) h=X:=by
 intro n;induction n with
 | zero=>intro pre post mc c h W _ h2;omega
 | succ n ih=>
  intro pre post mc c h W hc hn hm hW hM hx;have hcM:c.length<1000000:=Nat.lt_of_le_of_lt (Nat.le_mul_of_pos_right _ (Nat.two_pow_pos _)) hM
  show Z4Z Tryz.prog Z0r Z13 NN (Z2L Tryz.prog Z0r Z13 NN x0 n) x0 _ _ _ _ _ _ h=_;cases post with
  | nil=>
   have:rs=pre:=by simpa using hc
   subst this;have c1:¬((rs.length:Int)<(rs.length:Int)):=by omega
   simp -implicitDefEqProofs only[Z4Z,Z05,c1,decide_false,Z02,Bool.false_eq_true,if_false]
   exact hx mc c h hm hW hcM
  | cons x post=>
   have hx':rs[pre.length]? = some x:=by rw[hc];simp
   have hi:pre.length<rs.length:=by rw[hc];simp
   have hlt:((pre.length:Int)<(rs.length:Int)):=by omega
   have hw:IntKind.i64.wrap ((pre.length:Int)+1)=(((pre++[x]).length:Nat):Int):=by rw[wrap64 (by omega) (by omega)];simp
   have ic:∀k:KV,iaK 1 (lsz b2 rs) (I pre.length) k=k (.ep (enL x) 0):=λk=>Z0s pre.length rfl hx' k
   have ld:∀k:KV,ldK 1 false (.ep (enL x) 0) h k=k (I x):=λk=>rfl
   obtain ⟨g,hg⟩:∃g,g=h++[AObj.map []]:=⟨_,rfl⟩;have e0:∀k:Kb AV,effK (some (.mp h.length,EN (.map []))) h k=k (.mp h.length) g:=λk=>by rw[hg];simp[effK,ap,EN]
   have gm:g[mc]? = some (.map (kvT fI c)):=by rw[hg];exact Z07 hm
   have hn':(kvT fI c).length=c.length:=by simp[kvT]
   obtain ⟨y,hy⟩:∃y,y=g++[AObj.iter mc c.length []]:=⟨_,rfl⟩
   have er:∀k:Kb AV,effK (rngE (.mp mc) g g.length) g k=k (.it g.length) y:=λk=>by
    rw[hy];simp[rngE,gm,effK,ap,hn']
   have hml:mc<h.length:=(List.getElem?_eq_some_iff.1 hm).1;have hgl:g.length=h.length+1:=by rw[hg];simp
   simp -implicitDefEqProofs only[Z4Z,Z05,hlt,decide_true,Z02,if_true,ic,ld,e0,er]
   have hl0:leftIt c.length []=List.range c.length:=by unfold leftIt;exact List.filter_eq_self.2 λx _=>by simp
   refine at_L8 (G:=λw=>W (stpW a.length x w)) (λd h' hd hd0 hd2 => ?_) NN [] [] y (by rw[hl0,List.length_range];have:=NN_ge;omega) (by rw[hl0,List.length_range];simp) ⟨by rw[hy];exact Z07 gm,by rw[hy];exact Z07 (by rw[hg,Z0n];rfl),by rw[hy,Z0n];rfl,by omega,by omega,by omega⟩ (λw=>by
    rw[Zen];refine cg.trans (cg.of_eq ?_) (hW _)
    simp[sumW])
   simp -implicitDefEqProofs only[Z7P,Zh2,Z08,hw]
   exact ih (pre++[x]) post h.length d h' (λw=>W (stpW a.length x w)) (by simpa using hc) (by simpa using hn) hd hd2 (Nat.lt_of_le_of_lt (Nat.mul_le_mul_right _ hd0) (by rw[Nat.mul_comm 2 c.length,Nat.mul_assoc, ← Nat.pow_succ'];exact hM)) hx
def wW(A:Int)(k:Int × Int):Int:=if k.1=A then 1 else 0
def wG(A st:Int)(k:Int × Int):Int:=if k.1=A∧k.2≥st then 1 else 0
theorem Zeo{g n r r' G:Int}(h:cg (g+r) G)(e:r=r'+n * 1):cg (IntKind.i64.wrap (g+n)+r') G:=by
 have:=Zej (g+n)
 unfold cg at *
 omega
theorem Zep{g n r r' G:Int}(h:cg (g+r) G)(e:r=r'+n * 0):cg (g+r') G:=by
 unfold cg at *
 omega
theorem ZlV{g G:Int}(h:cg g G)(w:IntKind.i64.wrap g=g):g=IntKind.i64.wrap G:=by rw[← w];exact h.wrap
set_option maxHeartbeats 4000000 in
theorem at_L3{x4:AV→Kb AV}{X:Option AV}{c:CM}{mc it:Nat}{a:List Int}{b:Bool}{st G W:Int}(n2:mc≠it)
  (hx:∀h,x4 (I (IntKind.i64.wrap G)) (I (IntKind.i64.wrap W)) h=X):∀(n:Nat)(seen:List Nat)(gg ww:Int)(h:Hp),(leftIt c.length seen).length<n→h[mc]? = some (.map (kvT fI c))→h[it]? = some (.iter mc c.length seen)→
  IntKind.i64.wrap gg=gg→IntKind.i64.wrap ww=ww→cg (gg+restW c seen (wG a.length st)) G→cg (ww+restW c seen (wW a.length)) W→
  Z2J Tryz.prog Z0r Z13 NN x4 n (lsz b a) (I st) (I gg) (I ww) (.it it) h=X:=by
 intro n;induction n with
 | zero=>intro seen gg ww h h1;omega
 | succ n ih=>
  intro seen gg ww h h1 hc hi wg wx hG hW;have hn:(kvT fI c).length=c.length:=by simp[kvT]
  show Zbz Tryz.prog Z0r Z13 NN (Z2J Tryz.prog Z0r Z13 NN x4 n) x4 _ _ _ _ _ h=_;refine ZdT hi hc hn _ (λh0 => ?_) λj hj => ?_
  ·have e0:∀k:KV,exK (.tup [.s (.bool false)]) 0 k=k (B false):=λk=>rfl
   simp -implicitDefEqProofs only[e0,Z02,Bool.false_eq_true,if_false]
   rw[ZlU h0,Int.add_zero] at hG hW;rw[ZlV hG wg,ZlV hW wx];exact hx h
  ·obtain ⟨hjl,hjs⟩:=Z6F.1 hj
   have hlt:=ZdS hj;obtain ⟨e,he⟩:∃e,e=c[j]:=⟨_,rfl⟩;have hcj:c[j]? = some e:=by rw[he];exact List.getElem?_eq_getElem hjl
   obtain ⟨⟨ka,kb⟩,nn⟩:=e;have hkj:(kvT fI c)[j]? = some (keyT (ka,kb),fI nn):=by unfold kvT;rw[List.getElem?_map,hcj];rfl
   obtain ⟨g,hg⟩:∃g,g=h.set it (.iter mc c.length (seen++[j])):=⟨_,rfl⟩;rw[← hg];have gc:g[mc]? = some (.map (kvT fI c)):=by rw[hg];exact getSetN hc (Ne.symm n2)
   have gi:g[it]? = some (.iter mc c.length (seen++[j])):=by rw[hg];exact getSelfN hi
   have en1:∀k:KV,entryK (.it it) g k=k (.tup [.agg [I ka,I kb],I nn]):=λk=>ZdU gi gc hn hkj k
   have e0:∀k:KV,exK (.tup [.s (.bool true),.u,.u]) 0 k=k (B true):=λk=>rfl
   have x0:∀k:KV,exK (.tup [.agg [I ka,I kb],I nn]) 0 k=k (.agg [I ka,I kb]):=λk=>rfl
   have x1:∀k:KV,exK (.tup [.agg [I ka,I kb],I nn]) 1 k=k (I nn):=λk=>rfl
   obtain ⟨y,hy⟩:∃y,y=g++[AObj.arr 2 [[I ka,I kb]] true false]:=⟨_,rfl⟩;have bx:∀k:Kb AV,effK (boxE 2 (.agg [I 0,I 0]) g.length) g k=k (.ptr g.length 0 0 1) (g++[.arr 2 [[I 0,I 0]] true false]):=λk=>Z0Y 2 g.length (.agg [I 0,I 0]) g k rfl rfl rfl
   have ns:∀k:Kb AV,effK (stE 2 (.ptr g.length 0 0 1) (.agg [I ka,I kb]) (g++[.arr 2 [[I 0,I 0]] true false])) (g++[.arr 2 [[I 0,I 0]] true false]) k=k .u y:=λk=>by
    rw[Z22 (v := .u) (id:=g.length) (o := .arr 2 [[I ka,I kb]] true false) (ft:=[g.length]) (by simp),Z27,hy];rfl
   have yb:y[g.length]? = some (.arr 2 [[I ka,I kb]] true false):=by rw[hy,Z0n];rfl
   have yc:y[mc]? = some (.map (kvT fI c)):=by rw[hy];exact Z07 gc
   have yi:y[it]? = some (.iter mc c.length (seen++[j])):=by rw[hy];exact Z07 gi
   have la:∀k:KV,ldK 1 false (.ptr g.length 0 0 1) y k=k (I ka):=λk=>by rw[Z0d,yb];rfl
   have lb:∀k:KV,ldK 1 false (.ptr g.length 0 1 1) y k=k (I kb):=λk=>by rw[Z0d,yb];rfl
   have ln:∀k:KV,lenK (lsz b a) k=k (I a.length):=λk=>by rw[Z0b,List.length_map]
   have rG:=Zem hj hcj (wG a.length st);have rW:=Zem hj hcj (wW a.length);dsimp only at rG rW;simp -implicitDefEqProofs only[e0,Z02,if_true,en1,x0,x1,bx,ns,Z0m,Nat.zero_add,la,ln,Z04,Bool.true_xor];by_cases qa:ka=(a.length:Int)
   ·have c1:(!(ka==(a.length:Int)))=false:=by simp[qa]
    have w1:wW a.length (ka,kb)=1:=if_pos qa;rw[w1] at rW;simp -implicitDefEqProofs only[c1,Bool.false_eq_true,if_false,Z08,Z0m,Nat.zero_add,lb,Z75,Z02];by_cases qb:kb≥st
    ·have w2:wG a.length st (ka,kb)=1:=if_pos ⟨qa,qb⟩
     rw[w2] at rG;simp -implicitDefEqProofs only[qb,decide_true,if_true,Z3s];exact ih (seen++[j]) _ _ y (by omega) yc yi (Zek _) (Zek _) (Zeo hG rG) (Zeo hW rW)
    ·have w2:wG a.length st (ka,kb)=0:=if_neg λhh=>qb hh.2
     rw[w2] at rG;simp -implicitDefEqProofs only[qb,decide_false,Bool.false_eq_true,if_false,Z3s];exact ih (seen++[j]) _ _ y (by omega) yc yi wg (Zek _) (Zep hG rG) (Zeo hW rW)
   ·have c1:(!(ka==(a.length:Int)))=true:=by simp[qa]
    have w1:wW a.length (ka,kb)=0:=if_neg qa;have w2:wG a.length st (ka,kb)=0:=if_neg λhh=>qa hh.1
    rw[w1] at rW;rw[w2] at rG;simp -implicitDefEqProofs only[c1,if_true,Z3s];exact ih (seen++[j]) _ _ y (by omega) yc yi wg wx (Zep hG rG) (Zep hW rW)
def dpW(a c:List Int)(w:Int × Int→Int):Int:=((rksN (a++c) (a++c)).foldr (λr w=>stpW a.length r w) w) (0,0)
def atlR(a c:List Int):Int × Int × Int:=if twoR a c=0 then (IntKind.i64.wrap (dpW a c (wG a.length (statR a c))),IntKind.i64.wrap (dpW a c (wW a.length)),0) else (0,0,twoR a c)
theorem ZDk(a c:List Int)(b1 b2:Bool)(hl:a.length+c.length≤14)(h:Hp):Z6w [lsz b1 a,lsz b2 c] h=some (.tup [I (atlR a c).1,I (atlR a c).2.1,I (atlR a c).2.2],h):=by
 unfold atlR;have f2:=ZDb a c b1 b2 (by omega) (by omega)
 have n1:nrm (.l 1) (lsz b1 a)=lsz b1 a:=rfl;have n2:nrm (.l 1) (lsz b2 c)=lsz b2 c:=rfl;by_cases q:twoR a c=0
 ·obtain ⟨rs,hrs⟩:∃rs,rs=rksN (a++c) (a++c):=⟨_,rfl⟩
  have hrl:rs.length=a.length+c.length:=by rw[hrs];simp[rksN]
  have hG:∀w,dpW a c w=(rs.foldr (λr w=>stpW a.length r w) w) (0,0):=λw=>by rw[hrs];rfl
  rw[if_pos q];refine Zle (a0:=lsz b1 a) (a1:=lsz b2 c) rfl ?_ h
  rw[n1,n2];have c1:(!(twoR a c==0))=false:=by simp[q]
  have bs:∀k:Kb AV,effK (bsE 1 [nilS] 2 [(0,lsz b1 a),(1,lsz b2 c)] ([]:Hp).length) [] k=k (.sl 1 0 0 2 2 true) [.arr 1 [[lsz b1 a],[lsz b2 c]] true false]:=λk=>rfl
  have fc:=ZlR a c b1 b2 (by omega) (by omega) (h:=[.arr 1 [[lsz b1 a],[lsz b2 c]] true false]) (k:=0) rfl
  have mk:∀k:Kb AV,effK (some (.mp ([AObj.arr 1 [[lsz b1 a],[lsz b2 c]] true false]:Hp).length,EN (.map []))) [.arr 1 [[lsz b1 a],[lsz b2 c]] true false] k=k (.mp 1) [.arr 1 [[lsz b1 a],[lsz b2 c]] true false,.map []]:=λk=>rfl
  have bd:∀k:KV,buildK [I 0,I 0] [(some (0,1),I 0),(some (1,1),I 0)] k=k (.agg [I 0,I 0]):=λk=>rfl
  have mu:∀k:Kb AV,effK (mupE Tryz.prog 246 (.mp 1) (.agg [I 0,I 0]) (I 1) [.arr 1 [[lsz b1 a],[lsz b2 c]] true false,.map []]) [.arr 1 [[lsz b1 a],[lsz b2 c]] true false,.map []] k=k .u [.arr 1 [[lsz b1 a],[lsz b2 c]] true false,.map (kvT fI [((0,0),1)])]:=λk=>Z18 (ZCq (f:=fI) (c:=[]) (p:=(0,0)) (x:=(1:Int)) (id:=1) (h:=[.arr 1 [[lsz b1 a],[lsz b2 c]] true false,.map []]) twoK rfl) k
  have fk:=ZlQ (a++c) (a++c) (a++c).isEmpty (a++c).isEmpty (by simp;omega) (by simp;omega)
  rw[← hrs] at fk;have ln:∀k:KV,lenK (lstZ rs) k=k (I rs.length):=λk=>by rw[Z0b,List.length_map]
  simp -implicitDefEqProofs only[Z50,Zld,Z06,f2,Z04,Bool.true_xor,c1,Z02,Bool.false_eq_true,if_false,bs,ZB7,fc,mk,bd,mu,ZB8,fk,ln]
  refine at_L5 (a:=a) (rs:=rs) (b:=b1) (b2:=rs.isEmpty) (by omega) NN [] rs 1 [((0,0),1)] _ (λw=>w (0,0)) rfl (by have:=NN_ge;omega) rfl (λw=>cg.of_eq (by simp[sumW])) (by
   have:2 ^ rs.length≤2 ^ 14:=Nat.pow_le_pow_right (by decide) (by omega)
   simp only[List.length_singleton,Nat.one_mul];omega) λmc d g hd hw hdl => ?_
  have fs:=ZDf a c b1 b2 (by omega) (by omega)
  have hn':(kvT fI d).length=d.length:=by simp[kvT]
  have er:∀k:Kb AV,effK (rngE (.mp mc) g g.length) g k=k (.it g.length) (g++[AObj.iter mc d.length []]):=λk=>by
   simp[rngE,hd,effK,ap,hn']
  have hml:mc<g.length:=(List.getElem?_eq_some_iff.1 hd).1;have hl0:leftIt d.length []=List.range d.length:=by unfold leftIt;exact List.filter_eq_self.2 λx _=>by simp
  simp -implicitDefEqProofs only[Z4Y,ZB9,Z06,fs,er]
  exact at_L3 (a:=a) (b:=b1) (by omega) (λh=>rfl) NN [] 0 0 _ (by rw[hl0,List.length_range];have:=NN_ge;omega) (Z07 hd) (by rw[Z0n];rfl) rfl rfl (by rw[Zen,Int.zero_add,hG];exact hw _) (by rw[Zen,Int.zero_add,hG];exact hw _)
 ·rw[if_neg q]
  refine Zle (a0:=lsz b1 a) (a1:=lsz b2 c) rfl ?_ h;rw[n1,n2];have c1:(!(twoR a c==0))=true:=by simp[q]
  simp -implicitDefEqProofs only[Z50,Zld,Z06,f2,Z04,Bool.true_xor,c1,Z02,if_true]
  rfl
theorem ZaA(c:Bool)(id:Int):∀l:List Fnd,(ownF c id l).length+(othF c id l).length=l.length
 | []=>rfl
 | x::l=>by
  have ih:=ZaA c id l;unfold ownF othF at *;simp only[List.length_map,List.filter_cons] at ih ⊢
  cases q:ofF c x==id<;>simp<;>omega
theorem ZDl(l:List Fnd)(by_ id:Int):(ofS l by_ id).1.length+(ofS l by_ id).2.1.length≤l.length:=by
 unfold ofS
 split
 ·simp
 ·split
  ·simp
  ·split
   ·simp
   ·rename_i c _ _
    have:=ZaA c id l
    dsimp only
    omega
def tstR(l:List Fnd)(by_ id:Int):Int × Int × Int:=
 if (ofS l by_ id).2.2≠0 then (0,0,(ofS l by_ id).2.2) else if (ofS l by_ id).2.1=[] then (0,0,9) else atlR (ofS l by_ id).1 (ofS l by_ id).2.1
theorem ZDm(l:List Fnd)(b:Bool)(by_ id:Int)(hl:l.length≤14)(h:Hp):Z6x [SLf b l,I by_,I id] h=some (.tup [I (tstR l by_ id).1,I (tstR l by_ id).2.1,I (tstR l by_ id).2.2],h):=by
 have hp:plains [SLf b l,I by_,I id]=true:=rfl;have hn:nrm (.l 4) (SLf b l)=SLf b l:=rfl;have fo:=Z6H l b by_ id (by omega)
 have hle:=ZDl l by_ id;unfold tstR;generalize ofS l by_ id=o at *;obtain ⟨o1,o2,o3⟩:=o;dsimp only at *;have e0:∀k:KV,exK (.tup [lstZ o1,lstZ o2,I o3]) 0 k=k (lstZ o1):=λk=>rfl
 have e1:∀k:KV,exK (.tup [lstZ o1,lstZ o2,I o3]) 1 k=k (lstZ o2):=λk=>rfl
 have e2:∀k:KV,exK (.tup [lstZ o1,lstZ o2,I o3]) 2 k=k (I o3):=λk=>rfl
 have ln:∀k:KV,lenK (lstZ o2) k=k (I o2.length):=λk=>by rw[Z0b,List.length_map]
 refine ZBi (a0:=SLf b l) (a1:=I by_) (a2:=I id) hp ?_ h;rw[hn];simp -implicitDefEqProofs only[Z7x,ZBd,Z06,fo,e0,e1,e2,Z04,Bool.true_xor,Z02];by_cases q:o3=0
 ·have c1:(!(o3==0))=false:=by simp[q]
  rw[if_neg (show ¬o3≠0 from λhh=>hh q)]
  simp -implicitDefEqProofs only[c1,Bool.false_eq_true,if_false,ln,Z04,Bool.false_xor,Z02]
  by_cases q2:o2=[]
  ·have c2:((o2.length:Int)==0)=true:=by rw[q2];rfl
   rw[if_pos q2];simp -implicitDefEqProofs only[c2,if_true]
   rfl
  ·have c2:((o2.length:Int)==0)=false:=by
    rw[beq_eq_false_iff_ne];have:=List.length_pos_iff.2 q2
    omega
   rw[if_neg q2];have fa:=ZDk o1 o2 o1.isEmpty o2.isEmpty (by omega)
   generalize atlR o1 o2=r at *;have r0:∀k:KV,exK (.tup [I r.1,I r.2.1,I r.2.2]) 0 k=k (I r.1):=λk=>rfl
   have r1:∀k:KV,exK (.tup [I r.1,I r.2.1,I r.2.2]) 1 k=k (I r.2.1):=λk=>rfl
   have r2:∀k:KV,exK (.tup [I r.1,I r.2.1,I r.2.2]) 2 k=k (I r.2.2):=λk=>rfl
   simp -implicitDefEqProofs only[c2,Bool.false_eq_true,if_false,ZBe,Z06,fa,r0,r1,r2]
   rfl
 ·have c1:(!(o3==0))=true:=by simp[q]
  rw[if_pos (show o3≠0 from q)];simp -implicitDefEqProofs only[c1,if_true]
  rfl
theorem ZlW:∀(l:List Fnd)(p:Option Fnd)(n:Nat),(chkF p n l).2=0→∀x ∈ l,badF x=false
 | [],_,_,_,x,hx=>by simp at hx
 | y::l,p,n,h,x,hx=>by
  simp only[chkF] at h;by_cases q:badF y=true
  ·rw[if_pos q] at h;simp at h
  ·rw[if_neg q] at h
   by_cases q2:behF p y=true
   ·rw[if_pos q2] at h;simp at h
   ·rw[if_neg q2] at h
    rcases List.mem_cons.1 hx with rfl | hx
    ·exact Bool.eq_false_iff.2 q
    ·exact ZlW l _ _ h x hx
theorem ZDn{l:List Fnd}(h:rightF l=true):∀x ∈ l,badF x=false:=by
 unfold rightF chkFs at h;by_cases q:24<l.length
 ·rw[if_pos q] at h;simp at h
 ·rw[if_neg q] at h
  exact ZlW l _ _ (by simpa using h)
theorem ZDo{l:List Fnd}(h:rightF l=true)(c:Bool){x:Fnd}(hx:x ∈ l):wfI (ofF c x)=true:=by
 have:=ZDn h x hx
 unfold badF at this;simp only[Bool.or_eq_false_iff,decide_eq_false_iff_not] at this
 have hb:1≤ofF c x∧ofF c x≤1073741824:=by cases c<;>simp only[ofF,cond_true,cond_false]<;>omega
 have h1:IntKind.i64.min = -9223372036854775808:=by decide
 have h2:IntKind.i64.max=9223372036854775807:=by decide
 unfold wfI;simp[Lit.wf]
 omega
theorem ZlX:∀(a b:List Int),a.Nodup→(∀x ∈ a,x ∈ b)→a.length≤b.length
 | [],b,_,_=>Nat.zero_le _
 | x::a,b,hn,hs=>by
  rw[List.nodup_cons] at hn;have hx:x ∈ b:=hs x (by simp)
  have:=ZlX a (b.erase x) hn.2 λy hy=>(List.mem_erase_of_ne (λhh=>hn.1 (by rw[← hh];exact hy))).2 (hs y (by simp[hy]))
  rw[List.length_erase_of_mem hx] at this;have:=List.length_pos_of_mem hx
  simp only[List.length_cons]
  omega
theorem ZlY:∀m:List (Int × AV),(kvA m).mapM (λe=>keyI e.1)=some (m.map (·.1))
 | []=>rfl
 | (q,x)::m=>by
  have ih:=ZlY m;have e:kvA ((q,x)::m)=(Value.int .i64 q,x)::kvA m:=rfl;rw[e,List.mapM_cons,ih]
  rfl
def susO(l:List Fnd)(by_ gr wh x:Int):Bool:=(tstR l by_ x).2.2==0&&decide (IntKind.i64.wrap ((tstR l by_ x).1 * wh)≤IntKind.i64.wrap ((tstR l by_ x).2.1 * gr))
theorem ZDp{x1:Kb AV}{X:Option AV}{l:List Fnd}{ks:List Int}{b b2:Bool}{by_ gr wh:Int}(hl:l.length≤14)(hk:ks.length<100000)(hx:∀v h,Gro 1 enL h v (ks.filter (susO l by_ gr wh))→x1 v h=X):∀(n:Nat)(pre post:List Int)(v:AV)(h:Hp),ks=pre++post→post.length<n→Gro 1 enL h v (pre.filter (susO l by_ gr wh))→
  Z2z Tryz.prog Z11 Z21 NN x1 n (SLf b l) (I by_) (I gr) (I wh) v (lsz b2 ks) (I ks.length) (I pre.length) h=X:=by
 intro n;induction n with
 | zero=>intro pre post v h _ h2;omega
 | succ n ih=>
  intro pre post v h hc hn G;show Z4v Tryz.prog Z11 Z21 NN (Z2z Tryz.prog Z11 Z21 NN x1 n) x1 _ _ _ _ _ _ _ _ h=_
  cases post with
  | nil=>
   have:ks=pre:=by simpa using hc
   subst this;have c1:¬((ks.length:Int)<(ks.length:Int)):=by omega
   simp -implicitDefEqProofs only[Z4v,Z05,c1,decide_false,Z02,Bool.false_eq_true,if_false]
   exact hx v h G
  | cons x post=>
   have hx:ks[pre.length]? = some x:=by rw[hc];simp
   have hi:pre.length<ks.length:=by rw[hc];simp
   have hlt:((pre.length:Int)<(ks.length:Int)):=by omega
   have hw:IntKind.i64.wrap ((pre.length:Int)+1)=(((pre++[x]).length:Nat):Int):=by rw[wrap64 (by omega) (by omega)];simp
   have ic:∀k:KV,iaK 1 (lsz b2 ks) (I pre.length) k=k (.ep (enL x) 0):=λk=>Z0s pre.length rfl hx k
   have ld:∀k:KV,ldK 1 false (.ep (enL x) 0) h k=k (I x):=λk=>rfl
   have ft:=ZDm l b by_ x hl;have hs:susO l by_ gr wh x=((tstR l by_ x).2.2==0&&decide (IntKind.i64.wrap ((tstR l by_ x).1 * wh)≤IntKind.i64.wrap ((tstR l by_ x).2.1 * gr))):=rfl;generalize tstR l by_ x=r at ft hs;have r0:∀k:KV,exK (.tup [I r.1,I r.2.1,I r.2.2]) 0 k=k (I r.1):=λk=>rfl
   have r1:∀k:KV,exK (.tup [I r.1,I r.2.1,I r.2.2]) 1 k=k (I r.2.1):=λk=>rfl
   have r2:∀k:KV,exK (.tup [I r.1,I r.2.1,I r.2.2]) 2 k=k (I r.2.2):=λk=>rfl
   simp -implicitDefEqProofs only[Z4v,Z05,hlt,decide_true,Z02,if_true,ic,ld,ZBo,Z06,ft,r0,r1,r2,Z04,Bool.false_xor,Zg2,Z74,Zb4]
   rw[← hs];cases q:susO l by_ gr wh x with
   | false=>
    simp -implicitDefEqProofs only[Bool.false_eq_true,if_false,Z7c,Zbd,Z08,hw]
    exact ih (pre++[x]) post v h (by simpa using hc) (by simpa using hn) (by rw[List.filter_append,List.filter_cons_of_neg (by simp[q]),List.filter_nil,List.append_nil];exact G)
   | true=>
    obtain ⟨y2,hy2⟩:∃y2,y2=h++[AObj.arr 1 [[I x]] true false]:=⟨_,rfl⟩;have bs:∀k:Kb AV,effK (bsE 1 [I 0] 1 [(0,I x)] h.length) h k=k (.sl 1 h.length 0 1 1 true) y2:=λk=>by rw[hy2];simp[bsE,fillS,effK,ap]
    have hv:idOf v≠some h.length:=λhh=>by have:=G.lt hh;omega
    have hlen:(pre.filter (susO l by_ gr wh)).length≤pre.length:=List.length_filter_le _ _;obtain ⟨v',h',e1,e2,-⟩:=Gro.snoc AV (sz:=1) (f:=enL) (h:=y2) (v:=v) (l:=pre.filter (susO l by_ gr wh)) (by rw[hy2];exact G.app _) (by_:=8) (m:=h.length) (z:=x) (b:=true) (by rw[hy2,Z0n];rfl) hv (λ_ _=>rfl) (by omega)
    simp -implicitDefEqProofs only[if_true,bs,e1,Z7c,Zbd,Z08,hw]
    exact ih (pre++[x]) post v' h' (by simpa using hc) (by simpa using hn) (by rw[List.filter_append,List.filter_cons_of_pos (by simp[q]),List.filter_nil];exact e2)
theorem ZDq(l:List Fnd)(b:Bool)(by_ gr wh:Int)(hl:l.length≤14):∃(s:List Int)(e:Int),(e≠0→s=[])∧(e=0→rightF l=true)∧s.length≤l.length∧(∀i ∈ s,∃c,whoB by_=some c∧∃y ∈ l,ofF c y=i)∧∀h,Z37 [SLf b l,I by_,I gr,I wh] h=some (.tup [lstZ s,I e],h):=by
 have hp:plains [SLf b l,I by_,I gr,I wh]=true:=rfl;have fr:=ZlB l b (by omega)
 have fw:=Zeh by_;have hn:nrm (.l 4) (SLf b l)=SLf b l:=rfl
 have err:∀e:Int,Z1o Tryz.prog Z11 Z21 NN (λv g=>cvt false g v) (SLf b l) (I by_) (I gr) (I wh) []=some (.tup [nilS,I e])→∀h,Z37 [SLf b l,I by_,I gr,I wh] h=some (.tup [lstZ [],I e],h):=λe he h=>
  (Zlg (a0:=SLf b l) (a1:=I by_) (a2:=I gr) (a3:=I wh) hp (by rw[hn];exact he) h).trans rfl
 cases hr:rightF l with
 | false=>
  rw[hr] at fr;refine ⟨[],1,λ_=>rfl,λhh=>by simp at hh,by simp,by simp,err 1 ?_⟩
  simp -implicitDefEqProofs only[Z1o,Zab,Zac,Z06,fw,fr,Z0q,Bool.not_false,Z02,if_true]
  rfl
 | true=>
  rw[hr] at fr;cases hb:whoB by_ with
  | none=>
   rw[hb] at fw;refine ⟨[],2,λ_=>rfl,λhh=>by simp at hh,by simp,by simp,err 2 ?_⟩
   have e1:=λh (k:KV)=>ZlJ false h k
   simp -implicitDefEqProofs only[Z1o,Zab,Zac,Z06,fw,fr,Z0q,Bool.not_true,Z02,Bool.false_eq_true,if_false,whoV,e1,Bool.not_false,Z05,Z14,Z26,Bool.true_or,if_true]
   rfl
  | some c=>
   rw[hb] at fw;have e1:=λh (k:KV)=>ZlI false c h k
   cases qq:((decide (wh<1)||decide (wh > 1000000))||decide (gr<0))||decide (gr > wh) with
   | true=>
    refine ⟨[],2,λ_=>rfl,λhh=>by simp at hh,by simp,by simp,err 2 ?_⟩
    simp -implicitDefEqProofs only[Z1o,Zab,Zac,Z06,fw,fr,Z0q,Bool.not_true,Z02,Bool.false_eq_true,if_false,whoV,e1,Z05,Z14,Z26,Bool.false_or,qq,if_true]
    rfl
   | false=>
    obtain ⟨h',m,eg0,G0⟩:=ZlH l b c (by omega) []
    have eg:Z1W [SLf b l,fvW c] []=some (.mp 0,h'):=eg0;have G:GrM c l 0 h' m:=G0;have bx:∀k:AV→Hp→Option (AV × Hp),effK (boxE 1 (.mp 0) h'.length) h' k=k (.ptr h'.length 0 0 1) (h'++[.arr 1 [[.mp 0]] true false]):=λk=>Z0Y 1 h'.length (.mp 0) h' k rfl rfl rfl
    have fk:Z6r [.mp 0] h'=some (.fn 90 [.ptr h'.length 0 0 1],h'++[.arr 1 [[.mp 0]] true false]):=by
     rw[ZAv];simp -implicitDefEqProofs only[Z7v,bx]
    obtain ⟨y,hy⟩:∃y,y=h'++[AObj.arr 1 [[.mp 0]] true false]:=⟨_,rfl⟩;rw[← hy] at fk;have hkm:∀i ∈ m.map (·.1),∃x ∈ l,ofF c x=i:=λi hi=>(G.keys.2 i).1 hi
    have hml:(m.map (·.1)).length≤l.length:=by
     have:=ZlX (m.map (·.1)) (l.map (ofF c)) G.keys.1 λi hi=>by
      obtain ⟨x,hx,e⟩:=hkm i hi;exact List.mem_map.2 ⟨x,hx,e⟩
     simpa using this
    obtain ⟨ks,hks⟩:∃ks,ks=(m.map (·.1)).mergeSort leI:=⟨_,rfl⟩
    have hkl:ks.length=(m.map (·.1)).length:=by rw[hks,List.length_mergeSort]
    have fs:Z9Y [.fn 90 [.ptr h'.length 0 0 1]] y=some (lsz (m.map (·.1)).isEmpty ks,y):=by
     rw[hks]
     exact ZqX (h:=y) (g:=90) (b:=h'.length) (id:=0) (nil:=false) (kvs:=kvA m) (ks:=m.map (·.1)) (by rw[hy,Z0n];rfl) (by rw[hy];exact Z07 G.at_) (ZlY m) G.keys.1 (List.all_eq_true.2 λi hi=>by
      obtain ⟨x,hx,e⟩:=hkm i hi;rw[← e];exact ZDo hr c hx) (by omega)
    have ln:∀k:KV,lenK (lsz (m.map (·.1)).isEmpty ks) k=k (I ks.length):=λk=>by rw[Z0b,List.length_map]
    refine ⟨ks.filter (susO l by_ gr wh),0,λh=>absurd rfl h,λ_=>rfl,Nat.le_trans (List.length_filter_le _ _) (by omega),λi hi=>⟨c,rfl,hkm i (by
     have:=(List.mem_filter.1 hi).1
     rw[hks] at this;exact List.mem_mergeSort.1 this)⟩, ?_⟩
    have body:∀w:AV,(∀v h,Gro 1 enL h v (ks.filter (susO l by_ gr wh))→cvt false h (.tup [v,I 0])=some w)→Z1o Tryz.prog Z11 Z21 NN (λv g=>cvt false g v) (SLf b l) (I by_) (I gr) (I wh) []=some w:=λw hw=>by
     simp -implicitDefEqProofs only[Z1o,Zab,Zac,ZBn,ZBm,ZBl,Z06,fw,fr,Z0q,Bool.not_true,Z02,Bool.false_eq_true,if_false,whoV,e1,Z05,Z14,Z26,Bool.false_or,qq,eg,fk,fs,ln]
     exact ZDp (l:=l) (ks:=ks) (b:=b) hl (by omega) (λv h O=>hw v h O) NN [] ks nilS y rfl (by have:=NN_ge;omega) Gro.nil
    by_cases q:ks.filter (susO l by_ gr wh)=[]
    ·rw[q] at body ⊢
     refine err 0 (body _ λv h O => ?_)
     rcases O with ⟨_,rfl⟩ | ⟨q',_⟩
     ·rfl
     ·exact absurd rfl q'
    ·generalize ks.filter (susO l by_ gr wh)=s at *
     intro h
     refine (Zlg (a0:=SLf b l) (a1:=I by_) (a2:=I gr) (a3:=I wh) (v := .tup [.lst 1 false (s.map enL),I 0]) hp (by
      rw[hn];refine body _ λv h O => ?_
      obtain ⟨k,rfl,hk⟩:∃k,v = .sl 1 k 0 s.length s.length false∧h[k]? = some (.arr 1 (s.map enL) true false):=by
       rcases O with ⟨q',_⟩ | ⟨_,k,r1,r2⟩
       ·exact absurd q' q
       ·exact ⟨k,r1,r2⟩
      simp only[Z77,Z4q,Z4p,cvt_s];rw[Z1T (st:=false) (es:=s.map enL) (nl:=false) hk (by simp) (by simp) (Z1S λx=>by simp)]
      rfl) h).trans ?_
     have:s.isEmpty=false:=by simpa using q
     show _=some (AV.tup [.lst 1 s.isEmpty _,_],h);rw[this];rfl
end Go.AM
end
