import Derived.Test.YtgmfphialjcpcaaG5
import Derived.Lib.Mul64
set_option linter.unusedSectionVars false
set_option linter.unusedVariables false
set_option linter.unusedSimpArgs false
set_option linter.constructorNameAsVariable false
namespace Go.AM
open Go.Proofs
set_option linter.unusedVariables false
set_option linter.unusedSimpArgs false
set_option linter.constructorNameAsVariable false
set_option maxRecDepth 20000
attribute [local congr] Z0e Z0f Z0g Z0h Z0i Z0j Z0k Z0l Z0m Z0n Z0o Z0p Z0q Z0r Z0s Z0t Z0u Z0v Z0w Z0x Z0y Z0z Z0A Z0B Z0C Z0D Z0E
structure Envl where
 frm:Int
 to:Int
 num:Int
 msg:Msg
deriving DecidableEq
def encV (e:Envl):List AV:=[I e.frm,I e.to,I e.num,I e.msg.mv,I e.msg.kind,I e.msg.num,I e.msg.day,I e.msg.frm,I e.msg.to,I e.msg.alc]
abbrev zE:List AV:=[I 0,I 0,I 0,I 0,I 0,I 0,I 0,I 0,I 0,I 0]
section
variable {β:Type}
theorem nbx {h:Hp} (k:AV→Hp→Option β):effK (boxE 10 (.agg zE) h.length) h k=k (.ptr h.length 0 0 1) (h++[.arr 10 [zE] true false]):=Z12 10 h.length (.agg zE) h k rfl rfl rfl
theorem nst {h:Hp} {m:Envl} (k:AV→Hp→Option β):effK (stE 10 (.ptr h.length 0 0 1) (.agg (encV m)) (h++[.arr 10 [zE] true false])) (h++[.arr 10 [zE] true false]) k=k .u (h++[.arr 10 [encV m] true false]):=by
 rw [Z0F (v := .u) (id:=h.length) (o := .arr 10 [encV m] true false) (ft:=[h.length]) (by simp [encV]),Z3f];rfl
theorem nl0 {h:Hp} {m:Envl} (k:Go.AM.K β):ldK 1 false (.ptr h.length 0 0 1) (h++[.arr 10 [encV m] true false]) k=k (I m.frm):=by simp [encV]
theorem nl1 {h:Hp} {m:Envl} (k:Go.AM.K β):ldK 1 false (.ptr h.length 0 1 1) (h++[.arr 10 [encV m] true false]) k=k (I m.to):=by simp [encV]
theorem nl2 {h:Hp} {m:Envl} (k:Go.AM.K β):ldK 1 false (.ptr h.length 0 2 1) (h++[.arr 10 [encV m] true false]) k=k (I m.num):=by simp [encV]
theorem nl3 {h:Hp} {m:Envl} (k:Go.AM.K β):ldK 7 true (.ptr h.length 0 3 1) (h++[.arr 10 [encV m] true false]) k=k (.agg (encM m.msg)):=by simp [encV,encM]
theorem nlw {h:Hp} {m:Envl} (k:Go.AM.K β):ldK 10 true (.ptr h.length 0 0 1) (h++[.arr 10 [encV m] true false]) k=k (.agg (encV m)):=by simp [encV]
end
def rangeE (e:Envl):Bool:=decide (e.frm<1)||decide (99<e.frm)||decide (e.to<1)||decide (99<e.to)||decide (e.num<1)||decide (1073741824<e.num)
def formE (e:Envl):Int:=if rangeE e=true then 2 else if e.frm=e.to then 10 else if checkM e.msg≠0 then 1 else 0
abbrev fU:Unit→AV:=fun _=>B true
theorem twoN:TwoInts Try.prog 116 3:=⟨⟨_,Try.underlying116,_,_,rfl,rfl,rfl,rfl,rfl,eq_false (by decide),eq_false (by decide)⟩,Try.underlying3,by kernel_rfl⟩
def chkE:List ((Int × Int) × Unit)→Nat→List Envl→Int × Int
 | _,_,[]=>(-1,0)
 | c,i,x::l=>if formE x≠0 then ((i:Int),formE x) else if (fndT c (x.frm,x.num)).isSome=true then ((i:Int),6) else chkE (updT c (x.frm,x.num) ()) (i+1) l
def chkS (l:List Envl):Int × Int:=if 64<l.length then (-1,8) else chkE [] 0 l
theorem ZvR {T:Tab} {D:DTab} {N:Nat} {x0:Hp→Option AV} {xr:AV→AV→Hp→Option AV} {X:Int × Int→Option AV} {l:List Envl} {b:Bool} (hT:T 76=some Z26) (hl:l.length<1000000) (h0:∀h,x0 h=X (-1,0)) (hr:∀(i e:Int) h,xr (I i) (I e) h=X (i,e)):∀(n:Nat) (pre post:List Envl) (c:List ((Int × Int) × Unit)) (h:Hp),l=pre++post→post.length<n→h[0]? = some (.map (kvT fU c))→
  Z3J Try.prog T D N x0 xr n (.mp 0) (.lst 10 b (l.map encV)) (I l.length) (I pre.length) h=X (chkE c pre.length post):=by
 intro n
 induction n with
 | zero=>intro pre post c h _ h2;omega
 | succ n ih=>
  intro pre post c h hc hn hm
  show Z6S Try.prog T D N (Z3J Try.prog T D N x0 xr n) x0 xr _ _ _ _ h=_
  cases post with
  | nil=>
   have:l=pre:=by simpa using hc
   subst this
   have c1:¬((l.length:Int)<(l.length:Int)):=by omega
   simp -implicitDefEqProofs only [Z6S,Z08,c1,decide_false,Z00,Bool.false_eq_true,if_false]
   exact h0 h
  | cons x post=>
   have hi:pre.length<l.length:=by rw [hc];simp
   have hx:l[pre.length]? = some x:=by rw [hc];simp
   have hlt:((pre.length:Int)<(l.length:Int)):=by omega
   have hw:IntKind.i64.wrap ((pre.length:Int)+1)=(((pre++[x]).length:Nat):Int):=by rw [wrap64 (by omega) (by omega)];simp
   have ic:∀k:Go.AM.K AV,iaK 10 (.lst 10 b (l.map encV)) (I pre.length) k=k (.ep (encV x) 0):=fun k=>Z0P pre.length rfl hx k
   have ld:∀k:Go.AM.K AV,ldK 10 true (.ep (encV x) 0) h k=k (.agg (encV x)):=fun k=>rfl
   obtain ⟨h1,hh1⟩:∃h1,h1=h++[AObj.arr 10 [encV x] true false]:=⟨_,rfl⟩
   have hm1:h1[0]? = some (.map (kvT fU c)):=by rw [hh1];exact Z09 hm
   have m0:∀k:Go.AM.K AV,ldK 1 false (.ptr h.length 0 0 1) h1 k=k (I x.frm):=fun k=>by rw [hh1];exact nl0 k
   have m1:∀k:Go.AM.K AV,ldK 1 false (.ptr h.length 0 1 1) h1 k=k (I x.to):=fun k=>by rw [hh1];exact nl1 k
   have m2:∀k:Go.AM.K AV,ldK 1 false (.ptr h.length 0 2 1) h1 k=k (I x.num):=fun k=>by rw [hh1];exact nl2 k
   have m3:∀k:Go.AM.K AV,ldK 7 true (.ptr h.length 0 3 1) h1 k=k (.agg (encM x.msg)):=fun k=>by rw [hh1];exact nl3 k
   have bd:∀k:Go.AM.K AV,buildK [.s (.int .i64 0), .s (.int .i64 0)] [(some (0,1),I x.frm),(some (1,1),I x.num)] k=k (keyA (x.frm,x.num)):=fun k=>rfl
   have lk:∀k:Go.AM.K AV,lookK Try.prog 116 (.s (.bool false)) false (.mp 0) (keyA (x.frm,x.num)) h1 k=k (B (fndT c (x.frm,x.num)).isSome):=fun k=>by
    rw [Zi4 (p:=(x.frm,x.num)) (f:=fU) (c:=c) twoN hm1]
    cases fndT c (x.frm,x.num)<;>rfl
   have mu:∀k:AV→Hp→Option AV,effK (mupE Try.prog 116 (.mp 0) (keyA (x.frm,x.num)) (.s (.bool true)) h1) h1 k=k .u (h1.set 0 (.map (kvT fU (updT c (x.frm,x.num) ())))):=fun k=>
    Z0F (ZvL (p:=(x.frm,x.num)) (f:=fU) (x:=()) (c:=c) twoN hm1) k
   have fd:=Zdk x.msg
   have ns:∀k:AV→Hp→Option AV,effK (stE 10 (.ptr h.length 0 0 1) (.agg (encV x)) (h++[.arr 10 [zE] true false])) (h++[.arr 10 [zE] true false]) k=k .u h1:=fun k=>by rw [hh1];exact nst k
   have rg:((((decide (x.frm<1)||decide (x.frm > 99))||decide (x.to<1))||decide (x.to > 99))||decide (x.num<1)||decide (x.num > 1073741824))=rangeE x:=rfl
   simp -implicitDefEqProofs only [Z6S,Z08,hlt,decide_true,Z00,if_true,ic,ld,nbx,ns,Z07,Nat.zero_add,m0,m1,m2,m3,Z0L,Z0M,rg,Z06,Bool.false_xor,Bool.true_xor,hT,Z03,fd,bd,lk,mu,Z0I,hw,hr]
   have ih1:=ih (pre++[x]) post (updT c (x.frm,x.num) ()) (h1.set 0 (.map (kvT fU (updT c (x.frm,x.num) ())))) (by simpa using hc) (by simpa using hn) (List.getElem?_set_self (List.getElem?_eq_some_iff.1 hm1).1)
   rw [show (pre++[x]).length=pre.length+1 by simp] at ih1 ⊢
   simp only [chkE]
   cases hrg:rangeE x with
   | true=>simp [formE,hrg]
   | false=>
    by_cases e1:x.frm=x.to
    ·simp [formE,hrg,e1]
    ·by_cases e2:checkM x.msg=0
     ·cases e3:(fndT c (x.frm,x.num)).isSome with
      | true=>simp [formE,hrg,e1,e2]
      | false=>
       simp [formE,hrg,e1,e2]
       simpa using ih1
     ·simp [formE,hrg,e1,e2]
def tupP (r:Int × Int):AV := .tup [I r.1,I r.2]
theorem ZvS (l:List Envl) (b:Bool) (hl:l.length<1000000) (h:Hp):Z4r [.lst 10 b (l.map encV)] h=some (tupP (chkS l),h):=by
 refine ZqG (a0 := .lst 10 b (l.map encV)) (v:=tupP (chkS l)) rfl ?_ h
 unfold chkS
 simp only [nrm,nrmC]
 simp -implicitDefEqProofs only [Z6T,Z0d,List.length_map,Z0L,Z00]
 by_cases h64:64<l.length
 ·have c:(l.length:Int) > 64:=by omega
  simp only [c,decide_true,if_true,if_pos h64]
  rfl
 ·have c:¬(l.length:Int) > 64:=by omega
  have em:∀k:AV→Hp→Option AV,effK (some (.mp ([]:Hp).length,EN (.map []))) [] k=k (.mp 0) [.map []]:=fun k=>rfl
  simp only [c,decide_false,Bool.false_eq_true,if_false,if_neg h64,em]
  exact ZvR (X:=fun r=>some (tupP r)) rfl hl (fun h=>rfl) (fun i e h=>rfl) NN [] l [] [.map []] rfl (by have:=NN_ge;omega) rfl
end Go.AM


namespace Go.AM
open Go.Proofs
set_option linter.unusedVariables false
set_option linter.unusedSimpArgs false
set_option linter.constructorNameAsVariable false
set_option maxRecDepth 20000
attribute [local congr] Z0e Z0f Z0g Z0h Z0i Z0j Z0k Z0l Z0m Z0n Z0o Z0p Z0q Z0r Z0s Z0t Z0u Z0v Z0w Z0x Z0y Z0z Z0A Z0B Z0C Z0D Z0E
section
variable {β:Type} {P:Program} {T:Tab} {D:DTab} {N:Nat} {K:AV→Hp→Option β}
end
end Go.AM


namespace Go.AM
open Go.Proofs
set_option linter.unusedVariables false
set_option linter.unusedSimpArgs false
set_option linter.constructorNameAsVariable false
set_option maxRecDepth 20000
attribute [local congr] Z0e Z0f Z0g Z0h Z0i Z0j Z0k Z0l Z0m Z0n Z0o Z0p Z0q Z0r Z0s Z0t Z0u Z0v Z0w Z0x Z0y Z0z Z0A Z0B Z0C Z0D Z0E
theorem ZvT {h:Hp} {g:List AObj} {id:Nat} {x o:AObj} (hid:h[id]? = some x):(h++g).set id o=h.set id o++g:=by
 rw [List.set_append_left _ _ (List.getElem?_eq_some_iff.1 hid).1]
theorem beginN {β:Type} {h:Hp} {g:List AObj} {L m:Nat} {ps:Array Tmp} {asg body:Code} {ts:Tm} {pend:Option Code} (hL:h[L]? = some (.loop m ps asg body ts .ready pend)) (k:Hp→Option β):
  beginX L m ps asg body ts (h++g) k=k (h.set L (.loop m ps asg body ts .busy pend)++g):=by
 unfold beginX
 rw [Z09 hL]
 simp only
 rw [ZvT hL]
theorem getSetN {h:Hp} {i j:Nat} {x o:AObj} (hj:h[j]? = some x) (hij:i≠j):(h.set i o)[j]? = some x:=by rw [List.getElem?_set_ne hij];exact hj
theorem getSelfN {h:Hp} {i:Nat} {x o:AObj} (hi:h[i]? = some x):(h.set i o)[i]? = some o:=List.getElem?_set_self (List.getElem?_eq_some_iff.1 hi).1
end Go.AM


namespace Go.AM
open Go.Proofs
set_option linter.unusedVariables false
set_option linter.unusedSimpArgs false
set_option linter.constructorNameAsVariable false
set_option maxRecDepth 20000
attribute [local congr] Z0e Z0f Z0g Z0h Z0i Z0j Z0k Z0l Z0m Z0n Z0o Z0p Z0q Z0r Z0s Z0t Z0u Z0v Z0w Z0x Z0y Z0z Z0A Z0B Z0C Z0D Z0E
theorem ZvU {β:Type} {T:Tab} {F:Fun} {f:FuncId} {caps:List AV} {h h':Hp} {m:Nat} {ps:Array Tmp} {asg body:Code} {ts:Tm} {v:AV} {pend:Option Code} {k:Option Code→Hp→Option β} (hT:T f=some F) (hF:F (.yl h.length::caps) (h++[.loop m ps asg body ts .ready none])=some (v,h')) (hl:h'[h.length]? = some (.loop m ps asg body ts .ready pend)):
  rangeX T (.fn f caps) m ps asg body ts h k=k pend (h'.set h.length (.loop m ps asg body ts .exhausted pend)):=by
 unfold rangeX
 simp only [hT,Z03,hF,hl]
end Go.AM


namespace Go.AM
open Go.Proofs
set_option linter.unusedVariables false
set_option linter.unusedSimpArgs false
set_option linter.constructorNameAsVariable false
set_option maxRecDepth 20000
attribute [local congr] Z0e Z0f Z0g Z0h Z0i Z0j Z0k Z0l Z0m Z0n Z0o Z0p Z0q Z0r Z0s Z0t Z0u Z0v Z0w Z0x Z0y Z0z Z0A Z0B Z0C Z0D Z0E
section
variable {β:Type} {P:Program} {kt:TypeId}
end
end Go.AM


namespace Go.AM
open Go.Proofs
set_option linter.unusedVariables false
set_option linter.unusedSimpArgs false
set_option linter.constructorNameAsVariable false
set_option maxRecDepth 20000
attribute [local congr] Z0e Z0f Z0g Z0h Z0i Z0j Z0k Z0l Z0m Z0n Z0o Z0p Z0q Z0r Z0s Z0t Z0u Z0v Z0w Z0x Z0y Z0z Z0A Z0B Z0C Z0D Z0E
theorem Kept.trans {h h1 h2:Hp} {k:Nat} (a:Kept h h1 k) (b:Kept h1 h2 k):Kept h h2 k:=⟨by have:=a.len;have:=b.len;omega,fun j h1 h2=>by rw [b.same j h1 (by have:=a.len;omega),a.same j h1 h2]⟩
end Go.AM


namespace Go.AM
open Go.Proofs
set_option linter.unusedVariables false
set_option linter.unusedSimpArgs false
set_option linter.constructorNameAsVariable false
set_option maxRecDepth 20000
section
variable {β:Type} {P:Program} {T:Tab} {D:DTab} {N:Nat} {K:AV→Hp→Option β}
theorem ZvV {T:Tab} {D:DTab} {N:Nat} {x0:Hp→Option β} {xr:AV→Hp→Option β} {l:List Msg} {b:Bool} {v:Msg} {h:Hp} {m:Nat} (hm:h[m]? = some (.arr 7 [encM v] true false)) (hl:l.length<4611686018427387904) (heq:∀(x y:Msg) (h:Hp) (k:Go.AM.K β),eqK Try.prog false 27 (.agg (encM x)) (.agg (encM y)) h k=k (B (x==y))):
  ∀(n i:Nat),i≤l.length→l.length<i+n→Z3R Try.prog T D N x0 xr n (.lst 7 b (l.map encM)) (.ptr m 0 0 1) (I l.length) (I i) h=match (l.drop i).findIdx? (fun y=>v==y) with | some j=>xr (I ((i+j:Nat):Int)) h | none=>x0 h:=by
 intro n
 induction n with
 | zero=>intro i h1 h2;omega
 | succ n ih=>
  intro i h1 h2
  show Z9l Try.prog T D N (Z3R Try.prog T D N x0 xr n) x0 xr _ _ _ _ h=_
  unfold Z9l
  rcases Nat.lt_or_ge i l.length with hi | hi
  ·have hx:l[i]? = some l[i]:=List.getElem?_eq_getElem hi
   have hlt:((i:Int)<(l.length:Int)):=by omega
   have hw:IntKind.i64.wrap ((i:Int)+1)=((i+1:Nat):Int):=by rw [wrap64 (by omega) (by omega)];omega
   have hpx:=fun k=>heq v l[i] h k
   have h3:=ih (i+1) hi (by omega)
   have ic:∀k:Go.AM.K β,iaK 7 (.lst 7 b (l.map encM)) (I i) k=k (.ep (encM l[i]) 0):=fun k=>Z0P i rfl hx k
   have ld:∀k:Go.AM.K β,ldK 7 true (.ep (encM l[i]) 0) h k=k ((fun y => .agg (encM y)) l[i]):=fun k=>by simp [encM]
   rw [List.drop_eq_getElem_cons hi,List.findIdx?_cons]
   have lv:∀k:Go.AM.K β,ldK 7 true (.ptr m 0 0 1) h k=k ((fun x => .agg (encM x)) v):=fun k=>by simp [hm,encM]
   dsimp only at h3 ld lv ⊢
   simp only [Z08,hlt,decide_true,Z00,if_true,ic,ld,lv,hpx]
   cases hc:(v==l[i]) with
   | true=>simp
   | false=>
    simp only [Bool.false_eq_true,if_false,Z0I,hw]
    refine h3.trans ?_
    cases (List.drop (i+1) l).findIdx? (fun y=>v==y) with
    | none=>rfl
    | some j=>
     show xr (I ((i+1+j:Nat):Int)) h=xr (I ((i+(j+1):Nat):Int)) h
     rw [show i+1+j=i+(j+1) by omega]
  ·have:i=l.length:=by omega
   subst this
   simp
theorem Zi5 (l:List Msg) (b:Bool) (v:Msg) (hl:l.length<1000000) (heq:∀(x y:Msg) (h:Hp) (k:Go.AM.K AV),eqK Try.prog false 27 (.agg (encM x)) (.agg (encM y)) h k=k (B (x==y))) (h:Hp):Z4q [.lst 7 b (l.map encM),(fun x => .agg (encM x)) v] h=some (B (l.contains v),h):=by
 have e:∀h,Z7D [.lst 7 b (l.map encM),(fun x => .agg (encM x)) v] h=some (I (match l.findIdx? (fun y=>v==y) with | some j=>(j:Int) | none => -1),h):=
  Zqv rfl (by
   have:=ZvV (l:=l) (T:=Z5P) (D:=Z5O) (N:=NN) (b:=b) (v:=v) (h:=[.arr 7 [encM v] true false]) (m:=0) (x0:=fun h=>Z9k Try.prog Z5P Z5O NN (fun v g=>cvt false g v) h) (xr:=fun a h=>cvt false h a) rfl (by omega) heq NN 0 (Nat.zero_le _) (by have:=NN_ge;omega)
   have bx:∀k:AV→Hp→Option AV,effK (boxE 7 ((fun x => .agg (encM x)) v) ([]:Hp).length) [] k=k (.ptr 0 0 0 1) [.arr 7 [encM v] true false]:=fun k=>by simp [boxE,encM]
   simp only [nrm,nrmC,Z6X,Z0d,List.length_map,bx]
   simp only [List.drop_zero] at this
   refine this.trans ?_
   cases l.findIdx? (fun y=>v==y) with
   | none=>rfl
   | some j=>simp)
 have bx:∀k:AV→Hp→Option AV,effK (boxE 7 ((fun x => .agg (encM x)) v) ([]:Hp).length) [] k=k (.ptr 0 0 0 1) [.arr 7 [encM v] true false]:=fun k=>by simp [boxE,encM]
 have lv:∀k:Go.AM.K AV,ldK 7 true (.ptr 0 0 0 1) [.arr 7 [encM v] true false] k=k ((fun x => .agg (encM x)) v):=fun k=>by simp [encM]
 refine ZqB rfl ?_ h
 simp only [nrm,nrmC,Z8X,bx,lv,Zqy,Z03,e]
 have:l.contains v=(l.findIdx? (fun y=>v==y)).isSome:=by rw [List.findIdx?_isSome,List.contains_eq_any_beq]
 rw [this]
 cases l.findIdx? (fun y=>v==y)<;>simp
end
attribute [local congr] Z0e Z0f Z0g Z0h Z0i Z0j Z0k Z0l Z0m Z0n Z0o Z0p Z0q Z0r Z0s Z0t Z0u Z0v Z0w Z0x Z0y Z0z Z0A Z0B Z0C Z0D Z0E
end Go.AM


namespace Go.AM
open Go.Proofs
set_option linter.unusedVariables false
set_option linter.unusedSimpArgs false
set_option linter.constructorNameAsVariable false
theorem Z8o (a:Msg):ltM a a=false:=ZgU _
theorem Zdq {a b c:Msg} (h1:ltM a b=true) (h2:ltM b c=true):ltM a c=true:=Z7j (n:=7) rfl rfl rfl h1 h2
theorem Zdr {a b:Msg} (h1:ltM a b=false) (h2:ltM b a=false):a=b:=by
 have:=Z7k (n:=7) (a:=cellsM a) (b:=cellsM b) rfl rfl h1 h2
 obtain ⟨a0,a1,a2,a3,a4,a5,a6⟩:=a
 obtain ⟨b0,b1,b2,b3,b4,b5,b6⟩:=b
 simpa [cellsM] using this
theorem Zi6 {a b:Msg} (h:ltM a b=true):ltM b a=false:=by
 cases h2:ltM b a with
 | false=>rfl
 | true=>have:=Zdq h h2;rw [Z8o] at this;cases this
abbrev Srt (l:List Msg):Prop:=l.Pairwise fun a b=>ltM a b=true
theorem Zi7:∀ {a b:List Msg},Srt a→Srt b→(∀x,x ∈ a↔x ∈ b)→a=b
 | [],[],_,_,_=>rfl
 | [],y::b,_,_,h=>by have:=(h y).2 (by simp);simp at this
 | x::a,[],_,_,h=>by have:=(h x).1 (by simp);simp at this
 | x::a,y::b,ha,hb,h=>by
  rw [Srt,List.pairwise_cons] at ha hb
  have e:x=y:=by
   rcases List.mem_cons.1 ((h x).1 (by simp)) with e | h1
   ·exact e
   ·rcases List.mem_cons.1 ((h y).2 (by simp)) with e | h2
    ·exact e.symm
    ·have h3:=hb.1 x h1
     have h4:=ha.1 y h2
     have:=Zi6 h3
     rw [h4] at this
     cases this
  subst e
  rw [Zi7 ha.2 hb.2 fun z => ?_]
  have hz:=h z
  simp only [List.mem_cons] at hz
  constructor
  ·intro hm
   rcases hz.1 (.inr hm) with rfl | h1
   ·have:=ha.1 z hm;rw [Z8o] at this;cases this
   ·exact h1
  ·intro hm
   rcases hz.2 (.inr hm) with rfl | h1
   ·have:=hb.1 z hm;rw [Z8o] at this;cases this
   ·exact h1
theorem Zds:∀ {l:List Msg} {x:Msg},x ∈ compL l↔x ∈ l
 | [],x=>by simp [compL]
 | [a],x=>by simp [compL]
 | a::b::l,x=>by
  have ih:=@Zds (b::l) x
  simp only [compL]
  split
  ·rename_i e
   subst e
   rw [ih];simp
  ·rw [List.mem_cons,ih,List.mem_cons (a:=x) (b:=a)]
theorem Zi8:∀ {l:List Msg},l.Pairwise (fun a b=>ltM b a=false)→Srt (compL l)
 | [],_=>by simp [compL]
 | [a],_=>by simp [compL]
 | a::b::l,h=>by
  rw [List.pairwise_cons] at h
  have ih:=Zi8 h.2
  simp only [compL]
  split
  ·exact ih
  ·rename_i hne
   rw [Srt,List.pairwise_cons]
   refine ⟨fun x hx => ?_,ih⟩
   rw [Zds] at hx
   cases h1:ltM a x with
   | true=>rfl
   | false=>
    have e:=Zdr h1 (h.1 x hx)
    subst e
    rcases List.mem_cons.1 hx with e | hx
    ·exact absurd e hne
    ·rw [List.pairwise_cons] at h
     exact absurd (Zdr (h.2.1 a hx) (h.1 b (by simp))) hne
theorem ZvW (l:List Msg):(sortM l).Pairwise fun a b=>ltM b a=false:=by
 have:=List.pairwise_mergeSort (le:=fun x y:Msg => !ltM y x) (fun a b c h1 h2 => ?_) (fun a b => ?_) l
 ·exact this.imp fun h=>by simpa using h
 ·simp only [Bool.not_eq_true'] at h1 h2 ⊢
  cases h3:ltM c a with
  | false=>rfl
  | true=>
   cases h4:ltM a b with
   | true=>rw [Zdq h3 h4] at h2;cases h2
   | false=>
    have:=Zdr h4 h1
    subst this
    rw [h3] at h2;cases h2
 ·cases h1:ltM b a with
  | false=>rfl
  | true=>simp [Zi6 h1]
theorem ZvX {l:List Msg} {x:Msg}:x ∈ sortM l↔x ∈ l:=by
 unfold sortM
 exact (List.mergeSort_perm l _).mem_iff
theorem Z8p (l:List Msg):Srt (normL l):=Zi8 (ZvW l)
theorem Z51 {l:List Msg} {x:Msg}:x ∈ normL l↔x ∈ l:=by unfold normL;rw [Zds,ZvX]
theorem ZvY {l o:List Msg} (h1:Srt o) (h2:∀x,x ∈ o↔x ∈ l):o=normL l:=Zi7 h1 (Z8p l) fun x=>by rw [h2,Z51]
theorem ZbN {l:List Msg} (h:Srt l):normL l=l:=(ZvY h fun _=>Iff.rfl).symm
theorem Z6n {l:List Msg}:errM l=0↔l.length≤64∧∀m ∈ l,checkM m=0:=by
 unfold errM
 constructor
 ·intro h
  split at h
  ·simp at h
  ·split at h
   ·simp at h
   ·rename_i h1 h2
    refine ⟨by omega,fun m hm => ?_⟩
    simp only [Bool.not_eq_true,List.any_eq_false] at h2
    simpa using h2 m hm
 ·rintro ⟨h1,h2⟩
  rw [if_neg (by omega),if_neg]
  simp only [Bool.not_eq_true,List.any_eq_false]
  intro m hm
  simpa using h2 m hm
end Go.AM


namespace Go.AM
open Go.Proofs
set_option linter.unusedVariables false
set_option linter.unusedSimpArgs false
set_option linter.constructorNameAsVariable false
set_option maxRecDepth 20000
abbrev SL {α:Type} (sz:Nat) (f:α→List AV) (b:Bool) (l:List α):AV := .lst sz (b&&l.isEmpty) (l.map f)
section
variable {β:Type} {P:Program} {T:Tab} {D:DTab} {N:Nat} {K:AV→Hp→Option β}
theorem ZvZ (l:List Envl) (b:Bool) (hl:l.length<1000000) (h:Hp):Z4Q [SL 10 encV b l] h=some (SL 10 encV b l,h):=by
 refine (Zrk (v:=if b&&l.isEmpty then nilS else SL 10 encV b l) rfl ?_ h).trans ?_
 ·by_cases hb:(b&&l.isEmpty)=true
  ·simp [Z3V,hb]
  ·have hb':(b&&l.isEmpty)=false:=by simpa using hb
   have hle:l.length * 80≤140737488355328:=by omega
   have h2:((l.map encV).all fun e=>e.length==10)=true:=by simp [encV]
   have h3:okE false (l.map encV)=true:=Z0U (by intro x;simp [encV])
   simp [Z3V,hb',bsE,fillS,appE,readSl,hle,h2,ap]
   rw [Z0X rfl (by simp) (by simp) h3,SL,hb']
 ·by_cases hb:(b&&l.isEmpty)=true
  ·obtain ⟨rfl,hl0⟩:=Bool.and_eq_true_iff.1 hb
   have:l=[]:=by simpa using hl0
   subst this
   rfl
  ·rw [if_neg hb]
   rfl
end
attribute [local congr] Z0e Z0f Z0g Z0h Z0i Z0j Z0k Z0l Z0m Z0n Z0o Z0p Z0q Z0r Z0s Z0t Z0u Z0v Z0w Z0x Z0y Z0z Z0A Z0B Z0C Z0D Z0E
abbrev g1:Envl:=⟨1,2,1,⟨1,1,0,0,1,2,10⟩⟩
abbrev g2:Envl:=⟨1,2,2,⟨2,1,0,0,1,2,10⟩⟩
abbrev g3:Envl:=⟨1,2,3,⟨3,1,0,0,1,2,10⟩⟩
end Go.AM


namespace Go.AM
open Go.Proofs
set_option linter.unusedVariables false
set_option linter.unusedSimpArgs false
set_option linter.constructorNameAsVariable false
set_option maxRecDepth 20000
attribute [local congr] Z0e Z0f Z0g Z0h Z0i Z0j Z0k Z0l Z0m Z0n Z0o Z0p Z0q Z0r Z0s Z0t Z0u Z0v Z0w Z0x Z0y Z0z Z0A Z0B Z0C Z0D Z0E
structure Outb where
 node:Int
 next:Int
 pend:List Envl
deriving DecidableEq
abbrev cellsO (b:Bool) (o:Outb):List AV:=[I o.node,I o.next,SL 10 encV b o.pend]
abbrev ob (b:Bool) (o:Outb):AV := .agg (cellsO b o)
theorem Zi9 (x:Envl):(chkS [x]).2=formE x:=by
 unfold chkS
 rw [if_neg (by simp)]
 simp only [chkE]
 split
 ·rfl
 ·rename_i h
  have:formE x=0:=Classical.byContradiction h
  rw [this];rfl
def chkP (node next:Int):Option Int→List Envl→Int
 | _,[]=>0
 | p,x::r=>if formE x≠0 then formE x else if x.frm≠node then 10 else if ((match p with | some q=>decide (x.num≤q) | none=>false)||decide (next≤x.num))=true then 5 else chkP node next (some x.num) r
theorem Zia (node next:Int) (p:Option Int) (x:Envl) (r:List Envl):chkP node next p (x::r)=if formE x≠0 then formE x else if x.frm≠node then 10 else if ((match p with | some q=>decide (x.num≤q) | none=>false)||decide (next≤x.num))=true then 5 else chkP node next (some x.num) r:=by cases p<;>rfl
theorem Zib (node next:Int) (p:Option Int):chkP node next p []=0:=by cases p<;>rfl
def chkO (o:Outb):Int:=if (!isNode o.node||decide (o.next<1)||decide (o.next > 1073741825))=true then 2 else if 64<o.pend.length then 8 else chkP o.node o.next none o.pend
theorem ZbO (n:Int) (h:Hp):Z1Y [I n] h=some (B (isNode n),h):=by
 refine Zr8 (a0:=I n) rfl ?_ h
 simp -implicitDefEqProofs only [Z9A,Z0T,Z0W,Z11]
 rfl
theorem Zdt (n:Int) (h:Hp):Z4D [I n] h=some (B (isNode n),h):=by
 refine Zox (a0:=I n) rfl ?_ h
 simp -implicitDefEqProofs only [Z9b,Z0T,Z0W,Z11]
 rfl
theorem Zic {x:Envl} {h:Hp} {id:Nat} (hid:h[id]? = some (.arr 10 [encV x] true false)):Z4r [.sl 10 id 0 1 1 true] h=some (tupP (chkS [x]),h):=
 Zvq (as':=[.lst 10 false [encV x]]) (asl:=[.lst 10 false ([x].map encV)]) (by simp only [Z17,Z16,Z0X (st:=false) (n:=1) (fr:=1) (full:=true) hid rfl rfl (Z0U (l:=[x]) (f:=encV) fun x=>by simp [encV])]) rfl rfl (ZvS [x] false (by simp) []) rfl
theorem Zw0 {x0:Hp→Option AV} {xr:AV→Hp→Option AV} {X:Int→Option AV} {node next:Int} {l:List Envl} {b:Bool} (hl:l.length<1000000) (h0:∀h,x0 h=X 0) (hr:∀(e:Int) h,xr (I e) h=X e):∀(n:Nat) (pre post:List Envl) (h:Hp),l=pre++post→post.length<n→h[0]? = some (.arr 3 [[I node,I next, .lst 10 b (l.map encV)]] true false)→
  Z3U Try.prog Z3n Z4P NN x0 xr n (.ptr 0 0 0 1) (.lst 10 b (l.map encV)) (I l.length) (I pre.length) h=X (chkP node next (pre.getLast?.map (·.num)) post):=by
 intro n
 induction n with
 | zero=>intro pre post h _ h2;omega
 | succ n ih=>
  intro pre post h hc hn g0
  show Z6Z Try.prog Z3n Z4P NN (Z3U Try.prog Z3n Z4P NN x0 xr n) x0 xr _ _ _ _ h=_
  cases post with
  | nil=>
   have:l=pre:=by simpa using hc
   subst this
   have c1:¬((l.length:Int)<(l.length:Int)):=by omega
   simp -implicitDefEqProofs only [Z6Z,Z08,c1,decide_false,Z00,Bool.false_eq_true,if_false,h0,Zib]
  | cons x post=>
   have hx:l[pre.length]? = some x:=by rw [hc];simp
   have hi:pre.length<l.length:=by rw [hc];simp
   have hlt:((pre.length:Int)<(l.length:Int)):=by omega
   have hw:IntKind.i64.wrap ((pre.length:Int)+1)=(((pre++[x]).length:Nat):Int):=by rw [wrap64 (by omega) (by omega)];simp
   have ic:∀k:Go.AM.K AV,iaK 10 (.lst 10 b (l.map encV)) (I pre.length) k=k (.ep (encV x) 0):=fun k=>Z0P pre.length rfl hx k
   have ld:∀k:Go.AM.K AV,ldK 10 true (.ep (encV x) 0) h k=k (.agg (encV x)):=fun k=>rfl
   obtain ⟨g,hg⟩:∃g,g=h++[AObj.arr 10 [encV x] true false]:=⟨_,rfl⟩
   have ns:∀k:AV→Hp→Option AV,effK (stE 10 (.ptr h.length 0 0 1) (.agg (encV x)) (h++[.arr 10 [zE] true false])) (h++[.arr 10 [zE] true false]) k=k .u g:=fun k=>by rw [hg];exact nst k
   have lw:∀k:Go.AM.K AV,ldK 10 true (.ptr h.length 0 0 1) g k=k (.agg (encV x)):=fun k=>by rw [hg];exact nlw k
   obtain ⟨y,hy⟩:∃y,y=g++[AObj.arr 10 [encV x] true false]:=⟨_,rfl⟩
   have bs:∀k:AV→Hp→Option AV,effK (bsE 10 zE 1 [(0, .agg (encV x))] g.length) g k=k (.sl 10 g.length 0 1 1 true) y:=fun k=>by rw [hy];simp [bsE,fillS,encV,effK,ap]
   have fc:=Zic (x:=x) (h:=y) (id:=g.length) (by rw [hy,Z0O];rfl)
   have hb:y[h.length]? = some (.arr 10 [encV x] true false):=by rw [hy];exact Z09 (by rw [hg,Z0O];rfl)
   have y0:y[0]? = some (.arr 3 [[I node,I next, .lst 10 b (l.map encV)]] true false):=by rw [hy,hg];exact Z09 (Z09 g0)
   have l0:∀k:Go.AM.K AV,ldK 1 false (.ptr h.length 0 0 1) y k=k (I x.frm):=fun k=>by rw [Z01,hb];rfl
   have l2:∀k:Go.AM.K AV,ldK 1 false (.ptr h.length 0 2 1) y k=k (I x.num):=fun k=>by rw [Z01,hb];rfl
   have b0:∀k:Go.AM.K AV,ldK 1 false (.ptr 0 0 0 1) y k=k (I node):=fun k=>by rw [Z01,y0];rfl
   have b1:∀k:Go.AM.K AV,ldK 1 false (.ptr 0 0 1 1) y k=k (I next):=fun k=>by rw [Z01,y0];rfl
   have b2:∀k:Go.AM.K AV,ldK 1 false (.ptr 0 0 2 1) y k=k (.lst 10 b (l.map encV)):=fun k=>by rw [Z01,y0];rfl
   have t0:∀(k:Go.AM.K AV),exK (tupP (chkS [x])) 0 k=k (I (chkS [x]).1):=fun k=>rfl
   have t1:∀(k:Go.AM.K AV),exK (tupP (chkS [x])) 1 k=k (I (formE x)):=fun k=>by rw [← Zi9];rfl
   rw [Zia]
   simp -implicitDefEqProofs only [Z6Z,Z08,hlt,decide_true,Z00,if_true,ic,ld,nbx,ns,lw,bs,Zrb,Z03,fc,t0,t1,Z06,Bool.true_xor]
   by_cases z:formE x=0
   ·have ez:(!(formE x==0))=false:=by simp [z]
    rw [if_neg (show ¬formE x≠0 from fun hh=>hh z)]
    simp -implicitDefEqProofs only [ez,Bool.false_eq_true,if_false,Z07,Nat.zero_add,l0,b0,Z06,Bool.true_xor,Z00]
    by_cases q:x.frm=node
    ·have eq':(!(x.frm==node))=false:=by simp [q]
     rw [if_neg (show ¬x.frm≠node from fun hh=>hh q)]
     simp -implicitDefEqProofs only [eq',Bool.false_eq_true,if_false]
     have grp:∀k:AV→Hp→Option AV,(arithK .gtr (I pre.length) (I 0) fun x47=>grpK true x47 y (fun k48=>ldK 1 false (.ptr h.length 0 2 1) y fun x50=>ldK 1 false (.ptr 0 0 2 1) y fun x52=>arithK .sub (I pre.length) (I 1) fun x53=>iaK 10 x52 x53 fun x54=>faK 2 x54 fun x55=>ldK 1 false x55 y fun x56=>arithK .leq x50 x56 fun x57=>k48 x57 y) k)=k (B (match pre.getLast?.map (·.num) with | some q=>decide (x.num≤q) | none=>false)) y:=fun k=>by
      by_cases hp:pre.length=0
      ·have:pre=[]:=List.eq_nil_of_length_eq_zero hp
       subst this
       simp -implicitDefEqProofs only [Z0L,List.length_nil,show ¬(((0:Nat):Int) > 0) by omega,decide_false]
       rfl
      ·have c0:(pre.length:Int) > 0:=by omega
       obtain ⟨m,hm⟩:∃m,m=pre.length-1:=⟨_,rfl⟩
       have hwm:IntKind.i64.wrap ((pre.length:Int)-1)=(m:Int):=by rw [wrap64 (by omega) (by omega)];omega
       obtain ⟨z,hz⟩:∃z,pre.getLast? = some z:=by
        cases hq:pre.getLast? with
        | none=>rw [List.getLast?_eq_none_iff] at hq;rw [hq] at hp;exact absurd rfl hp
        | some z=>exact ⟨z,rfl⟩
       have hzm:l[m]? = some z:=by
        rw [hc,List.getElem?_append_left (by omega),hm, ← List.getLast?_eq_getElem?,hz]
       have im:∀k:Go.AM.K AV,iaK 10 (.lst 10 b (l.map encV)) (I m) k=k (.ep (encV z) 0):=fun k=>Z0P m rfl hzm k
       have lm:∀k:Go.AM.K AV,ldK 1 false (.ep (encV z) 2) y k=k (I z.num):=fun k=>rfl
       have fa:∀k:Go.AM.K AV,faK 2 (.ep (encV z) 0) k=k (.ep (encV z) 2):=fun k=>rfl
       rw [hz]
       simp -implicitDefEqProofs only [Z0L,c0,decide_true,l2,b2,Z5c,hwm,im,fa,lm,Z11]
       rfl
     rw [grp]
     simp -implicitDefEqProofs only [l2,b1,Z0T,Z0M,Z00]
     by_cases hq:((match pre.getLast?.map (·.num) with | some q=>decide (x.num≤q) | none=>false)||decide (next≤x.num))=true
     ·rw [if_pos hq,if_pos hq]
      simp -implicitDefEqProofs only [hr]
     ·rw [if_neg hq,if_neg hq]
      simp -implicitDefEqProofs only [Z0I,hw]
      refine (ih (pre++[x]) post y (by simpa using hc) (by simpa using hn) y0).trans ?_
      simp
    ·have eq':(!(x.frm==node))=true:=by simp [q]
     rw [if_pos q]
     simp -implicitDefEqProofs only [eq',if_true,hr]
   ·have ez:(!(formE x==0))=true:=by simp [z]
    rw [if_pos z]
    simp -implicitDefEqProofs only [ez,if_true,hr]
theorem ZbP (b:Bool) (o:Outb) (hl:o.pend.length<1000000) (h:Hp):Z1L [ob b o] h=some (I (chkO o),h):=by
 refine Zrf (a0:=ob b o) rfl ?_ h
 obtain ⟨node,next,pend⟩:=o
 dsimp only at hl ⊢
 have hnr:nrm (.a [none,none,some 10]) (ob b ⟨node,next,pend⟩)=ob b ⟨node,next,pend⟩:=rfl
 rw [hnr]
 obtain ⟨H,hH⟩:∃H:Hp,H=[AObj.arr 3 [[I node,I next, .lst 10 (b&&pend.isEmpty) (pend.map encV)]] true false]:=⟨_,rfl⟩
 have bx:∀k:AV→Hp→Option AV,effK (boxE 3 (.agg [I node,I next, .lst 10 (b&&pend.isEmpty) (pend.map encV)]) ([]:Hp).length) [] k=k (.ptr 0 0 0 1) H:=fun k=>by rw [hH];rfl
 have H0:H[0]? = some (.arr 3 [[I node,I next, .lst 10 (b&&pend.isEmpty) (pend.map encV)]] true false):=by rw [hH];rfl
 have b0:∀k:Go.AM.K AV,ldK 1 false (.ptr 0 0 0 1) H k=k (I node):=fun k=>by rw [Z01,H0];rfl
 have b1:∀k:Go.AM.K AV,ldK 1 false (.ptr 0 0 1 1) H k=k (I next):=fun k=>by rw [Z01,H0];rfl
 have b2:∀k:Go.AM.K AV,ldK 1 false (.ptr 0 0 2 1) H k=k (.lst 10 (b&&pend.isEmpty) (pend.map encV)):=fun k=>by rw [Z01,H0];rfl
 have fn:=ZbO
 unfold chkO
 simp -implicitDefEqProofs only [Z70,ob,cellsO,SL,bx,Z07,Nat.zero_add,b0,b1,Zrc,Z03,fn,Z0J,Z08,Z0L,Z0M,Z00]
 split
 ·rfl
 ·simp -implicitDefEqProofs only [b2,Z0d,List.length_map,Z0L,Z00]
  by_cases h64:64<pend.length
  ·have c:(pend.length:Int) > 64:=by omega
   rw [if_pos h64]
   simp -implicitDefEqProofs only [c,decide_true,if_true]
   rfl
  ·have c:¬((pend.length:Int) > 64):=by omega
   rw [if_neg h64]
   simp -implicitDefEqProofs only [c,decide_false,Bool.false_eq_true,if_false]
   exact Zw0 (X:=fun e=>some (I e)) hl (fun h=>rfl) (fun e h=>rfl) NN [] pend H rfl (by have:=NN_ge;omega) H0
end Go.AM


namespace Go.AM
open Go.Proofs
set_option linter.unusedVariables false
set_option linter.unusedSimpArgs false
set_option linter.constructorNameAsVariable false
set_option maxRecDepth 20000
theorem Zw1 {T:Tab} {D:DTab} {N:Nat} {x0:Hp→Option AV} {xr:AV→Hp→Option AV} {a b:List Msg} {p q:Bool} {h:Hp} (hab:a.length=b.length) (hl:a.length<1000000) (hx:x0 h=xr (B true) h) (heq:∀(x y:Msg) (k:Go.AM.K AV),eqK Try.prog true 27 (.agg (encM x)) (.agg (encM y)) h k=k (B (!(x==y)))):∀(n i:Nat),i≤a.length→a.length<i+n→
  Z3N Try.prog T D N x0 xr n (.lst 7 p (a.map encM)) (.lst 7 q (b.map encM)) (I a.length) (I i) h=xr (B (decide (a.drop i=b.drop i))) h:=by
 intro n
 induction n with
 | zero=>intro i h1 h2;omega
 | succ n ih=>
  intro i h1 h2
  show Z6V Try.prog T D N (Z3N Try.prog T D N x0 xr n) x0 xr _ _ _ _ h=_
  rcases Nat.lt_or_ge i a.length with hi | hi
  ·have c1:((i:Int)<(a.length:Int)):=by omega
   have hw:IntKind.i64.wrap ((i:Int)+1)=((i+1:Nat):Int):=by rw [wrap64 (by omega) (by omega)];omega
   have ia:∀k:Go.AM.K AV,iaK 7 (.lst 7 p (a.map encM)) (I i) k=k (.ep (encM a[i]) 0):=fun k=>Z0P i rfl (List.getElem?_eq_getElem hi) k
   have ib:∀k:Go.AM.K AV,iaK 7 (.lst 7 q (b.map encM)) (I i) k=k (.ep (encM (b[i]'(by omega))) 0):=fun k=>Z0P i rfl (List.getElem?_eq_getElem (by omega)) k
   have ld:∀(x:Msg) (k:Go.AM.K AV),ldK 7 true (.ep (encM x) 0) h k=k (.agg (encM x)):=fun x k=>rfl
   rw [List.drop_eq_getElem_cons hi,List.drop_eq_getElem_cons (show i<b.length by omega)]
   simp -implicitDefEqProofs only [Z6V,Z0d,List.length_map,Z08,c1,decide_true,Z00,if_true,ia,ib,ld,heq,Z0I,hw,ih (i+1) (by omega) (by omega),List.cons.injEq,Bool.decide_and]
   by_cases e:a[i]=b[i]
   ·simp [e]
   ·simp [e]
  ·have:i=a.length:=by omega
   subst this
   have c1:¬((a.length:Int)<(a.length:Int)):=by omega
   simp -implicitDefEqProofs only [Z6V,Z0d,List.length_map,Z08,c1,decide_false,Z00,Bool.false_eq_true,if_false,hx]
   rw [List.drop_eq_nil_of_le (Nat.le_refl _),List.drop_eq_nil_of_le (by omega)]
   rfl
theorem Zid (a b:List Msg) (p q:Bool) (hl:a.length<1000000) (heq:∀(x y:Msg) (h:Hp) (k:Go.AM.K AV),eqK Try.prog true 27 (.agg (encM x)) (.agg (encM y)) h k=k (B (!(x==y)))) (h:Hp):Z4J [.lst 7 p (a.map encM), .lst 7 q (b.map encM)] h=some (B (decide (a=b)),h):=by
 refine ZpX rfl ?_ h
 simp only [nrm,nrmC]
 by_cases hab:a.length=b.length
 ·have e:((a.length:Int)==(b.length:Int))=true:=by simp [hab]
  have:=Zw1 (T:=Z5K) (D:=Z5J) (N:=NN) (x0:=fun h=>Z9f Try.prog Z5K Z5J NN (fun v g=>cvt false g v) h) (xr:=fun w13_4 h=>cvt false h w13_4) (a:=a) (b:=b) (p:=p) (q:=q) (h:=[]) hab hl rfl (fun x y k=>heq x y [] k) NN 0 (by omega) (by have:=NN_ge;omega)
  simp only [List.drop_zero] at this
  simp -implicitDefEqProofs only [Z5l,Z0d,List.length_map,Z06,e,Bool.true_xor,Bool.not_true,Z00,Bool.false_eq_true,if_false]
  exact this
 ·have e:((a.length:Int)==(b.length:Int))=false:=by simp;omega
  have hne:a≠b:=fun h=>hab (by rw [h])
  simp [Z5l,e,hne]
attribute [local congr] Z0e Z0f Z0g Z0h Z0i Z0j Z0k Z0l Z0m Z0n Z0o Z0p Z0q Z0r Z0s Z0t Z0u Z0v Z0w Z0x Z0y Z0z Z0A Z0B Z0C Z0D Z0E
structure Hrd where
 frm:Int
 num:Int
deriving DecidableEq
def encH (e:Hrd):List AV:=[I e.frm,I e.num]
structure Inbx where
 node:Int
 heard:List Hrd
 msgs:List Msg
deriving DecidableEq
abbrev cellsI (b1 b2:Bool) (i:Inbx):List AV:=[I i.node,SL 2 encH b1 i.heard,SL 7 encM b2 i.msgs]
abbrev ib (b1 b2:Bool) (i:Inbx):AV := .agg (cellsI b1 b2 i)
abbrev zH:List AV:=[I 0,I 0]
def cmpH (a b:Hrd):Int:=lexZ [a.frm,a.num] [b.frm,b.num]
theorem Zdu (a b:Hrd) (h:Hp):Z3l [.agg (encH a), .agg (encH b)] h=some (I (cmpH a b),h):=by
 refine ZoZ (by simp [encH]) ?_ h
 obtain ⟨a0,a1⟩:=a
 obtain ⟨b0,b1⟩:=b
 have g:=ZhN
 have bx0:∀k:AV→Hp→Option AV,effK (boxE 2 (.agg [I a0,I a1]) ([]:Hp).length) [] k=k (.ptr 0 0 0 1) [.arr 2 [[I a0,I a1]] true false]:=fun k=>rfl
 have bx1:∀k:AV→Hp→Option AV,effK (boxE 2 (.agg [I b0,I b1]) ([AObj.arr 2 [[I a0,I a1]] true false]:Hp).length) [.arr 2 [[I a0,I a1]] true false] k=k (.ptr 1 0 0 1) [.arr 2 [[I a0,I a1]] true false, .arr 2 [[I b0,I b1]] true false]:=fun k=>rfl
 have l00:∀k:Go.AM.K AV,ldK 1 false (.ptr 0 0 0 1) [.arr 2 [[I a0,I a1]] true false, .arr 2 [[I b0,I b1]] true false] k=k (I a0):=fun k=>rfl
 have l01:∀k:Go.AM.K AV,ldK 1 false (.ptr 0 0 1 1) [.arr 2 [[I a0,I a1]] true false, .arr 2 [[I b0,I b1]] true false] k=k (I a1):=fun k=>rfl
 have l10:∀k:Go.AM.K AV,ldK 1 false (.ptr 1 0 0 1) [.arr 2 [[I a0,I a1]] true false, .arr 2 [[I b0,I b1]] true false] k=k (I b0):=fun k=>rfl
 have l11:∀k:Go.AM.K AV,ldK 1 false (.ptr 1 0 1 1) [.arr 2 [[I a0,I a1]] true false, .arr 2 [[I b0,I b1]] true false] k=k (I b1):=fun k=>rfl
 have bs:∀(c0 c1:Int),bsE 1 [.s (.int .i64 0)] 2 [(0,I c0),(1,I c1)] ([AObj.arr 2 [[I a0,I a1]] true false, .arr 2 [[I b0,I b1]] true false]:Hp).length=some (.sl 1 2 0 2 2 true,EN (.arr 1 [[I c0],[I c1]] true false)):=fun _ _=>rfl
 have go:∀(c0 c1:Int) (o0 o1:AObj) (base:Nat),Z4E [.sl 1 2 0 2 2 true] [o0,o1, .arr 1 [[I c0],[I c1]] true false] base=some (I (orZ [c0,c1]),EF [2]):=fun c0 c1 o0 o1 base=>
  (Z22 (ZhP [c0,c1] (by simp) rfl rfl) base).trans rfl
 simp -implicitDefEqProofs only [Z9d,encH,bx0,bx1,Z07,Nat.zero_add,l00,l01,l10,l11,ZoV,ZoU,Z1G,g,Z4u,bs,ZhO,List.cons_append,List.nil_append,go]
 have:=Zdl (n:=2) (a:=[a0,a1]) (b:=[b0,b1]) rfl rfl
 simp only [List.zipWith_cons_cons,List.zipWith_nil_left] at this
 rw [this]
 rfl
def chkH (node:Int):Option Hrd→List Hrd→Int
 | _,[]=>0
 | p,x::r=>if (!isNode x.frm||decide (x.num<1)||decide (x.num > 1073741824))=true then 2 else if x.frm=node then 10 else if (match p with | some q=>decide (cmpH q x≥0) | none=>false)=true then 5 else chkH node (some x) r
theorem Zie (node:Int) (p:Option Hrd) (x:Hrd) (r:List Hrd):chkH node p (x::r)=if (!isNode x.frm||decide (x.num<1)||decide (x.num > 1073741824))=true then 2 else if x.frm=node then 10 else if (match p with | some q=>decide (cmpH q x≥0) | none=>false)=true then 5 else chkH node (some x) r:=by cases p<;>rfl
theorem Zif (node:Int) (p:Option Hrd):chkH node p []=0:=by cases p<;>rfl
def chkI (i:Inbx):Int:=if isNode i.node=false then 2 else if 256<i.heard.length∨64<i.msgs.length then 8 else if chkH i.node none i.heard≠0 then chkH i.node none i.heard else if errM i.msgs≠0∨normL i.msgs≠i.msgs then 1 else if i.heard.length<i.msgs.length then 10 else 0
theorem Zw2 {x0:AV→Hp→Option AV} {xr:AV→Hp→Option AV} {X:Option AV} {X2:Int→Option AV} {node:Int} {l:List Hrd} {b:Bool} {m:AV} (hl:l.length<1000000) (h0:∀h:Hp,h[0]? = some (.arr 3 [[I node, .lst 2 b (l.map encH),m]] true false)→x0 (.ptr 0 0 0 1) h=X) (hr:∀(e:Int) h,xr (I e) h=X2 e):∀(n:Nat) (pre post:List Hrd) (h:Hp),l=pre++post→post.length<n→h[0]? = some (.arr 3 [[I node, .lst 2 b (l.map encH),m]] true false)→
  Z3D Try.prog Z1K Z4K NN x0 xr n (.ptr 0 0 0 1) (.lst 2 b (l.map encH)) (I l.length) (I pre.length) h=if chkH node pre.getLast? post=0 then X else X2 (chkH node pre.getLast? post):=by
 intro n
 induction n with
 | zero=>intro pre post h _ h2;omega
 | succ n ih=>
  intro pre post h hc hn g0
  show Z6N Try.prog Z1K Z4K NN (Z3D Try.prog Z1K Z4K NN x0 xr n) x0 xr _ _ _ _ h=_
  cases post with
  | nil=>
   have:l=pre:=by simpa using hc
   subst this
   have c1:¬((l.length:Int)<(l.length:Int)):=by omega
   simp -implicitDefEqProofs only [Z6N,Z08,c1,decide_false,Z00,Bool.false_eq_true,if_false,Zif,if_true]
   exact h0 h g0
  | cons x post=>
   have hx:l[pre.length]? = some x:=by rw [hc];simp
   have hi:pre.length<l.length:=by rw [hc];simp
   have hlt:((pre.length:Int)<(l.length:Int)):=by omega
   have hw:IntKind.i64.wrap ((pre.length:Int)+1)=(((pre++[x]).length:Nat):Int):=by rw [wrap64 (by omega) (by omega)];simp
   have ic:∀k:Go.AM.K AV,iaK 2 (.lst 2 b (l.map encH)) (I pre.length) k=k (.ep (encH x) 0):=fun k=>Z0P pre.length rfl hx k
   have ld:∀k:Go.AM.K AV,ldK 2 true (.ep (encH x) 0) h k=k (.agg (encH x)):=fun k=>rfl
   obtain ⟨y,hy⟩:∃y,y=h++[AObj.arr 2 [encH x] true false]:=⟨_,rfl⟩
   have bx:∀k:AV→Hp→Option AV,effK (boxE 2 (.agg zH) h.length) h k=k (.ptr h.length 0 0 1) (h++[.arr 2 [zH] true false]):=fun k=>Z12 2 h.length (.agg zH) h k rfl rfl rfl
   have ns:∀k:AV→Hp→Option AV,effK (stE 2 (.ptr h.length 0 0 1) (.agg (encH x)) (h++[.arr 2 [zH] true false])) (h++[.arr 2 [zH] true false]) k=k .u y:=fun k=>by
    rw [Z0F (v := .u) (id:=h.length) (o := .arr 2 [encH x] true false) (ft:=[h.length]) (by simp [encH]),Z3f,hy];rfl
   have hb:y[h.length]? = some (.arr 2 [encH x] true false):=by rw [hy,Z0O];rfl
   have y0:y[0]? = some (.arr 3 [[I node, .lst 2 b (l.map encH),m]] true false):=by rw [hy];exact Z09 g0
   have l0:∀k:Go.AM.K AV,ldK 1 false (.ptr h.length 0 0 1) y k=k (I x.frm):=fun k=>by rw [Z01,hb];rfl
   have l1:∀k:Go.AM.K AV,ldK 1 false (.ptr h.length 0 1 1) y k=k (I x.num):=fun k=>by rw [Z01,hb];rfl
   have lw:∀k:Go.AM.K AV,ldK 2 true (.ptr h.length 0 0 1) y k=k (.agg (encH x)):=fun k=>by rw [Z01,hb];rfl
   have b0:∀k:Go.AM.K AV,ldK 1 false (.ptr 0 0 0 1) y k=k (I node):=fun k=>by rw [Z01,y0];rfl
   have b1:∀k:Go.AM.K AV,ldK 1 false (.ptr 0 0 1 1) y k=k (.lst 2 b (l.map encH)):=fun k=>by rw [Z01,y0];rfl
   have fn:=Zdt x.frm
   have grp:∀k:AV→Hp→Option AV,(arithK .gtr (I pre.length) (I 0) fun x73=>grpK true x73 y (fun k74=>ldK 1 false (.ptr 0 0 1 1) y fun x76=>arithK .sub (I pre.length) (I 1) fun x77=>iaK 2 x76 x77 fun x78=>ldK 2 true x78 y fun x79=>ldK 2 true (.ptr h.length 0 0 1) y fun x80=>callK (Z1K 53) [x79,x80] y fun x81 h82=>arithK .geq x81 (I 0) fun x83=>k74 x83 h82) k)=k (B (match pre.getLast? with | some q=>decide (cmpH q x≥0) | none=>false)) y:=fun k=>by
    by_cases hp:pre.length=0
    ·have:pre=[]:=List.eq_nil_of_length_eq_zero hp
     subst this
     simp -implicitDefEqProofs only [Z0L,List.length_nil,show ¬(((0:Nat):Int) > 0) by omega,decide_false]
     rfl
    ·have c0:(pre.length:Int) > 0:=by omega
     obtain ⟨p,hm⟩:∃p,p=pre.length-1:=⟨_,rfl⟩
     have hwm:IntKind.i64.wrap ((pre.length:Int)-1)=(p:Int):=by rw [wrap64 (by omega) (by omega)];omega
     obtain ⟨z,hz⟩:∃z,pre.getLast? = some z:=by
      cases hq:pre.getLast? with
      | none=>rw [List.getLast?_eq_none_iff] at hq;rw [hq] at hp;exact absurd rfl hp
      | some z=>exact ⟨z,rfl⟩
     have hzm:l[p]? = some z:=by
      rw [hc,List.getElem?_append_left (by omega),hm, ← List.getLast?_eq_getElem?,hz]
     have im:∀k:Go.AM.K AV,iaK 2 (.lst 2 b (l.map encH)) (I p) k=k (.ep (encH z) 0):=fun k=>Z0P p rfl hzm k
     have lm:∀k:Go.AM.K AV,ldK 2 true (.ep (encH z) 0) y k=k (.agg (encH z)):=fun k=>rfl
     have fh:=Zdu z x
     rw [hz]
     simp -implicitDefEqProofs only [Z0L,c0,decide_true,b1,Z5c,hwm,im,lm,lw,Zq0,Z03,fh,Z0T]
     rfl
   rw [Zie]
   simp -implicitDefEqProofs only [Z6N,Z08,hlt,decide_true,Z00,if_true,ic,ld,bx,ns,Z07,Nat.zero_add,l0,Zh8,Z03,fn,Z0J,l1,Z0L,Z0M]
   by_cases q1:(!isNode x.frm||decide (x.num<1)||decide (x.num > 1073741824))=true
   ·rw [if_pos q1,if_pos q1]
    simp -implicitDefEqProofs only [hr]
    rfl
   ·rw [if_neg q1,if_neg q1]
    simp -implicitDefEqProofs only [b0,Z06,Bool.false_xor,Z00]
    by_cases q2:x.frm=node
    ·have e2:(x.frm==node)=true:=by simp [q2]
     rw [if_pos q2]
     simp -implicitDefEqProofs only [e2,if_true,hr]
     rfl
    ·have e2:(x.frm==node)=false:=by simp [q2]
     rw [if_neg q2]
     simp -implicitDefEqProofs only [e2,Bool.false_eq_true,if_false]
     simp only [Z0L] at grp
     rw [grp]
     simp -implicitDefEqProofs only [Z00]
     by_cases q3:(match pre.getLast? with | some q=>decide (cmpH q x≥0) | none=>false)=true
     ·rw [if_pos q3,if_pos q3]
      simp -implicitDefEqProofs only [hr]
      rfl
     ·rw [if_neg q3,if_neg q3]
      simp -implicitDefEqProofs only [Z0I,hw]
      refine (ih (pre++[x]) post y (by simpa using hc) (by simpa using hn) y0).trans ?_
      simp
theorem Z6o (b1 b2:Bool) (i:Inbx) (hl:i.heard.length<1000000) (hm:i.msgs.length<1000) (h:Hp):Z19 [ib b1 b2 i] h=some (I (chkI i),h):=by
 refine Zq5 (a0:=ib b1 b2 i) rfl ?_ h
 obtain ⟨node,heard,msgs⟩:=i
 dsimp only at hl hm ⊢
 have hnr:nrm (.a [none,some 2,some 7]) (ib b1 b2 ⟨node,heard,msgs⟩)=ib b1 b2 ⟨node,heard,msgs⟩:=rfl
 rw [hnr]
 obtain ⟨H,hH⟩:∃H:Hp,H=[AObj.arr 3 [[I node, .lst 2 (b1&&heard.isEmpty) (heard.map encH), .lst 7 (b2&&msgs.isEmpty) (msgs.map encM)]] true false]:=⟨_,rfl⟩
 have bx:∀k:AV→Hp→Option AV,effK (boxE 3 (.agg [I node, .lst 2 (b1&&heard.isEmpty) (heard.map encH), .lst 7 (b2&&msgs.isEmpty) (msgs.map encM)]) ([]:Hp).length) [] k=k (.ptr 0 0 0 1) H:=fun k=>by rw [hH];rfl
 have ld:∀(H:Hp),H[0]? = some (.arr 3 [[I node, .lst 2 (b1&&heard.isEmpty) (heard.map encH), .lst 7 (b2&&msgs.isEmpty) (msgs.map encM)]] true false)→(∀k:Go.AM.K AV,ldK 1 false (.ptr 0 0 0 1) H k=k (I node))∧(∀k:Go.AM.K AV,ldK 1 false (.ptr 0 0 1 1) H k=k (.lst 2 (b1&&heard.isEmpty) (heard.map encH)))∧(∀k:Go.AM.K AV,ldK 1 false (.ptr 0 0 2 1) H k=k (.lst 7 (b2&&msgs.isEmpty) (msgs.map encM))):=fun H H0=>⟨fun k=>by rw [Z01,H0];rfl,fun k=>by rw [Z01,H0];rfl,fun k=>by rw [Z01,H0];rfl⟩
 have H0:H[0]? = some (.arr 3 [[I node, .lst 2 (b1&&heard.isEmpty) (heard.map encH), .lst 7 (b2&&msgs.isEmpty) (msgs.map encM)]] true false):=by rw [hH];rfl
 obtain ⟨l0,l1,l2⟩:=ld H H0
 have fn:=Zdt node
 unfold chkI
 simp -implicitDefEqProofs only [Z6O,ib,cellsI,SL,bx,Z07,Nat.zero_add,l0,l1,l2,Zh8,Z03,fn,Z0J,Z00,Z0d,List.length_map,Z0L,Z0M]
 cases hn:isNode node with
 | false=>rfl
 | true=>
  simp -implicitDefEqProofs only [Bool.not_true,Bool.false_eq_true,if_false]
  by_cases h8:256<heard.length∨64<msgs.length
  ·have e:(decide ((heard.length:Int) > 256)||decide ((msgs.length:Int) > 64))=true:=by simp;omega
   rw [if_pos h8]
   simp -implicitDefEqProofs only [e,if_true]
   rfl
  ·have e:(decide ((heard.length:Int) > 256)||decide ((msgs.length:Int) > 64))=false:=by simp;omega
   rw [if_neg (show ¬(true=false) by simp),if_neg h8]
   simp -implicitDefEqProofs only [e,Bool.false_eq_true,if_false]
   refine (Zw2 (X:=some (I (if errM msgs≠0∨normL msgs≠msgs then 1 else if heard.length<msgs.length then 10 else 0))) (X2:=fun e=>some (I e)) hl (fun h hh => ?_) (fun e h=>rfl) NN [] heard H rfl (by have:=NN_ge;omega) H0).trans ?_
   ·obtain ⟨k0,k1,k2⟩:=ld h hh
    have fN:=ZhW msgs (b:=b2) (by omega) (h:=h) (v := .lst 7 (b2&&msgs.isEmpty) (msgs.map encM)) (a := .lst 7 (b2&&msgs.isEmpty) (msgs.map encM)) rfl rfl
    have tp:∀(a b:AV) (k:Go.AM.K AV),exK (.tup [a,b]) 0 k=k a:=fun a b k=>rfl
    have tq:∀(a b:AV) (k:Go.AM.K AV),exK (.tup [a,b]) 1 k=k b:=fun a b k=>rfl
    unfold normR at fN
    simp -implicitDefEqProofs only [Z8T,Z07,Nat.zero_add,k1,k2,Zq1,Z03,fN,tp,tq,Z06,Bool.true_xor]
    by_cases z:errM msgs=0
    ·have ez:(!(errM msgs==0))=false:=by simp [z]
     have hnl:=Z6l msgs
     have fE:=Zid (normL msgs) msgs (b2&&(normL msgs).isEmpty) (b2&&msgs.isEmpty) (by omega) (fun x y h k=>by rw [Z6k,Bool.true_xor])
     have ex:(if errM msgs=0 then SLm b2 (normL msgs) else .lst 7 true []) = .lst 7 (b2&&(normL msgs).isEmpty) ((normL msgs).map encM):=if_pos z
     simp -implicitDefEqProofs only [ez,ex,Z5d,Zq2,Z03,fE,Z0J,Z00,Z0d,List.length_map,Z0L]
     by_cases q:normL msgs=msgs
     ·have e1:(!decide (normL msgs=msgs))=false:=by simp [q]
      have rr:¬(errM msgs≠0∨normL msgs≠msgs):=by simp [z,q]
      simp -implicitDefEqProofs only [e1,Bool.false_eq_true,if_false]
      by_cases q2:heard.length<msgs.length
      ·have c:(msgs.length:Int) > (heard.length:Int):=by omega
       simp -implicitDefEqProofs only [k1,k2,Z0d,List.length_map,Z0L,Z00,c,decide_true,if_true,if_neg rr,if_pos q2]
       rfl
      ·have c:¬((msgs.length:Int) > (heard.length:Int)):=by omega
       simp -implicitDefEqProofs only [k1,k2,Z0d,List.length_map,Z0L,Z00,c,decide_false,Bool.false_eq_true,if_false,if_neg rr,if_neg q2]
       rfl
     ·have e1:(!decide (normL msgs=msgs))=true:=by simp [q]
      have rr:(errM msgs≠0∨normL msgs≠msgs) := .inr q
      simp -implicitDefEqProofs only [e1,if_true,if_pos rr]
      rfl
    ·have ez:(!(errM msgs==0))=true:=by simp [z]
     have rr:(errM msgs≠0∨normL msgs≠msgs) := .inl z
     simp -implicitDefEqProofs only [ez,Zfp,Z00,if_true,if_pos rr]
     rfl
   ·show (if chkH node none heard=0 then _ else _)=_
    by_cases z:chkH node none heard=0
    ·rw [if_pos z,if_neg (show ¬chkH node none heard≠0 from fun hh=>hh z)]
    ·rw [if_neg z,if_pos (show chkH node none heard≠0 from z)];rfl
end Go.AM


namespace Go.AM
open Go.Proofs
set_option linter.unusedVariables false
set_option linter.unusedSimpArgs false
set_option linter.constructorNameAsVariable false
set_option maxRecDepth 20000
attribute [local congr] Z0e Z0f Z0g Z0h Z0i Z0j Z0k Z0l Z0m Z0n Z0o Z0p Z0q Z0r Z0s Z0t Z0u Z0v Z0w Z0x Z0y Z0z Z0A Z0B Z0C Z0D Z0E
theorem Zig (l:List Envl) (b:Bool) (hl:l.length<1000000) (h:Hp):Z1M [SL 10 encV b l] h=if (b&&l.isEmpty)=true then some (nilS,h) else some (.sl 10 (h.length+1) 0 l.length l.length false,h++[.arr 10 [] true false, .arr 10 (l.map encV) true false]):=by
 rw [Zri]
 by_cases hb:(b&&l.isEmpty)=true
 ·simp [Z3V,hb]
 ·have hb':(b&&l.isEmpty)=false:=by simpa using hb
  have hle:l.length * 80≤140737488355328:=by omega
  have h2:((l.map encV).all fun e=>e.length==10)=true:=by simp [encV]
  simp [Z3V,hb',bsE,fillS,appE,readSl,hle,h2,ap]
abbrev zO:List AV:=[I 0,I 0,nilS]
theorem bx3 {β:Type} {c:List AV} {h:Hp} (hc:c.length=3) (ho:c.all okC=true) (k:AV→Hp→Option β):effK (boxE 3 (.agg c) h.length) h k=k (.ptr h.length 0 0 1) (h++[.arr 3 [c] true false]):=Z12 3 h.length (.agg c) h k rfl hc ho
theorem R_own (b:Bool) (o:Outb) (hl:o.pend.length<1000000) (H:Hp):∃g,Z1k [ob b o] H=some (.agg [I o.node,I o.next,if (b&&o.pend.isEmpty)=true then nilS else .sl 10 (H.length+3) 0 o.pend.length o.pend.length false],H++g)∧((b&&o.pend.isEmpty)=false→g[3]? = some (.arr 10 (o.pend.map encV) true false)):=by
 obtain ⟨node,next,pend⟩:=o
 rw [ZrW]
 dsimp only at hl ⊢
 obtain ⟨L,hL⟩:∃L:AV,L=SL 10 encV b pend:=⟨_,rfl⟩
 have hok:okC L=true:=by rw [hL];rfl
 obtain ⟨h1,hh1⟩:∃h1:Hp,h1=H++[AObj.arr 3 [[I node,I next,L]] true false]:=⟨_,rfl⟩
 have hl1:h1.length=H.length+1:=by rw [hh1];simp
 obtain ⟨h2,hh2⟩:∃h2:Hp,h2=h1++[AObj.arr 3 [zO] true false]:=⟨_,rfl⟩
 have hl2:h2.length=H.length+2:=by rw [hh2];simp [hl1]
 have b1:∀k:AV→Hp→Option (AV × Hp),effK (boxE 3 (.agg [I node,I next,L]) H.length) H k=k (.ptr H.length 0 0 1) h1:=fun k=>by rw [hh1];exact bx3 rfl (by rw [hL];rfl) k
 have b2:∀k:AV→Hp→Option (AV × Hp),effK (boxE 3 (.agg zO) h1.length) h1 k=k (.ptr h1.length 0 0 1) h2:=fun k=>by rw [hh2];exact bx3 rfl rfl k
 have g0:h2[H.length]? = some (.arr 3 [[I node,I next,L]] true false):=by rw [hh2];exact Z09 (by rw [hh1,Z0O];rfl)
 have g1:h2[h1.length]? = some (.arr 3 [zO] true false):=by rw [hh2,Z0O];rfl
 have l2:∀k:Go.AM.K (AV × Hp),ldK 1 false (.ptr H.length 0 2 1) h2 k=k L:=fun k=>by rw [Z01,g0];rfl
 have fc:=Zig pend b hl h2
 rw [← hL] at fc
 -- the clone,the two boxes
 have key:∀(v:AV) (h3:Hp) (g:Hp),h3=h2++g→(v=nilS∨∃id n,v = .sl 10 id 0 n n false)→Z1M [L] h2=some (v,h3)→Z75 Try.prog Z5Z Z7O NN (fun v h=>some (v,h)) (.agg [I node,I next,L]) H=some (.agg [I node,I next,v],H++([.arr 3 [[I node,I next,v]] true false, .arr 3 [[I node,I next,v]] true false]++g)):=fun v h3 g he hv hf=>by
  have k0:h3[H.length]? = some (.arr 3 [[I node,I next,L]] true false):=by rw [he];exact Z09 g0
  have k1:h3[h1.length]? = some (.arr 3 [zO] true false):=by rw [he];exact Z09 g1
  obtain ⟨h4,hh4⟩:∃h4:Hp,h4=h3.set H.length (.arr 3 [[I node,I next,v]] true false):=⟨_,rfl⟩
  have s1:∀k:AV→Hp→Option (AV × Hp),effK (stE 1 (.ptr H.length 0 2 1) v h3) h3 k=k .u h4:=fun k=>by
   have:stE 1 (.ptr H.length 0 2 1) v h3=some (.u,⟨[(H.length, .arr 3 [[I node,I next,v]] true false)],[],[H.length]⟩):=by
    rw [Z0G,k0]
    rcases hv with rfl | ⟨id,n,rfl⟩<;>simp [putAt]
   rw [Z0F this,hh4]
  have m0:h4[H.length]? = some (.arr 3 [[I node,I next,v]] true false):=by rw [hh4];exact getSelfN k0
  have m1:h4[h1.length]? = some (.arr 3 [zO] true false):=by rw [hh4];exact getSetN k1 (by omega)
  have lw:∀k:Go.AM.K (AV × Hp),ldK 3 true (.ptr H.length 0 0 1) h4 k=k (.agg [I node,I next,v]):=fun k=>by rw [Z01,m0];rfl
  obtain ⟨h5,hh5⟩:∃h5:Hp,h5=h4.set h1.length (.arr 3 [[I node,I next,v]] true false):=⟨_,rfl⟩
  have s2:∀k:AV→Hp→Option (AV × Hp),effK (stE 3 (.ptr h1.length 0 0 1) (.agg [I node,I next,v]) h4) h4 k=k .u h5:=fun k=>by
   have:stE 3 (.ptr h1.length 0 0 1) (.agg [I node,I next,v]) h4=some (.u,⟨[(h1.length, .arr 3 [[I node,I next,v]] true false)],[],[h1.length]⟩):=by
    rw [Z0G,m1]
    rcases hv with rfl | ⟨id,n,rfl⟩<;>simp [putAt]
   rw [Z0F this,hh5]
  have n1:h5[h1.length]? = some (.arr 3 [[I node,I next,v]] true false):=by rw [hh5];exact getSelfN m1
  have lw2:∀k:Go.AM.K (AV × Hp),ldK 3 true (.ptr h1.length 0 0 1) h5 k=k (.agg [I node,I next,v]):=fun k=>by rw [Z01,n1];rfl
  simp -implicitDefEqProofs only [Z75,b1,b2,Z07,Nat.zero_add,l2,ZrU,Z03,hf,s1,lw,s2,lw2]
  congr 2
  rw [hh5,hh4,he,hh2,hh1]
  have e1:(H++[AObj.arr 3 [[I node,I next,L]] true false]).length=H.length+1:=by simp
  rw [e1]
  simp
 by_cases hb:(b&&pend.isEmpty)=true
 ·rw [if_pos hb] at fc
  rw [if_pos hb]
  refine ⟨[.arr 3 [[I node,I next,nilS]] true false, .arr 3 [[I node,I next,nilS]] true false]++[], ?_,fun h=>by rw [hb] at h;cases h⟩
  rw [show ob b ⟨node,next,pend⟩ = .agg [I node,I next,L] by rw [hL]]
  exact key nilS h2 [] (by simp) (.inl rfl) fc
 ·rw [if_neg hb] at fc
  rw [if_neg hb]
  refine ⟨[.arr 3 [[I node,I next, .sl 10 (H.length+3) 0 pend.length pend.length false]] true false, .arr 3 [[I node,I next, .sl 10 (H.length+3) 0 pend.length pend.length false]] true false]++[.arr 10 [] true false, .arr 10 (pend.map encV) true false], ?_,fun _ => ?_⟩
  ·rw [show ob b ⟨node,next,pend⟩ = .agg [I node,I next,L] by rw [hL]]
   have:=key _ _ [.arr 10 [] true false, .arr 10 (pend.map encV) true false] rfl (.inr ⟨_,_,rfl⟩) fc
   rw [hl2] at this
   exact this
  ·rfl
theorem own_D (b:Bool) (o:Outb) (hl:o.pend.length<1000000) (h:Hp) (base:Nat):newA Z1k [ob b o] h base=if (b&&o.pend.isEmpty)=true then some (.agg [I o.node,I o.next,nilS],⟨[],[],[]⟩) else some (.agg [I o.node,I o.next, .sl 10 base 0 o.pend.length o.pend.length false],⟨[],[.arr 10 (o.pend.map encV) true false],[]⟩):=by
 by_cases hb:(b&&o.pend.isEmpty)=true
 ·rw [if_pos hb]
  refine ZgK ⟨rfl,fun H => ?_⟩ h base
  obtain ⟨g,h1, -⟩:=R_own b o hl H
  rw [if_pos hb] at h1
  exact ⟨g,h1⟩
 ·rw [if_neg hb]
  refine ZgJ (x:=([I o.node,I o.next],10,o.pend.map encV,o.pend.length,o.pend.length,false)) ⟨rfl,fun e he c hc => ?_,fun H => ?_⟩ h base
  ·obtain ⟨x, -,rfl⟩:=List.mem_map.1 he
   simp only [encV,List.mem_cons,List.not_mem_nil,or_false] at hc
   rcases hc with rfl | rfl | rfl | rfl | rfl | rfl | rfl | rfl | rfl | rfl<;>rfl
  ·obtain ⟨g,h1,h2⟩:=R_own b o hl H
   rw [if_neg hb] at h1
   exact ⟨g,3,h1,h2 (by simpa using hb)⟩
theorem Zw3 (n:Int) (h:Hp):Z67 [I n] h=some (if isNode n=true then .tup [ob true ⟨n,1,[]⟩,I 0] else .tup [ob true ⟨0,0,[]⟩,I 2],h):=by
 have fn:=ZbO n
 have bx:∀k:AV→Hp→Option AV,effK (boxE 3 (.agg zO) ([]:Hp).length) [] k=k (.ptr 0 0 0 1) [.arr 3 [zO] true false]:=fun k=>rfl
 have b1:∀k:Go.AM.K AV,buildK zO [(some (0,1),I n),(some (1,1),I 1)] k=k (.agg [I n,I 1,nilS]):=fun k=>rfl
 have b2:∀k:Go.AM.K AV,buildK zO [] k=k (.agg zO):=fun k=>rfl
 have st:∀(a b:Int) (k:AV→Hp→Option AV),effK (stE 3 (.ptr 0 0 0 1) (.agg [I a,I b,nilS]) [.arr 3 [zO] true false]) [.arr 3 [zO] true false] k=k .u [.arr 3 [[I a,I b,nilS]] true false]:=fun a b k=>Z0F (v := .u) (id:=0) (o := .arr 3 [[I a,I b,nilS]] true false) (ft:=[0]) rfl k
 have ld:∀(a b:Int) (k:Go.AM.K AV),ldK 3 true (.ptr 0 0 0 1) [.arr 3 [[I a,I b,nilS]] true false] k=k (.agg [I a,I b,nilS]):=fun a b k=>rfl
 cases hn:isNode n with
 | true=>
  rw [hn] at fn
  refine (Zhz (a0:=I n) (v := .tup [.agg [I n,I 1,nilS],I 0]) rfl ?_ h).trans rfl
  simp -implicitDefEqProofs only [Z6Q,bx,Zhy,Z03,fn,Z0J,Bool.not_true,Z00,Bool.false_eq_true,if_false,b1,st,ld]
  rfl
 | false=>
  rw [hn] at fn
  refine (Zhz (a0:=I n) (v := .tup [.agg zO,I 2]) rfl ?_ h).trans rfl
  simp -implicitDefEqProofs only [Z6Q,bx,Zhy,Z03,fn,Z0J,Bool.not_false,Z00,if_true,b2,st,ld]
  rfl
end Go.AM


namespace Go.AM
open Go.Proofs
set_option linter.unusedVariables false
set_option linter.unusedSimpArgs false
set_option linter.constructorNameAsVariable false
set_option maxRecDepth 20000
section
variable {β:Type} {P:Program} {T:Tab} {D:DTab} {N:Nat} {K:AV→Hp→Option β}
theorem Zw4 {x0:Hp→Option β} {xr:AV→Hp→Option β} {l:List Envl} {v fv:AV} {h:Hp} {p:Envl→Bool} (hl:l.length<4611686018427387904) (hE:∀(i:Nat) (x:Envl),l[i]? = some x→∀k:Go.AM.K β,iaK 10 v (I i) (fun q=>ldK 10 true q h k)=k (.agg (encV x))) (hp:∀x ∈ l,∀k:AV→Hp→Option β,callVK T fv [.agg (encV x)] h k=k (B (p x)) h):
  ∀(n i:Nat),i≤l.length→l.length<i+n→Z3Z P T D N x0 xr n v fv (I l.length) (I i) h=match (l.drop i).findIdx? p with | some j=>xr (I ((i+j:Nat):Int)) h | none=>x0 h:=by
 intro n
 induction n with
 | zero=>intro i h1 h2;omega
 | succ n ih=>
  intro i h1 h2
  show Z9t P T D N (Z3Z P T D N x0 xr n) x0 xr _ _ _ _ h=_
  unfold Z9t
  rcases Nat.lt_or_ge i l.length with hi | hi
  ·have hx:l[i]? = some l[i]:=List.getElem?_eq_getElem hi
   have hlt:((i:Int)<(l.length:Int)):=by omega
   have hw:IntKind.i64.wrap ((i:Int)+1)=((i+1:Nat):Int):=by rw [wrap64 (by omega) (by omega)];omega
   have hpx:=hp l[i] (List.getElem_mem hi)
   have hex:=hE i l[i] hx
   rw [List.drop_eq_getElem_cons hi,List.findIdx?_cons]
   simp -implicitDefEqProofs only [Z08,hlt,decide_true,Z00,if_true,hex,hpx,Z0I,hw]
   cases hc:p l[i] with
   | true=>simp
   | false=>
    have h3:=ih (i+1) hi (by omega)
    simp only [Bool.false_eq_true,if_false]
    refine h3.trans ?_
    cases (List.drop (i+1) l).findIdx? p with
    | none=>rfl
    | some j=>
     show xr (I ((i+1+j:Nat):Int)) h=xr (I ((i+(j+1):Nat):Int)) h
     rw [show i+1+j=i+(j+1) by omega]
  ·have:i=l.length:=by omega
   subst this
   have c1:¬((l.length:Int)<(l.length:Int)):=by omega
   simp [c1]
theorem Zdv {l:List Envl} {v fv:AV} {h:Hp} {p:Envl→Bool} {K:AV→Hp→Option β} (hl:l.length<N) (hN:l.length<4611686018427387904) (hL:∀k:Go.AM.K β,lenK v k=k (I l.length)) (hE:∀(i:Nat) (x:Envl),l[i]? = some x→∀k:Go.AM.K β,iaK 10 v (I i) (fun q=>ldK 10 true q h k)=k (.agg (encV x))) (hp:∀x ∈ l,∀k:AV→Hp→Option β,callVK T fv [.agg (encV x)] h k=k (B (p x)) h):
  Z40 P T D N K v fv h=K (I (match l.findIdx? p with | some j=>(j:Int) | none => -1)) h:=by
 unfold Z40
 simp only [hL]
 have:=Zw4 (P:=P) (D:=D) (N:=N) (x0:=fun h=>Z9s P T D N K h) (xr:=fun a h=>K a h) hN hE hp N 0 (Nat.zero_le _) (by omega)
 simp only [List.drop_zero] at this
 refine this.trans ?_
 cases l.findIdx? p with
 | none=>rfl
 | some j=>simp
theorem Zw5 {x0:AV→AV→Hp→Option β} {l:List Envl} {k:Nat} {fv:AV} {h:Hp} {p:Envl→Bool} (hl:l.length<4611686018427387904) (hp:∀x ∈ l,∀hh:Hp,Kept h hh k→∀K:AV→Hp→Option β,callVK T fv [.agg (encV x)] hh K=K (B (p x)) hh):
  ∀(n i w:Nat) (hh:Hp) (W:List Envl),i≤l.length→l.length<i+n→DelInv encV p 10 l h k i w hh W→
  ∃(w':Nat) (hh':Hp) (W':List Envl),Z1V P T D N x0 n (.sl 10 k 0 l.length l.length false) fv (I w) (I i) hh=x0 (.sl 10 k 0 l.length l.length false) (I w') hh'∧DelInv encV p 10 l h k l.length w' hh' W':=by
 intro n
 induction n with
 | zero=>intro i w hh W h1 h2;omega
 | succ n ih=>
  intro i w hh W h1 h2 J
  have lL:∀k':Go.AM.K β,lenK (.sl 10 k 0 l.length l.length false) k'=k' (I l.length):=fun k'=>rfl
  rcases Nat.lt_or_ge i l.length with hi | hi
  ·have hx:l[i]? = some l[i]:=List.getElem?_eq_getElem hi
   have hxl:l[i] ∈ l:=List.getElem_mem hi
   generalize l[i]=x at hx hxl
   have hlt:((i:Int)<(l.length:Int)):=by omega
   have hw:IntKind.i64.wrap ((i:Int)+1)=((i+1:Nat):Int):=by rw [wrap64 (by omega) (by omega)];omega
   have hwi:=J.wi
   have hw1:IntKind.i64.wrap ((w:Int)+1)=((w+1:Nat):Int):=by rw [wrap64 (by omega) (by omega)];omega
   have ia:∀(m:Nat) (hm:m<l.length) (k':Go.AM.K β),iaK 10 (.sl 10 k 0 l.length l.length false) (I m) k'=k' (.ptr k m 0 l.length):=fun m hm k'=>by
    have e1:(0:Int)≤(m:Int):=by omega
    have e2:((m:Nat):Int)<((l.length:Nat):Int):=by omega
    simp [iaK,e2]
   have l1:∀k':Go.AM.K β,ldK 10 true (.ptr k i 0 l.length) hh k'=k' (.agg (encV x)):=fun k'=>ldE (f:=encV) (by simp [encV]) J.at_ J.len (J.get hx) k'
   have bx:∀k':AV→Hp→Option β,effK (boxE 10 (.agg [I 0,I 0,I 0,I 0,I 0,I 0,I 0,I 0,I 0,I 0]) hh.length) hh k'=k' (.ptr hh.length 0 0 1) (hh++[.arr 10 [[I 0,I 0,I 0,I 0,I 0,I 0,I 0,I 0,I 0,I 0]] true false]):=fun k'=>Z12 10 hh.length (.agg [I 0,I 0,I 0,I 0,I 0,I 0,I 0,I 0,I 0,I 0]) hh k' rfl rfl rfl
   have sb:∀k':AV→Hp→Option β,effK (stE 10 (.ptr hh.length 0 0 1) (.agg (encV x)) (hh++[.arr 10 [[I 0,I 0,I 0,I 0,I 0,I 0,I 0,I 0,I 0,I 0]] true false])) (hh++[.arr 10 [[I 0,I 0,I 0,I 0,I 0,I 0,I 0,I 0,I 0,I 0]] true false]) k'=k' .u (hh++[.arr 10 [encV x] true false]):=fun k'=>by
    rw [Z0F (v := .u) (id:=hh.length) (o := .arr 10 [encV x] true false) (ft:=[hh.length]) (by simp [encV]),Z3f];rfl
   have lb:∀k':Go.AM.K β,ldK 10 true (.ptr hh.length 0 0 1) (hh++[.arr 10 [encV x] true false]) k'=k' (.agg (encV x)):=fun k'=>by simp [encV]
   have cp:=hp x hxl (hh++[AObj.arr 10 [encV x] true false]) (J.kept.app _)
   have sw:∀k':AV→Hp→Option β,effK (stE 10 (.ptr k w 0 l.length) (.agg (encV x)) (hh++[.arr 10 [encV x] true false])) (hh++[.arr 10 [encV x] true false]) k'=k' .u ((hh++[AObj.arr 10 [encV x] true false]).set k (.arr 10 ((W.set w x).map encV) true false)):=fun k'=>
    stEl (f:=encV) (i:=w) (fun x=>by simp [encV]) (by simp [encV]) (Z09 J.at_) J.len (by have:=J.len;omega) k'
   have body:∀(w':Nat) (hh':Hp) (W':List Envl),DelInv encV p 10 l h k (i+1) w' hh' W'→∃(w'':Nat) (hh'':Hp) (W'':List Envl),Z1V P T D N x0 n (.sl 10 k 0 l.length l.length false) fv (I w') (I ((i+1:Nat):Int)) hh'=x0 (.sl 10 k 0 l.length l.length false) (I w'') hh''∧DelInv encV p 10 l h k l.length w'' hh'' W'':=fun w' hh' W' J'=>ih (i+1) w' hh' W' hi (by omega) J'
   cases hc:p x with
   | true=>
    obtain ⟨w',hh',W',e1,e2⟩:=body w _ W (J.skip hx hc [AObj.arr 10 [encV x] true false])
    refine ⟨w',hh',W', ?_,e2⟩
    rw [← e1]
    show Z4d P T D N (Z1V P T D N x0 n) x0 _ _ _ _ hh=_
    simp -implicitDefEqProofs only [Z4d,lL,Z08,hlt,decide_true,Z00,if_true,ia i hi,l1,bx,sb,lb,cp,hc,Z0J,Bool.not_true,Bool.false_eq_true,if_false,Z9M,ZcH,Z0I,hw]
   | false=>
    obtain ⟨w',hh',W',e1,e2⟩:=body (w+1) _ _ (J.keep hx hc [AObj.arr 10 [encV x] true false])
    refine ⟨w',hh',W', ?_,e2⟩
    rw [← e1]
    show Z4d P T D N (Z1V P T D N x0 n) x0 _ _ _ _ hh=_
    simp -implicitDefEqProofs only [Z4d,lL,Z08,hlt,decide_true,Z00,if_true,ia i hi,ia w (by omega),l1,bx,sb,lb,cp,hc,Z0J,Bool.not_false,sw,Z9M,ZcH,Z0I,hw,hw1]
  ·have:i=l.length:=by omega
   subst this
   have c1:¬((l.length:Int)<(l.length:Int)):=by omega
   refine ⟨w,hh,W, ?_,J⟩
   show Z4d P T D N (Z1V P T D N x0 n) x0 _ _ _ _ hh=_
   simp -implicitDefEqProofs only [Z4d,lL,Z08,c1,decide_false,Z00,Bool.false_eq_true,if_false]
theorem Zw6 {l:List Envl} {k:Nat} {fv:AV} {h:Hp} {p:Envl→Bool} {K:AV→Hp→Option β} (hk:h[k]? = some (.arr 10 (l.map encV) true false)) (hl:l.length<N) (hN:l.length<1000000)
  (hi:∀K:AV→Hp→Option β,callK (T 70) [.sl 10 k 0 l.length l.length false,fv] h K=K (I (match l.findIdx? p with | some j=>(j:Int) | none => -1)) h)
  (hp:∀x ∈ l,∀hh:Hp,Kept h hh k→∀K:AV→Hp→Option β,callVK T fv [.agg (encV x)] hh K=K (B (p x)) hh):
  ∃hh:Hp,Z4e P T D N K (.sl 10 k 0 l.length l.length false) fv h=K (.sl 10 k 0 (l.filter fun x => !p x).length l.length false) hh∧hh[k]? = some (.arr 10 ((l.filter fun x => !p x).map encV++List.replicate (l.length-(l.filter fun x => !p x).length) [I 0,I 0,I 0,I 0,I 0,I 0,I 0,I 0,I 0,I 0]) true false)∧Kept h hh k:=by
 cases hf:l.findIdx? p with
 | none=>
  have hno:∀x ∈ l,p x=false:=fun x hx=>by have:=List.findIdx?_eq_none_iff.1 hf x hx;simpa using this
  have e:(l.filter fun x => !p x)=l:=List.filter_eq_self.2 fun x hx=>by simp [hno x hx]
  rw [e]
  refine ⟨h, ?_,by rw [Nat.sub_self,List.replicate_zero,List.append_nil];exact hk, .refl h k⟩
  rw [hf] at hi
  simp -implicitDefEqProofs only [Z4e,hi,Z06,beq_self_eq_true,Bool.false_xor,Z00,if_true]
 | some j=>
  rw [hf] at hi
  obtain ⟨hj,hpj,hbef⟩:=List.findIdx?_eq_some_iff_getElem.1 hf
  have hx:l[j]? = some l[j]:=List.getElem?_eq_getElem hj
  have hnb:∀x ∈ l.take j,p x=false:=fun x hx=>by
   obtain ⟨i,hi,rfl⟩:=List.getElem_of_mem hx
   rw [List.length_take] at hi
   have:=hbef i (by omega)
   rw [List.getElem_take]
   simpa using this
  have e:((l.take j).filter fun x => !p x)=l.take j:=List.filter_eq_self.2 fun x hx=>by simp [hnb x hx]
  have J0:DelInv encV p 10 l h k j j h l:=⟨.refl h k,hk,rfl,by rw [e,List.length_take];omega,by rw [e],rfl⟩
  have J1:DelInv encV p 10 l h k (j+1) j h l:=by have:=J0.skip hx hpj [];rwa [List.append_nil] at this
  obtain ⟨w,hh,W,e1,e2⟩:=Zw5 (P:=P) (T:=T) (D:=D) (x0:=fun w27_0 w27_5 h=>Z7b P T D N K w27_0 w27_5 h) (by omega) hp N (j+1) j h l hj (by omega) J1
  have hw:w=(l.filter fun x => !p x).length:=by have:=e2.hw;rwa [List.take_length] at this
  have hpre:W.take w=l.filter fun x => !p x:=by have:=e2.pre;rwa [List.take_length] at this
  have hwl:w≤W.length:=by rw [e2.len];exact e2.wl
  have hj1:((j:Int) == -1)=false:=by rw [beq_eq_false_iff_ne];omega
  have wj:IntKind.i64.wrap ((j:Int)+1)=((j+1:Nat):Int):=by rw [wrap64 (by omega) (by omega)];omega
  have sl1:∀k':Go.AM.K β,sliceK 10 (.sl 10 k 0 l.length l.length false) (some (I w)) none none k'=k' (.sl 10 k w (l.length-w) l.length false):=fun k'=>by
   have:=e2.wl
   simp [sliceK,boundOr,this]
  have sl2:∀k':Go.AM.K β,sliceK 10 (.sl 10 k 0 l.length l.length false) none (some (I w)) none k'=k' (.sl 10 k 0 w l.length false):=fun k'=>by
   have:=e2.wl
   simp [sliceK,boundOr,this]
  have cl:=fun k'=>ZhY (β:=β) (z:=[I 0,I 0,I 0,I 0,I 0,I 0,I 0,I 0,I 0,I 0]) (fr:=l.length) (full:=false) e2.at_ hwl e2.len.symm k'
  rw [e2.len] at cl
  refine ⟨hh.set k (.arr 10 ((W.take w).map encV++List.replicate (l.length-w) [I 0,I 0,I 0,I 0,I 0,I 0,I 0,I 0,I 0,I 0]) true false), ?_, ?_,e2.kept.set _⟩
  ·simp -implicitDefEqProofs only [Z4e,hi,Z06,hj1,Bool.false_xor,Z00,Bool.false_eq_true,if_false,Z0I,wj]
   refine e1.trans ?_
   simp -implicitDefEqProofs only [Z7b,sl1,sl2,cl]
   rw [hw]
  ·rw [List.getElem?_set_self (List.getElem?_eq_some_iff.1 e2.at_).1,hpre,hw]
end
attribute [local congr] Z0e Z0f Z0g Z0h Z0i Z0j Z0k Z0l Z0m Z0n Z0o Z0p Z0q Z0r Z0s Z0t Z0u Z0v Z0w Z0x Z0y Z0z Z0A Z0B Z0C Z0D Z0E
theorem Zih {st:Bool} {h:Hp} {sz id w fr:Nat} {full nl:Bool} {es rest:List (List AV)} (hid:h[id]? = some (.arr sz (es++rest) true nl)) (hw:es.length=w) (hf:(es++rest).length=fr) (ok:okE st es=true):cvt st h (.sl sz id 0 w fr full)=some (.lst sz nl es):=by
 subst hw hf
 have e:((es++rest).drop 0).take es.length=es:=by rw [List.drop_zero,List.take_left]
 simp [cvt,hid,ok]
def againL (to:Int) (l:List Envl):List Envl:=l.filter fun x=>x.to==to
theorem Zii {x:Envl} {to:Int} {h:Hp} {id:Nat} (h1:h[id]? = some (.arr 1 [[I to]] true false)):Z3o [.agg (encV x), .ptr id 0 0 1] h=some (B (!(x.to==to)),h):=by
 refine Zrp (g:=[.arr 10 [encV x] true false]) ?_ rfl
 have bx:∀k:AV→Hp→Option (AV × Hp),effK (boxE 10 (.agg (encV x)) h.length) h k=k (.ptr h.length 0 0 1) (h++[.arr 10 [encV x] true false]):=fun k=>Z12 10 h.length _ h k rfl rfl rfl
 have e1:∀k:Go.AM.K (AV × Hp),ldK 1 false (.ptr id 0 0 1) (h++[.arr 10 [encV x] true false]) k=k (I to):=fun k=>by rw [Z01,Z09 h1];rfl
 simp -implicitDefEqProofs only [Z9N,bx,Z07,Nat.zero_add,nl1,e1,Z06,Bool.true_xor]
theorem Zw7 (l:List Envl) (b:Bool) (to:Int) (hl:l.length<1000) (h:Hp) {id:Nat} (h0:h[id]? = some (.arr 1 [[I to]] true false)):∃c hc v hh,Z1M [SL 10 encV b l] h=some (c,hc)∧Z5W [c, .fn 90 [.ptr id 0 0 1]] hc=some (v,hh)∧(∃w,(∀st,cvt st hh v=some w)∧nrm (.l 10) w = .lst 10 (b&&l.isEmpty) ((againL to l).map encV)):=by
 have hN:=NN_ge
 have rC:=Zig l b (by omega) h
 by_cases hb:(b&&l.isEmpty)=true
 ·rw [if_pos hb] at rC
  obtain ⟨rfl,hl0⟩:=Bool.and_eq_true_iff.1 hb
  have:l=[]:=by simpa using hl0
  subst this
  have fi:Z5V [nilS, .fn 90 [.ptr id 0 0 1]] h=some (I (-1),h):=
   Zhm (g:=[]) (by rw [List.append_nil];exact Zdv (l:=[]) (p:=fun _=>true) (by have:=NN_ge;simp;omega) (by simp) (fun _=>rfl) (by simp) (by simp)) rfl
  refine ⟨nilS,h,nilS,h,rC, ?_,nilS,fun st=>rfl,rfl⟩
  rw [Zho]
  simp -implicitDefEqProofs only [Z4e,Zhn,Z03,fi,Z06,beq_self_eq_true,Bool.false_xor,Z00,if_true]
 ·rw [if_neg hb] at rC
  obtain ⟨hc,hhc⟩:∃hc:Hp,hc=h++[.arr 10 [] true false, .arr 10 (l.map encV) true false]:=⟨_,rfl⟩
  have hlen:hc.length=h.length+2:=by rw [hhc];simp
  have hk:hc[h.length+1]? = some (.arr 10 (l.map encV) true false):=by rw [hhc,Zcw];rfl
  have hid:id<h.length:=(List.getElem?_eq_some_iff.1 h0).1
  have h0c:hc[id]? = some (.arr 1 [[I to]] true false):=by rw [hhc,List.getElem?_append_left hid,h0]
  rw [← hhc] at rC
  have fi:Z5V [.sl 10 (h.length+1) 0 l.length l.length false, .fn 90 [.ptr id 0 0 1]] hc=some (I (match l.findIdx? (fun m => !(m.to==to)) with | some j=>(j:Int) | none => -1),hc):=
   Zhm (g:=[]) (by
    rw [List.append_nil]
    refine Zdv (l:=l) (p:=fun m => !(m.to==to)) (by omega) (by omega) (fun _=>rfl) (fun i x hx k => ?_) (fun x hx k => ?_)
    ·have hi:=(List.getElem?_eq_some_iff.1 hx).1
     have e2:((i:Nat):Int)<((l.length:Nat):Int):=by omega
     have ia:∀k':Go.AM.K (AV × Hp),iaK 10 (.sl 10 (h.length+1) 0 l.length l.length false) (I i) k'=k' (.ptr (h.length+1) i 0 l.length):=fun k'=>by simp [iaK,e2]
     rw [ia]
     exact ldE (f:=encV) rfl hk rfl hx k
    ·show callK (Z5U 90) [.agg (encV x), .ptr id 0 0 1] hc k=_
     simp -implicitDefEqProofs only [Zrs,Z03,Zii h0c]) rfl
  have cb:∀x ∈ l,∀hh:Hp,Kept hc hh (h.length+1)→∀K:AV→Hp→Option (AV × Hp),callVK Z3p (.fn 90 [.ptr id 0 0 1]) [.agg (encV x)] hh K=K (B (!(x.to==to))) hh:=fun x hx hh J K=>by
   have h0h:hh[id]? = some (.arr 1 [[I to]] true false):=by rw [J.same id (by omega) (by omega),h0c]
   show callK (Z3p 90) [.agg (encV x), .ptr id 0 0 1] hh K=_
   simp -implicitDefEqProofs only [Zry,Z03,Zii h0h]
  obtain ⟨hh,e1,e2,e3⟩:=Zw6 (P:=Try.prog) (T:=Z3p) (D:=Z7M) (N:=NN) (K:=fun v h=>some (v,h)) (fv := .fn 90 [.ptr id 0 0 1]) hk (by omega) (by omega) (fun K=>by
   simp -implicitDefEqProofs only [Zhn,Z03,fi]<;>rfl) cb
  rw [show (l.filter fun x => !(!(x.to==to)))=againL to l by unfold againL;congr 1;funext x;simp] at e1 e2
  have hw:(againL to l).length≤l.length:=List.length_filter_le _ _
  refine ⟨_,_,_,hh,rC,by rw [Zho];exact e1, .lst 10 false ((againL to l).map encV),fun st => ?_,by rw [Bool.eq_false_iff.2 hb];rfl⟩
  exact Zih e2 (by simp) (by simp;omega) (Z0U fun x=>by cases st<;>simp [encV,isS])
def againO (o:Outb) (to:Int):List Envl × Int:=if chkO o≠0 then ([],1) else if isNode to=false then ([],2) else (againL to o.pend,0)
theorem Zw8 (b:Bool) (o:Outb) (to:Int) (hl:o.pend.length<1000) (h:Hp):∃b',Z5X [ob b o,I to] h=some (.tup [.lst 10 b' ((againO o to).1.map encV),I (againO o to).2],h):=by
 obtain ⟨node,next,pend⟩:=o
 dsimp only at hl ⊢
 obtain ⟨L,hL⟩:∃L:AV,L=SL 10 encV b pend:=⟨_,rfl⟩
 obtain ⟨H,hH⟩:∃H:Hp,H=[AObj.arr 3 [[I node,I next,L]] true false, .arr 1 [[I to]] true false]:=⟨_,rfl⟩
 have bx:∀k:AV→Hp→Option AV,effK (boxE 3 (.agg [I node,I next,L]) ([]:Hp).length) [] k=k (.ptr 0 0 0 1) [.arr 3 [[I node,I next,L]] true false]:=fun k=>by rw [hL];rfl
 have by_:∀k:AV→Hp→Option AV,effK (boxE 1 (I to) ([AObj.arr 3 [[I node,I next,L]] true false]:Hp).length) [.arr 3 [[I node,I next,L]] true false] k=k (.ptr 1 0 0 1) H:=fun k=>by rw [hH];rfl
 have lw:∀k:Go.AM.K AV,ldK 3 true (.ptr 0 0 0 1) H k=k (.agg [I node,I next,L]):=fun k=>by rw [hH];rfl
 have l2:∀k:Go.AM.K AV,ldK 1 false (.ptr 0 0 2 1) H k=k L:=fun k=>by rw [hH];rfl
 have lt:∀k:Go.AM.K AV,ldK 1 false (.ptr 1 0 0 1) H k=k (I to):=fun k=>by rw [hH];rfl
 have fC:=ZbP b ⟨node,next,pend⟩ (by dsimp only;omega)
 rw [show ob b ⟨node,next,pend⟩ = .agg [I node,I next,L] by rw [hL]] at fC ⊢
 have fn:=ZbO to
 have hnr:nrm (.a [none,none,some 10]) (.agg [I node,I next,L]) = .agg [I node,I next,L]:=by rw [hL];rfl
 have hp:plains [.agg [I node,I next,L],I to]=true:=by rw [hL];rfl
 unfold againO
 by_cases z:chkO ⟨node,next,pend⟩=0
 ·have ez:(chkO ⟨node,next,pend⟩==0)=true:=by simp [z]
  rw [if_neg (show ¬chkO ⟨node,next,pend⟩≠0 from fun hh=>hh z)]
  cases hn:isNode to with
  | false=>
   rw [hn] at fn
   rw [if_pos rfl]
   refine ⟨true,(Zd6 (a0 := .agg [I node,I next,L]) (a1:=I to) (v := .tup [nilS,I 2]) hp ?_ h).trans rfl⟩
   rw [hnr]
   simp -implicitDefEqProofs only [Z5n,bx,by_,lw,Zd5,Zhp,Z03,fC,Z06,ez,Bool.true_xor,Bool.not_true,Z00,Bool.false_eq_true,if_false,lt,fn,Z0J,Bool.not_false,if_true]
   rfl
  | true=>
   rw [hn] at fn
   rw [if_neg (by simp)]
   obtain ⟨c,hc,v,hh,r1,r2,w,w1,w2⟩:=Zw7 pend b to hl H (id:=1) (by rw [hH];rfl)
   rw [← hL] at r1
   refine ⟨b&&pend.isEmpty,(Zd6 (a0 := .agg [I node,I next,L]) (a1:=I to) (v := .tup [w,I 0]) hp ?_ h).trans ?_⟩
   ·rw [hnr]
    simp -implicitDefEqProofs only [Z5n,bx,by_,lw,Zd5,Zhp,ZrD,ZrE,Z03,fC,Z06,ez,Bool.true_xor,Bool.not_true,Z00,Bool.false_eq_true,if_false,lt,fn,Z0J,Z07,Nat.zero_add,l2,r1,r2]
    simp only [Z3g,Z17,Z16,w1,cvt_s]
    rfl
   ·show some (AV.tup [nrm (.l 10) w,I 0],h)=_
    rw [w2]
 ·have ez:(chkO ⟨node,next,pend⟩==0)=false:=by simp [z]
  rw [if_pos (show chkO ⟨node,next,pend⟩≠0 from z)]
  refine ⟨true,(Zd6 (a0 := .agg [I node,I next,L]) (a1:=I to) (v := .tup [nilS,I 1]) hp ?_ h).trans rfl⟩
  rw [hnr]
  simp -implicitDefEqProofs only [Z5n,bx,by_,lw,Zd5,Z03,fC,Z06,ez,Bool.true_xor,Bool.not_false,Z00,if_true]
  rfl
end Go.AM


namespace Go.AM
open Go.Proofs
set_option linter.unusedVariables false
set_option linter.unusedSimpArgs false
set_option linter.constructorNameAsVariable false
set_option maxRecDepth 20000
theorem Zij {node next t:Int} {x:Envl} {c:Bool} (h:(if formE x≠0 then formE x else if x.frm≠node then 10 else if (c||decide (next≤x.num))=true then 5 else t)=0):formE x=0∧x.frm=node∧c=false∧x.num<next∧t=0:=by
 by_cases z:formE x≠0
 ·rw [if_pos z] at h;exact absurd h z
 ·rw [if_neg z] at h
  by_cases q:x.frm≠node
  ·rw [if_pos q] at h;exact absurd h (by decide)
  ·rw [if_neg q] at h
   by_cases q2:(c||decide (next≤x.num))=true
   ·rw [if_pos q2] at h;exact absurd h (by decide)
   ·rw [if_neg q2] at h
    simp only [Bool.or_eq_true,decide_eq_true_eq,not_or,Bool.not_eq_true] at q2
    exact ⟨Classical.byContradiction z,Classical.byContradiction q,q2.1,by omega,h⟩
theorem Z52 {node next:Int}:∀ {l:List Envl} {p:Option Int},chkP node next p l=0→l.Pairwise (fun a b=>a.num<b.num)∧(∀q,p=some q→∀x ∈ l,q<x.num)∧∀x ∈ l,formE x=0∧x.frm=node∧x.num<next
 | [],p,_=>⟨.nil,by simp,by simp⟩
 | x::r,none,h=>by
  obtain ⟨k1,k2, -,k4,k5⟩:=Zij (c:=false) h
  obtain ⟨h1,h2,h3⟩:=Z52 k5
  refine ⟨.cons (h2 _ rfl) h1,fun q hq=>(by cases hq),fun y hy => ?_⟩
  rcases List.mem_cons.1 hy with rfl | hy
  ·exact ⟨k1,k2,k4⟩
  ·exact h3 y hy
 | x::r,some q,h=>by
  obtain ⟨k1,k2,k3,k4,k5⟩:=Zij (c:=decide (x.num≤q)) h
  obtain ⟨h1,h2,h3⟩:=Z52 k5
  have k3':¬x.num≤q:=by simpa using k3
  refine ⟨.cons (h2 _ rfl) h1,fun q' hq y hy => ?_,fun y hy => ?_⟩
  ·injection hq with hq
   subst hq
   rcases List.mem_cons.1 hy with rfl | hy
   ·omega
   ·have:=h2 _ rfl y hy;omega
  ·rcases List.mem_cons.1 hy with rfl | hy
   ·exact ⟨k1,k2,k4⟩
   ·exact h3 y hy
def fromN (l:List Envl) (v:Int):Nat:=l.findIdx fun x=>decide (v≤x.num)
theorem Zik (l:List Envl) (v:Int):fromN l v≤l.length:=List.findIdx_le_length
theorem Zil {l:List Envl} {v:Int} (hs:l.Pairwise fun a b=>a.num<b.num) {j:Nat} {x:Envl} (hx:l[j]? = some x):decide (v≤x.num)=decide (fromN l v≤j):=by
 obtain ⟨hj,rfl⟩:=List.getElem?_eq_some_iff.1 hx
 rw [decide_eq_decide]
 constructor
 ·intro h
  exact Nat.le_of_not_lt fun hc=>by
   have:=List.not_of_lt_findIdx hc
   simp at this
   omega
 ·intro h
  have hc:fromN l v<l.length:=by omega
  have h0:v≤l[fromN l v].num:=by have:=List.findIdx_getElem (xs:=l) (p:=fun x:Envl=>decide (v≤x.num)) (w:=hc);unfold fromN;simpa using this
  rcases Nat.lt_or_ge (fromN l v) j with hlt | hge
  ·have:=List.pairwise_iff_getElem.1 hs _ _ hc hj hlt
   omega
  ·have:fromN l v=j:=by omega
   subst this
   exact h0
def hasN (l:List Envl) (v:Int):Bool:=match l[fromN l v]? with | some x=>x.num==v | none=>false
theorem Zw9 {l:List Envl} {v:Int} (hs:l.Pairwise fun a b=>a.num<b.num):(l.filter fun x => !(x.num==v))=if hasN l v=true then l.eraseIdx (fromN l v) else l:=by
 have hd:=fun (j:Nat) (x:Envl) (hx:l[j]? = some x)=>Zil (v:=v) hs hx
 have one:∀(j:Nat) (x:Envl),l[j]? = some x→x.num=v→j=fromN l v:=fun j x hx hv=>by
  have h1:=hd j x hx
  have h2:fromN l v≤j:=by rw [decide_eq_decide] at h1;exact h1.1 (by omega)
  obtain ⟨hj,rfl⟩:=List.getElem?_eq_some_iff.1 hx
  rcases Nat.lt_or_ge (fromN l v) j with hlt | hge
  ·have hc:fromN l v<l.length:=by omega
   have h3:=List.pairwise_iff_getElem.1 hs _ _ hc hj hlt
   have h4:=hd (fromN l v) _ (List.getElem?_eq_getElem hc)
   rw [decide_eq_decide] at h4
   have:=h4.2 (Nat.le_refl _)
   omega
  ·omega
 by_cases q:hasN l v=true
 ·rw [if_pos q]
  unfold hasN at q
  cases hx:l[fromN l v]? with
  | none=>rw [hx] at q;cases q
  | some x=>
   rw [hx] at q
   simp only [beq_iff_eq] at q
   obtain ⟨hc,hxe⟩:=List.getElem?_eq_some_iff.1 hx
   rw [List.eraseIdx_eq_take_drop_succ]
   have hsplit:l=l.take (fromN l v)++x::l.drop (fromN l v+1):=by
    conv=>lhs;rw [← List.take_append_drop (fromN l v) l]
    rw [List.drop_eq_getElem_cons hc,hxe]
   conv=>lhs;rw [hsplit]
   have k1:((l.take (fromN l v)).filter fun x => !(x.num==v))=l.take (fromN l v):=List.filter_eq_self.2 fun y hy=>by
    obtain ⟨i,hi⟩:=List.getElem?_of_mem hy
    rw [List.getElem?_take] at hi
    split at hi
    ·rename_i hlt
     cases hyv:(y.num==v) with
     | false=>rfl
     | true=>have:=one i y hi (by simpa using hyv);omega
    ·cases hi
   have k2:((l.drop (fromN l v+1)).filter fun x => !(x.num==v))=l.drop (fromN l v+1):=List.filter_eq_self.2 fun y hy=>by
    obtain ⟨i,hi⟩:=List.getElem?_of_mem hy
    rw [List.getElem?_drop] at hi
    cases hyv:(y.num==v) with
    | false=>rfl
    | true=>have:=one _ y hi (by simpa using hyv);omega
   rw [List.filter_append,List.filter_cons_of_neg (by simp [q]),k1,k2]
 ·rw [if_neg q]
  unfold hasN at q
  refine List.filter_eq_self.2 fun y hy => ?_
  obtain ⟨i,hi⟩:=List.getElem?_of_mem hy
  cases hyv:(y.num==v) with
  | false=>rfl
  | true=>
   have e:=one i y hi (by simpa using hyv)
   subst e
   rw [hi] at q
   exact absurd hyv q
def heardO (o:Outb) (hd:Hrd):Outb × Int:=if chkO o≠0 then (⟨0,0,[]⟩,1) else if hd.frm≠o.node then (⟨0,0,[]⟩,10) else if (decide (hd.num<1)||decide (hd.num≥o.next))=true then (⟨0,0,[]⟩,2) else (⟨o.node,o.next,o.pend.filter fun x => !(x.num==hd.num)⟩,0)
theorem Z53 {o:Outb} (h:chkO o=0):isNode o.node=true∧1≤o.next∧o.next≤1073741825∧o.pend.length≤64∧chkP o.node o.next none o.pend=0:=by
 unfold chkO at h
 by_cases q1:(!isNode o.node||decide (o.next<1)||decide (o.next > 1073741825))=true
 ·rw [if_pos q1] at h;exact absurd h (by decide)
 ·rw [if_neg q1] at h
  simp only [Bool.or_eq_true,decide_eq_true_eq,not_or,Bool.not_eq_true'] at q1
  by_cases q2:64<o.pend.length
  ·rw [if_pos q2] at h;exact absurd h (by decide)
  ·rw [if_neg q2] at h
   exact ⟨by simpa using q1.1.1,by omega,by omega,by omega,h⟩
end Go.AM


namespace Go.AM
open Go.Proofs
set_option linter.unusedVariables false
set_option linter.unusedSimpArgs false
set_option linter.constructorNameAsVariable false
set_option maxRecDepth 20000
section
variable {β:Type} {T:Tab} {D:DTab} {N:Nat} {K:AV→Hp→Option β}
theorem Zwa {x0:AV→Hp→Option β} {fv:AV} {h:Hp} {n c:Nat} (hn:n<1000000) (hc:c≤n) (hp:∀j,j<n→∀k:AV→Hp→Option β,callVK T fv [I (j:Nat)] h k=k (B (decide (c≤j))) h):∀(m i j:Nat),i≤c→c≤j→j≤n→j-i<m→
  Z4i Try.prog T D N x0 m fv (I i) (I j) h=x0 (I c) h:=by
 intro m
 induction m with
 | zero=>intro i j _ _ _ h;omega
 | succ m ih=>
  intro i j h1 h2 h3 h4
  show Z7e Try.prog T D N (Z4i Try.prog T D N x0 m) x0 _ _ _ h=_
  by_cases hij:i<j
  ·have hij':(i:Int)<(j:Int):=by omega
   obtain ⟨q,hq⟩:∃q,q=(i+j) / 2:=⟨_,rfl⟩
   have w1:IntKind.i64.wrap ((i:Int)+(j:Int))=((i+j:Nat):Int):=by rw [wrap64 (by omega) (by omega)];omega
   have w2:IntKind.u64.wrap ((i+j:Nat):Int)=((i+j:Nat):Int):=wrapU (by omega) (by omega)
   have w3:IntKind.i64.wrap (q:Int)=(q:Int):=wrap64 (by omega) (by omega)
   have w4:IntKind.i64.wrap ((q:Int)+1)=((q+1:Nat):Int):=by rw [wrap64 (by omega) (by omega)];omega
   have hs:∀k:Go.AM.K β,reckK Try.prog .shr 132 (.s (.int .u64 ((i+j:Nat):Int))) (.s (.int .u64 1)) k=k (.s (.int .u64 (q:Int))):=fun k=>by
    have:=Zfr (P:=Try.prog) (ty:=132) (i+j) 1 (by omega) k
    rw [hq];exact this
   have hpq:=hp q (by omega)
   have a1:∀k:Go.AM.K β,arithK .add (I i) (I j) k=k (I ((i+j:Nat):Int)):=fun k=>by rw [Z0I,w1]
   have a2:∀k:Go.AM.K β,convK Try.prog 3 132 (I ((i+j:Nat):Int)) k=k (.s (.int .u64 ((i+j:Nat):Int))):=fun k=>by rw [Z5e un_3 Z5f,w2]
   have a3:∀k:Go.AM.K β,convK Try.prog 132 3 (.s (.int .u64 (q:Int))) k=k (I q):=fun k=>by rw [Z5e Z5f un_3,w3]
   simp only [Z7e,ZcI,Z08,hij',decide_true,Z00,if_true,a1,a2,hs,a3,hpq,Z0J]
   by_cases hcq:c≤q
   ·rw [decide_eq_true hcq]
    simp only [Bool.not_true,Bool.false_eq_true,if_false]
    exact ih i q h1 hcq (by omega) (by omega)
   ·rw [decide_eq_false hcq]
    simp only [Bool.not_false,if_true,Z0I,w4]
    exact ih (q+1) j (by omega) h2 h3 (by omega)
  ·have:i=j:=by omega
   have:i=c:=by omega
   subst this
   have hij':¬(i:Int)<(j:Int):=by omega
   simp [Z7e,hij']
theorem Zwb {K:AV→Hp→Option β} {fv:AV} {h:Hp} {n c:Nat} (hn:n<1000000) (hN:n<N) (hc:c≤n) (hp:∀j,j<n→∀k:AV→Hp→Option β,callVK T fv [I (j:Nat)] h k=k (B (decide (c≤j))) h):
  Z7f Try.prog T D N K (I n) fv h=K (I c) h:=by
 have:=Zwa (D:=D) (N:=N) (x0:=fun w10_5 h=>Z9Q Try.prog T D N K w10_5 h) hn hc hp N 0 n (by omega) hc (Nat.le_refl _) (by omega)
 exact this
end
attribute [local congr] Z0e Z0f Z0g Z0h Z0i Z0j Z0k Z0l Z0m Z0n Z0o Z0p Z0q Z0r Z0s Z0t Z0u Z0v Z0w Z0x Z0y Z0z Z0A Z0B Z0C Z0D Z0E
def OwnV (h:Hp) (v:AV) (l:List Envl):Prop:=(l=[]∧v=nilS)∨∃id,v = .sl 10 id 0 l.length l.length false∧h[id]? = some (.arr 10 (l.map encV) true false)
theorem OwnV.len {β:Type} {h:Hp} {v:AV} {l:List Envl} (O:OwnV h v l) (k:Go.AM.K β):lenK v k=k (I l.length):=by
 rcases O with ⟨rfl,rfl⟩ | ⟨id,rfl, -⟩<;>rfl
theorem Zwc {l:List Envl} {v:AV} {hd:Hrd} {node next:Int} {h:Hp} {i1 i2 j:Nat} {x:Envl} (O:OwnV h v l) (hx:l[j]? = some x) (h1:h[i1]? = some (.arr 3 [[I node,I next,v]] true false)) (h2:h[i2]? = some (.arr 2 [encH hd] true false)):
  Z4R [I j, .ptr i1 0 0 1, .ptr i2 0 0 1] h=some (B (decide (x.num≥hd.num)),h):=by
 refine Zs1 (g:=[]) ?_ rfl
 rw [List.append_nil]
 obtain ⟨hj, -⟩:=List.getElem?_eq_some_iff.1 hx
 rcases O with ⟨rfl,rfl⟩ | ⟨id,rfl,hid⟩
 ·simp at hj
 have e2:((j:Nat):Int)<((l.length:Nat):Int):=by omega
 have l1:∀k:Go.AM.K (AV × Hp),ldK 1 false (.ptr i1 0 2 1) h k=k (.sl 10 id 0 l.length l.length false):=fun k=>by rw [Z01,h1];rfl
 have ia:∀k:Go.AM.K (AV × Hp),iaK 10 (.sl 10 id 0 l.length l.length false) (I j) k=k (.ptr id j 0 l.length):=fun k=>by simp [iaK,e2]
 have lx:∀k:Go.AM.K (AV × Hp),ldK 1 false (.ptr id j 2 l.length) h k=k (I x.num):=fun k=>by simp [hid,hx,pickC,encV]
 have l2:∀k:Go.AM.K (AV × Hp),ldK 1 false (.ptr i2 0 1 1) h k=k (I hd.num):=fun k=>by rw [Z01,h2];rfl
 simp -implicitDefEqProofs only [Z9R,Z07,Nat.zero_add,l1,ia,lx,l2,Z0T]
theorem Zwd {l:List Envl} {v:AV} {hd:Hrd} {node next:Int} {h:Hp} {i1 i2:Nat} (hs:l.Pairwise fun a b=>a.num<b.num) (hl:l.length<1000000) (O:OwnV h v l) (h1:h[i1]? = some (.arr 3 [[I node,I next,v]] true false)) (h2:h[i2]? = some (.arr 2 [encH hd] true false)):
  Z7P [I l.length, .fn 93 [.ptr i1 0 0 1, .ptr i2 0 0 1]] h=some (I (fromN l hd.num),h):=by
 refine Zs8 (g:=[]) ?_ rfl
 rw [List.append_nil]
 refine Zwb hl (by have:=NN_ge;omega) (Zik l hd.num) fun j hj k => ?_
 have hx:=List.getElem?_eq_getElem hj
 have:=Zwc O hx h1 h2
 show callK (Z60 93) [I j, .ptr i1 0 0 1, .ptr i2 0 0 1] h k=_
 rw [← Zil hs hx]
 simp -implicitDefEqProofs only [Zs4,Z03,this]
theorem Zwe {l:List Envl} {h:Hp} {id i:Nat} (hid:h[id]? = some (.arr 10 (l.map encV) true false)) (hi:i<l.length) (hl:l.length<100000):Z61 [.sl 10 id 0 l.length l.length false,I i,I ((i+1:Nat):Int)] h=some (.sl 10 id 0 (l.eraseIdx i).length l.length false,h.set id (.arr 10 ((l.eraseIdx i).map encV++[zE]) true false)):=by
 obtain ⟨n,hn⟩:∃n,n=l.length:=⟨_,rfl⟩
 have hle:(l.eraseIdx i).length=n-1:=by rw [List.length_eraseIdx];simp [hi,hn]
 obtain ⟨j,hj⟩:∃j,j=i+1:=⟨_,rfl⟩
 rw [← hn,hle, ← hj,Zsd]
 have hA:j≤n:=by omega
 have hB:i≤n:=by omega
 have hC:i≤j:=by omega
 have hD:n-1≤n:=by omega
 have ln:∀(m:Nat) (k:Go.AM.K (AV × Hp)),lenK (.sl 10 id 0 m n false) k=k (I m):=fun m k=>rfl
 have s1:∀k:Go.AM.K (AV × Hp),sliceK 10 (.sl 10 id 0 n n false) (some (I i)) (some (I j)) (some (I n)) k=k (.sl 10 id i (j-i) n (n==j)):=fun k=>by
  simp [sliceK,boundOr,hA,hB,hC]
 have s2:∀k:Go.AM.K (AV × Hp),sliceK 10 (.sl 10 id 0 n n false) none (some (I i)) none k=k (.sl 10 id 0 i n false):=fun k=>by
  simp [sliceK,boundOr,hA,hB,hC]
 have s3:∀k:Go.AM.K (AV × Hp),sliceK 10 (.sl 10 id 0 n n false) (some (I j)) none none k=k (.sl 10 id j (n-j) n false):=fun k=>by
  simp [sliceK,boundOr,hA,hB,hC]
 have s4:∀k:Go.AM.K (AV × Hp),sliceK 10 (.sl 10 id 0 (n-1) n false) (some (I ((n-1:Nat):Int))) (some (I n)) none k=k (.sl 10 id (n-1) (n-(n-1)) n false):=fun k=>by
  simp [sliceK,boundOr,hD]
 have ne:((i:Int)==(j:Int))=false:=by rw [beq_eq_false_iff_ne];omega
 obtain ⟨W,hW⟩:∃W:List Envl,W=l.eraseIdx i++l.drop (n-1):=⟨_,rfl⟩
 have hWl:W.length=n:=by rw [hW,List.length_append,hle,List.length_drop];omega
 have rd:readSl h (.sl 10 id j (n-j) n false)=some ((l.drop j).map encV):=by
  unfold readSl
  simp only [hid]
  rw [if_pos ⟨by simp [hn],trivial,by simp;omega⟩,List.take_of_length_le (by simp;omega),List.map_drop]
 have hall:(((l.drop j).map encV).all fun e=>e.length==10)=true:=by
  rw [List.all_eq_true]
  intro e he
  obtain ⟨x, -,rfl⟩:=List.mem_map.1 he
  rfl
 have ap1:appE 10 80 (.sl 10 id 0 i n false) (.sl 10 id j (n-j) n false) h h.length=some (.sl 10 id 0 (n-1) n false,⟨[(id, .arr 10 (W.map encV) true false)],[],[id,id]⟩):=by
  unfold appE
  rw [rd]
  simp only [hid,List.length_map,List.length_drop]
  rw [if_pos ⟨by omega,trivial,by omega,hall⟩,if_neg (by simp),if_neg (by simp;omega),if_pos ⟨trivial,trivial,by omega⟩]
  have e1:i+(l.length-j)=n-1:=by omega
  have e2:0+i+(l.length-j)=n-1:=by omega
  rw [e1,e2,Nat.zero_add,hW,List.eraseIdx_eq_take_drop_succ, ← hj,List.map_append,List.map_append,List.map_take,List.map_drop,List.map_drop]
  rfl
 have e1:∀k:AV→Hp→Option (AV × Hp),effK (appE 10 80 (.sl 10 id 0 i n false) (.sl 10 id j (n-j) n false) h h.length) h k=k (.sl 10 id 0 (n-1) n false) (h.set id (.arr 10 (W.map encV) true false)):=fun k=>Z0F ap1 k
 have hset:(h.set id (.arr 10 (W.map encV) true false))[id]? = some (.arr 10 (W.map encV) true false):=getSelfN hid
 have cl:=fun k:AV→Hp→Option (AV × Hp)=>ZhY (z:=zE) (w:=n-1) (fr:=n) (full:=false) hset (by omega) hWl.symm k
 rw [hWl] at cl
 have e5:W.take (n-1)=l.eraseIdx i:=by rw [hW, ← hle,List.take_left]
 rw [e5,show n-(n-1)=1 by omega] at cl
 rw [show n-(n-1)=1 by omega] at s4
 simp -implicitDefEqProofs only [Z9S,ln,s1,Z06,ne,Bool.false_xor,Z00,Bool.false_eq_true,if_false,s2,s3,e1,s4,cl,List.set_set]
 rfl
theorem Zwf (b:Bool) (o:Outb) (hl:o.pend.length<1000000) (H:Hp):∃v g,Z1k [ob b o] H=some (.agg [I o.node,I o.next,v],H++g)∧OwnV (H++g) v o.pend∧(v=nilS∨∃id n,v = .sl 10 id 0 n n false):=by
 obtain ⟨g,h1,h2⟩:=R_own b o hl H
 by_cases hb:(b&&o.pend.isEmpty)=true
 ·rw [if_pos hb] at h1
  exact ⟨nilS,g,h1, .inl ⟨by simpa using (Bool.and_eq_true_iff.1 hb).2,rfl⟩, .inl rfl⟩
 ·rw [if_neg hb] at h1
  refine ⟨_,g,h1, .inr ⟨H.length+3,rfl, ?_⟩, .inr ⟨_,_,rfl⟩⟩
  rw [List.getElem?_append_right (by omega),show H.length+3-H.length=3 by omega]
  exact h2 (by simpa using hb)
theorem Zwg (b:Bool) (o:Outb) (hd:Hrd) (hl:o.pend.length<1000) (h:Hp):∃b',Z63 [ob b o, .agg (encH hd)] h=some (.tup [ob b' (heardO o hd).1,I (heardO o hd).2],h):=by
 obtain ⟨node,next,pend⟩:=o
 dsimp only at hl
 obtain ⟨L,hL⟩:∃L:AV,L=SL 10 encV b pend:=⟨_,rfl⟩
 obtain ⟨H,hH⟩:∃H:Hp,H=[AObj.arr 3 [[I node,I next,L]] true false, .arr 2 [encH hd] true false, .arr 3 [zO] true false]:=⟨_,rfl⟩
 have bx:∀k:AV→Hp→Option AV,effK (boxE 3 (.agg [I node,I next,L]) ([]:Hp).length) [] k=k (.ptr 0 0 0 1) [.arr 3 [[I node,I next,L]] true false]:=fun k=>by rw [hL];rfl
 have by_:∀k:AV→Hp→Option AV,effK (boxE 2 (.agg (encH hd)) ([AObj.arr 3 [[I node,I next,L]] true false]:Hp).length) [.arr 3 [[I node,I next,L]] true false] k=k (.ptr 1 0 0 1) [.arr 3 [[I node,I next,L]] true false, .arr 2 [encH hd] true false]:=fun k=>rfl
 have bz:∀k:AV→Hp→Option AV,effK (boxE 3 (.agg zO) ([AObj.arr 3 [[I node,I next,L]] true false, .arr 2 [encH hd] true false]:Hp).length) [.arr 3 [[I node,I next,L]] true false, .arr 2 [encH hd] true false] k=k (.ptr 2 0 0 1) H:=fun k=>by rw [hH];rfl
 have lw:∀k:Go.AM.K AV,ldK 3 true (.ptr 0 0 0 1) H k=k (.agg [I node,I next,L]):=fun k=>by rw [hH];rfl
 have l0:∀k:Go.AM.K AV,ldK 1 false (.ptr 0 0 0 1) H k=k (I node):=fun k=>by rw [hH];rfl
 have l1:∀k:Go.AM.K AV,ldK 1 false (.ptr 0 0 1 1) H k=k (I next):=fun k=>by rw [hH];rfl
 have h0:∀k:Go.AM.K AV,ldK 1 false (.ptr 1 0 0 1) H k=k (I hd.frm):=fun k=>by rw [hH];rfl
 have h1:∀k:Go.AM.K AV,ldK 1 false (.ptr 1 0 1 1) H k=k (I hd.num):=fun k=>by rw [hH];rfl
 have bd:∀k:Go.AM.K AV,buildK zO [] k=k (.agg zO):=fun k=>rfl
 have fC:=ZbP b ⟨node,next,pend⟩ (by dsimp only;omega)
 have eo:ob b ⟨node,next,pend⟩ = .agg [I node,I next,L]:=by rw [hL]
 have hnr:nrm (.a [none,none,some 10]) (.agg [I node,I next,L]) = .agg [I node,I next,L]:=by rw [hL];rfl
 have hp:plains [.agg [I node,I next,L], .agg (encH hd)]=true:=by rw [hL];rfl
 -- the answer's box
 have stz:∀(h:Hp),h[2]? = some (.arr 3 [zO] true false)→∀v:AV,(v=nilS∨∃id n m,v = .sl 10 id 0 n m false)→(∀k:AV→Hp→Option AV,effK (stE 3 (.ptr 2 0 0 1) (.agg [I node,I next,v]) h) h k=k .u (h.set 2 (.arr 3 [[I node,I next,v]] true false))):=fun h g v hv k=>by
  have:stE 3 (.ptr 2 0 0 1) (.agg [I node,I next,v]) h=some (.u,⟨[(2, .arr 3 [[I node,I next,v]] true false)],[],[2]⟩):=by
   rw [Z0G,g]
   rcases hv with rfl | ⟨id,n,m,rfl⟩<;>simp [putAt]
  exact Z0F this k
 have zero:∀e:Int,(∀k:AV→Hp→Option AV,effK (stE 3 (.ptr 2 0 0 1) (.agg zO) H) H k=k .u H)∧(∀k:Go.AM.K AV,ldK 3 true (.ptr 2 0 0 1) H k=k (.agg zO)):=fun e=>⟨fun k=>by rw [hH];exact Z0F (v := .u) (id:=2) (o := .arr 3 [zO] true false) (ft:=[2]) rfl k,fun k=>by rw [hH];rfl⟩
 obtain ⟨z1,z2⟩:=zero 0
 rw [eo] at fC ⊢
 unfold heardO
 by_cases z:chkO ⟨node,next,pend⟩=0
 ·have ez:(chkO ⟨node,next,pend⟩==0)=true:=by simp [z]
  rw [if_neg (show ¬chkO ⟨node,next,pend⟩≠0 from fun hh=>hh z)]
  by_cases q1:hd.frm=node
  ·have e1:(hd.frm==node)=true:=by simp [q1]
   rw [if_neg (show ¬hd.frm≠node from fun hh=>hh q1)]
   by_cases q2:(decide (hd.num<1)||decide (hd.num≥next))=true
   ·rw [if_pos q2]
    refine ⟨true,(Z64 (a0 := .agg [I node,I next,L]) (a1 := .agg (encH hd)) (v := .tup [.agg zO,I 2]) hp ?_ h).trans rfl⟩
    rw [hnr]
    simp -implicitDefEqProofs only [Z3h,bx,by_,bz,lw,Z62,Z03,fC,Z06,ez,Bool.true_xor,Bool.not_true,Z00,Bool.false_eq_true,if_false,Z07,Nat.zero_add,h0,l0,e1,h1,l1,Z08,Z0T,Z0M,q2,if_true,bd,z1,z2]
    rfl
   ·have q2':(decide (hd.num<1)||decide (hd.num≥next))=false:=by simpa using q2
    rw [if_neg q2]
    obtain ⟨k1,k2,k3,k4,k5⟩:=Z53 z
    dsimp only at k1 k2 k3 k4 k5
    obtain ⟨hs, -, -⟩:=Z52 k5
    obtain ⟨v,g,r1,O,hv⟩:=Zwf b ⟨node,next,pend⟩ (by dsimp only;omega) H
    rw [eo] at r1
    dsimp only at r1 O
    obtain ⟨H1,hH1⟩:∃H1:Hp,H1=H++g:=⟨_,rfl⟩
    rw [← hH1] at r1 O
    obtain ⟨H2,hH2⟩:∃H2:Hp,H2=H1++[AObj.arr 3 [[I node,I next,v]] true false]:=⟨_,rfl⟩
    have bq:∀k:AV→Hp→Option AV,effK (boxE 3 (.agg zO) H1.length) H1 k=k (.ptr H1.length 0 0 1) (H1++[.arr 3 [zO] true false]):=fun k=>bx3 rfl rfl k
    have sq:∀k:AV→Hp→Option AV,effK (stE 3 (.ptr H1.length 0 0 1) (.agg [I node,I next,v]) (H1++[.arr 3 [zO] true false])) (H1++[.arr 3 [zO] true false]) k=k .u H2:=fun k=>by
     have:stE 3 (.ptr H1.length 0 0 1) (.agg [I node,I next,v]) (H1++[.arr 3 [zO] true false])=some (.u,⟨[(H1.length, .arr 3 [[I node,I next,v]] true false)],[],[H1.length]⟩):=by
      rw [Z0G,Z0O]
      rcases hv with rfl | ⟨id,n,rfl⟩<;>simp [putAt]
     rw [Z0F this,hH2,Z3f];rfl
    have O2:OwnV H2 v pend:=by
     rcases O with O | ⟨id,rfl,hid⟩
     ·exact .inl O
     ·exact .inr ⟨id,rfl,by rw [hH2];exact Z09 hid⟩
    have gb:H2[H1.length]? = some (.arr 3 [[I node,I next,v]] true false):=by rw [hH2,Z0O];rfl
    have g1:H2[1]? = some (.arr 2 [encH hd] true false):=by rw [hH2];exact Z09 (by rw [hH1];exact Z09 (by rw [hH];rfl))
    have g2:H2[2]? = some (.arr 3 [zO] true false):=by rw [hH2];exact Z09 (by rw [hH1];exact Z09 (by rw [hH];rfl))
    have hlt:2<H1.length:=by rw [hH1,hH];simp
    have fs:=Zwd (hd:=hd) hs (by omega) O2 gb g1
    have lv:∀k:Go.AM.K AV,ldK 1 false (.ptr H1.length 0 2 1) H2 k=k v:=fun k=>by rw [Z01,gb];rcases hv with rfl | ⟨id,n,rfl⟩<;>rfl
    have hlen:=fun k:Go.AM.K AV=>O.len k
    have lh:∀k:Go.AM.K AV,ldK 1 false (.ptr 1 0 1 1) H2 k=k (I hd.num):=fun k=>by rw [Z01,g1];rfl
    have lq:∀k:Go.AM.K AV,ldK 3 true (.ptr H1.length 0 0 1) H2 k=k (.agg [I node,I next,v]):=fun k=>by rw [Z01,gb];rcases hv with rfl | ⟨id,n,rfl⟩<;>rfl
    have hfl:=Zik pend hd.num
    have hcut:=Zw9 (v:=hd.num) hs
    -- it stays as it is
    have stay:hasN pend hd.num=false→∃b',∃w,Z5o Try.prog Z27 Z7Q NN (fun v g=>cvt false g v) (.ptr 2 0 0 1) (.ptr H1.length 0 0 1) H2=some w∧nrmR [.a [none,none,some 10], .o] w = .tup [ob b' ⟨node,next,pend.filter fun x => !(x.num==hd.num)⟩,I 0]:=fun hno=>by
     rw [hcut,if_neg (by rw [hno];simp)]
     have hv':v=nilS∨∃id n m,v = .sl 10 id 0 n m false:=by
      rcases hv with rfl | ⟨id,n,rfl⟩
      ·exact .inl rfl
      ·exact .inr ⟨id,n,n,rfl⟩
     have s2:=stz H2 g2 v hv'
     have g3:(H2.set 2 (.arr 3 [[I node,I next,v]] true false))[2]? = some (.arr 3 [[I node,I next,v]] true false):=getSelfN g2
     have l3:∀k:Go.AM.K AV,ldK 3 true (.ptr 2 0 0 1) (H2.set 2 (.arr 3 [[I node,I next,v]] true false)) k=k (.agg [I node,I next,v]):=fun k=>by rw [Z01,g3];rcases hv with rfl | ⟨id,n,rfl⟩<;>rfl
     rcases O2 with ⟨rfl,rfl⟩ | ⟨id,rfl,hid⟩
     ·refine ⟨true, .tup [.agg [I node,I next,nilS],I 0], ?_,rfl⟩
      simp -implicitDefEqProofs only [Z5o,lq,s2,l3]
      rfl
     ·have hne:2≠id:=by rintro rfl;rw [g2] at hid;injection hid with hid;injection hid with e _;cases e
      have hid2:(H2.set 2 (.arr 3 [[I node,I next, .sl 10 id 0 pend.length pend.length false]] true false))[id]? = some (.arr 10 (pend.map encV) true false):=getSetN hid hne
      refine ⟨false, .tup [.agg [I node,I next, .lst 10 false (pend.map encV)],I 0], ?_,rfl⟩
      simp -implicitDefEqProofs only [Z5o,lq,s2,l3]
      simp only [Z3g,Z17,Z16,Z3x,cvt_s,Z0X (st:=false) (n:=pend.length) (fr:=pend.length) (full:=false) hid2 (by simp) (by simp) (Z0U fun x=>by simp [encV])]
      rfl
    by_cases q3:fromN pend hd.num<pend.length
    ·have c3:(((fromN pend hd.num:Nat):Int)<(pend.length:Int)):=by omega
     have hx:pend[fromN pend hd.num]? = some pend[fromN pend hd.num]:=List.getElem?_eq_getElem q3
     generalize pend[fromN pend hd.num]=x at hx
     obtain ⟨id,rfl,hid⟩:∃id,v = .sl 10 id 0 pend.length pend.length false∧H2[id]? = some (.arr 10 (pend.map encV) true false):=by
      rcases O2 with ⟨rfl, -⟩ | O2
      ·simp at q3
      ·exact O2
     have ia:∀k:Go.AM.K AV,iaK 10 (.sl 10 id 0 pend.length pend.length false) (I (fromN pend hd.num)) k=k (.ptr id (fromN pend hd.num) 0 pend.length):=fun k=>by simp [iaK,c3]
     have lx:∀k:Go.AM.K AV,ldK 1 false (.ptr id (fromN pend hd.num) 2 pend.length) H2 k=k (I x.num):=fun k=>by simp [hid,hx,pickC,encV]
     cases q4:x.num==hd.num with
     | true=>
      rw [hcut,if_pos (by unfold hasN;rw [hx];exact q4)]
      have hD:=Zwe hid q3 (by omega)
      obtain ⟨H3,hH3⟩:∃H3:Hp,H3=H2.set id (.arr 10 ((pend.eraseIdx (fromN pend hd.num)).map encV++[zE]) true false):=⟨_,rfl⟩
      rw [← hH3] at hD
      have ne1:id≠H1.length:=by rintro rfl;rw [gb] at hid;injection hid with hid;injection hid with e _;cases e
      have ne2:id≠2:=by rintro rfl;rw [g2] at hid;injection hid with hid;injection hid with e _;cases e
      have gb3:H3[H1.length]? = some (.arr 3 [[I node,I next, .sl 10 id 0 pend.length pend.length false]] true false):=by rw [hH3];exact getSetN gb ne1
      have g23:H3[2]? = some (.arr 3 [zO] true false):=by rw [hH3];exact getSetN g2 ne2
      have hid3:H3[id]? = some (.arr 10 ((pend.eraseIdx (fromN pend hd.num)).map encV++[zE]) true false):=by rw [hH3];exact getSelfN hid
      obtain ⟨V,hV⟩:∃V:AV,V = .sl 10 id 0 (pend.eraseIdx (fromN pend hd.num)).length pend.length false:=⟨_,rfl⟩
      rw [← hV] at hD
      obtain ⟨H4,hH4⟩:∃H4:Hp,H4=H3.set H1.length (.arr 3 [[I node,I next,V]] true false):=⟨_,rfl⟩
      have s3:∀k:AV→Hp→Option AV,effK (stE 1 (.ptr H1.length 0 2 1) V H3) H3 k=k .u H4:=fun k=>by
       have:stE 1 (.ptr H1.length 0 2 1) V H3=some (.u,⟨[(H1.length, .arr 3 [[I node,I next,V]] true false)],[],[H1.length]⟩):=by
        rw [Z0G,gb3,hV]
        simp [putAt]
       rw [Z0F this,hH4]
      have gb4:H4[H1.length]? = some (.arr 3 [[I node,I next,V]] true false):=by rw [hH4];exact getSelfN gb3
      have g24:H4[2]? = some (.arr 3 [zO] true false):=by rw [hH4];exact getSetN g23 (by omega)
      have hid4:H4[id]? = some (.arr 10 ((pend.eraseIdx (fromN pend hd.num)).map encV++[zE]) true false):=by rw [hH4];exact getSetN hid3 (Ne.symm ne1)
      have lq4:∀k:Go.AM.K AV,ldK 3 true (.ptr H1.length 0 0 1) H4 k=k (.agg [I node,I next,V]):=fun k=>by rw [Z01,gb4,hV];rfl
      have s4:=stz H4 g24 V (.inr ⟨_,_,_,hV⟩)
      have g5:(H4.set 2 (.arr 3 [[I node,I next,V]] true false))[2]? = some (.arr 3 [[I node,I next,V]] true false):=getSelfN g24
      have l5:∀k:Go.AM.K AV,ldK 3 true (.ptr 2 0 0 1) (H4.set 2 (.arr 3 [[I node,I next,V]] true false)) k=k (.agg [I node,I next,V]):=fun k=>by rw [Z01,g5,hV];rfl
      have hid5:(H4.set 2 (.arr 3 [[I node,I next,V]] true false))[id]? = some (.arr 10 ((pend.eraseIdx (fromN pend hd.num)).map encV++[zE]) true false):=getSetN hid4 (Ne.symm ne2)
      have hel:(pend.eraseIdx (fromN pend hd.num)).length+1=pend.length:=by rw [List.length_eraseIdx];simp [q3];omega
      have w1:IntKind.i64.wrap (((fromN pend hd.num:Nat):Int)+1)=((fromN pend hd.num+1:Nat):Int):=by rw [wrap64 (by omega) (by omega)];omega
      refine ⟨false,(Z64 (a0 := .agg [I node,I next,L]) (a1 := .agg (encH hd)) (v := .tup [.agg [I node,I next, .lst 10 false ((pend.eraseIdx (fromN pend hd.num)).map encV)],I 0]) hp ?_ h).trans rfl⟩
      rw [hnr]
      simp -implicitDefEqProofs only [Z3h,bx,by_,bz,lw,Z62,Zda,Zdb,Zsg,Z03,fC,Z06,ez,Bool.true_xor,Bool.not_true,Z00,Bool.false_eq_true,if_false,Z07,Nat.zero_add,h0,l0,e1,h1,l1,Z08,Z0T,Z0M,q2',r1,bq,sq,lv,hlen,fs,c3,decide_true,Z3e,ia,lx,lh,q4,Bool.false_xor,if_true,Z0I,w1,hD,s3,Z5o,lq4,s4,l5]
      simp only [Z3g,Z17,Z16,Z3x,cvt_s]
      rw [hV,Zih (st:=false) (hV ▸ hid5) (by simp) (by simp;omega) (Z0U fun x=>by simp [encV])]
      rfl
     | false=>
      obtain ⟨b',w,w1,w2⟩:=stay (by unfold hasN;rw [hx];exact q4)
      refine ⟨b',(Z64 (a0 := .agg [I node,I next,L]) (a1 := .agg (encH hd)) (v:=w) hp ?_ h).trans (by rw [w2])⟩
      rw [hnr]
      simp -implicitDefEqProofs only [Z3h,bx,by_,bz,lw,Z62,Zda,Zdb,Z03,fC,Z06,ez,Bool.true_xor,Bool.not_true,Z00,Bool.false_eq_true,if_false,Z07,Nat.zero_add,h0,l0,e1,h1,l1,Z08,Z0T,Z0M,q2',r1,bq,sq,lv,hlen,fs,c3,decide_true,Z3e,ia,lx,lh,q4,Bool.false_xor]
      exact w1
    ·have c3:¬(((fromN pend hd.num:Nat):Int)<(pend.length:Int)):=by omega
     obtain ⟨b',w,w1,w2⟩:=stay (by unfold hasN;rw [List.getElem?_eq_none (by omega)])
     refine ⟨b',(Z64 (a0 := .agg [I node,I next,L]) (a1 := .agg (encH hd)) (v:=w) hp ?_ h).trans (by rw [w2])⟩
     rw [hnr]
     simp -implicitDefEqProofs only [Z3h,bx,by_,bz,lw,Z62,Zda,Zdb,Z03,fC,Z06,ez,Bool.true_xor,Bool.not_true,Z00,Bool.false_eq_true,if_false,Z07,Nat.zero_add,h0,l0,e1,h1,l1,Z08,Z0T,Z0M,q2',r1,bq,sq,lv,hlen,fs,c3,decide_false,Z6I]
     exact w1
  ·have e1:(hd.frm==node)=false:=by simp [q1]
   rw [if_pos (show hd.frm≠node from q1)]
   refine ⟨true,(Z64 (a0 := .agg [I node,I next,L]) (a1 := .agg (encH hd)) (v := .tup [.agg zO,I 10]) hp ?_ h).trans rfl⟩
   rw [hnr]
   simp -implicitDefEqProofs only [Z3h,bx,by_,bz,lw,Z62,Z03,fC,Z06,ez,Bool.true_xor,Bool.not_true,Z00,Bool.false_eq_true,if_false,Z07,Nat.zero_add,h0,l0,e1,Bool.not_false,if_true,bd,z1,z2]
   rfl
 ·have ez:(chkO ⟨node,next,pend⟩==0)=false:=by simp [z]
  rw [if_pos (show chkO ⟨node,next,pend⟩≠0 from z)]
  refine ⟨true,(Z64 (a0 := .agg [I node,I next,L]) (a1 := .agg (encH hd)) (v := .tup [.agg zO,I 1]) hp ?_ h).trans rfl⟩
  rw [hnr]
  simp -implicitDefEqProofs only [Z3h,bx,by_,bz,lw,Z62,Z03,fC,Z06,ez,Bool.true_xor,Bool.not_false,Z00,if_true,bd,z1,z2]
  rfl
end Go.AM


namespace Go.AM
open Go.Proofs
set_option linter.unusedVariables false
set_option linter.unusedSimpArgs false
set_option linter.constructorNameAsVariable false
set_option maxRecDepth 20000
def ltH (a b:Hrd):Bool:=decide (cmpH a b<0)
theorem Zim {a b c:Hrd} (h1:ltH a b=true) (h2:ltH b c=true):ltH a c=true:=Z7j (n:=2) rfl rfl rfl h1 h2
theorem Zwh {a b:Hrd} (h1:ltH a b=false) (h2:ltH b a=false):a=b:=by
 have:=Z7k (n:=2) (a:=[a.frm,a.num]) (b:=[b.frm,b.num]) rfl rfl h1 h2
 obtain ⟨a1,a2⟩:=a
 obtain ⟨b1,b2⟩:=b
 simp only [List.cons.injEq,and_true] at this
 rw [this.1,this.2]
abbrev AscH (l:List Hrd):Prop:=l.Pairwise fun a b=>ltH a b=true
def posH (l:List Hrd) (x:Hrd):Nat:=l.findIdx fun y => !ltH y x
theorem ZbQ (l:List Hrd) (x:Hrd):posH l x≤l.length:=List.findIdx_le_length
theorem Zdw {l:List Hrd} {x:Hrd} (hs:AscH l) {j:Nat} {y:Hrd} (hy:l[j]? = some y):ltH y x=decide (j<posH l x):=by
 obtain ⟨hj,rfl⟩:=List.getElem?_eq_some_iff.1 hy
 rcases Nat.lt_or_ge j (posH l x) with h | h
 ·have:=List.not_of_lt_findIdx h
  rw [decide_eq_true h]
  simpa using this
 ·rw [decide_eq_false (by omega)]
  have hc:posH l x<l.length:=by omega
  have h0:ltH l[posH l x] x=false:=by
   have:=List.findIdx_getElem (xs:=l) (p:=fun y:Hrd => !ltH y x) (w:=hc)
   unfold posH;simpa using this
  rcases Nat.lt_or_ge (posH l x) j with hlt | hge
  ·have h1:=List.pairwise_iff_getElem.1 hs _ _ hc hj hlt
   cases h2:ltH l[j] x with
   | false=>rfl
   | true=>rw [Zim h1 h2] at h0;cases h0
  ·have:posH l x=j:=by omega
   subst this
   exact h0
def insH (l:List Hrd) (x:Hrd):List Hrd:=l.take (posH l x)++x::l.drop (posH l x)
attribute [local congr] Z0e Z0f Z0g Z0h Z0i Z0j Z0k Z0l Z0m Z0n Z0o Z0p Z0q Z0r Z0s Z0t Z0u Z0v Z0w Z0x Z0y Z0z Z0A Z0B Z0C Z0D Z0E
theorem Zwi {x0:AV→AV→AV→AV→AV→Hp→Option AV} {l:List Hrd} {b:Bool} {x:Hrd} {h:Hp} {k n c:Nat} (hn:n=l.length) (hl:l.length<1000000) (hc:c≤n) (hk:h[k]? = some (.arr 2 [encH x] true false)) (hp:∀(j:Nat) (y:Hrd),l[j]? = some y→ltH y x=decide (j<c)):∀(m i j:Nat),i≤c→c≤j→j≤n→j-i<m→
  Z47 Try.prog Z1i Z4s NN x0 m (.lst 2 b (l.map encH)) (.fn 53 []) (.ptr k 0 0 1) (I n) (I i) (I j) h=x0 (.lst 2 b (l.map encH)) (.fn 53 []) (.ptr k 0 0 1) (I n) (I c) h:=by
 intro m
 induction m with
 | zero=>intro i j _ _ _ h;omega
 | succ m ih=>
  intro i j h1 h2 h3 h4
  show Z76 Try.prog Z1i Z4s NN (Z47 Try.prog Z1i Z4s NN x0 m) x0 _ _ _ _ _ _ h=_
  by_cases hij:i<j
  ·have hij':(i:Int)<(j:Int):=by omega
   obtain ⟨q,hq⟩:∃q,q=(i+j) / 2:=⟨_,rfl⟩
   have w1:IntKind.i64.wrap ((i:Int)+(j:Int))=((i+j:Nat):Int):=by rw [wrap64 (by omega) (by omega)];omega
   have w2:IntKind.u64.wrap ((i+j:Nat):Int)=((i+j:Nat):Int):=wrapU (by omega) (by omega)
   have w3:IntKind.i64.wrap (q:Int)=(q:Int):=wrap64 (by omega) (by omega)
   have w4:IntKind.i64.wrap ((q:Int)+1)=((q+1:Nat):Int):=by rw [wrap64 (by omega) (by omega)];omega
   have hs:∀k:Go.AM.K AV,reckK Try.prog .shr 132 (.s (.int .u64 ((i+j:Nat):Int))) (.s (.int .u64 1)) k=k (.s (.int .u64 (q:Int))):=fun k=>by
    have:=Zfr (P:=Try.prog) (ty:=132) (i+j) 1 (by omega) k
    rw [hq];exact this
   have a1:∀k:Go.AM.K AV,arithK .add (I i) (I j) k=k (I ((i+j:Nat):Int)):=fun k=>by rw [Z0I,w1]
   have a2:∀k:Go.AM.K AV,convK Try.prog 3 132 (I ((i+j:Nat):Int)) k=k (.s (.int .u64 ((i+j:Nat):Int))):=fun k=>by rw [Z5e un_3 Z5f,w2]
   have a3:∀k:Go.AM.K AV,convK Try.prog 132 3 (.s (.int .u64 (q:Int))) k=k (I q):=fun k=>by rw [Z5e Z5f un_3,w3]
   have hy:l[q]? = some l[q]:=List.getElem?_eq_getElem (by omega)
   have hpq:=hp q _ hy
   generalize l[q]=y at hy hpq
   have iq:∀k:Go.AM.K AV,iaK 2 (.lst 2 b (l.map encH)) (I q) k=k (.ep (encH y) 0):=fun k=>Z0P q rfl hy k
   have lq:∀k:Go.AM.K AV,ldK 2 true (.ep (encH y) 0) h k=k (.agg (encH y)):=fun k=>rfl
   have lx:∀k':Go.AM.K AV,ldK 2 true (.ptr k 0 0 1) h k'=k' (.agg (encH x)):=fun k'=>by rw [Z01,hk];rfl
   have fh:=Zdu y x
   have cv:∀k':AV→Hp→Option AV,callVK Z1i (.fn 53 []) [.agg (encH y), .agg (encH x)] h k'=k' (I (cmpH y x)) h:=fun k'=>by
    show callK (Z1i 53) [.agg (encH y), .agg (encH x)] h k'=_
    simp -implicitDefEqProofs only [Zhe,Z03,fh]
   simp -implicitDefEqProofs only [Z76,ZcF,Z08,hij',decide_true,Z00,if_true,a1,a2,hs,a3,iq,lq,lx,cv]
   have hpq':decide (cmpH y x<0)=decide (q<c):=hpq
   rw [hpq']
   by_cases hcq:q<c
   ·rw [decide_eq_true hcq]
    simp -implicitDefEqProofs only [if_true,Z0I,w4]
    exact ih (q+1) j (by omega) h2 h3 (by omega)
   ·rw [decide_eq_false hcq]
    simp -implicitDefEqProofs only [Bool.false_eq_true,if_false]
    exact ih i q h1 (by omega) (by omega) (by omega)
  ·have:i=j:=by omega
   have:i=c:=by omega
   subst this
   have hij':¬(i:Int)<(j:Int):=by omega
   simp -implicitDefEqProofs only [Z76,Z08,hij',decide_false,Z00,Bool.false_eq_true,if_false]
theorem Zwj {l:List Hrd} {b:Bool} {x:Hrd} (hs:AscH l) (hl:l.length<1000000) (h:Hp):∃f,Z7I [.lst 2 b (l.map encH), .agg (encH x), .fn 53 []] h=some (.tup [I (posH l x),B f],h):=by
 have hN:=NN_ge
 obtain ⟨H,hH⟩:∃H:Hp,H=[AObj.arr 2 [encH x] true false]:=⟨_,rfl⟩
 have bx:∀k:AV→Hp→Option AV,effK (boxE 2 (.agg (encH x)) ([]:Hp).length) [] k=k (.ptr 0 0 0 1) H:=fun k=>by rw [hH];rfl
 have hk:H[0]? = some (.arr 2 [encH x] true false):=by rw [hH];rfl
 have lx:∀k':Go.AM.K AV,ldK 2 true (.ptr 0 0 0 1) H k'=k' (.agg (encH x)):=fun k'=>by rw [Z01,hk];rfl
 have hp:=ZbQ l x
 have L2:=Zwi (x0:=fun w26_0 w26_2 w26_4 w26_8 w26_9 h=>Z5q Try.prog Z1i Z4s NN (fun v g=>cvt false g v) w26_0 w26_2 w26_4 w26_8 w26_9 h) (l:=l) (b:=b) (x:=x) (h:=H) (k:=0) (n:=l.length) (c:=posH l x) rfl hl hp hk (fun j y hy=>Zdw hs hy) NN 0 l.length (by omega) hp (Nat.le_refl _) (by omega)
 by_cases q:posH l x<l.length
 ·have c3:(((posH l x:Nat):Int)<(l.length:Int)):=by omega
  have hy:l[posH l x]? = some l[posH l x]:=List.getElem?_eq_getElem q
  generalize l[posH l x]=y at hy
  have iq:∀k:Go.AM.K AV,iaK 2 (.lst 2 b (l.map encH)) (I (posH l x)) k=k (.ep (encH y) 0):=fun k=>Z0P _ rfl hy k
  have lq:∀k:Go.AM.K AV,ldK 2 true (.ep (encH y) 0) H k=k (.agg (encH y)):=fun k=>rfl
  have fh:=Zdu y x
  have cv:∀k':AV→Hp→Option AV,callVK Z1i (.fn 53 []) [.agg (encH y), .agg (encH x)] H k'=k' (I (cmpH y x)) H:=fun k'=>by
   show callK (Z1i 53) [.agg (encH y), .agg (encH x)] H k'=_
   simp -implicitDefEqProofs only [Zhe,Z03,fh]
  refine ⟨cmpH y x==0,Zhf (a0 := .lst 2 b (l.map encH)) (a1 := .agg (encH x)) (a2 := .fn 53 []) rfl ?_ h⟩
  simp only [nrm,nrmC]
  simp -implicitDefEqProofs only [Z5r,bx,Z0d,List.length_map]
  refine L2.trans ?_
  simp -implicitDefEqProofs only [Z5q,Z08,c3,decide_true,Z3e,iq,lq,lx,cv,Z06,Bool.false_xor]
  rfl
 ·have c3:¬(((posH l x:Nat):Int)<(l.length:Int)):=by omega
  refine ⟨false,Zhf (a0 := .lst 2 b (l.map encH)) (a1 := .agg (encH x)) (a2 := .fn 53 []) rfl ?_ h⟩
  simp only [nrm,nrmC]
  simp -implicitDefEqProofs only [Z5r,bx,Z0d,List.length_map]
  refine L2.trans ?_
  simp -implicitDefEqProofs only [Z5q,Z08,c3,decide_false,Z6I]
  rfl
theorem Zin (l:List Hrd) (b:Bool) (hl:l.length<1000000) (h:Hp):Z1a [SL 2 encH b l] h=if (b&&l.isEmpty)=true then some (nilS,h) else some (.sl 2 (h.length+1) 0 l.length l.length false,h++[.arr 2 [] true false, .arr 2 (l.map encH) true false]):=by
 rw [ZqJ]
 by_cases hb:(b&&l.isEmpty)=true
 ·simp [Z3K,hb]
 ·have hb':(b&&l.isEmpty)=false:=by simpa using hb
  have hle:l.length * 16≤140737488355328:=by omega
  have h2:((l.map encH).all fun e=>e.length==2)=true:=by simp [encH]
  simp [Z3K,hb',bsE,fillS,appE,readSl,hle,h2,ap]
theorem Zwk (l:List Hrd) (b:Bool) (hl:l.length<1000000) (h:Hp) (base:Nat):newD Z1a [SL 2 encH b l] h base=if (b&&l.isEmpty)=true then some (nilS,⟨[],[],[]⟩) else some (.sl 2 base 0 l.length l.length false,⟨[],[.arr 2 (l.map encH) true false],[]⟩):=by
 by_cases hb:(b&&l.isEmpty)=true
 ·rw [if_pos hb]
  exact ZcP (fun H=>by rw [Zin l b hl,if_pos hb]) h base
 ·rw [if_neg hb]
  refine ZcO (x:=(2,l.map encH,l.length,l.length,false)) ⟨fun e he c hc => ?_,fun H=>⟨[.arr 2 [] true false, .arr 2 (l.map encH) true false],1,by rw [Zin l b hl,if_neg hb],rfl⟩⟩ h base
  obtain ⟨n, -,rfl⟩:=List.mem_map.1 he
  simp only [encH,List.mem_cons,List.not_mem_nil,or_false] at hc
  rcases hc with rfl | rfl<;>rfl
theorem Zwl {l:List Hrd} {b:Bool} {x:Hrd} (hs:AscH l) (hl:l.length<100000) (h:Hp):Z7J [SL 2 encH b l, .agg (encH x), .fn 53 []] h=some (.lst 2 false ((insH l x).map encH),h):=by
 refine (ZqX (a0:=SL 2 encH b l) (a1 := .agg (encH x)) (a2 := .fn 53 []) (v := .lst 2 false ((insH l x).map encH)) rfl ?_ h).trans rfl
 simp only [nrm,nrmC]
 obtain ⟨L,hL⟩:∃L:AV,L=SL 2 encH b l:=⟨_,rfl⟩
 obtain ⟨H,hH⟩:∃H:Hp,H=[AObj.arr 2 [encH x] true false]:=⟨_,rfl⟩
 have bx:∀k:AV→Hp→Option AV,effK (boxE 2 (.agg (encH x)) ([]:Hp).length) [] k=k (.ptr 0 0 0 1) H:=fun k=>by rw [hH];rfl
 have lx:∀k':Go.AM.K AV,ldK 2 true (.ptr 0 0 0 1) H k'=k' (.agg (encH x)):=fun k'=>by rw [hH];rfl
 obtain ⟨f,fB⟩:=Zwj (b:=b&&l.isEmpty) (x:=x) hs (by omega) H
 have tp:∀(a b:AV) (k:Go.AM.K AV),exK (.tup [a,b]) 0 k=k a:=fun a b k=>rfl
 have tq:∀(a b:AV) (k:Go.AM.K AV),exK (.tup [a,b]) 1 k=k b:=fun a b k=>rfl
 have gC:=Zwk l b (by omega) H H.length
 have hHl:H.length=1:=by rw [hH];rfl
 by_cases hb:(b&&l.isEmpty)=true
 ·rw [if_pos hb] at gC
  have hl0:l=[]:=by simpa using (Bool.and_eq_true_iff.1 hb).2
  subst hl0
  have ef:∀k:AV→Hp→Ent→Option AV,effD (newD Z1a [SL 2 encH b []] H H.length) H k=k nilS H ([],[]):=fun k=>by rw [gC];simp [effD,ap,wrOf]
  obtain ⟨H2,hH2⟩:∃H2:Hp,H2=H++[AObj.arr 2 [encH x] true false]:=⟨_,rfl⟩
  have bs:∀k:AV→Hp→Ent→Option AV,effD (bsE 2 zH 1 [(0, .agg (encH x))] H.length) H k=k (.sl 2 1 0 1 1 true) H2 ([],[1]):=fun k=>by rw [hH2,hH];simp [bsE,fillS,encH,effD,ap,wrOf]
  have hx2:H2[1]? = some (.arr 2 [encH x] true false):=by rw [hH2,hH];rfl
  have hins:=Zob (f:=encH) (k:=2) (by_:=16) (full:=true) hx2 (fun x=>rfl) (by omega) H2.length
  have hi:∀k:AV→Hp→Ent→Option AV,effD (insE 2 16 [nilS,I (posH [] x), .sl 2 1 0 1 1 true] H2 H2.length) H2 k=k (.sl 2 2 0 1 1 false) (H2++[.arr 2 [encH x] true false]) ([1],[2]):=fun k=>by
   have e0:I ((posH [] x:Nat):Int)=I 0:=rfl
   have hl2:H2.length=2:=by rw [hH2,hH];rfl
   rw [e0,hins,hl2]
   simp [effD,ap,wrOf,hl2]
  have hc3:(H2++[AObj.arr 2 [encH x] true false])[2]? = some (.arr 2 ([x].map encH) true false):=by rw [hH2,hH];rfl
  simp -implicitDefEqProofs only [Z6U,bx,lx,Zhj,Z03,fB,tp,tq,Zhh,Zhi,Z1G,ef,bs,hi]
  have dj:disjAll [(1,3),(1,4)] [([],[]),([],[]),([],[]),(idsOf (.ptr 0 0 0 1),[]),([],[1]),([1],[2]),([],[])]=true:=rfl
  rw [dj,cond_true]
  exact Z0X (st:=false) hc3 rfl rfl (Z0U fun x=>by simp [encH])
 ·rw [if_neg hb] at gC
  obtain ⟨H1,hH1⟩:∃H1:Hp,H1=H++[AObj.arr 2 (l.map encH) true false]:=⟨_,rfl⟩
  have hl1:H1.length=2:=by rw [hH1,hH];rfl
  have ef:∀k:AV→Hp→Ent→Option AV,effD (newD Z1a [SL 2 encH b l] H H.length) H k=k (.sl 2 1 0 l.length l.length false) H1 ([],[1]):=fun k=>by rw [gC,hHl];simp [effD,ap,wrOf,hH1,hHl]
  have lx1:∀k':Go.AM.K AV,ldK 2 true (.ptr 0 0 0 1) H1 k'=k' (.agg (encH x)):=fun k'=>by rw [hH1,hH];rfl
  obtain ⟨H2,hH2⟩:∃H2:Hp,H2=H1++[AObj.arr 2 [encH x] true false]:=⟨_,rfl⟩
  have bs:∀k:AV→Hp→Ent→Option AV,effD (bsE 2 zH 1 [(0, .agg (encH x))] H1.length) H1 k=k (.sl 2 2 0 1 1 true) H2 ([],[2]):=fun k=>by rw [hl1,hH2];simp [bsE,fillS,encH,effD,ap,wrOf,hl1]
  have hid:H2[1]? = some (.arr 2 (l.map encH) true false):=by rw [hH2];exact Z09 (by rw [hH1,hH];rfl)
  have hx2:H2[2]? = some (.arr 2 [encH x] true false):=by rw [hH2, ← hl1,Z0O];rfl
  have hins:=Zoa (f:=encH) (k:=2) (by_:=16) (full:=true) hid hx2 (by omega) (fun x=>rfl) (ZbQ l x) (by omega) H2.length
  have hi:∀k:AV→Hp→Ent→Option AV,effD (insE 2 16 [.sl 2 1 0 l.length l.length false,I (posH l x), .sl 2 2 0 1 1 true] H2 H2.length) H2 k=k (.sl 2 1 0 (l.length+1) (l.length+1) false) (H2.set 1 (.arr 2 ((l.take (posH l x)++[x]++l.drop (posH l x)).map encH) true false)) ([1,2],[1]):=fun k=>by
   rw [hins]
   simp [effD,ap,wrOf]
  have hc3:(H2.set 1 (.arr 2 ((l.take (posH l x)++[x]++l.drop (posH l x)).map encH) true false))[1]? = some (.arr 2 ((l.take (posH l x)++[x]++l.drop (posH l x)).map encH) true false):=List.getElem?_set_self (List.getElem?_eq_some_iff.1 hid).1
  have hlen:((l.take (posH l x)++[x]++l.drop (posH l x)).map encH).length=l.length+1:=by have:=ZbQ l x;simp;omega
  simp -implicitDefEqProofs only [Z6U,bx,lx,Zhj,Z03,fB,tp,tq,Zhh,Zhi,Z1G,ef,lx1,bs,hi]
  have dj:disjAll [(1,3),(1,4)] [([],[]),([],[1]),([],[]),(idsOf (.ptr 0 0 0 1),[]),([],[2]),([1,2],[1]),([],[])]=true:=rfl
  rw [dj,cond_true]
  refine (Z0X (st:=false) hc3 hlen hlen (Z0U fun x=>by simp [encH])).trans ?_
  unfold insH
  rw [List.append_assoc]
  rfl
end Go.AM


namespace Go.AM
open Go.Proofs
set_option linter.unusedVariables false
set_option linter.unusedSimpArgs false
set_option linter.constructorNameAsVariable false
set_option maxRecDepth 20000
section
variable {β:Type} {P:Program} {T:Tab} {D:DTab} {N:Nat} {K:AV→Hp→Option β}
theorem Zio (l:List Hrd) (b:Bool) (hl:l.length<1000000) (h:Hp):Z3m [SL 2 encH b l] h=some (SL 2 encH b l,h):=by
 refine (ZqK (v:=if b&&l.isEmpty then nilS else SL 2 encH b l) rfl ?_ h).trans ?_
 ·by_cases hb:(b&&l.isEmpty)=true
  ·simp [Z3K,hb]
  ·have hb':(b&&l.isEmpty)=false:=by simpa using hb
   have hle:l.length * 16≤140737488355328:=by omega
   have h2:((l.map encH).all fun e=>e.length==2)=true:=by simp [encH]
   have h3:okE false (l.map encH)=true:=Z0U (by intro x;simp [encH])
   simp [Z3K,hb',bsE,fillS,appE,readSl,hle,h2,ap]
   rw [Z0X rfl (by simp) (by simp) h3,SL,hb']
 ·by_cases hb:(b&&l.isEmpty)=true
  ·obtain ⟨rfl,hl0⟩:=Bool.and_eq_true_iff.1 hb
   have:l=[]:=by simpa using hl0
   subst this
   rfl
  ·rw [if_neg hb]
   rfl
theorem Zwm {T:Tab} {D:DTab} {N:Nat} {x0:Hp→Option β} {xr:AV→Hp→Option β} {l:List Hrd} {b:Bool} {v:Hrd} {h:Hp} {m:Nat} (hm:h[m]? = some (.arr 2 [encH v] true false)) (hl:l.length<4611686018427387904) (heq:∀(x y:Hrd) (h:Hp) (k:Go.AM.K β),eqK Try.prog false 36 (.agg (encH x)) (.agg (encH y)) h k=k (B (x==y))):
  ∀(n i:Nat),i≤l.length→l.length<i+n→Z3P Try.prog T D N x0 xr n (.lst 2 b (l.map encH)) (.ptr m 0 0 1) (I l.length) (I i) h=match (l.drop i).findIdx? (fun y=>v==y) with | some j=>xr (I ((i+j:Nat):Int)) h | none=>x0 h:=by
 intro n
 induction n with
 | zero=>intro i h1 h2;omega
 | succ n ih=>
  intro i h1 h2
  show Z9i Try.prog T D N (Z3P Try.prog T D N x0 xr n) x0 xr _ _ _ _ h=_
  unfold Z9i
  rcases Nat.lt_or_ge i l.length with hi | hi
  ·have hx:l[i]? = some l[i]:=List.getElem?_eq_getElem hi
   have hlt:((i:Int)<(l.length:Int)):=by omega
   have hw:IntKind.i64.wrap ((i:Int)+1)=((i+1:Nat):Int):=by rw [wrap64 (by omega) (by omega)];omega
   have hpx:=fun k=>heq v l[i] h k
   have h3:=ih (i+1) hi (by omega)
   have ic:∀k:Go.AM.K β,iaK 2 (.lst 2 b (l.map encH)) (I i) k=k (.ep (encH l[i]) 0):=fun k=>Z0P i rfl hx k
   have ld:∀k:Go.AM.K β,ldK 2 true (.ep (encH l[i]) 0) h k=k ((fun y => .agg (encH y)) l[i]):=fun k=>by simp [encH]
   rw [List.drop_eq_getElem_cons hi,List.findIdx?_cons]
   have lv:∀k:Go.AM.K β,ldK 2 true (.ptr m 0 0 1) h k=k ((fun x => .agg (encH x)) v):=fun k=>by simp [hm,encH]
   dsimp only at h3 ld lv ⊢
   simp only [Z08,hlt,decide_true,Z00,if_true,ic,ld,lv,hpx]
   cases hc:(v==l[i]) with
   | true=>simp
   | false=>
    simp only [Bool.false_eq_true,if_false,Z0I,hw]
    refine h3.trans ?_
    cases (List.drop (i+1) l).findIdx? (fun y=>v==y) with
    | none=>rfl
    | some j=>
     show xr (I ((i+1+j:Nat):Int)) h=xr (I ((i+(j+1):Nat):Int)) h
     rw [show i+1+j=i+(j+1) by omega]
  ·have:i=l.length:=by omega
   subst this
   simp
theorem Zip (l:List Hrd) (b:Bool) (v:Hrd) (hl:l.length<1000000) (heq:∀(x y:Hrd) (h:Hp) (k:Go.AM.K AV),eqK Try.prog false 36 (.agg (encH x)) (.agg (encH y)) h k=k (B (x==y))) (h:Hp):Z4p [.lst 2 b (l.map encH),(fun x => .agg (encH x)) v] h=some (B (l.contains v),h):=by
 have e:∀h,Z7B [.lst 2 b (l.map encH),(fun x => .agg (encH x)) v] h=some (I (match l.findIdx? (fun y=>v==y) with | some j=>(j:Int) | none => -1),h):=
  Zqj rfl (by
   have:=Zwm (l:=l) (T:=Z5N) (D:=Z5M) (N:=NN) (b:=b) (v:=v) (h:=[.arr 2 [encH v] true false]) (m:=0) (x0:=fun h=>Z9h Try.prog Z5N Z5M NN (fun v g=>cvt false g v) h) (xr:=fun a h=>cvt false h a) rfl (by omega) heq NN 0 (Nat.zero_le _) (by have:=NN_ge;omega)
   have bx:∀k:AV→Hp→Option AV,effK (boxE 2 ((fun x => .agg (encH x)) v) ([]:Hp).length) [] k=k (.ptr 0 0 0 1) [.arr 2 [encH v] true false]:=fun k=>by simp [boxE,encH]
   simp only [nrm,nrmC,Z6W,Z0d,List.length_map,bx]
   simp only [List.drop_zero] at this
   refine this.trans ?_
   cases l.findIdx? (fun y=>v==y) with
   | none=>rfl
   | some j=>simp)
 have bx:∀k:AV→Hp→Option AV,effK (boxE 2 ((fun x => .agg (encH x)) v) ([]:Hp).length) [] k=k (.ptr 0 0 0 1) [.arr 2 [encH v] true false]:=fun k=>by simp [boxE,encH]
 have lv:∀k:Go.AM.K AV,ldK 2 true (.ptr 0 0 0 1) [.arr 2 [encH v] true false] k=k ((fun x => .agg (encH x)) v):=fun k=>by simp [encH]
 refine Zqp rfl ?_ h
 simp only [nrm,nrmC,Z8W,bx,lv,Zqm,Z03,e]
 have:l.contains v=(l.findIdx? (fun y=>v==y)).isSome:=by rw [List.findIdx?_isSome,List.contains_eq_any_beq]
 rw [this]
 cases l.findIdx? (fun y=>v==y)<;>simp
end
theorem Zdx (x y:Hrd) (n:Bool) (h:Hp) {β:Type} (k:Go.AM.K β):eqK Try.prog n 36 (.agg (encH x)) (.agg (encH y)) h k=k (B (xor n (x==y))):=by
 obtain ⟨a0,a1⟩:=x
 obtain ⟨b0,b1⟩:=y
 have:((⟨a0,a1⟩:Hrd)==⟨b0,b1⟩)=((a0==b0)&&((a1==b1)&&true)):=by
  rw [Bool.eq_iff_iff];simp
 simp only [encH,Zll,this]
theorem ZbR {node:Int}:∀ {l:List Hrd} {p:Option Hrd},chkH node p l=0→AscH l∧(∀q,p=some q→∀x ∈ l,ltH q x=true)∧∀x ∈ l,isNode x.frm=true∧1≤x.num∧x.num≤1073741824∧x.frm≠node
 | [],p,_=>⟨.nil,by simp,by simp⟩
 | x::r,p,h=>by
  have step:∀(c:Bool) (t:Int),(if (!isNode x.frm||decide (x.num<1)||decide (x.num > 1073741824))=true then 2 else if x.frm=node then 10 else if c=true then 5 else t)=0→isNode x.frm=true∧1≤x.num∧x.num≤1073741824∧x.frm≠node∧c=false∧t=0:=fun c t h=>by
   by_cases q1:(!isNode x.frm||decide (x.num<1)||decide (x.num > 1073741824))=true
   ·rw [if_pos q1] at h;exact absurd h (by decide)
   ·rw [if_neg q1] at h
    simp only [Bool.or_eq_true,decide_eq_true_eq,not_or,Bool.not_eq_true'] at q1
    by_cases q2:x.frm=node
    ·rw [if_pos q2] at h;exact absurd h (by decide)
    ·rw [if_neg q2] at h
     cases c with
     | true=>rw [if_pos rfl] at h;exact absurd h (by decide)
     | false=>exact ⟨by simpa using q1.1.1,by omega,by omega,q2,rfl,by rw [if_neg (by simp)] at h;exact h⟩
  cases p with
  | none=>
   obtain ⟨k1,k2,k3,k4, -,k6⟩:=step false _ h
   obtain ⟨h1,h2,h3⟩:=ZbR k6
   refine ⟨.cons (h2 _ rfl) h1,fun q hq=>(by cases hq),fun y hy => ?_⟩
   rcases List.mem_cons.1 hy with rfl | hy
   ·exact ⟨k1,k2,k3,k4⟩
   ·exact h3 y hy
  | some q=>
   obtain ⟨k1,k2,k3,k4,k5,k6⟩:=step (decide (cmpH q x≥0)) _ h
   obtain ⟨h1,h2,h3⟩:=ZbR k6
   have kq:ltH q x=true:=by
    unfold ltH
    simp only [decide_eq_false_iff_not,ge_iff_le] at k5
    exact decide_eq_true (by omega)
   refine ⟨.cons (h2 _ rfl) h1,fun q' hq y hy => ?_,fun y hy => ?_⟩
   ·injection hq with hq
    subst hq
    rcases List.mem_cons.1 hy with rfl | hy
    ·exact kq
    ·exact Zim kq (h2 _ rfl y hy)
   ·rcases List.mem_cons.1 hy with rfl | hy
    ·exact ⟨k1,k2,k3,k4⟩
    ·exact h3 y hy
theorem Z8q {i:Inbx} (h:chkI i=0):isNode i.node=true∧i.heard.length≤256∧i.msgs.length≤64∧chkH i.node none i.heard=0∧errM i.msgs=0∧normL i.msgs=i.msgs∧i.msgs.length≤i.heard.length:=by
 unfold chkI at h
 by_cases q1:isNode i.node=false
 ·rw [if_pos q1] at h;exact absurd h (by decide)
 ·rw [if_neg q1] at h
  by_cases q2:256<i.heard.length∨64<i.msgs.length
  ·rw [if_pos q2] at h;exact absurd h (by decide)
  ·rw [if_neg q2] at h
   by_cases q3:chkH i.node none i.heard≠0
   ·rw [if_pos q3] at h;exact absurd h q3
   ·rw [if_neg q3] at h
    by_cases q4:errM i.msgs≠0∨normL i.msgs≠i.msgs
    ·rw [if_pos q4] at h;exact absurd h (by decide)
    ·rw [if_neg q4] at h
     by_cases q5:i.heard.length<i.msgs.length
     ·rw [if_pos q5] at h;exact absurd h (by decide)
     ·exact ⟨by simpa using q1,by omega,by omega,Classical.byContradiction q3,Classical.byContradiction fun hh=>q4 (.inl hh),Classical.byContradiction fun hh=>q4 (.inr hh),by omega⟩
theorem Zdy {e:Envl} (h:formE e=0):checkM e.msg=0∧isNode e.frm=true∧isNode e.to=true∧1≤e.num∧e.num≤1073741824∧e.frm≠e.to:=by
 unfold formE at h
 by_cases q1:rangeE e=true
 ·rw [if_pos q1] at h;exact absurd h (by decide)
 ·rw [if_neg q1] at h
  by_cases q2:e.frm=e.to
  ·rw [if_pos q2] at h;exact absurd h (by decide)
  ·rw [if_neg q2] at h
   by_cases q3:checkM e.msg≠0
   ·rw [if_pos q3] at h;exact absurd h (by decide)
   ·unfold rangeE at q1
    simp only [Bool.or_eq_true,decide_eq_true_eq,not_or] at q1
    refine ⟨Classical.byContradiction q3, ?_, ?_,by omega,by omega,q2⟩<;>(unfold isNode;simp only [Bool.and_eq_true,decide_eq_true_eq];omega)
def takeI (i:Inbx) (e:Envl):Inbx × Hrd × Bool × Int:=
 if chkI i≠0 then (⟨0,[],[]⟩,⟨0,0⟩,false,1)
 else if formE e≠0 then (⟨0,[],[]⟩,⟨0,0⟩,false,formE e)
 else if e.to≠i.node then (⟨0,[],[]⟩,⟨0,0⟩,false,19)
 else if i.heard.contains ⟨e.frm,e.num⟩=true then (i,⟨e.frm,e.num⟩,false,0)
 else if i.heard.length=256∨(i.msgs.contains e.msg=false∧i.msgs.length=64) then (⟨0,[],[]⟩,⟨0,0⟩,false,12)
 else (⟨i.node,insH i.heard ⟨e.frm,e.num⟩,if i.msgs.contains e.msg=true then i.msgs else normL (i.msgs++[e.msg])⟩,⟨e.frm,e.num⟩,true,0)
def takeV (b1 b2:Bool) (r:Inbx × Hrd × Bool × Int):AV := .tup [ib b1 b2 r.1, .agg (encH r.2.1),B r.2.2.1,I r.2.2.2]
def OwnQ (h:Hp) (v:AV) (l:List Msg):Prop:=(l=[]∧v=nilS)∨∃id,v = .sl 7 id 0 l.length l.length false∧h[id]? = some (.arr 7 (l.map encM) true false)
theorem OwnQ.shape {h:Hp} {v:AV} {l:List Msg} (O:OwnQ h v l):v=nilS∨∃id n,v = .sl 7 id 0 n n false:=by
 rcases O with ⟨-,rfl⟩ | ⟨id,rfl, -⟩
 ·exact .inl rfl
 ·exact .inr ⟨_,_,rfl⟩
theorem OwnQ.keep {h h':Hp} {v:AV} {l:List Msg} (O:OwnQ h v l) (hk:∀(j:Nat) (x:List (List AV)),h[j]? = some (AObj.arr 7 x true false)→h'[j]? = some (AObj.arr 7 x true false)):OwnQ h' v l:=by
 rcases O with O | ⟨id,rfl,h1⟩
 ·exact .inl O
 ·exact .inr ⟨id,rfl,hk _ _ h1⟩
theorem OwnQ.cvt {h:Hp} {v:AV} {l:List Msg} (O:OwnQ h v l):∃w b,cvt false h v=some w∧nrm (.l 7) w=SLm b l∧(w=nilS∨w=SLm b l):=by
 rcases O with ⟨rfl,rfl⟩ | ⟨id,rfl,h1⟩
 ·exact ⟨nilS,true,rfl,rfl, .inl rfl⟩
 ·exact ⟨.lst 7 false (l.map encM),false,Z0X (st:=false) (n:=l.length) (fr:=l.length) (full:=false) h1 (by simp) (by simp) (Z0U fun x=>by simp [encM]),rfl, .inr rfl⟩
theorem OwnQ.snoc {h:Hp} {v:AV} {l:List Msg} {m:Msg} {p:Nat} (O:OwnQ h v l) (hm:h[p]? = some (.arr 7 [encM m] true false)) (hne:∀id,idOf v=some id→id≠p) (hl:l.length<100000):∃v' h',(∀k:AV→Hp→Option AV,effK (appE 7 56 v (.sl 7 p 0 1 1 true) h h.length) h k=k v' h')∧OwnQ h' v' (l++[m])∧∀(j:Nat) (o:AObj),h[j]? = some o→(∀x,o≠AObj.arr 7 x true false)→h'[j]? = some o:=by
 have rd:readSl h (.sl 7 p 0 1 1 true)=some [encM m]:=by unfold readSl;simp [hm]
 rcases O with ⟨rfl,rfl⟩ | ⟨id,rfl,h1⟩
 ·have ha:appE 7 56 nilS (.sl 7 p 0 1 1 true) h h.length=some (.sl 7 h.length 0 1 1 false,⟨[],[.arr 7 [encM m] true false],[p]⟩):=by
   unfold appE
   rw [rd]
   simp [idsOf,encM]
  refine ⟨_,h++[.arr 7 [encM m] true false],fun k=>by rw [ha];rfl, .inr ⟨h.length,rfl,by rw [Z0O];rfl⟩,fun j o hj _=>Z09 hj⟩
 ·have ha:appE 7 56 (.sl 7 id 0 l.length l.length false) (.sl 7 p 0 1 1 true) h h.length=some (.sl 7 id 0 (l++[m]).length (l++[m]).length false,⟨[(id, .arr 7 ((l++[m]).map encM) true false)],[],[id,p]⟩):=by
   unfold appE
   rw [rd]
   simp only [h1,List.length_map,List.length_singleton]
   rw [if_pos ⟨trivial,trivial,by omega,by simp [encM]⟩,if_neg (by simp),if_pos (by simp)]
   simp [idsOf]
  refine ⟨_,h.set id (.arr 7 ((l++[m]).map encM) true false),fun k=>Z0F ha k, .inr ⟨id,rfl,getSelfN h1⟩,fun j o hj ho=>getSetN hj ?_⟩
  rintro rfl
  rw [h1] at hj
  injection hj with hj
  exact ho _ hj.symm
theorem Zwn (l:List Msg) (b:Bool) (hl:l.length<1000000) (h:Hp) (base:Nat):newD Z13 [SLm b l] h base=if (b&&l.isEmpty)=true then some (nilS,⟨[],[],[]⟩) else some (.sl 7 base 0 l.length l.length false,⟨[],[.arr 7 (l.map encM) true false],[]⟩):=by
 by_cases hb:(b&&l.isEmpty)=true
 ·rw [if_pos hb]
  exact ZcP (fun H=>by rw [ZbK l b hl,if_pos hb]) h base
 ·rw [if_neg hb]
  refine ZcO (x:=(7,l.map encM,l.length,l.length,false)) ⟨fun e he c hc => ?_,fun H=>⟨[.arr 7 [] true false, .arr 7 (l.map encM) true false],1,by rw [ZbK l b hl,if_neg hb],rfl⟩⟩ h base
  obtain ⟨n, -,rfl⟩:=List.mem_map.1 he
  simp only [encM,List.mem_cons,List.not_mem_nil,or_false] at hc
  rcases hc with rfl | rfl | rfl | rfl | rfl | rfl | rfl<;>rfl
abbrev zI:List AV:=[I 0,nilS,nilS]
attribute [local congr] Z0e Z0f Z0g Z0h Z0i Z0j Z0k Z0l Z0m Z0n Z0o Z0p Z0q Z0r Z0s Z0t Z0u Z0v Z0w Z0x Z0y Z0z Z0A Z0B Z0C Z0D Z0E
theorem Zwo {msgs:List Msg} {b2:Bool} {node:Int} {LH:AV} (hLH:okC LH=true) (hLH2:∀c,c=LH→cellsOf c=[c]) (hl:msgs.length<1000000) (H:Hp):∃(V:AV) (Ha:Hp) (e1:Ent) (H3:Hp),(∀k:AV→Hp→Ent→Option AV,effD (newD Z13 [SLm b2 msgs] H H.length) H k=k V Ha e1)∧(∀k:AV→Hp→Ent→Option AV,effD (boxE 3 (.agg zI) Ha.length) Ha k=k (.ptr Ha.length 0 0 1) (Ha++[.arr 3 [zI] true false]) ([],[Ha.length]))∧(∀k:AV→Hp→Ent→Option AV,effD (stE 3 (.ptr Ha.length 0 0 1) (.agg [I node,LH,V]) (Ha++[.arr 3 [zI] true false])) (Ha++[.arr 3 [zI] true false]) k=k .u H3 ([Ha.length],[Ha.length]))∧H3[Ha.length]? = some (.arr 3 [[I node,LH,V]] true false)∧OwnQ H3 V msgs∧(∀(j:Nat) (o:AObj),H[j]? = some o→Ha[j]? = some o∧H3[j]? = some o)∧H.length≤Ha.length∧(e1=([],[])∨(e1=([],[H.length])∧Ha.length=H.length+1)):=by
 have gC:=Zwn msgs b2 hl H H.length
 have st:∀(V:AV) (Ha:Hp),(V=nilS∨∃id n,V = .sl 7 id 0 n n false)→∀k:AV→Hp→Ent→Option AV,effD (stE 3 (.ptr Ha.length 0 0 1) (.agg [I node,LH,V]) (Ha++[.arr 3 [zI] true false])) (Ha++[.arr 3 [zI] true false]) k=k .u (Ha++[.arr 3 [[I node,LH,V]] true false]) ([Ha.length],[Ha.length]):=fun V Ha hV k=>by
  have:stE 3 (.ptr Ha.length 0 0 1) (.agg [I node,LH,V]) (Ha++[.arr 3 [zI] true false])=some (.u,⟨[(Ha.length, .arr 3 [[I node,LH,V]] true false)],[],[Ha.length]⟩):=by
   rw [Z0G,Z0O]
   have hok:([I node,LH,V].all okC)=true:=by
    rcases hV with rfl | ⟨id,n,rfl⟩<;>simp [hLH]<;>exact hLH
   rcases hV with rfl | ⟨id,n,rfl⟩<;>simp [putAt]<;>exact hLH
  rw [this]
  simp only [effD,wrOf,ap,List.foldl_cons,List.foldl_nil,List.append_nil,Z3f]
  rfl
 have bx:∀(Ha:Hp) (k:AV→Hp→Ent→Option AV),effD (boxE 3 (.agg zI) Ha.length) Ha k=k (.ptr Ha.length 0 0 1) (Ha++[.arr 3 [zI] true false]) ([],[Ha.length]):=fun Ha k=>by simp [effD,boxE,ap,wrOf]
 by_cases hb:(b2&&msgs.isEmpty)=true
 ·rw [if_pos hb] at gC
  have hl0:msgs=[]:=by simpa using (Bool.and_eq_true_iff.1 hb).2
  refine ⟨nilS,H,([],[]),_,fun k=>by rw [gC];simp [effD,ap,wrOf],bx H,st nilS H (.inl rfl),by rw [Z0O];rfl, .inl ⟨hl0,rfl⟩,fun j o hj=>⟨hj,Z09 hj⟩,Nat.le_refl _, .inl rfl⟩
 ·rw [if_neg hb] at gC
  obtain ⟨Ha,hHa⟩:∃Ha:Hp,Ha=H++[AObj.arr 7 (msgs.map encM) true false]:=⟨_,rfl⟩
  refine ⟨_,Ha,([],[H.length]),_,fun k=>by rw [gC,hHa];simp [effD,ap,wrOf],bx Ha,st _ Ha (.inr ⟨_,_,rfl⟩),by rw [Z0O];rfl, .inr ⟨H.length,rfl,Z09 (by rw [hHa,Z0O];rfl)⟩,fun j o hj=>⟨by rw [hHa];exact Z09 hj,Z09 (by rw [hHa];exact Z09 hj)⟩,by rw [hHa];simp, .inr ⟨rfl,by rw [hHa];simp⟩⟩
end Go.AM


namespace Go.AM
open Go.Proofs
set_option linter.unusedVariables false
set_option linter.unusedSimpArgs false
set_option linter.constructorNameAsVariable false
set_option maxRecDepth 20000
attribute [local congr] Z0e Z0f Z0g Z0h Z0i Z0j Z0k Z0l Z0m Z0n Z0o Z0p Z0q Z0r Z0s Z0t Z0u Z0v Z0w Z0x Z0y Z0z Z0A Z0B Z0C Z0D Z0E
structure BsT (i:Inbx) (e:Envl) (LH LM:AV) (h:Hp):Prop where
 g0:h[0]? = some (.arr 3 [[I i.node,LH,LM]] true false)
 g1:h[1]? = some (.arr 10 [encV e] true false)
 g2:h[2]? = some (.arr 3 [zI] true false)
 g3:h[3]? = some (.arr 2 [zH] true false)
 g4:h[4]? = some (.arr 3 [zI] true false)
 g5:h[5]? = some (.arr 2 [[I e.frm,I e.num]] true false)
theorem BsT.mono {i:Inbx} {e:Envl} {LH LM:AV} {h h':Hp} (B:BsT i e LH LM h) (hk:∀(j:Nat) (o:AObj),j<6→h[j]? = some o→h'[j]? = some o):BsT i e LH LM h':=
 ⟨hk _ _ (by omega) B.g0,hk _ _ (by omega) B.g1,hk _ _ (by omega) B.g2,hk _ _ (by omega) B.g3,hk _ _ (by omega) B.g4,hk _ _ (by omega) B.g5⟩
section
variable {i:Inbx} {e:Envl} {LH LM:AV} {h:Hp}
theorem BsT.l00 (B:BsT i e LH LM h) (k:Go.AM.K AV):ldK 1 false (.ptr 0 0 0 1) h k=k (I i.node):=by rw [Z01,B.g0];rfl
theorem BsT.l13 (B:BsT i e LH LM h) (k:Go.AM.K AV):ldK 7 true (.ptr 1 0 3 1) h k=k (.agg (encM e.msg)):=by rw [Z01,B.g1];rfl
theorem BsT.l1w (B:BsT i e LH LM h) (k:Go.AM.K AV):ldK 10 true (.ptr 1 0 0 1) h k=k (.agg (encV e)):=by rw [Z01,B.g1];rfl
theorem BsT.l11 (B:BsT i e LH LM h) (k:Go.AM.K AV):ldK 1 false (.ptr 1 0 1 1) h k=k (I e.to):=by rw [Z01,B.g1];rfl
theorem BsT.l5w (B:BsT i e LH LM h) (k:Go.AM.K AV):ldK 2 true (.ptr 5 0 0 1) h k=k (.agg (encH ⟨e.frm,e.num⟩)):=by rw [Z01,B.g5];rfl
theorem BsT.l4w (B:BsT i e LH LM h) (k:Go.AM.K AV):ldK 3 true (.ptr 4 0 0 1) h k=k (.agg zI):=by rw [Z01,B.g4];rfl
theorem BsT.l2w (B:BsT i e LH LM h) (k:Go.AM.K AV):ldK 3 true (.ptr 2 0 0 1) h k=k (.agg zI):=by rw [Z01,B.g2];rfl
theorem BsT.l3w (B:BsT i e LH LM h) (k:Go.AM.K AV):ldK 2 true (.ptr 3 0 0 1) h k=k (.agg zH):=by rw [Z01,B.g3];rfl
theorem BsT.s2 (B:BsT i e LH LM h) (k:AV→Hp→Option AV):effK (stE 3 (.ptr 2 0 0 1) (.agg zI) h) h k=k .u h:=by
 have:stE 3 (.ptr 2 0 0 1) (.agg zI) h=some (.u,⟨[(2, .arr 3 [zI] true false)],[],[2]⟩):=by rw [Z0G,B.g2];rfl
 rw [Z0F this,Z1f B.g2]
theorem BsT.s3 (B:BsT i e LH LM h) (k:AV→Hp→Option AV):effK (stE 2 (.ptr 3 0 0 1) (.agg zH) h) h k=k .u h:=by
 have:stE 2 (.ptr 3 0 0 1) (.agg zH) h=some (.u,⟨[(3, .arr 2 [zH] true false)],[],[3]⟩):=by rw [Z0G,B.g3];rfl
 rw [Z0F this,Z1f B.g3]
end
theorem Ziq {i:Inbx} {e:Envl} {LH LM:AV} {h:Hp} (Q:BsT i e LH LM h) {p:Nat} {H:List Hrd} {bh:Bool} {V:AV} {msgs:List Msg} (hp:h[p]? = some (.arr 3 [[I i.node, .lst 2 bh (H.map encH),V]] true false)) (hp6:6≤p) (O:OwnQ h V msgs) (fr:Bool):
  ∃w b,cvt false ((h.set 2 (.arr 3 [[I i.node, .lst 2 bh (H.map encH),V]] true false)).set 3 (.arr 2 [encH ⟨e.frm,e.num⟩] true false)) (.tup [.agg [I i.node, .lst 2 bh (H.map encH),V], .agg (encH ⟨e.frm,e.num⟩),B fr,I 0])=some w∧nrmR [.a [none,some 2,some 7], .o, .o, .o] w = .tup [.agg [I i.node, .lst 2 bh (H.map encH),SLm b msgs], .agg (encH ⟨e.frm,e.num⟩),B fr,I 0] ∧
   (∀(k:AV→Hp→Ent→Option AV),effD (stE 3 (.ptr 2 0 0 1) (.agg [I i.node, .lst 2 bh (H.map encH),V]) h) h k=k .u (h.set 2 (.arr 3 [[I i.node, .lst 2 bh (H.map encH),V]] true false)) ([2],[2])) ∧
   (∀(k:AV→Hp→Ent→Option AV),effD (stE 2 (.ptr 3 0 0 1) (.agg (encH ⟨e.frm,e.num⟩)) (h.set 2 (.arr 3 [[I i.node, .lst 2 bh (H.map encH),V]] true false))) (h.set 2 (.arr 3 [[I i.node, .lst 2 bh (H.map encH),V]] true false)) k=k .u ((h.set 2 (.arr 3 [[I i.node, .lst 2 bh (H.map encH),V]] true false)).set 3 (.arr 2 [encH ⟨e.frm,e.num⟩] true false)) ([3],[3])) ∧
   (∀k:Go.AM.K AV,ldK 3 true (.ptr p 0 0 1) h k=k (.agg [I i.node, .lst 2 bh (H.map encH),V])) ∧
   (∀k:Go.AM.K AV,ldK 3 true (.ptr 2 0 0 1) ((h.set 2 (.arr 3 [[I i.node, .lst 2 bh (H.map encH),V]] true false)).set 3 (.arr 2 [encH ⟨e.frm,e.num⟩] true false)) k=k (.agg [I i.node, .lst 2 bh (H.map encH),V])) ∧
   (∀k:Go.AM.K AV,ldK 2 true (.ptr 3 0 0 1) ((h.set 2 (.arr 3 [[I i.node, .lst 2 bh (H.map encH),V]] true false)).set 3 (.arr 2 [encH ⟨e.frm,e.num⟩] true false)) k=k (.agg (encH ⟨e.frm,e.num⟩))):=by
 have hs:=O.shape
 have a2:=Q.g2
 have a3:(h.set 2 (.arr 3 [[I i.node, .lst 2 bh (H.map encH),V]] true false))[3]? = some (.arr 2 [zH] true false):=getSetN Q.g3 (by omega)
 have O2:OwnQ ((h.set 2 (.arr 3 [[I i.node, .lst 2 bh (H.map encH),V]] true false)).set 3 (.arr 2 [encH ⟨e.frm,e.num⟩] true false)) V msgs:=O.keep fun j x hj=>by
  have n2:2≠j:=by rintro rfl;rw [Q.g2] at hj;injection hj with hj;injection hj with q _;cases q
  have n3:3≠j:=by rintro rfl;rw [Q.g3] at hj;injection hj with hj;injection hj with q _;cases q
  exact getSetN (getSetN hj n2) n3
 obtain ⟨w,b,c1,c2,c3⟩:=O2.cvt
 refine ⟨.tup [.agg [I i.node, .lst 2 bh (H.map encH),w], .agg (encH ⟨e.frm,e.num⟩),B fr,I 0],b, ?_, ?_,fun k => ?_,fun k => ?_,fun k => ?_,fun k => ?_,fun k => ?_⟩
 ·simp only [Z3g,Z17,Z16,Z3x,cvt_s,Zcx,c1]
  rfl
 ·show AV.tup [.agg [I i.node, .lst 2 bh (H.map encH),nrm (.l 7) w], .agg (encH ⟨e.frm,e.num⟩),B fr,I 0]=_
  rw [c2]
 ·have:stE 3 (.ptr 2 0 0 1) (.agg [I i.node, .lst 2 bh (H.map encH),V]) h=some (.u,⟨[(2, .arr 3 [[I i.node, .lst 2 bh (H.map encH),V]] true false)],[],[2]⟩):=by
   rw [Z0G,a2]
   rcases hs with rfl | ⟨id,n,rfl⟩<;>simp [putAt]
  exact Z0a this k
 ·have:stE 2 (.ptr 3 0 0 1) (.agg (encH ⟨e.frm,e.num⟩)) (h.set 2 (.arr 3 [[I i.node, .lst 2 bh (H.map encH),V]] true false))=some (.u,⟨[(3, .arr 2 [encH ⟨e.frm,e.num⟩] true false)],[],[3]⟩):=by
   rw [Z0G,a3]
   simp [putAt,encH]
  exact Z0a this k
 ·rw [Z01,hp];rcases hs with rfl | ⟨id,n,rfl⟩<;>rfl
 ·have:((h.set 2 (.arr 3 [[I i.node, .lst 2 bh (H.map encH),V]] true false)).set 3 (.arr 2 [encH ⟨e.frm,e.num⟩] true false))[2]? = some (.arr 3 [[I i.node, .lst 2 bh (H.map encH),V]] true false):=getSetN (getSelfN a2) (by omega)
  rw [Z01,this];rcases hs with rfl | ⟨id,n,rfl⟩<;>rfl
 ·have:((h.set 2 (.arr 3 [[I i.node, .lst 2 bh (H.map encH),V]] true false)).set 3 (.arr 2 [encH ⟨e.frm,e.num⟩] true false))[3]? = some (.arr 2 [encH ⟨e.frm,e.num⟩] true false):=getSelfN a3
  rw [Z01,this];rfl
set_option maxHeartbeats 4000000 in
theorem Zwp (c1 c2:Bool) (i:Inbx) (e:Envl) (hl:i.heard.length<1000) (hm:i.msgs.length<1000) (h:Hp):∃b1 b2,Z5T [ib c1 c2 i, .agg (encV e)] h=some (takeV b1 b2 (takeI i e),h):=by
 obtain ⟨LH,hLH⟩:∃LH:AV,LH=SL 2 encH c1 i.heard:=⟨_,rfl⟩
 obtain ⟨LM,hLM⟩:∃LM:AV,LM=SL 7 encM c2 i.msgs:=⟨_,rfl⟩
 have eib:ib c1 c2 i = .agg [I i.node,LH,LM]:=by rw [hLH,hLM]
 obtain ⟨H1,hH1⟩:∃H1:Hp,H1=[AObj.arr 3 [[I i.node,LH,LM]] true false, .arr 10 [encV e] true false, .arr 3 [zI] true false, .arr 2 [zH] true false, .arr 3 [zI] true false, .arr 2 [[I e.frm,I e.num]] true false]:=⟨_,rfl⟩
 have hl1:H1.length=6:=by rw [hH1];rfl
 have B1:BsT i e LH LM H1:=by rw [hH1];exact ⟨rfl,rfl,rfl,rfl,rfl,rfl⟩
 have x0:∀k:AV→Hp→Option AV,effK (boxE 3 (.agg [I i.node,LH,LM]) ([]:Hp).length) [] k=k (.ptr 0 0 0 1) [.arr 3 [[I i.node,LH,LM]] true false]:=fun k=>by rw [hLH,hLM];rfl
 have x1:∀k:AV→Hp→Option AV,effK (boxE 10 (.agg (encV e)) ([AObj.arr 3 [[I i.node,LH,LM]] true false]:Hp).length) [.arr 3 [[I i.node,LH,LM]] true false] k=k (.ptr 1 0 0 1) [.arr 3 [[I i.node,LH,LM]] true false, .arr 10 [encV e] true false]:=fun k=>rfl
 have x2:∀k:AV→Hp→Option AV,effK (boxE 3 (.agg zI) ([AObj.arr 3 [[I i.node,LH,LM]] true false, .arr 10 [encV e] true false]:Hp).length) [.arr 3 [[I i.node,LH,LM]] true false, .arr 10 [encV e] true false] k=k (.ptr 2 0 0 1) [.arr 3 [[I i.node,LH,LM]] true false, .arr 10 [encV e] true false, .arr 3 [zI] true false]:=fun k=>rfl
 have x3:∀k:AV→Hp→Option AV,effK (boxE 2 (.agg zH) ([AObj.arr 3 [[I i.node,LH,LM]] true false, .arr 10 [encV e] true false, .arr 3 [zI] true false]:Hp).length) [.arr 3 [[I i.node,LH,LM]] true false, .arr 10 [encV e] true false, .arr 3 [zI] true false] k=k (.ptr 3 0 0 1) [.arr 3 [[I i.node,LH,LM]] true false, .arr 10 [encV e] true false, .arr 3 [zI] true false, .arr 2 [zH] true false]:=fun k=>rfl
 obtain ⟨H0,hH0⟩:∃H0:Hp,H0=[AObj.arr 3 [[I i.node,LH,LM]] true false, .arr 10 [encV e] true false, .arr 3 [zI] true false, .arr 2 [zH] true false]:=⟨_,rfl⟩
 rw [← hH0] at x3
 have y0:∀k:Go.AM.K AV,ldK 1 false (.ptr 1 0 0 1) H0 k=k (I e.frm):=fun k=>by rw [hH0];rfl
 have y2:∀k:Go.AM.K AV,ldK 1 false (.ptr 1 0 2 1) H0 k=k (I e.num):=fun k=>by rw [hH0];rfl
 have bI:∀k:Go.AM.K AV,buildK zI [] k=k (.agg zI):=fun k=>rfl
 have bH:∀k:Go.AM.K AV,buildK zH [] k=k (.agg zH):=fun k=>rfl
 have bK:∀k:Go.AM.K AV,buildK zH [(some (0,1),I e.frm),(some (1,1),I e.num)] k=k (.agg [I e.frm,I e.num]):=fun k=>rfl
 have d1:∀k:AV→Hp→Ent→Option AV,effD (boxE 3 (.agg zI) H0.length) H0 k=k (.ptr 4 0 0 1) (H0++[.arr 3 [zI] true false]) ([],[4]):=fun k=>by rw [hH0];rfl
 have d2:∀k:AV→Hp→Ent→Option AV,effD (boxE 2 (.agg zH) (H0++[AObj.arr 3 [zI] true false]).length) (H0++[.arr 3 [zI] true false]) k=k (.ptr 5 0 0 1) (H0++[.arr 3 [zI] true false, .arr 2 [zH] true false]) ([],[5]):=fun k=>by rw [hH0];rfl
 have d3:∀k:AV→Hp→Ent→Option AV,effD (stE 3 (.ptr 4 0 0 1) (.agg zI) (H0++[.arr 3 [zI] true false, .arr 2 [zH] true false])) (H0++[.arr 3 [zI] true false, .arr 2 [zH] true false]) k=k .u (H0++[.arr 3 [zI] true false, .arr 2 [zH] true false]) ([4],[4]):=fun k=>by rw [hH0];rfl
 have d4:∀k:AV→Hp→Ent→Option AV,effD (stE 2 (.ptr 5 0 0 1) (.agg [I e.frm,I e.num]) (H0++[.arr 3 [zI] true false, .arr 2 [zH] true false])) (H0++[.arr 3 [zI] true false, .arr 2 [zH] true false]) k=k .u H1 ([5],[5]):=fun k=>by rw [hH0,hH1];rfl
 have dj1:disjAll [(2,6),(4,6),(2,7),(4,7),(6,7),(2,8),(4,8)] [([],[]),([],[]),(idsOf (.ptr 1 0 0 1),[]),([],[]),(idsOf (.ptr 1 0 2 1),[]),([],[]),([],[4]),([],[5]),([4],[4]),([5],[5])]=true:=rfl
 have lw:∀k:Go.AM.K AV,ldK 3 true (.ptr 0 0 0 1) H1 k=k (.agg [I i.node,LH,LM]):=fun k=>by rw [Z01,B1.g0,hLH,hLM];rfl
 have fC:=Z6o c1 c2 i (by omega) hm
 rw [eib] at fC
 have hnr:nrm (.a [none,some 2,some 7]) (.agg [I i.node,LH,LM]) = .agg [I i.node,LH,LM]:=by rw [hLH,hLM];rfl
 have hpl:plains [.agg [I i.node,LH,LM], .agg (encV e)]=true:=by rw [hLH,hLM];rfl
 rw [eib]
 unfold takeI
 by_cases z:chkI i=0
 ·have ez:(chkI i==0)=true:=by simp [z]
  rw [if_neg (show ¬chkI i≠0 from fun hh=>hh z)]
  obtain ⟨k1,k2,k3,k4,k5,k6,k7⟩:=Z8q z
  obtain ⟨hasc, -, -⟩:=ZbR k4
  obtain ⟨H2,hH2⟩:∃H2:Hp,H2=H1++[AObj.arr 10 [encV e] true false]:=⟨_,rfl⟩
  have hl2:H2.length=7:=by rw [hH2];simp [hl1]
  have B2:BsT i e LH LM H2:=B1.mono fun j o _ hj=>by rw [hH2];exact Z09 hj
  have bs:∀k:AV→Hp→Option AV,effK (bsE 10 zE 1 [(0, .agg (encV e))] H1.length) H1 k=k (.sl 10 H1.length 0 1 1 true) H2:=fun k=>by rw [hH2];simp [bsE,fillS,encV,effK,ap]
  have fc:=Zic (x:=e) (h:=H2) (id:=H1.length) (by rw [hH2,Z0O];rfl)
  have t0:∀(k:Go.AM.K AV),exK (tupP (chkS [e])) 0 k=k (I (chkS [e]).1):=fun k=>rfl
  have t1:∀(k:Go.AM.K AV),exK (tupP (chkS [e])) 1 k=k (I (formE e)):=fun k=>by rw [← Zi9];rfl
  by_cases z2:formE e=0
  ·have ez2:(formE e==0)=true:=by simp [z2]
   rw [if_neg (show ¬formE e≠0 from fun hh=>hh z2)]
   obtain ⟨m1, -⟩:=Zdy z2
   by_cases q3:e.to=i.node
   ·have e3:(e.to==i.node)=true:=by simp [q3]
    rw [if_neg (show ¬e.to≠i.node from fun hh=>hh q3)]
    have gH:∀h base,Z4L [LH] h base=some (LH,EF []):=fun h base=>by
     rw [hLH]
     exact (Z22 (Zio i.heard c1 (by omega) h) base).trans (by simp [SL,idss,ids])
    obtain ⟨V,Ha,e1,H3,p1,p2,p3,p4,p5,p6,p7,p8⟩:=Zwo (msgs:=i.msgs) (b2:=c2) (node:=i.node) (LH:=LH) (by rw [hLH];rfl) (fun c hc=>by rw [hc,hLH];rfl) (by omega) H2
    have hLM2:SLm c2 i.msgs=LM:=hLM.symm
    rw [hLM2] at p1
    have h20:∀k:Go.AM.K AV,ldK 1 false (.ptr 0 0 1 1) H2 k=k LH:=fun k=>by rw [Z01,B2.g0,hLH];rfl
    have h22:∀k:Go.AM.K AV,ldK 1 false (.ptr 0 0 2 1) H2 k=k LM:=fun k=>by rw [Z01,B2.g0,hLM];rfl
    have bI3:∀k:Go.AM.K AV,buildK zI [(some (0,1),I i.node),(some (1,1),LH),(some (2,1),V)] k=k (.agg [I i.node,LH,V]):=fun k=>by
     rcases p5.shape with rfl | ⟨id,n,rfl⟩<;>(rw [hLH];rfl)
    have hpa:7≤Ha.length:=by omega
    have dj2:disjAll [(1,4),(4,6),(1,7),(1,9),(3,9),(4,9),(6,9),(7,9)] [([],[]),(idsOf (.ptr 0 0 0 1),[]),([],[]),(idsOf (.ptr 0 0 1 1),[]),([],[]),([],[]),(idsOf (.ptr 0 0 2 1),[]),e1,([],[]),([],[Ha.length]),([Ha.length],[Ha.length])]=true:=by
     have n0:(0==Ha.length)=false:=by rw [beq_eq_false_iff_ne];omega
     rcases p8 with rfl | ⟨rfl,q⟩
     ·simp [disjAll,disj2,idsOf]
      rintro rfl
      simp at hpa
     ·simp [disjAll,disj2,idsOf]
      refine ⟨?_, ?_,by omega⟩
      ·rintro rfl;simp at hl2
      ·rintro rfl;simp at hpa
    have B3:BsT i e LH LM H3:=B2.mono fun j o _ hj=>(p6 j o hj).2
    have h30:∀k:Go.AM.K AV,ldK 1 false (.ptr 0 0 1 1) H3 k=k LH:=fun k=>by rw [Z01,B3.g0,hLH];rfl
    have h32:∀k:Go.AM.K AV,ldK 1 false (.ptr 0 0 2 1) H3 k=k LM:=fun k=>by rw [Z01,B3.g0,hLM];rfl
    have fH:=Zip i.heard (c1&&i.heard.isEmpty) ⟨e.frm,e.num⟩ (by omega) (fun x y h k=>by rw [Zdx,Bool.false_xor])
    have fM:=Zi5 i.msgs (c2&&i.msgs.isEmpty) e.msg (by omega) (fun x y h k=>by rw [Z6k,Bool.false_xor])
    rw [show AV.lst 2 (c1&&i.heard.isEmpty) (i.heard.map encH)=LH from hLH.symm] at fH
    rw [show AV.lst 7 (c2&&i.msgs.isEmpty) (i.msgs.map encM)=LM from hLM.symm] at fM
    have lenH:∀k:Go.AM.K AV,lenK LH k=k (I i.heard.length):=fun k=>by rw [hLH,SL,Z0d,List.length_map]
    have lenM:∀k:Go.AM.K AV,lenK LM k=k (I i.msgs.length):=fun k=>by rw [hLM,SL,Z0d,List.length_map]
    cases q4:i.heard.contains ⟨e.frm,e.num⟩ with
    | true=>
     rw [if_pos rfl]
     rw [hLH] at p4
     obtain ⟨w,b,o1,o2,o3,o4,o5,o6,o7⟩:=Ziq B3 p4 (by omega) p5 false
     rw [show AV.lst 2 (c1&&i.heard.isEmpty) (i.heard.map encH)=LH from hLH.symm] at o1 o2 o3 o4 o5 o6 o7
     refine ⟨c1,b,(Z4O (a0 := .agg [I i.node,LH,LM]) (a1 := .agg (encV e)) (v:=w) hpl ?_ h).trans ?_⟩
     ·rw [hnr]
      simp -implicitDefEqProofs only [Z23,x0,x1,x2,x3,bI,Z07,Nat.zero_add,y0,y2,bK,d1,d2,d3,d4,dj1,cond_true,lw,Z4N,Z03,fC,Z06,ez,Bool.true_xor,Bool.not_true,Z00,Bool.false_eq_true,if_false,B1.l1w,bs,Z5S,fc,t0,t1,ez2,B2.l11,B2.l00,e3,h20,ZaG,ZaH,Z1G,gH,Z4u,h22,p1,bI3,p2,p3,dj2,h30,B3.l5w,ZaI,fH,q4,if_true,o5,o3,o4,o6,o7]
      have dj3:disjAll [(1,2)] [(idsOf (.ptr Ha.length 0 0 1),[]),(idsOf (.ptr 5 0 0 1),[]),([2],[2]),([3],[3]),([],[]),([],[])]=true:=rfl
      rw [dj3,cond_true]
      exact o1
     ·rw [o2,hLH]
      rfl
    | false=>
     rw [if_neg (by simp)]
     obtain ⟨fresh,hfr⟩:∃fresh,fresh = !i.msgs.contains e.msg:=⟨_,rfl⟩
     by_cases q5:i.heard.length=256∨(i.msgs.contains e.msg=false∧i.msgs.length=64)
     ·rw [if_pos q5]
      refine ⟨true,true,(Z4O (a0 := .agg [I i.node,LH,LM]) (a1 := .agg (encV e)) (v := .tup [.agg zI, .agg zH,B false,I 12]) hpl ?_ h).trans rfl⟩
      rw [hnr]
      have g5:((i.heard.length:Int)==256||(!i.msgs.contains e.msg&&(i.msgs.length:Int)==64))=true:=by
       rcases q5 with q5 | ⟨q5,q6⟩
       ·simp [q5]
       ·rw [q5,q6];simp
      simp -implicitDefEqProofs only [Z23,x0,x1,x2,x3,bI,Z07,Nat.zero_add,y0,y2,bK,d1,d2,d3,d4,dj1,cond_true,lw,Z4N,Z03,fC,Z06,ez,Bool.true_xor,Bool.not_true,Z00,Bool.false_eq_true,if_false,B1.l1w,bs,Z5S,fc,t0,t1,ez2,B2.l11,B2.l00,e3,h20,ZaG,ZaH,Z1G,gH,Z4u,h22,p1,bI3,p2,p3,dj2,h30,B3.l5w,ZaI,fH,q4,h32,B3.l13,Zd2,fM,Z0J,lenH,lenM,Bool.false_xor,Z0W,Z0M,g5,if_true,B3.l4w,bH,B3.s2,B3.s3,B3.l2w,B3.l3w]
      rfl
     ·rw [if_neg q5]
      have g5:((i.heard.length:Int)==256||(!i.msgs.contains e.msg&&(i.msgs.length:Int)==64))=false:=by
       rw [Bool.or_eq_false_iff]
       constructor
       ·rw [beq_eq_false_iff_ne];intro hh;exact q5 (.inl (by omega))
       ·cases hc:i.msgs.contains e.msg with
        | true=>rfl
        | false=>
         simp only [Bool.not_false,Bool.true_and]
         rw [beq_eq_false_iff_ne];intro hh;exact q5 (.inr ⟨hc,by omega⟩)
      have fI:=Zwl (b:=c1) (x:=⟨e.frm,e.num⟩) hasc (by omega) H3
      rw [show SL 2 encH c1 i.heard=LH from hLH.symm] at fI
      obtain ⟨LI,hLI⟩:∃LI:AV,LI = .lst 2 false ((insH i.heard ⟨e.frm,e.num⟩).map encH):=⟨_,rfl⟩
      rw [← hLI] at fI
      obtain ⟨H4,hH4⟩:∃H4:Hp,H4=H3.set Ha.length (.arr 3 [[I i.node,LI,V]] true false):=⟨_,rfl⟩
      have s4:∀k:AV→Hp→Option AV,effK (stE 1 (.ptr Ha.length 0 1 1) LI H3) H3 k=k .u H4:=fun k=>by
       have:stE 1 (.ptr Ha.length 0 1 1) LI H3=some (.u,⟨[(Ha.length, .arr 3 [[I i.node,LI,V]] true false)],[],[Ha.length]⟩):=by
        rw [Z0G,p4,hLI]
        simp [putAt]
       rw [Z0F this,hH4]
      have B4:BsT i e LH LM H4:=B3.mono fun j o hj6 hj=>by rw [hH4];exact getSetN hj (by omega)
      have p44:H4[Ha.length]? = some (.arr 3 [[I i.node,LI,V]] true false):=by rw [hH4];exact getSelfN p4
      have O4:OwnQ H4 V i.msgs:=p5.keep fun j x hj=>by
       rw [hH4]
       refine getSetN hj ?_
       rintro rfl
       rw [p4] at hj;injection hj with hj;injection hj with q _;cases q
      cases q6:i.msgs.contains e.msg with
      | true=>
       rw [hLI] at p44
       obtain ⟨w,b,o1,o2,o3,o4,o5,o6,o7⟩:=Ziq B4 p44 (by omega) O4 true
       rw [← hLI] at o1 o2 o3 o4 o5 o6 o7
       refine ⟨false,b,(Z4O (a0 := .agg [I i.node,LH,LM]) (a1 := .agg (encV e)) (v:=w) hpl ?_ h).trans ?_⟩
       ·rw [hnr]
        rw [q6] at g5
        simp only [Bool.not_true] at g5
        simp -implicitDefEqProofs only [Z23,x0,x1,x2,x3,bI,Z07,Nat.zero_add,y0,y2,bK,d1,d2,d3,d4,dj1,cond_true,lw,Z4N,Z03,fC,Z06,ez,Bool.true_xor,Bool.not_true,Z00,Bool.false_eq_true,if_false,B1.l1w,bs,Z5S,fc,t0,t1,ez2,B2.l11,B2.l00,e3,h20,ZaG,ZaH,Z1G,gH,Z4u,h22,p1,bI3,p2,p3,dj2,h30,B3.l5w,ZaI,fH,q4,h32,B3.l13,Zd2,fM,q6,Z0J,lenH,lenM,Bool.false_xor,Z0W,Z0M,g5,Zhk,fI,s4,Z8R,o5,B4.l5w,o3,o4,o6,o7]
        have dj3:disjAll [(1,2)] [(idsOf (.ptr Ha.length 0 0 1),[]),(idsOf (.ptr 5 0 0 1),[]),([2],[2]),([3],[3]),([],[]),([],[])]=true:=rfl
        rw [dj3,cond_true]
        exact o1
       ·rw [o2,hLI]
        rfl
      | false=>
       have hml:i.msgs.length<64:=by
        rcases Nat.lt_or_ge i.msgs.length 64 with hh | hh
        ·exact hh
        ·exact absurd (.inr ⟨q6,by omega⟩) q5
       have hE0:errM (i.msgs++[e.msg])=0:=by
        refine Z6n.2 ⟨by simp;omega,fun m hm => ?_⟩
        rcases List.mem_append.1 hm with hm | hm
        ·exact (Z6n.1 k5).2 m hm
        ·simp only [List.mem_singleton] at hm;subst hm;exact m1
       have lV:∀k:Go.AM.K AV,ldK 1 false (.ptr Ha.length 0 2 1) H4 k=k V:=fun k=>by rw [Z01,p44];rcases p5.shape with rfl | ⟨id,n,rfl⟩<;>rfl
       obtain ⟨H5,hH5⟩:∃H5:Hp,H5=H4++[AObj.arr 7 [encM e.msg] true false]:=⟨_,rfl⟩
       have bm:∀k:AV→Hp→Option AV,effK (bsE 7 [I 0,I 0,I 0,I 0,I 0,I 0,I 0] 1 [(0, .agg (encM e.msg))] H4.length) H4 k=k (.sl 7 H4.length 0 1 1 true) H5:=fun k=>by rw [hH5];simp [bsE,fillS,encM,effK,ap]
       have O5:OwnQ H5 V i.msgs:=O4.keep fun j x hj=>by rw [hH5];exact Z09 hj
       obtain ⟨V',H6,a1,a2,a3⟩:=O5.snoc (m:=e.msg) (p:=H4.length) (by rw [hH5,Z0O];rfl) (fun id hid=>by
        rcases O4 with ⟨-,rfl⟩ | ⟨id',rfl,hh⟩
        ·simp [idOf] at hid
        ·simp only [idOf,Option.some.injEq] at hid
         have:=(List.getElem?_eq_some_iff.1 hh).1
         omega) (by omega)
       have B6:BsT i e LH LM H6:=by
        have B5:BsT i e LH LM H5:=B4.mono fun j o _ hj=>by rw [hH5];exact Z09 hj
        exact ⟨a3 _ _ B5.g0 (fun x hx=>by injection hx with q _;cases q),a3 _ _ B5.g1 (fun x hx=>by injection hx with q _;cases q),a3 _ _ B5.g2 (fun x hx=>by injection hx with q _;cases q),a3 _ _ B5.g3 (fun x hx=>by injection hx with q _;cases q),a3 _ _ B5.g4 (fun x hx=>by injection hx with q _;cases q),a3 _ _ B5.g5 (fun x hx=>by injection hx with q _;cases q)⟩
       have p46:H6[Ha.length]? = some (.arr 3 [[I i.node,LI,V]] true false):=a3 _ _ (by rw [hH5];exact Z09 p44) (fun x hx=>by injection hx with q _;cases q)
       obtain ⟨w5,bb,u1,u2, -⟩:=a2.cvt
       have fN:=ZhW (i.msgs++[e.msg]) (b:=bb) (by simp;omega) (h:=H6) (v:=V') (a:=w5) (by simp only [Z17,Z16,u1]) u2
       obtain ⟨N,hN⟩:∃N:List Msg,N=normL (i.msgs++[e.msg]):=⟨_,rfl⟩
       obtain ⟨bn,hbn⟩:∃bn,bn=(bb&&N.isEmpty):=⟨_,rfl⟩
       have nV:normR bb (i.msgs++[e.msg]) = .tup [.lst 7 bn (N.map encM),I 0]:=by unfold normR;rw [hE0,if_pos rfl, ← hN,hbn]
       rw [nV] at fN
       have tp:∀(a b:AV) (k:Go.AM.K AV),exK (.tup [a,b]) 0 k=k a:=fun a b k=>rfl
       have tq:∀(a b:AV) (k:Go.AM.K AV),exK (.tup [a,b]) 1 k=k b:=fun a b k=>rfl
       obtain ⟨H7,hH7⟩:∃H7:Hp,H7=H6.set Ha.length (.arr 3 [[I i.node,LI, .lst 7 bn (N.map encM)]] true false):=⟨_,rfl⟩
       have s7:∀k:AV→Hp→Option AV,effK (stE 1 (.ptr Ha.length 0 2 1) (.lst 7 bn (N.map encM)) H6) H6 k=k .u H7:=fun k=>by
        have:stE 1 (.ptr Ha.length 0 2 1) (.lst 7 bn (N.map encM)) H6=some (.u,⟨[(Ha.length, .arr 3 [[I i.node,LI, .lst 7 bn (N.map encM)]] true false)],[],[Ha.length]⟩):=by
         rw [Z0G,p46,hLI]
         simp [putAt]
        rw [Z0F this,hH7]
       have B7:BsT i e LH LM H7:=B6.mono fun j o hj6 hj=>by rw [hH7];exact getSetN hj (by omega)
       have p47:H7[Ha.length]? = some (.arr 3 [[I i.node,LI, .lst 7 bn (N.map encM)]] true false):=by rw [hH7];exact getSelfN p46
       obtain ⟨H8,hH8⟩:∃H8:Hp,H8=H7.set 2 (.arr 3 [[I i.node,LI, .lst 7 bn (N.map encM)]] true false):=⟨_,rfl⟩
       obtain ⟨H9,hH9⟩:∃H9:Hp,H9=H8.set 3 (.arr 2 [encH ⟨e.frm,e.num⟩] true false):=⟨_,rfl⟩
       have c83:H8[3]? = some (.arr 2 [zH] true false):=by rw [hH8];exact getSetN B7.g3 (by omega)
       have o3:∀(k:AV→Hp→Ent→Option AV),effD (stE 3 (.ptr 2 0 0 1) (.agg [I i.node,LI, .lst 7 bn (N.map encM)]) H7) H7 k=k .u H8 ([2],[2]):=fun k=>by
        have:stE 3 (.ptr 2 0 0 1) (.agg [I i.node,LI, .lst 7 bn (N.map encM)]) H7=some (.u,⟨[(2, .arr 3 [[I i.node,LI, .lst 7 bn (N.map encM)]] true false)],[],[2]⟩):=by
         rw [Z0G,B7.g2,hLI]
         simp [putAt]
        rw [Z0a this,hH8]
       have o4:∀(k:AV→Hp→Ent→Option AV),effD (stE 2 (.ptr 3 0 0 1) (.agg (encH ⟨e.frm,e.num⟩)) H8) H8 k=k .u H9 ([3],[3]):=fun k=>by
        have:stE 2 (.ptr 3 0 0 1) (.agg (encH ⟨e.frm,e.num⟩)) H8=some (.u,⟨[(3, .arr 2 [encH ⟨e.frm,e.num⟩] true false)],[],[3]⟩):=by
         rw [Z0G,c83]
         simp [putAt,encH]
        rw [Z0a this,hH9]
       have o5:∀k:Go.AM.K AV,ldK 3 true (.ptr Ha.length 0 0 1) H7 k=k (.agg [I i.node,LI, .lst 7 bn (N.map encM)]):=fun k=>by rw [Z01,p47,hLI];rfl
       have c92:H9[2]? = some (.arr 3 [[I i.node,LI, .lst 7 bn (N.map encM)]] true false):=by rw [hH9];exact getSetN (by rw [hH8];exact getSelfN B7.g2) (by omega)
       have c93:H9[3]? = some (.arr 2 [encH ⟨e.frm,e.num⟩] true false):=by rw [hH9];exact getSelfN c83
       have o6:∀k:Go.AM.K AV,ldK 3 true (.ptr 2 0 0 1) H9 k=k (.agg [I i.node,LI, .lst 7 bn (N.map encM)]):=fun k=>by rw [Z01,c92,hLI];rfl
       have o7:∀k:Go.AM.K AV,ldK 2 true (.ptr 3 0 0 1) H9 k=k (.agg (encH ⟨e.frm,e.num⟩)):=fun k=>by rw [Z01,c93];rfl
       refine ⟨false,bb,(Z4O (a0 := .agg [I i.node,LH,LM]) (a1 := .agg (encV e)) (v := .tup [.agg [I i.node,LI, .lst 7 bn (N.map encM)], .agg (encH ⟨e.frm,e.num⟩),B true,I 0]) hpl ?_ h).trans ?_⟩
       ·rw [hnr]
        rw [q6] at g5
        simp only [Bool.not_false] at g5
        simp -implicitDefEqProofs only [Z23,x0,x1,x2,x3,bI,Z07,Nat.zero_add,y0,y2,bK,d1,d2,d3,d4,dj1,cond_true,lw,Z4N,Z03,fC,Z06,ez,Bool.true_xor,Bool.not_true,Z00,Bool.false_eq_true,if_false,B1.l1w,bs,Z5S,fc,t0,t1,ez2,B2.l11,B2.l00,e3,h20,ZaG,ZaH,Z1G,gH,Z4u,h22,p1,bI3,p2,p3,dj2,h30,B3.l5w,ZaI,fH,q4,h32,B3.l13,Zd2,fM,q6,Z0J,lenH,lenM,Bool.false_xor,Z0W,Z0M,g5,Zhk,fI,s4,Bool.not_false,if_true,lV,B4.l13,bm,a1,Zr0,fN,tp,tq,s7,Z8R,o5,B7.l5w,o3,o4,o6,o7]
        have dj3:disjAll [(1,2)] [(idsOf (.ptr Ha.length 0 0 1),[]),(idsOf (.ptr 5 0 0 1),[]),([2],[2]),([3],[3]),([],[]),([],[])]=true:=rfl
        rw [dj3,cond_true,hLI]
        rfl
       ·rw [hLI]
        unfold takeV ib cellsI
        rw [if_neg (by simp), ← hN,hbn]
        rfl
   ·have e3:(e.to==i.node)=false:=by simp [q3]
    rw [if_pos (show e.to≠i.node from q3)]
    refine ⟨true,true,(Z4O (a0 := .agg [I i.node,LH,LM]) (a1 := .agg (encV e)) (v := .tup [.agg zI, .agg zH,B false,I 19]) hpl ?_ h).trans rfl⟩
    rw [hnr]
    simp -implicitDefEqProofs only [Z23,x0,x1,x2,x3,bI,Z07,Nat.zero_add,y0,y2,bK,d1,d2,d3,d4,dj1,cond_true,lw,Z4N,Z03,fC,Z06,ez,Bool.true_xor,Bool.not_true,Z00,Bool.false_eq_true,if_false,B1.l1w,bs,Z5S,fc,t0,t1,ez2,B2.l11,B2.l00,e3,Bool.not_false,if_true,B2.l4w,bH,B2.s2,B2.s3,B2.l2w,B2.l3w]
    rfl
  ·have ez2:(formE e==0)=false:=by simp [z2]
   rw [if_pos (show formE e≠0 from z2)]
   refine ⟨true,true,(Z4O (a0 := .agg [I i.node,LH,LM]) (a1 := .agg (encV e)) (v := .tup [.agg zI, .agg zH,B false,I (formE e)]) hpl ?_ h).trans rfl⟩
   rw [hnr]
   simp -implicitDefEqProofs only [Z23,x0,x1,x2,x3,bI,Z07,Nat.zero_add,y0,y2,bK,d1,d2,d3,d4,dj1,cond_true,lw,Z4N,Z03,fC,Z06,ez,Bool.true_xor,Bool.not_true,Z00,Bool.false_eq_true,if_false,B1.l1w,bs,Z5S,fc,t0,t1,ez2,Bool.not_false,if_true,B2.l4w,bH,B2.s2,B2.s3,B2.l2w,B2.l3w]
   rfl
 ·have ez:(chkI i==0)=false:=by simp [z]
  rw [if_pos (show chkI i≠0 from z)]
  refine ⟨true,true,(Z4O (a0 := .agg [I i.node,LH,LM]) (a1 := .agg (encV e)) (v := .tup [.agg zI, .agg zH,B false,I 1]) hpl ?_ h).trans rfl⟩
  rw [hnr]
  simp -implicitDefEqProofs only [Z23,x0,x1,x2,x3,bI,Z07,Nat.zero_add,y0,y2,bK,d1,d2,d3,d4,dj1,cond_true,lw,Z4N,Z03,fC,Z06,ez,Bool.true_xor,Bool.not_false,Z00,if_true,B1.l4w,bH,B1.s2,B1.s3,B1.l2w,B1.l3w]
  rfl
end Go.AM


set_option linter.unusedVariables false
namespace Go.AM.Div
end Go.AM.Div


namespace Go.AM
open Go.Proofs
set_option linter.unusedVariables false
set_option linter.unusedSimpArgs false
set_option linter.constructorNameAsVariable false
set_option maxRecDepth 20000
section
variable {β:Type} {P:Program} {T:Tab} {D:DTab} {N:Nat}
variable {K:AV→Hp→Option β}
end
end Go.AM


namespace Go.AM
open Go.Proofs
set_option linter.unusedVariables false
set_option linter.unusedSimpArgs false
set_option linter.constructorNameAsVariable false
set_option maxRecDepth 20000
theorem Zwq {β:Type} {P:Program} {ty:TypeId} (a s:Nat) (hs:s≤64) (k:K β):reckK P .shr ty (.s (.int .u64 (a:Int))) (I s) k=k (.s (.int .u64 ((a / 2 ^ s:Nat):Int))):=by
 refine Zcy (s:=Op.shift .shr .u64 a .i64 s) rfl rfl rfl ?_ k
 have h1:¬((s:Int)<0):=by omega
 have h2:min s IntKind.u64.bits=s:=by simp [IntKind.bits];omega
 have h3:((a:Int)).fdiv (2 ^ s)=((a / 2 ^ s:Nat):Int):=by
  rw [Int.fdiv_eq_ediv_of_nonneg _ (Int.pow_nonneg (by decide))];push_cast;rfl
 unfold Op.shift
 simp [h1,h2,h3]
def bitN (a k:Nat):Bool:=a / 2 ^ k % 2==1
theorem Zwr (a:Nat):a &&& 1=a % 2:=Nat.and_one_is_mod a
attribute [local congr] Z0e Z0f Z0g Z0h Z0i Z0j Z0k Z0l Z0m Z0n Z0o Z0p Z0q Z0r Z0s Z0t Z0u Z0v Z0w Z0x Z0y Z0z Z0A Z0B Z0C Z0D Z0E
theorem bit_K {β:Type} {h:Hp} (a k:Nat) (ha:a<18446744073709551616) (hk:k≤64) (K:Go.AM.K β):(reckK Try.prog .shr 55 (.s (.int .u64 (a:Int))) (I k) fun x11=>reckK Try.prog .and 55 x11 (.s (.int .u64 1)) fun x12=>eqK Try.prog false 55 x12 (.s (.int .u64 1)) h K)=K (B (bitN a k)):=by
 have h1:a / 2 ^ k<18446744073709551616:=Nat.lt_of_le_of_lt (Nat.div_le_self _ _) ha
 rw [Zwq a k hk]
 have h2:=Zlg (P:=Try.prog) (ty:=55) (a / 2 ^ k) 1 h1 (by omega) (fun x12=>eqK Try.prog false 55 x12 (.s (.int .u64 1)) h K)
 refine h2.trans ?_
 rw [Zwr,Z06]
 rw [Bool.false_xor]
 congr 3
 unfold bitN
 generalize a / 2 ^ k % 2=m
 rw [Bool.eq_iff_iff,beq_iff_eq,beq_iff_eq]
 omega
def exL (ar an:Nat):Nat→List Envl→Outb→Inbx→Outb × Inbx × Int
 | _,[],o,i=>(o,i,0)
 | k,x::r,o,i=>if bitN ar k=false then exL ar an (k+1) r o i else
  if (takeI i x).2.2.2≠0 then (⟨0,0,[]⟩,⟨0,[],[]⟩,(takeI i x).2.2.2)
  else exL ar an (k+1) r (if bitN an k=true then (heardO o (takeI i x).2.1).1 else o) (takeI i x).1
def exO (o:Outb) (i:Inbx) (ar an:Nat):Outb × Inbx × Int:=
 if chkO o≠0∨chkI i≠0 then (⟨0,0,[]⟩,⟨0,[],[]⟩,1) else if o.node=i.node then (⟨0,0,[]⟩,⟨0,[],[]⟩,10) else exL ar an 0 (againL i.node o.pend) o i
noncomputable abbrev loopE (st:LoopState) (pd:Option Code):AObj := .loop Z1U Z1T Z1H Z1I (envT [(7, .ptr 2 0 0 1),(8, .ptr 3 0 0 1),(9, .ptr 4 0 0 1),(10, .ptr 5 0 0 1),(13, .ptr 6 0 0 1),(14, .ptr 7 0 0 1)]) st pd
structure InvX (ar an:Nat) (l:AV) (o:Outb) (i:Inbx) (h:Hp):Prop where
 a2:h[2]? = some (.arr 1 [[.s (.int .u64 (an:Int))]] true false)
 a3:h[3]? = some (.arr 3 [zO] true false)
 a4:h[4]? = some (.arr 3 [zI] true false)
 a5:h[5]? = some (.arr 1 [[I 0]] true false)
 a6:∃b,h[6]? = some (.arr 3 [cellsO b o] true false)
 a7:∃b1 b2,h[7]? = some (.arr 3 [cellsI b1 b2 i] true false)
 a8:h[8]? = some (.arr 1 [[l]] true false)
 a9:h[9]? = some (.arr 1 [[.s (.int .u64 (ar:Int))]] true false)
 a10:h[10]? = some (loopE .ready none)
structure EndX (e:Int) (h:Hp):Prop where
 b3:h[3]? = some (.arr 3 [zO] true false)
 b4:h[4]? = some (.arr 3 [zI] true false)
 b5:h[5]? = some (.arr 1 [[I e]] true false)
 b10:h[10]? = some (loopE .done (some .ret))
theorem InvX.mono {ar an:Nat} {l:AV} {o:Outb} {i:Inbx} {h h':Hp} (J:InvX ar an l o i h) (hk:∀(j:Nat) (x:AObj),h[j]? = some x→h'[j]? = some x):InvX ar an l o i h':=by
 obtain ⟨a2,a3,a4,a5,⟨b,a6⟩,⟨b1,b2,a7⟩,a8,a9,a10⟩:=J
 exact ⟨hk _ _ a2,hk _ _ a3,hk _ _ a4,hk _ _ a5,⟨b,hk _ _ a6⟩,⟨b1,b2,hk _ _ a7⟩,hk _ _ a8,hk _ _ a9,hk _ _ a10⟩
set_option maxHeartbeats 4000000 in
theorem Zws {ar an k:Nat} {l:AV} {o:Outb} {i:Inbx} {h:Hp} {x:Envl} (J:InvX ar an l o i h) (han:an<18446744073709551616) (hk:k≤64) (hh:i.heard.length<1000) (hm:i.msgs.length<1000) (hp:o.pend.length<1000):
  ∃h',((takeI i x).2.2.2≠0→Z65 [ymark, .yl 10,I k, .agg (encV x)] h=some (B false,h')∧EndX (takeI i x).2.2.2 h') ∧
   ((takeI i x).2.2.2=0→Z65 [ymark, .yl 10,I k, .agg (encV x)] h=some (B true,h')∧InvX ar an l (if bitN an k=true then (heardO o (takeI i x).2.1).1 else o) (takeI i x).1 h'):=by
 obtain ⟨a2,a3,a4,a5,⟨b,a6⟩,⟨b1,b2,a7⟩,a8,a9,a10⟩:=J
 rw [Zsp a10]
 have h10:10<h.length:=(List.getElem?_eq_some_iff.1 a10).1
 obtain ⟨y,hy⟩:∃y,y=h.set 10 (loopE .busy none)++[AObj.arr 10 [encV x] true false]:=⟨_,rfl⟩
 have hsl:(h.set 10 (loopE .busy none)).length=h.length:=by simp
 have keep:∀j o',h[j]? = some o'→j≠10→y[j]? = some o':=fun j o' hj hn=>by rw [hy];exact Z09 (getSetN hj (Ne.symm hn))
 have y10:y[10]? = some (loopE .busy none):=by rw [hy];exact Z09 (getSelfN a10)
 have yb:y[h.length]? = some (.arr 10 [encV x] true false):=by rw [hy, ← hsl,Z0O];rfl
 have hb:∀k:Hp→Option (AV × Hp),beginX 10 Z1U Z1T Z1H Z1I (envT [(7, .ptr 2 0 0 1),(8, .ptr 3 0 0 1),(9, .ptr 4 0 0 1),(10, .ptr 5 0 0 1),(13, .ptr 6 0 0 1),(14, .ptr 7 0 0 1)]) (h++[.arr 10 [encV x] true false]) k=k y:=fun k=>by rw [hy];exact beginN a10 k
 have l7:∀k:Go.AM.K (AV × Hp),ldK 3 true (.ptr 7 0 0 1) y k=k (ib b1 b2 i):=fun k=>by rw [Z01,keep 7 _ a7 (by decide)];rfl
 have lx:∀k:Go.AM.K (AV × Hp),ldK 10 true (.ptr h.length 0 0 1) y k=k (.agg (encV x)):=fun k=>by rw [Z01,yb];rfl
 obtain ⟨c1,c2,fT⟩:=Zwp b1 b2 i x hh hm y
 obtain ⟨r,hr⟩:∃r,r=takeI i x:=⟨_,rfl⟩
 rw [← hr] at fT ⊢
 have t0:∀k:Go.AM.K (AV × Hp),exK (takeV c1 c2 r) 0 k=k (ib c1 c2 r.1):=fun k=>rfl
 have t1:∀k:Go.AM.K (AV × Hp),exK (takeV c1 c2 r) 1 k=k (.agg (encH r.2.1)):=fun k=>rfl
 have t2:∀k:Go.AM.K (AV × Hp),exK (takeV c1 c2 r) 2 k=k (B r.2.2.1):=fun k=>rfl
 have t3:∀k:Go.AM.K (AV × Hp),exK (takeV c1 c2 r) 3 k=k (I r.2.2.2):=fun k=>rfl
 obtain ⟨z,hz⟩:∃z,z=y++[AObj.arr 3 [cellsI c1 c2 r.1] true false, .arr 2 [encH r.2.1] true false]:=⟨_,rfl⟩
 have q1:∀k:AV→Hp→Option (AV × Hp),effK (boxE 3 (.agg zI) y.length) y k=k (.ptr y.length 0 0 1) (y++[.arr 3 [zI] true false]):=fun k=>bx3 rfl rfl k
 have q2:∀k:AV→Hp→Option (AV × Hp),effK (boxE 2 (.agg zH) (y++[AObj.arr 3 [zI] true false]).length) (y++[.arr 3 [zI] true false]) k=k (.ptr (y.length+1) 0 0 1) (y++[.arr 3 [zI] true false, .arr 2 [zH] true false]):=fun k=>by
  refine (Z12 2 _ (.agg zH) (y++[AObj.arr 3 [zI] true false]) k rfl rfl rfl).trans ?_
  simp
 have q3:∀k:AV→Hp→Option (AV × Hp),effK (stE 3 (.ptr y.length 0 0 1) (ib c1 c2 r.1) (y++[.arr 3 [zI] true false, .arr 2 [zH] true false])) (y++[.arr 3 [zI] true false, .arr 2 [zH] true false]) k=k .u (y++[.arr 3 [cellsI c1 c2 r.1] true false, .arr 2 [zH] true false]):=fun k=>by
  have:stE 3 (.ptr y.length 0 0 1) (ib c1 c2 r.1) (y++[.arr 3 [zI] true false, .arr 2 [zH] true false])=some (.u,⟨[(y.length, .arr 3 [cellsI c1 c2 r.1] true false)],[],[y.length]⟩):=by
   rw [Z0G,List.getElem?_append_right (Nat.le_refl _),Nat.sub_self]
   simp [putAt]
  rw [Z0F this,List.set_append_right _ _ (Nat.le_refl _),Nat.sub_self]
  rfl
 have q4:∀k:AV→Hp→Option (AV × Hp),effK (stE 2 (.ptr (y.length+1) 0 0 1) (.agg (encH r.2.1)) (y++[.arr 3 [cellsI c1 c2 r.1] true false, .arr 2 [zH] true false])) (y++[.arr 3 [cellsI c1 c2 r.1] true false, .arr 2 [zH] true false]) k=k .u z:=fun k=>by
  have:stE 2 (.ptr (y.length+1) 0 0 1) (.agg (encH r.2.1)) (y++[.arr 3 [cellsI c1 c2 r.1] true false, .arr 2 [zH] true false])=some (.u,⟨[(y.length+1, .arr 2 [encH r.2.1] true false)],[],[y.length+1]⟩):=by
   rw [Z0G,List.getElem?_append_right (by omega),show y.length+1-y.length=1 by omega]
   simp [putAt,encH]
  rw [Z0F this,hz,List.set_append_right _ _ (by omega),show y.length+1-y.length=1 by omega]
  rfl
 have kz:∀j o',h[j]? = some o'→j≠10→z[j]? = some o':=fun j o' hj hn=>by rw [hz];exact Z09 (keep j o' hj hn)
 have z10:z[10]? = some (loopE .busy none):=by rw [hz];exact Z09 y10
 have zb:z[y.length]? = some (.arr 3 [cellsI c1 c2 r.1] true false):=by rw [hz,List.getElem?_append_right (Nat.le_refl _),Nat.sub_self];rfl
 have zb2:z[y.length+1]? = some (.arr 2 [encH r.2.1] true false):=by rw [hz,List.getElem?_append_right (by omega),show y.length+1-y.length=1 by omega];rfl
 have hyl:10<y.length:=by rw [hy];simp;omega
 simp -implicitDefEqProofs only [ZcA,nbx,nst,hb,l7,lx,Zsm,Z03,fT,t0,t1,t2,t3,q1,q2,q3,q4,Z06,Bool.true_xor,Z00]
 by_cases e:r.2.2.2=0
 ·have ee:(r.2.2.2==0)=true:=by simp [e]
  have lz:∀k:Go.AM.K (AV × Hp),ldK 3 true (.ptr y.length 0 0 1) z k=k (ib c1 c2 r.1):=fun k=>by rw [Z01,zb];rfl
  obtain ⟨w,hw⟩:∃w:Hp,w=z.set 7 (.arr 3 [cellsI c1 c2 r.1] true false):=⟨_,rfl⟩
  have s7:∀k:AV→Hp→Option (AV × Hp),effK (stE 3 (.ptr 7 0 0 1) (ib c1 c2 r.1) z) z k=k .u w:=fun k=>by
   have:stE 3 (.ptr 7 0 0 1) (ib c1 c2 r.1) z=some (.u,⟨[(7, .arr 3 [cellsI c1 c2 r.1] true false)],[],[7]⟩):=by
    rw [Z0G,kz 7 _ a7 (by decide)]
    simp [putAt]
   rw [Z0F this,hw]
  have kw:∀j o',h[j]? = some o'→j≠10→j≠7→w[j]? = some o':=fun j o' hj hn hn7=>by rw [hw];exact getSetN (kz j o' hj hn) (Ne.symm hn7)
  have w7:w[7]? = some (.arr 3 [cellsI c1 c2 r.1] true false):=by rw [hw];exact getSelfN (kz 7 _ a7 (by decide))
  have w10:w[10]? = some (loopE .busy none):=by rw [hw];exact getSetN z10 (by decide)
  have wb2:w[y.length+1]? = some (.arr 2 [encH r.2.1] true false):=by rw [hw];exact getSetN zb2 (by omega)
  have la:∀k:Go.AM.K (AV × Hp),ldK 1 false (.ptr 2 0 0 1) w k=k (.s (.int .u64 (an:Int))):=fun k=>by rw [Z01,kw 2 _ a2 (by decide) (by decide)];rfl
  have hbit:=fun K:Go.AM.K (AV × Hp)=>bit_K (h:=w) an k han hk K
  simp -implicitDefEqProofs only [ee,Bool.not_true,Bool.false_eq_true,if_false,lz,s7,la]
  rw [hbit]
  cases hbt:bitN an k with
  | true=>
   obtain ⟨b',fH⟩:=Zwg b o r.2.1 hp w
   have l6:∀k:Go.AM.K (AV × Hp),ldK 3 true (.ptr 6 0 0 1) w k=k (ob b o):=fun k=>by rw [Z01,kw 6 _ a6 (by decide) (by decide)];rfl
   have lh:∀k:Go.AM.K (AV × Hp),ldK 2 true (.ptr (y.length+1) 0 0 1) w k=k (.agg (encH r.2.1)):=fun k=>by rw [Z01,wb2];rfl
   have u0:∀k:Go.AM.K (AV × Hp),exK (.tup [ob b' (heardO o r.2.1).1,I (heardO o r.2.1).2]) 0 k=k (ob b' (heardO o r.2.1).1):=fun k=>rfl
   have u1:∀k:Go.AM.K (AV × Hp),exK (.tup [ob b' (heardO o r.2.1).1,I (heardO o r.2.1).2]) 1 k=k (I (heardO o r.2.1).2):=fun k=>rfl
   obtain ⟨v,hv⟩:∃v:Hp,v=w.set 6 (.arr 3 [cellsO b' (heardO o r.2.1).1] true false):=⟨_,rfl⟩
   have s6:∀k:AV→Hp→Option (AV × Hp),effK (stE 3 (.ptr 6 0 0 1) (ob b' (heardO o r.2.1).1) w) w k=k .u v:=fun k=>by
    have:stE 3 (.ptr 6 0 0 1) (ob b' (heardO o r.2.1).1) w=some (.u,⟨[(6, .arr 3 [cellsO b' (heardO o r.2.1).1] true false)],[],[6]⟩):=by
     rw [Z0G,kw 6 _ a6 (by decide) (by decide)]
     simp [putAt]
    rw [Z0F this,hv]
   have kv:∀j o',h[j]? = some o'→j≠10→j≠7→j≠6→(v.set 10 (loopE .ready none))[j]? = some o':=fun j o' hj hn hn7 hn6=>getSetN (by rw [hv];exact getSetN (kw j o' hj hn hn7) (Ne.symm hn6)) (Ne.symm hn)
   refine ⟨v.set 10 (loopE .ready none),fun hne=>absurd e hne,fun _=>⟨?_,kv 2 _ a2 (by decide) (by decide) (by decide),kv 3 _ a3 (by decide) (by decide) (by decide),kv 4 _ a4 (by decide) (by decide) (by decide),kv 5 _ a5 (by decide) (by decide) (by decide),⟨b', ?_⟩,⟨c1,c2, ?_⟩,kv 8 _ a8 (by decide) (by decide) (by decide),kv 9 _ a9 (by decide) (by decide) (by decide), ?_⟩⟩
   ·simp -implicitDefEqProofs only [Z00,if_true,l6,lh,Zsn,Z03,fH,u0,u1,s6,Z8Z]
   ·exact getSetN (by rw [hv];exact getSelfN (kw 6 _ a6 (by decide) (by decide))) (by decide)
   ·exact getSetN (by rw [hv];exact getSetN w7 (by decide)) (by decide)
   ·exact getSelfN (by rw [hv];exact getSetN w10 (by decide))
  | false=>
   have kv:∀j o',h[j]? = some o'→j≠10→j≠7→(w.set 10 (loopE .ready none))[j]? = some o':=fun j o' hj hn hn7=>getSetN (kw j o' hj hn hn7) (Ne.symm hn)
   refine ⟨w.set 10 (loopE .ready none),fun hne=>absurd e hne,fun _=>⟨?_,kv 2 _ a2 (by decide) (by decide),kv 3 _ a3 (by decide) (by decide),kv 4 _ a4 (by decide) (by decide),kv 5 _ a5 (by decide) (by decide),⟨b,kv 6 _ a6 (by decide) (by decide)⟩,⟨c1,c2,getSetN w7 (by decide)⟩,kv 8 _ a8 (by decide) (by decide),kv 9 _ a9 (by decide) (by decide),getSelfN w10⟩⟩
   simp -implicitDefEqProofs only [Z00,Bool.false_eq_true,if_false,Z8Z]
 ·have ee:(r.2.2.2==0)=false:=by simp [e]
  have bO:∀k:Go.AM.K (AV × Hp),buildK zO [] k=k (.agg zO):=fun k=>rfl
  have bI:∀k:Go.AM.K (AV × Hp),buildK zI [] k=k (.agg zI):=fun k=>rfl
  have z3:=kz 3 _ a3 (by decide)
  have z4:=kz 4 _ a4 (by decide)
  have z5:=kz 5 _ a5 (by decide)
  have s3:∀k:AV→Hp→Option (AV × Hp),effK (stE 3 (.ptr 3 0 0 1) (.agg zO) z) z k=k .u z:=fun k=>by
   have:stE 3 (.ptr 3 0 0 1) (.agg zO) z=some (.u,⟨[(3, .arr 3 [zO] true false)],[],[3]⟩):=by rw [Z0G,z3];rfl
   rw [Z0F this,Z1f z3]
  have s4:∀k:AV→Hp→Option (AV × Hp),effK (stE 3 (.ptr 4 0 0 1) (.agg zI) z) z k=k .u z:=fun k=>by
   have:stE 3 (.ptr 4 0 0 1) (.agg zI) z=some (.u,⟨[(4, .arr 3 [zI] true false)],[],[4]⟩):=by rw [Z0G,z4];rfl
   rw [Z0F this,Z1f z4]
  obtain ⟨w,hw⟩:∃w:Hp,w=z.set 5 (.arr 1 [[I r.2.2.2]] true false):=⟨_,rfl⟩
  have s5:∀k:AV→Hp→Option (AV × Hp),effK (stE 1 (.ptr 5 0 0 1) (I r.2.2.2) z) z k=k .u w:=fun k=>by
   have:stE 1 (.ptr 5 0 0 1) (I r.2.2.2) z=some (.u,⟨[(5, .arr 1 [[I r.2.2.2]] true false)],[],[5]⟩):=by rw [Z0G,z5];rfl
   rw [Z0F this,hw]
  refine ⟨w.set 10 (loopE .done (some .ret)),fun _=>⟨?_, ?_, ?_, ?_, ?_⟩,fun hq=>absurd hq e⟩
  ·simp -implicitDefEqProofs only [ee,Bool.not_false,if_true,bO,bI,s3,s4,s5]
  ·exact getSetN (by rw [hw];exact getSetN z3 (by decide)) (by decide)
  ·exact getSetN (by rw [hw];exact getSetN z4 (by decide)) (by decide)
  ·exact getSetN (by rw [hw];exact getSelfN z5) (by decide)
  ·exact getSelfN (by rw [hw];exact getSetN z10 (by decide))
end Go.AM


namespace Go.AM
open Go.Proofs
set_option linter.unusedVariables false
set_option linter.unusedSimpArgs false
set_option linter.constructorNameAsVariable false
set_option maxRecDepth 20000
theorem Zdz (l:List Hrd) (x:Hrd):(insH l x).length=l.length+1:=by
 unfold insH
 rw [List.length_append,List.length_cons,List.length_take,List.length_drop]
 have:=ZbQ l x
 omega
theorem ZdA (i:Inbx) (e:Envl):(takeI i e).1.heard.length≤i.heard.length+1∧(takeI i e).1.msgs.length≤i.msgs.length+1:=by
 unfold takeI
 repeat' split
 all_goals (try (constructor<;>simp;done))
 ·constructor
  ·rw [Zdz];exact Nat.le_refl _
  ·simp
 ·constructor
  ·rw [Zdz];exact Nat.le_refl _
  ·have:=Z6l (i.msgs++[e.msg]);simpa using this
theorem Zir (o:Outb) (hd:Hrd):(heardO o hd).1.pend.length≤o.pend.length:=by
 unfold heardO
 repeat' split
 all_goals (try (simp;done))
 exact List.length_filter_le _ _
attribute [local congr] Z0e Z0f Z0g Z0h Z0i Z0j Z0k Z0l Z0m Z0n Z0o Z0p Z0q Z0r Z0s Z0t Z0u Z0v Z0w Z0x Z0y Z0z Z0A Z0B Z0C Z0D Z0E
set_option maxHeartbeats 4000000 in
theorem Zwt {x0 xr:Hp→Option (AV × Hp)} {ar an:Nat} {l:List Envl} {b:Bool} (har:ar<18446744073709551616) (han:an<18446744073709551616) (hl:l.length≤64):∀(n:Nat) (pre post:List Envl) (o:Outb) (i:Inbx) (h:Hp),l=pre++post→post.length<n→InvX ar an (.lst 10 b (l.map encV)) o i h→i.heard.length+post.length≤900→i.msgs.length+post.length≤900→o.pend.length<1000→
  ∃h',((exL ar an pre.length post o i).2.2=0→Z18 Try.prog Z0Q D0 NN x0 xr n (.yl 10) (.ptr 9 0 0 1) (.lst 10 b (l.map encV)) (I l.length) (I pre.length) h=x0 h'∧InvX ar an (.lst 10 b (l.map encV)) (exL ar an pre.length post o i).1 (exL ar an pre.length post o i).2.1 h') ∧
   ((exL ar an pre.length post o i).2.2≠0→Z18 Try.prog Z0Q D0 NN x0 xr n (.yl 10) (.ptr 9 0 0 1) (.lst 10 b (l.map encV)) (I l.length) (I pre.length) h=xr h'∧EndX (exL ar an pre.length post o i).2.2 h'∧(exL ar an pre.length post o i).1=⟨0,0,[]⟩∧(exL ar an pre.length post o i).2.1=⟨0,[],[]⟩):=by
 intro n
 induction n with
 | zero=>intro pre post o i h _ h2;omega
 | succ n ih=>
  intro pre post o i h hc hn J l1 l2 l3
  show ∃h',(_→Z4g Try.prog Z0Q D0 NN (Z18 Try.prog Z0Q D0 NN x0 xr n) x0 xr _ _ _ _ _ h=_∧_)∧(_→Z4g Try.prog Z0Q D0 NN (Z18 Try.prog Z0Q D0 NN x0 xr n) x0 xr _ _ _ _ _ h=_∧_)
  cases post with
  | nil=>
   have:l=pre:=by simpa using hc
   subst this
   have c1:¬((l.length:Int)<(l.length:Int)):=by omega
   have hb:Z4g Try.prog Z0Q D0 NN (Z18 Try.prog Z0Q D0 NN x0 xr n) x0 xr (.yl 10) (.ptr 9 0 0 1) (.lst 10 b (l.map encV)) (I l.length) (I l.length) h=x0 h:=by
    simp -implicitDefEqProofs only [Z4g,Z08,c1,decide_false,Z00,Bool.false_eq_true,if_false]
   exact ⟨h,fun _=>⟨hb,J⟩,fun hh=>absurd rfl hh⟩
  | cons x post=>
   have hi:pre.length<l.length:=by rw [hc];simp
   have hx:l[pre.length]? = some x:=by rw [hc];simp
   have hlt:((pre.length:Int)<(l.length:Int)):=by omega
   have hw:IntKind.i64.wrap ((pre.length:Int)+1)=(((pre++[x]).length:Nat):Int):=by rw [wrap64 (by omega) (by omega)];simp
   have ic:∀k:Go.AM.K (AV × Hp),iaK 10 (.lst 10 b (l.map encV)) (I pre.length) k=k (.ep (encV x) 0):=fun k=>Z0P pre.length rfl hx k
   have ld:∀k:Go.AM.K (AV × Hp),ldK 10 true (.ep (encV x) 0) h k=k (.agg (encV x)):=fun k=>rfl
   obtain ⟨y,hy⟩:∃y,y=h++[AObj.arr 10 [encV x] true false]:=⟨_,rfl⟩
   have ns:∀k:AV→Hp→Option (AV × Hp),effK (stE 10 (.ptr h.length 0 0 1) (.agg (encV x)) (h++[.arr 10 [zE] true false])) (h++[.arr 10 [zE] true false]) k=k .u y:=fun k=>by rw [hy];exact nst k
   have lw:∀k:Go.AM.K (AV × Hp),ldK 10 true (.ptr h.length 0 0 1) y k=k (.agg (encV x)):=fun k=>by rw [hy];exact nlw k
   have Jy:InvX ar an (.lst 10 b (l.map encV)) o i y:=J.mono fun j z hj=>by rw [hy];exact Z09 hj
   have la:∀k:Go.AM.K (AV × Hp),ldK 1 false (.ptr 9 0 0 1) y k=k (.s (.int .u64 (ar:Int))):=fun k=>by rw [Z01,Jy.a9];rfl
   have hbit:=fun K:Go.AM.K (AV × Hp)=>bit_K (h:=y) ar pre.length har (by omega) K
   have hpl:(pre++[x]).length=pre.length+1:=by simp
   have hb:∀(c:Bool) (g:Hp),(∀k:AV→Hp→Option (AV × Hp),grpK true (B (bitN ar pre.length)) y (fun k14=>callVK Z0Q (.yl 10) [I pre.length, .agg (encV x)] y fun x16 h17=>notK x16 fun x18=>k14 x18 h17) k=k (B c) g)→Z4g Try.prog Z0Q D0 NN (Z18 Try.prog Z0Q D0 NN x0 xr n) x0 xr (.yl 10) (.ptr 9 0 0 1) (.lst 10 b (l.map encV)) (I l.length) (I pre.length) h=if c=true then xr g else Z18 Try.prog Z0Q D0 NN x0 xr n (.yl 10) (.ptr 9 0 0 1) (.lst 10 b (l.map encV)) (I l.length) (I ((pre++[x]).length:Nat)) g:=fun c g hg=>by
    simp -implicitDefEqProofs only [Z4g,Z08,hlt,decide_true,Z00,if_true,ic,ld,nbx,ns,la]
    rw [hbit]
    simp -implicitDefEqProofs only [lw]
    rw [hg]
    simp -implicitDefEqProofs only [Z00,Z0I,hw]
   cases hbt:bitN ar pre.length with
   | false=>
    have he:exL ar an pre.length (x::post) o i=exL ar an (pre++[x]).length post o i:=by rw [exL,if_pos hbt,hpl]
    have hb0:=hb false y (fun k=>by rw [hbt,Z6I])
    rw [hb0,he]
    simp only [Bool.false_eq_true,if_false]
    exact ih (pre++[x]) post o i y (by simpa using hc) (by simpa using hn) Jy (by simp at l1;omega) (by simp at l2;omega) l3
   | true=>
    have he:exL ar an pre.length (x::post) o i=if (takeI i x).2.2.2≠0 then (⟨0,0,[]⟩,⟨0,[],[]⟩,(takeI i x).2.2.2) else exL ar an (pre.length+1) post (if bitN an pre.length=true then (heardO o (takeI i x).2.1).1 else o) (takeI i x).1:=by rw [exL,if_neg (by rw [hbt];simp)]
    have hlen:(x::post).length=post.length+1:=rfl
    obtain ⟨g,r1,r2⟩:=Zws (k:=pre.length) (x:=x) Jy han (by omega) (by omega) (by omega) l3
    by_cases e:(takeI i x).2.2.2=0
    ·obtain ⟨r3,r4⟩:=r2 e
     rw [if_neg (show ¬(takeI i x).2.2.2≠0 from fun hh=>hh e)] at he
     have hb0:=hb false g (fun k=>by
      have cy:∀k:AV→Hp→Option (AV × Hp),callVK Z0Q (.yl 10) [I pre.length, .agg (encV x)] y k=k (B true) g:=fun k=>by
       show callK (Z0Q YB) (ymark :: .yl 10::[I pre.length, .agg (encV x)]) y k=_
       rw [Zhw,Z03,r3]
      rw [hbt,Z3e,cy]
      rfl)
     rw [hb0,he, ← hpl]
     simp only [Bool.false_eq_true,if_false]
     obtain ⟨t1,t2⟩:=ZdA i x
     refine ih (pre++[x]) post _ _ g (by simpa using hc) (by simpa using hn) r4 (by omega) (by omega) ?_
     split
     ·have:=Zir o (takeI i x).2.1;omega
     ·exact l3
    ·obtain ⟨r3,r4⟩:=r1 e
     rw [if_pos (show (takeI i x).2.2.2≠0 from e)] at he
     have hb0:=hb true g (fun k=>by
      have cy:∀k:AV→Hp→Option (AV × Hp),callVK Z0Q (.yl 10) [I pre.length, .agg (encV x)] y k=k (B false) g:=fun k=>by
       show callK (Z0Q YB) (ymark :: .yl 10::[I pre.length, .agg (encV x)]) y k=_
       rw [Zhw,Z03,r3]
      rw [hbt,Z3e,cy]
      rfl)
     rw [hb0,he]
     exact ⟨g,fun hh=>absurd hh e,fun _=>⟨if_pos rfl,r4,rfl,rfl⟩⟩
theorem Zwu {β:Type} {T:Tab} {F:Fun} {f:FuncId} {caps:List AV} {h h':Hp} {m:Nat} {ps:Array Tmp} {asg body:Code} {ts:Tm} {v:AV} {pend:Option Code} {k:Option Code→Hp→Option β} (hT:T f=some F) (hF:F (.yl h.length::caps) (h++[.loop m ps asg body ts .ready none])=some (v,h')) (hl:h'[h.length]? = some (.loop m ps asg body ts .done pend)):
  rangeX T (.fn f caps) m ps asg body ts h k=k pend (h'.set h.length (.loop m ps asg body ts .exhausted pend)):=by
 unfold rangeX
 simp only [hT,Z03,hF,hl]
end Go.AM


namespace Go.AM
open Go.Proofs
set_option linter.unusedVariables false
set_option linter.unusedSimpArgs false
set_option linter.constructorNameAsVariable false
set_option maxRecDepth 20000
attribute [local congr] Z0e Z0f Z0g Z0h Z0i Z0j Z0k Z0l Z0m Z0n Z0o Z0p Z0q Z0r Z0s Z0t Z0u Z0v Z0w Z0x Z0y Z0z Z0A Z0B Z0C Z0D Z0E
def exV (b b1 b2:Bool) (r:Outb × Inbx × Int):AV := .tup [ob b r.1,ib b1 b2 r.2.1,I r.2.2]
set_option maxHeartbeats 4000000 in
theorem ZdB (b:Bool) (o:Outb) (c1 c2:Bool) (i:Inbx) (ar an:Nat) (har:ar<18446744073709551616) (han:an<18446744073709551616) (hp:o.pend.length<1000) (hh:i.heard.length<1000) (hm:i.msgs.length<1000) (h:Hp):∃b' b1 b2,Z1Z [ob b o,ib c1 c2 i, .s (.int .u64 (ar:Int)), .s (.int .u64 (an:Int))] h=some (exV b' b1 b2 (exO o i ar an),h):=by
 obtain ⟨LP,hLP⟩:∃LP:AV,LP=SL 10 encV b o.pend:=⟨_,rfl⟩
 obtain ⟨LH,hLH⟩:∃LH:AV,LH=SL 2 encH c1 i.heard:=⟨_,rfl⟩
 obtain ⟨LM,hLM⟩:∃LM:AV,LM=SL 7 encM c2 i.msgs:=⟨_,rfl⟩
 have eob:ob b o = .agg [I o.node,I o.next,LP]:=by rw [hLP]
 have eib:ib c1 c2 i = .agg [I i.node,LH,LM]:=by rw [hLH,hLM]
 obtain ⟨o0,ho0⟩:∃o0:AObj,o0 = .arr 3 [[I o.node,I o.next,LP]] true false:=⟨_,rfl⟩
 obtain ⟨o1,ho1⟩:∃o1:AObj,o1 = .arr 3 [[I i.node,LH,LM]] true false:=⟨_,rfl⟩
 obtain ⟨o2,ho2⟩:∃o2:AObj,o2 = .arr 1 [[.s (.int .u64 (an:Int))]] true false:=⟨_,rfl⟩
 obtain ⟨H,hH⟩:∃H:Hp,H=[o0,o1,o2,AObj.arr 3 [zO] true false, .arr 3 [zI] true false, .arr 1 [[I 0]] true false]:=⟨_,rfl⟩
 have x0:∀k:AV→Hp→Option AV,effK (boxE 3 (.agg [I o.node,I o.next,LP]) ([]:Hp).length) [] k=k (.ptr 0 0 0 1) [o0]:=fun k=>by rw [ho0,hLP];rfl
 have x1:∀k:AV→Hp→Option AV,effK (boxE 3 (.agg [I i.node,LH,LM]) ([o0]:Hp).length) [o0] k=k (.ptr 1 0 0 1) [o0,o1]:=fun k=>by rw [ho1,hLH,hLM];rfl
 have x2:∀k:AV→Hp→Option AV,effK (boxE 1 (.s (.int .u64 (an:Int))) ([o0,o1]:Hp).length) [o0,o1] k=k (.ptr 2 0 0 1) [o0,o1,o2]:=fun k=>by rw [ho2];rfl
 have x3:∀k:AV→Hp→Option AV,effK (boxE 3 (.agg zO) ([o0,o1,o2]:Hp).length) [o0,o1,o2] k=k (.ptr 3 0 0 1) [o0,o1,o2, .arr 3 [zO] true false]:=fun k=>rfl
 have x4:∀k:AV→Hp→Option AV,effK (boxE 3 (.agg zI) ([o0,o1,o2, .arr 3 [zO] true false]:Hp).length) [o0,o1,o2, .arr 3 [zO] true false] k=k (.ptr 4 0 0 1) [o0,o1,o2, .arr 3 [zO] true false, .arr 3 [zI] true false]:=fun k=>rfl
 have x5:∀k:AV→Hp→Option AV,effK (boxE 1 (I 0) ([o0,o1,o2, .arr 3 [zO] true false, .arr 3 [zI] true false]:Hp).length) [o0,o1,o2, .arr 3 [zO] true false, .arr 3 [zI] true false] k=k (.ptr 5 0 0 1) H:=fun k=>by rw [hH];rfl
 have lo:∀k:Go.AM.K AV,ldK 3 true (.ptr 0 0 0 1) H k=k (.agg [I o.node,I o.next,LP]):=fun k=>by rw [hH,ho0,hLP];rfl
 have li:∀k:Go.AM.K AV,ldK 3 true (.ptr 1 0 0 1) H k=k (.agg [I i.node,LH,LM]):=fun k=>by rw [hH,ho1,hLH,hLM];rfl
 have lon:∀k:Go.AM.K AV,ldK 1 false (.ptr 0 0 0 1) H k=k (I o.node):=fun k=>by rw [hH,ho0];rfl
 have lin:∀k:Go.AM.K AV,ldK 1 false (.ptr 1 0 0 1) H k=k (I i.node):=fun k=>by rw [hH,ho1];rfl
 have bO:∀k:Go.AM.K AV,buildK zO [] k=k (.agg zO):=fun k=>rfl
 have bI:∀k:Go.AM.K AV,buildK zI [] k=k (.agg zI):=fun k=>rfl
 have s3:∀k:AV→Hp→Option AV,effK (stE 3 (.ptr 3 0 0 1) (.agg zO) H) H k=k .u H:=fun k=>by rw [hH];exact Z0F (v := .u) (id:=3) (o := .arr 3 [zO] true false) (ft:=[3]) rfl k
 have s4:∀k:AV→Hp→Option AV,effK (stE 3 (.ptr 4 0 0 1) (.agg zI) H) H k=k .u H:=fun k=>by rw [hH];exact Z0F (v := .u) (id:=4) (o := .arr 3 [zI] true false) (ft:=[4]) rfl k
 have s5:∀(e:Int) (k:AV→Hp→Option AV),effK (stE 1 (.ptr 5 0 0 1) (I e) H) H k=k .u (H.set 5 (.arr 1 [[I e]] true false)):=fun e k=>by rw [hH];exact Z0F (v := .u) (id:=5) (o := .arr 1 [[I e]] true false) (ft:=[5]) rfl k
 have r3:∀(e:Int) (k:Go.AM.K AV),ldK 3 true (.ptr 3 0 0 1) (H.set 5 (.arr 1 [[I e]] true false)) k=k (.agg zO):=fun e k=>by rw [hH];rfl
 have r4:∀(e:Int) (k:Go.AM.K AV),ldK 3 true (.ptr 4 0 0 1) (H.set 5 (.arr 1 [[I e]] true false)) k=k (.agg zI):=fun e k=>by rw [hH];rfl
 have r5:∀(e:Int) (k:Go.AM.K AV),ldK 1 false (.ptr 5 0 0 1) (H.set 5 (.arr 1 [[I e]] true false)) k=k (I e):=fun e k=>by rw [hH];rfl
 have fO:=ZbP b o (by omega)
 have fI:=Z6o c1 c2 i (by omega) hm
 rw [eob] at fO
 rw [eib] at fI
 have hn1:nrm (.a [none,none,some 10]) (.agg [I o.node,I o.next,LP]) = .agg [I o.node,I o.next,LP]:=by rw [hLP];rfl
 have hn2:nrm (.a [none,some 2,some 7]) (.agg [I i.node,LH,LM]) = .agg [I i.node,LH,LM]:=by rw [hLH,hLM];rfl
 have hpl:plains [.agg [I o.node,I o.next,LP], .agg [I i.node,LH,LM], .s (.int .u64 (ar:Int)), .s (.int .u64 (an:Int))]=true:=by rw [hLP,hLH,hLM];rfl
 rw [eob,eib]
 unfold exO
 have go:∀w,Z3E Try.prog Z0V Z1b NN (fun v g=>cvt false g v) (.agg [I o.node,I o.next,LP]) (.agg [I i.node,LH,LM]) (.s (.int .u64 (ar:Int))) (.s (.int .u64 (an:Int))) []=some w→Z1Z [.agg [I o.node,I o.next,LP], .agg [I i.node,LH,LM], .s (.int .u64 (ar:Int)), .s (.int .u64 (an:Int))] h=some (nrmR [.a [none,none,some 10], .a [none,some 2,some 7], .o] w,h):=fun w hw=>
  ZsB (a0 := .agg [I o.node,I o.next,LP]) (a1 := .agg [I i.node,LH,LM]) (a2 := .s (.int .u64 (ar:Int))) (a3 := .s (.int .u64 (an:Int))) (v:=w) hpl (by rw [hn1,hn2];exact hw) h
 by_cases z:chkO o≠0∨chkI i≠0
 ·rw [if_pos z]
  refine ⟨true,true,true,(go (.tup [.agg zO, .agg zI,I 1]) ?_).trans rfl⟩
  have gr:(!(chkO o==0) || !(chkI i==0))=true:=by
   rcases z with z | z
   ·simp [z]
   ·simp [z]
  simp -implicitDefEqProofs only [Z3E,x0,x1,x2,x3,x4,x5,lo,li,Zdd,Zdc,Z03,fO,fI,Z06,Bool.true_xor,Z0M,gr,Z00,if_true,bO,bI,s3,s4,s5,r3,r4,r5]
  rfl
 ·have z1:chkO o=0:=Classical.byContradiction fun q=>z (.inl q)
  have z2:chkI i=0:=Classical.byContradiction fun q=>z (.inr q)
  rw [if_neg z]
  have gr:(!(chkO o==0) || !(chkI i==0))=false:=by simp [z1,z2]
  by_cases q:o.node=i.node
  ·have eq':(o.node==i.node)=true:=by simp [q]
   rw [if_pos q]
   refine ⟨true,true,true,(go (.tup [.agg zO, .agg zI,I 10]) ?_).trans rfl⟩
   simp -implicitDefEqProofs only [Z3E,x0,x1,x2,x3,x4,x5,lo,li,Zdd,Zdc,Z03,fO,fI,Z06,Bool.true_xor,Z0M,gr,Z00,Bool.false_eq_true,if_false,Z07,Nat.zero_add,lon,lin,Bool.false_xor,eq',if_true,bO,bI,s3,s4,s5,r3,r4,r5]
   rfl
  ·have eq':(o.node==i.node)=false:=by simp [q]
   rw [if_neg q]
   obtain ⟨-, -, -,k4, -⟩:=Z53 z1
   obtain ⟨m1,m2,m3, -⟩:=Z8q z2
   obtain ⟨ba,fA⟩:=Zw8 b o i.node (by omega) H
   rw [eob] at fA
   have hA:againO o i.node=(againL i.node o.pend,0):=by unfold againO;rw [if_neg (fun hh=>hh z1),if_neg (by rw [m1];simp)]
   rw [hA] at fA
   obtain ⟨L,hL⟩:∃L:List Envl,L=againL i.node o.pend:=⟨_,rfl⟩
   rw [← hL] at fA ⊢
   have hLl:L.length≤64:=by rw [hL];exact Nat.le_trans (List.length_filter_le _ _) k4
   have tp:∀(a b:AV) (k:Go.AM.K AV),exK (.tup [a,b]) 0 k=k a:=fun a b k=>rfl
   have tq:∀(a b:AV) (k:Go.AM.K AV),exK (.tup [a,b]) 1 k=k b:=fun a b k=>rfl
   -- the copies
   have y0:∀k:AV→Hp→Option AV,effK (boxE 3 (.agg zO) H.length) H k=k (.ptr 6 0 0 1) (H++[.arr 3 [zO] true false]):=fun k=>by rw [hH];rfl
   have y1:∀k:AV→Hp→Option AV,effK (stE 3 (.ptr 6 0 0 1) (.agg [I o.node,I o.next,LP]) (H++[.arr 3 [zO] true false])) (H++[.arr 3 [zO] true false]) k=k .u (H++[o0]):=fun k=>by
    rw [hH,ho0,hLP];exact Z0F (v := .u) (id:=6) (o := .arr 3 [[I o.node,I o.next,SL 10 encV b o.pend]] true false) (ft:=[6]) rfl k
   obtain ⟨H1,hH1⟩:∃H1:Hp,H1=H++[o0]:=⟨_,rfl⟩
   rw [← hH1] at y1
   have y2:∀k:Go.AM.K AV,ldK 1 false (.ptr 0 0 2 1) H1 k=k LP:=fun k=>by rw [hH1,hH,ho0,hLP];rfl
   have fE:∀h,Z4Q [LP] h=some (LP,h):=fun h=>by rw [hLP];exact ZvZ o.pend b (by omega) h
   have y3:∀k:AV→Hp→Option AV,effK (stE 1 (.ptr 6 0 2 1) LP H1) H1 k=k .u H1:=fun k=>by
    rw [hH1,hH,ho0,hLP];exact Z0F (v := .u) (id:=6) (o := .arr 3 [[I o.node,I o.next,SL 10 encV b o.pend]] true false) (ft:=[6]) rfl k
   have y4:∀k:Go.AM.K AV,ldK 1 false (.ptr 1 0 0 1) H1 k=k (I i.node):=fun k=>by rw [hH1,hH,ho1];rfl
   have y5:∀k:Go.AM.K AV,ldK 1 false (.ptr 1 0 1 1) H1 k=k LH:=fun k=>by rw [hH1,hH,ho1,hLH];rfl
   have y6:∀k:Go.AM.K AV,ldK 1 false (.ptr 1 0 2 1) H1 k=k LM:=fun k=>by rw [hH1,hH,ho1,hLM];rfl
   have gH:∀h base,Z4L [LH] h base=some (LH,EF []):=fun h base=>by
    rw [hLH]
    exact (Z22 (Zio i.heard c1 (by omega) h) base).trans (by simp [SL,idss,ids])
   have gM:∀h base,Zap [LM] h base=some (LM,EF []):=fun h base=>by
    rw [hLM]
    have fM:Z4G [SL 7 encM c2 i.msgs] h=some (SL 7 encM c2 i.msgs,h):=by
     refine (Zpy (a0:=SL 7 encM c2 i.msgs) (v:=if (c2&&i.msgs.isEmpty)=true then nilS else SL 7 encM c2 i.msgs) rfl ?_ h).trans ?_
     ·have rC:=ZbK i.msgs c2 (by omega) []
      have hK:=(ZcY (fun v g=>cvt false g v) (SL 7 encM c2 i.msgs) []).symm
      show Z4y Try.prog Z5D Z5C NN (fun v g=>cvt false g v) (SL 7 encM c2 i.msgs) []=_
      rw [hK,rC]
      by_cases hb:(c2&&i.msgs.isEmpty)=true
      ·rw [if_pos hb,if_pos hb];rfl
      ·rw [if_neg hb,if_neg hb]
       have hb':(c2&&i.msgs.isEmpty)=false:=by simpa using hb
       refine (Z0X (st:=false) (n:=i.msgs.length) (fr:=i.msgs.length) (full:=false) (sz:=7) (id:=1) (h:=[.arr 7 [] true false, .arr 7 (i.msgs.map encM) true false]) rfl (by simp) (by simp) (Z0U fun x=>by simp [encM])).trans ?_
       rw [SL,hb']
     ·by_cases hb:(c2&&i.msgs.isEmpty)=true
      ·rw [if_pos hb]
       obtain ⟨e1,e2⟩:=Bool.and_eq_true_iff.1 hb
       have:i.msgs=[]:=by simpa using e2
       rw [this,e1];rfl
      ·rw [if_neg hb];rfl
    exact (Z22 fM base).trans (by simp [SL,idss,ids])
   have bI3:∀k:Go.AM.K AV,buildK zI [(some (0,1),I i.node),(some (1,1),LH),(some (2,1),LM)] k=k (.agg [I i.node,LH,LM]):=fun k=>by rw [hLH,hLM];rfl
   have d1:∀k:AV→Hp→Ent→Option AV,effD (boxE 3 (.agg zI) H1.length) H1 k=k (.ptr 7 0 0 1) (H1++[.arr 3 [zI] true false]) ([],[7]):=fun k=>by rw [hH1,hH];rfl
   obtain ⟨H2,hH2⟩:∃H2:Hp,H2=H1++[o1]:=⟨_,rfl⟩
   have d2:∀k:AV→Hp→Ent→Option AV,effD (stE 3 (.ptr 7 0 0 1) (.agg [I i.node,LH,LM]) (H1++[.arr 3 [zI] true false])) (H1++[.arr 3 [zI] true false]) k=k .u H2 ([7],[7]):=fun k=>by
    rw [hH2,hH1,hH,ho1,hLH,hLM];exact Z0a (v := .u) (id:=7) (o := .arr 3 [[I i.node,SL 2 encH c1 i.heard,SL 7 encM c2 i.msgs]] true false) (ft:=[7]) rfl k
   have dj1:disjAll [(1,4),(4,6),(1,7),(1,9),(3,9),(4,9),(6,9),(7,9)] [([],[]),(idsOf (.ptr 1 0 0 1),[]),([],[]),(idsOf (.ptr 1 0 1 1),[]),([],[]),([],[]),(idsOf (.ptr 1 0 2 1),[]),([],[]),([],[]),([],[7]),([7],[7])]=true:=rfl
   obtain ⟨H3,hH3⟩:∃H3:Hp,H3=H2++[AObj.arr 1 [[.lst 10 ba (L.map encV)]] true false, .arr 1 [[.s (.int .u64 (ar:Int))]] true false]:=⟨_,rfl⟩
   have hl3:H3.length=10:=by rw [hH3,hH2,hH1,hH];rfl
   have fR:Z5Y [.lst 10 ba (L.map encV), .s (.int .u64 (ar:Int))] H2=some (.fn 91 [.ptr 8 0 0 1, .ptr 9 0 0 1],H3):=by
    rw [ZrR,hH3,hH2,hH1,hH]
    rfl
   have J:InvX ar an (.lst 10 ba (L.map encV)) o i (H3++[loopE .ready none]):=by
    rw [hH3,hH2,hH1,hH,ho0,ho1,ho2,hLP,hLH,hLM]
    exact ⟨rfl,rfl,rfl,rfl,⟨b,rfl⟩,⟨c1,c2,rfl⟩,rfl,rfl,rfl⟩
   obtain ⟨h',e1,e2⟩:=Zwt (x0:=fun h=>Z7c Try.prog Z0Q D0 NN (fun v h=>some (v,h)) h) (xr:=fun h=>some (.tup [],h)) (b:=ba) har han hLl NN [] L o i _ rfl (by have:=NN_ge;omega) J (by omega) (by omega) hp
   have hF:∀g v,Z18 Try.prog Z0Q D0 NN (fun h=>Z7c Try.prog Z0Q D0 NN (fun v h=>some (v,h)) h) (fun h=>some (.tup [],h)) NN (.yl 10) (.ptr 9 0 0 1) (.lst 10 ba (L.map encV)) (I L.length) (I ([]:List Envl).length) (H3++[loopE .ready none])=some (v,g)→Z66 [.yl H3.length, .ptr 8 0 0 1, .ptr 9 0 0 1] (H3++[loopE .ready none])=some (v,g):=fun g v hg=>by
    rw [Zst,hl3]
    have ls:∀k:Go.AM.K (AV × Hp),ldK 1 false (.ptr 8 0 0 1) (H3++[loopE .ready none]) k=k (.lst 10 ba (L.map encV)):=fun k=>by rw [Z01,J.a8];rfl
    unfold Z7d
    rw [ls,Z0d,List.length_map]
    exact hg
   have start:∀w,(rangeX Z0V (.fn 91 [.ptr 8 0 0 1, .ptr 9 0 0 1]) Z1U Z1T Z1H Z1I (envT [(7, .ptr 2 0 0 1),(8, .ptr 3 0 0 1),(9, .ptr 4 0 0 1),(10, .ptr 5 0 0 1),(13, .ptr 6 0 0 1),(14, .ptr 7 0 0 1)]) H3 fun pd h150=>jumpC pd (Z5j Try.prog Z0V Z1b NN (fun v g=>cvt false g v) (.ptr 3 0 0 1) (.ptr 4 0 0 1) (.ptr 5 0 0 1) (.ptr 6 0 0 1) (.ptr 7 0 0 1) h150) (fun i151=>bif i151==1 then (Z5j Try.prog Z0V Z1b NN (fun v g=>cvt false g v) (.ptr 3 0 0 1) (.ptr 4 0 0 1) (.ptr 5 0 0 1) (.ptr 6 0 0 1) (.ptr 7 0 0 1) h150) else (none)) (ldK 3 true (.ptr 3 0 0 1) h150 fun r152=>ldK 3 true (.ptr 4 0 0 1) h150 fun r153=>ldK 1 false (.ptr 5 0 0 1) h150 fun r154=>cvt false h150 (.tup [r152,r153,r154])))=some w→Z3E Try.prog Z0V Z1b NN (fun v g=>cvt false g v) (.agg [I o.node,I o.next,LP]) (.agg [I i.node,LH,LM]) (.s (.int .u64 (ar:Int))) (.s (.int .u64 (an:Int))) []=some w:=fun w hw=>by
    simp -implicitDefEqProofs only [Z3E,x0,x1,x2,x3,x4,x5,lo,li,Zdd,Zdc,Zsv,Zsw,Zsx,Z03,fO,fI,Z06,Bool.true_xor,Z0M,gr,Z00,Bool.false_eq_true,if_false,Z07,Nat.zero_add,lon,lin,Bool.false_xor,eq',fA,tp,tq,y0,y1,y2,fE,y3,y4,y5,Zsk,Zsl,Z1G,gH,Z4u,y6,gM,bI3,d1,d2,dj1,cond_true,fR]
    exact hw
   by_cases e:(exL ar an 0 L o i).2.2=0
   ·obtain ⟨f1,f2⟩:=e1 e
    obtain ⟨a2,a3,a4,a5,⟨b',a6⟩,⟨b1,b2,a7⟩,a8,a9,a10⟩:=f2
    have hF':=hF h' (.tup []) f1
    obtain ⟨g,hg⟩:∃g:Hp,g=h'.set H3.length (loopE .exhausted none):=⟨_,rfl⟩
    have kg:∀j x,j<10→h'[j]? = some x→g[j]? = some x:=fun j x hj hx=>by rw [hg,hl3];exact getSetN hx (by omega)
    obtain ⟨r,hr⟩:∃r,r=exL ar an 0 L o i:=⟨_,rfl⟩
    rw [show exL ar an ([]:List Envl).length L o i=r from hr.symm] at a6 a7
    rw [← hr] at e ⊢
    refine ⟨b',b1,b2,(go (.tup [ob b' r.1,ib b1 b2 r.2.1,I 0]) (start _ ?_)).trans (by unfold exV;rw [e];rfl)⟩
    refine (ZvU Zhx hF' (by rw [hl3];exact a10)).trans ?_
    rw [← hg]
    have g6:=kg 6 _ (by omega) a6
    have g7:=kg 7 _ (by omega) a7
    have g3:=kg 3 _ (by omega) a3
    have g4:=kg 4 _ (by omega) a4
    have g5:=kg 5 _ (by omega) a5
    have u6:∀k:Go.AM.K AV,ldK 3 true (.ptr 6 0 0 1) g k=k (ob b' r.1):=fun k=>by rw [Z01,g6];rfl
    have u7:∀k:Go.AM.K AV,ldK 3 true (.ptr 7 0 0 1) g k=k (ib b1 b2 r.2.1):=fun k=>by rw [Z01,g7];rfl
    obtain ⟨ga,hga⟩:∃ga:Hp,ga=g.set 3 (.arr 3 [cellsO b' r.1] true false):=⟨_,rfl⟩
    have v3:∀k:AV→Hp→Ent→Option AV,effD (stE 3 (.ptr 3 0 0 1) (ob b' r.1) g) g k=k .u ga ([3],[3]):=fun k=>by
     have:stE 3 (.ptr 3 0 0 1) (ob b' r.1) g=some (.u,⟨[(3, .arr 3 [cellsO b' r.1] true false)],[],[3]⟩):=by rw [Z0G,g3];simp [putAt]
     rw [Z0a this,hga]
    have ga4:ga[4]? = some (.arr 3 [zI] true false):=by rw [hga];exact getSetN g4 (by decide)
    obtain ⟨gb,hgb⟩:∃gb:Hp,gb=ga.set 4 (.arr 3 [cellsI b1 b2 r.2.1] true false):=⟨_,rfl⟩
    have v4:∀k:AV→Hp→Ent→Option AV,effD (stE 3 (.ptr 4 0 0 1) (ib b1 b2 r.2.1) ga) ga k=k .u gb ([4],[4]):=fun k=>by
     have:stE 3 (.ptr 4 0 0 1) (ib b1 b2 r.2.1) ga=some (.u,⟨[(4, .arr 3 [cellsI b1 b2 r.2.1] true false)],[],[4]⟩):=by rw [Z0G,ga4];simp [putAt]
     rw [Z0a this,hgb]
    have gb5:gb[5]? = some (.arr 1 [[I 0]] true false):=by rw [hgb];exact getSetN (by rw [hga];exact getSetN g5 (by decide)) (by decide)
    have v5:∀k:AV→Hp→Ent→Option AV,effD (stE 1 (.ptr 5 0 0 1) (I 0) gb) gb k=k .u gb ([5],[5]):=fun k=>by
     have:stE 1 (.ptr 5 0 0 1) (I 0) gb=some (.u,⟨[(5, .arr 1 [[I 0]] true false)],[],[5]⟩):=by rw [Z0G,gb5];rfl
     rw [Z0a this,Z1f gb5]
    have gb3:gb[3]? = some (.arr 3 [cellsO b' r.1] true false):=by rw [hgb];exact getSetN (by rw [hga];exact getSelfN g3) (by decide)
    have gb4:gb[4]? = some (.arr 3 [cellsI b1 b2 r.2.1] true false):=by rw [hgb];exact getSelfN ga4
    have w3:∀k:Go.AM.K AV,ldK 3 true (.ptr 3 0 0 1) gb k=k (ob b' r.1):=fun k=>by rw [Z01,gb3];rfl
    have w4:∀k:Go.AM.K AV,ldK 3 true (.ptr 4 0 0 1) gb k=k (ib b1 b2 r.2.1):=fun k=>by rw [Z01,gb4];rfl
    have w5:∀k:Go.AM.K AV,ldK 1 false (.ptr 5 0 0 1) gb k=k (I 0):=fun k=>by rw [Z01,gb5];rfl
    show Z5j Try.prog Z0V Z1b NN (fun v g=>cvt false g v) (.ptr 3 0 0 1) (.ptr 4 0 0 1) (.ptr 5 0 0 1) (.ptr 6 0 0 1) (.ptr 7 0 0 1) g=_
    simp -implicitDefEqProofs only [Z5j,u6,u7,v3,v4,v5,w3,w4,w5]
    rfl
   ·obtain ⟨f1,f2,f3,f4⟩:=e2 e
    obtain ⟨b3,b4,b5,b10⟩:=f2
    have hF':=hF h' (.tup []) f1
    obtain ⟨g,hg⟩:∃g:Hp,g=h'.set H3.length (loopE .exhausted (some .ret)):=⟨_,rfl⟩
    have kg:∀j x,j<10→h'[j]? = some x→g[j]? = some x:=fun j x hj hx=>by rw [hg,hl3];exact getSetN hx (by omega)
    obtain ⟨r,hr⟩:∃r,r=exL ar an 0 L o i:=⟨_,rfl⟩
    rw [show exL ar an ([]:List Envl).length L o i=r from hr.symm] at f3 f4 b5
    rw [← hr]
    refine ⟨true,true,true,(go (.tup [.agg zO, .agg zI,I r.2.2]) (start _ ?_)).trans (by unfold exV;rw [f3,f4];rfl)⟩
    refine (Zwu Zhx hF' (by rw [hl3];exact b10)).trans ?_
    rw [← hg]
    have w3:∀k:Go.AM.K AV,ldK 3 true (.ptr 3 0 0 1) g k=k (.agg zO):=fun k=>by rw [Z01,kg 3 _ (by omega) b3];rfl
    have w4:∀k:Go.AM.K AV,ldK 3 true (.ptr 4 0 0 1) g k=k (.agg zI):=fun k=>by rw [Z01,kg 4 _ (by omega) b4];rfl
    have w5:∀k:Go.AM.K AV,ldK 1 false (.ptr 5 0 0 1) g k=k (I r.2.2):=fun k=>by rw [Z01,kg 5 _ (by omega) b5];rfl
    show (ldK 3 true (.ptr 3 0 0 1) g fun r152=>ldK 3 true (.ptr 4 0 0 1) g fun r153=>ldK 1 false (.ptr 5 0 0 1) g fun r154=>cvt false g (.tup [r152,r153,r154]))=_
    rw [w3,w4,w5]
    rfl
end Go.AM


namespace Go.AM
open Go.Proofs
set_option linter.unusedVariables false
set_option linter.unusedSimpArgs false
set_option linter.constructorNameAsVariable false
set_option maxRecDepth 20000
attribute [local congr] Z0e Z0f Z0g Z0h Z0i Z0j Z0k Z0l Z0m Z0n Z0o Z0p Z0q Z0r Z0s Z0t Z0u Z0v Z0w Z0x Z0y Z0z Z0A Z0B Z0C Z0D Z0E
theorem OwnV.snoc {h:Hp} {v:AV} {l:List Envl} {m:Envl} {p:Nat} (O:OwnV h v l) (hm:h[p]? = some (.arr 10 [encV m] true false)) (hl:l.length<100000):∃v' h',(∀k:AV→Hp→Option AV,effK (appE 10 80 v (.sl 10 p 0 1 1 true) h h.length) h k=k v' h')∧OwnV h' v' (l++[m])∧(∀(j:Nat) (o:AObj),h[j]? = some o→(∀id,v ≠ .sl 10 id 0 l.length l.length false∨j≠id)→h'[j]? = some o)∧∃id n,v' = .sl 10 id 0 n n false:=by
 have rd:readSl h (.sl 10 p 0 1 1 true)=some [encV m]:=by unfold readSl;simp [hm]
 rcases O with ⟨rfl,rfl⟩ | ⟨id,rfl,h1⟩
 ·have ha:appE 10 80 nilS (.sl 10 p 0 1 1 true) h h.length=some (.sl 10 h.length 0 1 1 false,⟨[],[.arr 10 [encV m] true false],[p]⟩):=by
   unfold appE
   rw [rd]
   simp [idsOf,encV]
  exact ⟨_,h++[.arr 10 [encV m] true false],fun k=>by rw [ha];rfl, .inr ⟨h.length,rfl,by rw [Z0O];rfl⟩,fun j o hj _=>Z09 hj,_,_,rfl⟩
 ·have ha:appE 10 80 (.sl 10 id 0 l.length l.length false) (.sl 10 p 0 1 1 true) h h.length=some (.sl 10 id 0 (l++[m]).length (l++[m]).length false,⟨[(id, .arr 10 ((l++[m]).map encV) true false)],[],[id,p]⟩):=by
   unfold appE
   rw [rd]
   simp only [h1,List.length_map,List.length_singleton]
   rw [if_pos ⟨trivial,trivial,by omega,by simp [encV]⟩,if_neg (by simp),if_pos (by simp)]
   simp [idsOf]
  refine ⟨_,h.set id (.arr 10 ((l++[m]).map encV) true false),fun k=>Z0F ha k, .inr ⟨id,rfl,getSelfN h1⟩,fun j o hj ho=>getSetN hj ?_,_,_,rfl⟩
  rintro rfl
  rcases ho id with q | q
  ·exact q rfl
  ·exact q rfl
theorem Zwv (n:Int) (h:Hp):Z5w [I n] h=some (if isNode n=true then .tup [ib true true ⟨n,[],[]⟩,I 0] else .tup [ib true true ⟨0,[],[]⟩,I 2],h):=by
 have fn:=Zdt n
 have bx:∀k:AV→Hp→Option AV,effK (boxE 3 (.agg zI) ([]:Hp).length) [] k=k (.ptr 0 0 0 1) [.arr 3 [zI] true false]:=fun k=>rfl
 have b1:∀k:Go.AM.K AV,buildK zI [(some (0,1),I n)] k=k (.agg [I n,nilS,nilS]):=fun k=>rfl
 have b2:∀k:Go.AM.K AV,buildK zI [] k=k (.agg zI):=fun k=>rfl
 have st:∀(a:Int) (k:AV→Hp→Option AV),effK (stE 3 (.ptr 0 0 0 1) (.agg [I a,nilS,nilS]) [.arr 3 [zI] true false]) [.arr 3 [zI] true false] k=k .u [.arr 3 [[I a,nilS,nilS]] true false]:=fun a k=>Z0F (v := .u) (id:=0) (o := .arr 3 [[I a,nilS,nilS]] true false) (ft:=[0]) rfl k
 have ld:∀(a:Int) (k:Go.AM.K AV),ldK 3 true (.ptr 0 0 0 1) [.arr 3 [[I a,nilS,nilS]] true false] k=k (.agg [I a,nilS,nilS]):=fun a k=>rfl
 cases hn:isNode n with
 | true=>
  rw [hn] at fn
  refine (ZgY (a0:=I n) (v := .tup [.agg [I n,nilS,nilS],I 0]) rfl ?_ h).trans rfl
  simp -implicitDefEqProofs only [Z6M,bx,ZgX,Z03,fn,Z0J,Bool.not_true,Z00,Bool.false_eq_true,if_false,b1,st,ld]
  rfl
 | false=>
  rw [hn] at fn
  refine (ZgY (a0:=I n) (v := .tup [.agg zI,I 2]) rfl ?_ h).trans rfl
  simp -implicitDefEqProofs only [Z6M,bx,ZgX,Z03,fn,Z0J,Bool.not_false,Z00,if_true,b2,st,ld]
  rfl
def agreesI (a b:Inbx):Bool:=(chkI a==0)&&(chkI b==0)&&decide (a.msgs=b.msgs)
theorem Zww (a1 a2 b1 b2:Bool) (a b:Inbx) (hla:a.heard.length<1000) (hma:a.msgs.length<1000) (hlb:b.heard.length<1000) (hmb:b.msgs.length<1000) (h:Hp):Z7A [ib a1 a2 a,ib b1 b2 b] h=some (B (agreesI a b),h):=by
 refine Zqd (a0:=ib a1 a2 a) (a1:=ib b1 b2 b) rfl ?_ h
 have n1:nrm (.a [none,some 2,some 7]) (ib a1 a2 a)=ib a1 a2 a:=rfl
 have n2:nrm (.a [none,some 2,some 7]) (ib b1 b2 b)=ib b1 b2 b:=rfl
 rw [n1,n2]
 have x0:∀k:AV→Hp→Option AV,effK (boxE 3 (ib a1 a2 a) ([]:Hp).length) [] k=k (.ptr 0 0 0 1) [.arr 3 [cellsI a1 a2 a] true false]:=fun k=>rfl
 obtain ⟨H,hH⟩:∃H:Hp,H=[AObj.arr 3 [cellsI a1 a2 a] true false, .arr 3 [cellsI b1 b2 b] true false]:=⟨_,rfl⟩
 have x1:∀k:AV→Hp→Option AV,effK (boxE 3 (ib b1 b2 b) ([AObj.arr 3 [cellsI a1 a2 a] true false]:Hp).length) [.arr 3 [cellsI a1 a2 a] true false] k=k (.ptr 1 0 0 1) H:=fun k=>by rw [hH];rfl
 have la:∀k:Go.AM.K AV,ldK 3 true (.ptr 0 0 0 1) H k=k (ib a1 a2 a):=fun k=>by rw [hH];rfl
 have lb:∀k:Go.AM.K AV,ldK 3 true (.ptr 1 0 0 1) H k=k (ib b1 b2 b):=fun k=>by rw [hH];rfl
 have ma:∀k:Go.AM.K AV,ldK 1 false (.ptr 0 0 2 1) H k=k (SL 7 encM a2 a.msgs):=fun k=>by rw [hH];rfl
 have mb:∀k:Go.AM.K AV,ldK 1 false (.ptr 1 0 2 1) H k=k (SL 7 encM b2 b.msgs):=fun k=>by rw [hH];rfl
 have fa:=Z6o a1 a2 a (by omega) hma
 have fb:=Z6o b1 b2 b (by omega) hmb
 have fE:=Zid a.msgs b.msgs (a2&&a.msgs.isEmpty) (b2&&b.msgs.isEmpty) (by omega) (fun x y h k=>by rw [Z6k,Bool.true_xor])
 have e1:∀(n:Int) (k:Go.AM.K AV),eqK Try.prog false 32 (I n) (I 0) H k=k (B (n==0)):=fun n k=>by rw [Z06,Bool.false_xor]
 unfold agreesI
 simp -implicitDefEqProofs only [Z8U,x0,x1,la,lb,Zq8,Zq9,Z03,fa,fb,e1,Z0W,Z07,Nat.zero_add,ma,mb,fE]
 rfl
end Go.AM


namespace Go.AM
open Go.Proofs
set_option linter.unusedVariables false
set_option linter.unusedSimpArgs false
set_option linter.constructorNameAsVariable false
set_option maxRecDepth 20000
attribute [local congr] Z0e Z0f Z0g Z0h Z0i Z0j Z0k Z0l Z0m Z0n Z0o Z0p Z0q Z0r Z0s Z0t Z0u Z0v Z0w Z0x Z0y Z0z Z0A Z0B Z0C Z0D Z0E
abbrev msgX (n:Int):Msg:=⟨n,1,0,0,1,2,10⟩
theorem Zis (n:Int) (h:Hp):Z68 [I n] h=some (.agg (encM (msgX n)),h):=by
 refine ZsW (a0:=I n) (v := .agg (encM (msgX n))) rfl ?_ h
 have bx:∀k:AV→Hp→Option AV,effK (boxE 7 (.agg [I 0,I 0,I 0,I 0,I 0,I 0,I 0]) ([]:Hp).length) [] k=k (.ptr 0 0 0 1) [.arr 7 [[I 0,I 0,I 0,I 0,I 0,I 0,I 0]] true false]:=fun k=>rfl
 have b1:∀k:Go.AM.K AV,buildK [I 0,I 0,I 0,I 0,I 0,I 0,I 0] [(some (0,1),I n),(some (1,1),I 1),(some (4,1),I 1),(some (5,1),I 2),(some (6,1),I 10)] k=k (.agg (encM (msgX n))):=fun k=>rfl
 have st:∀(k:AV→Hp→Option AV),effK (stE 7 (.ptr 0 0 0 1) (.agg (encM (msgX n))) [.arr 7 [[I 0,I 0,I 0,I 0,I 0,I 0,I 0]] true false]) [.arr 7 [[I 0,I 0,I 0,I 0,I 0,I 0,I 0]] true false] k=k .u [.arr 7 [encM (msgX n)] true false]:=fun k=>Z0F (v := .u) (id:=0) (o := .arr 7 [encM (msgX n)] true false) (ft:=[0]) rfl k
 have ld:∀(k:Go.AM.K AV),ldK 7 true (.ptr 0 0 0 1) [.arr 7 [encM (msgX n)] true false] k=k (.agg (encM (msgX n))):=fun k=>rfl
 simp -implicitDefEqProofs only [Z98,bx,b1,st,ld]
 rfl
set_option maxHeartbeats 4000000 in
theorem Zit (b:Bool) (o:Outb) (to:Int) (m:Msg) (hc:chkO o=0) (hto:isNode to=true) (hne:to≠o.node) (hm:checkM m=0) (h64:o.pend.length≠64) (hnx:o.next≤1073741824):∃b',∀h:Hp,Z3r [ob b o,I to, .agg (encM m)] h=some (.tup [ob b' ⟨o.node,o.next+1,o.pend++[⟨o.node,to,o.next,m⟩]⟩, .agg (encV ⟨o.node,to,o.next,m⟩),I 0],h):=by
 obtain ⟨-,kn1, -,k4, -⟩:=Z53 hc
 have fC:=ZbP b o (by omega)
 have oD:=fun (h:Hp) (base:Nat)=>own_D b o (by omega) h base
 obtain ⟨node,next,pend⟩:=o
 dsimp only at hne h64 hnx k4 kn1 ⊢
 obtain ⟨LP,hLP⟩:∃LP:AV,LP=SL 10 encV b pend:=⟨_,rfl⟩
 have eob:ob b ⟨node,next,pend⟩ = .agg [I node,I next,LP]:=by rw [hLP]
 rw [eob] at fC oD ⊢
 rw [hc] at fC
 dsimp only at oD
 have hn1:nrm (.a [none,none,some 10]) (.agg [I node,I next,LP]) = .agg [I node,I next,LP]:=by rw [hLP];rfl
 have hpl:plains [.agg [I node,I next,LP],I to, .agg (encM m)]=true:=by rw [hLP];rfl
 obtain ⟨o0,ho0⟩:∃o0:AObj,o0 = .arr 3 [[I node,I next,LP]] true false:=⟨_,rfl⟩
 obtain ⟨o1,ho1⟩:∃o1:AObj,o1 = .arr 7 [encM m] true false:=⟨_,rfl⟩
 obtain ⟨H,hH⟩:∃H:Hp,H=[o0,o1,AObj.arr 3 [zO] true false, .arr 10 [zE] true false]:=⟨_,rfl⟩
 have x0:∀k:AV→Hp→Option AV,effK (boxE 3 (.agg [I node,I next,LP]) ([]:Hp).length) [] k=k (.ptr 0 0 0 1) [o0]:=fun k=>by rw [ho0,hLP];rfl
 have x1:∀k:AV→Hp→Option AV,effK (boxE 7 (.agg (encM m)) ([o0]:Hp).length) [o0] k=k (.ptr 1 0 0 1) [o0,o1]:=fun k=>by rw [ho1];rfl
 have x2:∀k:AV→Hp→Option AV,effK (boxE 3 (.agg zO) ([o0,o1]:Hp).length) [o0,o1] k=k (.ptr 2 0 0 1) [o0,o1, .arr 3 [zO] true false]:=fun k=>rfl
 have x3:∀k:AV→Hp→Option AV,effK (boxE 10 (.agg zE) ([o0,o1, .arr 3 [zO] true false]:Hp).length) [o0,o1, .arr 3 [zO] true false] k=k (.ptr 3 0 0 1) H:=fun k=>by rw [hH];rfl
 have lo:∀k:Go.AM.K AV,ldK 3 true (.ptr 0 0 0 1) H k=k (.agg [I node,I next,LP]):=fun k=>by rw [hH,ho0,hLP];rfl
 have l0:∀k:Go.AM.K AV,ldK 1 false (.ptr 0 0 0 1) H k=k (I node):=fun k=>by rw [hH,ho0];rfl
 have l1:∀k:Go.AM.K AV,ldK 1 false (.ptr 0 0 1 1) H k=k (I next):=fun k=>by rw [hH,ho0];rfl
 have l2:∀k:Go.AM.K AV,ldK 1 false (.ptr 0 0 2 1) H k=k LP:=fun k=>by rw [hH,ho0,hLP];rfl
 have lm:∀k:Go.AM.K AV,ldK 7 true (.ptr 1 0 0 1) H k=k (.agg (encM m)):=fun k=>by rw [hH,ho1];rfl
 have fn:=ZbO to
 rw [hto] at fn
 have fM:=Zdk m
 rw [hm] at fM
 have lenP:∀k:Go.AM.K AV,lenK LP k=k (I pend.length):=fun k=>by rw [hLP,SL,Z0d,List.length_map]
 have e1:(to==node)=false:=by simp [hne]
 have e2:((pend.length:Int)==64)=false:=by rw [beq_eq_false_iff_ne];omega
 have e3:¬(next > 1073741824):=by omega
 -- what the region makes
 obtain ⟨x,hx⟩:∃x:Envl,x=⟨node,to,next,m⟩:=⟨_,rfl⟩
 have bK:∀k:Go.AM.K AV,buildK zE [(some (0,1),I node),(some (1,1),I to),(some (2,1),I next),(some (3,7), .agg (encM m))] k=k (.agg (encV x)):=fun k=>by rw [hx];rfl
 have region:∃(V:AV) (G:Hp) (p:Nat) (e21:Ent),(∀k:AV→Hp→Ent→Option AV,effD (newA Z1k [.agg [I node,I next,LP]] H H.length) H k=k (.agg [I node,I next,V]) G e21)∧p=G.length∧4≤p∧(∀j<4,G[j]? = H[j]?)∧OwnV G V pend∧(V=nilS∨∃id n,V = .sl 10 id 0 n n false)∧(∀id n,V = .sl 10 id 0 n n false→4≤id)∧disjAll [(1,3),(1,6),(1,7),(0,9),(1,9),(3,9),(6,9),(7,9),(0,10),(1,10),(3,10),(6,10),(7,10),(9,10),(3,11),(6,11),(7,11)] [(idsOf (.ptr 0 0 0 1),[]),e21,([],[]),(idsOf (.ptr 0 0 0 1),[]),([],[]),([],[]),(idsOf (.ptr 0 0 1 1),[]),(idsOf (.ptr 1 0 0 1),[]),([],[]),([],[p]),([],[p+1]),([p],[p]),([p+1],[p+1])]=true:=by
  have hl4:H.length=4:=by rw [hH];rfl
  by_cases hb:(b&&pend.isEmpty)=true
  ·have:=oD H H.length
   rw [if_pos hb] at this
   refine ⟨nilS,H,4,([],[]),fun k=>by rw [this];simp [effD,ap,wrOf],hl4.symm,Nat.le_refl _,fun _ _=>rfl, .inl ⟨by simpa using (Bool.and_eq_true_iff.1 hb).2,rfl⟩, .inl rfl,(fun id n hh=>by cases hh),rfl⟩
  ·have:=oD H H.length
   rw [if_neg hb] at this
   refine ⟨_,H++[.arr 10 (pend.map encV) true false],5,([],[4]),fun k=>by rw [this];simp [effD,ap,wrOf,hl4],by simp [hl4],by omega,fun j hj=>List.getElem?_append_left (by omega), .inr ⟨H.length,rfl,by rw [Z0O];rfl⟩, .inr ⟨_,_,rfl⟩,(fun id n hh=>by injection hh with _ hh;omega),rfl⟩
 obtain ⟨V,G,p,e21,rg,hpG,hp4,hG,OV,hV,hV4,dj⟩:=region
 have g0:G[0]? = some o0:=by rw [hG 0 (by omega),hH];rfl
 have g1:G[1]? = some o1:=by rw [hG 1 (by omega),hH];rfl
 have g2:G[2]? = some (.arr 3 [zO] true false):=by rw [hG 2 (by omega),hH];rfl
 have g3:G[3]? = some (.arr 10 [zE] true false):=by rw [hG 3 (by omega),hH];rfl
 have l0':∀k:Go.AM.K AV,ldK 1 false (.ptr 0 0 0 1) G k=k (I node):=fun k=>by rw [Z01,g0,ho0];rfl
 have l1':∀k:Go.AM.K AV,ldK 1 false (.ptr 0 0 1 1) G k=k (I next):=fun k=>by rw [Z01,g0,ho0];rfl
 have lm':∀k:Go.AM.K AV,ldK 7 true (.ptr 1 0 0 1) G k=k (.agg (encM m)):=fun k=>by rw [Z01,g1,ho1];rfl
 have d1:∀k:AV→Hp→Ent→Option AV,effD (boxE 3 (.agg zO) G.length) G k=k (.ptr p 0 0 1) (G++[.arr 3 [zO] true false]) ([],[p]):=fun k=>by rw [← hpG];simp [effD,boxE,ap,wrOf, ← hpG]
 have d2:∀k:AV→Hp→Ent→Option AV,effD (boxE 10 (.agg zE) (G++[AObj.arr 3 [zO] true false]).length) (G++[.arr 3 [zO] true false]) k=k (.ptr (p+1) 0 0 1) (G++[.arr 3 [zO] true false, .arr 10 [zE] true false]) ([],[p+1]):=fun k=>by
  have:(G++[AObj.arr 3 [zO] true false]).length=p+1:=by simp [← hpG]
  rw [this];simp [effD,boxE,ap,wrOf,this, ← hpG]
 have d3:∀k:AV→Hp→Ent→Option AV,effD (stE 3 (.ptr p 0 0 1) (.agg [I node,I next,V]) (G++[.arr 3 [zO] true false, .arr 10 [zE] true false])) (G++[.arr 3 [zO] true false, .arr 10 [zE] true false]) k=k .u (G++[.arr 3 [[I node,I next,V]] true false, .arr 10 [zE] true false]) ([p],[p]):=fun k=>by
  have:stE 3 (.ptr p 0 0 1) (.agg [I node,I next,V]) (G++[.arr 3 [zO] true false, .arr 10 [zE] true false])=some (.u,⟨[(p, .arr 3 [[I node,I next,V]] true false)],[],[p]⟩):=by
   rw [Z0G,List.getElem?_append_right (by omega),show p-G.length=0 by omega]
   rcases hV with rfl | ⟨id,n,rfl⟩<;>simp [putAt]
  rw [Z0a this,List.set_append_right _ _ (by omega),show p-G.length=0 by omega]
  rfl
 obtain ⟨G2,hG2⟩:∃G2:Hp,G2=G++[AObj.arr 3 [[I node,I next,V]] true false, .arr 10 [encV x] true false]:=⟨_,rfl⟩
 have d4:∀k:AV→Hp→Ent→Option AV,effD (stE 10 (.ptr (p+1) 0 0 1) (.agg (encV x)) (G++[.arr 3 [[I node,I next,V]] true false, .arr 10 [zE] true false])) (G++[.arr 3 [[I node,I next,V]] true false, .arr 10 [zE] true false]) k=k .u G2 ([p+1],[p+1]):=fun k=>by
  have:stE 10 (.ptr (p+1) 0 0 1) (.agg (encV x)) (G++[.arr 3 [[I node,I next,V]] true false, .arr 10 [zE] true false])=some (.u,⟨[(p+1, .arr 10 [encV x] true false)],[],[p+1]⟩):=by
   rw [Z0G,List.getElem?_append_right (by omega),show p+1-G.length=1 by omega]
   simp [putAt,encV]
  rw [Z0a this,List.set_append_right _ _ (by omega),show p+1-G.length=1 by omega,hG2]
  rfl
 have q0:G2[p]? = some (.arr 3 [[I node,I next,V]] true false):=by rw [hG2,hpG,List.getElem?_append_right (Nat.le_refl _),Nat.sub_self];rfl
 have q1:G2[p+1]? = some (.arr 10 [encV x] true false):=by rw [hG2,hpG,List.getElem?_append_right (by omega),show G.length+1-G.length=1 by omega];rfl
 have kG:∀j o,G[j]? = some o→G2[j]? = some o:=fun j o hj=>by rw [hG2];exact Z09 hj
 have lV:∀k:Go.AM.K AV,ldK 1 false (.ptr p 0 2 1) G2 k=k V:=fun k=>by rw [Z01,q0];rcases hV with rfl | ⟨id,n,rfl⟩<;>rfl
 have lx:∀k:Go.AM.K AV,ldK 10 true (.ptr (p+1) 0 0 1) G2 k=k (.agg (encV x)):=fun k=>by rw [Z01,q1];rfl
 have hl2:G2.length=p+2:=by rw [hG2];simp [← hpG]
 obtain ⟨G3,hG3⟩:∃G3:Hp,G3=G2++[AObj.arr 10 [encV x] true false]:=⟨_,rfl⟩
 have bs:∀k:AV→Hp→Option AV,effK (bsE 10 zE 1 [(0, .agg (encV x))] G2.length) G2 k=k (.sl 10 G2.length 0 1 1 true) G3:=fun k=>by rw [hG3];simp [bsE,fillS,encV,effK,ap]
 have OV3:OwnV G3 V pend:=by
  rcases OV with O | ⟨id,rfl,hid⟩
  ·exact .inl O
  ·exact .inr ⟨id,rfl,by rw [hG3];exact Z09 (kG _ _ hid)⟩
 have hidp:∀id,V = .sl 10 id 0 pend.length pend.length false→id<p∧4≤id∨(id<4∧False):=fun id hid=>by
  refine .inl ⟨?_,hV4 id _ hid⟩
  rcases OV with ⟨-,e⟩ | ⟨id',e,hh⟩
  ·rw [e] at hid;cases hid
  ·rw [e] at hid
   injection hid with _ hid
   subst hid
   have h1:=(List.getElem?_eq_some_iff.1 hh).1
   omega
 obtain ⟨V',G4,a1,a2,a3,a4⟩:=OV3.snoc (m:=x) (p:=G2.length) (by rw [hG3,Z0O];rfl) (by omega)
 have k4':∀j o,G2[j]? = some o→(j<4∨p≤j)→G4[j]? = some o:=fun j o hj hjp=>a3 j o (by rw [hG3];exact Z09 hj) fun id=>by
  by_cases hid:V = .sl 10 id 0 pend.length pend.length false
  ·right
   rcases hidp id hid with ⟨h1,h2⟩ | ⟨-,h2⟩
   ·omega
   ·exact h2.elim
  ·exact .inl hid
 have u0:=k4' p _ q0 (.inr (Nat.le_refl _))
 have u1:=k4' (p+1) _ q1 (.inr (by omega))
 have u2:=k4' 2 _ (kG _ _ g2) (.inl (by omega))
 have u3:=k4' 3 _ (kG _ _ g3) (.inl (by omega))
 obtain ⟨G5,hG5⟩:∃G5:Hp,G5=G4.set p (.arr 3 [[I node,I next,V']] true false):=⟨_,rfl⟩
 have s1:∀k:AV→Hp→Option AV,effK (stE 1 (.ptr p 0 2 1) V' G4) G4 k=k .u G5:=fun k=>by
  have:stE 1 (.ptr p 0 2 1) V' G4=some (.u,⟨[(p, .arr 3 [[I node,I next,V']] true false)],[],[p]⟩):=by
   rw [Z0G,u0]
   obtain ⟨id,n,rfl⟩:=a4
   simp [putAt]
  rw [Z0F this,hG5]
 have v0:G5[p]? = some (.arr 3 [[I node,I next,V']] true false):=by rw [hG5];exact getSelfN u0
 have ln:∀k:Go.AM.K AV,ldK 1 false (.ptr p 0 1 1) G5 k=k (I next):=fun k=>by rw [Z01,v0];rfl
 have wn:IntKind.i64.wrap (next+1)=next+1:=wrap64 (by omega) (by omega)
 obtain ⟨G6,hG6⟩:∃G6:Hp,G6=G5.set p (.arr 3 [[I node,I (next+1),V']] true false):=⟨_,rfl⟩
 have s2:∀k:AV→Hp→Option AV,effK (stE 1 (.ptr p 0 1 1) (I (next+1)) G5) G5 k=k .u G6:=fun k=>by
  have:stE 1 (.ptr p 0 1 1) (I (next+1)) G5=some (.u,⟨[(p, .arr 3 [[I node,I (next+1),V']] true false)],[],[p]⟩):=by
   rw [Z0G,v0]
   simp [putAt]
  rw [Z0F this,hG6]
 have w0:G6[p]? = some (.arr 3 [[I node,I (next+1),V']] true false):=by rw [hG6];exact getSelfN v0
 have kk:∀j o,G4[j]? = some o→j≠p→G6[j]? = some o:=fun j o hj hn=>by rw [hG6];exact getSetN (by rw [hG5];exact getSetN hj (Ne.symm hn)) (Ne.symm hn)
 have lq:∀k:Go.AM.K AV,ldK 3 true (.ptr p 0 0 1) G6 k=k (.agg [I node,I (next+1),V']):=fun k=>by rw [Z01,w0];obtain ⟨id,n,rfl⟩:=a4;rfl
 have lx6:∀k:Go.AM.K AV,ldK 10 true (.ptr (p+1) 0 0 1) G6 k=k (.agg (encV x)):=fun k=>by rw [Z01,kk _ _ u1 (by omega)];rfl
 have z2:=kk 2 _ u2 (by omega)
 have z3:=kk 3 _ u3 (by omega)
 obtain ⟨G7,hG7⟩:∃G7:Hp,G7=G6.set 2 (.arr 3 [[I node,I (next+1),V']] true false):=⟨_,rfl⟩
 have f1:∀k:AV→Hp→Ent→Option AV,effD (stE 3 (.ptr 2 0 0 1) (.agg [I node,I (next+1),V']) G6) G6 k=k .u G7 ([2],[2]):=fun k=>by
  have:stE 3 (.ptr 2 0 0 1) (.agg [I node,I (next+1),V']) G6=some (.u,⟨[(2, .arr 3 [[I node,I (next+1),V']] true false)],[],[2]⟩):=by
   rw [Z0G,z2]
   obtain ⟨id,n,rfl⟩:=a4
   simp [putAt]
  rw [Z0a this,hG7]
 have z37:G7[3]? = some (.arr 10 [zE] true false):=by rw [hG7];exact getSetN z3 (by decide)
 obtain ⟨G8,hG8⟩:∃G8:Hp,G8=G7.set 3 (.arr 10 [encV x] true false):=⟨_,rfl⟩
 have f2:∀k:AV→Hp→Ent→Option AV,effD (stE 10 (.ptr 3 0 0 1) (.agg (encV x)) G7) G7 k=k .u G8 ([3],[3]):=fun k=>by
  have:stE 10 (.ptr 3 0 0 1) (.agg (encV x)) G7=some (.u,⟨[(3, .arr 10 [encV x] true false)],[],[3]⟩):=by
   rw [Z0G,z37]
   simp [putAt,encV]
  rw [Z0a this,hG8]
 have y2:G8[2]? = some (.arr 3 [[I node,I (next+1),V']] true false):=by rw [hG8];exact getSetN (by rw [hG7];exact getSelfN z2) (by decide)
 have y3:G8[3]? = some (.arr 10 [encV x] true false):=by rw [hG8];exact getSelfN z37
 have r2:∀k:Go.AM.K AV,ldK 3 true (.ptr 2 0 0 1) G8 k=k (.agg [I node,I (next+1),V']):=fun k=>by rw [Z01,y2];obtain ⟨id,n,rfl⟩:=a4;rfl
 have r3:∀k:Go.AM.K AV,ldK 10 true (.ptr 3 0 0 1) G8 k=k (.agg (encV x)):=fun k=>by rw [Z01,y3];rfl
 -- the answer
 have hcv:∃w bb,cvt false G8 V'=some w∧nrm (.l 10) w=SL 10 encV bb (pend++[x]):=by
  rcases a2 with ⟨e, -⟩ | ⟨id,rfl,hid⟩
  ·simp at e
  ·have n2:2≠id:=by rintro rfl;rw [u2] at hid;injection hid with hid;injection hid with q _;cases q
   have np:p≠id:=by rintro rfl;rw [u0] at hid;injection hid with hid;injection hid with q _;cases q
   have n3:3≠id:=by
    rintro rfl
    rw [u3] at hid
    injection hid with hid
    injection hid with _ q
    have hq:=congrArg List.getLast? q
    rw [List.map_append,List.map_singleton,List.getLast?_append] at hq
    simp [encV,hx] at hq
    have:=hq.2.2.1
    omega
   have hid8:G8[id]? = some (.arr 10 ((pend++[x]).map encV) true false):=by rw [hG8];exact getSetN (by rw [hG7];exact getSetN (kk _ _ hid (Ne.symm np)) n2) n3
   exact ⟨.lst 10 false ((pend++[x]).map encV),false,Z0X (st:=false) hid8 (by simp) (by simp) (Z0U fun x=>by simp [encV]),rfl⟩
 obtain ⟨w,bb,c1,c2⟩:=hcv
 refine ⟨bb,fun h=>(ZsQ (a0 := .agg [I node,I next,LP]) (a1:=I to) (a2 := .agg (encM m)) (v := .tup [.agg [I node,I (next+1),w], .agg (encV x),I 0]) hpl ?_ h).trans ?_⟩
 ·rw [hn1]
  simp -implicitDefEqProofs only [Z97,x0,x1,x2,x3,lo,ZsK,ZsL,ZsM,Z03,fC,Z06,beq_self_eq_true,Bool.true_xor,Bool.false_xor,Bool.not_true,Z00,Bool.false_eq_true,if_false,fn,Z0J,Z07,Nat.zero_add,l0,l1,l2,lm,e1,fM,lenP,e2,Z0L,e3,decide_false,Z3F,ZfC,ZsI,Z1G,rg,l0',l1',lm',bK,d1,d2,d3,d4,dj,cond_true,lV,lx,bs,a1,s1,ln,Z0I,wn,s2,lq,lx6,f1,f2]
  have dj3:disjAll [(1,2)] [(idsOf (.ptr p 0 0 1),[]),(idsOf (.ptr (p+1) 0 0 1),[]),([2],[2]),([3],[3]),([],[])]=true:=by
   have:(p+1==2)=false:=by rw [beq_eq_false_iff_ne];omega
   simp [disjAll,disj2,idsOf]
   omega
  simp -implicitDefEqProofs only [dj3,cond_true,r2,r3]
  simp only [Z3g,Z17,Z16,Z3x,cvt_s,c1]
  rfl
 ·show some (AV.tup [.agg [I node,I (next+1),nrm (.l 10) w], .agg (encV x),I 0],h)=_
  rw [c2,hx]
end Go.AM


namespace Go.AM
open Go.Proofs
set_option linter.unusedVariables false
set_option linter.unusedSimpArgs false
set_option linter.constructorNameAsVariable false
set_option maxRecDepth 20000
theorem ZbS {i:Inbx} (h1:isNode i.node=true) (h2:i.heard.length≤256) (h3:i.msgs.length≤64) (h4:chkH i.node none i.heard=0) (h5:errM i.msgs=0) (h6:normL i.msgs=i.msgs) (h7:i.msgs.length≤i.heard.length):chkI i=0:=by
 unfold chkI
 rw [if_neg (by rw [h1];simp),if_neg (by omega),if_neg (fun hh=>hh h4),if_neg (by rw [h5,h6];simp),if_neg (by omega)]
abbrev mX1:Msg:=msgX 1
abbrev mX2:Msg:=msgX 2
abbrev eX1:Envl:=⟨1,2,1,mX1⟩
abbrev eX2:Envl:=⟨1,2,2,mX2⟩
abbrev oX0:Outb:=⟨1,1,[]⟩
abbrev oX1:Outb:=⟨1,2,[eX1]⟩
abbrev oX2:Outb:=⟨1,3,[eX1,eX2]⟩
abbrev oX3:Outb:=⟨1,3,[eX1]⟩
abbrev oX4:Outb:=⟨1,3,[]⟩
abbrev iX0:Inbx:=⟨2,[],[]⟩
abbrev iX1:Inbx:=⟨2,[⟨1,1⟩],[mX1]⟩
abbrev iX2:Inbx:=⟨2,[⟨1,1⟩,⟨1,2⟩],[mX1,mX2]⟩
theorem nX0:normL []=[]:=ZbN .nil
theorem nX1:normL [mX1]=[mX1]:=ZbN (List.pairwise_singleton _ _)
theorem nX2:normL [mX1,mX2]=[mX1,mX2]:=ZbN (by unfold Srt;decide +kernel)
theorem cX0:chkI iX0=0:=ZbS (by decide) (by decide) (by decide) (by decide) (by decide +kernel) nX0 (by decide)
theorem cX1:chkI iX1=0:=ZbS (by decide) (by decide) (by decide) (by decide +kernel) (by decide +kernel) nX1 (by decide)
theorem cX2:chkI iX2=0:=ZbS (by decide) (by decide) (by decide) (by decide +kernel) (by decide +kernel) nX2 (by decide)
theorem tX1:takeI iX0 eX1=(iX1,⟨1,1⟩,true,0):=by
 unfold takeI
 rw [if_neg (fun hh=>hh cX0),if_neg (by decide +kernel),if_neg (by decide),if_neg (by decide +kernel),if_neg (by decide +kernel)]
 rw [show iX0.msgs.contains eX1.msg=false by decide +kernel,if_neg (by simp)]
 rw [show iX0.msgs++[eX1.msg]=[mX1] from rfl,nX1,show insH iX0.heard ⟨eX1.frm,eX1.num⟩=[⟨1,1⟩] by decide +kernel]
theorem tX2:takeI iX1 eX2=(iX2,⟨1,2⟩,true,0):=by
 unfold takeI
 rw [if_neg (fun hh=>hh cX1),if_neg (by decide +kernel),if_neg (by decide),if_neg (by decide +kernel),if_neg (by decide +kernel)]
 rw [show iX1.msgs.contains eX2.msg=false by decide +kernel,if_neg (by simp)]
 rw [show iX1.msgs++[eX2.msg]=[mX1,mX2] from rfl,nX2,show insH iX1.heard ⟨eX2.frm,eX2.num⟩=[⟨1,1⟩,⟨1,2⟩] by decide +kernel]
theorem tX3:takeI iX2 eX1=(iX2,⟨1,1⟩,false,0):=by
 unfold takeI
 rw [if_neg (fun hh=>hh cX2),if_neg (by decide +kernel),if_neg (by decide),if_pos (by decide +kernel)]
theorem hX2:heardO oX2 ⟨1,2⟩=(oX3,0):=by decide +kernel
theorem hX3:heardO oX3 ⟨1,1⟩=(oX4,0):=by decide +kernel
theorem exX1:exO oX2 iX0 3 2=(oX3,iX2,0):=by
 unfold exO
 rw [if_neg (by rw [cX0,show chkO oX2=0 by decide +kernel];simp),if_neg (by decide),show againL iX0.node oX2.pend=[eX1,eX2] by decide +kernel]
 rw [exL,if_neg (by decide),tX1,if_neg (by simp),if_neg (by decide),exL,if_neg (by decide),tX2,if_neg (by simp),if_pos (by decide),hX2,exL]
theorem exX2:exO oX3 iX2 1 1=(oX4,iX2,0):=by
 unfold exO
 rw [if_neg (by rw [cX2,show chkO oX3=0 by decide +kernel];simp),if_neg (by decide),show againL iX2.node oX3.pend=[eX1] by decide +kernel]
 rw [exL,if_neg (by decide),tX3,if_neg (by simp),if_pos (by decide),hX3,exL]
end Go.AM

