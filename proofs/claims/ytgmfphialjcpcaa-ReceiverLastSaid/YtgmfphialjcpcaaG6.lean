import Derived.Test.YtgmfphialjcpcaaG5
import Derived.Below
import Derived.ChangeOld
import Derived.Carry
import Derived.OpenShut
set_option linter.unusedSectionVars false
set_option linter.unusedVariables false
set_option linter.unusedSimpArgs false
set_option linter.constructorNameAsVariable false
namespace Go.AM
open Go.Proofs
set_option linter.unusedVariables false
set_option linter.unusedSimpArgs false
set_option linter.constructorNameAsVariable false
set_option maxRecDepth 20000
theorem Zca (l:List Hrd) (x:Hrd):(insH l x).length=l.length+1:=by
 unfold insH
 rw [List.length_append,List.length_cons,List.length_take,List.length_drop]
 have:=ZaA l x
 omega
theorem Zcb (i:Inbx) (e:Envl):(takeI i e).1.heard.length≤i.heard.length+1∧(takeI i e).1.msgs.length≤i.msgs.length+1:=by
 unfold takeI
 repeat' split
 all_goals (try (constructor<;>simp;done))
 ·constructor
  ·rw [Zca];exact Nat.le_refl _
  ·simp
 ·constructor
  ·rw [Zca];exact Nat.le_refl _
  ·have:=Zc1 (i.msgs++[e.msg]);simpa using this
theorem ZgF (o:Outb) (hd:Hrd):(heardO o hd).1.pend.length≤o.pend.length:=by
 unfold heardO
 repeat' split
 all_goals (try (simp;done))
 exact List.length_filter_le _ _
attribute [local congr] Z0c Z0d Z0e Z0f Z0g Z0h Z0i Z0j Z0k Z0l Z0m Z0n Z0o Z0p Z0q Z0r Z0s Z0t Z0u Z0v Z0w Z0x Z0y Z0z Z0A Z0B Z0C
set_option maxHeartbeats 4000000 in
theorem Zt0 {x0 xr:Hp→Option (AV × Hp)} {ar an:Nat} {l:List Envl} {b:Bool} (har:ar<18446744073709551616) (han:an<18446744073709551616) (hl:l.length≤64):∀(n:Nat) (pre post:List Envl) (o:Outb) (i:Inbx) (h:Hp),l=pre++post→post.length<n→InvX ar an (.lst 10 b (l.map encV)) o i h→i.heard.length+post.length≤900→i.msgs.length+post.length≤900→o.pend.length<1000→
  ∃h',((exL ar an pre.length post o i).2.2=0→Z12 Try.prog Z0P D0 NN x0 xr n (.yl 10) (.ptr 9 0 0 1) (.lst 10 b (l.map encV)) (I l.length) (I pre.length) h=x0 h'∧InvX ar an (.lst 10 b (l.map encV)) (exL ar an pre.length post o i).1 (exL ar an pre.length post o i).2.1 h') ∧
   ((exL ar an pre.length post o i).2.2≠0→Z12 Try.prog Z0P D0 NN x0 xr n (.yl 10) (.ptr 9 0 0 1) (.lst 10 b (l.map encV)) (I l.length) (I pre.length) h=xr h'∧EndX (exL ar an pre.length post o i).2.2 h'∧(exL ar an pre.length post o i).1=⟨0,0,[]⟩∧(exL ar an pre.length post o i).2.1=⟨0,[],[]⟩):=by
 intro n
 induction n with
 | zero=>intro pre post o i h _ h2;omega
 | succ n ih=>
  intro pre post o i h hc hn J l1 l2 l3
  show ∃h',(_→Z2H Try.prog Z0P D0 NN (Z12 Try.prog Z0P D0 NN x0 xr n) x0 xr _ _ _ _ _ h=_∧_)∧(_→Z2H Try.prog Z0P D0 NN (Z12 Try.prog Z0P D0 NN x0 xr n) x0 xr _ _ _ _ _ h=_∧_)
  cases post with
  | nil=>
   have:l=pre:=by simpa using hc
   subst this
   have c1:¬((l.length:Int)<(l.length:Int)):=by omega
   have hb:Z2H Try.prog Z0P D0 NN (Z12 Try.prog Z0P D0 NN x0 xr n) x0 xr (.yl 10) (.ptr 9 0 0 1) (.lst 10 b (l.map encV)) (I l.length) (I l.length) h=x0 h:=by
    simp -implicitDefEqProofs only [Z2H,Z06,c1,decide_false,Z01,Bool.false_eq_true,if_false]
   exact ⟨h,fun _=>⟨hb,J⟩,fun hh=>absurd rfl hh⟩
  | cons x post=>
   have hi:pre.length<l.length:=by rw [hc];simp
   have hx:l[pre.length]? = some x:=by rw [hc];simp
   have hlt:((pre.length:Int)<(l.length:Int)):=by omega
   have hw:IntKind.i64.wrap ((pre.length:Int)+1)=(((pre++[x]).length:Nat):Int):=by rw [wrap64 (by omega) (by omega)];simp
   have ic:∀k:Go.AM.K (AV × Hp),iaK 10 (.lst 10 b (l.map encV)) (I pre.length) k=k (.ep (encV x) 0):=fun k=>Z0W pre.length rfl hx k
   have ld:∀k:Go.AM.K (AV × Hp),ldK 10 true (.ep (encV x) 0) h k=k (.agg (encV x)):=fun k=>rfl
   obtain ⟨y,hy⟩:∃y,y=h++[AObj.arr 10 [encV x] true false]:=⟨_,rfl⟩
   have ns:∀k:AV→Hp→Option (AV × Hp),effK (stE 10 (.ptr h.length 0 0 1) (.agg (encV x)) (h++[.arr 10 [zE] true false])) (h++[.arr 10 [zE] true false]) k=k .u y:=fun k=>by rw [hy];exact nst k
   have lw:∀k:Go.AM.K (AV × Hp),ldK 10 true (.ptr h.length 0 0 1) y k=k (.agg (encV x)):=fun k=>by rw [hy];exact nlw k
   have Jy:InvX ar an (.lst 10 b (l.map encV)) o i y:=J.mono fun j z hj=>by rw [hy];exact Z08 hj
   have la:∀k:Go.AM.K (AV × Hp),ldK 1 false (.ptr 9 0 0 1) y k=k (.s (.int .u64 (ar:Int))):=fun k=>by rw [Z00,Jy.a9];rfl
   have hbit:=fun K:Go.AM.K (AV × Hp)=>bit_K (h:=y) ar pre.length har (by omega) K
   have hpl:(pre++[x]).length=pre.length+1:=by simp
   have hb:∀(c:Bool) (g:Hp),(∀k:AV→Hp→Option (AV × Hp),grpK true (B (bitN ar pre.length)) y (fun k14=>callVK Z0P (.yl 10) [I pre.length, .agg (encV x)] y fun x16 h17=>notK x16 fun x18=>k14 x18 h17) k=k (B c) g)→Z2H Try.prog Z0P D0 NN (Z12 Try.prog Z0P D0 NN x0 xr n) x0 xr (.yl 10) (.ptr 9 0 0 1) (.lst 10 b (l.map encV)) (I l.length) (I pre.length) h=if c=true then xr g else Z12 Try.prog Z0P D0 NN x0 xr n (.yl 10) (.ptr 9 0 0 1) (.lst 10 b (l.map encV)) (I l.length) (I ((pre++[x]).length:Nat)) g:=fun c g hg=>by
    simp -implicitDefEqProofs only [Z2H,Z06,hlt,decide_true,Z01,if_true,ic,ld,nbx,ns,la]
    rw [hbit]
    simp -implicitDefEqProofs only [lw]
    rw [hg]
    simp -implicitDefEqProofs only [Z01,Z0L,hw]
   cases hbt:bitN ar pre.length with
   | false=>
    have he:exL ar an pre.length (x::post) o i=exL ar an (pre++[x]).length post o i:=by rw [exL,if_pos hbt,hpl]
    have hb0:=hb false y (fun k=>by rw [hbt,Z4M])
    rw [hb0,he]
    simp only [Bool.false_eq_true,if_false]
    exact ih (pre++[x]) post o i y (by simpa using hc) (by simpa using hn) Jy (by simp at l1;omega) (by simp at l2;omega) l3
   | true=>
    have he:exL ar an pre.length (x::post) o i=if (takeI i x).2.2.2≠0 then (⟨0,0,[]⟩,⟨0,[],[]⟩,(takeI i x).2.2.2) else exL ar an (pre.length+1) post (if bitN an pre.length=true then (heardO o (takeI i x).2.1).1 else o) (takeI i x).1:=by rw [exL,if_neg (by rw [hbt];simp)]
    have hlen:(x::post).length=post.length+1:=rfl
    obtain ⟨g,r1,r2⟩:=ZsZ (k:=pre.length) (x:=x) Jy han (by omega) (by omega) (by omega) l3
    by_cases e:(takeI i x).2.2.2=0
    ·obtain ⟨r3,r4⟩:=r2 e
     rw [if_neg (show ¬(takeI i x).2.2.2≠0 from fun hh=>hh e)] at he
     have hb0:=hb false g (fun k=>by
      have cy:∀k:AV→Hp→Option (AV × Hp),callVK Z0P (.yl 10) [I pre.length, .agg (encV x)] y k=k (B true) g:=fun k=>by
       show callK (Z0P YB) (ymark :: .yl 10::[I pre.length, .agg (encV x)]) y k=_
       rw [ZfK,Z03,r3]
      rw [hbt,Z1x,cy]
      rfl)
     rw [hb0,he, ← hpl]
     simp only [Bool.false_eq_true,if_false]
     obtain ⟨t1,t2⟩:=Zcb i x
     refine ih (pre++[x]) post _ _ g (by simpa using hc) (by simpa using hn) r4 (by omega) (by omega) ?_
     split
     ·have:=ZgF o (takeI i x).2.1;omega
     ·exact l3
    ·obtain ⟨r3,r4⟩:=r1 e
     rw [if_pos (show (takeI i x).2.2.2≠0 from e)] at he
     have hb0:=hb true g (fun k=>by
      have cy:∀k:AV→Hp→Option (AV × Hp),callVK Z0P (.yl 10) [I pre.length, .agg (encV x)] y k=k (B false) g:=fun k=>by
       show callK (Z0P YB) (ymark :: .yl 10::[I pre.length, .agg (encV x)]) y k=_
       rw [ZfK,Z03,r3]
      rw [hbt,Z1x,cy]
      rfl)
     rw [hb0,he]
     exact ⟨g,fun hh=>absurd hh e,fun _=>⟨if_pos rfl,r4,rfl,rfl⟩⟩
theorem Zt1 {β:Type} {T:Tab} {F:Fun} {f:FuncId} {caps:List AV} {h h':Hp} {m:Nat} {ps:Array Tmp} {asg body:Code} {ts:Tm} {v:AV} {pend:Option Code} {k:Option Code→Hp→Option β} (hT:T f=some F) (hF:F (.yl h.length::caps) (h++[.loop m ps asg body ts .ready none])=some (v,h')) (hl:h'[h.length]? = some (.loop m ps asg body ts .done pend)):
  rangeX T (.fn f caps) m ps asg body ts h k=k pend (h'.set h.length (.loop m ps asg body ts .exhausted pend)):=by
 unfold rangeX
 simp only [hT,Z03,hF,hl]
end Go.AM


namespace Go.AM
open Go.Proofs
set_option linter.unusedVariables false
set_option linter.unusedSimpArgs false
set_option linter.constructorNameAsVariable false
set_option maxRecDepth 20000
attribute [local congr] Z0c Z0d Z0e Z0f Z0g Z0h Z0i Z0j Z0k Z0l Z0m Z0n Z0o Z0p Z0q Z0r Z0s Z0t Z0u Z0v Z0w Z0x Z0y Z0z Z0A Z0B Z0C
def exV (b b1 b2:Bool) (r:Outb × Inbx × Int):AV := .tup [ob b r.1,ib b1 b2 r.2.1,I r.2.2]
set_option maxHeartbeats 4000000 in
theorem Zcc (b:Bool) (o:Outb) (c1 c2:Bool) (i:Inbx) (ar an:Nat) (har:ar<18446744073709551616) (han:an<18446744073709551616) (hp:o.pend.length<1000) (hh:i.heard.length<1000) (hm:i.msgs.length<1000) (h:Hp):∃b' b1 b2,Z1C [ob b o,ib c1 c2 i, .s (.int .u64 (ar:Int)), .s (.int .u64 (an:Int))] h=some (exV b' b1 b2 (exO o i ar an),h):=by
 obtain ⟨LP,hLP⟩:∃LP:AV,LP=SL 10 encV b o.pend:=⟨_,rfl⟩
 obtain ⟨LH,hLH⟩:∃LH:AV,LH=SL 2 encH c1 i.heard:=⟨_,rfl⟩
 obtain ⟨LM,hLM⟩:∃LM:AV,LM=SL 7 encM c2 i.msgs:=⟨_,rfl⟩
 have eob:ob b o = .agg [I o.node,I o.next,LP]:=by rw [hLP]
 have eib:ib c1 c2 i = .agg [I i.node,LH,LM]:=by rw [hLH,hLM]
 obtain ⟨o0,ho0⟩:∃o0:AObj,o0 = .arr 3 [[I o.node,I o.next,LP]] true false:=⟨_,rfl⟩
 obtain ⟨o1,ho1⟩:∃o1:AObj,o1 = .arr 3 [[I i.node,LH,LM]] true false:=⟨_,rfl⟩
 obtain ⟨o2,ho2⟩:∃o2:AObj,o2 = .arr 1 [[.s (.int .u64 (an:Int))]] true false:=⟨_,rfl⟩
 obtain ⟨H,hH⟩:∃H:Hp,H=[o0,o1,o2,AObj.arr 3 [zO] true false, .arr 3 [zI] true false, .arr 1 [[I 0]] true false]:=⟨_,rfl⟩
 have x0:∀k:AV→Hp→Option AV,effK (boxE 3 (.agg [I o.node,I o.next,LP]) ([]:Hp).length) [] k=k (.ptr 0 0 0 1) [o0]:=fun k=>by rw [ho0,hLP];rfl
 have x1:∀k:AV→Hp→Option AV,effK (boxE 3 (.agg [I i.node,LH,LM]) ([o0]:Hp).length) [o0] k=k (.ptr 1 0 0 1) [o0,o1]:=fun k=>by rw [ho1,hLH,hLM];rfl
 have x2:∀k:AV→Hp→Option AV,effK (boxE 1 (.s (.int .u64 (an:Int))) ([o0,o1]:Hp).length) [o0,o1] k=k (.ptr 2 0 0 1) [o0,o1,o2]:=fun k=>by rw [ho2];rfl
 have x3:∀k:AV→Hp→Option AV,effK (boxE 3 (.agg zO) ([o0,o1,o2]:Hp).length) [o0,o1,o2] k=k (.ptr 3 0 0 1) [o0,o1,o2, .arr 3 [zO] true false]:=fun k=>rfl
 have x4:∀k:AV→Hp→Option AV,effK (boxE 3 (.agg zI) ([o0,o1,o2, .arr 3 [zO] true false]:Hp).length) [o0,o1,o2, .arr 3 [zO] true false] k=k (.ptr 4 0 0 1) [o0,o1,o2, .arr 3 [zO] true false, .arr 3 [zI] true false]:=fun k=>rfl
 have x5:∀k:AV→Hp→Option AV,effK (boxE 1 (I 0) ([o0,o1,o2, .arr 3 [zO] true false, .arr 3 [zI] true false]:Hp).length) [o0,o1,o2, .arr 3 [zO] true false, .arr 3 [zI] true false] k=k (.ptr 5 0 0 1) H:=fun k=>by rw [hH];rfl
 have lo:∀k:Go.AM.K AV,ldK 3 true (.ptr 0 0 0 1) H k=k (.agg [I o.node,I o.next,LP]):=fun k=>by rw [hH,ho0,hLP];rfl
 have li:∀k:Go.AM.K AV,ldK 3 true (.ptr 1 0 0 1) H k=k (.agg [I i.node,LH,LM]):=fun k=>by rw [hH,ho1,hLH,hLM];rfl
 have lon:∀k:Go.AM.K AV,ldK 1 false (.ptr 0 0 0 1) H k=k (I o.node):=fun k=>by rw [hH,ho0];rfl
 have lin:∀k:Go.AM.K AV,ldK 1 false (.ptr 1 0 0 1) H k=k (I i.node):=fun k=>by rw [hH,ho1];rfl
 have bO:∀k:Go.AM.K AV,buildK zO [] k=k (.agg zO):=fun k=>rfl
 have bI:∀k:Go.AM.K AV,buildK zI [] k=k (.agg zI):=fun k=>rfl
 have s3:∀k:AV→Hp→Option AV,effK (stE 3 (.ptr 3 0 0 1) (.agg zO) H) H k=k .u H:=fun k=>by rw [hH];exact Z09 (v := .u) (id:=3) (o := .arr 3 [zO] true false) (ft:=[3]) rfl k
 have s4:∀k:AV→Hp→Option AV,effK (stE 3 (.ptr 4 0 0 1) (.agg zI) H) H k=k .u H:=fun k=>by rw [hH];exact Z09 (v := .u) (id:=4) (o := .arr 3 [zI] true false) (ft:=[4]) rfl k
 have s5:∀(e:Int) (k:AV→Hp→Option AV),effK (stE 1 (.ptr 5 0 0 1) (I e) H) H k=k .u (H.set 5 (.arr 1 [[I e]] true false)):=fun e k=>by rw [hH];exact Z09 (v := .u) (id:=5) (o := .arr 1 [[I e]] true false) (ft:=[5]) rfl k
 have r3:∀(e:Int) (k:Go.AM.K AV),ldK 3 true (.ptr 3 0 0 1) (H.set 5 (.arr 1 [[I e]] true false)) k=k (.agg zO):=fun e k=>by rw [hH];rfl
 have r4:∀(e:Int) (k:Go.AM.K AV),ldK 3 true (.ptr 4 0 0 1) (H.set 5 (.arr 1 [[I e]] true false)) k=k (.agg zI):=fun e k=>by rw [hH];rfl
 have r5:∀(e:Int) (k:Go.AM.K AV),ldK 1 false (.ptr 5 0 0 1) (H.set 5 (.arr 1 [[I e]] true false)) k=k (I e):=fun e k=>by rw [hH];rfl
 have fO:=Zaz b o (by omega)
 have fI:=Z7v c1 c2 i (by omega) hm
 rw [eob] at fO
 rw [eib] at fI
 have hn1:nrm (.a [none,none,some 10]) (.agg [I o.node,I o.next,LP]) = .agg [I o.node,I o.next,LP]:=by rw [hLP];rfl
 have hn2:nrm (.a [none,some 2,some 7]) (.agg [I i.node,LH,LM]) = .agg [I i.node,LH,LM]:=by rw [hLH,hLM];rfl
 have hpl:plains [.agg [I o.node,I o.next,LP], .agg [I i.node,LH,LM], .s (.int .u64 (ar:Int)), .s (.int .u64 (an:Int))]=true:=by rw [hLP,hLH,hLM];rfl
 rw [eob,eib]
 unfold exO
 have go:∀w,Z28 Try.prog Z0T Z14 NN (fun v g=>cvt false g v) (.agg [I o.node,I o.next,LP]) (.agg [I i.node,LH,LM]) (.s (.int .u64 (ar:Int))) (.s (.int .u64 (an:Int))) []=some w→Z1C [.agg [I o.node,I o.next,LP], .agg [I i.node,LH,LM], .s (.int .u64 (ar:Int)), .s (.int .u64 (an:Int))] h=some (nrmR [.a [none,none,some 10], .a [none,some 2,some 7], .o] w,h):=fun w hw=>
  Zql (a0 := .agg [I o.node,I o.next,LP]) (a1 := .agg [I i.node,LH,LM]) (a2 := .s (.int .u64 (ar:Int))) (a3 := .s (.int .u64 (an:Int))) (v:=w) hpl (by rw [hn1,hn2];exact hw) h
 by_cases z:chkO o≠0∨chkI i≠0
 ·rw [if_pos z]
  refine ⟨true,true,true,(go (.tup [.agg zO, .agg zI,I 1]) ?_).trans rfl⟩
  have gr:(!(chkO o==0) || !(chkI i==0))=true:=by
   rcases z with z | z
   ·simp [z]
   ·simp [z]
  simp -implicitDefEqProofs only [Z28,x0,x1,x2,x3,x4,x5,lo,li,ZbT,ZbS,Z03,fO,fI,Z07,Bool.true_xor,Z0N,gr,Z01,if_true,bO,bI,s3,s4,s5,r3,r4,r5]
  rfl
 ·have z1:chkO o=0:=Classical.byContradiction fun q=>z (.inl q)
  have z2:chkI i=0:=Classical.byContradiction fun q=>z (.inr q)
  rw [if_neg z]
  have gr:(!(chkO o==0) || !(chkI i==0))=false:=by simp [z1,z2]
  by_cases q:o.node=i.node
  ·have eq':(o.node==i.node)=true:=by simp [q]
   rw [if_pos q]
   refine ⟨true,true,true,(go (.tup [.agg zO, .agg zI,I 10]) ?_).trans rfl⟩
   simp -implicitDefEqProofs only [Z28,x0,x1,x2,x3,x4,x5,lo,li,ZbT,ZbS,Z03,fO,fI,Z07,Bool.true_xor,Z0N,gr,Z01,Bool.false_eq_true,if_false,Z0a,Nat.zero_add,lon,lin,Bool.false_xor,eq',if_true,bO,bI,s3,s4,s5,r3,r4,r5]
   rfl
  ·have eq':(o.node==i.node)=false:=by simp [q]
   rw [if_neg q]
   obtain ⟨-, -, -,k4, -⟩:=Z1U z1
   obtain ⟨m1,m2,m3, -⟩:=Zc8 z2
   obtain ⟨ba,fA⟩:=ZsE b o i.node (by omega) H
   rw [eob] at fA
   have hA:againO o i.node=(againL i.node o.pend,0):=by unfold againO;rw [if_neg (fun hh=>hh z1),if_neg (by rw [m1];simp)]
   rw [hA] at fA
   obtain ⟨L,hL⟩:∃L:List Envl,L=againL i.node o.pend:=⟨_,rfl⟩
   rw [← hL] at fA ⊢
   have hLl:L.length≤64:=by rw [hL];exact Nat.le_trans (List.length_filter_le _ _) k4
   have tp:∀(a b:AV) (k:Go.AM.K AV),exK (.tup [a,b]) 0 k=k a:=fun a b k=>rfl
   have tq:∀(a b:AV) (k:Go.AM.K AV),exK (.tup [a,b]) 1 k=k b:=fun a b k=>rfl
   -- the copies
   have y0:∀k:AV→Hp→Option AV,effK (boxE 3 (.agg zO) H.length) H k=k (.ptr 6 0 0 1) (H++[.arr 3 [zO] true false]):=fun k=>by rw [hH];rfl
   have y1:∀k:AV→Hp→Option AV,effK (stE 3 (.ptr 6 0 0 1) (.agg [I o.node,I o.next,LP]) (H++[.arr 3 [zO] true false])) (H++[.arr 3 [zO] true false]) k=k .u (H++[o0]):=fun k=>by
    rw [hH,ho0,hLP];exact Z09 (v := .u) (id:=6) (o := .arr 3 [[I o.node,I o.next,SL 10 encV b o.pend]] true false) (ft:=[6]) rfl k
   obtain ⟨H1,hH1⟩:∃H1:Hp,H1=H++[o0]:=⟨_,rfl⟩
   rw [← hH1] at y1
   have y2:∀k:Go.AM.K AV,ldK 1 false (.ptr 0 0 2 1) H1 k=k LP:=fun k=>by rw [hH1,hH,ho0,hLP];rfl
   have fE:∀h,Z4A [LP] h=some (LP,h):=fun h=>by rw [hLP];exact Zsv o.pend b (by omega) h
   have y3:∀k:AV→Hp→Option AV,effK (stE 1 (.ptr 6 0 2 1) LP H1) H1 k=k .u H1:=fun k=>by
    rw [hH1,hH,ho0,hLP];exact Z09 (v := .u) (id:=6) (o := .arr 3 [[I o.node,I o.next,SL 10 encV b o.pend]] true false) (ft:=[6]) rfl k
   have y4:∀k:Go.AM.K AV,ldK 1 false (.ptr 1 0 0 1) H1 k=k (I i.node):=fun k=>by rw [hH1,hH,ho1];rfl
   have y5:∀k:Go.AM.K AV,ldK 1 false (.ptr 1 0 1 1) H1 k=k LH:=fun k=>by rw [hH1,hH,ho1,hLH];rfl
   have y6:∀k:Go.AM.K AV,ldK 1 false (.ptr 1 0 2 1) H1 k=k LM:=fun k=>by rw [hH1,hH,ho1,hLM];rfl
   have gH:∀h base,Z4v [LH] h base=some (LH,EF []):=fun h base=>by
    rw [hLH]
    exact (Z1w (ZgC i.heard c1 (by omega) h) base).trans (by simp [SL,idss,ids])
   have gM:∀h base,Z9l [LM] h base=some (LM,EF []):=fun h base=>by
    rw [hLM]
    have fM:Z4p [SL 7 encM c2 i.msgs] h=some (SL 7 encM c2 i.msgs,h):=by
     refine (Zni (a0:=SL 7 encM c2 i.msgs) (v:=if (c2&&i.msgs.isEmpty)=true then nilS else SL 7 encM c2 i.msgs) rfl ?_ h).trans ?_
     ·have rC:=Zav i.msgs c2 (by omega) []
      have hK:=(ZbF (fun v g=>cvt false g v) (SL 7 encM c2 i.msgs) []).symm
      show Z4j Try.prog Z5d Z5c NN (fun v g=>cvt false g v) (SL 7 encM c2 i.msgs) []=_
      rw [hK,rC]
      by_cases hb:(c2&&i.msgs.isEmpty)=true
      ·rw [if_pos hb,if_pos hb];rfl
      ·rw [if_neg hb,if_neg hb]
       have hb':(c2&&i.msgs.isEmpty)=false:=by simpa using hb
       refine (Z0Y (st:=false) (n:=i.msgs.length) (fr:=i.msgs.length) (full:=false) (sz:=7) (id:=1) (h:=[.arr 7 [] true false, .arr 7 (i.msgs.map encM) true false]) rfl (by simp) (by simp) (Z0S fun x=>by simp [encM])).trans ?_
       rw [SL,hb']
     ·by_cases hb:(c2&&i.msgs.isEmpty)=true
      ·rw [if_pos hb]
       obtain ⟨e1,e2⟩:=Bool.and_eq_true_iff.1 hb
       have:i.msgs=[]:=by simpa using e2
       rw [this,e1];rfl
      ·rw [if_neg hb];rfl
    exact (Z1w fM base).trans (by simp [SL,idss,ids])
   have bI3:∀k:Go.AM.K AV,buildK zI [(some (0,1),I i.node),(some (1,1),LH),(some (2,1),LM)] k=k (.agg [I i.node,LH,LM]):=fun k=>by rw [hLH,hLM];rfl
   have d1:∀k:AV→Hp→Ent→Option AV,effD (boxE 3 (.agg zI) H1.length) H1 k=k (.ptr 7 0 0 1) (H1++[.arr 3 [zI] true false]) ([],[7]):=fun k=>by rw [hH1,hH];rfl
   obtain ⟨H2,hH2⟩:∃H2:Hp,H2=H1++[o1]:=⟨_,rfl⟩
   have d2:∀k:AV→Hp→Ent→Option AV,effD (stE 3 (.ptr 7 0 0 1) (.agg [I i.node,LH,LM]) (H1++[.arr 3 [zI] true false])) (H1++[.arr 3 [zI] true false]) k=k .u H2 ([7],[7]):=fun k=>by
    rw [hH2,hH1,hH,ho1,hLH,hLM];exact Z0b (v := .u) (id:=7) (o := .arr 3 [[I i.node,SL 2 encH c1 i.heard,SL 7 encM c2 i.msgs]] true false) (ft:=[7]) rfl k
   have dj1:disjAll [(1,4),(4,6),(1,7),(1,9),(3,9),(4,9),(6,9),(7,9)] [([],[]),(idsOf (.ptr 1 0 0 1),[]),([],[]),(idsOf (.ptr 1 0 1 1),[]),([],[]),([],[]),(idsOf (.ptr 1 0 2 1),[]),([],[]),([],[]),([],[7]),([7],[7])]=true:=rfl
   obtain ⟨H3,hH3⟩:∃H3:Hp,H3=H2++[AObj.arr 1 [[.lst 10 ba (L.map encV)]] true false, .arr 1 [[.s (.int .u64 (ar:Int))]] true false]:=⟨_,rfl⟩
   have hl3:H3.length=10:=by rw [hH3,hH2,hH1,hH];rfl
   have fR:Z5x [.lst 10 ba (L.map encV), .s (.int .u64 (ar:Int))] H2=some (.fn 91 [.ptr 8 0 0 1, .ptr 9 0 0 1],H3):=by
    rw [ZpC,hH3,hH2,hH1,hH]
    rfl
   have J:InvX ar an (.lst 10 ba (L.map encV)) o i (H3++[loopE .ready none]):=by
    rw [hH3,hH2,hH1,hH,ho0,ho1,ho2,hLP,hLH,hLM]
    exact ⟨rfl,rfl,rfl,rfl,⟨b,rfl⟩,⟨c1,c2,rfl⟩,rfl,rfl,rfl⟩
   obtain ⟨h',e1,e2⟩:=Zt0 (x0:=fun h=>Z6D Try.prog Z0P D0 NN (fun v h=>some (v,h)) h) (xr:=fun h=>some (.tup [],h)) (b:=ba) har han hLl NN [] L o i _ rfl (by have:=NN_ge;omega) J (by omega) (by omega) hp
   have hF:∀g v,Z12 Try.prog Z0P D0 NN (fun h=>Z6D Try.prog Z0P D0 NN (fun v h=>some (v,h)) h) (fun h=>some (.tup [],h)) NN (.yl 10) (.ptr 9 0 0 1) (.lst 10 ba (L.map encV)) (I L.length) (I ([]:List Envl).length) (H3++[loopE .ready none])=some (v,g)→Z5F [.yl H3.length, .ptr 8 0 0 1, .ptr 9 0 0 1] (H3++[loopE .ready none])=some (v,g):=fun g v hg=>by
    rw [Zqe,hl3]
    have ls:∀k:Go.AM.K (AV × Hp),ldK 1 false (.ptr 8 0 0 1) (H3++[loopE .ready none]) k=k (.lst 10 ba (L.map encV)):=fun k=>by rw [Z00,J.a8];rfl
    unfold Z6E
    rw [ls,Z0F,List.length_map]
    exact hg
   have start:∀w,(rangeX Z0T (.fn 91 [.ptr 8 0 0 1, .ptr 9 0 0 1]) Z1r Z1q Z1h Z1i (envT [(7, .ptr 2 0 0 1),(8, .ptr 3 0 0 1),(9, .ptr 4 0 0 1),(10, .ptr 5 0 0 1),(13, .ptr 6 0 0 1),(14, .ptr 7 0 0 1)]) H3 fun pd h150=>jumpC pd (Z4T Try.prog Z0T Z14 NN (fun v g=>cvt false g v) (.ptr 3 0 0 1) (.ptr 4 0 0 1) (.ptr 5 0 0 1) (.ptr 6 0 0 1) (.ptr 7 0 0 1) h150) (fun i151=>bif i151==1 then (Z4T Try.prog Z0T Z14 NN (fun v g=>cvt false g v) (.ptr 3 0 0 1) (.ptr 4 0 0 1) (.ptr 5 0 0 1) (.ptr 6 0 0 1) (.ptr 7 0 0 1) h150) else (none)) (ldK 3 true (.ptr 3 0 0 1) h150 fun r152=>ldK 3 true (.ptr 4 0 0 1) h150 fun r153=>ldK 1 false (.ptr 5 0 0 1) h150 fun r154=>cvt false h150 (.tup [r152,r153,r154])))=some w→Z28 Try.prog Z0T Z14 NN (fun v g=>cvt false g v) (.agg [I o.node,I o.next,LP]) (.agg [I i.node,LH,LM]) (.s (.int .u64 (ar:Int))) (.s (.int .u64 (an:Int))) []=some w:=fun w hw=>by
    simp -implicitDefEqProofs only [Z28,x0,x1,x2,x3,x4,x5,lo,li,ZbT,ZbS,Zqg,Zqh,Zqi,Z03,fO,fI,Z07,Bool.true_xor,Z0N,gr,Z01,Bool.false_eq_true,if_false,Z0a,Nat.zero_add,lon,lin,Bool.false_xor,eq',fA,tp,tq,y0,y1,y2,fE,y3,y4,y5,Zq5,Zq6,Z1f,gH,Z4c,y6,gM,bI3,d1,d2,dj1,cond_true,fR]
    exact hw
   by_cases e:(exL ar an 0 L o i).2.2=0
   ·obtain ⟨f1,f2⟩:=e1 e
    obtain ⟨a2,a3,a4,a5,⟨b',a6⟩,⟨b1,b2,a7⟩,a8,a9,a10⟩:=f2
    have hF':=hF h' (.tup []) f1
    obtain ⟨g,hg⟩:∃g:Hp,g=h'.set H3.length (loopE .exhausted none):=⟨_,rfl⟩
    have kg:∀j x,j<10→h'[j]? = some x→g[j]? = some x:=fun j x hj hx=>by rw [hg,hl3];exact getSetN hx (by omega)
    obtain ⟨r,hr⟩:∃r,r=exL ar an 0 L o i:=⟨_,rfl⟩
    rw [show exL ar an ([]:List Envl).length L o i=r from hr.symm] at a6 a7
    rw [← hr] at e ⊢
    refine ⟨b',b1,b2,(go (.tup [ob b' r.1,ib b1 b2 r.2.1,I 0]) (start _ ?_)).trans (by unfold exV;rw [e];rfl)⟩
    refine (Zsq ZfL hF' (by rw [hl3];exact a10)).trans ?_
    rw [← hg]
    have g6:=kg 6 _ (by omega) a6
    have g7:=kg 7 _ (by omega) a7
    have g3:=kg 3 _ (by omega) a3
    have g4:=kg 4 _ (by omega) a4
    have g5:=kg 5 _ (by omega) a5
    have u6:∀k:Go.AM.K AV,ldK 3 true (.ptr 6 0 0 1) g k=k (ob b' r.1):=fun k=>by rw [Z00,g6];rfl
    have u7:∀k:Go.AM.K AV,ldK 3 true (.ptr 7 0 0 1) g k=k (ib b1 b2 r.2.1):=fun k=>by rw [Z00,g7];rfl
    obtain ⟨ga,hga⟩:∃ga:Hp,ga=g.set 3 (.arr 3 [cellsO b' r.1] true false):=⟨_,rfl⟩
    have v3:∀k:AV→Hp→Ent→Option AV,effD (stE 3 (.ptr 3 0 0 1) (ob b' r.1) g) g k=k .u ga ([3],[3]):=fun k=>by
     have:stE 3 (.ptr 3 0 0 1) (ob b' r.1) g=some (.u,⟨[(3, .arr 3 [cellsO b' r.1] true false)],[],[3]⟩):=by rw [Z0G,g3];simp [putAt]
     rw [Z0b this,hga]
    have ga4:ga[4]? = some (.arr 3 [zI] true false):=by rw [hga];exact getSetN g4 (by decide)
    obtain ⟨gb,hgb⟩:∃gb:Hp,gb=ga.set 4 (.arr 3 [cellsI b1 b2 r.2.1] true false):=⟨_,rfl⟩
    have v4:∀k:AV→Hp→Ent→Option AV,effD (stE 3 (.ptr 4 0 0 1) (ib b1 b2 r.2.1) ga) ga k=k .u gb ([4],[4]):=fun k=>by
     have:stE 3 (.ptr 4 0 0 1) (ib b1 b2 r.2.1) ga=some (.u,⟨[(4, .arr 3 [cellsI b1 b2 r.2.1] true false)],[],[4]⟩):=by rw [Z0G,ga4];simp [putAt]
     rw [Z0b this,hgb]
    have gb5:gb[5]? = some (.arr 1 [[I 0]] true false):=by rw [hgb];exact getSetN (by rw [hga];exact getSetN g5 (by decide)) (by decide)
    have v5:∀k:AV→Hp→Ent→Option AV,effD (stE 1 (.ptr 5 0 0 1) (I 0) gb) gb k=k .u gb ([5],[5]):=fun k=>by
     have:stE 1 (.ptr 5 0 0 1) (I 0) gb=some (.u,⟨[(5, .arr 1 [[I 0]] true false)],[],[5]⟩):=by rw [Z0G,gb5];rfl
     rw [Z0b this,Z1e gb5]
    have gb3:gb[3]? = some (.arr 3 [cellsO b' r.1] true false):=by rw [hgb];exact getSetN (by rw [hga];exact getSelfN g3) (by decide)
    have gb4:gb[4]? = some (.arr 3 [cellsI b1 b2 r.2.1] true false):=by rw [hgb];exact getSelfN ga4
    have w3:∀k:Go.AM.K AV,ldK 3 true (.ptr 3 0 0 1) gb k=k (ob b' r.1):=fun k=>by rw [Z00,gb3];rfl
    have w4:∀k:Go.AM.K AV,ldK 3 true (.ptr 4 0 0 1) gb k=k (ib b1 b2 r.2.1):=fun k=>by rw [Z00,gb4];rfl
    have w5:∀k:Go.AM.K AV,ldK 1 false (.ptr 5 0 0 1) gb k=k (I 0):=fun k=>by rw [Z00,gb5];rfl
    show Z4T Try.prog Z0T Z14 NN (fun v g=>cvt false g v) (.ptr 3 0 0 1) (.ptr 4 0 0 1) (.ptr 5 0 0 1) (.ptr 6 0 0 1) (.ptr 7 0 0 1) g=_
    simp -implicitDefEqProofs only [Z4T,u6,u7,v3,v4,v5,w3,w4,w5]
    rfl
   ·obtain ⟨f1,f2,f3,f4⟩:=e2 e
    obtain ⟨b3,b4,b5,b10⟩:=f2
    have hF':=hF h' (.tup []) f1
    obtain ⟨g,hg⟩:∃g:Hp,g=h'.set H3.length (loopE .exhausted (some .ret)):=⟨_,rfl⟩
    have kg:∀j x,j<10→h'[j]? = some x→g[j]? = some x:=fun j x hj hx=>by rw [hg,hl3];exact getSetN hx (by omega)
    obtain ⟨r,hr⟩:∃r,r=exL ar an 0 L o i:=⟨_,rfl⟩
    rw [show exL ar an ([]:List Envl).length L o i=r from hr.symm] at f3 f4 b5
    rw [← hr]
    refine ⟨true,true,true,(go (.tup [.agg zO, .agg zI,I r.2.2]) (start _ ?_)).trans (by unfold exV;rw [f3,f4];rfl)⟩
    refine (Zt1 ZfL hF' (by rw [hl3];exact b10)).trans ?_
    rw [← hg]
    have w3:∀k:Go.AM.K AV,ldK 3 true (.ptr 3 0 0 1) g k=k (.agg zO):=fun k=>by rw [Z00,kg 3 _ (by omega) b3];rfl
    have w4:∀k:Go.AM.K AV,ldK 3 true (.ptr 4 0 0 1) g k=k (.agg zI):=fun k=>by rw [Z00,kg 4 _ (by omega) b4];rfl
    have w5:∀k:Go.AM.K AV,ldK 1 false (.ptr 5 0 0 1) g k=k (I r.2.2):=fun k=>by rw [Z00,kg 5 _ (by omega) b5];rfl
    show (ldK 3 true (.ptr 3 0 0 1) g fun r152=>ldK 3 true (.ptr 4 0 0 1) g fun r153=>ldK 1 false (.ptr 5 0 0 1) g fun r154=>cvt false g (.tup [r152,r153,r154]))=_
    rw [w3,w4,w5]
    rfl
end Go.AM


namespace Go.AM
open Go.Proofs
set_option linter.unusedVariables false
set_option linter.unusedSimpArgs false
set_option linter.constructorNameAsVariable false
set_option maxRecDepth 20000
attribute [local congr] Z0c Z0d Z0e Z0f Z0g Z0h Z0i Z0j Z0k Z0l Z0m Z0n Z0o Z0p Z0q Z0r Z0s Z0t Z0u Z0v Z0w Z0x Z0y Z0z Z0A Z0B Z0C
theorem OwnV.snoc {h:Hp} {v:AV} {l:List Envl} {m:Envl} {p:Nat} (O:OwnV h v l) (hm:h[p]? = some (.arr 10 [encV m] true false)) (hl:l.length<100000):∃v' h',(∀k:AV→Hp→Option AV,effK (appE 10 80 v (.sl 10 p 0 1 1 true) h h.length) h k=k v' h')∧OwnV h' v' (l++[m])∧(∀(j:Nat) (o:AObj),h[j]? = some o→(∀id,v ≠ .sl 10 id 0 l.length l.length false∨j≠id)→h'[j]? = some o)∧∃id n,v' = .sl 10 id 0 n n false:=by
 have rd:readSl h (.sl 10 p 0 1 1 true)=some [encV m]:=by unfold readSl;simp [hm]
 rcases O with ⟨rfl,rfl⟩ | ⟨id,rfl,h1⟩
 ·have ha:appE 10 80 nilS (.sl 10 p 0 1 1 true) h h.length=some (.sl 10 h.length 0 1 1 false,⟨[],[.arr 10 [encV m] true false],[p]⟩):=by
   unfold appE
   rw [rd]
   simp [idsOf,encV]
  exact ⟨_,h++[.arr 10 [encV m] true false],fun k=>by rw [ha];rfl, .inr ⟨h.length,rfl,by rw [Z0O];rfl⟩,fun j o hj _=>Z08 hj,_,_,rfl⟩
 ·have ha:appE 10 80 (.sl 10 id 0 l.length l.length false) (.sl 10 p 0 1 1 true) h h.length=some (.sl 10 id 0 (l++[m]).length (l++[m]).length false,⟨[(id, .arr 10 ((l++[m]).map encV) true false)],[],[id,p]⟩):=by
   unfold appE
   rw [rd]
   simp only [h1,List.length_map,List.length_singleton]
   rw [if_pos ⟨trivial,trivial,by omega,by simp [encV]⟩,if_neg (by simp),if_pos (by simp)]
   simp [idsOf]
  refine ⟨_,h.set id (.arr 10 ((l++[m]).map encV) true false),fun k=>Z09 ha k, .inr ⟨id,rfl,getSelfN h1⟩,fun j o hj ho=>getSetN hj ?_,_,_,rfl⟩
  rintro rfl
  rcases ho id with q | q
  ·exact q rfl
  ·exact q rfl
theorem Zt2 (n:Int) (h:Hp):Z56 [I n] h=some (if isNode n=true then .tup [ib true true ⟨n,[],[]⟩,I 0] else .tup [ib true true ⟨0,[],[]⟩,I 2],h):=by
 have fn:=Zc5 n
 have bx:∀k:AV→Hp→Option AV,effK (boxE 3 (.agg zI) ([]:Hp).length) [] k=k (.ptr 0 0 0 1) [.arr 3 [zI] true false]:=fun k=>rfl
 have b1:∀k:Go.AM.K AV,buildK zI [(some (0,1),I n)] k=k (.agg [I n,nilS,nilS]):=fun k=>rfl
 have b2:∀k:Go.AM.K AV,buildK zI [] k=k (.agg zI):=fun k=>rfl
 have st:∀(a:Int) (k:AV→Hp→Option AV),effK (stE 3 (.ptr 0 0 0 1) (.agg [I a,nilS,nilS]) [.arr 3 [zI] true false]) [.arr 3 [zI] true false] k=k .u [.arr 3 [[I a,nilS,nilS]] true false]:=fun a k=>Z09 (v := .u) (id:=0) (o := .arr 3 [[I a,nilS,nilS]] true false) (ft:=[0]) rfl k
 have ld:∀(a:Int) (k:Go.AM.K AV),ldK 3 true (.ptr 0 0 0 1) [.arr 3 [[I a,nilS,nilS]] true false] k=k (.agg [I a,nilS,nilS]):=fun a k=>rfl
 cases hn:isNode n with
 | true=>
  rw [hn] at fn
  refine (Zfd (a0:=I n) (v := .tup [.agg [I n,nilS,nilS],I 0]) rfl ?_ h).trans rfl
  simp -implicitDefEqProofs only [Z6g,bx,Zfc,Z03,fn,Z0I,Bool.not_true,Z01,Bool.false_eq_true,if_false,b1,st,ld]
  rfl
 | false=>
  rw [hn] at fn
  refine (Zfd (a0:=I n) (v := .tup [.agg zI,I 2]) rfl ?_ h).trans rfl
  simp -implicitDefEqProofs only [Z6g,bx,Zfc,Z03,fn,Z0I,Bool.not_false,Z01,if_true,b2,st,ld]
  rfl
def agreesI (a b:Inbx):Bool:=(chkI a==0)&&(chkI b==0)&&decide (a.msgs=b.msgs)
theorem Zt3 (a1 a2 b1 b2:Bool) (a b:Inbx) (hla:a.heard.length<1000) (hma:a.msgs.length<1000) (hlb:b.heard.length<1000) (hmb:b.msgs.length<1000) (h:Hp):Z6Z [ib a1 a2 a,ib b1 b2 b] h=some (B (agreesI a b),h):=by
 refine ZnX (a0:=ib a1 a2 a) (a1:=ib b1 b2 b) rfl ?_ h
 have n1:nrm (.a [none,some 2,some 7]) (ib a1 a2 a)=ib a1 a2 a:=rfl
 have n2:nrm (.a [none,some 2,some 7]) (ib b1 b2 b)=ib b1 b2 b:=rfl
 rw [n1,n2]
 have x0:∀k:AV→Hp→Option AV,effK (boxE 3 (ib a1 a2 a) ([]:Hp).length) [] k=k (.ptr 0 0 0 1) [.arr 3 [cellsI a1 a2 a] true false]:=fun k=>rfl
 obtain ⟨H,hH⟩:∃H:Hp,H=[AObj.arr 3 [cellsI a1 a2 a] true false, .arr 3 [cellsI b1 b2 b] true false]:=⟨_,rfl⟩
 have x1:∀k:AV→Hp→Option AV,effK (boxE 3 (ib b1 b2 b) ([AObj.arr 3 [cellsI a1 a2 a] true false]:Hp).length) [.arr 3 [cellsI a1 a2 a] true false] k=k (.ptr 1 0 0 1) H:=fun k=>by rw [hH];rfl
 have la:∀k:Go.AM.K AV,ldK 3 true (.ptr 0 0 0 1) H k=k (ib a1 a2 a):=fun k=>by rw [hH];rfl
 have lb:∀k:Go.AM.K AV,ldK 3 true (.ptr 1 0 0 1) H k=k (ib b1 b2 b):=fun k=>by rw [hH];rfl
 have ma:∀k:Go.AM.K AV,ldK 1 false (.ptr 0 0 2 1) H k=k (SL 7 encM a2 a.msgs):=fun k=>by rw [hH];rfl
 have mb:∀k:Go.AM.K AV,ldK 1 false (.ptr 1 0 2 1) H k=k (SL 7 encM b2 b.msgs):=fun k=>by rw [hH];rfl
 have fa:=Z7v a1 a2 a (by omega) hma
 have fb:=Z7v b1 b2 b (by omega) hmb
 have fE:=Zgq a.msgs b.msgs (a2&&a.msgs.isEmpty) (b2&&b.msgs.isEmpty) (by omega) (fun x y h k=>by rw [Z5T,Bool.true_xor])
 have e1:∀(n:Int) (k:Go.AM.K AV),eqK Try.prog false 32 (I n) (I 0) H k=k (B (n==0)):=fun n k=>by rw [Z07,Bool.false_xor]
 unfold agreesI
 simp -implicitDefEqProofs only [Z7Z,x0,x1,la,lb,ZnS,ZnT,Z03,fa,fb,e1,Z0Z,Z0a,Nat.zero_add,ma,mb,fE]
 rfl
end Go.AM


namespace Go.AM
open Go.Proofs
set_option linter.unusedVariables false
set_option linter.unusedSimpArgs false
set_option linter.constructorNameAsVariable false
set_option maxRecDepth 20000
attribute [local congr] Z0c Z0d Z0e Z0f Z0g Z0h Z0i Z0j Z0k Z0l Z0m Z0n Z0o Z0p Z0q Z0r Z0s Z0t Z0u Z0v Z0w Z0x Z0y Z0z Z0A Z0B Z0C
abbrev msgX (n:Int):Msg:=⟨n,1,0,0,1,2,10⟩
theorem ZgG (n:Int) (h:Hp):Z5H [I n] h=some (.agg (encM (msgX n)),h):=by
 refine ZqG (a0:=I n) (v := .agg (encM (msgX n))) rfl ?_ h
 have bx:∀k:AV→Hp→Option AV,effK (boxE 7 (.agg [I 0,I 0,I 0,I 0,I 0,I 0,I 0]) ([]:Hp).length) [] k=k (.ptr 0 0 0 1) [.arr 7 [[I 0,I 0,I 0,I 0,I 0,I 0,I 0]] true false]:=fun k=>rfl
 have b1:∀k:Go.AM.K AV,buildK [I 0,I 0,I 0,I 0,I 0,I 0,I 0] [(some (0,1),I n),(some (1,1),I 1),(some (4,1),I 1),(some (5,1),I 2),(some (6,1),I 10)] k=k (.agg (encM (msgX n))):=fun k=>rfl
 have st:∀(k:AV→Hp→Option AV),effK (stE 7 (.ptr 0 0 0 1) (.agg (encM (msgX n))) [.arr 7 [[I 0,I 0,I 0,I 0,I 0,I 0,I 0]] true false]) [.arr 7 [[I 0,I 0,I 0,I 0,I 0,I 0,I 0]] true false] k=k .u [.arr 7 [encM (msgX n)] true false]:=fun k=>Z09 (v := .u) (id:=0) (o := .arr 7 [encM (msgX n)] true false) (ft:=[0]) rfl k
 have ld:∀(k:Go.AM.K AV),ldK 7 true (.ptr 0 0 0 1) [.arr 7 [encM (msgX n)] true false] k=k (.agg (encM (msgX n))):=fun k=>rfl
 simp -implicitDefEqProofs only [Z8a,bx,b1,st,ld]
 rfl
set_option maxHeartbeats 4000000 in
theorem ZgH (b:Bool) (o:Outb) (to:Int) (m:Msg) (hc:chkO o=0) (hto:isNode to=true) (hne:to≠o.node) (hm:checkM m=0) (h64:o.pend.length≠64) (hnx:o.next≤1073741824):∃b',∀h:Hp,Z1T [ob b o,I to, .agg (encM m)] h=some (.tup [ob b' ⟨o.node,o.next+1,o.pend++[⟨o.node,to,o.next,m⟩]⟩, .agg (encV ⟨o.node,to,o.next,m⟩),I 0],h):=by
 obtain ⟨-,kn1, -,k4, -⟩:=Z1U hc
 have fC:=Zaz b o (by omega)
 have oD:=fun (h:Hp) (base:Nat)=>own_D b o (by omega) h base
 obtain ⟨node,next,pend⟩:=o
 dsimp only at hne h64 hnx k4 kn1 ⊢
 obtain ⟨LP,hLP⟩:∃LP:AV,LP=SL 10 encV b pend:=⟨_,rfl⟩
 have eob:ob b ⟨node,next,pend⟩ = .agg [I node,I next,LP]:=by rw [hLP]
 rw [eob] at fC oD ⊢
 rw [hc] at fC
 dsimp only at oD
 have hn1:nrm (.a [none,none,some 10]) (.agg [I node,I next,LP]) = .agg [I node,I next,LP]:=by rw [hLP];rfl
 have hpl:plains [.agg [I node,I next,LP],I to, .agg (encM m)]=true:=by rw [hLP];rfl
 obtain ⟨o0,ho0⟩:∃o0:AObj,o0 = .arr 3 [[I node,I next,LP]] true false:=⟨_,rfl⟩
 obtain ⟨o1,ho1⟩:∃o1:AObj,o1 = .arr 7 [encM m] true false:=⟨_,rfl⟩
 obtain ⟨H,hH⟩:∃H:Hp,H=[o0,o1,AObj.arr 3 [zO] true false, .arr 10 [zE] true false]:=⟨_,rfl⟩
 have x0:∀k:AV→Hp→Option AV,effK (boxE 3 (.agg [I node,I next,LP]) ([]:Hp).length) [] k=k (.ptr 0 0 0 1) [o0]:=fun k=>by rw [ho0,hLP];rfl
 have x1:∀k:AV→Hp→Option AV,effK (boxE 7 (.agg (encM m)) ([o0]:Hp).length) [o0] k=k (.ptr 1 0 0 1) [o0,o1]:=fun k=>by rw [ho1];rfl
 have x2:∀k:AV→Hp→Option AV,effK (boxE 3 (.agg zO) ([o0,o1]:Hp).length) [o0,o1] k=k (.ptr 2 0 0 1) [o0,o1, .arr 3 [zO] true false]:=fun k=>rfl
 have x3:∀k:AV→Hp→Option AV,effK (boxE 10 (.agg zE) ([o0,o1, .arr 3 [zO] true false]:Hp).length) [o0,o1, .arr 3 [zO] true false] k=k (.ptr 3 0 0 1) H:=fun k=>by rw [hH];rfl
 have lo:∀k:Go.AM.K AV,ldK 3 true (.ptr 0 0 0 1) H k=k (.agg [I node,I next,LP]):=fun k=>by rw [hH,ho0,hLP];rfl
 have l0:∀k:Go.AM.K AV,ldK 1 false (.ptr 0 0 0 1) H k=k (I node):=fun k=>by rw [hH,ho0];rfl
 have l1:∀k:Go.AM.K AV,ldK 1 false (.ptr 0 0 1 1) H k=k (I next):=fun k=>by rw [hH,ho0];rfl
 have l2:∀k:Go.AM.K AV,ldK 1 false (.ptr 0 0 2 1) H k=k LP:=fun k=>by rw [hH,ho0,hLP];rfl
 have lm:∀k:Go.AM.K AV,ldK 7 true (.ptr 1 0 0 1) H k=k (.agg (encM m)):=fun k=>by rw [hH,ho1];rfl
 have fn:=Zay to
 rw [hto] at fn
 have fM:=ZbY m
 rw [hm] at fM
 have lenP:∀k:Go.AM.K AV,lenK LP k=k (I pend.length):=fun k=>by rw [hLP,SL,Z0F,List.length_map]
 have e1:(to==node)=false:=by simp [hne]
 have e2:((pend.length:Int)==64)=false:=by rw [beq_eq_false_iff_ne];omega
 have e3:¬(next > 1073741824):=by omega
 -- what the region makes
 obtain ⟨x,hx⟩:∃x:Envl,x=⟨node,to,next,m⟩:=⟨_,rfl⟩
 have bK:∀k:Go.AM.K AV,buildK zE [(some (0,1),I node),(some (1,1),I to),(some (2,1),I next),(some (3,7), .agg (encM m))] k=k (.agg (encV x)):=fun k=>by rw [hx];rfl
 have region:∃(V:AV) (G:Hp) (p:Nat) (e21:Ent),(∀k:AV→Hp→Ent→Option AV,effD (newA Z1c [.agg [I node,I next,LP]] H H.length) H k=k (.agg [I node,I next,V]) G e21)∧p=G.length∧4≤p∧(∀j<4,G[j]? = H[j]?)∧OwnV G V pend∧(V=nilS∨∃id n,V = .sl 10 id 0 n n false)∧(∀id n,V = .sl 10 id 0 n n false→4≤id)∧disjAll [(1,3),(1,6),(1,7),(0,9),(1,9),(3,9),(6,9),(7,9),(0,10),(1,10),(3,10),(6,10),(7,10),(9,10),(3,11),(6,11),(7,11)] [(idsOf (.ptr 0 0 0 1),[]),e21,([],[]),(idsOf (.ptr 0 0 0 1),[]),([],[]),([],[]),(idsOf (.ptr 0 0 1 1),[]),(idsOf (.ptr 1 0 0 1),[]),([],[]),([],[p]),([],[p+1]),([p],[p]),([p+1],[p+1])]=true:=by
  have hl4:H.length=4:=by rw [hH];rfl
  by_cases hb:(b&&pend.isEmpty)=true
  ·have:=oD H H.length
   rw [if_pos hb] at this
   refine ⟨nilS,H,4,([],[]),fun k=>by rw [this];simp [effD,ap,wrOf],hl4.symm,Nat.le_refl _,fun _ _=>rfl, .inl ⟨by simpa using (Bool.and_eq_true_iff.1 hb).2,rfl⟩, .inl rfl,(fun id n hh=>by cases hh),rfl⟩
  ·have:=oD H H.length
   rw [if_neg hb] at this
   refine ⟨_,H++[.arr 10 (pend.map encV) true false],5,([],[4]),fun k=>by rw [this];simp [effD,ap,wrOf,hl4],by simp [hl4],by omega,fun j hj=>List.getElem?_append_left (by omega), .inr ⟨H.length,rfl,by rw [Z0O];rfl⟩, .inr ⟨_,_,rfl⟩,(fun id n hh=>by injection hh with _ hh;omega),rfl⟩
 obtain ⟨V,G,p,e21,rg,hpG,hp4,hG,OV,hV,hV4,dj⟩:=region
 have g0:G[0]? = some o0:=by rw [hG 0 (by omega),hH];rfl
 have g1:G[1]? = some o1:=by rw [hG 1 (by omega),hH];rfl
 have g2:G[2]? = some (.arr 3 [zO] true false):=by rw [hG 2 (by omega),hH];rfl
 have g3:G[3]? = some (.arr 10 [zE] true false):=by rw [hG 3 (by omega),hH];rfl
 have l0':∀k:Go.AM.K AV,ldK 1 false (.ptr 0 0 0 1) G k=k (I node):=fun k=>by rw [Z00,g0,ho0];rfl
 have l1':∀k:Go.AM.K AV,ldK 1 false (.ptr 0 0 1 1) G k=k (I next):=fun k=>by rw [Z00,g0,ho0];rfl
 have lm':∀k:Go.AM.K AV,ldK 7 true (.ptr 1 0 0 1) G k=k (.agg (encM m)):=fun k=>by rw [Z00,g1,ho1];rfl
 have d1:∀k:AV→Hp→Ent→Option AV,effD (boxE 3 (.agg zO) G.length) G k=k (.ptr p 0 0 1) (G++[.arr 3 [zO] true false]) ([],[p]):=fun k=>by rw [← hpG];simp [effD,boxE,ap,wrOf, ← hpG]
 have d2:∀k:AV→Hp→Ent→Option AV,effD (boxE 10 (.agg zE) (G++[AObj.arr 3 [zO] true false]).length) (G++[.arr 3 [zO] true false]) k=k (.ptr (p+1) 0 0 1) (G++[.arr 3 [zO] true false, .arr 10 [zE] true false]) ([],[p+1]):=fun k=>by
  have:(G++[AObj.arr 3 [zO] true false]).length=p+1:=by simp [← hpG]
  rw [this];simp [effD,boxE,ap,wrOf,this, ← hpG]
 have d3:∀k:AV→Hp→Ent→Option AV,effD (stE 3 (.ptr p 0 0 1) (.agg [I node,I next,V]) (G++[.arr 3 [zO] true false, .arr 10 [zE] true false])) (G++[.arr 3 [zO] true false, .arr 10 [zE] true false]) k=k .u (G++[.arr 3 [[I node,I next,V]] true false, .arr 10 [zE] true false]) ([p],[p]):=fun k=>by
  have:stE 3 (.ptr p 0 0 1) (.agg [I node,I next,V]) (G++[.arr 3 [zO] true false, .arr 10 [zE] true false])=some (.u,⟨[(p, .arr 3 [[I node,I next,V]] true false)],[],[p]⟩):=by
   rw [Z0G,List.getElem?_append_right (by omega),show p-G.length=0 by omega]
   rcases hV with rfl | ⟨id,n,rfl⟩<;>simp [putAt]
  rw [Z0b this,List.set_append_right _ _ (by omega),show p-G.length=0 by omega]
  rfl
 obtain ⟨G2,hG2⟩:∃G2:Hp,G2=G++[AObj.arr 3 [[I node,I next,V]] true false, .arr 10 [encV x] true false]:=⟨_,rfl⟩
 have d4:∀k:AV→Hp→Ent→Option AV,effD (stE 10 (.ptr (p+1) 0 0 1) (.agg (encV x)) (G++[.arr 3 [[I node,I next,V]] true false, .arr 10 [zE] true false])) (G++[.arr 3 [[I node,I next,V]] true false, .arr 10 [zE] true false]) k=k .u G2 ([p+1],[p+1]):=fun k=>by
  have:stE 10 (.ptr (p+1) 0 0 1) (.agg (encV x)) (G++[.arr 3 [[I node,I next,V]] true false, .arr 10 [zE] true false])=some (.u,⟨[(p+1, .arr 10 [encV x] true false)],[],[p+1]⟩):=by
   rw [Z0G,List.getElem?_append_right (by omega),show p+1-G.length=1 by omega]
   simp [putAt,encV]
  rw [Z0b this,List.set_append_right _ _ (by omega),show p+1-G.length=1 by omega,hG2]
  rfl
 have q0:G2[p]? = some (.arr 3 [[I node,I next,V]] true false):=by rw [hG2,hpG,List.getElem?_append_right (Nat.le_refl _),Nat.sub_self];rfl
 have q1:G2[p+1]? = some (.arr 10 [encV x] true false):=by rw [hG2,hpG,List.getElem?_append_right (by omega),show G.length+1-G.length=1 by omega];rfl
 have kG:∀j o,G[j]? = some o→G2[j]? = some o:=fun j o hj=>by rw [hG2];exact Z08 hj
 have lV:∀k:Go.AM.K AV,ldK 1 false (.ptr p 0 2 1) G2 k=k V:=fun k=>by rw [Z00,q0];rcases hV with rfl | ⟨id,n,rfl⟩<;>rfl
 have lx:∀k:Go.AM.K AV,ldK 10 true (.ptr (p+1) 0 0 1) G2 k=k (.agg (encV x)):=fun k=>by rw [Z00,q1];rfl
 have hl2:G2.length=p+2:=by rw [hG2];simp [← hpG]
 obtain ⟨G3,hG3⟩:∃G3:Hp,G3=G2++[AObj.arr 10 [encV x] true false]:=⟨_,rfl⟩
 have bs:∀k:AV→Hp→Option AV,effK (bsE 10 zE 1 [(0, .agg (encV x))] G2.length) G2 k=k (.sl 10 G2.length 0 1 1 true) G3:=fun k=>by rw [hG3];simp [bsE,fillS,encV,effK,ap]
 have OV3:OwnV G3 V pend:=by
  rcases OV with O | ⟨id,rfl,hid⟩
  ·exact .inl O
  ·exact .inr ⟨id,rfl,by rw [hG3];exact Z08 (kG _ _ hid)⟩
 have hidp:∀id,V = .sl 10 id 0 pend.length pend.length false→id<p∧4≤id∨(id<4∧False):=fun id hid=>by
  refine .inl ⟨?_,hV4 id _ hid⟩
  rcases OV with ⟨-,e⟩ | ⟨id',e,hh⟩
  ·rw [e] at hid;cases hid
  ·rw [e] at hid
   injection hid with _ hid
   subst hid
   have h1:=(List.getElem?_eq_some_iff.1 hh).1
   omega
 obtain ⟨V',G4,a1,a2,a3,a4⟩:=OV3.snoc (m:=x) (p:=G2.length) (by rw [hG3,Z0O];rfl) (by omega)
 have k4':∀j o,G2[j]? = some o→(j<4∨p≤j)→G4[j]? = some o:=fun j o hj hjp=>a3 j o (by rw [hG3];exact Z08 hj) fun id=>by
  by_cases hid:V = .sl 10 id 0 pend.length pend.length false
  ·right
   rcases hidp id hid with ⟨h1,h2⟩ | ⟨-,h2⟩
   ·omega
   ·exact h2.elim
  ·exact .inl hid
 have u0:=k4' p _ q0 (.inr (Nat.le_refl _))
 have u1:=k4' (p+1) _ q1 (.inr (by omega))
 have u2:=k4' 2 _ (kG _ _ g2) (.inl (by omega))
 have u3:=k4' 3 _ (kG _ _ g3) (.inl (by omega))
 obtain ⟨G5,hG5⟩:∃G5:Hp,G5=G4.set p (.arr 3 [[I node,I next,V']] true false):=⟨_,rfl⟩
 have s1:∀k:AV→Hp→Option AV,effK (stE 1 (.ptr p 0 2 1) V' G4) G4 k=k .u G5:=fun k=>by
  have:stE 1 (.ptr p 0 2 1) V' G4=some (.u,⟨[(p, .arr 3 [[I node,I next,V']] true false)],[],[p]⟩):=by
   rw [Z0G,u0]
   obtain ⟨id,n,rfl⟩:=a4
   simp [putAt]
  rw [Z09 this,hG5]
 have v0:G5[p]? = some (.arr 3 [[I node,I next,V']] true false):=by rw [hG5];exact getSelfN u0
 have ln:∀k:Go.AM.K AV,ldK 1 false (.ptr p 0 1 1) G5 k=k (I next):=fun k=>by rw [Z00,v0];rfl
 have wn:IntKind.i64.wrap (next+1)=next+1:=wrap64 (by omega) (by omega)
 obtain ⟨G6,hG6⟩:∃G6:Hp,G6=G5.set p (.arr 3 [[I node,I (next+1),V']] true false):=⟨_,rfl⟩
 have s2:∀k:AV→Hp→Option AV,effK (stE 1 (.ptr p 0 1 1) (I (next+1)) G5) G5 k=k .u G6:=fun k=>by
  have:stE 1 (.ptr p 0 1 1) (I (next+1)) G5=some (.u,⟨[(p, .arr 3 [[I node,I (next+1),V']] true false)],[],[p]⟩):=by
   rw [Z0G,v0]
   simp [putAt]
  rw [Z09 this,hG6]
 have w0:G6[p]? = some (.arr 3 [[I node,I (next+1),V']] true false):=by rw [hG6];exact getSelfN v0
 have kk:∀j o,G4[j]? = some o→j≠p→G6[j]? = some o:=fun j o hj hn=>by rw [hG6];exact getSetN (by rw [hG5];exact getSetN hj (Ne.symm hn)) (Ne.symm hn)
 have lq:∀k:Go.AM.K AV,ldK 3 true (.ptr p 0 0 1) G6 k=k (.agg [I node,I (next+1),V']):=fun k=>by rw [Z00,w0];obtain ⟨id,n,rfl⟩:=a4;rfl
 have lx6:∀k:Go.AM.K AV,ldK 10 true (.ptr (p+1) 0 0 1) G6 k=k (.agg (encV x)):=fun k=>by rw [Z00,kk _ _ u1 (by omega)];rfl
 have z2:=kk 2 _ u2 (by omega)
 have z3:=kk 3 _ u3 (by omega)
 obtain ⟨G7,hG7⟩:∃G7:Hp,G7=G6.set 2 (.arr 3 [[I node,I (next+1),V']] true false):=⟨_,rfl⟩
 have f1:∀k:AV→Hp→Ent→Option AV,effD (stE 3 (.ptr 2 0 0 1) (.agg [I node,I (next+1),V']) G6) G6 k=k .u G7 ([2],[2]):=fun k=>by
  have:stE 3 (.ptr 2 0 0 1) (.agg [I node,I (next+1),V']) G6=some (.u,⟨[(2, .arr 3 [[I node,I (next+1),V']] true false)],[],[2]⟩):=by
   rw [Z0G,z2]
   obtain ⟨id,n,rfl⟩:=a4
   simp [putAt]
  rw [Z0b this,hG7]
 have z37:G7[3]? = some (.arr 10 [zE] true false):=by rw [hG7];exact getSetN z3 (by decide)
 obtain ⟨G8,hG8⟩:∃G8:Hp,G8=G7.set 3 (.arr 10 [encV x] true false):=⟨_,rfl⟩
 have f2:∀k:AV→Hp→Ent→Option AV,effD (stE 10 (.ptr 3 0 0 1) (.agg (encV x)) G7) G7 k=k .u G8 ([3],[3]):=fun k=>by
  have:stE 10 (.ptr 3 0 0 1) (.agg (encV x)) G7=some (.u,⟨[(3, .arr 10 [encV x] true false)],[],[3]⟩):=by
   rw [Z0G,z37]
   simp [putAt,encV]
  rw [Z0b this,hG8]
 have y2:G8[2]? = some (.arr 3 [[I node,I (next+1),V']] true false):=by rw [hG8];exact getSetN (by rw [hG7];exact getSelfN z2) (by decide)
 have y3:G8[3]? = some (.arr 10 [encV x] true false):=by rw [hG8];exact getSelfN z37
 have r2:∀k:Go.AM.K AV,ldK 3 true (.ptr 2 0 0 1) G8 k=k (.agg [I node,I (next+1),V']):=fun k=>by rw [Z00,y2];obtain ⟨id,n,rfl⟩:=a4;rfl
 have r3:∀k:Go.AM.K AV,ldK 10 true (.ptr 3 0 0 1) G8 k=k (.agg (encV x)):=fun k=>by rw [Z00,y3];rfl
 -- the answer
 have hcv:∃w bb,cvt false G8 V'=some w∧nrm (.l 10) w=SL 10 encV bb (pend++[x]):=by
  rcases a2 with ⟨e, -⟩ | ⟨id,rfl,hid⟩
  ·simp at e
  ·have n2:2≠id:=by rintro rfl;rw [u2] at hid;injection hid with hid;injection hid with q _;cases q
   have np:p≠id:=by rintro rfl;rw [u0] at hid;injection hid with hid;injection hid with q _;cases q
   have n3:3≠id:=by
    rintro rfl
    rw [u3] at hid
    injection hid with hid
    injection hid with _ q
    have hq:=congrArg List.getLast? q
    rw [List.map_append,List.map_singleton,List.getLast?_append] at hq
    simp [encV,hx] at hq
    have:=hq.2.2.1
    omega
   have hid8:G8[id]? = some (.arr 10 ((pend++[x]).map encV) true false):=by rw [hG8];exact getSetN (by rw [hG7];exact getSetN (kk _ _ hid (Ne.symm np)) n2) n3
   exact ⟨.lst 10 false ((pend++[x]).map encV),false,Z0Y (st:=false) hid8 (by simp) (by simp) (Z0S fun x=>by simp [encV]),rfl⟩
 obtain ⟨w,bb,c1,c2⟩:=hcv
 refine ⟨bb,fun h=>(ZqA (a0 := .agg [I node,I next,LP]) (a1:=I to) (a2 := .agg (encM m)) (v := .tup [.agg [I node,I (next+1),w], .agg (encV x),I 0]) hpl ?_ h).trans ?_⟩
 ·rw [hn1]
  simp -implicitDefEqProofs only [Z89,x0,x1,x2,x3,lo,Zqu,Zqv,Zqw,Z03,fC,Z07,beq_self_eq_true,Bool.true_xor,Bool.false_xor,Bool.not_true,Z01,Bool.false_eq_true,if_false,fn,Z0I,Z0a,Nat.zero_add,l0,l1,l2,lm,e1,fM,lenP,e2,Z0K,e3,decide_false,Z29,Ze4,Zqs,Z1f,rg,l0',l1',lm',bK,d1,d2,d3,d4,dj,cond_true,lV,lx,bs,a1,s1,ln,Z0L,wn,s2,lq,lx6,f1,f2]
  have dj3:disjAll [(1,2)] [(idsOf (.ptr p 0 0 1),[]),(idsOf (.ptr (p+1) 0 0 1),[]),([2],[2]),([3],[3]),([],[])]=true:=by
   have:(p+1==2)=false:=by rw [beq_eq_false_iff_ne];omega
   simp [disjAll,disj2,idsOf]
   omega
  simp -implicitDefEqProofs only [dj3,cond_true,r2,r3]
  simp only [Z22,Z18,Z17,Z21,cvt_s,c1]
  rfl
 ·show some (AV.tup [.agg [I node,I (next+1),nrm (.l 10) w], .agg (encV x),I 0],h)=_
  rw [c2,hx]
end Go.AM


namespace Go.AM
open Go.Proofs
set_option linter.unusedVariables false
set_option linter.unusedSimpArgs false
set_option linter.constructorNameAsVariable false
set_option maxRecDepth 20000
theorem ZaC {i:Inbx} (h1:isNode i.node=true) (h2:i.heard.length≤256) (h3:i.msgs.length≤64) (h4:chkH i.node none i.heard=0) (h5:errM i.msgs=0) (h6:normL i.msgs=i.msgs) (h7:i.msgs.length≤i.heard.length):chkI i=0:=by
 unfold chkI
 rw [if_neg (by rw [h1];simp),if_neg (by omega),if_neg (fun hh=>hh h4),if_neg (by rw [h5,h6];simp),if_neg (by omega)]
abbrev mX1:Msg:=msgX 1
abbrev mX2:Msg:=msgX 2
abbrev eX1:Envl:=⟨1,2,1,mX1⟩
abbrev eX2:Envl:=⟨1,2,2,mX2⟩
abbrev oX0:Outb:=⟨1,1,[]⟩
abbrev oX1:Outb:=⟨1,2,[eX1]⟩
abbrev oX2:Outb:=⟨1,3,[eX1,eX2]⟩
abbrev oX3:Outb:=⟨1,3,[eX1]⟩
abbrev oX4:Outb:=⟨1,3,[]⟩
abbrev iX0:Inbx:=⟨2,[],[]⟩
abbrev iX1:Inbx:=⟨2,[⟨1,1⟩],[mX1]⟩
abbrev iX2:Inbx:=⟨2,[⟨1,1⟩,⟨1,2⟩],[mX1,mX2]⟩
theorem nX0:normL []=[]:=Zaw .nil
theorem nX1:normL [mX1]=[mX1]:=Zaw (List.pairwise_singleton _ _)
theorem nX2:normL [mX1,mX2]=[mX1,mX2]:=Zaw (by unfold Srt;decide +kernel)
theorem cX0:chkI iX0=0:=ZaC (by decide) (by decide) (by decide) (by decide) (by decide +kernel) nX0 (by decide)
theorem cX1:chkI iX1=0:=ZaC (by decide) (by decide) (by decide) (by decide +kernel) (by decide +kernel) nX1 (by decide)
theorem cX2:chkI iX2=0:=ZaC (by decide) (by decide) (by decide) (by decide +kernel) (by decide +kernel) nX2 (by decide)
theorem tX1:takeI iX0 eX1=(iX1,⟨1,1⟩,true,0):=by
 unfold takeI
 rw [if_neg (fun hh=>hh cX0),if_neg (by decide +kernel),if_neg (by decide),if_neg (by decide +kernel),if_neg (by decide +kernel)]
 rw [show iX0.msgs.contains eX1.msg=false by decide +kernel,if_neg (by simp)]
 rw [show iX0.msgs++[eX1.msg]=[mX1] from rfl,nX1,show insH iX0.heard ⟨eX1.frm,eX1.num⟩=[⟨1,1⟩] by decide +kernel]
theorem tX2:takeI iX1 eX2=(iX2,⟨1,2⟩,true,0):=by
 unfold takeI
 rw [if_neg (fun hh=>hh cX1),if_neg (by decide +kernel),if_neg (by decide),if_neg (by decide +kernel),if_neg (by decide +kernel)]
 rw [show iX1.msgs.contains eX2.msg=false by decide +kernel,if_neg (by simp)]
 rw [show iX1.msgs++[eX2.msg]=[mX1,mX2] from rfl,nX2,show insH iX1.heard ⟨eX2.frm,eX2.num⟩=[⟨1,1⟩,⟨1,2⟩] by decide +kernel]
theorem tX3:takeI iX2 eX1=(iX2,⟨1,1⟩,false,0):=by
 unfold takeI
 rw [if_neg (fun hh=>hh cX2),if_neg (by decide +kernel),if_neg (by decide),if_pos (by decide +kernel)]
theorem hX2:heardO oX2 ⟨1,2⟩=(oX3,0):=by decide +kernel
theorem hX3:heardO oX3 ⟨1,1⟩=(oX4,0):=by decide +kernel
theorem exX1:exO oX2 iX0 3 2=(oX3,iX2,0):=by
 unfold exO
 rw [if_neg (by rw [cX0,show chkO oX2=0 by decide +kernel];simp),if_neg (by decide),show againL iX0.node oX2.pend=[eX1,eX2] by decide +kernel]
 rw [exL,if_neg (by decide),tX1,if_neg (by simp),if_neg (by decide),exL,if_neg (by decide),tX2,if_neg (by simp),if_pos (by decide),hX2,exL]
theorem exX2:exO oX3 iX2 1 1=(oX4,iX2,0):=by
 unfold exO
 rw [if_neg (by rw [cX2,show chkO oX3=0 by decide +kernel];simp),if_neg (by decide),show againL iX2.node oX3.pend=[eX1] by decide +kernel]
 rw [exL,if_neg (by decide),tX3,if_neg (by simp),if_pos (by decide),hX3,exL]
end Go.AM


namespace Go.AM
open Go.Proofs
set_option linter.unusedVariables false
set_option linter.unusedSimpArgs false
set_option linter.constructorNameAsVariable false
set_option maxRecDepth 20000
theorem Zt4 {T:Tab} {D:DTab} {N:Nat} {x0:Hp→Option AV} {xr:AV→Hp→Option AV} {a b:List Hrd} {p q:Bool} {h:Hp} (hab:a.length=b.length) (hl:a.length<1000000) (hx:x0 h=xr (B true) h) (heq:∀(x y:Hrd) (k:Go.AM.K AV),eqK Try.prog true 36 (.agg (encH x)) (.agg (encH y)) h k=k (B (!(x==y)))):∀(n i:Nat),i≤a.length→a.length<i+n→
  Z2b Try.prog T D N x0 xr n (.lst 2 p (a.map encH)) (.lst 2 q (b.map encH)) (I a.length) (I i) h=xr (B (decide (a.drop i=b.drop i))) h:=by
 intro n
 induction n with
 | zero=>intro i h1 h2;omega
 | succ n ih=>
  intro i h1 h2
  show Z6l Try.prog T D N (Z2b Try.prog T D N x0 xr n) x0 xr _ _ _ _ h=_
  rcases Nat.lt_or_ge i a.length with hi | hi
  ·have c1:((i:Int)<(a.length:Int)):=by omega
   have hw:IntKind.i64.wrap ((i:Int)+1)=((i+1:Nat):Int):=by rw [wrap64 (by omega) (by omega)];omega
   have ia:∀k:Go.AM.K AV,iaK 2 (.lst 2 p (a.map encH)) (I i) k=k (.ep (encH a[i]) 0):=fun k=>Z0W i rfl (List.getElem?_eq_getElem hi) k
   have ib:∀k:Go.AM.K AV,iaK 2 (.lst 2 q (b.map encH)) (I i) k=k (.ep (encH (b[i]'(by omega))) 0):=fun k=>Z0W i rfl (List.getElem?_eq_getElem (by omega)) k
   have ld:∀(x:Hrd) (k:Go.AM.K AV),ldK 2 true (.ep (encH x) 0) h k=k (.agg (encH x)):=fun x k=>rfl
   rw [List.drop_eq_getElem_cons hi,List.drop_eq_getElem_cons (show i<b.length by omega)]
   simp -implicitDefEqProofs only [Z6l,Z0F,List.length_map,Z06,c1,decide_true,Z01,if_true,ia,ib,ld,heq,Z0L,hw,ih (i+1) (by omega) (by omega),List.cons.injEq,Bool.decide_and]
   by_cases e:a[i]=b[i]
   ·simp [e]
   ·simp [e]
  ·have:i=a.length:=by omega
   subst this
   have c1:¬((a.length:Int)<(a.length:Int)):=by omega
   simp -implicitDefEqProofs only [Z6l,Z0F,List.length_map,Z06,c1,decide_false,Z01,Bool.false_eq_true,if_false,hx]
   rw [List.drop_eq_nil_of_le (Nat.le_refl _),List.drop_eq_nil_of_le (by omega)]
   rfl
theorem Zt5 (a b:List Hrd) (p q:Bool) (hl:a.length<1000000) (heq:∀(x y:Hrd) (h:Hp) (k:Go.AM.K AV),eqK Try.prog true 36 (.agg (encH x)) (.agg (encH y)) h k=k (B (!(x==y)))) (h:Hp):Z5K [.lst 2 p (a.map encH), .lst 2 q (b.map encH)] h=some (B (decide (a=b)),h):=by
 refine ZqM rfl ?_ h
 simp only [nrm,nrmC]
 by_cases hab:a.length=b.length
 ·have e:((a.length:Int)==(b.length:Int))=true:=by simp [hab]
  have:=Zt4 (T:=Z5J) (D:=Z5I) (N:=NN) (x0:=fun h=>Z8c Try.prog Z5J Z5I NN (fun v g=>cvt false g v) h) (xr:=fun w13_4 h=>cvt false h w13_4) (a:=a) (b:=b) (p:=p) (q:=q) (h:=[]) hab hl rfl (fun x y k=>heq x y [] k) NN 0 (by omega) (by have:=NN_ge;omega)
  simp only [List.drop_zero] at this
  simp -implicitDefEqProofs only [Z4U,Z0F,List.length_map,Z07,e,Bool.true_xor,Bool.not_true,Z01,Bool.false_eq_true,if_false]
  exact this
 ·have e:((a.length:Int)==(b.length:Int))=false:=by simp;omega
  have hne:a≠b:=fun h=>hab (by rw [h])
  simp [Z4U,e,hne]
attribute [local congr] Z0c Z0d Z0e Z0f Z0g Z0h Z0i Z0j Z0k Z0l Z0m Z0n Z0o Z0p Z0q Z0r Z0s Z0t Z0u Z0v Z0w Z0x Z0y Z0z Z0A Z0B Z0C
abbrev bxO (b:Bool) (o:Outb):AObj := .arr 3 [cellsO b o] true false
abbrev bxI (b1 b2:Bool) (i:Inbx):AObj := .arr 3 [cellsI b1 b2 i] true false
abbrev bxE (e:Envl):AObj := .arr 10 [encV e] true false
theorem stO {β:Type} {h:Hp} {p:Nat} {b b':Bool} {o o':Outb} (g:h[p]? = some (bxO b o)) (k:AV→Hp→Option β):effK (stE 3 (.ptr p 0 0 1) (ob b' o') h) h k=k .u (h.set p (bxO b' o')):=by
 have:stE 3 (.ptr p 0 0 1) (ob b' o') h=some (.u,⟨[(p,bxO b' o')],[],[p]⟩):=by rw [Z0G,g];simp [putAt]
 exact Z09 this k
theorem stI3 {β:Type} {h:Hp} {p:Nat} {b1 b2 b1' b2':Bool} {i i':Inbx} (g:h[p]? = some (bxI b1 b2 i)) (k:AV→Hp→Option β):effK (stE 3 (.ptr p 0 0 1) (ib b1' b2' i') h) h k=k .u (h.set p (bxI b1' b2' i')):=by
 have:stE 3 (.ptr p 0 0 1) (ib b1' b2' i') h=some (.u,⟨[(p,bxI b1' b2' i')],[],[p]⟩):=by rw [Z0G,g];simp [putAt]
 exact Z09 this k
theorem ldO {β:Type} {h:Hp} {p:Nat} {b:Bool} {o:Outb} (g:h[p]? = some (bxO b o)) (k:Go.AM.K β):ldK 3 true (.ptr p 0 0 1) h k=k (ob b o):=by rw [Z00,g];rfl
theorem ldI3 {β:Type} {h:Hp} {p:Nat} {b1 b2:Bool} {i:Inbx} (g:h[p]? = some (bxI b1 b2 i)) (k:Go.AM.K β):ldK 3 true (.ptr p 0 0 1) h k=k (ib b1 b2 i):=by rw [Z00,g];rfl
set_option maxHeartbeats 4000000 in
theorem Zt6 (h:Hp):Z7m [] h=some (B true,h):=by
 refine Zr0 rfl ?_ h
 have n1:∀h,Z5G [I 1] h=some (.tup [ob true oX0,I 0],h):=fun h=>(Zsz 1 h).trans rfl
 have n2:∀h,Z56 [I 2] h=some (.tup [ib true true iX0,I 0],h):=fun h=>(Zt2 2 h).trans rfl
 have gm1:∀h base,Z7l [I 1] h base=some (.agg (encM mX1),EF []):=fun h base=>(Z1w (ZgG 1 h) base).trans (by simp [idss,ids])
 have gm2:∀h base,Z7l [I 2] h base=some (.agg (encM mX2),EF []):=fun h base=>(Z1w (ZgG 2 h) base).trans (by simp [idss,ids])
 obtain ⟨b1,f1⟩:=ZgH true oX0 2 mX1 (by decide +kernel) (by decide) (by decide) (by decide +kernel) (by decide) (by decide)
 replace f1:∀h,Z1T [ob true oX0,I 2, .agg (encM mX1)] h=some (.tup [ob b1 oX1, .agg (encV eX1),I 0],h):=f1
 obtain ⟨b2,f2⟩:=ZgH b1 oX1 2 mX2 (by decide +kernel) (by decide) (by decide) (by decide +kernel) (by decide) (by decide)
 replace f2:∀h,Z1T [ob b1 oX1,I 2, .agg (encM mX2)] h=some (.tup [ob b2 oX2, .agg (encV eX2),I 0],h):=f2
 have cl:∀(b:Bool) (o:Outb) (m:Msg) (v:AV),(∀h,Z1T [ob b o,I 2, .agg (encM m)] h=some (v,h))→∀h base,Za7 [ob b o,I 2, .agg (encM m)] h base=some (v,EF []):=fun b o m v hv h base=>by
  exact (Z1w (hv h) base).trans (by simp [idss,ids,SL,encM])
 have gs1:=cl _ _ _ _ f1
 have gs2:=cl _ _ _ _ f2
 have tp0:∀(a b c:AV) (k:Go.AM.K AV),exK (.tup [a,b,c]) 0 k=k a:=fun a b c k=>rfl
 have tp1:∀(a b c:AV) (k:Go.AM.K AV),exK (.tup [a,b,c]) 1 k=k b:=fun a b c k=>rfl
 have tp2:∀(a b c:AV) (k:Go.AM.K AV),exK (.tup [a,b,c]) 2 k=k c:=fun a b c k=>rfl
 have tq0:∀(a b:AV) (k:Go.AM.K AV),exK (.tup [a,b]) 0 k=k a:=fun a b k=>rfl
 have tq1:∀(a b:AV) (k:Go.AM.K AV),exK (.tup [a,b]) 1 k=k b:=fun a b k=>rfl
 -- the heaps
 have x0:∀k:AV→Hp→Option AV,effK (boxE 3 (.agg zO) ([]:Hp).length) [] k=k (.ptr 0 0 0 1) [.arr 3 [zO] true false]:=fun k=>rfl
 have s0:∀k:AV→Hp→Option AV,effK (stE 3 (.ptr 0 0 0 1) (ob true oX0) [.arr 3 [zO] true false]) [.arr 3 [zO] true false] k=k .u [bxO true oX0]:=fun k=>Z09 (v := .u) (id:=0) (o:=bxO true oX0) (ft:=[0]) rfl k
 have l0:∀k:Go.AM.K AV,ldK 3 true (.ptr 0 0 0 1) [bxO true oX0] k=k (ob true oX0):=fun k=>ldO (p:=0) rfl k
 have d1:∀k:AV→Hp→Ent→Option AV,effD (boxE 10 (.agg zE) ([bxO true oX0]:Hp).length) [bxO true oX0] k=k (.ptr 1 0 0 1) [bxO true oX0, .arr 10 [zE] true false] ([],[1]):=fun k=>rfl
 have d2:∀k:AV→Hp→Ent→Option AV,effD (stE 3 (.ptr 0 0 0 1) (ob b1 oX1) [bxO true oX0, .arr 10 [zE] true false]) [bxO true oX0, .arr 10 [zE] true false] k=k .u [bxO b1 oX1, .arr 10 [zE] true false] ([0],[0]):=fun k=>Z0b (v := .u) (id:=0) (o:=bxO b1 oX1) (ft:=[0]) rfl k
 have d3:∀k:AV→Hp→Ent→Option AV,effD (stE 10 (.ptr 1 0 0 1) (.agg (encV eX1)) [bxO b1 oX1, .arr 10 [zE] true false]) [bxO b1 oX1, .arr 10 [zE] true false] k=k .u [bxO b1 oX1,bxE eX1] ([1],[1]):=fun k=>Z0b (v := .u) (id:=1) (o:=bxE eX1) (ft:=[1]) rfl k
 have l1:∀k:Go.AM.K AV,ldK 3 true (.ptr 0 0 0 1) [bxO b1 oX1,bxE eX1] k=k (ob b1 oX1):=fun k=>ldO (p:=0) rfl k
 have d4:∀k:AV→Hp→Ent→Option AV,effD (boxE 10 (.agg zE) ([bxO b1 oX1,bxE eX1]:Hp).length) [bxO b1 oX1,bxE eX1] k=k (.ptr 2 0 0 1) [bxO b1 oX1,bxE eX1, .arr 10 [zE] true false] ([],[2]):=fun k=>rfl
 have d5:∀k:AV→Hp→Ent→Option AV,effD (stE 3 (.ptr 0 0 0 1) (ob b2 oX2) [bxO b1 oX1,bxE eX1, .arr 10 [zE] true false]) [bxO b1 oX1,bxE eX1, .arr 10 [zE] true false] k=k .u [bxO b2 oX2,bxE eX1, .arr 10 [zE] true false] ([0],[0]):=fun k=>Z0b (v := .u) (id:=0) (o:=bxO b2 oX2) (ft:=[0]) rfl k
 have d6:∀k:AV→Hp→Ent→Option AV,effD (stE 10 (.ptr 2 0 0 1) (.agg (encV eX2)) [bxO b2 oX2,bxE eX1, .arr 10 [zE] true false]) [bxO b2 oX2,bxE eX1, .arr 10 [zE] true false] k=k .u [bxO b2 oX2,bxE eX1,bxE eX2] ([2],[2]):=fun k=>Z0b (v := .u) (id:=2) (o:=bxE eX2) (ft:=[2]) rfl k
 have dj1:disjAll [(0,1),(0,7),(1,7),(2,7)] [(idsOf (.ptr 0 0 0 1),[]),([],[]),([],[]),([],[]),([],[]),([],[]),([],[]),([],[1]),([0],[0]),([1],[1]),([],[])]=true:=rfl
 have dj2:disjAll [(0,1),(0,7),(1,7),(2,7)] [(idsOf (.ptr 0 0 0 1),[]),([],[]),([],[]),([],[]),([],[]),([],[]),([],[]),([],[2]),([0],[0]),([2],[2]),([],[])]=true:=rfl
 obtain ⟨H3,hH3⟩:∃H3:Hp,H3=[bxO b2 oX2,bxE eX1,bxE eX2]:=⟨_,rfl⟩
 rw [← hH3] at d6
 have x3:∀k:AV→Hp→Option AV,effK (boxE 3 (.agg zI) H3.length) H3 k=k (.ptr 3 0 0 1) (H3++[.arr 3 [zI] true false]):=fun k=>by rw [hH3];rfl
 obtain ⟨H4,hH4⟩:∃H4:Hp,H4=H3++[bxI true true iX0]:=⟨_,rfl⟩
 have s3:∀k:AV→Hp→Option AV,effK (stE 3 (.ptr 3 0 0 1) (ib true true iX0) (H3++[.arr 3 [zI] true false])) (H3++[.arr 3 [zI] true false]) k=k .u H4:=fun k=>by
  rw [hH4,hH3];exact Z09 (v := .u) (id:=3) (o:=bxI true true iX0) (ft:=[3]) rfl k
 have w0:IntKind.i64.wrap (0+0)=0:=by kernel_rfl
 have l40:∀k:Go.AM.K AV,ldK 3 true (.ptr 0 0 0 1) H4 k=k (ob b2 oX2):=fun k=>ldO (p:=0) (by rw [hH4,hH3];rfl) k
 have l43:∀k:Go.AM.K AV,ldK 3 true (.ptr 3 0 0 1) H4 k=k (ib true true iX0):=fun k=>ldI3 (p:=3) (by rw [hH4,hH3];rfl) k
 obtain ⟨b3,c1,c2,fX⟩:=Zcc b2 oX2 true true iX0 3 2 (by decide) (by decide) (by decide) (by decide) (by decide) H4
 rw [exX1] at fX
 replace fX:Z1C [ob b2 oX2,ib true true iX0, .s (.int .u64 3), .s (.int .u64 2)] H4=some (.tup [ob b3 oX3,ib c1 c2 iX2,I 0],H4):=fX
 have x4:∀k:AV→Hp→Option AV,effK (boxE 3 (.agg zO) H4.length) H4 k=k (.ptr 4 0 0 1) (H4++[.arr 3 [zO] true false]):=fun k=>by rw [hH4,hH3];rfl
 have x5:∀k:AV→Hp→Option AV,effK (boxE 3 (.agg zI) (H4++[AObj.arr 3 [zO] true false]).length) (H4++[.arr 3 [zO] true false]) k=k (.ptr 5 0 0 1) (H4++[.arr 3 [zO] true false, .arr 3 [zI] true false]):=fun k=>by rw [hH4,hH3];rfl
 have s4:∀k:AV→Hp→Option AV,effK (stE 3 (.ptr 4 0 0 1) (ob b3 oX3) (H4++[.arr 3 [zO] true false, .arr 3 [zI] true false])) (H4++[.arr 3 [zO] true false, .arr 3 [zI] true false]) k=k .u (H4++[bxO b3 oX3, .arr 3 [zI] true false]):=fun k=>by
  rw [hH4,hH3];exact Z09 (v := .u) (id:=4) (o:=bxO b3 oX3) (ft:=[4]) rfl k
 obtain ⟨H6,hH6⟩:∃H6:Hp,H6=H4++[bxO b3 oX3,bxI c1 c2 iX2]:=⟨_,rfl⟩
 have s5:∀k:AV→Hp→Option AV,effK (stE 3 (.ptr 5 0 0 1) (ib c1 c2 iX2) (H4++[bxO b3 oX3, .arr 3 [zI] true false])) (H4++[bxO b3 oX3, .arr 3 [zI] true false]) k=k .u H6:=fun k=>by
  rw [hH6,hH4,hH3];exact Z09 (v := .u) (id:=5) (o:=bxI c1 c2 iX2) (ft:=[5]) rfl k
 have l64:∀k:Go.AM.K AV,ldK 3 true (.ptr 4 0 0 1) H6 k=k (ob b3 oX3):=fun k=>ldO (p:=4) (by rw [hH6,hH4,hH3];rfl) k
 have l65:∀k:Go.AM.K AV,ldK 3 true (.ptr 5 0 0 1) H6 k=k (ib c1 c2 iX2):=fun k=>ldI3 (p:=5) (by rw [hH6,hH4,hH3];rfl) k
 obtain ⟨b4,c3,c4,fY⟩:=Zcc b3 oX3 c1 c2 iX2 1 1 (by decide) (by decide) (by decide) (by decide) (by decide) H6
 rw [exX2] at fY
 replace fY:Z1C [ob b3 oX3,ib c1 c2 iX2, .s (.int .u64 1), .s (.int .u64 1)] H6=some (.tup [ob b4 oX4,ib c3 c4 iX2,I 0],H6):=fY
 have x6:∀k:AV→Hp→Option AV,effK (boxE 3 (.agg zO) H6.length) H6 k=k (.ptr 6 0 0 1) (H6++[.arr 3 [zO] true false]):=fun k=>by rw [hH6,hH4,hH3];rfl
 have x7:∀k:AV→Hp→Option AV,effK (boxE 3 (.agg zI) (H6++[AObj.arr 3 [zO] true false]).length) (H6++[.arr 3 [zO] true false]) k=k (.ptr 7 0 0 1) (H6++[.arr 3 [zO] true false, .arr 3 [zI] true false]):=fun k=>by rw [hH6,hH4,hH3];rfl
 have s6:∀k:AV→Hp→Option AV,effK (stE 3 (.ptr 6 0 0 1) (ob b4 oX4) (H6++[.arr 3 [zO] true false, .arr 3 [zI] true false])) (H6++[.arr 3 [zO] true false, .arr 3 [zI] true false]) k=k .u (H6++[bxO b4 oX4, .arr 3 [zI] true false]):=fun k=>by
  rw [hH6,hH4,hH3];exact Z09 (v := .u) (id:=6) (o:=bxO b4 oX4) (ft:=[6]) rfl k
 obtain ⟨H8,hH8⟩:∃H8:Hp,H8=H6++[bxO b4 oX4,bxI c3 c4 iX2]:=⟨_,rfl⟩
 have s7:∀k:AV→Hp→Option AV,effK (stE 3 (.ptr 7 0 0 1) (ib c3 c4 iX2) (H6++[bxO b4 oX4, .arr 3 [zI] true false])) (H6++[bxO b4 oX4, .arr 3 [zI] true false]) k=k .u H8:=fun k=>by
  rw [hH8,hH6,hH4,hH3];exact Z09 (v := .u) (id:=7) (o:=bxI c3 c4 iX2) (ft:=[7]) rfl k
 have e4:H8[4]? = some (bxO b3 oX3):=by rw [hH8,hH6,hH4,hH3];rfl
 have e5:H8[5]? = some (bxI c1 c2 iX2):=by rw [hH8,hH6,hH4,hH3];rfl
 have e6:H8[6]? = some (bxO b4 oX4):=by rw [hH8,hH6,hH4,hH3];rfl
 have e7:H8[7]? = some (bxI c3 c4 iX2):=by rw [hH8,hH6,hH4,hH3];rfl
 have q42:∀k:Go.AM.K AV,ldK 1 false (.ptr 4 0 2 1) H8 k=k (SL 10 encV b3 [eX1]):=fun k=>by rw [Z00,e4];rfl
 have q52:∀k:Go.AM.K AV,ldK 1 false (.ptr 5 0 2 1) H8 k=k (SL 7 encM c2 [mX1,mX2]):=fun k=>by rw [Z00,e5];rfl
 have q62:∀k:Go.AM.K AV,ldK 1 false (.ptr 6 0 2 1) H8 k=k (SL 10 encV b4 []):=fun k=>by rw [Z00,e6];rfl
 have q51:∀k:Go.AM.K AV,ldK 1 false (.ptr 5 0 1 1) H8 k=k (SL 2 encH c1 [⟨1,1⟩,⟨1,2⟩]):=fun k=>by rw [Z00,e5];rfl
 have q71:∀k:Go.AM.K AV,ldK 1 false (.ptr 7 0 1 1) H8 k=k (SL 2 encH c3 [⟨1,1⟩,⟨1,2⟩]):=fun k=>by rw [Z00,e7];rfl
 have q5:∀k:Go.AM.K AV,ldK 3 true (.ptr 5 0 0 1) H8 k=k (ib c1 c2 iX2):=fun k=>ldI3 e5 k
 have q7:∀k:Go.AM.K AV,ldK 3 true (.ptr 7 0 0 1) H8 k=k (ib c3 c4 iX2):=fun k=>ldI3 e7 k
 have ln1:∀k:Go.AM.K AV,lenK (SL 10 encV b3 [eX1]) k=k (I 1):=fun k=>rfl
 have ln2:∀k:Go.AM.K AV,lenK (SL 7 encM c2 [mX1,mX2]) k=k (I 2):=fun k=>rfl
 have ln3:∀k:Go.AM.K AV,lenK (SL 10 encV b4 []) k=k (I 0):=fun k=>rfl
 have fA:=Zt3 c1 c2 c3 c4 iX2 iX2 (by decide) (by decide) (by decide) (by decide) H8
 rw [show agreesI iX2 iX2=true by unfold agreesI;rw [cX2];simp] at fA
 have fE:=Zt5 [⟨1,1⟩,⟨1,2⟩] [⟨1,1⟩,⟨1,2⟩] (c1&&false) (c3&&false) (by decide) (fun x y h k=>by rw [ZgD,Bool.true_xor]) H8
 replace fE:Z5K [SL 2 encH c1 [⟨1,1⟩,⟨1,2⟩],SL 2 encH c3 [⟨1,1⟩,⟨1,2⟩]] H8=some (B true,H8):=fE
 have fC:=Z7v c3 c4 iX2 (by decide) (by decide) H8
 rw [cX2] at fC
 simp -implicitDefEqProofs only [Z7V,ZqV,Z03,n1,tq0,tq1,x0,s0,l0,ZqP,ZqO,Z1f,gm1,Z4c,gs1,tp0,tp1,tp2,d1,d2,d3,dj1,cond_true,l1,gm2,gs2,d4,d5,d6,dj2,ZqR,n2,x3,s3,Z0L,w0,Z07,beq_self_eq_true,Bool.true_xor,Bool.not_true,Z01,Bool.false_eq_true,if_false,l40,l43,ZqU,fX,x4,x5,s4,s5,l64,l65,fY,x6,x7,s6,s7,Z0a,Nat.zero_add,q42,ln1,Bool.false_xor,Z1x,q52,ln2,q62,ln3,q5,q7,ZqT,fA,q51,q71,ZqW,fE,ZqS,fC]
 rfl
end Go.AM


namespace Go.AM
open Go.Proofs
set_option linter.unusedVariables false
set_option linter.unusedSimpArgs false
set_option linter.constructorNameAsVariable false
set_option maxRecDepth 20000
attribute [local congr] Z0c Z0d Z0e Z0f Z0g Z0h Z0i Z0j Z0k Z0l Z0m Z0n Z0o Z0p Z0q Z0r Z0s Z0t Z0u Z0v Z0w Z0x Z0y Z0z Z0A Z0B Z0C
end Go.AM


namespace Go.AM
open Go.Proofs
set_option linter.unusedVariables false
set_option linter.unusedSimpArgs false
set_option linter.constructorNameAsVariable false
set_option maxRecDepth 20000
attribute [local congr] Z0c Z0d Z0e Z0f Z0g Z0h Z0i Z0j Z0k Z0l Z0m Z0n Z0o Z0p Z0q Z0r Z0s Z0t Z0u Z0v Z0w Z0x Z0y Z0z Z0A Z0B Z0C
structure Fol where
 d:Docu
 en:Bool
 an:Int
 cnt:List ((Int × Int) × Int)
def cntP (c:List ((Int × Int) × Int)) (p:Int × Int):Int:=((fndT c p).map (·.2)).getD 0
def bumpP (c:List ((Int × Int) × Int)) (p:Int × Int):List ((Int × Int) × Int):=updT c p (IntKind.i64.wrap (cntP c p+1))
def stepF (mv:Int) (s:Fol) (m:Msg):Fol:=
 if m.mv≠mv then s
 else if m.kind=1 then { s with d:={ s.d with stage:=1,frm:=m.frm,to:=m.to,sent:=m.alc },cnt:=bumpP s.cnt (m.kind,m.num) }
 else if m.kind=2 then { s with d:={ s.d with to:=m.to,chg:=IntKind.i64.wrap (s.d.chg+1) },cnt:=bumpP s.cnt (m.kind,m.num) }
 else if m.kind=3 then { s with d:={ s.d with got:=m.alc },an:=2,cnt:=bumpP s.cnt (m.kind,m.num) }
 else if m.kind=4 then { s with an:=3,cnt:=bumpP s.cnt (3,m.num) }
 else if m.kind=5 then { s with en:=true }
 else { s with cnt:=bumpP s.cnt (m.kind,m.num) }
def begF (mv:Int):Fol:=⟨⟨mv,0,0,0,0,0,0⟩,false,0,[]⟩
def folF (mv:Int) (l:List Msg):Fol:=l.foldl (stepF mv) (begF mv)
def noneD (mv:Int):Docu:=⟨mv,0,0,0,0,0,0⟩
abbrev fI:Int→AV:=fun n => .s (.int .i64 n)
section
variable {β:Type}
theorem get3 {o0 o1 o2 x:AObj} {g t:Hp}:(o0::o1::o2::(g++x::t))[g.length+3]? = some x:=by
 simp [List.getElem?_append_right]
theorem get4 {o0 o1 o2 x y:AObj} {g t:Hp}:(o0::o1::o2::(g++x::y::t))[g.length+4]? = some y:=by
 simp [List.getElem?_append_right]
variable {o0 o1 o2:AObj} {g t:Hp} {m:Msg}
theorem lq (j:Nat) (k:Go.AM.K β) {x:AV} (hx:(encM m)[j]? = some x):ldK 1 false (.ptr (g.length+3) 0 j 1) (o0::o1::o2::(g ++ .arr 7 [encM m] true false::t)) k=k x:=by
 rw [Z00,get3]
 simp [hx]
theorem lq4 (k:Go.AM.K β):ldK 1 false (.ptr (g.length+3) 0 4 1) (o0::o1::o2::(g ++ .arr 7 [encM m] true false::t)) k=k (I m.frm):=lq 4 k rfl
theorem lw2 {x:AObj} {a b:AV} (k:Go.AM.K β):ldK 2 true (.ptr (g.length+4) 0 0 1) (o0::o1::o2::(g++[x, .arr 2 [[a,b]] true false])) k=k (.agg [a,b]):=by
 rw [Z00,get4]
 simp
end
end Go.AM


namespace Go.AM
open Go.Proofs
set_option linter.unusedVariables false
set_option linter.unusedSimpArgs false
set_option linter.constructorNameAsVariable false
set_option maxRecDepth 20000
def ofk (mv k:Int) (l:List Msg):List Msg:=l.filter fun m=>m.mv==mv&&m.kind==k
theorem Z02 (mv k:Int) (l:List Msg) (m:Msg):ofk mv k (l++[m])=if m.mv=mv∧m.kind=k then ofk mv k l++[m] else ofk mv k l:=by
 unfold ofk
 rw [List.filter_append]
 by_cases h:m.mv=mv∧m.kind=k
 ·simp [h]
 ·rw [if_neg h]
  have:(m.mv==mv&&m.kind==k)=false:=by
   rw [Bool.eq_false_iff];intro q;simp at q;exact h q
  simp [this]
theorem ZaD {mv k:Int} {l:List Msg} {m:Msg}:m ∈ ofk mv k l↔m ∈ l∧m.mv=mv∧m.kind=k:=by unfold ofk;simp
theorem ZgI {m:Msg} (h:checkM m=0):1≤m.kind∧m.kind≤5∧1≤m.mv∧m.mv≤1073741824∧formM m=true:=by
 unfold checkM at h
 split at h
 ·simp at h
 ·rename_i hr
  split at h
  ·rename_i hf
   simp [rangeM] at hr
   exact ⟨by omega,by omega,by omega,by omega,hf⟩
  ·simp at h
theorem ZaE {a b:Msg} (h:ltM a b=true):a.mv≤b.mv∧(a.mv=b.mv→a.kind≤b.kind∧(a.kind=b.kind→a.num≤b.num)):=by
 unfold ltM cellsM at h
 simp only [ZbB,Bool.or_eq_true,Bool.and_eq_true,decide_eq_true_eq] at h
 omega
def partM (m:Msg):Option (Int × Int):=if m.kind=5 then none else if m.kind=4 then some (3,m.num) else some (m.kind,m.num)
abbrev keysD {α:Type} (c:List ((Int × Int) × α)):Prop:=c.Pairwise fun a b=>a.1≠b.1
theorem ZgJ {α:Type}:∀ {c:List ((Int × Int) × α)} {p:Int × Int} {x:α} {e:(Int × Int) × α},e ∈ updT c p x→e=(p,x)∨e ∈ c
 | [],p,x,e,h=>by simp [updT] at h;exact .inl h
 | (q,y)::c,p,x,e,h=>by
  simp only [updT] at h
  split at h
  ·rcases List.mem_cons.1 h with h | h
   ·exact .inl h
   ·exact .inr (by simp [h])
  ·rcases List.mem_cons.1 h with h | h
   ·exact .inr (by simp [h])
   ·rcases ZgJ h with h | h
    ·exact .inl h
    ·exact .inr (by simp [h])
theorem ZgK {α:Type}:∀ {c:List ((Int × Int) × α)} (p:Int × Int) (x:α),keysD c→keysD (updT c p x)
 | [],p,x,h=>by simp [updT]
 | (q,y)::c,p,x,h=>by
  rw [keysD,List.pairwise_cons] at h
  simp only [updT]
  split
  ·rename_i e
   subst e
   rw [keysD,List.pairwise_cons]
   exact h
  ·rename_i e
   rw [keysD,List.pairwise_cons]
   refine ⟨fun z hz => ?_,ZgK p x h.2⟩
   rcases ZgJ hz with rfl | hz
   ·exact fun q=>e q.symm
   ·exact h.1 z hz
theorem Zt7 (c:List ((Int × Int) × Int)) (p q:Int × Int):cntP (bumpP c p) q=if q=p then IntKind.i64.wrap (cntP c p+1) else cntP c q:=by
 unfold cntP bumpP
 rw [Zgc]
 split<;>rfl
structure InF (mv:Int) (l:List Msg) (s:Fol):Prop where
 mve:s.d.mv=mv
 stage:s.d.stage=if ofk mv 1 l=[] then 0 else 1
 frm:s.d.frm=(((ofk mv 1 l).getLast?).map (·.frm)).getD 0
 sent:s.d.sent=(((ofk mv 1 l).getLast?).map (·.alc)).getD 0
 to:s.d.to=match (ofk mv 2 l).getLast? with | some c=>c.to | none=>(((ofk mv 1 l).getLast?).map (·.to)).getD 0
 got:s.d.got=(((ofk mv 3 l).getLast?).map (·.alc)).getD 0
 chg:s.d.chg=(ofk mv 2 l).length
 en:s.en = !(ofk mv 5 l).isEmpty
 an:s.an=if ofk mv 4 l≠[] then 3 else if ofk mv 3 l≠[] then 2 else 0
 cnt:∀p,cntP s.cnt p=(l.countP fun m=>m.mv==mv&&partM m==some p:Nat)
 keys:keysD s.cnt
theorem ZaF (mv k:Int) (l:List Msg):(ofk mv k l).length≤l.length:=List.length_filter_le _ _
theorem InF.step {mv:Int} {l:List Msg} {s:Fol} {m:Msg} (H:InF mv l s) (hs:Srt (l++[m])) (hm:checkM m=0) (hl:l.length<1000000):InF mv (l++[m]) (stepF mv s m):=by
 obtain ⟨k0,k5, -⟩:=ZgI hm
 have hlt:∀x ∈ l,ltM x m=true:=fun x hx=>by
  rw [Srt,List.pairwise_append] at hs
  exact hs.2.2 x hx m (by simp)
 by_cases hmv:m.mv=mv
 ·have noK:∀k,m.kind<k→ofk mv k l=[]:=fun k hk=>by
   rw [List.eq_nil_iff_forall_not_mem]
   intro x hx
   obtain ⟨h1,h2,h3⟩:=ZaD.1 hx
   have:=ZaE (hlt x h1)
   have h4:=this.2 (by omega)
   omega
  have wr:IntKind.i64.wrap (((ofk mv 2 l).length:Int)+1)=(((ofk mv 2 l).length+1:Nat):Int):=by
   have:=ZaF mv 2 l
   rw [wrap64 (by omega) (by omega)];rfl
  have cn:∀(p q:Int × Int) (b:Bool),((partM m==some q)=b)→cntP s.cnt q=(l.countP fun m=>m.mv==mv&&partM m==some q:Nat)→(((l++[m]).countP fun m=>m.mv==mv&&partM m==some q:Nat):Int)=cntP s.cnt q+if b=true then 1 else 0:=by
   intro p q b hb hc
   rw [List.countP_append,hc]
   simp [hmv,hb]
   cases b<;>rfl
  have wc:∀q,IntKind.i64.wrap (cntP s.cnt q+1)=cntP s.cnt q+1:=fun q=>by
   have h1:=H.cnt q
   have h2:=List.countP_le_length (p:=fun m:Msg=>m.mv==mv&&partM m==some q) (l:=l)
   rw [wrap64 (by omega) (by omega)]
  have cb:∀p,partM m=some p→∀q,cntP (bumpP s.cnt p) q=((l++[m]).countP fun m=>m.mv==mv&&partM m==some q:Nat):=fun p hp q=>by
   rw [Zt7]
   by_cases e:q=p
   ·subst e
    rw [if_pos rfl,wc,cn q q true (by simp [hp]) (H.cnt q)];simp
   ·rw [if_neg e,cn p q false (by simp [hp];exact fun h=>e h.symm) (H.cnt q)];simp
  have kb:∀p,keysD (bumpP s.cnt p):=fun p=>ZgK p _ H.keys
  have hk:m.kind=1∨m.kind=2∨m.kind=3∨m.kind=4∨m.kind=5:=by omega
  rcases hk with k | k | k | k | k
  ·have e2:=noK 2 (by omega)
   have st:stepF mv s m={ s with d:={ s.d with stage:=1,frm:=m.frm,to:=m.to,sent:=m.alc },cnt:=bumpP s.cnt (m.kind,m.num) }:=by simp [stepF,hmv,k]
   rw [st]
   exact ⟨H.mve,by simp [Z02,hmv,k],by simp [Z02,hmv,k],by simp [Z02,hmv,k],by simp [Z02,hmv,k,e2],by simp [Z02,hmv,k,H.got],by simp [Z02,hmv,k,H.chg],by simp [Z02,hmv,k,H.en],by simp [Z02,hmv,k,H.an],cb _ (by simp [partM,k]),kb _⟩
  ·have st:stepF mv s m={ s with d:={ s.d with to:=m.to,chg:=IntKind.i64.wrap (s.d.chg+1) },cnt:=bumpP s.cnt (m.kind,m.num) }:=by simp [stepF,hmv,k]
   rw [st]
   exact ⟨H.mve,by simp [Z02,hmv,k,H.stage],by simp [Z02,hmv,k,H.frm],by simp [Z02,hmv,k,H.sent],by simp [Z02,hmv,k],by simp [Z02,hmv,k,H.got],by simp [Z02,hmv,k,H.chg,wr],by simp [Z02,hmv,k,H.en],by simp [Z02,hmv,k,H.an],cb _ (by simp [partM,k]),kb _⟩
  ·have e4:=noK 4 (by omega)
   have st:stepF mv s m={ s with d:={ s.d with got:=m.alc },an:=2,cnt:=bumpP s.cnt (m.kind,m.num) }:=by simp [stepF,hmv,k]
   rw [st]
   exact ⟨H.mve,by simp [Z02,hmv,k,H.stage],by simp [Z02,hmv,k,H.frm],by simp [Z02,hmv,k,H.sent],by simp [Z02,hmv,k,H.to],by simp [Z02,hmv,k],by simp [Z02,hmv,k,H.chg],by simp [Z02,hmv,k,H.en],by simp [Z02,hmv,k,e4],cb _ (by simp [partM,k]),kb _⟩
  ·have st:stepF mv s m={ s with an:=3,cnt:=bumpP s.cnt (3,m.num) }:=by simp [stepF,hmv,k]
   rw [st]
   exact ⟨H.mve,by simp [Z02,hmv,k,H.stage],by simp [Z02,hmv,k,H.frm],by simp [Z02,hmv,k,H.sent],by simp [Z02,hmv,k,H.to],by simp [Z02,hmv,k,H.got],by simp [Z02,hmv,k,H.chg],by simp [Z02,hmv,k,H.en],by simp [Z02,hmv,k],cb _ (by simp [partM,k]),kb _⟩
  ·have st:stepF mv s m={ s with en:=true }:=by simp [stepF,hmv,k]
   rw [st]
   exact ⟨H.mve,by simp [Z02,hmv,k,H.stage],by simp [Z02,hmv,k,H.frm],by simp [Z02,hmv,k,H.sent],by simp [Z02,hmv,k,H.to],by simp [Z02,hmv,k,H.got],by simp [Z02,hmv,k,H.chg],by simp [Z02,hmv,k],by simp [Z02,hmv,k,H.an],fun q=>by rw [cn q q false (by simp [partM,k]) (H.cnt q)];simp,H.keys⟩
 ·have st:stepF mv s m=s:=by simp [stepF,hmv]
  have ek:∀k,ofk mv k (l++[m])=ofk mv k l:=fun k=>by rw [Z02,if_neg (by simp [hmv])]
  rw [st]
  exact ⟨H.mve,by rw [ek];exact H.stage,by rw [ek];exact H.frm,by rw [ek];exact H.sent,by rw [ek,ek];exact H.to,by rw [ek];exact H.got,by rw [ek];exact H.chg,by rw [ek];exact H.en,by rw [ek,ek];exact H.an,fun p=>by rw [List.countP_append,H.cnt p];simp [hmv],H.keys⟩
theorem InF.beg (mv:Int):InF mv [] (begF mv):=⟨rfl,rfl,rfl,rfl,rfl,rfl,rfl,rfl,rfl,fun p=>rfl, .nil⟩
theorem InF.all {mv:Int} {l:List Msg} (hs:Srt l) (hv:∀m ∈ l,checkM m=0) (hl:l.length<1000000):∀i,i≤l.length→InF mv (l.take i) (folF mv (l.take i))
 | 0,_=>by rw [List.take_zero];exact InF.beg mv
 | i+1,hi=>by
  have ih:=InF.all (mv:=mv) hs hv hl i (by omega)
  have hx:l[i]? = some l[i]:=List.getElem?_eq_getElem (by omega)
  have ht:=Zau hx
  have:folF mv (l.take (i+1))=stepF mv (folF mv (l.take i)) l[i]:=by
   unfold folF;rw [ht,List.foldl_append];rfl
  rw [this,ht]
  refine ih.step ?_ (hv _ (List.getElem_mem _)) (by simp;omega)
  rw [← ht]
  exact hs.sublist (List.take_sublist _ _)
end Go.AM


namespace Go.AM
open Go.Proofs
set_option linter.unusedVariables false
set_option linter.unusedSimpArgs false
set_option linter.constructorNameAsVariable false
set_option maxRecDepth 20000
attribute [local congr] Z0c Z0d Z0e Z0f Z0g Z0h Z0i Z0j Z0k Z0l Z0m Z0n Z0o Z0p Z0q Z0r Z0s Z0t Z0u Z0v Z0w Z0x Z0y Z0z Z0A Z0B Z0C
structure Frs where
 d:Docu
 dis:Int
 ans:Int
 en:Int
 cf:Bool
 rf:Bool
def stepR (mv:Int) (p:Msg) (s:Frs) (m:Msg):Frs:=
 if m.mv≠mv then s
 else if m.kind=1 then { s with d:={ s.d with frm:=m.frm,to:=m.to,sent:=m.alc },dis:=IntKind.i64.wrap (s.dis+1) }
 else if m.kind=2 then { s with d:={ s.d with to:=m.to,chg:=IntKind.i64.wrap (s.d.chg+1) },cf:=s.cf||(p.mv==mv&&p.kind==m.kind&&p.num==m.num) }
 else if m.kind=3 then { s with d:={ s.d with got:=m.alc },ans:=IntKind.i64.wrap (s.ans+1) }
 else if m.kind=4 then { s with ans:=IntKind.i64.wrap (s.ans+1),rf:=true }
 else { s with en:=IntKind.i64.wrap (s.en+1) }
def foldR (mv:Int):Msg→Frs→List Msg→Frs
 | _,s,[]=>s
 | p,s,m::l=>foldR mv m (stepR mv p s m) l
def begR (mv:Int):Frs:=⟨noneD mv,0,0,0,false,false⟩
def zeroM:Msg:=⟨0,0,0,0,0,0,0⟩
section
variable {β:Type}
variable {o0 o1:AObj} {g t:Hp} {m:Msg}
end
end Go.AM


namespace Go.AM
open Go.Proofs
set_option linter.unusedVariables false
set_option linter.unusedSimpArgs false
set_option linter.constructorNameAsVariable false
set_option maxRecDepth 20000
structure InR (mv:Int) (l:List Msg) (s:Frs):Prop where
 mve:s.d.mv=mv
 stage:s.d.stage=0
 frm:s.d.frm=(((ofk mv 1 l).getLast?).map (·.frm)).getD 0
 sent:s.d.sent=(((ofk mv 1 l).getLast?).map (·.alc)).getD 0
 to:s.d.to=match (ofk mv 2 l).getLast? with | some c=>c.to | none=>(((ofk mv 1 l).getLast?).map (·.to)).getD 0
 got:s.d.got=(((ofk mv 3 l).getLast?).map (·.alc)).getD 0
 chg:s.d.chg=(ofk mv 2 l).length
 dis:s.dis=(ofk mv 1 l).length
 ans:s.ans=((ofk mv 3 l).length+(ofk mv 4 l).length:Nat)
 en:s.en=(ofk mv 5 l).length
 rf:s.rf = !(ofk mv 4 l).isEmpty
 cf:s.cf=decide (¬((ofk mv 2 l).map (·.num)).Nodup)
theorem Zt8 {l:List Msg} {m p x:Msg} (hs:Srt (l++[m])) (hp:(zeroM::l).getLast? = some p) (hx:x ∈ l):p ∈ l∧(x=p∨ltM x p=true):=by
 rcases List.eq_nil_or_concat l with rfl | ⟨l',q,rfl⟩
 ·simp at hx
 ·rw [List.concat_eq_append] at *
  have:p=q:=by rw [← List.cons_append,List.getLast?_append] at hp;simpa using hp.symm
  subst this
  refine ⟨by simp, ?_⟩
  rcases List.mem_append.1 hx with hx | hx
  ·right
   rw [Srt,List.append_assoc,List.pairwise_append] at hs
   exact hs.2.2 x hx p (by simp)
  ·simp at hx;exact .inl hx
theorem InR.step {mv:Int} {l:List Msg} {s:Frs} {m p:Msg} (H:InR mv l s) (hs:Srt (l++[m])) (hm:checkM m=0) (hp:(zeroM::l).getLast? = some p) (h0:mv≠0) (hl:l.length<1000000):InR mv (l++[m]) (stepR mv p s m):=by
 obtain ⟨k0,k5, -⟩:=ZgI hm
 have hlt:∀x ∈ l,ltM x m=true:=fun x hx=>by
  rw [Srt,List.pairwise_append] at hs
  exact hs.2.2 x hx m (by simp)
 by_cases hmv:m.mv=mv
 ·have noK:∀k,m.kind<k→ofk mv k l=[]:=fun k hk=>by
   rw [List.eq_nil_iff_forall_not_mem]
   intro x hx
   obtain ⟨h1,h2,h3⟩:=ZaD.1 hx
   have:=ZaE (hlt x h1)
   have h4:=this.2 (by omega)
   omega
  have wr:∀k,IntKind.i64.wrap (((ofk mv k l).length:Int)+1)=((ofk mv k l).length:Int)+1:=fun k=>by
   have:=ZaF mv k l
   rw [wrap64 (by omega) (by omega)]
  have wa:IntKind.i64.wrap (((((ofk mv 3 l).length+(ofk mv 4 l).length:Nat)):Int)+1)=((((ofk mv 3 l).length+(ofk mv 4 l).length:Nat)):Int)+1:=by
   have h3:=ZaF mv 3 l
   have h4:=ZaF mv 4 l
   rw [wrap64 (by omega) (by omega)]
  have hk:m.kind=1∨m.kind=2∨m.kind=3∨m.kind=4∨m.kind=5:=by omega
  rcases hk with k | k | k | k | k
  ·have e2:=noK 2 (by omega)
   have st:stepR mv p s m={ s with d:={ s.d with frm:=m.frm,to:=m.to,sent:=m.alc },dis:=IntKind.i64.wrap (s.dis+1) }:=by simp [stepR,hmv,k]
   rw [st]
   exact ⟨H.mve,H.stage,by simp [Z02,hmv,k],by simp [Z02,hmv,k],by simp [Z02,hmv,k,e2],by simp [Z02,hmv,k,H.got],by simp [Z02,hmv,k,H.chg],by simp [Z02,hmv,k,H.dis,wr],by simp [Z02,hmv,k,H.ans],by simp [Z02,hmv,k,H.en],by simp [Z02,hmv,k,H.rf],by simp [Z02,hmv,k,H.cf]⟩
  ·have st:stepR mv p s m={ s with d:={ s.d with to:=m.to,chg:=IntKind.i64.wrap (s.d.chg+1) },cf:=s.cf||(p.mv==mv&&p.kind==m.kind&&p.num==m.num) }:=by simp [stepR,hmv,k]
   rw [st]
   refine ⟨H.mve,H.stage,by simp [Z02,hmv,k,H.frm],by simp [Z02,hmv,k,H.sent],by simp [Z02,hmv,k],by simp [Z02,hmv,k,H.got],by simp [Z02,hmv,k,H.chg,wr],by simp [Z02,hmv,k,H.dis],by simp [Z02,hmv,k,H.ans],by simp [Z02,hmv,k,H.en],by simp [Z02,hmv,k,H.rf], ?_⟩
   rw [Z02,if_pos ⟨hmv,k⟩,List.map_append,H.cf]
   rw [Bool.eq_iff_iff]
   simp only [Bool.or_eq_true,Bool.and_eq_true,beq_iff_eq,decide_eq_true_eq]
   rw [List.nodup_append]
   have key:(p.mv=mv∧p.kind=m.kind)∧p.num=m.num↔∃x ∈ ofk mv 2 l,x.num=m.num:=by
    constructor
    ·rintro ⟨⟨h1,h2⟩,h3⟩
     have hpl:p ∈ l:=by
      rcases List.eq_nil_or_concat l with rfl | ⟨l',q,rfl⟩
      ·simp at hp;subst hp;exact absurd h1.symm h0
      ·rw [List.concat_eq_append, ← List.cons_append,List.getLast?_append] at hp
       have:q=p:=by simpa using hp
       simp [this]
     exact ⟨p,ZaD.2 ⟨hpl,h1,by omega⟩,h3⟩
    ·rintro ⟨x,hx,h3⟩
     obtain ⟨h1,h2,h4⟩:=ZaD.1 hx
     obtain ⟨hpl,hxp⟩:=Zt8 hs hp h1
     rcases hxp with rfl | hxp
     ·exact ⟨⟨h2,by omega⟩,h3⟩
     ·have a1:=ZaE hxp
      have a2:=ZaE (hlt p hpl)
      omega
   constructor
   ·rintro (h | h)
    ·exact fun q=>h q.1
    ·obtain ⟨x,hx,hxn⟩:=key.1 h
     intro q
     exact q.2.2 x.num (List.mem_map.2 ⟨x,hx,rfl⟩) m.num (by simp) hxn
   ·intro h
    by_cases hn:((ofk mv 2 l).map (·.num)).Nodup
    ·right
     refine key.2 ?_
     rcases Classical.em (∃x ∈ ofk mv 2 l,x.num=m.num) with h2 | h2
     ·exact h2
     ·refine absurd ⟨hn,by simp, ?_⟩ h
      intro a ha b hb hab
      obtain ⟨x,hx,rfl⟩:=List.mem_map.1 ha
      simp at hb
      exact h2 ⟨x,hx,by rw [hab,hb]⟩
    ·exact .inl hn
  ·have st:stepR mv p s m={ s with d:={ s.d with got:=m.alc },ans:=IntKind.i64.wrap (s.ans+1) }:=by simp [stepR,hmv,k]
   rw [st]
   exact ⟨H.mve,H.stage,by simp [Z02,hmv,k,H.frm],by simp [Z02,hmv,k,H.sent],by simp [Z02,hmv,k,H.to],by simp [Z02,hmv,k],by simp [Z02,hmv,k,H.chg],by simp [Z02,hmv,k,H.dis],by rw [H.ans,wa,Z02,Z02,if_pos ⟨hmv,k⟩,if_neg (by omega),List.length_append];simp;omega,by simp [Z02,hmv,k,H.en],by simp [Z02,hmv,k,H.rf],by simp [Z02,hmv,k,H.cf]⟩
  ·have st:stepR mv p s m={ s with ans:=IntKind.i64.wrap (s.ans+1),rf:=true }:=by simp [stepR,hmv,k]
   rw [st]
   exact ⟨H.mve,H.stage,by simp [Z02,hmv,k,H.frm],by simp [Z02,hmv,k,H.sent],by simp [Z02,hmv,k,H.to],by simp [Z02,hmv,k,H.got],by simp [Z02,hmv,k,H.chg],by simp [Z02,hmv,k,H.dis],by rw [H.ans,wa,Z02,Z02,if_neg (by omega),if_pos ⟨hmv,k⟩,List.length_append];simp;omega,by simp [Z02,hmv,k,H.en],by simp [Z02,hmv,k],by simp [Z02,hmv,k,H.cf]⟩
  ·have st:stepR mv p s m={ s with en:=IntKind.i64.wrap (s.en+1) }:=by simp [stepR,hmv,k]
   rw [st]
   exact ⟨H.mve,H.stage,by simp [Z02,hmv,k,H.frm],by simp [Z02,hmv,k,H.sent],by simp [Z02,hmv,k,H.to],by simp [Z02,hmv,k,H.got],by simp [Z02,hmv,k,H.chg],by simp [Z02,hmv,k,H.dis],by simp [Z02,hmv,k,H.ans],by simp [Z02,hmv,k,H.en,wr],by simp [Z02,hmv,k,H.rf],by simp [Z02,hmv,k,H.cf]⟩
 ·have st:stepR mv p s m=s:=by simp [stepR,hmv]
  have ek:∀k,ofk mv k (l++[m])=ofk mv k l:=fun k=>by rw [Z02,if_neg (by simp [hmv])]
  rw [st]
  exact ⟨H.mve,H.stage,by rw [ek];exact H.frm,by rw [ek];exact H.sent,by rw [ek,ek];exact H.to,by rw [ek];exact H.got,by rw [ek];exact H.chg,by rw [ek];exact H.dis,by rw [ek,ek];exact H.ans,by rw [ek];exact H.en,by rw [ek];exact H.rf,by rw [ek];exact H.cf⟩
theorem InR.beg (mv:Int):InR mv [] (begR mv):=⟨rfl,rfl,rfl,rfl,rfl,rfl,rfl,rfl,rfl,rfl,rfl,rfl⟩
theorem InR.all {mv:Int} (h0:mv≠0):∀(post pre:List Msg) (p:Msg) (s:Frs),Srt (pre++post)→(∀m ∈ post,checkM m=0)→(pre++post).length<1000000→(zeroM::pre).getLast? = some p→InR mv pre s→InR mv (pre++post) (foldR mv p s post)
 | [],pre,p,s,_,_,_,_,H=>by simpa [foldR] using H
 | m::post,pre,p,s,hs,hv,hl,hp,H=>by
  have e:pre++m::post=(pre++[m])++post:=by simp
  rw [e] at hs hl ⊢
  refine InR.all h0 post (pre++[m]) m (stepR mv p s m) hs (fun x hx=>hv x (by simp [hx])) hl (by rw [← List.cons_append,List.getLast?_append];simp) (H.step ?_ (hv m (by simp)) hp h0 (by simp at hl;omega))
  exact hs.sublist (List.sublist_append_left _ _)
end Go.AM


namespace Go.AM
open Go.Proofs
set_option linter.unusedVariables false
set_option linter.unusedSimpArgs false
set_option linter.constructorNameAsVariable false
set_option maxRecDepth 20000
attribute [local congr] Z0c Z0d Z0e Z0f Z0g Z0h Z0i Z0j Z0k Z0l Z0m Z0n Z0o Z0p Z0q Z0r Z0s Z0t Z0u Z0v Z0w Z0x Z0y Z0z Z0A Z0B Z0C
section
variable {β:Type}
end
end Go.AM


namespace Go.AM
open Go.Proofs
set_option linter.unusedVariables false
set_option linter.unusedSimpArgs false
set_option linter.constructorNameAsVariable false
set_option maxRecDepth 20000
attribute [local congr] Z0c Z0d Z0e Z0f Z0g Z0h Z0i Z0j Z0k Z0l Z0m Z0n Z0o Z0p Z0q Z0r Z0s Z0t Z0u Z0v Z0w Z0x Z0y Z0z Z0A Z0B Z0C
end Go.AM


namespace Go.AM
open Go.Proofs
set_option linter.unusedVariables false
set_option linter.unusedSimpArgs false
set_option linter.constructorNameAsVariable false
set_option maxRecDepth 20000
attribute [local congr] Z0c Z0d Z0e Z0f Z0g Z0h Z0i Z0j Z0k Z0l Z0m Z0n Z0o Z0p Z0q Z0r Z0s Z0t Z0u Z0v Z0w Z0x Z0y Z0z Z0A Z0B Z0C
theorem Zt9 (b1 b2:Bool) (i:Inbx) (hl:i.heard.length<100000) (hm:i.msgs.length<100000) (H:Hp):Z4C [ib b1 b2 i] H=some (.agg [I i.node, .sl 2 (H.length+3) 0 i.heard.length i.heard.length false, .sl 7 (H.length+5) 0 i.msgs.length i.msgs.length false],H++[bxI b1 b2 i, .arr 3 [[I i.node, .sl 2 (H.length+3) 0 i.heard.length i.heard.length false, .sl 7 (H.length+5) 0 i.msgs.length i.msgs.length false]] true false, .arr 2 [] true false, .arr 2 (i.heard.map encH) true false, .arr 7 [] true false, .arr 7 (i.msgs.map encM) true false]):=by
 rw [Zr4]
 obtain ⟨node,heard,msgs⟩:=i
 dsimp only at hl hm ⊢
 obtain ⟨LH,hLH⟩:∃LH:AV,LH=SL 2 encH b1 heard:=⟨_,rfl⟩
 obtain ⟨LM,hLM⟩:∃LM:AV,LM=SL 7 encM b2 msgs:=⟨_,rfl⟩
 obtain ⟨o0,ho0⟩:∃o0:AObj,o0 = .arr 3 [[I node,LH,LM]] true false:=⟨_,rfl⟩
 have eb:bxI b1 b2 ⟨node,heard,msgs⟩=o0:=by rw [ho0,hLH,hLM]
 rw [eb,show ib b1 b2 ⟨node,heard,msgs⟩ = .agg [I node,LH,LM] by rw [hLH,hLM]]
 obtain ⟨n,hn⟩:∃n,n=H.length:=⟨_,rfl⟩
 rw [← hn]
 have x0:∀k:AV→Hp→Option (AV × Hp),effK (boxE 3 (.agg [I node,LH,LM]) H.length) H k=k (.ptr n 0 0 1) (H++[o0]):=fun k=>by rw [hn,ho0];exact bx3 rfl (by rw [hLH,hLM];rfl) k
 have hl1:∀o:AObj,(H++[o]).length=n+1:=fun o=>by rw [hn];simp
 have hl2:∀o p:AObj,(H++[o,p]).length=n+2:=fun o p=>by rw [hn];simp
 have hl3:∀o p q:AObj,(H++[o,p,q]).length=n+3:=fun o p q=>by rw [hn];simp
 have hl4:∀o p q r:AObj,(H++[o,p,q,r]).length=n+4:=fun o p q r=>by rw [hn];simp
 have hl5:∀o p q r s:AObj,(H++[o,p,q,r,s]).length=n+5:=fun o p q r s=>by rw [hn];simp
 have gt:∀(l:List AObj) (j:Nat),(H++l)[n+j]? = l[j]? := fun l j=>by rw [hn,List.getElem?_append_right (by omega),show H.length+j-H.length=j by omega]
 have st':∀(l:List AObj) (j:Nat) (o:AObj),(H++l).set (n+j) o=H++l.set j o:=fun l j o=>by rw [hn,List.set_append_right _ _ (by omega),show H.length+j-H.length=j by omega]
 have x1:∀k:AV→Hp→Option (AV × Hp),effK (boxE 3 (.agg zI) (H++[o0]).length) (H++[o0]) k=k (.ptr (n+1) 0 0 1) (H++[o0, .arr 3 [zI] true false]):=fun k=>by
  refine (bx3 rfl rfl k).trans ?_
  rw [hl1,List.append_assoc];rfl
 have l0:∀(l:List AObj) (k:Go.AM.K (AV × Hp)),ldK 1 false (.ptr n 0 0 1) (H++o0::l) k=k (I node):=fun l k=>by rw [Z00,show n=n+0 from rfl,gt];rw [ho0];rfl
 have l1:∀(l:List AObj) (k:Go.AM.K (AV × Hp)),ldK 1 false (.ptr n 0 1 1) (H++o0::l) k=k LH:=fun l k=>by rw [Z00,show n=n+0 from rfl,gt];rw [ho0,hLH];rfl
 have l2:∀(l:List AObj) (k:Go.AM.K (AV × Hp)),ldK 1 false (.ptr n 0 2 1) (H++o0::l) k=k LM:=fun l k=>by rw [Z00,show n=n+0 from rfl,gt];rw [ho0,hLM];rfl
 have d1:∀k:AV→Hp→Ent→Option (AV × Hp),effD (bsE 2 zH 0 [] (H++[o0, .arr 3 [zI] true false]).length) (H++[o0, .arr 3 [zI] true false]) k=k (.sl 2 (n+2) 0 0 0 true) (H++[o0, .arr 3 [zI] true false, .arr 2 [] true false]) ([],[n+2]):=fun k=>by
  rw [hl2];simp [bsE,fillS,effD,ap,wrOf,hl2]
 have rH:∀h:Hp,readSl h LH=some (heard.map encH):=fun h=>by rw [hLH];rfl
 have rM:∀h:Hp,readSl h LM=some (msgs.map encM):=fun h=>by rw [hLM];rfl
 have aH:((heard.map encH).all fun e=>e.length==2)=true:=by rw [List.all_eq_true];intro e he;obtain ⟨x, -,rfl⟩:=List.mem_map.1 he;rfl
 have aM:((msgs.map encM).all fun e=>e.length==7)=true:=by rw [List.all_eq_true];intro e he;obtain ⟨x, -,rfl⟩:=List.mem_map.1 he;rfl
 have iH:idsOf LH=[]:=by rw [hLH];rfl
 have iM:idsOf LM=[]:=by rw [hLM];rfl
 have d2:∀k:AV→Hp→Ent→Option (AV × Hp),effD (appE 2 16 (.sl 2 (n+2) 0 0 0 true) LH (H++[o0, .arr 3 [zI] true false, .arr 2 [] true false]) (H++[o0,AObj.arr 3 [zI] true false, .arr 2 [] true false]).length) (H++[o0, .arr 3 [zI] true false, .arr 2 [] true false]) k=k (.sl 2 (n+3) 0 heard.length heard.length false) (H++[o0, .arr 3 [zI] true false, .arr 2 [] true false, .arr 2 (heard.map encH) true false]) ([n+2],[n+3]):=fun k=>by
  have:appE 2 16 (.sl 2 (n+2) 0 0 0 true) LH (H++[o0, .arr 3 [zI] true false, .arr 2 [] true false]) (n+3)=some (.sl 2 (n+3) 0 heard.length heard.length false,⟨[],[.arr 2 (heard.map encH) true false],[n+2]⟩):=by
   unfold appE
   rw [rH]
   simp only [gt]
   simp only [List.getElem?_cons_succ,List.getElem?_cons_zero,List.length_map,List.length_nil]
   rw [if_pos ⟨trivial,trivial,by omega,aH⟩,if_pos ⟨trivial,by omega, .inl trivial⟩]
   simp [iH]
  rw [hl3,this]
  simp [effD,ap,wrOf,hl3]
 have d3:∀k:AV→Hp→Ent→Option (AV × Hp),effD (bsE 7 [I 0,I 0,I 0,I 0,I 0,I 0,I 0] 0 [] (H++[o0, .arr 3 [zI] true false, .arr 2 [] true false, .arr 2 (heard.map encH) true false]).length) (H++[o0, .arr 3 [zI] true false, .arr 2 [] true false, .arr 2 (heard.map encH) true false]) k=k (.sl 7 (n+4) 0 0 0 true) (H++[o0, .arr 3 [zI] true false, .arr 2 [] true false, .arr 2 (heard.map encH) true false, .arr 7 [] true false]) ([],[n+4]):=fun k=>by
  rw [hl4];simp [bsE,fillS,effD,ap,wrOf,hl4]
 have d4:∀k:AV→Hp→Ent→Option (AV × Hp),effD (appE 7 56 (.sl 7 (n+4) 0 0 0 true) LM (H++[o0, .arr 3 [zI] true false, .arr 2 [] true false, .arr 2 (heard.map encH) true false, .arr 7 [] true false]) (H++[o0,AObj.arr 3 [zI] true false, .arr 2 [] true false, .arr 2 (heard.map encH) true false, .arr 7 [] true false]).length) (H++[o0, .arr 3 [zI] true false, .arr 2 [] true false, .arr 2 (heard.map encH) true false, .arr 7 [] true false]) k=k (.sl 7 (n+5) 0 msgs.length msgs.length false) (H++[o0, .arr 3 [zI] true false, .arr 2 [] true false, .arr 2 (heard.map encH) true false, .arr 7 [] true false, .arr 7 (msgs.map encM) true false]) ([n+4],[n+5]):=fun k=>by
  have:appE 7 56 (.sl 7 (n+4) 0 0 0 true) LM (H++[o0, .arr 3 [zI] true false, .arr 2 [] true false, .arr 2 (heard.map encH) true false, .arr 7 [] true false]) (n+5)=some (.sl 7 (n+5) 0 msgs.length msgs.length false,⟨[],[.arr 7 (msgs.map encM) true false],[n+4]⟩):=by
   unfold appE
   rw [rM]
   simp only [gt]
   simp only [List.getElem?_cons_succ,List.getElem?_cons_zero,List.length_map,List.length_nil]
   rw [if_pos ⟨trivial,trivial,by omega,aM⟩,if_pos ⟨trivial,by omega, .inl trivial⟩]
   simp [iM]
  rw [hl5,this]
  simp [effD,ap,wrOf,hl5]
 have bK:∀k:Go.AM.K (AV × Hp),buildK zI [(some (0,1),I node),(some (1,1), .sl 2 (n+3) 0 heard.length heard.length false),(some (2,1), .sl 7 (n+5) 0 msgs.length msgs.length false)] k=k (.agg [I node, .sl 2 (n+3) 0 heard.length heard.length false, .sl 7 (n+5) 0 msgs.length msgs.length false]):=fun k=>rfl
 have d5:∀k:AV→Hp→Ent→Option (AV × Hp),effD (stE 3 (.ptr (n+1) 0 0 1) (.agg [I node, .sl 2 (n+3) 0 heard.length heard.length false, .sl 7 (n+5) 0 msgs.length msgs.length false]) (H++[o0, .arr 3 [zI] true false, .arr 2 [] true false, .arr 2 (heard.map encH) true false, .arr 7 [] true false, .arr 7 (msgs.map encM) true false])) (H++[o0, .arr 3 [zI] true false, .arr 2 [] true false, .arr 2 (heard.map encH) true false, .arr 7 [] true false, .arr 7 (msgs.map encM) true false]) k=k .u (H++[o0, .arr 3 [[I node, .sl 2 (n+3) 0 heard.length heard.length false, .sl 7 (n+5) 0 msgs.length msgs.length false]] true false, .arr 2 [] true false, .arr 2 (heard.map encH) true false, .arr 7 [] true false, .arr 7 (msgs.map encM) true false]) ([n+1],[n+1]):=fun k=>by
  have:stE 3 (.ptr (n+1) 0 0 1) (.agg [I node, .sl 2 (n+3) 0 heard.length heard.length false, .sl 7 (n+5) 0 msgs.length msgs.length false]) (H++[o0, .arr 3 [zI] true false, .arr 2 [] true false, .arr 2 (heard.map encH) true false, .arr 7 [] true false, .arr 7 (msgs.map encM) true false])=some (.u,⟨[(n+1, .arr 3 [[I node, .sl 2 (n+3) 0 heard.length heard.length false, .sl 7 (n+5) 0 msgs.length msgs.length false]] true false)],[],[n+1]⟩):=by
   rw [Z0G,gt]
   simp [putAt]
  rw [Z0b this,st']
  rfl
 have dj:disjAll [(1,2),(2,4),(1,5),(1,6),(2,6),(4,6),(5,6),(2,8),(5,8),(6,8),(1,9)] [([],[]),(idsOf (.ptr n 0 0 1),[]),([],[n+2]),([],[]),(idsOf (.ptr n 0 1 1),[]),([n+2],[n+3]),([],[n+4]),([],[]),(idsOf (.ptr n 0 2 1),[]),([n+4],[n+5]),([],[]),([n+1],[n+1])]=true:=by
  simp [disjAll,disj2,idsOf]
 have lw:∀(l:List AObj) (o:AObj) (k:Go.AM.K (AV × Hp)),ldK 3 true (.ptr (n+1) 0 0 1) (H++o :: .arr 3 [[I node, .sl 2 (n+3) 0 heard.length heard.length false, .sl 7 (n+5) 0 msgs.length msgs.length false]] true false::l) k=k (.agg [I node, .sl 2 (n+3) 0 heard.length heard.length false, .sl 7 (n+5) 0 msgs.length msgs.length false]):=fun l o k=>by rw [Z00,gt];rfl
 simp -implicitDefEqProofs only [Z4S,x0,x1,Z0a,Nat.zero_add,l0,d1,l1,d2,d3,l2,d4,bK,d5,dj,cond_true,lw]
theorem Zta (b1 b2:Bool) (i:Inbx) (hl:i.heard.length<100000) (hm:i.msgs.length<100000) (h:Hp):Z5O [ib b1 b2 i] h=some (ib false false i,h):=by
 refine (Zr6 (a0:=ib b1 b2 i) (v:=ib false false i) rfl ?_ h).trans rfl
 have hr:=Zt9 b1 b2 i hl hm []
 have hK:=(ZbU (fun v g=>cvt false g v) (ib b1 b2 i) []).symm
 show Z4S Try.prog Z5N Z5M NN (fun v g=>cvt false g v) (ib b1 b2 i) []=_
 rw [hK,hr]
 show cvt false _ (.agg [I i.node, .sl 2 3 0 i.heard.length i.heard.length false, .sl 7 5 0 i.msgs.length i.msgs.length false])=_
 simp only [Z21,Z18,Z17,cvt_s]
 rw [Z0Y (st:=false) (es:=i.heard.map encH) (nl:=false) rfl (by simp) (by simp) (Z0S fun x=>by simp [encH]),Z0Y (st:=false) (es:=i.msgs.map encM) (nl:=false) rfl (by simp) (by simp) (Z0S fun x=>by simp [encM])]
 rfl
end Go.AM


namespace Go.AM
open Go.Proofs
set_option linter.unusedVariables false
set_option linter.unusedSimpArgs false
set_option linter.constructorNameAsVariable false
set_option maxRecDepth 20000
attribute [local congr] Z0c Z0d Z0e Z0f Z0g Z0h Z0i Z0j Z0k Z0l Z0m Z0n Z0o Z0p Z0q Z0r Z0s Z0t Z0u Z0v Z0w Z0x Z0y Z0z Z0A Z0B Z0C
def lastLt (p:Option Hrd) (x:Hrd):Bool:=match p with | some q => !ltH q x | none=>false
theorem Ztb (node:Int) (p:Option Hrd) (x:Hrd) (r:List Hrd):chkH node p (x::r)=if (!isNode x.frm||decide (x.num<1)||decide (x.num > 1073741824))=true then 2 else if x.frm=node then 10 else if lastLt p x=true then 5 else chkH node (some x) r:=by
 rw [Zgr]
 cases p with
 | none=>rfl
 | some q=>
  have:decide (cmpH q x≥0)=lastLt (some q) x:=by
   unfold lastLt ltH
   by_cases h:cmpH q x<0
   ·simp [h]
   ·simp [h];omega
  simp only [this]
end Go.AM


namespace Go.AM
open Go.RowKit
set_option linter.unusedVariables false
def mu0 (w:World):Mu:=⟨fun _ => .virt none,w,fun k=>k<w.heap.size⟩
theorem rel0 (w:World):Rel (mu0 w) [] w where
 obj:=fun id o h=>by simp at h
 sep:=fun i j o p b x c y d h=>by simp at h
 apart:=fun i sz es nil b x c h=>by simp at h
 imm:=fun k hk=>⟨hk,rfl,fun ⟨id,o,off,c,h,_⟩=>by simp at h⟩
theorem own0 (w:World) (b:Nat):¬Own (mu0 w) [] b:=fun ⟨id,o,off,c,h,_⟩=>by simp at h
theorem below0 {w w':World} {μ':Mu} {h':Hp} (s:Step (mu0 w) [] w μ' h' w'):Below w.heap.size w w':=
 ⟨s.frame.os,s.frame.tape,s.frame.output,s.frame.size,fun k hk=>s.frame.block k hk (own0 w k)⟩
theorem row_calls {P:Program} {f:FuncId} {F:Fun} {args:List AV} {h':Hp} {b:Bool} {W:World} {cargs:Array Value} (hc:CSound P f F) (hF:F args []=some (.s (.bool b),h')) (hv:VRs (mu0 W) [] args cargs.toList):
  Calls P f cargs W fun e W'=>e = .returned (.bool b)∧Below W.heap.size W W':=by
 refine (hc args [] _ h' hF (mu0 W) W cargs (rel0 W) hv).2.mono fun e W' => ?_
 rintro ⟨cv,μ',rfl,s,hr⟩
 simp only [VR] at hr
 exact ⟨by rw [hr.2],below0 s⟩

inductive Ty where
 | int (k:IntKind)
 | bool
 | str
 | sl (e:List Ty)
def tyFs (f:TypeId→Option (List Ty)) (size:TypeId→Nat):List Field→Nat→Option (List Ty)
 | [],_=>some []
 | x::l,pos=>match f x.type,tyFs f size l (pos+size x.type) with
  | some a,some b=>if x.offset=pos∧a.length=size x.type then some (a++b) else none
  | _,_=>none
def tyOf (P:Program):Nat→TypeId→Option (List Ty)
 | 0,_=>none
 | n+1,t=>match P.underlying t with
  | some .bool=>some [.bool]
  | some (.int k)=>some [.int k]
  | some .string=>some [.str]
  | some (.slice e)=>match tyOf P n e with
   | some l=>if l.length=P.cellsOf e∧0<l.length then some [.sl l] else none
   | none=>none
  | some (.struct fs)=>match tyFs (tyOf P n) P.cellsOf fs.toList 0 with
   | some l=>if l.length=P.cellsOf t then some l else none
   | none=>none
  | some (.array m e)=>match tyOf P n e with
   | some l=>if l.length=P.cellsOf e∧m * P.cellsOf e=P.cellsOf t then some (List.replicate m l).flatten else none
   | none=>none
  | _=>none
mutual
def HasT:Ty→AV→Prop
 | .int k,a=>∃n,a = .s (.int k n)∧(Lit.int k n).wf=true
 | .bool,a=>∃b,a = .s (.bool b)
 | .str,a=>∃s:ByteArray,a = .s (.string s)∧s.size≤maxLen
 | .sl ts,a=>∃nil es,a = .lst ts.length nil es∧(nil=true→es=[])∧es.length≤maxLen∧∀e ∈ es,HasTs ts e
def HasTs:List Ty→List AV→Prop
 | [],asl=>asl=[]
 | t::ts,asl=>∃a as',asl=a::as'∧HasT t a∧HasTs ts as'
end
theorem HasTs.app:∀ {ts us:List Ty} {asl bs:List AV},HasTs ts asl→HasTs us bs→HasTs (ts++us) (asl++bs)
 | [],us,asl,bs,h,k=>by simp only [HasTs] at h;subst h;exact k
 | t::ts,us,asl,bs,h,k=>by
  simp only [HasTs] at h
  obtain ⟨a,as',rfl,h1,h2⟩:=h
  simp only [List.cons_append,HasTs]
  exact ⟨a,_,rfl,h1,HasTs.app h2 k⟩
theorem HasTs.len:∀ {ts:List Ty} {asl:List AV},HasTs ts asl→asl.length=ts.length
 | [],asl,h=>by simp only [HasTs] at h;subst h;rfl
 | t::ts,asl,h=>by
  simp only [HasTs] at h
  obtain ⟨a,as',rfl,h1,h2⟩:=h
  simp [HasTs.len h2]
theorem HasT.ok:∀ {t:Ty} {a:AV},HasT t a→okC a=true
 | .int k,a,h=>by simp only [HasT] at h;obtain ⟨n,rfl,_⟩:=h;rfl
 | .bool,a,h=>by simp only [HasT] at h;obtain ⟨n,rfl⟩:=h;rfl
 | .str,a,h=>by simp only [HasT] at h;obtain ⟨n,rfl,_⟩:=h;rfl
 | .sl ts,a,h=>by simp only [HasT] at h;obtain ⟨n,es,rfl,_⟩:=h;rfl
theorem HasTs.ok:∀ {ts:List Ty} {asl:List AV},HasTs ts asl→∀x ∈ asl,okC x=true
 | [],asl,h,x,hx=>by simp only [HasTs] at h;subst h;simp at hx
 | t::ts,asl,h,x,hx=>by
  simp only [HasTs] at h
  obtain ⟨a,as',rfl,h1,h2⟩:=h
  rcases List.mem_cons.1 hx with rfl | hx
  ·exact h1.ok
  ·exact h2.ok x hx
theorem Zcd {μ:Mu} {h:Hp}:∀ {asl bs:List AV} {cs ds:List Value},VRs μ h asl cs→VRs μ h bs ds→VRs μ h (asl++bs) (cs++ds)
 | [],bs,cs,ds,h1,h2=>by simp only [VRs] at h1;subst h1;exact h2
 | a::asl,bs,cs,ds,h1,h2=>by
  simp only [VRs] at h1
  obtain ⟨v,vs,rfl,h3,h4⟩:=h1
  simp only [List.cons_append,VRs]
  exact ⟨v,_,rfl,h3,Zcd h4 h2⟩
section
variable {H:Type} {enc:TypeId × Value→H} {P:Program} {w:World} {base:Nat} {spare:Nat→Bool} {held:Bool}
def Opened (w:World) (ts:List Ty) (cs:List Value):Prop:=∃asl,HasTs ts asl∧VRs (mu0 w) [] asl cs∧∀u ∈ cs,u.oneCell'=true
theorem Z5V {t:Ty} {u:Value} {a:AV} (h1:HasT t a) (h2:VR (mu0 w) [] a u) (h3:u.oneCell'=true):Opened w [t] [u]:=
 ⟨[a],by simp only [HasTs];exact ⟨a,[],rfl,h1,rfl⟩,by simp only [VRs];exact ⟨u,[],rfl,h2,rfl⟩,by simpa using h3⟩
theorem ZgL {f:TypeId→Option (List Ty)} {g:TypeId→List Value→Prop} {cs:List Value} (hg:∀t ts cs',f t=some ts→g t cs'→Opened w ts cs'):∀(l:List Field) (pos:Nat) (ts:List Ty),tyFs f P.cellsOf l pos=some ts→
  (∀x ∈ l,g x.type ((cs.drop x.offset).take (P.cellsOf x.type)))→Opened w ts ((cs.drop pos).take ts.length)
 | [],pos,ts,h,_=>by
  simp only [tyFs,Option.some.injEq] at h
  subst h
  exact ⟨[],rfl,rfl,by simp⟩
 | x::l,pos,ts,h,hx=>by
  simp only [tyFs] at h
  split at h
  ·rename_i a b h1 h2
   split at h
   ·rename_i hc
    simp only [Option.some.injEq] at h
    subst h
    obtain ⟨h3,h4⟩:=hc
    obtain ⟨asl,p1,p2,p3⟩:=hg _ _ _ h1 (hx x (by simp))
    obtain ⟨bs,q1,q2,q3⟩:=ZgL hg l _ b h2 (fun y hy=>hx y (by simp [hy]))
    have e:(cs.drop pos).take (a++b).length=(cs.drop x.offset).take (P.cellsOf x.type)++(cs.drop (pos+P.cellsOf x.type)).take b.length:=by
     rw [List.length_append,h4,h3, ← List.drop_drop,List.take_add]
    rw [e]
    refine ⟨asl++bs,p1.app q1,Zcd p2 q2, ?_⟩
    intro u hu
    rcases List.mem_append.1 hu with hu | hu
    ·exact p3 u hu
    ·exact q3 u hu
   ·simp at h
  ·simp at h
theorem ZgM {ts:List Ty} {sz:Nat} {cs:List Value}:∀(n i0:Nat),(∀i,i<n→Opened w ts ((cs.drop ((i0+i) * sz)).take sz))→Opened w (List.replicate n ts).flatten ((cs.drop (i0 * sz)).take (n * sz))
 | 0,i0,_=>⟨[],rfl,by simp [VRs],by simp⟩
 | n+1,i0,h=>by
  obtain ⟨asl,p1,p2,p3⟩:=h 0 (by omega)
  obtain ⟨bs,q1,q2,q3⟩:=ZgM n (i0+1) (fun i hi=>by have:=h (i+1) (by omega);rwa [show i0+(i+1)=i0+1+i by omega] at this)
  have e:(cs.drop (i0 * sz)).take ((n+1) * sz)=(cs.drop (i0 * sz)).take sz++(cs.drop ((i0+1) * sz)).take (n * sz):=by
   rw [show (n+1) * sz=sz+n * sz by rw [Nat.add_mul];omega,show (i0+1) * sz=i0 * sz+sz by rw [Nat.add_mul];omega, ← List.drop_drop,List.take_add]
  rw [e,List.replicate_succ,List.flatten_cons]
  refine ⟨asl++bs,p1.app q1,Zcd p2 q2, ?_⟩
  intro u hu
  rcases List.mem_append.1 hu with hu | hu
  ·exact p3 u hu
  ·exact q3 u hu
theorem ZgN {ts:List Ty} {sz b:Nat} (hts:ts.length=sz):∀(n o:Nat),(∀i,i<n→∃cs,Opened w ts cs∧cs.length=sz∧∀j u,cs[j]? = some u→w.cell? ⟨b,o+i * sz+j,none⟩=some u)→
  ∃es vs,es.length=n∧(∀e ∈ es,HasTs ts e)∧VRf (mu0 w) [] es vs∧∀j u,vs[j]? = some u→w.cell? ⟨b,o+j,none⟩=some u∧u.oneCell'=true
 | 0,o,h=>⟨[],[],rfl,by simp,rfl,by simp⟩
 | n+1,o,h=>by
  obtain ⟨cs,⟨asl,h1,h2,h3⟩,h4,h5⟩:=h 0 (by omega)
  obtain ⟨es,vs,k1,k2,k3,k4⟩:=ZgN hts n (o+sz) (fun i hi=>by
   obtain ⟨cs',q1,q2,q3⟩:=h (i+1) (by omega)
   refine ⟨cs',q1,q2,fun j u hu => ?_⟩
   rw [← q3 j u hu]
   congr 2
   rw [Nat.add_mul];omega)
  refine ⟨asl::es,cs++vs,by simp [k1], ?_, ?_, ?_⟩
  ·intro e he
   rcases List.mem_cons.1 he with rfl | he
   ·exact h1
   ·exact k2 e he
  ·simp only [VRf];exact ⟨cs,vs,rfl,h2,k3⟩
  ·intro j u hj
   by_cases hlt:j<cs.length
   ·rw [List.getElem?_append_left hlt] at hj
    have:=h5 j u hj
    exact ⟨by simpa using this,h3 u (List.mem_of_getElem? hj)⟩
   ·rw [List.getElem?_append_right (by omega)] at hj
    have:=k4 _ _ hj
    rw [show o+sz+(j-cs.length)=o+j by omega] at this
    exact this
theorem Ztc {a:Addr} {v:Value} (h:w.cell? a=some v):a.block<w.heap.size:=by
 rcases Nat.lt_or_ge a.block w.heap.size with h1 | h1
 ·exact h1
 ·have:w.heap[a.block]? = none:=by simpa using h1
  simp [World.cell?,this] at h
theorem Z7w:∀(fuel n:Nat) (t:TypeId) (ts:List Ty) (cs:List Value) (x:DataW H × List MemPlace),tyOf P n t=some ts→DataW.trod enc P w base spare held fuel t cs=some x→Opened w ts cs
 | 0,n,t,ts,cs,x,_,h=>by simp [DataW.trod] at h
 | fuel+1,0,t,ts,cs,x,h0,_=>by simp [tyOf] at h0
 | fuel+1,n+1,t,ts,cs,x,h0,h=>by
  unfold tyOf at h0
  cases hu:P.underlying t with
  | none=>rw [hu] at h0;simp at h0
  | some T=>
   rw [hu] at h0
   cases T with
   | bool=>
    simp only [Option.some.injEq] at h0
    subst h0
    obtain ⟨b,rfl,_⟩:=DataW.trod_bool hu h
    exact Z5V (a := .s (.bool b)) (by simp [HasT]) (by simp [VR,gv]) rfl
   | int k=>
    simp only [Option.some.injEq] at h0
    subst h0
    obtain ⟨m,rfl,_,hw⟩:=DataW.trod_int hu h
    exact Z5V (a := .s (.int k m)) (by simp [HasT,hw]) (by simp [VR,gv]) rfl
   | string=>
    simp only [Option.some.injEq] at h0
    subst h0
    obtain ⟨s,rfl,_,hs⟩:=DataW.trod_string hu h
    exact Z5V (a := .s (.string s)) (by simp [HasT,hs]) (by simp [VR,gv]) rfl
   | slice e=>
    simp only at h0
    cases he:tyOf P n e with
    | none=>rw [he] at h0;simp at h0
    | some l=>
     rw [he] at h0
     simp only at h0
     split at h0
     ·rename_i hl
      simp only [Option.some.injEq] at h0
      subst h0
      rcases DataW.trod_slice hu h with ⟨rfl,_⟩ | ⟨a,len,cap,elems,rest,m,hm,rfl,_,hb,h1,h2,h3,h4,_,_⟩
      ·refine Z5V (a := .lst l.length true []) ?_ ?_ rfl
       ·simp only [HasT];exact ⟨true,[],rfl,fun _=>rfl,by simp,by simp⟩
       ·simp only [VR]
        exact ⟨none,0,rfl,by simp,by simp,rfl,fun _=>rfl,by simp,by simp⟩
      ·have hm':m=fuel:=by omega
       subst hm'
       have cell:∀i,i<len→∃cs,Opened w l cs∧cs.length=P.cellsOf e∧∀j,j<P.cellsOf e→w.cell? ((a.add (i * P.cellsOf e)).add j)=cs[j]? := by
        intro i hi
        have hi':=h4 i hi
        rw [List.getElem?_eq_getElem (by omega),Option.bind_eq_some_iff] at hi'
        obtain ⟨cs,q1,q2⟩:=hi'
        have q3:=World.cells?_some q1
        exact ⟨cs,Z7w m n e l cs _ he q2,q3.2.1,q3.2.2⟩
       obtain ⟨b,off,spot⟩:=a
       have hsp:len≠0→spot=none:=fun hn=>by
        obtain ⟨cs,_,q2,q3⟩:=cell 0 (by omega)
        have q4:=q3 0 (by omega)
        rw [List.getElem?_eq_getElem (by omega)] at q4
        simpa [Addr.add] using World.cell?_spot q4
       by_cases hn:len=0
       ·subst hn
        refine Z5V (a := .lst l.length false []) ?_ ?_ rfl
        ·simp only [HasT];exact ⟨false,[],rfl,fun _=>rfl,by simp,by simp⟩
        ·simp only [VR]
         exact ⟨_,cap,rfl,by simp,h2,rfl,by simp,by simp,by simp⟩
       ·have hs:=hsp hn
        subst hs
        obtain ⟨es,vs,k1,k2,k3,k4⟩:=ZgN (w:=w) (ts:=l) (sz:=P.cellsOf e) (b:=b) hl.1 len off (fun i hi=>by
         obtain ⟨cs,q1,q2,q3⟩:=cell i hi
         refine ⟨cs,q1,q2,fun j u hj => ?_⟩
         have hjl:=(List.getElem?_eq_some_iff.1 hj).1
         have:=q3 j (by omega)
         rw [hj] at this
         rw [← this,Go.WideShapes.add_plain,Go.WideShapes.add_plain])
        refine Z5V (a := .lst l.length false es) ?_ ?_ rfl
        ·simp only [HasT];exact ⟨false,es,rfl,by simp,by omega,k2⟩
        ·simp only [VR]
         refine ⟨_,cap,by rw [k1],by omega,h2,rfl,by simp,fun e' he'=>⟨(k2 e' he').len,(k2 e' he').ok⟩,fun _=>⟨b,off,vs,rfl, ?_,k3,k4⟩⟩
         obtain ⟨cs,q1,q2,q3⟩:=cell 0 (by omega)
         have q4:=q3 0 (by omega)
         rw [List.getElem?_eq_getElem (by omega)] at q4
         show b<w.heap.size
         rw [Go.WideShapes.add_plain,Go.WideShapes.add_plain] at q4
         exact Ztc q4
     ·simp at h0
   | struct fs=>
    simp only at h0
    cases he:tyFs (tyOf P n) P.cellsOf fs.toList 0 with
    | none=>rw [he] at h0;simp at h0
    | some l=>
     rw [he] at h0
     simp only at h0
     split at h0
     ·rename_i hl
      simp only [Option.some.injEq] at h0
      subst h0
      obtain ⟨xs,m,hm,_,h2,h3,h4⟩:=DataW.trod_struct hu h
      have hm':m=fuel:=by omega
      subst hm'
      have:=ZgL (w:=w) (P:=P) (f:=tyOf P n) (g:=fun t cs'=>∃y,DataW.trod enc P w base spare held m t cs'=some y) (cs:=cs) (fun t ts cs' q1 ⟨y,q2⟩=>Z7w m n t ts cs' y q1 q2) fs.toList 0 l he (fun y hy=>by
       obtain ⟨i,hi⟩:=List.getElem?_of_mem hy
       have hi2:fs[i]? = some y:=by simpa using hi
       have:=h4 i y hi2
       have hlt:i<xs.length:=by rw [h3];exact (Array.getElem?_eq_some_iff.1 hi2).1
       rw [List.getElem?_eq_getElem hlt] at this
       exact ⟨_,this⟩)
      rw [List.drop_zero,hl, ← h2,List.take_length] at this
      exact this
     ·simp at h0
   | array k e=>
    simp only at h0
    cases he:tyOf P n e with
    | none=>rw [he] at h0;simp at h0
    | some l=>
     rw [he] at h0
     simp only at h0
     split at h0
     ·rename_i hl
      simp only [Option.some.injEq] at h0
      subst h0
      obtain ⟨xs,m,hm,_,h2,h3,h4⟩:=DataW.trod_array hu h
      have hm':m=fuel:=by omega
      subst hm'
      have:=ZgM (w:=w) (ts:=l) (sz:=P.cellsOf e) (cs:=cs) k 0 (fun i hi=>by
       have h5:=h4 i hi
       rw [List.getElem?_eq_getElem (by omega)] at h5
       have h6:=Z7w m n e l _ _ he h5
       rwa [Nat.zero_add])
      rw [Nat.zero_mul,List.drop_zero,hl.2, ← h2,List.take_length] at this
      exact this
     ·simp at h0
   | _=>simp at h0
theorem open_agg {t:TypeId} {fs:Array Field} {r:Reach} {b:Nat} {v:Value} {d:DataW H} {ps:List MemPlace} {n:Nat} {ts:List Ty} (hu:P.underlying t=some (.struct fs)) (ht:tyOf P n t=some ts) (hval:Value.okWide P w r b t v)
  (hd:DataW.Trod enc P w base spare held t v d ps):∃asl,HasTs ts asl∧VR (mu0 w) [] (.agg asl) v:=by
 obtain ⟨cs,rfl,_⟩:=WideShapes.okWide_struct hu hval
 obtain ⟨fuel,hf⟩:=hd
 obtain ⟨asl,h1,h2,_⟩:=Z7w fuel n t ts _ _ ht hf
 exact ⟨asl,h1,by simp only [VR];exact ⟨cs,rfl,h2⟩⟩
theorem open_cell {t:TypeId} {v:Value} {d:DataW H} {ps:List MemPlace} {n:Nat} {ty:Ty} (hv:v.cells = #[v]) (ht:tyOf P n t=some [ty]) (hd:DataW.Trod enc P w base spare held t v d ps):∃a,HasT ty a∧VR (mu0 w) [] a v:=by
 obtain ⟨fuel,hf⟩:=hd
 rw [hv] at hf
 obtain ⟨asl,h1,h2,_⟩:=Z7w fuel n t [ty] _ _ ht hf
 simp only [HasTs] at h1
 obtain ⟨a,as',rfl,h1,rfl⟩:=h1
 simp only [VRs] at h2
 obtain ⟨v',vs',h3,h4,_⟩:=h2
 simp at h3
 exact ⟨a,h1,by rw [h3.1];exact h4⟩
end
theorem ZgO {n:Int} (h:(Lit.int .u64 n).wf=true):0≤n∧n≤18446744073709551615:=by
 simp [Lit.wf,IntKind.min,IntKind.max,IntKind.signed,IntKind.bits] at h;omega
theorem ZaG {α:Type} {ts:List Ty} {f:α→List AV} (hf:∀cs,HasTs ts cs→∃x,cs=f x) {a:AV} (h:HasT (.sl ts) a):∃(l:List α) (b:Bool),a = .lst ts.length (b&&l.isEmpty) (l.map f):=by
 simp only [HasT] at h
 obtain ⟨nil,es,rfl,hn,hm,he⟩:=h
 have:∃l:List α,es=l.map f:=by
  clear hn hm
  induction es with
  | nil=>exact ⟨[],rfl⟩
  | cons e es ih=>
   obtain ⟨x,hx⟩:=hf e (he e (by simp))
   obtain ⟨l,hl⟩:=ih (fun e' h'=>he e' (by simp [h']))
   exact ⟨x::l,by simp [hx,hl]⟩
 obtain ⟨l,rfl⟩:=this
 refine ⟨l,nil, ?_⟩
 cases nil with
 | false=>rfl
 | true=>
  have:l=[]:=by simpa using hn rfl
  subst this;rfl
end Go.AM


namespace Go.AM
open Go.Proofs
set_option linter.unusedVariables false
set_option linter.unusedSimpArgs false
set_option linter.constructorNameAsVariable false
set_option maxRecDepth 20000
attribute [local congr] Z0c Z0d Z0e Z0f Z0g Z0h Z0i Z0j Z0k Z0l Z0m Z0n Z0o Z0p Z0q Z0r Z0s Z0t Z0u Z0v Z0w Z0x Z0y Z0z Z0A Z0B Z0C
theorem Ztd {cs:List AV} (h:HasTs [.int .i64, .int .i64, .int .i64, .int .i64, .int .i64, .int .i64, .int .i64] cs):∃p:Msg,cs=encM p:=by
 simp only [HasTs,HasT] at h
 obtain ⟨_,_,rfl,⟨a,rfl,_⟩,_,_,rfl,⟨b,rfl,_⟩,_,_,rfl,⟨c,rfl,_⟩,_,_,rfl,⟨d,rfl,_⟩,_,_,rfl,⟨e,rfl,_⟩,_,_,rfl,⟨f,rfl,_⟩,_,_,rfl,⟨g,rfl,_⟩,rfl⟩:=h
 exact ⟨⟨a,b,c,d,e,f,g⟩,rfl⟩
theorem Zte {cs:List AV} (h:HasTs [.int .i64, .int .i64] cs):∃p:Hrd,cs=encH p:=by
 simp only [HasTs,HasT] at h
 obtain ⟨_,_,rfl,⟨a,rfl,_⟩,_,_,rfl,⟨b,rfl,_⟩,rfl⟩:=h
 exact ⟨⟨a,b⟩,rfl⟩
theorem has_Inbx {cs:List AV} (h:HasTs [.int .i64, .sl [.int .i64, .int .i64], .sl [.int .i64, .int .i64, .int .i64, .int .i64, .int .i64, .int .i64, .int .i64]] cs):∃(i:Inbx) (b1 b2:Bool),cs=cellsI b1 b2 i:=by
 obtain ⟨_,_,rfl,h1,_,_,rfl,h2,_,_,rfl,h3,rfl⟩:=h
 obtain ⟨n,rfl, -⟩:=h1
 obtain ⟨l,b1,rfl⟩:=ZaG (fun _ h=>Zte h) h2
 obtain ⟨m,b2,rfl⟩:=ZaG (fun _ h=>Ztd h) h3
 exact ⟨⟨n,l,m⟩,b1,b2,rfl⟩
theorem Ztf {cs:List AV} (h:HasTs [.int .i64, .int .i64, .int .i64, .int .i64, .int .i64, .int .i64, .int .i64, .int .i64, .int .i64, .int .i64] cs):∃p:Envl,cs=encV p:=by
 simp only [HasTs,HasT] at h
 obtain ⟨_,_,rfl,⟨x,rfl,_⟩,_,_,rfl,⟨y,rfl,_⟩,_,_,rfl,⟨z,rfl,_⟩,_,_,rfl,⟨a,rfl,_⟩,_,_,rfl,⟨b,rfl,_⟩,_,_,rfl,⟨c,rfl,_⟩,_,_,rfl,⟨d,rfl,_⟩,_,_,rfl,⟨e,rfl,_⟩,_,_,rfl,⟨f,rfl,_⟩,_,_,rfl,⟨g,rfl,_⟩,rfl⟩:=h
 exact ⟨⟨x,y,z,⟨a,b,c,d,e,f,g⟩⟩,rfl⟩
theorem Ztg {a:AV} (h:HasT (.sl [.int .i64, .int .i64, .int .i64, .int .i64, .int .i64, .int .i64, .int .i64, .int .i64, .int .i64, .int .i64]) a):∃(l:List Envl) (b:Bool),a=SL 10 encV b l:=ZaG (fun _ h=>Ztf h) h
theorem has_Outb {cs:List AV} (h:HasTs [.int .i64, .int .i64, .sl [.int .i64, .int .i64, .int .i64, .int .i64, .int .i64, .int .i64, .int .i64, .int .i64, .int .i64, .int .i64]] cs):∃(o:Outb) (b:Bool),cs=cellsO b o:=by
 obtain ⟨_,_,rfl,h1,_,_,rfl,h2,_,_,rfl,h3,rfl⟩:=h
 obtain ⟨n,rfl, -⟩:=h1
 obtain ⟨m,rfl, -⟩:=h2
 obtain ⟨l,b,rfl⟩:=Ztg h3
 exact ⟨⟨n,m,l⟩,b,rfl⟩
theorem Zth {β:Type} (v:AV) (h:Hp) (k:AV→Hp→Ent→Option β):effD (some (v,EF [])) h k=k v h ([],[]):=by
 simp [effD,ap,wrOf,EF]
theorem ZgP {β:Type} {shp shr:List Sh} {F:Fun} {args:List AV} {v:AV} (hF:∀h,closedX shp shr F args h=some (v,h)) (hi:idss args=[]) (h:Hp) (k:AV→Hp→Ent→Option β):effD (callE (some (closedXD shp shr F)) args h h.length) h k=k v h ([],[]):=by
 show effD (closedXD shp shr F args h h.length) h k=_
 rw [Z1w (hF h) h.length,hi]
 exact Zth v h k
theorem Zti (b1 b2:Bool) (i:Inbx):ids (ib b1 b2 i)=[]:=by simp [ids,idss,SL]
theorem Ztj (b:Bool) (o:Outb):ids (ob b o)=[]:=by simp [ids,idss,SL]
end Go.AM


namespace Go.AM
open Go.Proofs
set_option linter.unusedVariables false
set_option linter.unusedSimpArgs false
set_option linter.constructorNameAsVariable false
set_option maxRecDepth 20000
attribute [local congr] Z0c Z0d Z0e Z0f Z0g Z0h Z0i Z0j Z0k Z0l Z0m Z0n Z0o Z0p Z0q Z0r Z0s Z0t Z0u Z0v Z0w Z0x Z0y Z0z Z0A Z0B Z0C
structure RTk (c1 c2:Bool) (i:Inbx) (e:Envl) (L:List Hrd) (VM:AV) (h:Hp):Prop where
 g0:h[0]? = some (bxI c1 c2 i)
 g1:h[1]? = some (bxE e)
 g2:h[2]? = some (.arr 3 [zI] true false)
 g3:h[3]? = some (.arr 2 [zH] true false)
 g4:h[4]? = some (.arr 2 [encH ⟨e.frm,e.num⟩] true false)
 g8:h[8]? = some (.arr 2 (L.map encH) true false)
 g11:h[11]? = some (.arr 3 [[I i.node, .sl 2 8 0 L.length L.length false,VM]] true false)
def CVm (h:Hp) (V:AV) (M:List Msg):Prop:=(V = .sl 7 10 0 M.length M.length false∧h[10]? = some (.arr 7 (M.map encM) true false))∨V = .lst 7 false (M.map encM)
section
variable {c1 c2:Bool} {i:Inbx} {e:Envl} {L:List Hrd} {VM:AV} {h:Hp} {M:List Msg}
theorem CVm.cvt (C:CVm h VM M):cvt false h VM=some (.lst 7 false (M.map encM)):=by
 rcases C with ⟨rfl,h1⟩ | rfl
 ·exact Z0Y (st:=false) (n:=M.length) (fr:=M.length) (full:=false) h1 (by simp) (by simp) (Z0S fun x=>by simp [encM])
 ·exact Zbj ..
theorem RTk.l01 (R:RTk c1 c2 i e L VM h) (k:Go.AM.K AV):ldK 1 false (.ptr 0 0 1 1) h k=k (SL 2 encH c1 i.heard):=by rw [Z00,R.g0];rfl
theorem RTk.l13 (R:RTk c1 c2 i e L VM h) (k:Go.AM.K AV):ldK 7 true (.ptr 1 0 3 1) h k=k (.agg (encM e.msg)):=by rw [Z00,R.g1];rfl
theorem RTk.l4w (R:RTk c1 c2 i e L VM h) (k:Go.AM.K AV):ldK 2 true (.ptr 4 0 0 1) h k=k (.agg (encH ⟨e.frm,e.num⟩)):=by rw [Z00,R.g4];rfl
theorem RTk.out (R:RTk c1 c2 i e L VM h) (C:CVm h VM M) (fr:Bool):∃h1 h2:Hp,
  (∀(k:AV→Hp→Ent→Option AV),effD (stE 3 (.ptr 2 0 0 1) (.agg [I i.node, .sl 2 8 0 L.length L.length false,VM]) h) h k=k .u h1 ([2],[2])) ∧
  (∀(k:AV→Hp→Ent→Option AV),effD (stE 2 (.ptr 3 0 0 1) (.agg (encH ⟨e.frm,e.num⟩)) h1) h1 k=k .u h2 ([3],[3])) ∧
  (∀k:Go.AM.K AV,ldK 3 true (.ptr 11 0 0 1) h k=k (.agg [I i.node, .sl 2 8 0 L.length L.length false,VM])) ∧
  (∀k:Go.AM.K AV,ldK 3 true (.ptr 2 0 0 1) h2 k=k (.agg [I i.node, .sl 2 8 0 L.length L.length false,VM])) ∧
  (∀k:Go.AM.K AV,ldK 2 true (.ptr 3 0 0 1) h2 k=k (.agg (encH ⟨e.frm,e.num⟩))) ∧
  cvt false h2 (.tup [.agg [I i.node, .sl 2 8 0 L.length L.length false,VM], .agg (encH ⟨e.frm,e.num⟩),B fr,I 0])=some (.tup [.agg [I i.node, .lst 2 false (L.map encH), .lst 7 false (M.map encM)], .agg (encH ⟨e.frm,e.num⟩),B fr,I 0]):=by
 have hs:(∃id n,VM = .sl 7 id 0 n n false)∨∃es,VM = .lst 7 false es:=by
  rcases C with ⟨rfl, -⟩ | rfl
  ·exact .inl ⟨_,_,rfl⟩
  ·exact .inr ⟨_,rfl⟩
 obtain ⟨o,ho⟩:∃o:AObj,o = .arr 3 [[I i.node, .sl 2 8 0 L.length L.length false,VM]] true false:=⟨_,rfl⟩
 have a3:(h.set 2 o)[3]? = some (.arr 2 [zH] true false):=getSetN R.g3 (by omega)
 have C2:CVm ((h.set 2 o).set 3 (.arr 2 [encH ⟨e.frm,e.num⟩] true false)) VM M:=by
  rcases C with ⟨rfl,h1⟩ | rfl
  ·exact .inl ⟨rfl,getSetN (getSetN h1 (by omega)) (by omega)⟩
  ·exact .inr rfl
 have g82:((h.set 2 o).set 3 (.arr 2 [encH ⟨e.frm,e.num⟩] true false))[8]? = some (.arr 2 (L.map encH) true false):=getSetN (getSetN R.g8 (by omega)) (by omega)
 refine ⟨h.set 2 o,(h.set 2 o).set 3 (.arr 2 [encH ⟨e.frm,e.num⟩] true false),fun k => ?_,fun k => ?_,fun k => ?_,fun k => ?_,fun k => ?_, ?_⟩
 ·have:stE 3 (.ptr 2 0 0 1) (.agg [I i.node, .sl 2 8 0 L.length L.length false,VM]) h=some (.u,⟨[(2,o)],[],[2]⟩):=by
   rw [Z0G,R.g2,ho]
   rcases hs with ⟨id,n,rfl⟩ | ⟨es,rfl⟩<;>simp [putAt]
  exact Z0b this k
 ·have:stE 2 (.ptr 3 0 0 1) (.agg (encH ⟨e.frm,e.num⟩)) (h.set 2 o)=some (.u,⟨[(3, .arr 2 [encH ⟨e.frm,e.num⟩] true false)],[],[3]⟩):=by
   rw [Z0G,a3]
   simp [putAt,encH]
  exact Z0b this k
 ·rw [Z00,R.g11];rcases hs with ⟨id,n,rfl⟩ | ⟨es,rfl⟩<;>rfl
 ·have:((h.set 2 o).set 3 (.arr 2 [encH ⟨e.frm,e.num⟩] true false))[2]? = some o:=getSetN (getSelfN R.g2) (by omega)
  rw [Z00,this,ho];rcases hs with ⟨id,n,rfl⟩ | ⟨es,rfl⟩<;>rfl
 ·have:((h.set 2 o).set 3 (.arr 2 [encH ⟨e.frm,e.num⟩] true false))[3]? = some (.arr 2 [encH ⟨e.frm,e.num⟩] true false):=getSelfN a3
  rw [Z00,this];rfl
 ·have cw:cvt false ((h.set 2 o).set 3 (.arr 2 [encH ⟨e.frm,e.num⟩] true false)) (.sl 2 8 0 L.length L.length false)=some (.lst 2 false (L.map encH)):=Z0Y (st:=false) (n:=L.length) (fr:=L.length) (full:=false) g82 (by simp) (by simp) (Z0S fun x=>by simp [encH])
  simp only [Z22,Z18,Z17,Z21,cvt_s,C2.cvt,cw]
  rfl
end
end Go.AM


namespace Go.AM
open Go.Proofs
set_option linter.unusedVariables false
set_option linter.unusedSimpArgs false
set_option linter.constructorNameAsVariable false
set_option maxRecDepth 20000
attribute [local congr] Z0c Z0d Z0e Z0f Z0g Z0h Z0i Z0j Z0k Z0l Z0m Z0n Z0o Z0p Z0q Z0r Z0s Z0t Z0u Z0v Z0w Z0x Z0y Z0z Z0A Z0B Z0C
section
variable {c1 c2:Bool} {i:Inbx} {e:Envl} {L:List Hrd} {VM:AV} {h:Hp} {M:List Msg}
end
end Go.AM


namespace Go.AM
open Go.Proofs
set_option linter.unusedVariables false
set_option linter.unusedSimpArgs false
set_option linter.constructorNameAsVariable false
set_option maxRecDepth 20000
attribute [local congr] Z0c Z0d Z0e Z0f Z0g Z0h Z0i Z0j Z0k Z0l Z0m Z0n Z0o Z0p Z0q Z0r Z0s Z0t Z0u Z0v Z0w Z0x Z0y Z0z Z0A Z0B Z0C
end Go.AM


namespace Go.AM
open Go.Proofs
set_option linter.unusedVariables false
set_option linter.unusedSimpArgs false
set_option linter.constructorNameAsVariable false
set_option maxRecDepth 20000
attribute [local congr] Z0c Z0d Z0e Z0f Z0g Z0h Z0i Z0j Z0k Z0l Z0m Z0n Z0o Z0p Z0q Z0r Z0s Z0t Z0u Z0v Z0w Z0x Z0y Z0z Z0A Z0B Z0C
end Go.AM


namespace Go.AM
open Go.Proofs
set_option linter.unusedVariables false
set_option linter.unusedSimpArgs false
set_option linter.constructorNameAsVariable false
set_option maxRecDepth 20000
attribute [local congr] Z0c Z0d Z0e Z0f Z0g Z0h Z0i Z0j Z0k Z0l Z0m Z0n Z0o Z0p Z0q Z0r Z0s Z0t Z0u Z0v Z0w Z0x Z0y Z0z Z0A Z0B Z0C
end Go.AM


namespace Go.AM
open Go.Proofs
set_option linter.unusedVariables false
set_option linter.unusedSimpArgs false
set_option linter.constructorNameAsVariable false
set_option maxRecDepth 20000
attribute [local congr] Z0c Z0d Z0e Z0f Z0g Z0h Z0i Z0j Z0k Z0l Z0m Z0n Z0o Z0p Z0q Z0r Z0s Z0t Z0u Z0v Z0w Z0x Z0y Z0z Z0A Z0B Z0C
end Go.AM


namespace Go.AM
open Go.Proofs
set_option linter.unusedVariables false
set_option linter.unusedSimpArgs false
set_option linter.constructorNameAsVariable false
theorem Z7x {l:List Hrd} {x y:Hrd}:y ∈ insH l x↔y=x∨y ∈ l:=by
 unfold insH
 rw [List.mem_append,List.mem_cons]
 have:y ∈ l↔y ∈ l.take (posH l x)∨y ∈ l.drop (posH l x):=by rw [← List.mem_append,List.take_append_drop]
 rw [this]
 constructor
 ·rintro (h | h | h)
  ·exact .inr (.inl h)
  ·exact .inl h
  ·exact .inr (.inr h)
 ·rintro (h | h | h)
  ·exact .inr (.inl h)
  ·exact .inl h
  ·exact .inr (.inr h)
theorem Ztk {l:List Hrd} {x:Hrd} (hs:AscH l) (hn:x ∉ l):AscH (insH l x):=by
 have hlo:∀y ∈ l.take (posH l x),ltH y x=true:=fun y hy=>by
  obtain ⟨j,hj,he⟩:=List.mem_iff_getElem.1 hy
  rw [List.length_take] at hj
  rw [List.getElem_take] at he
  have:=Zc7 (x:=x) hs (j:=j) (y:=y) (by rw [List.getElem?_eq_some_iff];exact ⟨by omega,he⟩)
  rw [this];simp;omega
 have hhi:∀y ∈ l.drop (posH l x),ltH x y=true:=fun y hy=>by
  obtain ⟨j,hj,he⟩:=List.mem_iff_getElem.1 hy
  rw [List.length_drop] at hj
  rw [List.getElem_drop] at he
  have h1:=Zc7 (x:=x) hs (j:=posH l x+j) (y:=y) (by rw [List.getElem?_eq_some_iff];exact ⟨by omega,he⟩)
  have h2:ltH y x=false:=by rw [h1];simp
  cases q:ltH x y with
  | true=>rfl
  | false=>
   have:=ZsN q h2
   subst this
   exact absurd (List.mem_of_mem_drop hy) hn
 have hsp:AscH (l.take (posH l x)++l.drop (posH l x)):=by rw [List.take_append_drop];exact hs
 obtain ⟨p1,p2,p3⟩:=List.pairwise_append.1 hsp
 unfold insH
 refine List.pairwise_append.2 ⟨p1,List.pairwise_cons.2 ⟨hhi,p2⟩,fun a ha b hb => ?_⟩
 rcases List.mem_cons.1 hb with rfl | hb
 ·exact hlo a ha
 ·exact p3 a ha b hb
theorem ZgQ {node:Int}:∀ {l:List Hrd} {p:Option Hrd},AscH l→(∀q,p=some q→∀x ∈ l,ltH q x=true)→(∀x ∈ l,isNode x.frm=true∧1≤x.num∧x.num≤1073741824∧x.frm≠node)→chkH node p l=0
 | [],p,_,_,_=>Zgs node p
 | x::r,p,hs,hp,hv=>by
  obtain ⟨v1,v2,v3,v4⟩:=hv x (by simp)
  obtain ⟨q1,q2⟩:=List.pairwise_cons.1 hs
  have e1:(!isNode x.frm||decide (x.num<1)||decide (x.num > 1073741824))=false:=by
   rw [v1];simp;omega
  have e2:lastLt p x=false:=by
   cases p with
   | none=>rfl
   | some q=>simp [lastLt,hp q rfl x (by simp)]
  rw [Ztb,if_neg (by rw [e1];simp),if_neg v4,if_neg (by rw [e2];simp)]
  exact ZgQ q2 (fun q hq y hy=>by injection hq with hq;subst hq;exact q1 y hy) (fun y hy=>hv y (by simp [hy]))
def inI (i:Inbx) (e:Envl):Inbx:=⟨i.node,insH i.heard ⟨e.frm,e.num⟩,if i.msgs.contains e.msg=true then i.msgs else normL (i.msgs++[e.msg])⟩
theorem Zce (i:Inbx) (e:Envl):((takeI i e).2.2.2≠0∧(takeI i e).1=⟨0,[],[]⟩∧(takeI i e).2.2.1=false) ∨
  (chkI i=0∧formE e=0∧e.to=i.node∧(⟨e.frm,e.num⟩:Hrd) ∈ i.heard∧takeI i e=(i,⟨e.frm,e.num⟩,false,0)) ∨
  (chkI i=0∧formE e=0∧e.to=i.node∧(⟨e.frm,e.num⟩:Hrd) ∉ i.heard∧i.heard.length≠256∧(i.msgs.contains e.msg=false→i.msgs.length≠64)∧takeI i e=(inI i e,⟨e.frm,e.num⟩,true,0)):=by
 unfold takeI
 by_cases h1:chkI i=0
 ·rw [if_neg (fun hh=>hh h1)]
  by_cases h2:formE e=0
  ·rw [if_neg (fun hh=>hh h2)]
   by_cases h3:e.to=i.node
   ·rw [if_neg (fun hh=>hh h3)]
    by_cases h4:i.heard.contains ⟨e.frm,e.num⟩=true
    ·rw [if_pos h4]
     exact .inr (.inl ⟨h1,h2,h3,List.contains_iff_mem.1 h4,rfl⟩)
    ·rw [if_neg h4]
     by_cases h5:i.heard.length=256∨(i.msgs.contains e.msg=false∧i.msgs.length=64)
     ·rw [if_pos h5]
      exact .inl ⟨by simp,rfl,rfl⟩
     ·rw [if_neg h5]
      exact .inr (.inr ⟨h1,h2,h3,fun hh=>h4 (List.contains_iff_mem.2 hh),fun hh=>h5 (.inl hh),fun h6 h7=>h5 (.inr ⟨h6,h7⟩),rfl⟩)
   ·rw [if_pos h3];exact .inl ⟨by simp,rfl,rfl⟩
  ·rw [if_pos h2];exact .inl ⟨h2,rfl,rfl⟩
 ·rw [if_pos h1];exact .inl ⟨by simp,rfl,rfl⟩
theorem ZaH (i:Inbx) (e:Envl) (m:Msg):m ∈ (inI i e).msgs↔m ∈ i.msgs∨m=e.msg:=by
 unfold inI
 dsimp only
 by_cases h:i.msgs.contains e.msg=true
 ·rw [if_pos h]
  constructor
  ·exact .inl
  ·rintro (h1 | rfl)
   ·exact h1
   ·exact List.contains_iff_mem.1 h
 ·rw [if_neg h,Zgl,List.mem_append,List.mem_singleton]
theorem Ztl (i:Inbx) (e:Envl) (h:normL i.msgs=i.msgs):normL (inI i e).msgs=(inI i e).msgs:=by
 unfold inI
 dsimp only
 by_cases q:i.msgs.contains e.msg=true
 ·rw [if_pos q];exact h
 ·rw [if_neg q];exact Zaw (Zgk _)
theorem ZgR {i:Inbx} {e:Envl} (h1:chkI i=0) (h2:formE e=0) (h3:e.to=i.node) (h4:(⟨e.frm,e.num⟩:Hrd) ∉ i.heard) (h5:i.heard.length≠256) (h6:i.msgs.contains e.msg=false→i.msgs.length≠64):chkI (inI i e)=0:=by
 obtain ⟨k1,k2,k3,k4,k5,k6,k7⟩:=Zc8 h1
 obtain ⟨hasc, -,hval⟩:=ZaB k4
 obtain ⟨m1,m2,m3,m4,m5,m6⟩:=Zc9 h2
 have hlen:(inI i e).heard.length=i.heard.length+1:=Zca _ _
 have hml:(inI i e).msgs.length≤64∧(inI i e).msgs.length≤i.msgs.length+1:=by
  unfold inI
  dsimp only
  by_cases q:i.msgs.contains e.msg=true
  ·rw [if_pos q];omega
  ·rw [if_neg q]
   have:=h6 (by simpa using q)
   have l:=Zc1 (i.msgs++[e.msg])
   simp only [List.length_append,List.length_singleton] at l
   omega
 refine ZaC k1 (by omega) hml.1 (ZgQ (Ztk hasc h4) (fun q hq=>by cases hq) fun x hx => ?_) (Zax.2 ⟨hml.1,fun m hm => ?_⟩) (Ztl i e k6) (by omega)
 ·rcases Z7x.1 hx with rfl | hx
  ·exact ⟨m2,m4,m5,fun hh=>m6 (hh.trans h3.symm)⟩
  ·exact hval x hx
 ·rcases (ZaH i e m).1 hm with hm | rfl
  ·exact (Zax.1 k5).2 m hm
  ·exact m1
end Go.AM


namespace Go.AM
open Go.Proofs
set_option linter.unusedVariables false
set_option linter.unusedSimpArgs false
set_option linter.constructorNameAsVariable false
set_option maxRecDepth 20000
attribute [local congr] Z0c Z0d Z0e Z0f Z0g Z0h Z0i Z0j Z0k Z0l Z0m Z0n Z0o Z0p Z0q Z0r Z0s Z0t Z0u Z0v Z0w Z0x Z0y Z0z Z0A Z0B Z0C
def smallI (i:Inbx):Bool:=decide (i.heard.length≤20)&&decide (i.msgs.length≤20)
theorem Ztm (b1 b2:Bool) (i:Inbx) (h:Hp):Z7n [ib b1 b2 i] h=some (B (smallI i),h):=by
 refine Zrc (a0:=ib b1 b2 i) rfl ?_ h
 rw [show nrm (.a [none,some 2,some 7]) (ib b1 b2 i)=ib b1 b2 i from rfl]
 have x0:∀k:AV→Hp→Option AV,effK (boxE 3 (ib b1 b2 i) ([]:Hp).length) [] k=k (.ptr 0 0 0 1) [bxI b1 b2 i]:=fun k=>rfl
 have l1:∀k:Go.AM.K AV,ldK 1 false (.ptr 0 0 1 1) [bxI b1 b2 i] k=k (SL 2 encH b1 i.heard):=fun k=>rfl
 have l2:∀k:Go.AM.K AV,ldK 1 false (.ptr 0 0 2 1) [bxI b1 b2 i] k=k (SL 7 encM b2 i.msgs):=fun k=>rfl
 have la:∀k:Go.AM.K AV,lenK (SL 2 encH b1 i.heard) k=k (I i.heard.length):=fun k=>by rw [SL,Z0F,List.length_map]
 have lb:∀k:Go.AM.K AV,lenK (SL 7 encM b2 i.msgs) k=k (I i.msgs.length):=fun k=>by rw [SL,Z0F,List.length_map]
 simp -implicitDefEqProofs only [Z80,x0,Z0a,Nat.zero_add,l1,l2,la,lb,Z16,Z0Z]
 unfold smallI
 have e1:decide ((i.heard.length:Int)≤20)=decide (i.heard.length≤20):=by by_cases q:i.heard.length≤20<;>simp [q]<;>omega
 have e2:decide ((i.msgs.length:Int)≤20)=decide (i.msgs.length≤20):=by by_cases q:i.msgs.length≤20<;>simp [q]<;>omega
 rw [e1,e2]
 rfl
end Go.AM


namespace Go.AM
open Go.Proofs
set_option linter.unusedVariables false
set_option linter.unusedSimpArgs false
set_option linter.constructorNameAsVariable false
def stepT (X:Inbx) (e:Envl):Inbx:=if (takeI X e).2.2.2=0 then (takeI X e).1 else X
theorem Ztn {X:Inbx} {e:Envl} (h:chkI X≠0∨formE e≠0∨e.to≠X.node):stepT X e=X:=by
 unfold stepT
 rcases Zce X e with ⟨h1, -⟩ | ⟨h1,h2,h3, -⟩ | ⟨h1,h2,h3, -⟩
 ·rw [if_neg h1]
 ·rcases h with h | h | h
  ·exact absurd h1 h
  ·exact absurd h2 h
  ·exact absurd h3 h
 ·rcases h with h | h | h
  ·exact absurd h1 h
  ·exact absurd h2 h
  ·exact absurd h3 h
abbrev hdE (e:Envl):Hrd:=⟨e.frm,e.num⟩
structure Behind (i X:Inbx) (P:List Envl):Prop where
 node:X.node=i.node
 ok:chkI X=0
 hrd:∀h,h ∈ X.heard↔h ∈ i.heard∨∃e ∈ P,formE e=0∧e.to=i.node∧hdE e=h
 msg:∀m,m ∈ X.msgs↔m ∈ i.msgs∨∃e ∈ P,formE e=0∧e.to=i.node∧hdE e ∉ i.heard∧e.msg=m
 lh:X.heard.length≤i.heard.length+P.length
 lm:X.msgs.length≤i.msgs.length+P.length
theorem Behind.step {i X:Inbx} {P:List Envl} {e:Envl} (B:Behind i X P) (hs:smallI i=true) (hP:P.length<40) (hu:∀e' ∈ P,hdE e'=hdE e→e'=e):Behind i (stepT X e) (P++[e]):=by
 have hs':=hs
 unfold smallI at hs'
 simp only [Bool.and_eq_true,decide_eq_true_eq] at hs'
 have lh:=B.lh
 have lm:=B.lm
 by_cases g:formE e=0∧e.to=i.node
 ·obtain ⟨g1,g2⟩:=g
  rcases Zce X e with ⟨h1, -⟩ | ⟨h1,h2,h3,h4,h5⟩ | ⟨h1,h2,h3,h4,h5,h6,h7⟩
  ·exfalso
   apply h1
   unfold takeI
   rw [if_neg (fun hh=>hh B.ok),if_neg (fun hh=>hh g1),if_neg (fun hh=>hh (g2.trans B.node.symm))]
   by_cases q:X.heard.contains (hdE e)=true
   ·rw [if_pos q]
   ·rw [if_neg q,if_neg (by omega)]
  ·have:stepT X e=X:=by unfold stepT;rw [h5];rfl
   rw [this]
   refine ⟨B.node,B.ok,fun h => ?_,fun m => ?_,by simp;omega,by simp;omega⟩
   ·rw [B.hrd]
    constructor
    ·rintro (h | ⟨e',he,r⟩)
     ·exact .inl h
     ·exact .inr ⟨e',by simp [he],r⟩
    ·rintro (h | ⟨e',he,r1,r2,r3⟩)
     ·exact .inl h
     ·rcases List.mem_append.1 he with he | he
      ·exact .inr ⟨e',he,r1,r2,r3⟩
      ·simp only [List.mem_singleton] at he;subst he
       rw [← r3];exact (B.hrd _).1 h4
   ·rw [B.msg]
    constructor
    ·rintro (h | ⟨e',he,r⟩)
     ·exact .inl h
     ·exact .inr ⟨e',by simp [he],r⟩
    ·rintro (h | ⟨e',he,r1,r2,r3,r4⟩)
     ·exact .inl h
     ·rcases List.mem_append.1 he with he | he
      ·exact .inr ⟨e',he,r1,r2,r3,r4⟩
      ·simp only [List.mem_singleton] at he;subst he
       rcases (B.hrd _).1 h4 with q | ⟨e2,he2,q1,q2,q3⟩
       ·exact absurd q r3
       ·have:=hu e2 he2 q3
        subst this
        exact .inr ⟨e2,he2,q1,q2,r3,r4⟩
  ·have:stepT X e=inI X e:=by unfold stepT;rw [h7];rfl
   rw [this]
   have hlen:=Zcb X e
   rw [h7] at hlen
   dsimp only at hlen
   refine ⟨B.node,ZgR h1 h2 h3 h4 h5 h6,fun h => ?_,fun m => ?_,by simp;omega,by simp;omega⟩
   ·rw [show h ∈ (inI X e).heard↔h=hdE e∨h ∈ X.heard from Z7x,B.hrd]
    constructor
    ·rintro (h | h | ⟨e',he,r⟩)
     ·exact .inr ⟨e,by simp,g1,g2,h.symm⟩
     ·exact .inl h
     ·exact .inr ⟨e',by simp [he],r⟩
    ·rintro (h | ⟨e',he,r1,r2,r3⟩)
     ·exact .inr (.inl h)
     ·rcases List.mem_append.1 he with he | he
      ·exact .inr (.inr ⟨e',he,r1,r2,r3⟩)
      ·simp only [List.mem_singleton] at he;subst he
       exact .inl r3.symm
   ·rw [ZaH,B.msg]
    constructor
    ·rintro ((h | ⟨e',he,r⟩) | h)
     ·exact .inl h
     ·exact .inr ⟨e',by simp [he],r⟩
     ·exact .inr ⟨e,by simp,g1,g2,fun hh=>h4 ((B.hrd _).2 (.inl hh)),h.symm⟩
    ·rintro (h | ⟨e',he,r1,r2,r3,r4⟩)
     ·exact .inl (.inl h)
     ·rcases List.mem_append.1 he with he | he
      ·exact .inl (.inr ⟨e',he,r1,r2,r3,r4⟩)
      ·simp only [List.mem_singleton] at he;subst he
       exact .inr r4.symm
 ·have:stepT X e=X:=Ztn (by
   by_cases q:formE e=0
   ·exact .inr (.inr fun hh=>g ⟨q,hh.trans B.node⟩)
   ·exact .inr (.inl q))
  rw [this]
  refine ⟨B.node,B.ok,fun h => ?_,fun m => ?_,by simp;omega,by simp;omega⟩
  ·rw [B.hrd]
   constructor
   ·rintro (h | ⟨e',he,r⟩)
    ·exact .inl h
    ·exact .inr ⟨e',by simp [he],r⟩
   ·rintro (h | ⟨e',he,r1,r2,r3⟩)
    ·exact .inl h
    ·rcases List.mem_append.1 he with he | he
     ·exact .inr ⟨e',he,r1,r2,r3⟩
     ·simp only [List.mem_singleton] at he;subst he
      exact absurd ⟨r1,r2⟩ g
  ·rw [B.msg]
   constructor
   ·rintro (h | ⟨e',he,r⟩)
    ·exact .inl h
    ·exact .inr ⟨e',by simp [he],r⟩
   ·rintro (h | ⟨e',he,r1,r2,r3⟩)
    ·exact .inl h
    ·rcases List.mem_append.1 he with he | he
     ·exact .inr ⟨e',he,r1,r2,r3⟩
     ·simp only [List.mem_singleton] at he;subst he
      exact absurd ⟨r1,r2⟩ g
theorem Behind.all {i:Inbx} {L:List Envl} (hs:smallI i=true) (hL:L.length<40) (hu:∀a ∈ L,∀b ∈ L,hdE a=hdE b→a=b):∀(post pre:List Envl) (X:Inbx),L=pre++post→Behind i X pre→Behind i (post.foldl stepT X) L
 | [],pre,X,hc,B=>by
  rw [List.append_nil] at hc
  subst hc
  exact B
 | e::post,pre,X,hc,B=>by
  have hlen:L.length=pre.length+post.length+1:=by rw [hc];simp;omega
  exact Behind.all hs hL hu post (pre++[e]) (stepT X e) (by simp [hc]) (B.step hs (by omega) fun e' he' hh=>hu e' (by rw [hc];simp [he']) e (by rw [hc];simp) hh)
end Go.AM


namespace Go.AM
open Go.Proofs
set_option linter.unusedVariables false
set_option linter.unusedSimpArgs false
set_option linter.constructorNameAsVariable false
theorem ZgS {node next:Int}:∀ {l:List Envl} {p:Option Int},l.Pairwise (fun a b=>a.num<b.num)→(∀q,p=some q→∀x ∈ l,q<x.num)→(∀x ∈ l,formE x=0∧x.frm=node∧x.num<next)→chkP node next p l=0
 | [],p,_,_,_=>Zgo node next p
 | x::r,p,hs,hp,hv=>by
  obtain ⟨v1,v2,v3⟩:=hv x (by simp)
  obtain ⟨q1,q2⟩:=List.pairwise_cons.1 hs
  rw [Zgn,if_neg (fun hh=>hh v1),if_neg (fun hh=>hh v2)]
  refine (if_neg ?_).trans ?_
  ·cases p with
   | none=>simp;omega
   | some q=>have:=hp q rfl x (by simp);simp;omega
  exact ZgS q2 (fun q hq y hy=>by injection hq with hq;subst hq;exact q1 y hy) (fun y hy=>hv y (by simp [hy]))
theorem Zto {o:Outb} (h:chkO o=0) (f:Envl→Bool):chkO ⟨o.node,o.next,o.pend.filter f⟩=0:=by
 obtain ⟨h1,h2,h3,h4,h5⟩:=Z1U h
 obtain ⟨k1,k2,k3⟩:=Z4d h5
 unfold chkO
 have e:(!isNode o.node||decide (o.next<1)||decide (o.next > 1073741825))=false:=by rw [h1];simp;omega
 have hl:=List.length_filter_le f o.pend
 rw [if_neg (by rw [e];simp),if_neg (by dsimp only;omega)]
 exact ZgS (k1.filter _) (fun q hq=>by cases hq) (fun x hx=>k3 x (List.mem_filter.1 hx).1)
theorem Ztp {j:Inbx} {x:Envl} (h:(takeI j x).2.2.2=0):chkI j=0∧x.to=j.node∧(takeI j x).2.1=hdE x∧(takeI j x).1.node=j.node∧chkI (takeI j x).1=0∧hdE x ∈ (takeI j x).1.heard∧(∀h ∈ j.heard,h ∈ (takeI j x).1.heard)∧(∀m ∈ j.msgs,m ∈ (takeI j x).1.msgs) ∧
  ∀h ∈ (takeI j x).1.heard,h ∈ j.heard∨(hdE x=h∧x.msg ∈ (takeI j x).1.msgs):=by
 rcases Zce j x with ⟨h1, -⟩ | ⟨h1,h2,h3,h4,h5⟩ | ⟨h1,h2,h3,h4,h5,h6,h7⟩
 ·exact absurd h h1
 ·rw [h5]
  exact ⟨h1,h3,rfl,rfl,h1,h4,fun _ q=>q,fun _ q=>q,fun _ q => .inl q⟩
 ·rw [h7]
  refine ⟨h1,h3,rfl,rfl,ZgR h1 h2 h3 h4 h5 h6,Z7x.2 (.inl rfl),fun _ q=>Z7x.2 (.inr q),fun m hm=>(ZaH j x m).2 (.inl hm),fun h q => ?_⟩
  rcases Z7x.1 q with q | q
  ·exact .inr ⟨q.symm,(ZaH j x _).2 (.inr rfl)⟩
  ·exact .inl q
theorem Ztq {p:Outb} {hd:Hrd} (h:chkO p=0) (h1:hd.frm=p.node) (h2:1≤hd.num) (h3:hd.num<p.next):(heardO p hd).1=⟨p.node,p.next,p.pend.filter fun x => !(x.num==hd.num)⟩:=by
 unfold heardO
 have e:(decide (hd.num<1)||decide (hd.num≥p.next))=false:=by simp;omega
 rw [if_neg (fun hh=>hh h),if_neg (fun hh=>hh h1),if_neg (by rw [e];simp)]
structure ExF (p:Outb) (j:Inbx) (p':Outb) (j':Inbx) (post:List Envl):Prop where
 nd:p'.node=p.node
 nx:p'.next=p.next
 jn:j'.node=j.node
 co:chkO p'=0
 ci:chkI j'=0
 sub:∀y ∈ p'.pend,y ∈ p.pend
 gone:∀y ∈ p.pend,y ∉ p'.pend→hdE y ∈ j'.heard∧∃x ∈ post,x.num=y.num
 hk:∀h ∈ j.heard,h ∈ j'.heard
 mm:∀m ∈ j.msgs,m ∈ j'.msgs
 hb:∀h ∈ j'.heard,h ∈ j.heard∨∃x ∈ post,hdE x=h∧x.msg ∈ j'.msgs
theorem Zcf {ar an:Nat}:∀(post:List Envl) (k:Nat) (p:Outb) (j:Inbx),chkO p=0→chkI j=0→(∀x ∈ post,x.frm=p.node∧1≤x.num∧x.num<p.next)→(exL ar an k post p j).2.2=0→
  ExF p j (exL ar an k post p j).1 (exL ar an k post p j).2.1 post∧(∀x ∈ post,x.num ∉ []) ∧
   ((∀m,k≤m→m<k+post.length→bitN ar m=true∧bitN an m=true)→∀x ∈ post,hdE x ∈ (exL ar an k post p j).2.1.heard∧∀y ∈ (exL ar an k post p j).1.pend,y.num≠x.num)
 | [],k,p,j,hp,hj,_,_=>⟨⟨rfl,rfl,rfl,hp,hj,fun _ q=>q,fun _ q r=>absurd q r,fun _ q=>q,fun _ q=>q,fun _ q => .inl q⟩,by simp,by simp⟩
 | x::r,k,p,j,hp,hj,hv,he=>by
  rw [exL] at he ⊢
  by_cases q1:bitN ar k=false
  ·rw [if_pos q1] at he ⊢
   obtain ⟨F, -,G⟩:=Zcf r (k+1) p j hp hj (fun y hy=>hv y (by simp [hy])) he
   refine ⟨⟨F.nd,F.nx,F.jn,F.co,F.ci,F.sub,fun y h1 h2 => ?_,F.hk,F.mm,fun h q => ?_⟩,by simp,fun hb => ?_⟩
   ·obtain ⟨a,b,c,d⟩:=F.gone y h1 h2
    exact ⟨a,b,by simp [c],d⟩
   ·rcases F.hb h q with q | ⟨y,hy,r⟩
    ·exact .inl q
    ·exact .inr ⟨y,by simp [hy],r⟩
   ·have:=(hb k (Nat.le_refl _) (by simp)).1
    rw [q1] at this;cases this
  ·rw [if_neg q1] at he ⊢
   by_cases q2:(takeI j x).2.2.2≠0
   ·rw [if_pos q2] at he
    exact absurd he q2
   ·rw [if_neg q2] at he ⊢
    have q2':(takeI j x).2.2.2=0:=Classical.byContradiction q2
    obtain ⟨-,t2,t3,t4,t5,t6,t7,t8,t9⟩:=Ztp q2'
    rw [t3] at he ⊢
    obtain ⟨v1,v2,v3⟩:=hv x (by simp)
    obtain ⟨p1,hp1⟩:∃p1,p1=if bitN an k=true then (heardO p (hdE x)).1 else p:=⟨_,rfl⟩
    have f1:p1.node=p.node∧p1.next=p.next∧chkO p1=0∧(∀y ∈ p1.pend,y ∈ p.pend)∧(∀y ∈ p.pend,y ∉ p1.pend→y.num=x.num)∧(bitN an k=true→∀y ∈ p1.pend,y.num≠x.num):=by
     rw [hp1]
     by_cases q3:bitN an k=true
     ·rw [if_pos q3,Ztq hp v1 v2 v3]
      refine ⟨rfl,rfl,Zto hp _,fun y hy=>(List.mem_filter.1 hy).1,fun y hy hn => ?_,fun _ y hy => ?_⟩
      ·refine Classical.byContradiction fun hc=>hn (List.mem_filter.2 ⟨hy, ?_⟩)
       simp [hc]
      ·have:=(List.mem_filter.1 hy).2
       simpa using this
     ·rw [if_neg q3]
      exact ⟨rfl,rfl,hp,fun _ q=>q,fun _ q r=>absurd q r,fun q=>absurd q q3⟩
    obtain ⟨g1,g2,g3,g4,g5,g6⟩:=f1
    rw [← hp1] at he ⊢
    obtain ⟨F, -,G⟩:=Zcf r (k+1) p1 (takeI j x).1 g3 t5 (fun y hy=>by rw [g1,g2];exact hv y (by simp [hy])) he
    refine ⟨⟨F.nd.trans g1,F.nx.trans g2,F.jn.trans t4,F.co,F.ci,fun y hy=>g4 y (F.sub y hy),fun y h1 h2 => ?_,fun h q=>F.hk h (t7 h q),fun m q=>F.mm m (t8 m q),fun h q => ?_⟩,by simp,fun hb y hy => ?_⟩
    ·by_cases hy:y ∈ p1.pend
     ·obtain ⟨a,b,c,d⟩:=F.gone y hy h2
      exact ⟨a,b,by simp [c],d⟩
     ·have hn:=g5 y h1 hy
      obtain ⟨-, -, -, -,cp⟩:=Z1U hp
      have hyf:=((Z4d cp).2.2 y h1).2.1
      have:hdE y=hdE x:=by simp only [hdE,hn,hyf,v1]
      exact ⟨by rw [this];exact F.hk _ t6,x,by simp,hn.symm⟩
    ·rcases F.hb h q with q | ⟨y,hy,r⟩
     ·rcases t9 h q with q | ⟨a,b⟩
      ·exact .inl q
      ·exact .inr ⟨x,by simp,a,F.mm _ b⟩
     ·exact .inr ⟨y,by simp [hy],r⟩
    ·rcases List.mem_cons.1 hy with rfl | hy
     ·refine ⟨F.hk _ t6,fun z hz => ?_⟩
      exact g6 (hb k (Nat.le_refl _) (by simp)).2 z (F.sub z hz)
     ·exact G (fun m h1 h2=>hb m (by omega) (by simp;omega)) y hy
theorem ZaI {o:Outb} {i:Inbx} {ar an:Nat} (h:(exO o i ar an).2.2=0):chkO o=0∧chkI i=0∧ExF o i (exO o i ar an).1 (exO o i ar an).2.1 (againL i.node o.pend) ∧
  ((∀m,m<(againL i.node o.pend).length→bitN ar m=true∧bitN an m=true)→∀x ∈ againL i.node o.pend,hdE x ∈ (exO o i ar an).2.1.heard∧∀y ∈ (exO o i ar an).1.pend,y.num≠x.num):=by
 unfold exO at h ⊢
 by_cases q1:chkO o≠0∨chkI i≠0
 ·rw [if_pos q1] at h;exact absurd h (by decide)
 ·rw [if_neg q1] at h ⊢
  have c1:chkO o=0:=Classical.byContradiction fun hh=>q1 (.inl hh)
  have c2:chkI i=0:=Classical.byContradiction fun hh=>q1 (.inr hh)
  by_cases q2:o.node=i.node
  ·rw [if_pos q2] at h;exact absurd h (by decide)
  ·rw [if_neg q2] at h ⊢
   obtain ⟨-, -, -, -,cp⟩:=Z1U c1
   have hval:=(Z4d cp).2.2
   obtain ⟨F, -,G⟩:=Zcf (againL i.node o.pend) 0 o i c1 c2 (fun x hx=>by
    have hm:=(List.mem_filter.1 hx).1
    obtain ⟨a,b,c⟩:=hval x hm
    obtain ⟨-, -, -,d, -⟩:=Zc9 a
    exact ⟨b,d,c⟩) h
   exact ⟨c1,c2,F,fun hb=>G fun m _ h2=>hb m (by omega)⟩
theorem Zcg {ar an:Nat}:∀(post:List Envl) (k:Nat) (p:Outb) (j:Inbx),(exL ar an k post p j).2.2≠0→(exL ar an k post p j).1=⟨0,0,[]⟩∧(exL ar an k post p j).2.1=⟨0,[],[]⟩
 | [],k,p,j,h=>by rw [exL] at h;exact absurd rfl h
 | x::r,k,p,j,h=>by
  rw [exL] at h ⊢
  by_cases q1:bitN ar k=false
  ·rw [if_pos q1] at h ⊢;exact Zcg r _ _ _ h
  ·rw [if_neg q1] at h ⊢
   by_cases q2:(takeI j x).2.2.2≠0
   ·rw [if_pos q2];exact ⟨rfl,rfl⟩
   ·rw [if_neg q2] at h ⊢;exact Zcg r _ _ _ h
theorem Ztr {o:Outb} {i:Inbx} {ar an:Nat} (h:(exO o i ar an).2.2≠0):(exO o i ar an).1=⟨0,0,[]⟩∧(exO o i ar an).2.1=⟨0,[],[]⟩:=by
 unfold exO at h ⊢
 by_cases q1:chkO o≠0∨chkI i≠0
 ·rw [if_pos q1];exact ⟨rfl,rfl⟩
 ·rw [if_neg q1] at h ⊢
  by_cases q2:o.node=i.node
  ·rw [if_pos q2];exact ⟨rfl,rfl⟩
  ·rw [if_neg q2] at h ⊢;exact Zcg _ _ _ _ h
theorem ZgT {o:Outb} (h:chkO o=0) {x y:Envl} (hx:x ∈ o.pend) (hy:y ∈ o.pend) (e:x.num=y.num):x=y:=by
 obtain ⟨-, -, -, -,cp⟩:=Z1U h
 have hs:=(Z4d cp).1
 obtain ⟨j,hj⟩:=List.mem_iff_getElem?.1 hx
 obtain ⟨k,hk⟩:=List.mem_iff_getElem?.1 hy
 obtain ⟨j1,rfl⟩:=List.getElem?_eq_some_iff.1 hj
 obtain ⟨k1,rfl⟩:=List.getElem?_eq_some_iff.1 hk
 rcases Nat.lt_trichotomy j k with q | q | q
 ·have:=List.pairwise_iff_getElem.1 hs _ _ j1 k1 q;omega
 ·subst q;rfl
 ·have:=List.pairwise_iff_getElem.1 hs _ _ k1 j1 q;omega
structure Aft (o:Outb) (i:Inbx) (p:Outb) (j:Inbx):Prop where
 nd:p.node=o.node
 nx:p.next=o.next
 jn:j.node=i.node
 sub:∀y ∈ p.pend,y ∈ o.pend
 gone:∀y ∈ o.pend,y ∉ p.pend→y.to=i.node∧hdE y ∈ j.heard
 mm:∀m ∈ i.msgs,m ∈ j.msgs
 hb:∀h ∈ j.heard,h ∈ i.heard∨∃x ∈ o.pend,hdE x=h∧x.msg ∈ j.msgs
theorem Aft.refl (o:Outb) (i:Inbx):Aft o i o i:=⟨rfl,rfl,rfl,fun _ q=>q,fun _ q r=>absurd q r,fun _ q=>q,fun _ q => .inl q⟩
theorem Aft.step {o:Outb} {i:Inbx} {p:Outb} {j:Inbx} {ar an:Nat} (A:Aft o i p j) (hc:chkO o=0) (h:(exO p j ar an).2.2=0):Aft o i (exO p j ar an).1 (exO p j ar an).2.1:=by
 obtain ⟨c1,c2,F, -⟩:=ZaI h
 refine ⟨F.nd.trans A.nd,F.nx.trans A.nx,F.jn.trans A.jn,fun y hy=>A.sub y (F.sub y hy),fun y hy hn => ?_,fun m hm=>F.mm m (A.mm m hm),fun h hh => ?_⟩
 ·by_cases q:y ∈ p.pend
  ·obtain ⟨g1,x,hx,g2⟩:=F.gone y q hn
   obtain ⟨hxp,hxt⟩:=List.mem_filter.1 hx
   have:x=y:=ZgT c1 hxp q g2
   subst this
   exact ⟨by rw [← A.jn];exact eq_of_beq hxt,g1⟩
  ·obtain ⟨a,b⟩:=A.gone y hy q
   exact ⟨a,F.hk _ b⟩
 ·rcases F.hb h hh with q | ⟨x,hx,e,m⟩
  ·rcases A.hb h q with q | ⟨x,hx,e,m⟩
   ·exact .inl q
   ·exact .inr ⟨x,hx,e,F.mm _ m⟩
  ·exact .inr ⟨x,A.sub x (List.mem_filter.1 hx).1,e,m⟩
theorem ZgU:∀m,m<64→bitN 18446744073709551615 m=true:=by
 have:∀m:Fin 64,bitN 18446744073709551615 m.1=true:=by decide +kernel
 exact fun m hm=>this ⟨m,hm⟩
theorem Aft.last {o:Outb} {i:Inbx} {p:Outb} {j:Inbx} (A:Aft o i p j) (hc:chkO o=0) (hi:∀h ∈ i.heard,h.frm≠o.node) (h:(exO p j 18446744073709551615 18446744073709551615).2.2=0):∀y ∈ o.pend,
  (y.to=i.node→y ∉ (exO p j 18446744073709551615 18446744073709551615).1.pend∧y.msg ∈ (exO p j 18446744073709551615 18446744073709551615).2.1.msgs)∧(y.to≠i.node→y ∈ (exO p j 18446744073709551615 18446744073709551615).1.pend):=by
 have A':=A.step hc h
 obtain ⟨c1,c2,F,G⟩:=ZaI h
 obtain ⟨-, -, -,pl, -⟩:=Z1U c1
 have G':=G fun m hm=>by
  have:=List.length_filter_le (fun x:Envl=>x.to==j.node) p.pend
  have h64:m<64:=by unfold againL at hm;omega
  exact ⟨ZgU m h64,ZgU m h64⟩
 obtain ⟨-, -, -, -,cp⟩:=Z1U hc
 have hval:=(Z4d cp).2.2
 intro y hy
 refine ⟨fun ht => ?_,fun ht => ?_⟩
 ·have hn:y ∉ (exO p j 18446744073709551615 18446744073709551615).1.pend∧hdE y ∈ (exO p j 18446744073709551615 18446744073709551615).2.1.heard:=by
   by_cases q:y ∈ p.pend
   ·obtain ⟨a,b⟩:=G' y (List.mem_filter.2 ⟨q,by rw [A.jn,ht];simp⟩)
    exact ⟨fun hh=>b y hh rfl,a⟩
   ·exact ⟨fun hh=>q (F.sub y hh),F.hk _ (A.gone y hy q).2⟩
  refine ⟨hn.1, ?_⟩
  rcases A'.hb _ hn.2 with q | ⟨x,hx,e,m⟩
  ·exact absurd (hval y hy).2.1 (hi _ q)
  ·have:x=y:=ZgT hc hx hy (by simp only [hdE,Hrd.mk.injEq] at e;exact e.2)
   rw [← this];exact m
 ·refine Classical.byContradiction fun hh=>ht (A'.gone y hy hh).1
end Go.AM


namespace Go.AM
open Go.Proofs
set_option linter.unusedVariables false
set_option linter.unusedSimpArgs false
set_option linter.constructorNameAsVariable false
set_option maxRecDepth 20000
attribute [local congr] Z0c Z0d Z0e Z0f Z0g Z0h Z0i Z0j Z0k Z0l Z0m Z0n Z0o Z0p Z0q Z0r Z0s Z0t Z0u Z0v Z0w Z0x Z0y Z0z Z0A Z0B Z0C
structure TkInv (h H:Hp) (X:Inbx) (b1 b2:Bool):Prop where
 ext:∃g,H=h++g
 g0:H[h.length]? = some (.arr 3 [zI] true false)
 g1:H[h.length+1]? = some (bxI b1 b2 X)
theorem TkInv.app {h H:Hp} {X:Inbx} {b1 b2:Bool} (I:TkInv h H X b1 b2) (g:Hp):TkInv h (H++g) X b1 b2:=by
 obtain ⟨⟨g',rfl⟩,q1,q2⟩:=I
 exact ⟨⟨g'++g,by rw [List.append_assoc]⟩,Z08 q1,Z08 q2⟩
theorem TkInv.put {h H:Hp} {X Y:Inbx} {b1 b2 c1 c2:Bool} (I:TkInv h H X b1 b2):TkInv h (H.set (h.length+1) (bxI c1 c2 Y)) Y c1 c2:=by
 obtain ⟨⟨g',rfl⟩,q1,q2⟩:=I
 refine ⟨⟨g'.set 1 (bxI c1 c2 Y), ?_⟩,getSetN q1 (by omega),getSelfN q2⟩
 rw [List.set_append_right _ _ (by omega),show h.length+1-h.length=1 by omega]
end Go.AM


namespace Go.AM
open Go.Proofs
set_option linter.unusedVariables false
set_option linter.unusedSimpArgs false
set_option linter.constructorNameAsVariable false
set_option maxRecDepth 20000
section
variable {β:Type} {P:Program} {T:Tab} {D:DTab} {N:Nat} {K:AV→Hp→Option β}
section
variable {x0:AV→AV→Hp→Option β} {x2:AV→Hp→Option β} {ps:List (AV × List Envl)} {nl:Bool}
end
end
attribute [local congr] Z0c Z0d Z0e Z0f Z0g Z0h Z0i Z0j Z0k Z0l Z0m Z0n Z0o Z0p Z0q Z0r Z0s Z0t Z0u Z0v Z0w Z0x Z0y Z0z Z0A Z0B Z0C
end Go.AM


namespace Go.AM
open Go.Proofs
set_option linter.unusedVariables false
set_option linter.unusedSimpArgs false
set_option linter.constructorNameAsVariable false
set_option maxRecDepth 20000
section
variable {β:Type} {P:Program} {T:Tab} {D:DTab} {N:Nat} {K:AV→Hp→Option β}
theorem Zts {T:Tab} {D:DTab} {N:Nat} {x0:Hp→Option β} {xr:AV→Hp→Option β} {l:List Envl} {b:Bool} {v:Envl} {h:Hp} {m:Nat} (hm:h[m]? = some (.arr 10 [encV v] true false)) (hl:l.length<4611686018427387904) (heq:∀(x y:Envl) (h:Hp) (k:Go.AM.K β),eqK Try.prog false 29 (.agg (encV x)) (.agg (encV y)) h k=k (B (x==y))):
  ∀(n i:Nat),i≤l.length→l.length<i+n→Z2t Try.prog T D N x0 xr n (.lst 10 b (l.map encV)) (.ptr m 0 0 1) (I l.length) (I i) h=match (l.drop i).findIdx? (fun y=>v==y) with | some j=>xr (I ((i+j:Nat):Int)) h | none=>x0 h:=by
 intro n
 induction n with
 | zero=>intro i h1 h2;omega
 | succ n ih=>
  intro i h1 h2
  show Z8x Try.prog T D N (Z2t Try.prog T D N x0 xr n) x0 xr _ _ _ _ h=_
  unfold Z8x
  rcases Nat.lt_or_ge i l.length with hi | hi
  ·have hx:l[i]? = some l[i]:=List.getElem?_eq_getElem hi
   have hlt:((i:Int)<(l.length:Int)):=by omega
   have hw:IntKind.i64.wrap ((i:Int)+1)=((i+1:Nat):Int):=by rw [wrap64 (by omega) (by omega)];omega
   have hpx:=fun k=>heq v l[i] h k
   have h3:=ih (i+1) hi (by omega)
   have ic:∀k:Go.AM.K β,iaK 10 (.lst 10 b (l.map encV)) (I i) k=k (.ep (encV l[i]) 0):=fun k=>Z0W i rfl hx k
   have ld:∀k:Go.AM.K β,ldK 10 true (.ep (encV l[i]) 0) h k=k ((fun y => .agg (encV y)) l[i]):=fun k=>by simp [encV]
   rw [List.drop_eq_getElem_cons hi,List.findIdx?_cons]
   have lv:∀k:Go.AM.K β,ldK 10 true (.ptr m 0 0 1) h k=k ((fun x => .agg (encV x)) v):=fun k=>by simp [hm,encV]
   dsimp only at h3 ld lv ⊢
   simp only [Z06,hlt,decide_true,Z01,if_true,ic,ld,lv,hpx]
   cases hc:(v==l[i]) with
   | true=>simp
   | false=>
    simp only [Bool.false_eq_true,if_false,Z0L,hw]
    refine h3.trans ?_
    cases (List.drop (i+1) l).findIdx? (fun y=>v==y) with
    | none=>rfl
    | some j=>
     show xr (I ((i+1+j:Nat):Int)) h=xr (I ((i+(j+1):Nat):Int)) h
     rw [show i+1+j=i+(j+1) by omega]
  ·have:i=l.length:=by omega
   subst this
   simp
theorem Ztt (l:List Envl) (b:Bool) (v:Envl) (hl:l.length<1000000) (heq:∀(x y:Envl) (h:Hp) (k:Go.AM.K AV),eqK Try.prog false 29 (.agg (encV x)) (.agg (encV y)) h k=k (B (x==y))) (h:Hp):Z5S [.lst 10 b (l.map encV),(fun x => .agg (encV x)) v] h=some (B (l.contains v),h):=by
 have e:∀h,Z7t [.lst 10 b (l.map encV),(fun x => .agg (encV x)) v] h=some (I (match l.findIdx? (fun y=>v==y) with | some j=>(j:Int) | none => -1),h):=
  ZrM rfl (by
   have:=Zts (l:=l) (T:=Z5R) (D:=Z5Q) (N:=NN) (b:=b) (v:=v) (h:=[.arr 10 [encV v] true false]) (m:=0) (x0:=fun h=>Z8w Try.prog Z5R Z5Q NN (fun v g=>cvt false g v) h) (xr:=fun a h=>cvt false h a) rfl (by omega) heq NN 0 (Nat.zero_le _) (by have:=NN_ge;omega)
   have bx:∀k:AV→Hp→Option AV,effK (boxE 10 ((fun x => .agg (encV x)) v) ([]:Hp).length) [] k=k (.ptr 0 0 0 1) [.arr 10 [encV v] true false]:=fun k=>by simp [boxE,encV]
   simp only [nrm,nrmC,Z6u,Z0F,List.length_map,bx]
   simp only [List.drop_zero] at this
   refine this.trans ?_
   cases l.findIdx? (fun y=>v==y) with
   | none=>rfl
   | some j=>simp)
 have bx:∀k:AV→Hp→Option AV,effK (boxE 10 ((fun x => .agg (encV x)) v) ([]:Hp).length) [] k=k (.ptr 0 0 0 1) [.arr 10 [encV v] true false]:=fun k=>by simp [boxE,encV]
 have lv:∀k:Go.AM.K AV,ldK 10 true (.ptr 0 0 0 1) [.arr 10 [encV v] true false] k=k ((fun x => .agg (encV x)) v):=fun k=>by simp [encV]
 refine ZrT rfl ?_ h
 simp only [nrm,nrmC,Z88,bx,lv,ZrP,Z03,e]
 have:l.contains v=(l.findIdx? (fun y=>v==y)).isSome:=by rw [List.findIdx?_isSome,List.contains_eq_any_beq]
 rw [this]
 cases l.findIdx? (fun y=>v==y)<;>simp
theorem Ztu {x0:Hp→Option β} {xr:AV→Hp→Option β} {l:List Hrd} {v fv:AV} {h:Hp} {p:Hrd→Bool} (hl:l.length<4611686018427387904) (hE:∀(i:Nat) (x:Hrd),l[i]? = some x→∀k:Go.AM.K β,iaK 2 v (I i) (fun q=>ldK 2 true q h k)=k (.agg (encH x))) (hp:∀x ∈ l,∀k:AV→Hp→Option β,callVK T fv [.agg (encH x)] h k=k (B (p x)) h):
  ∀(n i:Nat),i≤l.length→l.length<i+n→Z2o P T D N x0 xr n v fv (I l.length) (I i) h=match (l.drop i).findIdx? p with | some j=>xr (I ((i+j:Nat):Int)) h | none=>x0 h:=by
 intro n
 induction n with
 | zero=>intro i h1 h2;omega
 | succ n ih=>
  intro i h1 h2
  show Z8t P T D N (Z2o P T D N x0 xr n) x0 xr _ _ _ _ h=_
  unfold Z8t
  rcases Nat.lt_or_ge i l.length with hi | hi
  ·have hx:l[i]? = some l[i]:=List.getElem?_eq_getElem hi
   have hlt:((i:Int)<(l.length:Int)):=by omega
   have hw:IntKind.i64.wrap ((i:Int)+1)=((i+1:Nat):Int):=by rw [wrap64 (by omega) (by omega)];omega
   have hpx:=hp l[i] (List.getElem_mem hi)
   have hex:=hE i l[i] hx
   rw [List.drop_eq_getElem_cons hi,List.findIdx?_cons]
   simp -implicitDefEqProofs only [Z06,hlt,decide_true,Z01,if_true,hex,hpx,Z0L,hw]
   cases hc:p l[i] with
   | true=>simp
   | false=>
    have h3:=ih (i+1) hi (by omega)
    simp only [Bool.false_eq_true,if_false]
    refine h3.trans ?_
    cases (List.drop (i+1) l).findIdx? p with
    | none=>rfl
    | some j=>
     show xr (I ((i+1+j:Nat):Int)) h=xr (I ((i+(j+1):Nat):Int)) h
     rw [show i+1+j=i+(j+1) by omega]
  ·have:i=l.length:=by omega
   subst this
   have c1:¬((l.length:Int)<(l.length:Int)):=by omega
   simp [c1]
theorem Ztv {l:List Hrd} {v fv:AV} {h:Hp} {p:Hrd→Bool} {K:AV→Hp→Option β} (hl:l.length<N) (hN:l.length<4611686018427387904) (hL:∀k:Go.AM.K β,lenK v k=k (I l.length)) (hE:∀(i:Nat) (x:Hrd),l[i]? = some x→∀k:Go.AM.K β,iaK 2 v (I i) (fun q=>ldK 2 true q h k)=k (.agg (encH x))) (hp:∀x ∈ l,∀k:AV→Hp→Option β,callVK T fv [.agg (encH x)] h k=k (B (p x)) h):
  Z4X P T D N K v fv h=K (I (match l.findIdx? p with | some j=>(j:Int) | none => -1)) h:=by
 unfold Z4X
 simp only [hL]
 have:=Ztu (P:=P) (D:=D) (N:=N) (x0:=fun h=>Z8s P T D N K h) (xr:=fun a h=>K a h) hN hE hp N 0 (Nat.zero_le _) (by omega)
 simp only [List.drop_zero] at this
 refine this.trans ?_
 cases l.findIdx? p with
 | none=>rfl
 | some j=>simp
end
attribute [local congr] Z0c Z0d Z0e Z0f Z0g Z0h Z0i Z0j Z0k Z0l Z0m Z0n Z0o Z0p Z0q Z0r Z0s Z0t Z0u Z0v Z0w Z0x Z0y Z0z Z0A Z0B Z0C
theorem Ztw (x y:Envl) (n:Bool) (h:Hp) {β:Type} (k:Go.AM.K β):eqK Try.prog n 29 (.agg (encV x)) (.agg (encV y)) h k=k (B (xor n (x==y))):=by
 obtain ⟨a0,a1,a2,a3,a4,a5,a6,a7,a8,a9⟩:=x
 obtain ⟨b0,b1,b2,b3,b4,b5,b6,b7,b8,b9⟩:=y
 simp only [encV,Zjs]
 congr 4
 rw [Bool.eq_iff_iff]
 simp [Envl.mk.injEq,Msg.mk.injEq]
theorem Ztx (b:Bool) (o:Outb) (hl:o.pend.length<100000) (h:Hp):Z5P [ob b o] h=some (ob false o,h):=by
 refine (ZrB (a0:=ob b o) (v:=ob false o) rfl ?_ h).trans rfl
 rw [show nrm (.a [none,none,some 10]) (ob b o)=ob b o from rfl]
 obtain ⟨node,next,pend⟩:=o
 dsimp only at hl
 obtain ⟨LP,hLP⟩:∃LP:AV,LP=SL 10 encV b pend:=⟨_,rfl⟩
 rw [show ob b ⟨node,next,pend⟩ = .agg [I node,I next,LP] by rw [hLP]]
 have x0:∀k:AV→Hp→Option AV,effK (boxE 3 (.agg [I node,I next,LP]) ([]:Hp).length) [] k=k (.ptr 0 0 0 1) [.arr 3 [[I node,I next,LP]] true false]:=fun k=>by rw [hLP];rfl
 have x1:∀k:AV→Hp→Option AV,effK (boxE 3 (.agg zO) ([AObj.arr 3 [[I node,I next,LP]] true false]:Hp).length) [.arr 3 [[I node,I next,LP]] true false] k=k (.ptr 1 0 0 1) [.arr 3 [[I node,I next,LP]] true false, .arr 3 [zO] true false]:=fun k=>rfl
 have x2:∀k:AV→Hp→Option AV,effK (bsE 10 zE 0 [] ([AObj.arr 3 [[I node,I next,LP]] true false, .arr 3 [zO] true false]:Hp).length) [.arr 3 [[I node,I next,LP]] true false, .arr 3 [zO] true false] k=k (.sl 10 2 0 0 0 true) [.arr 3 [[I node,I next,LP]] true false, .arr 3 [zO] true false, .arr 10 [] true false]:=fun k=>rfl
 obtain ⟨H2,hH2⟩:∃H2:Hp,H2=[AObj.arr 3 [[I node,I next,LP]] true false, .arr 3 [zO] true false, .arr 10 [] true false]:=⟨_,rfl⟩
 rw [← hH2] at x2
 have l2:∀k:Go.AM.K AV,ldK 1 false (.ptr 0 0 2 1) H2 k=k LP:=fun k=>by rw [hH2,hLP];rfl
 have rP:readSl H2 LP=some (pend.map encV):=by rw [hLP];rfl
 have aP:((pend.map encV).all fun e=>e.length==10)=true:=by rw [List.all_eq_true];intro e he;obtain ⟨x, -,rfl⟩:=List.mem_map.1 he;rfl
 have iP:idsOf LP=[]:=by rw [hLP];rfl
 have d2:∀k:AV→Hp→Option AV,effK (appE 10 80 (.sl 10 2 0 0 0 true) LP H2 H2.length) H2 k=k (.sl 10 3 0 pend.length pend.length false) (H2++[.arr 10 (pend.map encV) true false]):=fun k=>by
  have:appE 10 80 (.sl 10 2 0 0 0 true) LP H2 H2.length=some (.sl 10 3 0 pend.length pend.length false,⟨[],[.arr 10 (pend.map encV) true false],[2]⟩):=by
   have g2:H2[2]? = some (.arr 10 [] true false):=by rw [hH2];rfl
   have hl3:H2.length=3:=by rw [hH2];rfl
   unfold appE
   rw [rP]
   simp only [g2,List.length_map,List.length_nil,hl3]
   rw [if_pos ⟨trivial,trivial,by omega,aP⟩,if_pos ⟨trivial,by omega, .inl trivial⟩]
   simp [iP]
  rw [this];rfl
 obtain ⟨H3,hH3⟩:∃H3:Hp,H3=H2++[AObj.arr 10 (pend.map encV) true false]:=⟨_,rfl⟩
 rw [← hH3] at d2
 obtain ⟨c,hc⟩:∃c:List AV,c=[I node,I next, .sl 10 3 0 pend.length pend.length false]:=⟨_,rfl⟩
 obtain ⟨H4,hH4⟩:∃H4:Hp,H4=H3.set 0 (.arr 3 [c] true false):=⟨_,rfl⟩
 have s0:∀k:AV→Hp→Option AV,effK (stE 1 (.ptr 0 0 2 1) (.sl 10 3 0 pend.length pend.length false) H3) H3 k=k .u H4:=fun k=>by
  have:stE 1 (.ptr 0 0 2 1) (.sl 10 3 0 pend.length pend.length false) H3=some (.u,⟨[(0, .arr 3 [c] true false)],[],[0]⟩):=by
   rw [Z0G,hH3,hH2,hc,hLP]
   simp [putAt]
  rw [Z09 this,hH4]
 have l4:∀k:Go.AM.K AV,ldK 3 true (.ptr 0 0 0 1) H4 k=k (.agg c):=fun k=>by rw [hH4,hH3,hH2,hc];rfl
 obtain ⟨H5,hH5⟩:∃H5:Hp,H5=H4.set 1 (.arr 3 [c] true false):=⟨_,rfl⟩
 have s1:∀k:AV→Hp→Option AV,effK (stE 3 (.ptr 1 0 0 1) (.agg c) H4) H4 k=k .u H5:=fun k=>by
  have:stE 3 (.ptr 1 0 0 1) (.agg c) H4=some (.u,⟨[(1, .arr 3 [c] true false)],[],[1]⟩):=by
   rw [Z0G,hH4,hH3,hH2,hc]
   simp [putAt]
  rw [Z09 this,hH5]
 have l5:∀k:Go.AM.K AV,ldK 3 true (.ptr 1 0 0 1) H5 k=k (.agg c):=fun k=>by rw [hH5,hH4,hH3,hH2,hc];rfl
 have g3:H5[3]? = some (.arr 10 (pend.map encV) true false):=by rw [hH5,hH4,hH3,hH2];rfl
 simp -implicitDefEqProofs only [Z86,x0,x1,x2,Z0a,Nat.zero_add,l2,d2,s0,l4,s1,l5]
 rw [hc]
 simp only [Z21,Z18,Z17,cvt_s]
 rw [Z0Y (st:=false) (es:=pend.map encV) (nl:=false) g3 (by simp) (by simp) (Z0S fun x=>by simp [encV,encM])]
 rfl
abbrev Bts:=Fin 18446744073709551616 × Fin 18446744073709551616
def encB (p:Bts):List AV:=[.s (.int .u64 (p.1.1:Int)), .s (.int .u64 (p.2.1:Int))]
theorem Zty {cs:List AV} (h:HasTs [.int .u64, .int .u64] cs):∃p:Bts,cs=encB p:=by
 simp only [HasTs,HasT] at h
 obtain ⟨_,_,rfl,⟨x,rfl,hx⟩,_,_,rfl,⟨y,rfl,hy⟩,rfl⟩:=h
 have h1:=ZgO hx
 have h2:=ZgO hy
 refine ⟨(⟨x.toNat,by omega⟩,⟨y.toNat,by omega⟩), ?_⟩
 unfold encB
 dsimp only
 rw [Int.toNat_of_nonneg h1.1,Int.toNat_of_nonneg h2.1]
theorem has_BitsL {a:AV} (h:HasT (.sl [.int .u64, .int .u64]) a):∃(l:List Bts) (b:Bool),a=SL 2 encB b l:=ZaG (fun _ h=>Zty h) h
theorem Ztz (l:List Bts) (b:Bool) (hl:l.length<1000000) (h:Hp):Z4F [SL 2 encB b l] h=if (b&&l.isEmpty)=true then some (nilS,h) else some (.sl 2 (h.length+1) 0 l.length l.length false,h++[.arr 2 [] true false, .arr 2 (l.map encB) true false]):=by
 rw [ZrG]
 by_cases hb:(b&&l.isEmpty)=true
 ·simp [Z6j,hb]
 ·have hb':(b&&l.isEmpty)=false:=by simpa using hb
  have hle:l.length * 16≤140737488355328:=by omega
  have h2:((l.map encB).all fun e=>e.length==2)=true:=by simp [encB]
  simp [Z6j,hb',bsE,fillS,appE,readSl,hle,h2,ap]
theorem ZtA (l:List Bts) (b:Bool) (x:Bts) (hl:l.length<1000) (h:Hp):∃c h1,Z4F [SL 2 encB b l] h=some (c,h1)∧∃id h2,(∀k:AV→Hp→Option AV,effK (bsE 2 [.s (.int .u64 0), .s (.int .u64 0)] 1 [(0, .agg (encB x))] h1.length) h1 k=k (.sl 2 h1.length 0 1 1 true) (h1++[.arr 2 [encB x] true false])) ∧
  (∀k:AV→Hp→Option AV,effK (appE 2 16 c (.sl 2 h1.length 0 1 1 true) (h1++[AObj.arr 2 [encB x] true false]) (h1++[AObj.arr 2 [encB x] true false]).length) (h1++[AObj.arr 2 [encB x] true false]) k=k (.sl 2 id 0 (l.length+1) (l.length+1) false) h2)∧h2[id]? = some (.arr 2 ((l++[x]).map encB) true false)∧h.length≤id∧∀j<h.length,h2[j]? = h[j]? := by
 have rC:=Ztz l b (by omega) h
 have bs:∀(h1:Hp) (k:AV→Hp→Option AV),effK (bsE 2 [.s (.int .u64 0), .s (.int .u64 0)] 1 [(0, .agg (encB x))] h1.length) h1 k=k (.sl 2 h1.length 0 1 1 true) (h1++[.arr 2 [encB x] true false]):=fun h1 k=>by simp [bsE,fillS,encB,effK,ap]
 have rd:∀h1:Hp,readSl (h1++[AObj.arr 2 [encB x] true false]) (.sl 2 h1.length 0 1 1 true)=some [encB x]:=fun h1=>by unfold readSl;simp
 by_cases hb:(b&&l.isEmpty)=true
 ·rw [if_pos hb] at rC
  have:l=[]:=by simpa using (Bool.and_eq_true_iff.1 hb).2
  subst this
  refine ⟨_,_,rC,(h++[AObj.arr 2 [encB x] true false]).length,h++[AObj.arr 2 [encB x] true false]++[.arr 2 [encB x] true false],bs h,fun k => ?_,by rw [Z0O];rfl,by simp,fun j hj=>by rw [List.getElem?_append_left (by simp;omega),List.getElem?_append_left hj]⟩
  have ha:appE 2 16 nilS (.sl 2 h.length 0 1 1 true) (h++[AObj.arr 2 [encB x] true false]) (h++[AObj.arr 2 [encB x] true false]).length=some (.sl 2 (h++[AObj.arr 2 [encB x] true false]).length 0 1 1 false,⟨[],[.arr 2 [encB x] true false],[h.length]⟩):=by
   unfold appE
   rw [rd]
   simp [idsOf,encB]
  rw [ha];rfl
 ·rw [if_neg hb] at rC
  obtain ⟨h1,hh1⟩:∃h1:Hp,h1=h++[AObj.arr 2 [] true false, .arr 2 (l.map encB) true false]:=⟨_,rfl⟩
  rw [← hh1] at rC
  have g1:h1[h.length+1]? = some (.arr 2 (l.map encB) true false):=by rw [hh1,List.getElem?_append_right (by omega),show h.length+1-h.length=1 by omega];rfl
  have g2:(h1++[AObj.arr 2 [encB x] true false])[h.length+1]? = some (.arr 2 (l.map encB) true false):=Z08 g1
  refine ⟨_,_,rC,h.length+1,(h1++[AObj.arr 2 [encB x] true false]).set (h.length+1) (.arr 2 ((l++[x]).map encB) true false),bs h1,fun k => ?_,getSelfN g2,by omega,fun j hj=>by rw [List.getElem?_set_ne (by omega),List.getElem?_append_left (by rw [hh1];simp;omega),hh1,List.getElem?_append_left hj]⟩
  have ha:appE 2 16 (.sl 2 (h.length+1) 0 l.length l.length false) (.sl 2 h1.length 0 1 1 true) (h1++[AObj.arr 2 [encB x] true false]) (h1++[AObj.arr 2 [encB x] true false]).length=some (.sl 2 (h.length+1) 0 (l.length+1) (l.length+1) false,⟨[(h.length+1, .arr 2 ((l++[x]).map encB) true false)],[],[h.length+1,h1.length]⟩):=by
   unfold appE
   rw [rd]
   simp only [g2,List.length_map,List.length_singleton]
   rw [if_pos ⟨trivial,trivial,by omega,by simp [encB]⟩,if_neg (by simp),if_pos (by simp)]
   simp [idsOf]
  exact Z09 ha k
theorem ZtB {o:Outb} {b:Bool} {h:Hp} {id:Nat} (ho:h[id]? = some (bxO b o)) (x:Hrd):Z4D [.agg (encH x), .ptr id 0 0 1] h=some (B (x.frm==o.node),h):=by
 refine Zrh (g:=[.arr 2 [encH x] true false]) ?_ rfl
 have bx:∀k:AV→Hp→Option (AV × Hp),effK (boxE 2 (.agg (encH x)) h.length) h k=k (.ptr h.length 0 0 1) (h++[.arr 2 [encH x] true false]):=fun k=>Z1y 2 h.length (.agg (encH x)) h k rfl rfl rfl
 have l1:∀k:Go.AM.K (AV × Hp),ldK 1 false (.ptr h.length 0 0 1) (h++[.arr 2 [encH x] true false]) k=k (I x.frm):=fun k=>by rw [Z00,Z0O];rfl
 have l2:∀k:Go.AM.K (AV × Hp),ldK 1 false (.ptr id 0 0 1) (h++[.arr 2 [encH x] true false]) k=k (I o.node):=fun k=>by rw [Z00,Z08 ho];rfl
 simp -implicitDefEqProofs only [Z85,bx,Z0a,Nat.zero_add,l1,l2,Z07,Bool.false_xor]
theorem ZtC {o:Outb} {b b1:Bool} {l:List Hrd} {h:Hp} {id:Nat} (ho:h[id]? = some (bxO b o)) (hl:l.length<100000):Z7r [SL 2 encH b1 l, .fn 27 [.ptr id 0 0 1]] h=some (B (l.any fun x=>x.frm==o.node),h):=by
 have fi:Z7p [SL 2 encH b1 l, .fn 27 [.ptr id 0 0 1]] h=some (I (match l.findIdx? (fun x=>x.frm==o.node) with | some j=>(j:Int) | none => -1),h):=
  Zro (g:=[]) (by
   rw [List.append_nil]
   refine Ztv (T:=Z4E) (P:=Try.prog) (D:=Z7o) (N:=NN) (K:=fun v h=>some (v,h)) (l:=l) (v:=SL 2 encH b1 l) (fv := .fn 27 [.ptr id 0 0 1]) (h:=h) (p:=fun x=>x.frm==o.node) (by have:=NN_ge;omega) (by omega) (fun k=>by rw [SL,Z0F,List.length_map]) (fun i y hy k=>by rw [SL,Z0W i rfl hy];rfl) (fun y hy k=>by
    show callK (Z4E 27) [.agg (encH y), .ptr id 0 0 1] h k=_
    simp -implicitDefEqProofs only [Zrk,Z03,ZtB ho])) rfl
 refine Zrv (g:=[]) ?_ rfl
 rw [List.append_nil]
 simp -implicitDefEqProofs only [Z84,Zrr,Z03,fi,Z0U]
 have:(l.any fun x=>x.frm==o.node)=(l.findIdx? (fun x=>x.frm==o.node)).isSome:=by rw [List.findIdx?_isSome]
 rw [this]
 cases l.findIdx? (fun x=>x.frm==o.node)<;>simp
end Go.AM


namespace Go.AM
open Go.Proofs
set_option linter.unusedVariables false
set_option linter.unusedSimpArgs false
set_option linter.constructorNameAsVariable false
set_option maxRecDepth 20000
attribute [local congr] Z0c Z0d Z0e Z0f Z0g Z0h Z0i Z0j Z0k Z0l Z0m Z0n Z0o Z0p Z0q Z0r Z0s Z0t Z0u Z0v Z0w Z0x Z0y Z0z Z0A Z0B Z0C
theorem Zch {ar an:Nat}:∀(post:List Envl) (k:Nat) (p:Outb) (j:Inbx),(exL ar an k post p j).1.pend.length≤p.pend.length∧(exL ar an k post p j).2.1.heard.length≤j.heard.length+post.length∧(exL ar an k post p j).2.1.msgs.length≤j.msgs.length+post.length
 | [],k,p,j=>by rw [exL];simp
 | x::r,k,p,j=>by
  rw [exL]
  simp only [List.length_cons]
  by_cases q1:bitN ar k=false
  ·rw [if_pos q1]
   have:=Zch (ar:=ar) (an:=an) r (k+1) p j
   omega
  ·rw [if_neg q1]
   by_cases q2:(takeI j x).2.2.2≠0
   ·rw [if_pos q2];simp
   ·rw [if_neg q2]
    have h1:=Zcb j x
    have h2:=ZgF p (takeI j x).2.1
    have h3:=Zch (ar:=ar) (an:=an) r (k+1) (if bitN an k=true then (heardO p (takeI j x).2.1).1 else p) (takeI j x).1
    by_cases q3:bitN an k=true
    ·rw [if_pos q3] at h3 ⊢;omega
    ·rw [if_neg q3] at h3 ⊢;omega
theorem ZtD (o:Outb) (i:Inbx) (ar an:Nat):(exO o i ar an).1.pend.length≤o.pend.length∧(exO o i ar an).2.1.heard.length≤i.heard.length+o.pend.length∧(exO o i ar an).2.1.msgs.length≤i.msgs.length+o.pend.length:=by
 unfold exO
 by_cases q1:chkO o≠0∨chkI i≠0
 ·rw [if_pos q1];simp
 ·rw [if_neg q1]
  by_cases q2:o.node=i.node
  ·rw [if_pos q2];simp
  ·rw [if_neg q2]
   have h1:=Zch (ar:=ar) (an:=an) (againL i.node o.pend) 0 o i
   have h2:(againL i.node o.pend).length≤o.pend.length:=List.length_filter_le _ _
   omega
def exAll:List Bts→Outb→Inbx→Option (Outb × Inbx)
 | [],p,j=>some (p,j)
 | x::r,p,j=>if (exO p j x.1.1 x.2.1).2.2≠0 then none else exAll r (exO p j x.1.1 x.2.1).1 (exO p j x.1.1 x.2.1).2.1
structure LsI (o:Outb) (c:Bool) (i:Inbx) (c1 c2:Bool) (p:Outb) (b:Bool) (j:Inbx) (b1 b2:Bool) (H:Hp):Prop where
 g0:H[0]? = some (bxO c o)
 g1:H[1]? = some (bxI c1 c2 i)
 g2:H[2]? = some (bxO b p)
 g3:H[3]? = some (bxI b1 b2 j)
theorem LsI.app {o p:Outb} {c b c1 c2 b1 b2:Bool} {i j:Inbx} {H:Hp} (J:LsI o c i c1 c2 p b j b1 b2 H) (g:Hp):LsI o c i c1 c2 p b j b1 b2 (H++g):=⟨Z08 J.g0,Z08 J.g1,Z08 J.g2,Z08 J.g3⟩
theorem ZtE {x0:AV→AV→AV→AV→Hp→Option AV} {xr:AV→Hp→Option AV} {o:Outb} {c:Bool} {i:Inbx} {c1 c2:Bool} {L:List Bts} {id:Nat} (hL:L.length<1000) (hr:∀h,xr (B true) h=some (B true)) (hid:4≤id):∀(n:Nat) (pre post:List Bts) (p:Outb) (b:Bool) (j:Inbx) (b1 b2:Bool) (H:Hp),L=pre++post→post.length<n→LsI o c i c1 c2 p b j b1 b2 H→H[id]? = some (.arr 2 (L.map encB) true false)→p.pend.length≤20→j.heard.length+20 * post.length<900→j.msgs.length+20 * post.length<900→
  (exAll post p j=none→Z1g Try.prog Z0M Z0R NN x0 xr n (.ptr 0 0 0 1) (.ptr 1 0 0 1) (.ptr 2 0 0 1) (.ptr 3 0 0 1) (.sl 2 id 0 L.length L.length false) (I L.length) (I pre.length) H=some (B true)) ∧
  ∀p' j',exAll post p j=some (p',j')→∃b' b1' b2' H',Z1g Try.prog Z0M Z0R NN x0 xr n (.ptr 0 0 0 1) (.ptr 1 0 0 1) (.ptr 2 0 0 1) (.ptr 3 0 0 1) (.sl 2 id 0 L.length L.length false) (I L.length) (I pre.length) H=x0 (.ptr 0 0 0 1) (.ptr 1 0 0 1) (.ptr 2 0 0 1) (.ptr 3 0 0 1) H'∧LsI o c i c1 c2 p' b' j' b1' b2' H'∧p'.pend.length≤20∧j'.msgs.length<1000:=by
 intro n
 induction n with
 | zero=>intro pre post p b j b1 b2 H _ h2;omega
 | succ n ih=>
  intro pre post p b j b1 b2 H hc hn J g hp hj hm
  have unf:Z1g Try.prog Z0M Z0R NN x0 xr (n+1) (.ptr 0 0 0 1) (.ptr 1 0 0 1) (.ptr 2 0 0 1) (.ptr 3 0 0 1) (.sl 2 id 0 L.length L.length false) (I L.length) (I pre.length) H=Z4i Try.prog Z0M Z0R NN (Z1g Try.prog Z0M Z0R NN x0 xr n) x0 xr (.ptr 0 0 0 1) (.ptr 1 0 0 1) (.ptr 2 0 0 1) (.ptr 3 0 0 1) (.sl 2 id 0 L.length L.length false) (I L.length) (I pre.length) H:=rfl
  rw [unf]
  cases post with
  | nil=>
   have:L=pre:=by simpa using hc
   have c3:¬((pre.length:Int)<(L.length:Int)):=by rw [this];omega
   refine ⟨fun h=>(by rw [exAll] at h;cases h),fun p' j' h => ?_⟩
   rw [exAll] at h
   injection h with h
   injection h with h1 h2
   subst h1;subst h2
   refine ⟨b,b1,b2,H, ?_,J,hp,by omega⟩
   simp -implicitDefEqProofs only [Z4i,Z06,c3,decide_false,Z01,Bool.false_eq_true,if_false]
  | cons x post=>
   have hx:L[pre.length]? = some x:=by rw [hc];simp
   have hi:pre.length<L.length:=by rw [hc];simp
   have hlt:((pre.length:Int)<(L.length:Int)):=by omega
   have hw:IntKind.i64.wrap ((pre.length:Int)+1)=(((pre++[x]).length:Nat):Int):=by rw [wrap64 (by omega) (by omega)];simp
   simp only [List.length_cons] at hn hj hm
   have ia:∀k':Go.AM.K AV,iaK 2 (.sl 2 id 0 L.length L.length false) (I pre.length) k'=k' (.ptr id pre.length 0 L.length):=fun k'=>by
    simp [iaK,hlt]
   have lx:∀k':Go.AM.K AV,ldK 2 true (.ptr id pre.length 0 L.length) H k'=k' (.agg (encB x)):=fun k'=>ldE (f:=encB) (sz:=2) rfl g rfl hx k'
   obtain ⟨H1,hH1⟩:∃H1:Hp,H1=H++[AObj.arr 2 [encB x] true false]:=⟨_,rfl⟩
   have bx:∀k:AV→Hp→Option AV,effK (boxE 2 (.agg [.s (.int .u64 0), .s (.int .u64 0)]) H.length) H k=k (.ptr H.length 0 0 1) (H++[.arr 2 [[.s (.int .u64 0), .s (.int .u64 0)]] true false]):=fun k=>Z1y 2 H.length _ H k rfl rfl rfl
   have ns:∀k:AV→Hp→Option AV,effK (stE 2 (.ptr H.length 0 0 1) (.agg (encB x)) (H++[.arr 2 [[.s (.int .u64 0), .s (.int .u64 0)]] true false])) (H++[.arr 2 [[.s (.int .u64 0), .s (.int .u64 0)]] true false]) k=k .u H1:=fun k=>by
    rw [Z09 (v := .u) (id:=H.length) (o := .arr 2 [encB x] true false) (ft:=[H.length]) (by simp [encB]),Z20,hH1];rfl
   have gb:H1[H.length]? = some (.arr 2 [encB x] true false):=by rw [hH1,Z0O];rfl
   have J1:LsI o c i c1 c2 p b j b1 b2 H1:=by rw [hH1];exact J.app _
   have g1:H1[id]? = some (.arr 2 (L.map encB) true false):=by rw [hH1];exact Z08 g
   have l7:∀k:Go.AM.K AV,ldK 3 true (.ptr 2 0 0 1) H1 k=k (ob b p):=fun k=>ldO J1.g2 k
   have l8:∀k:Go.AM.K AV,ldK 3 true (.ptr 3 0 0 1) H1 k=k (ib b1 b2 j):=fun k=>ldI3 J1.g3 k
   have lb0:∀k:Go.AM.K AV,ldK 1 false (.ptr H.length 0 0 1) H1 k=k (.s (.int .u64 (x.1.1:Int))):=fun k=>by rw [Z00,gb];rfl
   have lb1:∀k:Go.AM.K AV,ldK 1 false (.ptr H.length 0 1 1) H1 k=k (.s (.int .u64 (x.2.1:Int))):=fun k=>by rw [Z00,gb];rfl
   obtain ⟨d,d1,d2,fE⟩:=Zcc b p b1 b2 j x.1.1 x.2.1 x.1.2 x.2.2 (by omega) (by omega) (by omega) H1
   have hlen:=ZtD p j x.1.1 x.2.1
   have hbad:=@Ztr p j x.1.1 x.2.1
   have hall:exAll (x::post) p j=if (exO p j x.1.1 x.2.1).2.2≠0 then none else exAll post (exO p j x.1.1 x.2.1).1 (exO p j x.1.1 x.2.1).2.1:=rfl
   generalize exO p j x.1.1 x.2.1=r at fE hlen hbad hall
   obtain ⟨p1,j1,e⟩:=r
   unfold exV at fE
   dsimp only at fE hlen hbad hall
   have t0:∀(a b c:AV) (k:Go.AM.K AV),exK (.tup [a,b,c]) 0 k=k a:=fun a b c k=>rfl
   have t1:∀(a b c:AV) (k:Go.AM.K AV),exK (.tup [a,b,c]) 1 k=k b:=fun a b c k=>rfl
   have t2:∀(a b c:AV) (k:Go.AM.K AV),exK (.tup [a,b,c]) 2 k=k c:=fun a b c k=>rfl
   obtain ⟨H2,hH2⟩:∃H2:Hp,H2=(H1.set 2 (bxO d p1)).set 3 (bxI d1 d2 j1):=⟨_,rfl⟩
   have s2:∀k:AV→Hp→Option AV,effK (stE 3 (.ptr 2 0 0 1) (ob d p1) H1) H1 k=k .u (H1.set 2 (bxO d p1)):=fun k=>stO J1.g2 k
   have s3:∀k:AV→Hp→Option AV,effK (stE 3 (.ptr 3 0 0 1) (ib d1 d2 j1) (H1.set 2 (bxO d p1))) (H1.set 2 (bxO d p1)) k=k .u H2:=fun k=>by rw [hH2];exact stI3 (getSetN J1.g3 (by omega)) k
   have J2:LsI o c i c1 c2 p1 d j1 d1 d2 H2:=by
    rw [hH2]
    exact ⟨getSetN (getSetN J1.g0 (by omega)) (by omega),getSetN (getSetN J1.g1 (by omega)) (by omega),getSetN (getSelfN J1.g2) (by omega),getSelfN (getSetN J1.g3 (by omega))⟩
   have g2':H2[id]? = some (.arr 2 (L.map encB) true false):=by rw [hH2];exact getSetN (getSetN g1 (by omega)) (by omega)
   have n2:∀k:Go.AM.K AV,ldK 1 false (.ptr 2 0 0 1) H2 k=k (I p1.node):=fun k=>by rw [Z00,J2.g2];rfl
   have n3:∀k:Go.AM.K AV,ldK 1 false (.ptr 3 0 0 1) H2 k=k (I j1.node):=fun k=>by rw [Z00,J2.g3];rfl
   rw [hall]
   by_cases z:e=0
   ·have ez:(!(e==0))=false:=by simp [z]
    rw [if_neg (fun hh=>hh z)]
    have:=ih (pre++[x]) post p1 d j1 d1 d2 H2 (by simp [hc]) (by omega) J2 g2' (by omega) (by omega) (by omega)
    have eq:Z4i Try.prog Z0M Z0R NN (Z1g Try.prog Z0M Z0R NN x0 xr n) x0 xr (.ptr 0 0 0 1) (.ptr 1 0 0 1) (.ptr 2 0 0 1) (.ptr 3 0 0 1) (.sl 2 id 0 L.length L.length false) (I L.length) (I pre.length) H=Z1g Try.prog Z0M Z0R NN x0 xr n (.ptr 0 0 0 1) (.ptr 1 0 0 1) (.ptr 2 0 0 1) (.ptr 3 0 0 1) (.sl 2 id 0 L.length L.length false) (I L.length) (I (pre++[x]).length) H2:=by
     simp -implicitDefEqProofs only [Z4i,Z06,hlt,decide_true,Z01,if_true,ia,lx,bx,ns,l7,l8,Z0a,Nat.zero_add,lb0,lb1,ZfW,Z03,fE,t0,t1,t2,s2,s3,Z07,Bool.true_xor,ez,Bool.false_eq_true,if_false,Z0L,hw]
    rw [eq]
    exact this
   ·have ez:(!(e==0))=true:=by simp [z]
    obtain ⟨o1,o2⟩:=hbad z
    rw [if_pos z]
    refine ⟨fun _ => ?_,fun p' j' h=>by cases h⟩
    have a1:p1.node=0:=by rw [o1]
    have a2:j1.node=0:=by rw [o2]
    rw [a1] at n2
    rw [a2] at n3
    simp -implicitDefEqProofs only [Z4i,Z06,hlt,decide_true,Z01,if_true,ia,lx,bx,ns,l7,l8,Z0a,Nat.zero_add,lb0,lb1,ZfW,Z03,fE,t0,t1,t2,s2,s3,Z07,Bool.true_xor,Bool.false_xor,ez,n2,n3,beq_self_eq_true,Z1x,hr]
theorem ZtF {x2:Hp→Option AV} {xr:AV→Hp→Option AV} {o p:Outb} {c b:Bool} {i j:Inbx} {c1 c2 b1 b2:Bool} (ho:o.pend.length<1000) (hp:p.pend.length<1000) (hm:j.msgs.length<1000) (h2:∀h,x2 h=some (B true)) (hall:∀y ∈ o.pend,(y.to=i.node→y ∉ p.pend∧y.msg ∈ j.msgs)∧(y.to≠i.node→y ∈ p.pend)):∀(n:Nat) (pre post:List Envl) (H:Hp),o.pend=pre++post→post.length<n→LsI o c i c1 c2 p b j b1 b2 H→
  Z25 Try.prog Z0M Z0R NN x2 xr n (.ptr 1 0 0 1) (.ptr 2 0 0 1) (.ptr 3 0 0 1) (SL 10 encV c o.pend) (I o.pend.length) (I pre.length) H=some (B true):=by
 intro n
 induction n with
 | zero=>intro pre post H _ h2;omega
 | succ n ih=>
  intro pre post H hc hn J
  show Z4P Try.prog Z0M Z0R NN (Z25 Try.prog Z0M Z0R NN x2 xr n) x2 xr _ _ _ _ _ _ H=_
  cases post with
  | nil=>
   have:o.pend=pre:=by simpa using hc
   have c3:¬((pre.length:Int)<(o.pend.length:Int)):=by rw [this];omega
   simp -implicitDefEqProofs only [Z4P,Z06,c3,decide_false,Z01,Bool.false_eq_true,if_false,h2]
  | cons y post=>
   have hx:o.pend[pre.length]? = some y:=by rw [hc];simp
   have hi:pre.length<o.pend.length:=by rw [hc];simp
   have hlt:((pre.length:Int)<(o.pend.length:Int)):=by omega
   have hw:IntKind.i64.wrap ((pre.length:Int)+1)=(((pre++[y]).length:Nat):Int):=by rw [wrap64 (by omega) (by omega)];simp
   have ia:∀k':Go.AM.K AV,iaK 10 (SL 10 encV c o.pend) (I pre.length) k'=k' (.ep (encV y) 0):=fun k'=>Z0W pre.length rfl hx k'
   have lx:∀k:Go.AM.K AV,ldK 10 true (.ep (encV y) 0) H k=k (.agg (encV y)):=fun k=>rfl
   obtain ⟨H1,hH1⟩:∃H1:Hp,H1=H++[bxE y]:=⟨_,rfl⟩
   have bx:∀k:AV→Hp→Option AV,effK (boxE 10 (.agg zE) H.length) H k=k (.ptr H.length 0 0 1) (H++[.arr 10 [zE] true false]):=fun k=>Z1y 10 H.length (.agg zE) H k rfl rfl rfl
   have ns:∀k:AV→Hp→Option AV,effK (stE 10 (.ptr H.length 0 0 1) (.agg (encV y)) (H++[.arr 10 [zE] true false])) (H++[.arr 10 [zE] true false]) k=k .u H1:=fun k=>by
    rw [Z09 (v := .u) (id:=H.length) (o:=bxE y) (ft:=[H.length]) (by simp [encV,encM]),Z20,hH1];rfl
   have J1:LsI o c i c1 c2 p b j b1 b2 H1:=by rw [hH1];exact J.app _
   have gy:H1[H.length]? = some (bxE y):=by rw [hH1,Z0O];rfl
   have y1:∀k:Go.AM.K AV,ldK 1 false (.ptr H.length 0 1 1) H1 k=k (I y.to):=fun k=>by rw [Z00,gy];rfl
   have yw:∀k:Go.AM.K AV,ldK 10 true (.ptr H.length 0 0 1) H1 k=k (.agg (encV y)):=fun k=>by rw [Z00,gy];rfl
   have ym:∀k:Go.AM.K AV,ldK 7 true (.ptr H.length 0 3 1) H1 k=k (.agg (encM y.msg)):=fun k=>by rw [Z00,gy];rfl
   have i0:∀k:Go.AM.K AV,ldK 1 false (.ptr 1 0 0 1) H1 k=k (I i.node):=fun k=>by rw [Z00,J1.g1];rfl
   have p2:∀k:Go.AM.K AV,ldK 1 false (.ptr 2 0 2 1) H1 k=k (SL 10 encV b p.pend):=fun k=>by rw [Z00,J1.g2];rfl
   have j2:∀k:Go.AM.K AV,ldK 1 false (.ptr 3 0 2 1) H1 k=k (SL 7 encM b2 j.msgs):=fun k=>by rw [Z00,J1.g3];rfl
   have fP:∀h,Z5S [SL 10 encV b p.pend, .agg (encV y)] h=some (B (p.pend.contains y),h):=fun h=>Ztt p.pend (b&&p.pend.isEmpty) y (by omega) (fun x y h k=>by rw [Ztw,Bool.false_xor]) h
   have fM:∀h,Z2M [SL 7 encM b2 j.msgs, .agg (encM y.msg)] h=some (B (j.msgs.contains y.msg),h):=fun h=>Zgf j.msgs (b2&&j.msgs.isEmpty) y.msg (by omega) (fun x y h k=>by rw [Z5T,Bool.false_xor]) h
   have hy:=hall y (by rw [hc];simp)
   have hrec:=ih (pre++[y]) post H1 (by simp [hc]) (by simpa using hn) J1
   by_cases q:y.to=i.node
   ·obtain ⟨h3,h4⟩:=hy.1 q
    have e1:p.pend.contains y=false:=by
     cases hq:p.pend.contains y with
     | false=>rfl
     | true=>exact absurd (List.contains_iff_mem.1 hq) h3
    have e2:j.msgs.contains y.msg=true:=List.contains_iff_mem.2 h4
    rw [e1] at fP
    rw [e2] at fM
    have e3:(y.to==i.node)=true:=by simp [q]
    simp -implicitDefEqProofs only [Z4P,Z06,hlt,decide_true,Z01,if_true,ia,lx,bx,ns,Z0a,Nat.zero_add,y1,i0,Z07,Bool.false_xor,Bool.true_xor,e3,Z1x,p2,yw,ZfX,Z03,fP,Z6e,j2,ym,ZrW,fM,Z0I,Bool.not_true,Z4M,Bool.false_eq_true,if_false,Z0L,hw]
    exact hrec
   ·have h3:=hy.2 q
    have e1:p.pend.contains y=true:=List.contains_iff_mem.2 h3
    rw [e1] at fP
    have e3:(y.to==i.node)=false:=by simp [q]
    simp -implicitDefEqProofs only [Z4P,Z06,hlt,decide_true,Z01,if_true,ia,lx,bx,ns,Z0a,Nat.zero_add,y1,i0,Z07,Bool.false_xor,Bool.true_xor,e3,Bool.not_false,Z1x,Z4M,p2,yw,ZfX,Z03,fP,Z6e,Z0I,Bool.not_true,Bool.false_eq_true,if_false,Z0L,hw]
    exact hrec
theorem ZgV {o:Outb} {i:Inbx} (hi:∀h ∈ i.heard,h.frm≠o.node):∀(l:List Bts) (p:Outb) (j:Inbx),Aft o i p j→(chkO o=0∨p=o)→∀p' j',exAll (l++[(⟨18446744073709551615,by omega⟩,⟨18446744073709551615,by omega⟩)]) p j=some (p',j')→∀y ∈ o.pend,(y.to=i.node→y ∉ p'.pend∧y.msg ∈ j'.msgs)∧(y.to≠i.node→y ∈ p'.pend)
 | [],p,j,A,hco,p',j',h=>by
  rw [List.nil_append,exAll] at h
  by_cases z:(exO p j 18446744073709551615 18446744073709551615).2.2=0
  ·have hc:chkO o=0:=by
    rcases hco with hc | rfl
    ·exact hc
    ·exact (ZaI z).1
   rw [if_neg (fun hh=>hh z),exAll] at h
   injection h with h
   injection h with h1 h2
   subst h1;subst h2
   exact A.last hc hi z
  ·rw [if_pos z] at h;cases h
 | x::l,p,j,A,hco,p',j',h=>by
  rw [List.cons_append,exAll] at h
  by_cases z:(exO p j x.1.1 x.2.1).2.2=0
  ·rw [if_neg (fun hh=>hh z)] at h
   have hc:chkO o=0:=by
    rcases hco with hc | rfl
    ·exact hc
    ·exact (ZaI z).1
   exact ZgV hi l _ _ (A.step hc z) (.inl hc) p' j' h
  ·rw [if_pos z] at h;cases h
set_option maxHeartbeats 4000000 in
theorem last_law (o:Outb) (c:Bool) (i:Inbx) (c1 c2:Bool) (l:List Bts) (b:Bool):ZbX [.agg (cellsO c o), .agg (cellsI c1 c2 i),SL 2 encB b l] []=some (B true,[]):=by
 refine Zs1 (a0:=ob c o) (a1:=ib c1 c2 i) (a2:=SL 2 encB b l) rfl ?_ []
 rw [show nrm (.a [none,none,some 10]) (ob c o)=ob c o from rfl,show nrm (.a [none,some 2,some 7]) (ib c1 c2 i)=ib c1 c2 i from rfl,show nrm (.l 2) (SL 2 encB b l)=SL 2 encB b l from rfl]
 obtain ⟨H,hH⟩:∃H:Hp,H=[bxO c o,bxI c1 c2 i]:=⟨_,rfl⟩
 have x0:∀k:AV→Hp→Option AV,effK (boxE 3 (ob c o) ([]:Hp).length) [] k=k (.ptr 0 0 0 1) [bxO c o]:=fun k=>rfl
 have x1:∀k:AV→Hp→Option AV,effK (boxE 3 (ib c1 c2 i) ([bxO c o]:Hp).length) [bxO c o] k=k (.ptr 1 0 0 1) H:=fun k=>by rw [hH];rfl
 have lo2:∀k:Go.AM.K AV,ldK 1 false (.ptr 0 0 2 1) H k=k (SL 10 encV c o.pend):=fun k=>by rw [hH];rfl
 have lnP:∀k:Go.AM.K AV,lenK (SL 10 encV c o.pend) k=k (I o.pend.length):=fun k=>by rw [SL,Z0F,List.length_map]
 have lnL:∀k:Go.AM.K AV,lenK (SL 2 encB b l) k=k (I l.length):=fun k=>by rw [SL,Z0F,List.length_map]
 have li:∀k:Go.AM.K AV,ldK 3 true (.ptr 1 0 0 1) H k=k (ib c1 c2 i):=fun k=>by rw [hH];rfl
 have li1:∀k:Go.AM.K AV,ldK 1 false (.ptr 1 0 1 1) H k=k (SL 2 encH c1 i.heard):=fun k=>by rw [hH];rfl
 have lo:∀k:Go.AM.K AV,ldK 3 true (.ptr 0 0 0 1) H k=k (ob c o):=fun k=>by rw [hH];rfl
 have fw:=Zt6
 have fs:=Ztm c1 c2 i
 by_cases big:o.pend.length≤14∧smallI i=true∧l.length≤6
 ·obtain ⟨q1,q2,q3⟩:=big
  have q2':=q2
  unfold smallI at q2'
  simp only [Bool.and_eq_true,decide_eq_true_eq] at q2'
  obtain ⟨a3,a4⟩:=q2'
  have e1:decide ((o.pend.length:Int) > 14)=false:=by simp;omega
  have e2:decide ((l.length:Int) > 6)=false:=by simp;omega
  have fA:=ZtC (b1:=c1) (l:=i.heard) (o:=o) (b:=c) (h:=H) (id:=0) (by rw [hH];rfl) (by omega)
  simp -implicitDefEqProofs only [Z4R,x0,x1,ZfU,Z03,fw,Z0I,Bool.not_true,Z01,Bool.false_eq_true,if_false,Z0a,Nat.zero_add,lo2,lnP,Z0K,e1,Z6e,li,ZfV,fs,q2,lnL,e2,li1,ZrX,fA]
  cases q4:(i.heard.any fun x=>x.frm==o.node) with
  | true=>
   simp -implicitDefEqProofs only [if_true]
   rfl
  | false=>
   have hi:∀h ∈ i.heard,h.frm≠o.node:=fun h hh he=>by
    rw [List.any_eq_false] at q4
    exact q4 h hh (by simp [he])
   obtain ⟨H1,hH1⟩:∃H1:Hp,H1=[bxO c o,bxI c1 c2 i,bxO false o,bxI false false i]:=⟨_,rfl⟩
   have k1:∀(h:Hp) (k:AV→Hp→Ent→Option AV),effD (callE (Z0R 28) [ob c o] h h.length) h k=k (ob false o) h ([],[]):=ZgP (fun h=>Ztx c o (by omega) h) (by simp [idss,Ztj])
   have k2:∀(h:Hp) (k:AV→Hp→Ent→Option AV),effD (callE (Z0R 14) [ib c1 c2 i] h h.length) h k=k (ib false false i) h ([],[]):=ZgP (fun h=>Zta c1 c2 i (by omega) (by omega) h) (by simp [idss,Zti])
   have d4:∀k:AV→Hp→Ent→Option AV,effD (boxE 3 (.agg zO) H.length) H k=k (.ptr 2 0 0 1) (H++[.arr 3 [zO] true false]) ([],[2]):=fun k=>by rw [hH];rfl
   have d5:∀k:AV→Hp→Ent→Option AV,effD (boxE 3 (.agg zI) (H++[AObj.arr 3 [zO] true false]).length) (H++[.arr 3 [zO] true false]) k=k (.ptr 3 0 0 1) (H++[.arr 3 [zO] true false, .arr 3 [zI] true false]) ([],[3]):=fun k=>by rw [hH];rfl
   have d6:∀k:AV→Hp→Ent→Option AV,effD (stE 3 (.ptr 2 0 0 1) (ob false o) (H++[.arr 3 [zO] true false, .arr 3 [zI] true false])) (H++[.arr 3 [zO] true false, .arr 3 [zI] true false]) k=k .u (H++[bxO false o, .arr 3 [zI] true false]) ([2],[2]):=fun k=>by rw [hH];rfl
   have d7:∀k:AV→Hp→Ent→Option AV,effD (stE 3 (.ptr 3 0 0 1) (ib false false i) (H++[bxO false o, .arr 3 [zI] true false])) (H++[bxO false o, .arr 3 [zI] true false]) k=k .u H1 ([3],[3]):=fun k=>by rw [hH,hH1];rfl
   have dj:disjAll [(1,2),(0,4),(1,4),(2,4),(3,4),(0,5),(1,5),(2,5),(3,5),(4,5)] [(idsOf (.ptr 0 0 0 1),[]),([],[]),(idsOf (.ptr 1 0 0 1),[]),([],[]),([],[2]),([],[3]),([2],[2]),([3],[3])]=true:=rfl
   obtain ⟨full,hfull⟩:∃full:Bts,full=(⟨18446744073709551615,by omega⟩,⟨18446744073709551615,by omega⟩):=⟨_,rfl⟩
   have bK:∀k:Go.AM.K AV,buildK [.s (.int .u64 0), .s (.int .u64 0)] [(some (0,1),(.s (.int .u64 18446744073709551615))),(some (1,1),(.s (.int .u64 18446744073709551615)))] k=k (.agg (encB full)):=fun k=>by rw [hfull];rfl
   obtain ⟨cl,h1,r1,id,h2,r2,r3,r4,r5,r6⟩:=ZtA l b full (by omega) H1
   have hl1:H1.length=4:=by rw [hH1];rfl
   have J0:LsI o c i c1 c2 o false i false false h2:=⟨by rw [r6 0 (by omega),hH1];rfl,by rw [r6 1 (by omega),hH1];rfl,by rw [r6 2 (by omega),hH1];rfl,by rw [r6 3 (by omega),hH1];rfl⟩
   have lnX:∀k:Go.AM.K AV,lenK (.sl 2 id 0 (l.length+1) (l.length+1) false) k=k (I ((l.length+1:Nat):Int)):=fun k=>rfl
   have hLl:(l++[full]).length=l.length+1:=by simp
   have hM:=ZtE (x0:=fun w145_3 w145_4 w145_7 w145_8 h=>Z4Q Try.prog Z0M Z0R NN (fun v g=>cvt false g v) w145_3 w145_4 w145_7 w145_8 h) (xr:=fun w146_6 h=>cvt false h w146_6) (L:=l++[full]) (id:=id) (by omega) (fun h=>rfl) (by omega) NN [] (l++[full]) o false i false false h2 rfl (by have:=NN_ge;omega) J0 r4 (by omega) (by omega) (by omega)
   rw [hLl] at hM
   simp -implicitDefEqProofs only [Bool.false_eq_true,if_false,lo,k1,li,k2,d4,d5,d6,d7,dj,cond_true,ZrY,Z03,r1,bK,r2,r3,lnX]
   cases hx:exAll (l++[full]) o i with
   | none=>exact hM.1 hx
   | some pj=>
    obtain ⟨p',j'⟩:=pj
    obtain ⟨b',b1',b2',H',m1,m2,m3,m4⟩:=hM.2 p' j' hx
    refine m1.trans ?_
    rw [hfull] at hx
    have hall:=ZgV hi l o i (Aft.refl o i) (.inr rfl) p' j' hx
    have z2:∀k:Go.AM.K AV,ldK 1 false (.ptr 0 0 2 1) H' k=k (SL 10 encV c o.pend):=fun k=>by rw [Z00,m2.g0];rfl
    simp -implicitDefEqProofs only [Z4Q,Z0a,Nat.zero_add,z2,lnP]
    exact ZtF (x2:=fun h=>Z7U Try.prog Z0M Z0R NN (fun v g=>cvt false g v) h) (by omega) (by omega) (by omega) (fun h=>rfl) hall NN [] o.pend H' rfl (by have:=NN_ge;omega) m2
 ·have fA:∀k:AV→Hp→Option AV,∃bb,(grpK false (B (decide ((o.pend.length:Int) > 14) || !smallI i)) H (fun k19=>arithK .gtr (I l.length) (I 6) fun x21=>k19 x21 H) k)=k (B bb) H:=fun k=>by
   cases (decide ((o.pend.length:Int) > 14) || !smallI i)
   ·exact ⟨_,rfl⟩
   ·exact ⟨_,rfl⟩
  simp -implicitDefEqProofs only [Z4R,x0,x1,ZfU,Z03,fw,Z0I,Bool.not_true,Z01,Bool.false_eq_true,if_false,Z0a,Nat.zero_add,lo2,lnP,Z0K,li,ZfV,fs,lnL,li1]
  have p1:∀k:AV→Hp→Option AV,grpK false (B (decide ((o.pend.length:Int) > 14))) H (fun K=>K (B (!smallI i)) H) k=k (B (decide ((o.pend.length:Int) > 14) || !smallI i)) H:=fun k=>Z0N _ _ H k
  have e:((decide ((o.pend.length:Int) > 14) || !smallI i)||decide ((l.length:Int) > 6))=true:=by
   cases z1:decide ((o.pend.length:Int) > 14) with
   | true=>rfl
   | false=>
    cases z2:smallI i with
    | false=>rfl
    | true=>
     simp only [Bool.not_true,Bool.or_self,Bool.false_or,decide_eq_true_eq]
     simp only [decide_eq_false_iff_not] at z1
     have:¬l.length≤6:=fun hh=>big ⟨by omega,z2,hh⟩
     omega
  simp -implicitDefEqProofs only [Z0N,e,Zbg,Z01,if_true]
  rfl
end Go.AM

