import Derived.Test.YtgmfphialjcpcaaG5
import Derived.Lib.Mul64
import Derived.Below
import Derived.ChangeOld
import Derived.Carry
import Derived.OpenShut
set_option linter.unusedSectionVars false
set_option linter.unusedVariables false
set_option linter.unusedSimpArgs false
set_option linter.constructorNameAsVariable false
namespace Go.AM
open Go.Proofs
set_option linter.unusedVariables false
set_option linter.unusedSimpArgs false
set_option linter.constructorNameAsVariable false
set_option maxRecDepth 20000
attribute [local congr] Z0d Z0e Z0f Z0g Z0h Z0i Z0j Z0k Z0l Z0m Z0n Z0o Z0p Z0q Z0r Z0s Z0t Z0u Z0v Z0w Z0x Z0y Z0z Z0A Z0B Z0C Z0D
structure BsT (i:Inbx) (e:Envl) (LH LM:AV) (h:Hp):Prop where
 g0:h[0]? = some (.arr 3 [[I i.node,LH,LM]] true false)
 g1:h[1]? = some (.arr 10 [encV e] true false)
 g2:h[2]? = some (.arr 3 [zI] true false)
 g3:h[3]? = some (.arr 2 [zH] true false)
 g4:h[4]? = some (.arr 3 [zI] true false)
 g5:h[5]? = some (.arr 2 [[I e.frm,I e.num]] true false)
theorem BsT.mono {i:Inbx} {e:Envl} {LH LM:AV} {h h':Hp} (B:BsT i e LH LM h) (hk:∀(j:Nat) (o:AObj),j<6→h[j]? = some o→h'[j]? = some o):BsT i e LH LM h':=
 ⟨hk _ _ (by omega) B.g0,hk _ _ (by omega) B.g1,hk _ _ (by omega) B.g2,hk _ _ (by omega) B.g3,hk _ _ (by omega) B.g4,hk _ _ (by omega) B.g5⟩
section
variable {i:Inbx} {e:Envl} {LH LM:AV} {h:Hp}
theorem BsT.l00 (B:BsT i e LH LM h) (k:Go.AM.K AV):ldK 1 false (.ptr 0 0 0 1) h k=k (I i.node):=by rw [Z00,B.g0];rfl
theorem BsT.l13 (B:BsT i e LH LM h) (k:Go.AM.K AV):ldK 7 true (.ptr 1 0 3 1) h k=k (.agg (encM e.msg)):=by rw [Z00,B.g1];rfl
theorem BsT.l1w (B:BsT i e LH LM h) (k:Go.AM.K AV):ldK 10 true (.ptr 1 0 0 1) h k=k (.agg (encV e)):=by rw [Z00,B.g1];rfl
theorem BsT.l11 (B:BsT i e LH LM h) (k:Go.AM.K AV):ldK 1 false (.ptr 1 0 1 1) h k=k (I e.to):=by rw [Z00,B.g1];rfl
theorem BsT.l5w (B:BsT i e LH LM h) (k:Go.AM.K AV):ldK 2 true (.ptr 5 0 0 1) h k=k (.agg (encH ⟨e.frm,e.num⟩)):=by rw [Z00,B.g5];rfl
theorem BsT.l4w (B:BsT i e LH LM h) (k:Go.AM.K AV):ldK 3 true (.ptr 4 0 0 1) h k=k (.agg zI):=by rw [Z00,B.g4];rfl
theorem BsT.l2w (B:BsT i e LH LM h) (k:Go.AM.K AV):ldK 3 true (.ptr 2 0 0 1) h k=k (.agg zI):=by rw [Z00,B.g2];rfl
theorem BsT.l3w (B:BsT i e LH LM h) (k:Go.AM.K AV):ldK 2 true (.ptr 3 0 0 1) h k=k (.agg zH):=by rw [Z00,B.g3];rfl
theorem BsT.s2 (B:BsT i e LH LM h) (k:AV→Hp→Option AV):effK (stE 3 (.ptr 2 0 0 1) (.agg zI) h) h k=k .u h:=by
 have:stE 3 (.ptr 2 0 0 1) (.agg zI) h=some (.u,⟨[(2, .arr 3 [zI] true false)],[],[2]⟩):=by rw [Z0G,B.g2];rfl
 rw [Z0a this,Z1f B.g2]
theorem BsT.s3 (B:BsT i e LH LM h) (k:AV→Hp→Option AV):effK (stE 2 (.ptr 3 0 0 1) (.agg zH) h) h k=k .u h:=by
 have:stE 2 (.ptr 3 0 0 1) (.agg zH) h=some (.u,⟨[(3, .arr 2 [zH] true false)],[],[3]⟩):=by rw [Z0G,B.g3];rfl
 rw [Z0a this,Z1f B.g3]
end
theorem Zh5 {i:Inbx} {e:Envl} {LH LM:AV} {h:Hp} (Q:BsT i e LH LM h) {p:Nat} {H:List Hrd} {bh:Bool} {V:AV} {msgs:List Msg} (hp:h[p]? = some (.arr 3 [[I i.node, .lst 2 bh (H.map encH),V]] true false)) (hp6:6≤p) (O:OwnQ h V msgs) (fr:Bool):
  ∃w b,cvt false ((h.set 2 (.arr 3 [[I i.node, .lst 2 bh (H.map encH),V]] true false)).set 3 (.arr 2 [encH ⟨e.frm,e.num⟩] true false)) (.tup [.agg [I i.node, .lst 2 bh (H.map encH),V], .agg (encH ⟨e.frm,e.num⟩),B fr,I 0])=some w∧nrmR [.a [none,some 2,some 7], .o, .o, .o] w = .tup [.agg [I i.node, .lst 2 bh (H.map encH),SLm b msgs], .agg (encH ⟨e.frm,e.num⟩),B fr,I 0] ∧
   (∀(k:AV→Hp→Ent→Option AV),effD (stE 3 (.ptr 2 0 0 1) (.agg [I i.node, .lst 2 bh (H.map encH),V]) h) h k=k .u (h.set 2 (.arr 3 [[I i.node, .lst 2 bh (H.map encH),V]] true false)) ([2],[2])) ∧
   (∀(k:AV→Hp→Ent→Option AV),effD (stE 2 (.ptr 3 0 0 1) (.agg (encH ⟨e.frm,e.num⟩)) (h.set 2 (.arr 3 [[I i.node, .lst 2 bh (H.map encH),V]] true false))) (h.set 2 (.arr 3 [[I i.node, .lst 2 bh (H.map encH),V]] true false)) k=k .u ((h.set 2 (.arr 3 [[I i.node, .lst 2 bh (H.map encH),V]] true false)).set 3 (.arr 2 [encH ⟨e.frm,e.num⟩] true false)) ([3],[3])) ∧
   (∀k:Go.AM.K AV,ldK 3 true (.ptr p 0 0 1) h k=k (.agg [I i.node, .lst 2 bh (H.map encH),V])) ∧
   (∀k:Go.AM.K AV,ldK 3 true (.ptr 2 0 0 1) ((h.set 2 (.arr 3 [[I i.node, .lst 2 bh (H.map encH),V]] true false)).set 3 (.arr 2 [encH ⟨e.frm,e.num⟩] true false)) k=k (.agg [I i.node, .lst 2 bh (H.map encH),V])) ∧
   (∀k:Go.AM.K AV,ldK 2 true (.ptr 3 0 0 1) ((h.set 2 (.arr 3 [[I i.node, .lst 2 bh (H.map encH),V]] true false)).set 3 (.arr 2 [encH ⟨e.frm,e.num⟩] true false)) k=k (.agg (encH ⟨e.frm,e.num⟩))):=by
 have hs:=O.shape
 have a2:=Q.g2
 have a3:(h.set 2 (.arr 3 [[I i.node, .lst 2 bh (H.map encH),V]] true false))[3]? = some (.arr 2 [zH] true false):=getSetN Q.g3 (by omega)
 have O2:OwnQ ((h.set 2 (.arr 3 [[I i.node, .lst 2 bh (H.map encH),V]] true false)).set 3 (.arr 2 [encH ⟨e.frm,e.num⟩] true false)) V msgs:=O.keep fun j x hj=>by
  have n2:2≠j:=by rintro rfl;rw [Q.g2] at hj;injection hj with hj;injection hj with q _;cases q
  have n3:3≠j:=by rintro rfl;rw [Q.g3] at hj;injection hj with hj;injection hj with q _;cases q
  exact getSetN (getSetN hj n2) n3
 obtain ⟨w,b,c1,c2,c3⟩:=O2.cvt
 refine ⟨.tup [.agg [I i.node, .lst 2 bh (H.map encH),w], .agg (encH ⟨e.frm,e.num⟩),B fr,I 0],b, ?_, ?_,fun k => ?_,fun k => ?_,fun k => ?_,fun k => ?_,fun k => ?_⟩
 ·simp only [Z28,Z1h,Z1g,Z4s,cvt_s,Zbz,c1]
  rfl
 ·show AV.tup [.agg [I i.node, .lst 2 bh (H.map encH),nrm (.l 7) w], .agg (encH ⟨e.frm,e.num⟩),B fr,I 0]=_
  rw [c2]
 ·have:stE 3 (.ptr 2 0 0 1) (.agg [I i.node, .lst 2 bh (H.map encH),V]) h=some (.u,⟨[(2, .arr 3 [[I i.node, .lst 2 bh (H.map encH),V]] true false)],[],[2]⟩):=by
   rw [Z0G,a2]
   rcases hs with rfl | ⟨id,n,rfl⟩<;>simp [putAt]
  exact Z09 this k
 ·have:stE 2 (.ptr 3 0 0 1) (.agg (encH ⟨e.frm,e.num⟩)) (h.set 2 (.arr 3 [[I i.node, .lst 2 bh (H.map encH),V]] true false))=some (.u,⟨[(3, .arr 2 [encH ⟨e.frm,e.num⟩] true false)],[],[3]⟩):=by
   rw [Z0G,a3]
   simp [putAt,encH]
  exact Z09 this k
 ·rw [Z00,hp];rcases hs with rfl | ⟨id,n,rfl⟩<;>rfl
 ·have:((h.set 2 (.arr 3 [[I i.node, .lst 2 bh (H.map encH),V]] true false)).set 3 (.arr 2 [encH ⟨e.frm,e.num⟩] true false))[2]? = some (.arr 3 [[I i.node, .lst 2 bh (H.map encH),V]] true false):=getSetN (getSelfN a2) (by omega)
  rw [Z00,this];rcases hs with rfl | ⟨id,n,rfl⟩<;>rfl
 ·have:((h.set 2 (.arr 3 [[I i.node, .lst 2 bh (H.map encH),V]] true false)).set 3 (.arr 2 [encH ⟨e.frm,e.num⟩] true false))[3]? = some (.arr 2 [encH ⟨e.frm,e.num⟩] true false):=getSelfN a3
  rw [Z00,this];rfl
set_option maxHeartbeats 4000000 in
theorem Zh6 (c1 c2:Bool) (i:Inbx) (e:Envl) (hl:i.heard.length<1000) (hm:i.msgs.length<1000) (h:Hp):∃b1 b2,Z1F [ib c1 c2 i, .agg (encV e)] h=some (takeV b1 b2 (takeI i e),h):=by
 obtain ⟨LH,hLH⟩:∃LH:AV,LH=SL 2 encH c1 i.heard:=⟨_,rfl⟩
 obtain ⟨LM,hLM⟩:∃LM:AV,LM=SL 7 encM c2 i.msgs:=⟨_,rfl⟩
 have eib:ib c1 c2 i = .agg [I i.node,LH,LM]:=by rw [hLH,hLM]
 obtain ⟨H1,hH1⟩:∃H1:Hp,H1=[AObj.arr 3 [[I i.node,LH,LM]] true false, .arr 10 [encV e] true false, .arr 3 [zI] true false, .arr 2 [zH] true false, .arr 3 [zI] true false, .arr 2 [[I e.frm,I e.num]] true false]:=⟨_,rfl⟩
 have hl1:H1.length=6:=by rw [hH1];rfl
 have B1:BsT i e LH LM H1:=by rw [hH1];exact ⟨rfl,rfl,rfl,rfl,rfl,rfl⟩
 have x0:∀k:AV→Hp→Option AV,effK (boxE 3 (.agg [I i.node,LH,LM]) ([]:Hp).length) [] k=k (.ptr 0 0 0 1) [.arr 3 [[I i.node,LH,LM]] true false]:=fun k=>by rw [hLH,hLM];rfl
 have x1:∀k:AV→Hp→Option AV,effK (boxE 10 (.agg (encV e)) ([AObj.arr 3 [[I i.node,LH,LM]] true false]:Hp).length) [.arr 3 [[I i.node,LH,LM]] true false] k=k (.ptr 1 0 0 1) [.arr 3 [[I i.node,LH,LM]] true false, .arr 10 [encV e] true false]:=fun k=>rfl
 have x2:∀k:AV→Hp→Option AV,effK (boxE 3 (.agg zI) ([AObj.arr 3 [[I i.node,LH,LM]] true false, .arr 10 [encV e] true false]:Hp).length) [.arr 3 [[I i.node,LH,LM]] true false, .arr 10 [encV e] true false] k=k (.ptr 2 0 0 1) [.arr 3 [[I i.node,LH,LM]] true false, .arr 10 [encV e] true false, .arr 3 [zI] true false]:=fun k=>rfl
 have x3:∀k:AV→Hp→Option AV,effK (boxE 2 (.agg zH) ([AObj.arr 3 [[I i.node,LH,LM]] true false, .arr 10 [encV e] true false, .arr 3 [zI] true false]:Hp).length) [.arr 3 [[I i.node,LH,LM]] true false, .arr 10 [encV e] true false, .arr 3 [zI] true false] k=k (.ptr 3 0 0 1) [.arr 3 [[I i.node,LH,LM]] true false, .arr 10 [encV e] true false, .arr 3 [zI] true false, .arr 2 [zH] true false]:=fun k=>rfl
 obtain ⟨H0,hH0⟩:∃H0:Hp,H0=[AObj.arr 3 [[I i.node,LH,LM]] true false, .arr 10 [encV e] true false, .arr 3 [zI] true false, .arr 2 [zH] true false]:=⟨_,rfl⟩
 rw [← hH0] at x3
 have y0:∀k:Go.AM.K AV,ldK 1 false (.ptr 1 0 0 1) H0 k=k (I e.frm):=fun k=>by rw [hH0];rfl
 have y2:∀k:Go.AM.K AV,ldK 1 false (.ptr 1 0 2 1) H0 k=k (I e.num):=fun k=>by rw [hH0];rfl
 have bI:∀k:Go.AM.K AV,buildK zI [] k=k (.agg zI):=fun k=>rfl
 have bH:∀k:Go.AM.K AV,buildK zH [] k=k (.agg zH):=fun k=>rfl
 have bK:∀k:Go.AM.K AV,buildK zH [(some (0,1),I e.frm),(some (1,1),I e.num)] k=k (.agg [I e.frm,I e.num]):=fun k=>rfl
 have d1:∀k:AV→Hp→Ent→Option AV,effD (boxE 3 (.agg zI) H0.length) H0 k=k (.ptr 4 0 0 1) (H0++[.arr 3 [zI] true false]) ([],[4]):=fun k=>by rw [hH0];rfl
 have d2:∀k:AV→Hp→Ent→Option AV,effD (boxE 2 (.agg zH) (H0++[AObj.arr 3 [zI] true false]).length) (H0++[.arr 3 [zI] true false]) k=k (.ptr 5 0 0 1) (H0++[.arr 3 [zI] true false, .arr 2 [zH] true false]) ([],[5]):=fun k=>by rw [hH0];rfl
 have d3:∀k:AV→Hp→Ent→Option AV,effD (stE 3 (.ptr 4 0 0 1) (.agg zI) (H0++[.arr 3 [zI] true false, .arr 2 [zH] true false])) (H0++[.arr 3 [zI] true false, .arr 2 [zH] true false]) k=k .u (H0++[.arr 3 [zI] true false, .arr 2 [zH] true false]) ([4],[4]):=fun k=>by rw [hH0];rfl
 have d4:∀k:AV→Hp→Ent→Option AV,effD (stE 2 (.ptr 5 0 0 1) (.agg [I e.frm,I e.num]) (H0++[.arr 3 [zI] true false, .arr 2 [zH] true false])) (H0++[.arr 3 [zI] true false, .arr 2 [zH] true false]) k=k .u H1 ([5],[5]):=fun k=>by rw [hH0,hH1];rfl
 have dj1:disjAll [(2,6),(4,6),(2,7),(4,7),(6,7),(2,8),(4,8)] [([],[]),([],[]),(idsOf (.ptr 1 0 0 1),[]),([],[]),(idsOf (.ptr 1 0 2 1),[]),([],[]),([],[4]),([],[5]),([4],[4]),([5],[5])]=true:=rfl
 have lw:∀k:Go.AM.K AV,ldK 3 true (.ptr 0 0 0 1) H1 k=k (.agg [I i.node,LH,LM]):=fun k=>by rw [Z00,B1.g0,hLH,hLM];rfl
 have fC:=Z7R c1 c2 i (by omega) hm
 rw [eib] at fC
 have hnr:nrm (.a [none,some 2,some 7]) (.agg [I i.node,LH,LM]) = .agg [I i.node,LH,LM]:=by rw [hLH,hLM];rfl
 have hpl:plains [.agg [I i.node,LH,LM], .agg (encV e)]=true:=by rw [hLH,hLM];rfl
 rw [eib]
 unfold takeI
 by_cases z:chkI i=0
 ·have ez:(chkI i==0)=true:=by simp [z]
  rw [if_neg (show ¬chkI i≠0 from fun hh=>hh z)]
  obtain ⟨k1,k2,k3,k4,k5,k6,k7⟩:=Z7S z
  obtain ⟨hasc, -, -⟩:=Z68 k4
  obtain ⟨H2,hH2⟩:∃H2:Hp,H2=H1++[AObj.arr 10 [encV e] true false]:=⟨_,rfl⟩
  have hl2:H2.length=7:=by rw [hH2];simp [hl1]
  have B2:BsT i e LH LM H2:=B1.mono fun j o _ hj=>by rw [hH2];exact Z08 hj
  have bs:∀k:AV→Hp→Option AV,effK (bsE 10 zE 1 [(0, .agg (encV e))] H1.length) H1 k=k (.sl 10 H1.length 0 1 1 true) H2:=fun k=>by rw [hH2];simp [bsE,fillS,encV,effK,ap]
  have fc:=ZgS (x:=e) (h:=H2) (id:=H1.length) (by rw [hH2,Z0M];rfl)
  have t0:∀(k:Go.AM.K AV),exK (tupP (chkS [e])) 0 k=k (I (chkS [e]).1):=fun k=>rfl
  have t1:∀(k:Go.AM.K AV),exK (tupP (chkS [e])) 1 k=k (I (formE e)):=fun k=>by rw [← ZgR];rfl
  by_cases z2:formE e=0
  ·have ez2:(formE e==0)=true:=by simp [z2]
   rw [if_neg (show ¬formE e≠0 from fun hh=>hh z2)]
   obtain ⟨m1, -⟩:=Zh4 z2
   by_cases q3:e.to=i.node
   ·have e3:(e.to==i.node)=true:=by simp [q3]
    rw [if_neg (show ¬e.to≠i.node from fun hh=>hh q3)]
    have gH:∀h base,Z4G [LH] h base=some (LH,EF []):=fun h base=>by
     rw [hLH]
     exact (Z1A (Zh3 i.heard c1 (by omega) h) base).trans (by simp [SL,idss,ids])
    obtain ⟨V,Ha,e1,H3,p1,p2,p3,p4,p5,p6,p7,p8⟩:=ZtY (msgs:=i.msgs) (b2:=c2) (node:=i.node) (LH:=LH) (by rw [hLH];rfl) (fun c hc=>by rw [hc,hLH];rfl) (by omega) H2
    have hLM2:SLm c2 i.msgs=LM:=hLM.symm
    rw [hLM2] at p1
    have h20:∀k:Go.AM.K AV,ldK 1 false (.ptr 0 0 1 1) H2 k=k LH:=fun k=>by rw [Z00,B2.g0,hLH];rfl
    have h22:∀k:Go.AM.K AV,ldK 1 false (.ptr 0 0 2 1) H2 k=k LM:=fun k=>by rw [Z00,B2.g0,hLM];rfl
    have bI3:∀k:Go.AM.K AV,buildK zI [(some (0,1),I i.node),(some (1,1),LH),(some (2,1),V)] k=k (.agg [I i.node,LH,V]):=fun k=>by
     rcases p5.shape with rfl | ⟨id,n,rfl⟩<;>(rw [hLH];rfl)
    have hpa:7≤Ha.length:=by omega
    have dj2:disjAll [(1,4),(4,6),(1,7),(1,9),(3,9),(4,9),(6,9),(7,9)] [([],[]),(idsOf (.ptr 0 0 0 1),[]),([],[]),(idsOf (.ptr 0 0 1 1),[]),([],[]),([],[]),(idsOf (.ptr 0 0 2 1),[]),e1,([],[]),([],[Ha.length]),([Ha.length],[Ha.length])]=true:=by
     have n0:(0==Ha.length)=false:=by rw [beq_eq_false_iff_ne];omega
     rcases p8 with rfl | ⟨rfl,q⟩
     ·simp [disjAll,disj2,idsOf]
      rintro rfl
      simp at hpa
     ·simp [disjAll,disj2,idsOf]
      refine ⟨?_, ?_,by omega⟩
      ·rintro rfl;simp at hl2
      ·rintro rfl;simp at hpa
    have B3:BsT i e LH LM H3:=B2.mono fun j o _ hj=>(p6 j o hj).2
    have h30:∀k:Go.AM.K AV,ldK 1 false (.ptr 0 0 1 1) H3 k=k LH:=fun k=>by rw [Z00,B3.g0,hLH];rfl
    have h32:∀k:Go.AM.K AV,ldK 1 false (.ptr 0 0 2 1) H3 k=k LM:=fun k=>by rw [Z00,B3.g0,hLM];rfl
    have fH:=ZtW i.heard (c1&&i.heard.isEmpty) ⟨e.frm,e.num⟩ (by omega) (fun x y h k=>by rw [ZcC,Bool.false_xor])
    have fM:=Zts i.msgs (c2&&i.msgs.isEmpty) e.msg (by omega) (fun x y h k=>by rw [Z66,Bool.false_xor])
    rw [show AV.lst 2 (c1&&i.heard.isEmpty) (i.heard.map encH)=LH from hLH.symm] at fH
    rw [show AV.lst 7 (c2&&i.msgs.isEmpty) (i.msgs.map encM)=LM from hLM.symm] at fM
    have lenH:∀k:Go.AM.K AV,lenK LH k=k (I i.heard.length):=fun k=>by rw [hLH,SL,Z0b,List.length_map]
    have lenM:∀k:Go.AM.K AV,lenK LM k=k (I i.msgs.length):=fun k=>by rw [hLM,SL,Z0b,List.length_map]
    cases q4:i.heard.contains ⟨e.frm,e.num⟩ with
    | true=>
     rw [if_pos rfl]
     rw [hLH] at p4
     obtain ⟨w,b,o1,o2,o3,o4,o5,o6,o7⟩:=Zh5 B3 p4 (by omega) p5 false
     rw [show AV.lst 2 (c1&&i.heard.isEmpty) (i.heard.map encH)=LH from hLH.symm] at o1 o2 o3 o4 o5 o6 o7
     refine ⟨c1,b,(Z4J (a0 := .agg [I i.node,LH,LM]) (a1 := .agg (encV e)) (v:=w) hpl ?_ h).trans ?_⟩
     ·rw [hnr]
      simp -implicitDefEqProofs only [Z1D,x0,x1,x2,x3,bI,Z0c,Nat.zero_add,y0,y2,bK,d1,d2,d3,d4,dj1,cond_true,lw,Z4I,Z03,fC,Z07,ez,Bool.true_xor,Bool.not_true,Z01,Bool.false_eq_true,if_false,B1.l1w,bs,Z5C,fc,t0,t1,ez2,B2.l11,B2.l00,e3,h20,Za1,Za2,Z1i,gH,Z4p,h22,p1,bI3,p2,p3,dj2,h30,B3.l5w,Za3,fH,q4,if_true,o5,o3,o4,o6,o7]
      have dj3:disjAll [(1,2)] [(idsOf (.ptr Ha.length 0 0 1),[]),(idsOf (.ptr 5 0 0 1),[]),([2],[2]),([3],[3]),([],[]),([],[])]=true:=rfl
      rw [dj3,cond_true]
      exact o1
     ·rw [o2,hLH]
      rfl
    | false=>
     rw [if_neg (by simp)]
     obtain ⟨fresh,hfr⟩:∃fresh,fresh = !i.msgs.contains e.msg:=⟨_,rfl⟩
     by_cases q5:i.heard.length=256∨(i.msgs.contains e.msg=false∧i.msgs.length=64)
     ·rw [if_pos q5]
      refine ⟨true,true,(Z4J (a0 := .agg [I i.node,LH,LM]) (a1 := .agg (encV e)) (v := .tup [.agg zI, .agg zH,B false,I 12]) hpl ?_ h).trans rfl⟩
      rw [hnr]
      have g5:((i.heard.length:Int)==256||(!i.msgs.contains e.msg&&(i.msgs.length:Int)==64))=true:=by
       rcases q5 with q5 | ⟨q5,q6⟩
       ·simp [q5]
       ·rw [q5,q6];simp
      simp -implicitDefEqProofs only [Z1D,x0,x1,x2,x3,bI,Z0c,Nat.zero_add,y0,y2,bK,d1,d2,d3,d4,dj1,cond_true,lw,Z4I,Z03,fC,Z07,ez,Bool.true_xor,Bool.not_true,Z01,Bool.false_eq_true,if_false,B1.l1w,bs,Z5C,fc,t0,t1,ez2,B2.l11,B2.l00,e3,h20,Za1,Za2,Z1i,gH,Z4p,h22,p1,bI3,p2,p3,dj2,h30,B3.l5w,Za3,fH,q4,h32,B3.l13,Zc3,fM,Z0L,lenH,lenM,Bool.false_xor,Z0X,Z0N,g5,if_true,B3.l4w,bH,B3.s2,B3.s3,B3.l2w,B3.l3w]
      rfl
     ·rw [if_neg q5]
      have g5:((i.heard.length:Int)==256||(!i.msgs.contains e.msg&&(i.msgs.length:Int)==64))=false:=by
       rw [Bool.or_eq_false_iff]
       constructor
       ·rw [beq_eq_false_iff_ne];intro hh;exact q5 (.inl (by omega))
       ·cases hc:i.msgs.contains e.msg with
        | true=>rfl
        | false=>
         simp only [Bool.not_false,Bool.true_and]
         rw [beq_eq_false_iff_ne];intro hh;exact q5 (.inr ⟨hc,by omega⟩)
      have fI:=ZtU (b:=c1) (x:=⟨e.frm,e.num⟩) hasc (by omega) H3
      rw [show SL 2 encH c1 i.heard=LH from hLH.symm] at fI
      obtain ⟨LI,hLI⟩:∃LI:AV,LI = .lst 2 false ((insH i.heard ⟨e.frm,e.num⟩).map encH):=⟨_,rfl⟩
      rw [← hLI] at fI
      obtain ⟨H4,hH4⟩:∃H4:Hp,H4=H3.set Ha.length (.arr 3 [[I i.node,LI,V]] true false):=⟨_,rfl⟩
      have s4:∀k:AV→Hp→Option AV,effK (stE 1 (.ptr Ha.length 0 1 1) LI H3) H3 k=k .u H4:=fun k=>by
       have:stE 1 (.ptr Ha.length 0 1 1) LI H3=some (.u,⟨[(Ha.length, .arr 3 [[I i.node,LI,V]] true false)],[],[Ha.length]⟩):=by
        rw [Z0G,p4,hLI]
        simp [putAt]
       rw [Z0a this,hH4]
      have B4:BsT i e LH LM H4:=B3.mono fun j o hj6 hj=>by rw [hH4];exact getSetN hj (by omega)
      have p44:H4[Ha.length]? = some (.arr 3 [[I i.node,LI,V]] true false):=by rw [hH4];exact getSelfN p4
      have O4:OwnQ H4 V i.msgs:=p5.keep fun j x hj=>by
       rw [hH4]
       refine getSetN hj ?_
       rintro rfl
       rw [p4] at hj;injection hj with hj;injection hj with q _;cases q
      cases q6:i.msgs.contains e.msg with
      | true=>
       rw [hLI] at p44
       obtain ⟨w,b,o1,o2,o3,o4,o5,o6,o7⟩:=Zh5 B4 p44 (by omega) O4 true
       rw [← hLI] at o1 o2 o3 o4 o5 o6 o7
       refine ⟨false,b,(Z4J (a0 := .agg [I i.node,LH,LM]) (a1 := .agg (encV e)) (v:=w) hpl ?_ h).trans ?_⟩
       ·rw [hnr]
        rw [q6] at g5
        simp only [Bool.not_true] at g5
        simp -implicitDefEqProofs only [Z1D,x0,x1,x2,x3,bI,Z0c,Nat.zero_add,y0,y2,bK,d1,d2,d3,d4,dj1,cond_true,lw,Z4I,Z03,fC,Z07,ez,Bool.true_xor,Bool.not_true,Z01,Bool.false_eq_true,if_false,B1.l1w,bs,Z5C,fc,t0,t1,ez2,B2.l11,B2.l00,e3,h20,Za1,Za2,Z1i,gH,Z4p,h22,p1,bI3,p2,p3,dj2,h30,B3.l5w,Za3,fH,q4,h32,B3.l13,Zc3,fM,q6,Z0L,lenH,lenM,Bool.false_xor,Z0X,Z0N,g5,Zgb,fI,s4,Z8h,o5,B4.l5w,o3,o4,o6,o7]
        have dj3:disjAll [(1,2)] [(idsOf (.ptr Ha.length 0 0 1),[]),(idsOf (.ptr 5 0 0 1),[]),([2],[2]),([3],[3]),([],[]),([],[])]=true:=rfl
        rw [dj3,cond_true]
        exact o1
       ·rw [o2,hLI]
        rfl
      | false=>
       have hml:i.msgs.length<64:=by
        rcases Nat.lt_or_ge i.msgs.length 64 with hh | hh
        ·exact hh
        ·exact absurd (.inr ⟨q6,by omega⟩) q5
       have hE0:errM (i.msgs++[e.msg])=0:=by
        refine ZaR.2 ⟨by simp;omega,fun m hm => ?_⟩
        rcases List.mem_append.1 hm with hm | hm
        ·exact (ZaR.1 k5).2 m hm
        ·simp only [List.mem_singleton] at hm;subst hm;exact m1
       have lV:∀k:Go.AM.K AV,ldK 1 false (.ptr Ha.length 0 2 1) H4 k=k V:=fun k=>by rw [Z00,p44];rcases p5.shape with rfl | ⟨id,n,rfl⟩<;>rfl
       obtain ⟨H5,hH5⟩:∃H5:Hp,H5=H4++[AObj.arr 7 [encM e.msg] true false]:=⟨_,rfl⟩
       have bm:∀k:AV→Hp→Option AV,effK (bsE 7 [I 0,I 0,I 0,I 0,I 0,I 0,I 0] 1 [(0, .agg (encM e.msg))] H4.length) H4 k=k (.sl 7 H4.length 0 1 1 true) H5:=fun k=>by rw [hH5];simp [bsE,fillS,encM,effK,ap]
       have O5:OwnQ H5 V i.msgs:=O4.keep fun j x hj=>by rw [hH5];exact Z08 hj
       obtain ⟨V',H6,a1,a2,a3⟩:=O5.snoc (m:=e.msg) (p:=H4.length) (by rw [hH5,Z0M];rfl) (fun id hid=>by
        rcases O4 with ⟨-,rfl⟩ | ⟨id',rfl,hh⟩
        ·simp [idOf] at hid
        ·simp only [idOf,Option.some.injEq] at hid
         have:=(List.getElem?_eq_some_iff.1 hh).1
         omega) (by omega)
       have B6:BsT i e LH LM H6:=by
        have B5:BsT i e LH LM H5:=B4.mono fun j o _ hj=>by rw [hH5];exact Z08 hj
        exact ⟨a3 _ _ B5.g0 (fun x hx=>by injection hx with q _;cases q),a3 _ _ B5.g1 (fun x hx=>by injection hx with q _;cases q),a3 _ _ B5.g2 (fun x hx=>by injection hx with q _;cases q),a3 _ _ B5.g3 (fun x hx=>by injection hx with q _;cases q),a3 _ _ B5.g4 (fun x hx=>by injection hx with q _;cases q),a3 _ _ B5.g5 (fun x hx=>by injection hx with q _;cases q)⟩
       have p46:H6[Ha.length]? = some (.arr 3 [[I i.node,LI,V]] true false):=a3 _ _ (by rw [hH5];exact Z08 p44) (fun x hx=>by injection hx with q _;cases q)
       obtain ⟨w5,bb,u1,u2, -⟩:=a2.cvt
       have fN:=ZgD (i.msgs++[e.msg]) (b:=bb) (by simp;omega) (h:=H6) (v:=V') (a:=w5) (by simp only [Z1h,Z1g,u1]) u2
       obtain ⟨N,hN⟩:∃N:List Msg,N=normL (i.msgs++[e.msg]):=⟨_,rfl⟩
       obtain ⟨bn,hbn⟩:∃bn,bn=(bb&&N.isEmpty):=⟨_,rfl⟩
       have nV:normR bb (i.msgs++[e.msg]) = .tup [.lst 7 bn (N.map encM),I 0]:=by unfold normR;rw [hE0,if_pos rfl, ← hN,hbn]
       rw [nV] at fN
       have tp:∀(a b:AV) (k:Go.AM.K AV),exK (.tup [a,b]) 0 k=k a:=fun a b k=>rfl
       have tq:∀(a b:AV) (k:Go.AM.K AV),exK (.tup [a,b]) 1 k=k b:=fun a b k=>rfl
       obtain ⟨H7,hH7⟩:∃H7:Hp,H7=H6.set Ha.length (.arr 3 [[I i.node,LI, .lst 7 bn (N.map encM)]] true false):=⟨_,rfl⟩
       have s7:∀k:AV→Hp→Option AV,effK (stE 1 (.ptr Ha.length 0 2 1) (.lst 7 bn (N.map encM)) H6) H6 k=k .u H7:=fun k=>by
        have:stE 1 (.ptr Ha.length 0 2 1) (.lst 7 bn (N.map encM)) H6=some (.u,⟨[(Ha.length, .arr 3 [[I i.node,LI, .lst 7 bn (N.map encM)]] true false)],[],[Ha.length]⟩):=by
         rw [Z0G,p46,hLI]
         simp [putAt]
        rw [Z0a this,hH7]
       have B7:BsT i e LH LM H7:=B6.mono fun j o hj6 hj=>by rw [hH7];exact getSetN hj (by omega)
       have p47:H7[Ha.length]? = some (.arr 3 [[I i.node,LI, .lst 7 bn (N.map encM)]] true false):=by rw [hH7];exact getSelfN p46
       obtain ⟨H8,hH8⟩:∃H8:Hp,H8=H7.set 2 (.arr 3 [[I i.node,LI, .lst 7 bn (N.map encM)]] true false):=⟨_,rfl⟩
       obtain ⟨H9,hH9⟩:∃H9:Hp,H9=H8.set 3 (.arr 2 [encH ⟨e.frm,e.num⟩] true false):=⟨_,rfl⟩
       have c83:H8[3]? = some (.arr 2 [zH] true false):=by rw [hH8];exact getSetN B7.g3 (by omega)
       have o3:∀(k:AV→Hp→Ent→Option AV),effD (stE 3 (.ptr 2 0 0 1) (.agg [I i.node,LI, .lst 7 bn (N.map encM)]) H7) H7 k=k .u H8 ([2],[2]):=fun k=>by
        have:stE 3 (.ptr 2 0 0 1) (.agg [I i.node,LI, .lst 7 bn (N.map encM)]) H7=some (.u,⟨[(2, .arr 3 [[I i.node,LI, .lst 7 bn (N.map encM)]] true false)],[],[2]⟩):=by
         rw [Z0G,B7.g2,hLI]
         simp [putAt]
        rw [Z09 this,hH8]
       have o4:∀(k:AV→Hp→Ent→Option AV),effD (stE 2 (.ptr 3 0 0 1) (.agg (encH ⟨e.frm,e.num⟩)) H8) H8 k=k .u H9 ([3],[3]):=fun k=>by
        have:stE 2 (.ptr 3 0 0 1) (.agg (encH ⟨e.frm,e.num⟩)) H8=some (.u,⟨[(3, .arr 2 [encH ⟨e.frm,e.num⟩] true false)],[],[3]⟩):=by
         rw [Z0G,c83]
         simp [putAt,encH]
        rw [Z09 this,hH9]
       have o5:∀k:Go.AM.K AV,ldK 3 true (.ptr Ha.length 0 0 1) H7 k=k (.agg [I i.node,LI, .lst 7 bn (N.map encM)]):=fun k=>by rw [Z00,p47,hLI];rfl
       have c92:H9[2]? = some (.arr 3 [[I i.node,LI, .lst 7 bn (N.map encM)]] true false):=by rw [hH9];exact getSetN (by rw [hH8];exact getSelfN B7.g2) (by omega)
       have c93:H9[3]? = some (.arr 2 [encH ⟨e.frm,e.num⟩] true false):=by rw [hH9];exact getSelfN c83
       have o6:∀k:Go.AM.K AV,ldK 3 true (.ptr 2 0 0 1) H9 k=k (.agg [I i.node,LI, .lst 7 bn (N.map encM)]):=fun k=>by rw [Z00,c92,hLI];rfl
       have o7:∀k:Go.AM.K AV,ldK 2 true (.ptr 3 0 0 1) H9 k=k (.agg (encH ⟨e.frm,e.num⟩)):=fun k=>by rw [Z00,c93];rfl
       refine ⟨false,bb,(Z4J (a0 := .agg [I i.node,LH,LM]) (a1 := .agg (encV e)) (v := .tup [.agg [I i.node,LI, .lst 7 bn (N.map encM)], .agg (encH ⟨e.frm,e.num⟩),B true,I 0]) hpl ?_ h).trans ?_⟩
       ·rw [hnr]
        rw [q6] at g5
        simp only [Bool.not_false] at g5
        simp -implicitDefEqProofs only [Z1D,x0,x1,x2,x3,bI,Z0c,Nat.zero_add,y0,y2,bK,d1,d2,d3,d4,dj1,cond_true,lw,Z4I,Z03,fC,Z07,ez,Bool.true_xor,Bool.not_true,Z01,Bool.false_eq_true,if_false,B1.l1w,bs,Z5C,fc,t0,t1,ez2,B2.l11,B2.l00,e3,h20,Za1,Za2,Z1i,gH,Z4p,h22,p1,bI3,p2,p3,dj2,h30,B3.l5w,Za3,fH,q4,h32,B3.l13,Zc3,fM,q6,Z0L,lenH,lenM,Bool.false_xor,Z0X,Z0N,g5,Zgb,fI,s4,Bool.not_false,if_true,lV,B4.l13,bm,a1,Zpu,fN,tp,tq,s7,Z8h,o5,B7.l5w,o3,o4,o6,o7]
        have dj3:disjAll [(1,2)] [(idsOf (.ptr Ha.length 0 0 1),[]),(idsOf (.ptr 5 0 0 1),[]),([2],[2]),([3],[3]),([],[]),([],[])]=true:=rfl
        rw [dj3,cond_true,hLI]
        rfl
       ·rw [hLI]
        unfold takeV ib cellsI
        rw [if_neg (by simp), ← hN,hbn]
        rfl
   ·have e3:(e.to==i.node)=false:=by simp [q3]
    rw [if_pos (show e.to≠i.node from q3)]
    refine ⟨true,true,(Z4J (a0 := .agg [I i.node,LH,LM]) (a1 := .agg (encV e)) (v := .tup [.agg zI, .agg zH,B false,I 19]) hpl ?_ h).trans rfl⟩
    rw [hnr]
    simp -implicitDefEqProofs only [Z1D,x0,x1,x2,x3,bI,Z0c,Nat.zero_add,y0,y2,bK,d1,d2,d3,d4,dj1,cond_true,lw,Z4I,Z03,fC,Z07,ez,Bool.true_xor,Bool.not_true,Z01,Bool.false_eq_true,if_false,B1.l1w,bs,Z5C,fc,t0,t1,ez2,B2.l11,B2.l00,e3,Bool.not_false,if_true,B2.l4w,bH,B2.s2,B2.s3,B2.l2w,B2.l3w]
    rfl
  ·have ez2:(formE e==0)=false:=by simp [z2]
   rw [if_pos (show formE e≠0 from z2)]
   refine ⟨true,true,(Z4J (a0 := .agg [I i.node,LH,LM]) (a1 := .agg (encV e)) (v := .tup [.agg zI, .agg zH,B false,I (formE e)]) hpl ?_ h).trans rfl⟩
   rw [hnr]
   simp -implicitDefEqProofs only [Z1D,x0,x1,x2,x3,bI,Z0c,Nat.zero_add,y0,y2,bK,d1,d2,d3,d4,dj1,cond_true,lw,Z4I,Z03,fC,Z07,ez,Bool.true_xor,Bool.not_true,Z01,Bool.false_eq_true,if_false,B1.l1w,bs,Z5C,fc,t0,t1,ez2,Bool.not_false,if_true,B2.l4w,bH,B2.s2,B2.s3,B2.l2w,B2.l3w]
   rfl
 ·have ez:(chkI i==0)=false:=by simp [z]
  rw [if_pos (show chkI i≠0 from z)]
  refine ⟨true,true,(Z4J (a0 := .agg [I i.node,LH,LM]) (a1 := .agg (encV e)) (v := .tup [.agg zI, .agg zH,B false,I 1]) hpl ?_ h).trans rfl⟩
  rw [hnr]
  simp -implicitDefEqProofs only [Z1D,x0,x1,x2,x3,bI,Z0c,Nat.zero_add,y0,y2,bK,d1,d2,d3,d4,dj1,cond_true,lw,Z4I,Z03,fC,Z07,ez,Bool.true_xor,Bool.not_false,Z01,if_true,B1.l4w,bH,B1.s2,B1.s3,B1.l2w,B1.l3w]
  rfl
end Go.AM


set_option linter.unusedVariables false
namespace Go.AM.Div
end Go.AM.Div


namespace Go.AM
open Go.Proofs
set_option linter.unusedVariables false
set_option linter.unusedSimpArgs false
set_option linter.constructorNameAsVariable false
set_option maxRecDepth 20000
section
variable {β:Type} {P:Program} {T:Tab} {D:DTab} {N:Nat}
variable {K:AV→Hp→Option β}
end
end Go.AM


namespace Go.AM
open Go.Proofs
set_option linter.unusedVariables false
set_option linter.unusedSimpArgs false
set_option linter.constructorNameAsVariable false
set_option maxRecDepth 20000
theorem ZtZ {β:Type} {P:Program} {ty:TypeId} (a s:Nat) (hs:s≤64) (k:K β):reckK P .shr ty (.s (.int .u64 (a:Int))) (I s) k=k (.s (.int .u64 ((a / 2 ^ s:Nat):Int))):=by
 refine ZbA (s:=Op.shift .shr .u64 a .i64 s) rfl rfl rfl ?_ k
 have h1:¬((s:Int)<0):=by omega
 have h2:min s IntKind.u64.bits=s:=by simp [IntKind.bits];omega
 have h3:((a:Int)).fdiv (2 ^ s)=((a / 2 ^ s:Nat):Int):=by
  rw [Int.fdiv_eq_ediv_of_nonneg _ (Int.pow_nonneg (by decide))];push_cast;rfl
 unfold Op.shift
 simp [h1,h2,h3]
def bitN (a k:Nat):Bool:=a / 2 ^ k % 2==1
theorem Zu0 (a:Nat):a &&& 1=a % 2:=Nat.and_one_is_mod a
attribute [local congr] Z0d Z0e Z0f Z0g Z0h Z0i Z0j Z0k Z0l Z0m Z0n Z0o Z0p Z0q Z0r Z0s Z0t Z0u Z0v Z0w Z0x Z0y Z0z Z0A Z0B Z0C Z0D
theorem bit_K {β:Type} {h:Hp} (a k:Nat) (ha:a<18446744073709551616) (hk:k≤64) (K:Go.AM.K β):(reckK Try.prog .shr 55 (.s (.int .u64 (a:Int))) (I k) fun x11=>reckK Try.prog .and 55 x11 (.s (.int .u64 1)) fun x12=>eqK Try.prog false 55 x12 (.s (.int .u64 1)) h K)=K (B (bitN a k)):=by
 have h1:a / 2 ^ k<18446744073709551616:=Nat.lt_of_le_of_lt (Nat.div_le_self _ _) ha
 rw [ZtZ a k hk]
 have h2:=ZjR (P:=Try.prog) (ty:=55) (a / 2 ^ k) 1 h1 (by omega) (fun x12=>eqK Try.prog false 55 x12 (.s (.int .u64 1)) h K)
 refine h2.trans ?_
 rw [Zu0,Z07]
 rw [Bool.false_xor]
 congr 3
 unfold bitN
 generalize a / 2 ^ k % 2=m
 rw [Bool.eq_iff_iff,beq_iff_eq,beq_iff_eq]
 omega
def exL (ar an:Nat):Nat→List Envl→Outb→Inbx→Outb × Inbx × Int
 | _,[],o,i=>(o,i,0)
 | k,x::r,o,i=>if bitN ar k=false then exL ar an (k+1) r o i else
  if (takeI i x).2.2.2≠0 then (⟨0,0,[]⟩,⟨0,[],[]⟩,(takeI i x).2.2.2)
  else exL ar an (k+1) r (if bitN an k=true then (heardO o (takeI i x).2.1).1 else o) (takeI i x).1
def exO (o:Outb) (i:Inbx) (ar an:Nat):Outb × Inbx × Int:=
 if chkO o≠0∨chkI i≠0 then (⟨0,0,[]⟩,⟨0,[],[]⟩,1) else if o.node=i.node then (⟨0,0,[]⟩,⟨0,[],[]⟩,10) else exL ar an 0 (againL i.node o.pend) o i
noncomputable abbrev loopE (st:LoopState) (pd:Option Code):AObj := .loop Z1t Z1s Z1j Z1k (envT [(7, .ptr 2 0 0 1),(8, .ptr 3 0 0 1),(9, .ptr 4 0 0 1),(10, .ptr 5 0 0 1),(13, .ptr 6 0 0 1),(14, .ptr 7 0 0 1)]) st pd
structure InvX (ar an:Nat) (l:AV) (o:Outb) (i:Inbx) (h:Hp):Prop where
 a2:h[2]? = some (.arr 1 [[.s (.int .u64 (an:Int))]] true false)
 a3:h[3]? = some (.arr 3 [zO] true false)
 a4:h[4]? = some (.arr 3 [zI] true false)
 a5:h[5]? = some (.arr 1 [[I 0]] true false)
 a6:∃b,h[6]? = some (.arr 3 [cellsO b o] true false)
 a7:∃b1 b2,h[7]? = some (.arr 3 [cellsI b1 b2 i] true false)
 a8:h[8]? = some (.arr 1 [[l]] true false)
 a9:h[9]? = some (.arr 1 [[.s (.int .u64 (ar:Int))]] true false)
 a10:h[10]? = some (loopE .ready none)
structure EndX (e:Int) (h:Hp):Prop where
 b3:h[3]? = some (.arr 3 [zO] true false)
 b4:h[4]? = some (.arr 3 [zI] true false)
 b5:h[5]? = some (.arr 1 [[I e]] true false)
 b10:h[10]? = some (loopE .done (some .ret))
theorem InvX.mono {ar an:Nat} {l:AV} {o:Outb} {i:Inbx} {h h':Hp} (J:InvX ar an l o i h) (hk:∀(j:Nat) (x:AObj),h[j]? = some x→h'[j]? = some x):InvX ar an l o i h':=by
 obtain ⟨a2,a3,a4,a5,⟨b,a6⟩,⟨b1,b2,a7⟩,a8,a9,a10⟩:=J
 exact ⟨hk _ _ a2,hk _ _ a3,hk _ _ a4,hk _ _ a5,⟨b,hk _ _ a6⟩,⟨b1,b2,hk _ _ a7⟩,hk _ _ a8,hk _ _ a9,hk _ _ a10⟩
set_option maxHeartbeats 4000000 in
theorem Zu1 {ar an k:Nat} {l:AV} {o:Outb} {i:Inbx} {h:Hp} {x:Envl} (J:InvX ar an l o i h) (han:an<18446744073709551616) (hk:k≤64) (hh:i.heard.length<1000) (hm:i.msgs.length<1000) (hp:o.pend.length<1000):
  ∃h',((takeI i x).2.2.2≠0→Z5O [ymark, .yl 10,I k, .agg (encV x)] h=some (B false,h')∧EndX (takeI i x).2.2.2 h') ∧
   ((takeI i x).2.2.2=0→Z5O [ymark, .yl 10,I k, .agg (encV x)] h=some (B true,h')∧InvX ar an l (if bitN an k=true then (heardO o (takeI i x).2.1).1 else o) (takeI i x).1 h'):=by
 obtain ⟨a2,a3,a4,a5,⟨b,a6⟩,⟨b1,b2,a7⟩,a8,a9,a10⟩:=J
 rw [ZqT a10]
 have h10:10<h.length:=(List.getElem?_eq_some_iff.1 a10).1
 obtain ⟨y,hy⟩:∃y,y=h.set 10 (loopE .busy none)++[AObj.arr 10 [encV x] true false]:=⟨_,rfl⟩
 have hsl:(h.set 10 (loopE .busy none)).length=h.length:=by simp
 have keep:∀j o',h[j]? = some o'→j≠10→y[j]? = some o':=fun j o' hj hn=>by rw [hy];exact Z08 (getSetN hj (Ne.symm hn))
 have y10:y[10]? = some (loopE .busy none):=by rw [hy];exact Z08 (getSelfN a10)
 have yb:y[h.length]? = some (.arr 10 [encV x] true false):=by rw [hy, ← hsl,Z0M];rfl
 have hb:∀k:Hp→Option (AV × Hp),beginX 10 Z1t Z1s Z1j Z1k (envT [(7, .ptr 2 0 0 1),(8, .ptr 3 0 0 1),(9, .ptr 4 0 0 1),(10, .ptr 5 0 0 1),(13, .ptr 6 0 0 1),(14, .ptr 7 0 0 1)]) (h++[.arr 10 [encV x] true false]) k=k y:=fun k=>by rw [hy];exact beginN a10 k
 have l7:∀k:Go.AM.K (AV × Hp),ldK 3 true (.ptr 7 0 0 1) y k=k (ib b1 b2 i):=fun k=>by rw [Z00,keep 7 _ a7 (by decide)];rfl
 have lx:∀k:Go.AM.K (AV × Hp),ldK 10 true (.ptr h.length 0 0 1) y k=k (.agg (encV x)):=fun k=>by rw [Z00,yb];rfl
 obtain ⟨c1,c2,fT⟩:=Zh6 b1 b2 i x hh hm y
 obtain ⟨r,hr⟩:∃r,r=takeI i x:=⟨_,rfl⟩
 rw [← hr] at fT ⊢
 have t0:∀k:Go.AM.K (AV × Hp),exK (takeV c1 c2 r) 0 k=k (ib c1 c2 r.1):=fun k=>rfl
 have t1:∀k:Go.AM.K (AV × Hp),exK (takeV c1 c2 r) 1 k=k (.agg (encH r.2.1)):=fun k=>rfl
 have t2:∀k:Go.AM.K (AV × Hp),exK (takeV c1 c2 r) 2 k=k (B r.2.2.1):=fun k=>rfl
 have t3:∀k:Go.AM.K (AV × Hp),exK (takeV c1 c2 r) 3 k=k (I r.2.2.2):=fun k=>rfl
 obtain ⟨z,hz⟩:∃z,z=y++[AObj.arr 3 [cellsI c1 c2 r.1] true false, .arr 2 [encH r.2.1] true false]:=⟨_,rfl⟩
 have q1:∀k:AV→Hp→Option (AV × Hp),effK (boxE 3 (.agg zI) y.length) y k=k (.ptr y.length 0 0 1) (y++[.arr 3 [zI] true false]):=fun k=>bx3 rfl rfl k
 have q2:∀k:AV→Hp→Option (AV × Hp),effK (boxE 2 (.agg zH) (y++[AObj.arr 3 [zI] true false]).length) (y++[.arr 3 [zI] true false]) k=k (.ptr (y.length+1) 0 0 1) (y++[.arr 3 [zI] true false, .arr 2 [zH] true false]):=fun k=>by
  refine (Z1B 2 _ (.agg zH) (y++[AObj.arr 3 [zI] true false]) k rfl rfl rfl).trans ?_
  simp
 have q3:∀k:AV→Hp→Option (AV × Hp),effK (stE 3 (.ptr y.length 0 0 1) (ib c1 c2 r.1) (y++[.arr 3 [zI] true false, .arr 2 [zH] true false])) (y++[.arr 3 [zI] true false, .arr 2 [zH] true false]) k=k .u (y++[.arr 3 [cellsI c1 c2 r.1] true false, .arr 2 [zH] true false]):=fun k=>by
  have:stE 3 (.ptr y.length 0 0 1) (ib c1 c2 r.1) (y++[.arr 3 [zI] true false, .arr 2 [zH] true false])=some (.u,⟨[(y.length, .arr 3 [cellsI c1 c2 r.1] true false)],[],[y.length]⟩):=by
   rw [Z0G,List.getElem?_append_right (Nat.le_refl _),Nat.sub_self]
   simp [putAt]
  rw [Z0a this,List.set_append_right _ _ (Nat.le_refl _),Nat.sub_self]
  rfl
 have q4:∀k:AV→Hp→Option (AV × Hp),effK (stE 2 (.ptr (y.length+1) 0 0 1) (.agg (encH r.2.1)) (y++[.arr 3 [cellsI c1 c2 r.1] true false, .arr 2 [zH] true false])) (y++[.arr 3 [cellsI c1 c2 r.1] true false, .arr 2 [zH] true false]) k=k .u z:=fun k=>by
  have:stE 2 (.ptr (y.length+1) 0 0 1) (.agg (encH r.2.1)) (y++[.arr 3 [cellsI c1 c2 r.1] true false, .arr 2 [zH] true false])=some (.u,⟨[(y.length+1, .arr 2 [encH r.2.1] true false)],[],[y.length+1]⟩):=by
   rw [Z0G,List.getElem?_append_right (by omega),show y.length+1-y.length=1 by omega]
   simp [putAt,encH]
  rw [Z0a this,hz,List.set_append_right _ _ (by omega),show y.length+1-y.length=1 by omega]
  rfl
 have kz:∀j o',h[j]? = some o'→j≠10→z[j]? = some o':=fun j o' hj hn=>by rw [hz];exact Z08 (keep j o' hj hn)
 have z10:z[10]? = some (loopE .busy none):=by rw [hz];exact Z08 y10
 have zb:z[y.length]? = some (.arr 3 [cellsI c1 c2 r.1] true false):=by rw [hz,List.getElem?_append_right (Nat.le_refl _),Nat.sub_self];rfl
 have zb2:z[y.length+1]? = some (.arr 2 [encH r.2.1] true false):=by rw [hz,List.getElem?_append_right (by omega),show y.length+1-y.length=1 by omega];rfl
 have hyl:10<y.length:=by rw [hy];simp;omega
 simp -implicitDefEqProofs only [ZbB,nbx,nst,hb,l7,lx,ZqQ,Z03,fT,t0,t1,t2,t3,q1,q2,q3,q4,Z07,Bool.true_xor,Z01]
 by_cases e:r.2.2.2=0
 ·have ee:(r.2.2.2==0)=true:=by simp [e]
  have lz:∀k:Go.AM.K (AV × Hp),ldK 3 true (.ptr y.length 0 0 1) z k=k (ib c1 c2 r.1):=fun k=>by rw [Z00,zb];rfl
  obtain ⟨w,hw⟩:∃w:Hp,w=z.set 7 (.arr 3 [cellsI c1 c2 r.1] true false):=⟨_,rfl⟩
  have s7:∀k:AV→Hp→Option (AV × Hp),effK (stE 3 (.ptr 7 0 0 1) (ib c1 c2 r.1) z) z k=k .u w:=fun k=>by
   have:stE 3 (.ptr 7 0 0 1) (ib c1 c2 r.1) z=some (.u,⟨[(7, .arr 3 [cellsI c1 c2 r.1] true false)],[],[7]⟩):=by
    rw [Z0G,kz 7 _ a7 (by decide)]
    simp [putAt]
   rw [Z0a this,hw]
  have kw:∀j o',h[j]? = some o'→j≠10→j≠7→w[j]? = some o':=fun j o' hj hn hn7=>by rw [hw];exact getSetN (kz j o' hj hn) (Ne.symm hn7)
  have w7:w[7]? = some (.arr 3 [cellsI c1 c2 r.1] true false):=by rw [hw];exact getSelfN (kz 7 _ a7 (by decide))
  have w10:w[10]? = some (loopE .busy none):=by rw [hw];exact getSetN z10 (by decide)
  have wb2:w[y.length+1]? = some (.arr 2 [encH r.2.1] true false):=by rw [hw];exact getSetN zb2 (by omega)
  have la:∀k:Go.AM.K (AV × Hp),ldK 1 false (.ptr 2 0 0 1) w k=k (.s (.int .u64 (an:Int))):=fun k=>by rw [Z00,kw 2 _ a2 (by decide) (by decide)];rfl
  have hbit:=fun K:Go.AM.K (AV × Hp)=>bit_K (h:=w) an k han hk K
  simp -implicitDefEqProofs only [ee,Bool.not_true,Bool.false_eq_true,if_false,lz,s7,la]
  rw [hbit]
  cases hbt:bitN an k with
  | true=>
   obtain ⟨b',fH⟩:=ZtP b o r.2.1 hp w
   have l6:∀k:Go.AM.K (AV × Hp),ldK 3 true (.ptr 6 0 0 1) w k=k (ob b o):=fun k=>by rw [Z00,kw 6 _ a6 (by decide) (by decide)];rfl
   have lh:∀k:Go.AM.K (AV × Hp),ldK 2 true (.ptr (y.length+1) 0 0 1) w k=k (.agg (encH r.2.1)):=fun k=>by rw [Z00,wb2];rfl
   have u0:∀k:Go.AM.K (AV × Hp),exK (.tup [ob b' (heardO o r.2.1).1,I (heardO o r.2.1).2]) 0 k=k (ob b' (heardO o r.2.1).1):=fun k=>rfl
   have u1:∀k:Go.AM.K (AV × Hp),exK (.tup [ob b' (heardO o r.2.1).1,I (heardO o r.2.1).2]) 1 k=k (I (heardO o r.2.1).2):=fun k=>rfl
   obtain ⟨v,hv⟩:∃v:Hp,v=w.set 6 (.arr 3 [cellsO b' (heardO o r.2.1).1] true false):=⟨_,rfl⟩
   have s6:∀k:AV→Hp→Option (AV × Hp),effK (stE 3 (.ptr 6 0 0 1) (ob b' (heardO o r.2.1).1) w) w k=k .u v:=fun k=>by
    have:stE 3 (.ptr 6 0 0 1) (ob b' (heardO o r.2.1).1) w=some (.u,⟨[(6, .arr 3 [cellsO b' (heardO o r.2.1).1] true false)],[],[6]⟩):=by
     rw [Z0G,kw 6 _ a6 (by decide) (by decide)]
     simp [putAt]
    rw [Z0a this,hv]
   have kv:∀j o',h[j]? = some o'→j≠10→j≠7→j≠6→(v.set 10 (loopE .ready none))[j]? = some o':=fun j o' hj hn hn7 hn6=>getSetN (by rw [hv];exact getSetN (kw j o' hj hn hn7) (Ne.symm hn6)) (Ne.symm hn)
   refine ⟨v.set 10 (loopE .ready none),fun hne=>absurd e hne,fun _=>⟨?_,kv 2 _ a2 (by decide) (by decide) (by decide),kv 3 _ a3 (by decide) (by decide) (by decide),kv 4 _ a4 (by decide) (by decide) (by decide),kv 5 _ a5 (by decide) (by decide) (by decide),⟨b', ?_⟩,⟨c1,c2, ?_⟩,kv 8 _ a8 (by decide) (by decide) (by decide),kv 9 _ a9 (by decide) (by decide) (by decide), ?_⟩⟩
   ·simp -implicitDefEqProofs only [Z01,if_true,l6,lh,ZqR,Z03,fH,u0,u1,s6,Z8r]
   ·exact getSetN (by rw [hv];exact getSelfN (kw 6 _ a6 (by decide) (by decide))) (by decide)
   ·exact getSetN (by rw [hv];exact getSetN w7 (by decide)) (by decide)
   ·exact getSelfN (by rw [hv];exact getSetN w10 (by decide))
  | false=>
   have kv:∀j o',h[j]? = some o'→j≠10→j≠7→(w.set 10 (loopE .ready none))[j]? = some o':=fun j o' hj hn hn7=>getSetN (kw j o' hj hn hn7) (Ne.symm hn)
   refine ⟨w.set 10 (loopE .ready none),fun hne=>absurd e hne,fun _=>⟨?_,kv 2 _ a2 (by decide) (by decide),kv 3 _ a3 (by decide) (by decide),kv 4 _ a4 (by decide) (by decide),kv 5 _ a5 (by decide) (by decide),⟨b,kv 6 _ a6 (by decide) (by decide)⟩,⟨c1,c2,getSetN w7 (by decide)⟩,kv 8 _ a8 (by decide) (by decide),kv 9 _ a9 (by decide) (by decide),getSelfN w10⟩⟩
   simp -implicitDefEqProofs only [Z01,Bool.false_eq_true,if_false,Z8r]
 ·have ee:(r.2.2.2==0)=false:=by simp [e]
  have bO:∀k:Go.AM.K (AV × Hp),buildK zO [] k=k (.agg zO):=fun k=>rfl
  have bI:∀k:Go.AM.K (AV × Hp),buildK zI [] k=k (.agg zI):=fun k=>rfl
  have z3:=kz 3 _ a3 (by decide)
  have z4:=kz 4 _ a4 (by decide)
  have z5:=kz 5 _ a5 (by decide)
  have s3:∀k:AV→Hp→Option (AV × Hp),effK (stE 3 (.ptr 3 0 0 1) (.agg zO) z) z k=k .u z:=fun k=>by
   have:stE 3 (.ptr 3 0 0 1) (.agg zO) z=some (.u,⟨[(3, .arr 3 [zO] true false)],[],[3]⟩):=by rw [Z0G,z3];rfl
   rw [Z0a this,Z1f z3]
  have s4:∀k:AV→Hp→Option (AV × Hp),effK (stE 3 (.ptr 4 0 0 1) (.agg zI) z) z k=k .u z:=fun k=>by
   have:stE 3 (.ptr 4 0 0 1) (.agg zI) z=some (.u,⟨[(4, .arr 3 [zI] true false)],[],[4]⟩):=by rw [Z0G,z4];rfl
   rw [Z0a this,Z1f z4]
  obtain ⟨w,hw⟩:∃w:Hp,w=z.set 5 (.arr 1 [[I r.2.2.2]] true false):=⟨_,rfl⟩
  have s5:∀k:AV→Hp→Option (AV × Hp),effK (stE 1 (.ptr 5 0 0 1) (I r.2.2.2) z) z k=k .u w:=fun k=>by
   have:stE 1 (.ptr 5 0 0 1) (I r.2.2.2) z=some (.u,⟨[(5, .arr 1 [[I r.2.2.2]] true false)],[],[5]⟩):=by rw [Z0G,z5];rfl
   rw [Z0a this,hw]
  refine ⟨w.set 10 (loopE .done (some .ret)),fun _=>⟨?_, ?_, ?_, ?_, ?_⟩,fun hq=>absurd hq e⟩
  ·simp -implicitDefEqProofs only [ee,Bool.not_false,if_true,bO,bI,s3,s4,s5]
  ·exact getSetN (by rw [hw];exact getSetN z3 (by decide)) (by decide)
  ·exact getSetN (by rw [hw];exact getSetN z4 (by decide)) (by decide)
  ·exact getSetN (by rw [hw];exact getSelfN z5) (by decide)
  ·exact getSelfN (by rw [hw];exact getSetN z10 (by decide))
end Go.AM


namespace Go.AM
open Go.Proofs
set_option linter.unusedVariables false
set_option linter.unusedSimpArgs false
set_option linter.constructorNameAsVariable false
set_option maxRecDepth 20000
theorem ZcD (l:List Hrd) (x:Hrd):(insH l x).length=l.length+1:=by
 unfold insH
 rw [List.length_append,List.length_cons,List.length_take,List.length_drop]
 have:=ZaU l x
 omega
theorem ZaV (i:Inbx) (e:Envl):(takeI i e).1.heard.length≤i.heard.length+1∧(takeI i e).1.msgs.length≤i.msgs.length+1:=by
 unfold takeI
 repeat' split
 all_goals (try (constructor<;>simp;done))
 ·constructor
  ·rw [ZcD];exact Nat.le_refl _
  ·simp
 ·constructor
  ·rw [ZcD];exact Nat.le_refl _
  ·have:=Zco (i.msgs++[e.msg]);simpa using this
theorem Zu2 (o:Outb) (hd:Hrd):(heardO o hd).1.pend.length≤o.pend.length:=by
 unfold heardO
 repeat' split
 all_goals (try (simp;done))
 exact List.length_filter_le _ _
attribute [local congr] Z0d Z0e Z0f Z0g Z0h Z0i Z0j Z0k Z0l Z0m Z0n Z0o Z0p Z0q Z0r Z0s Z0t Z0u Z0v Z0w Z0x Z0y Z0z Z0A Z0B Z0C Z0D
set_option maxHeartbeats 4000000 in
theorem Zu3 {x0 xr:Hp→Option (AV × Hp)} {ar an:Nat} {l:List Envl} {b:Bool} (har:ar<18446744073709551616) (han:an<18446744073709551616) (hl:l.length≤64):∀(n:Nat) (pre post:List Envl) (o:Outb) (i:Inbx) (h:Hp),l=pre++post→post.length<n→InvX ar an (.lst 10 b (l.map encV)) o i h→i.heard.length+post.length≤900→i.msgs.length+post.length≤900→o.pend.length<1000→
  ∃h',((exL ar an pre.length post o i).2.2=0→Z12 Try.prog Z0O D0 NN x0 xr n (.yl 10) (.ptr 9 0 0 1) (.lst 10 b (l.map encV)) (I l.length) (I pre.length) h=x0 h'∧InvX ar an (.lst 10 b (l.map encV)) (exL ar an pre.length post o i).1 (exL ar an pre.length post o i).2.1 h') ∧
   ((exL ar an pre.length post o i).2.2≠0→Z12 Try.prog Z0O D0 NN x0 xr n (.yl 10) (.ptr 9 0 0 1) (.lst 10 b (l.map encV)) (I l.length) (I pre.length) h=xr h'∧EndX (exL ar an pre.length post o i).2.2 h'∧(exL ar an pre.length post o i).1=⟨0,0,[]⟩∧(exL ar an pre.length post o i).2.1=⟨0,[],[]⟩):=by
 intro n
 induction n with
 | zero=>intro pre post o i h _ h2;omega
 | succ n ih=>
  intro pre post o i h hc hn J l1 l2 l3
  show ∃h',(_→Z2T Try.prog Z0O D0 NN (Z12 Try.prog Z0O D0 NN x0 xr n) x0 xr _ _ _ _ _ h=_∧_)∧(_→Z2T Try.prog Z0O D0 NN (Z12 Try.prog Z0O D0 NN x0 xr n) x0 xr _ _ _ _ _ h=_∧_)
  cases post with
  | nil=>
   have:l=pre:=by simpa using hc
   subst this
   have c1:¬((l.length:Int)<(l.length:Int)):=by omega
   have hb:Z2T Try.prog Z0O D0 NN (Z12 Try.prog Z0O D0 NN x0 xr n) x0 xr (.yl 10) (.ptr 9 0 0 1) (.lst 10 b (l.map encV)) (I l.length) (I l.length) h=x0 h:=by
    simp -implicitDefEqProofs only [Z2T,Z06,c1,decide_false,Z01,Bool.false_eq_true,if_false]
   exact ⟨h,fun _=>⟨hb,J⟩,fun hh=>absurd rfl hh⟩
  | cons x post=>
   have hi:pre.length<l.length:=by rw [hc];simp
   have hx:l[pre.length]? = some x:=by rw [hc];simp
   have hlt:((pre.length:Int)<(l.length:Int)):=by omega
   have hw:IntKind.i64.wrap ((pre.length:Int)+1)=(((pre++[x]).length:Nat):Int):=by rw [wrap64 (by omega) (by omega)];simp
   have ic:∀k:Go.AM.K (AV × Hp),iaK 10 (.lst 10 b (l.map encV)) (I pre.length) k=k (.ep (encV x) 0):=fun k=>Z0Q pre.length rfl hx k
   have ld:∀k:Go.AM.K (AV × Hp),ldK 10 true (.ep (encV x) 0) h k=k (.agg (encV x)):=fun k=>rfl
   obtain ⟨y,hy⟩:∃y,y=h++[AObj.arr 10 [encV x] true false]:=⟨_,rfl⟩
   have ns:∀k:AV→Hp→Option (AV × Hp),effK (stE 10 (.ptr h.length 0 0 1) (.agg (encV x)) (h++[.arr 10 [zE] true false])) (h++[.arr 10 [zE] true false]) k=k .u y:=fun k=>by rw [hy];exact nst k
   have lw:∀k:Go.AM.K (AV × Hp),ldK 10 true (.ptr h.length 0 0 1) y k=k (.agg (encV x)):=fun k=>by rw [hy];exact nlw k
   have Jy:InvX ar an (.lst 10 b (l.map encV)) o i y:=J.mono fun j z hj=>by rw [hy];exact Z08 hj
   have la:∀k:Go.AM.K (AV × Hp),ldK 1 false (.ptr 9 0 0 1) y k=k (.s (.int .u64 (ar:Int))):=fun k=>by rw [Z00,Jy.a9];rfl
   have hbit:=fun K:Go.AM.K (AV × Hp)=>bit_K (h:=y) ar pre.length har (by omega) K
   have hpl:(pre++[x]).length=pre.length+1:=by simp
   have hb:∀(c:Bool) (g:Hp),(∀k:AV→Hp→Option (AV × Hp),grpK true (B (bitN ar pre.length)) y (fun k14=>callVK Z0O (.yl 10) [I pre.length, .agg (encV x)] y fun x16 h17=>notK x16 fun x18=>k14 x18 h17) k=k (B c) g)→Z2T Try.prog Z0O D0 NN (Z12 Try.prog Z0O D0 NN x0 xr n) x0 xr (.yl 10) (.ptr 9 0 0 1) (.lst 10 b (l.map encV)) (I l.length) (I pre.length) h=if c=true then xr g else Z12 Try.prog Z0O D0 NN x0 xr n (.yl 10) (.ptr 9 0 0 1) (.lst 10 b (l.map encV)) (I l.length) (I ((pre++[x]).length:Nat)) g:=fun c g hg=>by
    simp -implicitDefEqProofs only [Z2T,Z06,hlt,decide_true,Z01,if_true,ic,ld,nbx,ns,la]
    rw [hbit]
    simp -implicitDefEqProofs only [lw]
    rw [hg]
    simp -implicitDefEqProofs only [Z01,Z0I,hw]
   cases hbt:bitN ar pre.length with
   | false=>
    have he:exL ar an pre.length (x::post) o i=exL ar an (pre++[x]).length post o i:=by rw [exL,if_pos hbt,hpl]
    have hb0:=hb false y (fun k=>by rw [hbt,Z8e])
    rw [hb0,he]
    simp only [Bool.false_eq_true,if_false]
    exact ih (pre++[x]) post o i y (by simpa using hc) (by simpa using hn) Jy (by simp at l1;omega) (by simp at l2;omega) l3
   | true=>
    have he:exL ar an pre.length (x::post) o i=if (takeI i x).2.2.2≠0 then (⟨0,0,[]⟩,⟨0,[],[]⟩,(takeI i x).2.2.2) else exL ar an (pre.length+1) post (if bitN an pre.length=true then (heardO o (takeI i x).2.1).1 else o) (takeI i x).1:=by rw [exL,if_neg (by rw [hbt];simp)]
    have hlen:(x::post).length=post.length+1:=rfl
    obtain ⟨g,r1,r2⟩:=Zu1 (k:=pre.length) (x:=x) Jy han (by omega) (by omega) (by omega) l3
    by_cases e:(takeI i x).2.2.2=0
    ·obtain ⟨r3,r4⟩:=r2 e
     rw [if_neg (show ¬(takeI i x).2.2.2≠0 from fun hh=>hh e)] at he
     have hb0:=hb false g (fun k=>by
      have cy:∀k:AV→Hp→Option (AV × Hp),callVK Z0O (.yl 10) [I pre.length, .agg (encV x)] y k=k (B true) g:=fun k=>by
       show callK (Z0O YB) (ymark :: .yl 10::[I pre.length, .agg (encV x)]) y k=_
       rw [Zgn,Z03,r3]
      rw [hbt,Z4r,cy]
      rfl)
     rw [hb0,he, ← hpl]
     simp only [Bool.false_eq_true,if_false]
     obtain ⟨t1,t2⟩:=ZaV i x
     refine ih (pre++[x]) post _ _ g (by simpa using hc) (by simpa using hn) r4 (by omega) (by omega) ?_
     split
     ·have:=Zu2 o (takeI i x).2.1;omega
     ·exact l3
    ·obtain ⟨r3,r4⟩:=r1 e
     rw [if_pos (show (takeI i x).2.2.2≠0 from e)] at he
     have hb0:=hb true g (fun k=>by
      have cy:∀k:AV→Hp→Option (AV × Hp),callVK Z0O (.yl 10) [I pre.length, .agg (encV x)] y k=k (B false) g:=fun k=>by
       show callK (Z0O YB) (ymark :: .yl 10::[I pre.length, .agg (encV x)]) y k=_
       rw [Zgn,Z03,r3]
      rw [hbt,Z4r,cy]
      rfl)
     rw [hb0,he]
     exact ⟨g,fun hh=>absurd hh e,fun _=>⟨if_pos rfl,r4,rfl,rfl⟩⟩
theorem Zu4 {β:Type} {T:Tab} {F:Fun} {f:FuncId} {caps:List AV} {h h':Hp} {m:Nat} {ps:Array Tmp} {asg body:Code} {ts:Tm} {v:AV} {pend:Option Code} {k:Option Code→Hp→Option β} (hT:T f=some F) (hF:F (.yl h.length::caps) (h++[.loop m ps asg body ts .ready none])=some (v,h')) (hl:h'[h.length]? = some (.loop m ps asg body ts .done pend)):
  rangeX T (.fn f caps) m ps asg body ts h k=k pend (h'.set h.length (.loop m ps asg body ts .exhausted pend)):=by
 unfold rangeX
 simp only [hT,Z03,hF,hl]
end Go.AM


namespace Go.AM
open Go.Proofs
set_option linter.unusedVariables false
set_option linter.unusedSimpArgs false
set_option linter.constructorNameAsVariable false
set_option maxRecDepth 20000
attribute [local congr] Z0d Z0e Z0f Z0g Z0h Z0i Z0j Z0k Z0l Z0m Z0n Z0o Z0p Z0q Z0r Z0s Z0t Z0u Z0v Z0w Z0x Z0y Z0z Z0A Z0B Z0C Z0D
def exV (b b1 b2:Bool) (r:Outb × Inbx × Int):AV := .tup [ob b r.1,ib b1 b2 r.2.1,I r.2.2]
set_option maxHeartbeats 4000000 in
theorem Zh7 (b:Bool) (o:Outb) (c1 c2:Bool) (i:Inbx) (ar an:Nat) (har:ar<18446744073709551616) (han:an<18446744073709551616) (hp:o.pend.length<1000) (hh:i.heard.length<1000) (hm:i.msgs.length<1000) (h:Hp):∃b' b1 b2,Z30 [ob b o,ib c1 c2 i, .s (.int .u64 (ar:Int)), .s (.int .u64 (an:Int))] h=some (exV b' b1 b2 (exO o i ar an),h):=by
 obtain ⟨LP,hLP⟩:∃LP:AV,LP=SL 10 encV b o.pend:=⟨_,rfl⟩
 obtain ⟨LH,hLH⟩:∃LH:AV,LH=SL 2 encH c1 i.heard:=⟨_,rfl⟩
 obtain ⟨LM,hLM⟩:∃LM:AV,LM=SL 7 encM c2 i.msgs:=⟨_,rfl⟩
 have eob:ob b o = .agg [I o.node,I o.next,LP]:=by rw [hLP]
 have eib:ib c1 c2 i = .agg [I i.node,LH,LM]:=by rw [hLH,hLM]
 obtain ⟨o0,ho0⟩:∃o0:AObj,o0 = .arr 3 [[I o.node,I o.next,LP]] true false:=⟨_,rfl⟩
 obtain ⟨o1,ho1⟩:∃o1:AObj,o1 = .arr 3 [[I i.node,LH,LM]] true false:=⟨_,rfl⟩
 obtain ⟨o2,ho2⟩:∃o2:AObj,o2 = .arr 1 [[.s (.int .u64 (an:Int))]] true false:=⟨_,rfl⟩
 obtain ⟨H,hH⟩:∃H:Hp,H=[o0,o1,o2,AObj.arr 3 [zO] true false, .arr 3 [zI] true false, .arr 1 [[I 0]] true false]:=⟨_,rfl⟩
 have x0:∀k:AV→Hp→Option AV,effK (boxE 3 (.agg [I o.node,I o.next,LP]) ([]:Hp).length) [] k=k (.ptr 0 0 0 1) [o0]:=fun k=>by rw [ho0,hLP];rfl
 have x1:∀k:AV→Hp→Option AV,effK (boxE 3 (.agg [I i.node,LH,LM]) ([o0]:Hp).length) [o0] k=k (.ptr 1 0 0 1) [o0,o1]:=fun k=>by rw [ho1,hLH,hLM];rfl
 have x2:∀k:AV→Hp→Option AV,effK (boxE 1 (.s (.int .u64 (an:Int))) ([o0,o1]:Hp).length) [o0,o1] k=k (.ptr 2 0 0 1) [o0,o1,o2]:=fun k=>by rw [ho2];rfl
 have x3:∀k:AV→Hp→Option AV,effK (boxE 3 (.agg zO) ([o0,o1,o2]:Hp).length) [o0,o1,o2] k=k (.ptr 3 0 0 1) [o0,o1,o2, .arr 3 [zO] true false]:=fun k=>rfl
 have x4:∀k:AV→Hp→Option AV,effK (boxE 3 (.agg zI) ([o0,o1,o2, .arr 3 [zO] true false]:Hp).length) [o0,o1,o2, .arr 3 [zO] true false] k=k (.ptr 4 0 0 1) [o0,o1,o2, .arr 3 [zO] true false, .arr 3 [zI] true false]:=fun k=>rfl
 have x5:∀k:AV→Hp→Option AV,effK (boxE 1 (I 0) ([o0,o1,o2, .arr 3 [zO] true false, .arr 3 [zI] true false]:Hp).length) [o0,o1,o2, .arr 3 [zO] true false, .arr 3 [zI] true false] k=k (.ptr 5 0 0 1) H:=fun k=>by rw [hH];rfl
 have lo:∀k:Go.AM.K AV,ldK 3 true (.ptr 0 0 0 1) H k=k (.agg [I o.node,I o.next,LP]):=fun k=>by rw [hH,ho0,hLP];rfl
 have li:∀k:Go.AM.K AV,ldK 3 true (.ptr 1 0 0 1) H k=k (.agg [I i.node,LH,LM]):=fun k=>by rw [hH,ho1,hLH,hLM];rfl
 have lon:∀k:Go.AM.K AV,ldK 1 false (.ptr 0 0 0 1) H k=k (I o.node):=fun k=>by rw [hH,ho0];rfl
 have lin:∀k:Go.AM.K AV,ldK 1 false (.ptr 1 0 0 1) H k=k (I i.node):=fun k=>by rw [hH,ho1];rfl
 have bO:∀k:Go.AM.K AV,buildK zO [] k=k (.agg zO):=fun k=>rfl
 have bI:∀k:Go.AM.K AV,buildK zI [] k=k (.agg zI):=fun k=>rfl
 have s3:∀k:AV→Hp→Option AV,effK (stE 3 (.ptr 3 0 0 1) (.agg zO) H) H k=k .u H:=fun k=>by rw [hH];exact Z0a (v := .u) (id:=3) (o := .arr 3 [zO] true false) (ft:=[3]) rfl k
 have s4:∀k:AV→Hp→Option AV,effK (stE 3 (.ptr 4 0 0 1) (.agg zI) H) H k=k .u H:=fun k=>by rw [hH];exact Z0a (v := .u) (id:=4) (o := .arr 3 [zI] true false) (ft:=[4]) rfl k
 have s5:∀(e:Int) (k:AV→Hp→Option AV),effK (stE 1 (.ptr 5 0 0 1) (I e) H) H k=k .u (H.set 5 (.arr 1 [[I e]] true false)):=fun e k=>by rw [hH];exact Z0a (v := .u) (id:=5) (o := .arr 1 [[I e]] true false) (ft:=[5]) rfl k
 have r3:∀(e:Int) (k:Go.AM.K AV),ldK 3 true (.ptr 3 0 0 1) (H.set 5 (.arr 1 [[I e]] true false)) k=k (.agg zO):=fun e k=>by rw [hH];rfl
 have r4:∀(e:Int) (k:Go.AM.K AV),ldK 3 true (.ptr 4 0 0 1) (H.set 5 (.arr 1 [[I e]] true false)) k=k (.agg zI):=fun e k=>by rw [hH];rfl
 have r5:∀(e:Int) (k:Go.AM.K AV),ldK 1 false (.ptr 5 0 0 1) (H.set 5 (.arr 1 [[I e]] true false)) k=k (I e):=fun e k=>by rw [hH];rfl
 have fO:=ZaT b o (by omega)
 have fI:=Z7R c1 c2 i (by omega) hm
 rw [eob] at fO
 rw [eib] at fI
 have hn1:nrm (.a [none,none,some 10]) (.agg [I o.node,I o.next,LP]) = .agg [I o.node,I o.next,LP]:=by rw [hLP];rfl
 have hn2:nrm (.a [none,some 2,some 7]) (.agg [I i.node,LH,LM]) = .agg [I i.node,LH,LM]:=by rw [hLH,hLM];rfl
 have hpl:plains [.agg [I o.node,I o.next,LP], .agg [I i.node,LH,LM], .s (.int .u64 (ar:Int)), .s (.int .u64 (an:Int))]=true:=by rw [hLP,hLH,hLM];rfl
 rw [eob,eib]
 unfold exO
 have go:∀w,Z2e Try.prog Z0S Z14 NN (fun v g=>cvt false g v) (.agg [I o.node,I o.next,LP]) (.agg [I i.node,LH,LM]) (.s (.int .u64 (ar:Int))) (.s (.int .u64 (an:Int))) []=some w→Z30 [.agg [I o.node,I o.next,LP], .agg [I i.node,LH,LM], .s (.int .u64 (ar:Int)), .s (.int .u64 (an:Int))] h=some (nrmR [.a [none,none,some 10], .a [none,some 2,some 7], .o] w,h):=fun w hw=>
  Zr5 (a0 := .agg [I o.node,I o.next,LP]) (a1 := .agg [I i.node,LH,LM]) (a2 := .s (.int .u64 (ar:Int))) (a3 := .s (.int .u64 (an:Int))) (v:=w) hpl (by rw [hn1,hn2];exact hw) h
 by_cases z:chkO o≠0∨chkI i≠0
 ·rw [if_pos z]
  refine ⟨true,true,true,(go (.tup [.agg zO, .agg zI,I 1]) ?_).trans rfl⟩
  have gr:(!(chkO o==0) || !(chkI i==0))=true:=by
   rcases z with z | z
   ·simp [z]
   ·simp [z]
  simp -implicitDefEqProofs only [Z2e,x0,x1,x2,x3,x4,x5,lo,li,Zcg,Zcf,Z03,fO,fI,Z07,Bool.true_xor,Z0N,gr,Z01,if_true,bO,bI,s3,s4,s5,r3,r4,r5]
  rfl
 ·have z1:chkO o=0:=Classical.byContradiction fun q=>z (.inl q)
  have z2:chkI i=0:=Classical.byContradiction fun q=>z (.inr q)
  rw [if_neg z]
  have gr:(!(chkO o==0) || !(chkI i==0))=false:=by simp [z1,z2]
  by_cases q:o.node=i.node
  ·have eq':(o.node==i.node)=true:=by simp [q]
   rw [if_pos q]
   refine ⟨true,true,true,(go (.tup [.agg zO, .agg zI,I 10]) ?_).trans rfl⟩
   simp -implicitDefEqProofs only [Z2e,x0,x1,x2,x3,x4,x5,lo,li,Zcg,Zcf,Z03,fO,fI,Z07,Bool.true_xor,Z0N,gr,Z01,Bool.false_eq_true,if_false,Z0c,Nat.zero_add,lon,lin,Bool.false_xor,eq',if_true,bO,bI,s3,s4,s5,r3,r4,r5]
   rfl
  ·have eq':(o.node==i.node)=false:=by simp [q]
   rw [if_neg q]
   obtain ⟨-, -, -,k4, -⟩:=Zcy z1
   obtain ⟨m1,m2,m3, -⟩:=Z7S z2
   obtain ⟨ba,fA⟩:=ZtH b o i.node (by omega) H
   rw [eob] at fA
   have hA:againO o i.node=(againL i.node o.pend,0):=by unfold againO;rw [if_neg (fun hh=>hh z1),if_neg (by rw [m1];simp)]
   rw [hA] at fA
   obtain ⟨L,hL⟩:∃L:List Envl,L=againL i.node o.pend:=⟨_,rfl⟩
   rw [← hL] at fA ⊢
   have hLl:L.length≤64:=by rw [hL];exact Nat.le_trans (List.length_filter_le _ _) k4
   have tp:∀(a b:AV) (k:Go.AM.K AV),exK (.tup [a,b]) 0 k=k a:=fun a b k=>rfl
   have tq:∀(a b:AV) (k:Go.AM.K AV),exK (.tup [a,b]) 1 k=k b:=fun a b k=>rfl
   -- the copies
   have y0:∀k:AV→Hp→Option AV,effK (boxE 3 (.agg zO) H.length) H k=k (.ptr 6 0 0 1) (H++[.arr 3 [zO] true false]):=fun k=>by rw [hH];rfl
   have y1:∀k:AV→Hp→Option AV,effK (stE 3 (.ptr 6 0 0 1) (.agg [I o.node,I o.next,LP]) (H++[.arr 3 [zO] true false])) (H++[.arr 3 [zO] true false]) k=k .u (H++[o0]):=fun k=>by
    rw [hH,ho0,hLP];exact Z0a (v := .u) (id:=6) (o := .arr 3 [[I o.node,I o.next,SL 10 encV b o.pend]] true false) (ft:=[6]) rfl k
   obtain ⟨H1,hH1⟩:∃H1:Hp,H1=H++[o0]:=⟨_,rfl⟩
   rw [← hH1] at y1
   have y2:∀k:Go.AM.K AV,ldK 1 false (.ptr 0 0 2 1) H1 k=k LP:=fun k=>by rw [hH1,hH,ho0,hLP];rfl
   have fE:∀h,Z4L [LP] h=some (LP,h):=fun h=>by rw [hLP];exact Ztw o.pend b (by omega) h
   have y3:∀k:AV→Hp→Option AV,effK (stE 1 (.ptr 6 0 2 1) LP H1) H1 k=k .u H1:=fun k=>by
    rw [hH1,hH,ho0,hLP];exact Z0a (v := .u) (id:=6) (o := .arr 3 [[I o.node,I o.next,SL 10 encV b o.pend]] true false) (ft:=[6]) rfl k
   have y4:∀k:Go.AM.K AV,ldK 1 false (.ptr 1 0 0 1) H1 k=k (I i.node):=fun k=>by rw [hH1,hH,ho1];rfl
   have y5:∀k:Go.AM.K AV,ldK 1 false (.ptr 1 0 1 1) H1 k=k LH:=fun k=>by rw [hH1,hH,ho1,hLH];rfl
   have y6:∀k:Go.AM.K AV,ldK 1 false (.ptr 1 0 2 1) H1 k=k LM:=fun k=>by rw [hH1,hH,ho1,hLM];rfl
   have gH:∀h base,Z4G [LH] h base=some (LH,EF []):=fun h base=>by
    rw [hLH]
    exact (Z1A (Zh3 i.heard c1 (by omega) h) base).trans (by simp [SL,idss,ids])
   have gM:∀h base,Z9I [LM] h base=some (LM,EF []):=fun h base=>by
    rw [hLM]
    have fM:Z4A [SL 7 encM c2 i.msgs] h=some (SL 7 encM c2 i.msgs,h):=by
     refine (Zo0 (a0:=SL 7 encM c2 i.msgs) (v:=if (c2&&i.msgs.isEmpty)=true then nilS else SL 7 encM c2 i.msgs) rfl ?_ h).trans ?_
     ·have rC:=ZaP i.msgs c2 (by omega) []
      have hK:=(Zc0 (fun v g=>cvt false g v) (SL 7 encM c2 i.msgs) []).symm
      show Z4u Try.prog Z5o Z5n NN (fun v g=>cvt false g v) (SL 7 encM c2 i.msgs) []=_
      rw [hK,rC]
      by_cases hb:(c2&&i.msgs.isEmpty)=true
      ·rw [if_pos hb,if_pos hb];rfl
      ·rw [if_neg hb,if_neg hb]
       have hb':(c2&&i.msgs.isEmpty)=false:=by simpa using hb
       refine (Z0Y (st:=false) (n:=i.msgs.length) (fr:=i.msgs.length) (full:=false) (sz:=7) (id:=1) (h:=[.arr 7 [] true false, .arr 7 (i.msgs.map encM) true false]) rfl (by simp) (by simp) (Z0U fun x=>by simp [encM])).trans ?_
       rw [SL,hb']
     ·by_cases hb:(c2&&i.msgs.isEmpty)=true
      ·rw [if_pos hb]
       obtain ⟨e1,e2⟩:=Bool.and_eq_true_iff.1 hb
       have:i.msgs=[]:=by simpa using e2
       rw [this,e1];rfl
      ·rw [if_neg hb];rfl
    exact (Z1A fM base).trans (by simp [SL,idss,ids])
   have bI3:∀k:Go.AM.K AV,buildK zI [(some (0,1),I i.node),(some (1,1),LH),(some (2,1),LM)] k=k (.agg [I i.node,LH,LM]):=fun k=>by rw [hLH,hLM];rfl
   have d1:∀k:AV→Hp→Ent→Option AV,effD (boxE 3 (.agg zI) H1.length) H1 k=k (.ptr 7 0 0 1) (H1++[.arr 3 [zI] true false]) ([],[7]):=fun k=>by rw [hH1,hH];rfl
   obtain ⟨H2,hH2⟩:∃H2:Hp,H2=H1++[o1]:=⟨_,rfl⟩
   have d2:∀k:AV→Hp→Ent→Option AV,effD (stE 3 (.ptr 7 0 0 1) (.agg [I i.node,LH,LM]) (H1++[.arr 3 [zI] true false])) (H1++[.arr 3 [zI] true false]) k=k .u H2 ([7],[7]):=fun k=>by
    rw [hH2,hH1,hH,ho1,hLH,hLM];exact Z09 (v := .u) (id:=7) (o := .arr 3 [[I i.node,SL 2 encH c1 i.heard,SL 7 encM c2 i.msgs]] true false) (ft:=[7]) rfl k
   have dj1:disjAll [(1,4),(4,6),(1,7),(1,9),(3,9),(4,9),(6,9),(7,9)] [([],[]),(idsOf (.ptr 1 0 0 1),[]),([],[]),(idsOf (.ptr 1 0 1 1),[]),([],[]),([],[]),(idsOf (.ptr 1 0 2 1),[]),([],[]),([],[]),([],[7]),([7],[7])]=true:=rfl
   obtain ⟨H3,hH3⟩:∃H3:Hp,H3=H2++[AObj.arr 1 [[.lst 10 ba (L.map encV)]] true false, .arr 1 [[.s (.int .u64 (ar:Int))]] true false]:=⟨_,rfl⟩
   have hl3:H3.length=10:=by rw [hH3,hH2,hH1,hH];rfl
   have fR:Z5H [.lst 10 ba (L.map encV), .s (.int .u64 (ar:Int))] H2=some (.fn 91 [.ptr 8 0 0 1, .ptr 9 0 0 1],H3):=by
    rw [Zql,hH3,hH2,hH1,hH]
    rfl
   have J:InvX ar an (.lst 10 ba (L.map encV)) o i (H3++[loopE .ready none]):=by
    rw [hH3,hH2,hH1,hH,ho0,ho1,ho2,hLP,hLH,hLM]
    exact ⟨rfl,rfl,rfl,rfl,⟨b,rfl⟩,⟨c1,c2,rfl⟩,rfl,rfl,rfl⟩
   obtain ⟨h',e1,e2⟩:=Zu3 (x0:=fun h=>Z6Y Try.prog Z0O D0 NN (fun v h=>some (v,h)) h) (xr:=fun h=>some (.tup [],h)) (b:=ba) har han hLl NN [] L o i _ rfl (by have:=NN_ge;omega) J (by omega) (by omega) hp
   have hF:∀g v,Z12 Try.prog Z0O D0 NN (fun h=>Z6Y Try.prog Z0O D0 NN (fun v h=>some (v,h)) h) (fun h=>some (.tup [],h)) NN (.yl 10) (.ptr 9 0 0 1) (.lst 10 ba (L.map encV)) (I L.length) (I ([]:List Envl).length) (H3++[loopE .ready none])=some (v,g)→Z5P [.yl H3.length, .ptr 8 0 0 1, .ptr 9 0 0 1] (H3++[loopE .ready none])=some (v,g):=fun g v hg=>by
    rw [ZqX,hl3]
    have ls:∀k:Go.AM.K (AV × Hp),ldK 1 false (.ptr 8 0 0 1) (H3++[loopE .ready none]) k=k (.lst 10 ba (L.map encV)):=fun k=>by rw [Z00,J.a8];rfl
    unfold Z6Z
    rw [ls,Z0b,List.length_map]
    exact hg
   have start:∀w,(rangeX Z0S (.fn 91 [.ptr 8 0 0 1, .ptr 9 0 0 1]) Z1t Z1s Z1j Z1k (envT [(7, .ptr 2 0 0 1),(8, .ptr 3 0 0 1),(9, .ptr 4 0 0 1),(10, .ptr 5 0 0 1),(13, .ptr 6 0 0 1),(14, .ptr 7 0 0 1)]) H3 fun pd h150=>jumpC pd (Z51 Try.prog Z0S Z14 NN (fun v g=>cvt false g v) (.ptr 3 0 0 1) (.ptr 4 0 0 1) (.ptr 5 0 0 1) (.ptr 6 0 0 1) (.ptr 7 0 0 1) h150) (fun i151=>bif i151==1 then (Z51 Try.prog Z0S Z14 NN (fun v g=>cvt false g v) (.ptr 3 0 0 1) (.ptr 4 0 0 1) (.ptr 5 0 0 1) (.ptr 6 0 0 1) (.ptr 7 0 0 1) h150) else (none)) (ldK 3 true (.ptr 3 0 0 1) h150 fun r152=>ldK 3 true (.ptr 4 0 0 1) h150 fun r153=>ldK 1 false (.ptr 5 0 0 1) h150 fun r154=>cvt false h150 (.tup [r152,r153,r154])))=some w→Z2e Try.prog Z0S Z14 NN (fun v g=>cvt false g v) (.agg [I o.node,I o.next,LP]) (.agg [I i.node,LH,LM]) (.s (.int .u64 (ar:Int))) (.s (.int .u64 (an:Int))) []=some w:=fun w hw=>by
    simp -implicitDefEqProofs only [Z2e,x0,x1,x2,x3,x4,x5,lo,li,Zcg,Zcf,ZqZ,Zr0,Zr1,Z03,fO,fI,Z07,Bool.true_xor,Z0N,gr,Z01,Bool.false_eq_true,if_false,Z0c,Nat.zero_add,lon,lin,Bool.false_xor,eq',fA,tp,tq,y0,y1,y2,fE,y3,y4,y5,ZqO,ZqP,Z1i,gH,Z4p,y6,gM,bI3,d1,d2,dj1,cond_true,fR]
    exact hw
   by_cases e:(exL ar an 0 L o i).2.2=0
   ·obtain ⟨f1,f2⟩:=e1 e
    obtain ⟨a2,a3,a4,a5,⟨b',a6⟩,⟨b1,b2,a7⟩,a8,a9,a10⟩:=f2
    have hF':=hF h' (.tup []) f1
    obtain ⟨g,hg⟩:∃g:Hp,g=h'.set H3.length (loopE .exhausted none):=⟨_,rfl⟩
    have kg:∀j x,j<10→h'[j]? = some x→g[j]? = some x:=fun j x hj hx=>by rw [hg,hl3];exact getSetN hx (by omega)
    obtain ⟨r,hr⟩:∃r,r=exL ar an 0 L o i:=⟨_,rfl⟩
    rw [show exL ar an ([]:List Envl).length L o i=r from hr.symm] at a6 a7
    rw [← hr] at e ⊢
    refine ⟨b',b1,b2,(go (.tup [ob b' r.1,ib b1 b2 r.2.1,I 0]) (start _ ?_)).trans (by unfold exV;rw [e];rfl)⟩
    refine (Ztq Zgo hF' (by rw [hl3];exact a10)).trans ?_
    rw [← hg]
    have g6:=kg 6 _ (by omega) a6
    have g7:=kg 7 _ (by omega) a7
    have g3:=kg 3 _ (by omega) a3
    have g4:=kg 4 _ (by omega) a4
    have g5:=kg 5 _ (by omega) a5
    have u6:∀k:Go.AM.K AV,ldK 3 true (.ptr 6 0 0 1) g k=k (ob b' r.1):=fun k=>by rw [Z00,g6];rfl
    have u7:∀k:Go.AM.K AV,ldK 3 true (.ptr 7 0 0 1) g k=k (ib b1 b2 r.2.1):=fun k=>by rw [Z00,g7];rfl
    obtain ⟨ga,hga⟩:∃ga:Hp,ga=g.set 3 (.arr 3 [cellsO b' r.1] true false):=⟨_,rfl⟩
    have v3:∀k:AV→Hp→Ent→Option AV,effD (stE 3 (.ptr 3 0 0 1) (ob b' r.1) g) g k=k .u ga ([3],[3]):=fun k=>by
     have:stE 3 (.ptr 3 0 0 1) (ob b' r.1) g=some (.u,⟨[(3, .arr 3 [cellsO b' r.1] true false)],[],[3]⟩):=by rw [Z0G,g3];simp [putAt]
     rw [Z09 this,hga]
    have ga4:ga[4]? = some (.arr 3 [zI] true false):=by rw [hga];exact getSetN g4 (by decide)
    obtain ⟨gb,hgb⟩:∃gb:Hp,gb=ga.set 4 (.arr 3 [cellsI b1 b2 r.2.1] true false):=⟨_,rfl⟩
    have v4:∀k:AV→Hp→Ent→Option AV,effD (stE 3 (.ptr 4 0 0 1) (ib b1 b2 r.2.1) ga) ga k=k .u gb ([4],[4]):=fun k=>by
     have:stE 3 (.ptr 4 0 0 1) (ib b1 b2 r.2.1) ga=some (.u,⟨[(4, .arr 3 [cellsI b1 b2 r.2.1] true false)],[],[4]⟩):=by rw [Z0G,ga4];simp [putAt]
     rw [Z09 this,hgb]
    have gb5:gb[5]? = some (.arr 1 [[I 0]] true false):=by rw [hgb];exact getSetN (by rw [hga];exact getSetN g5 (by decide)) (by decide)
    have v5:∀k:AV→Hp→Ent→Option AV,effD (stE 1 (.ptr 5 0 0 1) (I 0) gb) gb k=k .u gb ([5],[5]):=fun k=>by
     have:stE 1 (.ptr 5 0 0 1) (I 0) gb=some (.u,⟨[(5, .arr 1 [[I 0]] true false)],[],[5]⟩):=by rw [Z0G,gb5];rfl
     rw [Z09 this,Z1f gb5]
    have gb3:gb[3]? = some (.arr 3 [cellsO b' r.1] true false):=by rw [hgb];exact getSetN (by rw [hga];exact getSelfN g3) (by decide)
    have gb4:gb[4]? = some (.arr 3 [cellsI b1 b2 r.2.1] true false):=by rw [hgb];exact getSelfN ga4
    have w3:∀k:Go.AM.K AV,ldK 3 true (.ptr 3 0 0 1) gb k=k (ob b' r.1):=fun k=>by rw [Z00,gb3];rfl
    have w4:∀k:Go.AM.K AV,ldK 3 true (.ptr 4 0 0 1) gb k=k (ib b1 b2 r.2.1):=fun k=>by rw [Z00,gb4];rfl
    have w5:∀k:Go.AM.K AV,ldK 1 false (.ptr 5 0 0 1) gb k=k (I 0):=fun k=>by rw [Z00,gb5];rfl
    show Z51 Try.prog Z0S Z14 NN (fun v g=>cvt false g v) (.ptr 3 0 0 1) (.ptr 4 0 0 1) (.ptr 5 0 0 1) (.ptr 6 0 0 1) (.ptr 7 0 0 1) g=_
    simp -implicitDefEqProofs only [Z51,u6,u7,v3,v4,v5,w3,w4,w5]
    rfl
   ·obtain ⟨f1,f2,f3,f4⟩:=e2 e
    obtain ⟨b3,b4,b5,b10⟩:=f2
    have hF':=hF h' (.tup []) f1
    obtain ⟨g,hg⟩:∃g:Hp,g=h'.set H3.length (loopE .exhausted (some .ret)):=⟨_,rfl⟩
    have kg:∀j x,j<10→h'[j]? = some x→g[j]? = some x:=fun j x hj hx=>by rw [hg,hl3];exact getSetN hx (by omega)
    obtain ⟨r,hr⟩:∃r,r=exL ar an 0 L o i:=⟨_,rfl⟩
    rw [show exL ar an ([]:List Envl).length L o i=r from hr.symm] at f3 f4 b5
    rw [← hr]
    refine ⟨true,true,true,(go (.tup [.agg zO, .agg zI,I r.2.2]) (start _ ?_)).trans (by unfold exV;rw [f3,f4];rfl)⟩
    refine (Zu4 Zgo hF' (by rw [hl3];exact b10)).trans ?_
    rw [← hg]
    have w3:∀k:Go.AM.K AV,ldK 3 true (.ptr 3 0 0 1) g k=k (.agg zO):=fun k=>by rw [Z00,kg 3 _ (by omega) b3];rfl
    have w4:∀k:Go.AM.K AV,ldK 3 true (.ptr 4 0 0 1) g k=k (.agg zI):=fun k=>by rw [Z00,kg 4 _ (by omega) b4];rfl
    have w5:∀k:Go.AM.K AV,ldK 1 false (.ptr 5 0 0 1) g k=k (I r.2.2):=fun k=>by rw [Z00,kg 5 _ (by omega) b5];rfl
    show (ldK 3 true (.ptr 3 0 0 1) g fun r152=>ldK 3 true (.ptr 4 0 0 1) g fun r153=>ldK 1 false (.ptr 5 0 0 1) g fun r154=>cvt false g (.tup [r152,r153,r154]))=_
    rw [w3,w4,w5]
    rfl
end Go.AM


namespace Go.AM
open Go.Proofs
set_option linter.unusedVariables false
set_option linter.unusedSimpArgs false
set_option linter.constructorNameAsVariable false
set_option maxRecDepth 20000
attribute [local congr] Z0d Z0e Z0f Z0g Z0h Z0i Z0j Z0k Z0l Z0m Z0n Z0o Z0p Z0q Z0r Z0s Z0t Z0u Z0v Z0w Z0x Z0y Z0z Z0A Z0B Z0C Z0D
theorem OwnV.snoc {h:Hp} {v:AV} {l:List Envl} {m:Envl} {p:Nat} (O:OwnV h v l) (hm:h[p]? = some (.arr 10 [encV m] true false)) (hl:l.length<100000):∃v' h',(∀k:AV→Hp→Option AV,effK (appE 10 80 v (.sl 10 p 0 1 1 true) h h.length) h k=k v' h')∧OwnV h' v' (l++[m])∧(∀(j:Nat) (o:AObj),h[j]? = some o→(∀id,v ≠ .sl 10 id 0 l.length l.length false∨j≠id)→h'[j]? = some o)∧∃id n,v' = .sl 10 id 0 n n false:=by
 have rd:readSl h (.sl 10 p 0 1 1 true)=some [encV m]:=by unfold readSl;simp [hm]
 rcases O with ⟨rfl,rfl⟩ | ⟨id,rfl,h1⟩
 ·have ha:appE 10 80 nilS (.sl 10 p 0 1 1 true) h h.length=some (.sl 10 h.length 0 1 1 false,⟨[],[.arr 10 [encV m] true false],[p]⟩):=by
   unfold appE
   rw [rd]
   simp [idsOf,encV]
  exact ⟨_,h++[.arr 10 [encV m] true false],fun k=>by rw [ha];rfl, .inr ⟨h.length,rfl,by rw [Z0M];rfl⟩,fun j o hj _=>Z08 hj,_,_,rfl⟩
 ·have ha:appE 10 80 (.sl 10 id 0 l.length l.length false) (.sl 10 p 0 1 1 true) h h.length=some (.sl 10 id 0 (l++[m]).length (l++[m]).length false,⟨[(id, .arr 10 ((l++[m]).map encV) true false)],[],[id,p]⟩):=by
   unfold appE
   rw [rd]
   simp only [h1,List.length_map,List.length_singleton]
   rw [if_pos ⟨trivial,trivial,by omega,by simp [encV]⟩,if_neg (by simp),if_pos (by simp)]
   simp [idsOf]
  refine ⟨_,h.set id (.arr 10 ((l++[m]).map encV) true false),fun k=>Z0a ha k, .inr ⟨id,rfl,getSelfN h1⟩,fun j o hj ho=>getSetN hj ?_,_,_,rfl⟩
  rintro rfl
  rcases ho id with q | q
  ·exact q rfl
  ·exact q rfl
theorem Zu5 (n:Int) (h:Hp):Z5h [I n] h=some (if isNode n=true then .tup [ib true true ⟨n,[],[]⟩,I 0] else .tup [ib true true ⟨0,[],[]⟩,I 2],h):=by
 have fn:=Zcu n
 have bx:∀k:AV→Hp→Option AV,effK (boxE 3 (.agg zI) ([]:Hp).length) [] k=k (.ptr 0 0 0 1) [.arr 3 [zI] true false]:=fun k=>rfl
 have b1:∀k:Go.AM.K AV,buildK zI [(some (0,1),I n)] k=k (.agg [I n,nilS,nilS]):=fun k=>rfl
 have b2:∀k:Go.AM.K AV,buildK zI [] k=k (.agg zI):=fun k=>rfl
 have st:∀(a:Int) (k:AV→Hp→Option AV),effK (stE 3 (.ptr 0 0 0 1) (.agg [I a,nilS,nilS]) [.arr 3 [zI] true false]) [.arr 3 [zI] true false] k=k .u [.arr 3 [[I a,nilS,nilS]] true false]:=fun a k=>Z0a (v := .u) (id:=0) (o := .arr 3 [[I a,nilS,nilS]] true false) (ft:=[0]) rfl k
 have ld:∀(a:Int) (k:Go.AM.K AV),ldK 3 true (.ptr 0 0 0 1) [.arr 3 [[I a,nilS,nilS]] true false] k=k (.agg [I a,nilS,nilS]):=fun a k=>rfl
 cases hn:isNode n with
 | true=>
  rw [hn] at fn
  refine (ZfR (a0:=I n) (v := .tup [.agg [I n,nilS,nilS],I 0]) rfl ?_ h).trans rfl
  simp -implicitDefEqProofs only [Z6v,bx,ZfQ,Z03,fn,Z0L,Bool.not_true,Z01,Bool.false_eq_true,if_false,b1,st,ld]
  rfl
 | false=>
  rw [hn] at fn
  refine (ZfR (a0:=I n) (v := .tup [.agg zI,I 2]) rfl ?_ h).trans rfl
  simp -implicitDefEqProofs only [Z6v,bx,ZfQ,Z03,fn,Z0L,Bool.not_false,Z01,if_true,b2,st,ld]
  rfl
def agreesI (a b:Inbx):Bool:=(chkI a==0)&&(chkI b==0)&&decide (a.msgs=b.msgs)
theorem Zu6 (a1 a2 b1 b2:Bool) (a b:Inbx) (hla:a.heard.length<1000) (hma:a.msgs.length<1000) (hlb:b.heard.length<1000) (hmb:b.msgs.length<1000) (h:Hp):Z7k [ib a1 a2 a,ib b1 b2 b] h=some (B (agreesI a b),h):=by
 refine ZoF (a0:=ib a1 a2 a) (a1:=ib b1 b2 b) rfl ?_ h
 have n1:nrm (.a [none,some 2,some 7]) (ib a1 a2 a)=ib a1 a2 a:=rfl
 have n2:nrm (.a [none,some 2,some 7]) (ib b1 b2 b)=ib b1 b2 b:=rfl
 rw [n1,n2]
 have x0:∀k:AV→Hp→Option AV,effK (boxE 3 (ib a1 a2 a) ([]:Hp).length) [] k=k (.ptr 0 0 0 1) [.arr 3 [cellsI a1 a2 a] true false]:=fun k=>rfl
 obtain ⟨H,hH⟩:∃H:Hp,H=[AObj.arr 3 [cellsI a1 a2 a] true false, .arr 3 [cellsI b1 b2 b] true false]:=⟨_,rfl⟩
 have x1:∀k:AV→Hp→Option AV,effK (boxE 3 (ib b1 b2 b) ([AObj.arr 3 [cellsI a1 a2 a] true false]:Hp).length) [.arr 3 [cellsI a1 a2 a] true false] k=k (.ptr 1 0 0 1) H:=fun k=>by rw [hH];rfl
 have la:∀k:Go.AM.K AV,ldK 3 true (.ptr 0 0 0 1) H k=k (ib a1 a2 a):=fun k=>by rw [hH];rfl
 have lb:∀k:Go.AM.K AV,ldK 3 true (.ptr 1 0 0 1) H k=k (ib b1 b2 b):=fun k=>by rw [hH];rfl
 have ma:∀k:Go.AM.K AV,ldK 1 false (.ptr 0 0 2 1) H k=k (SL 7 encM a2 a.msgs):=fun k=>by rw [hH];rfl
 have mb:∀k:Go.AM.K AV,ldK 1 false (.ptr 1 0 2 1) H k=k (SL 7 encM b2 b.msgs):=fun k=>by rw [hH];rfl
 have fa:=Z7R a1 a2 a (by omega) hma
 have fb:=Z7R b1 b2 b (by omega) hmb
 have fE:=ZgT a.msgs b.msgs (a2&&a.msgs.isEmpty) (b2&&b.msgs.isEmpty) (by omega) (fun x y h k=>by rw [Z66,Bool.true_xor])
 have e1:∀(n:Int) (k:Go.AM.K AV),eqK Try.prog false 32 (I n) (I 0) H k=k (B (n==0)):=fun n k=>by rw [Z07,Bool.false_xor]
 unfold agreesI
 simp -implicitDefEqProofs only [Z8m,x0,x1,la,lb,ZoA,ZoB,Z03,fa,fb,e1,Z0X,Z0c,Nat.zero_add,ma,mb,fE]
 rfl
end Go.AM


namespace Go.AM
open Go.Proofs
set_option linter.unusedVariables false
set_option linter.unusedSimpArgs false
set_option linter.constructorNameAsVariable false
set_option maxRecDepth 20000
attribute [local congr] Z0d Z0e Z0f Z0g Z0h Z0i Z0j Z0k Z0l Z0m Z0n Z0o Z0p Z0q Z0r Z0s Z0t Z0u Z0v Z0w Z0x Z0y Z0z Z0A Z0B Z0C Z0D
abbrev msgX (n:Int):Msg:=⟨n,1,0,0,1,2,10⟩
theorem Zh8 (n:Int) (h:Hp):Z5R [I n] h=some (.agg (encM (msgX n)),h):=by
 refine Zrq (a0:=I n) (v := .agg (encM (msgX n))) rfl ?_ h
 have bx:∀k:AV→Hp→Option AV,effK (boxE 7 (.agg [I 0,I 0,I 0,I 0,I 0,I 0,I 0]) ([]:Hp).length) [] k=k (.ptr 0 0 0 1) [.arr 7 [[I 0,I 0,I 0,I 0,I 0,I 0,I 0]] true false]:=fun k=>rfl
 have b1:∀k:Go.AM.K AV,buildK [I 0,I 0,I 0,I 0,I 0,I 0,I 0] [(some (0,1),I n),(some (1,1),I 1),(some (4,1),I 1),(some (5,1),I 2),(some (6,1),I 10)] k=k (.agg (encM (msgX n))):=fun k=>rfl
 have st:∀(k:AV→Hp→Option AV),effK (stE 7 (.ptr 0 0 0 1) (.agg (encM (msgX n))) [.arr 7 [[I 0,I 0,I 0,I 0,I 0,I 0,I 0]] true false]) [.arr 7 [[I 0,I 0,I 0,I 0,I 0,I 0,I 0]] true false] k=k .u [.arr 7 [encM (msgX n)] true false]:=fun k=>Z0a (v := .u) (id:=0) (o := .arr 7 [encM (msgX n)] true false) (ft:=[0]) rfl k
 have ld:∀(k:Go.AM.K AV),ldK 7 true (.ptr 0 0 0 1) [.arr 7 [encM (msgX n)] true false] k=k (.agg (encM (msgX n))):=fun k=>rfl
 simp -implicitDefEqProofs only [Z8A,bx,b1,st,ld]
 rfl
set_option maxHeartbeats 4000000 in
theorem Zh9 (b:Bool) (o:Outb) (to:Int) (m:Msg) (hc:chkO o=0) (hto:isNode to=true) (hne:to≠o.node) (hm:checkM m=0) (h64:o.pend.length≠64) (hnx:o.next≤1073741824):∃b',∀h:Hp,Z1Z [ob b o,I to, .agg (encM m)] h=some (.tup [ob b' ⟨o.node,o.next+1,o.pend++[⟨o.node,to,o.next,m⟩]⟩, .agg (encV ⟨o.node,to,o.next,m⟩),I 0],h):=by
 obtain ⟨-,kn1, -,k4, -⟩:=Zcy hc
 have fC:=ZaT b o (by omega)
 have oD:=fun (h:Hp) (base:Nat)=>own_D b o (by omega) h base
 obtain ⟨node,next,pend⟩:=o
 dsimp only at hne h64 hnx k4 kn1 ⊢
 obtain ⟨LP,hLP⟩:∃LP:AV,LP=SL 10 encV b pend:=⟨_,rfl⟩
 have eob:ob b ⟨node,next,pend⟩ = .agg [I node,I next,LP]:=by rw [hLP]
 rw [eob] at fC oD ⊢
 rw [hc] at fC
 dsimp only at oD
 have hn1:nrm (.a [none,none,some 10]) (.agg [I node,I next,LP]) = .agg [I node,I next,LP]:=by rw [hLP];rfl
 have hpl:plains [.agg [I node,I next,LP],I to, .agg (encM m)]=true:=by rw [hLP];rfl
 obtain ⟨o0,ho0⟩:∃o0:AObj,o0 = .arr 3 [[I node,I next,LP]] true false:=⟨_,rfl⟩
 obtain ⟨o1,ho1⟩:∃o1:AObj,o1 = .arr 7 [encM m] true false:=⟨_,rfl⟩
 obtain ⟨H,hH⟩:∃H:Hp,H=[o0,o1,AObj.arr 3 [zO] true false, .arr 10 [zE] true false]:=⟨_,rfl⟩
 have x0:∀k:AV→Hp→Option AV,effK (boxE 3 (.agg [I node,I next,LP]) ([]:Hp).length) [] k=k (.ptr 0 0 0 1) [o0]:=fun k=>by rw [ho0,hLP];rfl
 have x1:∀k:AV→Hp→Option AV,effK (boxE 7 (.agg (encM m)) ([o0]:Hp).length) [o0] k=k (.ptr 1 0 0 1) [o0,o1]:=fun k=>by rw [ho1];rfl
 have x2:∀k:AV→Hp→Option AV,effK (boxE 3 (.agg zO) ([o0,o1]:Hp).length) [o0,o1] k=k (.ptr 2 0 0 1) [o0,o1, .arr 3 [zO] true false]:=fun k=>rfl
 have x3:∀k:AV→Hp→Option AV,effK (boxE 10 (.agg zE) ([o0,o1, .arr 3 [zO] true false]:Hp).length) [o0,o1, .arr 3 [zO] true false] k=k (.ptr 3 0 0 1) H:=fun k=>by rw [hH];rfl
 have lo:∀k:Go.AM.K AV,ldK 3 true (.ptr 0 0 0 1) H k=k (.agg [I node,I next,LP]):=fun k=>by rw [hH,ho0,hLP];rfl
 have l0:∀k:Go.AM.K AV,ldK 1 false (.ptr 0 0 0 1) H k=k (I node):=fun k=>by rw [hH,ho0];rfl
 have l1:∀k:Go.AM.K AV,ldK 1 false (.ptr 0 0 1 1) H k=k (I next):=fun k=>by rw [hH,ho0];rfl
 have l2:∀k:Go.AM.K AV,ldK 1 false (.ptr 0 0 2 1) H k=k LP:=fun k=>by rw [hH,ho0,hLP];rfl
 have lm:∀k:Go.AM.K AV,ldK 7 true (.ptr 1 0 0 1) H k=k (.agg (encM m)):=fun k=>by rw [hH,ho1];rfl
 have fn:=ZaS to
 rw [hto] at fn
 have fM:=Zck m
 rw [hm] at fM
 have lenP:∀k:Go.AM.K AV,lenK LP k=k (I pend.length):=fun k=>by rw [hLP,SL,Z0b,List.length_map]
 have e1:(to==node)=false:=by simp [hne]
 have e2:((pend.length:Int)==64)=false:=by rw [beq_eq_false_iff_ne];omega
 have e3:¬(next > 1073741824):=by omega
 -- what the region makes
 obtain ⟨x,hx⟩:∃x:Envl,x=⟨node,to,next,m⟩:=⟨_,rfl⟩
 have bK:∀k:Go.AM.K AV,buildK zE [(some (0,1),I node),(some (1,1),I to),(some (2,1),I next),(some (3,7), .agg (encM m))] k=k (.agg (encV x)):=fun k=>by rw [hx];rfl
 have region:∃(V:AV) (G:Hp) (p:Nat) (e21:Ent),(∀k:AV→Hp→Ent→Option AV,effD (newA Z1b [.agg [I node,I next,LP]] H H.length) H k=k (.agg [I node,I next,V]) G e21)∧p=G.length∧4≤p∧(∀j<4,G[j]? = H[j]?)∧OwnV G V pend∧(V=nilS∨∃id n,V = .sl 10 id 0 n n false)∧(∀id n,V = .sl 10 id 0 n n false→4≤id)∧disjAll [(1,3),(1,6),(1,7),(0,9),(1,9),(3,9),(6,9),(7,9),(0,10),(1,10),(3,10),(6,10),(7,10),(9,10),(3,11),(6,11),(7,11)] [(idsOf (.ptr 0 0 0 1),[]),e21,([],[]),(idsOf (.ptr 0 0 0 1),[]),([],[]),([],[]),(idsOf (.ptr 0 0 1 1),[]),(idsOf (.ptr 1 0 0 1),[]),([],[]),([],[p]),([],[p+1]),([p],[p]),([p+1],[p+1])]=true:=by
  have hl4:H.length=4:=by rw [hH];rfl
  by_cases hb:(b&&pend.isEmpty)=true
  ·have:=oD H H.length
   rw [if_pos hb] at this
   refine ⟨nilS,H,4,([],[]),fun k=>by rw [this];simp [effD,ap,wrOf],hl4.symm,Nat.le_refl _,fun _ _=>rfl, .inl ⟨by simpa using (Bool.and_eq_true_iff.1 hb).2,rfl⟩, .inl rfl,(fun id n hh=>by cases hh),rfl⟩
  ·have:=oD H H.length
   rw [if_neg hb] at this
   refine ⟨_,H++[.arr 10 (pend.map encV) true false],5,([],[4]),fun k=>by rw [this];simp [effD,ap,wrOf,hl4],by simp [hl4],by omega,fun j hj=>List.getElem?_append_left (by omega), .inr ⟨H.length,rfl,by rw [Z0M];rfl⟩, .inr ⟨_,_,rfl⟩,(fun id n hh=>by injection hh with _ hh;omega),rfl⟩
 obtain ⟨V,G,p,e21,rg,hpG,hp4,hG,OV,hV,hV4,dj⟩:=region
 have g0:G[0]? = some o0:=by rw [hG 0 (by omega),hH];rfl
 have g1:G[1]? = some o1:=by rw [hG 1 (by omega),hH];rfl
 have g2:G[2]? = some (.arr 3 [zO] true false):=by rw [hG 2 (by omega),hH];rfl
 have g3:G[3]? = some (.arr 10 [zE] true false):=by rw [hG 3 (by omega),hH];rfl
 have l0':∀k:Go.AM.K AV,ldK 1 false (.ptr 0 0 0 1) G k=k (I node):=fun k=>by rw [Z00,g0,ho0];rfl
 have l1':∀k:Go.AM.K AV,ldK 1 false (.ptr 0 0 1 1) G k=k (I next):=fun k=>by rw [Z00,g0,ho0];rfl
 have lm':∀k:Go.AM.K AV,ldK 7 true (.ptr 1 0 0 1) G k=k (.agg (encM m)):=fun k=>by rw [Z00,g1,ho1];rfl
 have d1:∀k:AV→Hp→Ent→Option AV,effD (boxE 3 (.agg zO) G.length) G k=k (.ptr p 0 0 1) (G++[.arr 3 [zO] true false]) ([],[p]):=fun k=>by rw [← hpG];simp [effD,boxE,ap,wrOf, ← hpG]
 have d2:∀k:AV→Hp→Ent→Option AV,effD (boxE 10 (.agg zE) (G++[AObj.arr 3 [zO] true false]).length) (G++[.arr 3 [zO] true false]) k=k (.ptr (p+1) 0 0 1) (G++[.arr 3 [zO] true false, .arr 10 [zE] true false]) ([],[p+1]):=fun k=>by
  have:(G++[AObj.arr 3 [zO] true false]).length=p+1:=by simp [← hpG]
  rw [this];simp [effD,boxE,ap,wrOf,this, ← hpG]
 have d3:∀k:AV→Hp→Ent→Option AV,effD (stE 3 (.ptr p 0 0 1) (.agg [I node,I next,V]) (G++[.arr 3 [zO] true false, .arr 10 [zE] true false])) (G++[.arr 3 [zO] true false, .arr 10 [zE] true false]) k=k .u (G++[.arr 3 [[I node,I next,V]] true false, .arr 10 [zE] true false]) ([p],[p]):=fun k=>by
  have:stE 3 (.ptr p 0 0 1) (.agg [I node,I next,V]) (G++[.arr 3 [zO] true false, .arr 10 [zE] true false])=some (.u,⟨[(p, .arr 3 [[I node,I next,V]] true false)],[],[p]⟩):=by
   rw [Z0G,List.getElem?_append_right (by omega),show p-G.length=0 by omega]
   rcases hV with rfl | ⟨id,n,rfl⟩<;>simp [putAt]
  rw [Z09 this,List.set_append_right _ _ (by omega),show p-G.length=0 by omega]
  rfl
 obtain ⟨G2,hG2⟩:∃G2:Hp,G2=G++[AObj.arr 3 [[I node,I next,V]] true false, .arr 10 [encV x] true false]:=⟨_,rfl⟩
 have d4:∀k:AV→Hp→Ent→Option AV,effD (stE 10 (.ptr (p+1) 0 0 1) (.agg (encV x)) (G++[.arr 3 [[I node,I next,V]] true false, .arr 10 [zE] true false])) (G++[.arr 3 [[I node,I next,V]] true false, .arr 10 [zE] true false]) k=k .u G2 ([p+1],[p+1]):=fun k=>by
  have:stE 10 (.ptr (p+1) 0 0 1) (.agg (encV x)) (G++[.arr 3 [[I node,I next,V]] true false, .arr 10 [zE] true false])=some (.u,⟨[(p+1, .arr 10 [encV x] true false)],[],[p+1]⟩):=by
   rw [Z0G,List.getElem?_append_right (by omega),show p+1-G.length=1 by omega]
   simp [putAt,encV]
  rw [Z09 this,List.set_append_right _ _ (by omega),show p+1-G.length=1 by omega,hG2]
  rfl
 have q0:G2[p]? = some (.arr 3 [[I node,I next,V]] true false):=by rw [hG2,hpG,List.getElem?_append_right (Nat.le_refl _),Nat.sub_self];rfl
 have q1:G2[p+1]? = some (.arr 10 [encV x] true false):=by rw [hG2,hpG,List.getElem?_append_right (by omega),show G.length+1-G.length=1 by omega];rfl
 have kG:∀j o,G[j]? = some o→G2[j]? = some o:=fun j o hj=>by rw [hG2];exact Z08 hj
 have lV:∀k:Go.AM.K AV,ldK 1 false (.ptr p 0 2 1) G2 k=k V:=fun k=>by rw [Z00,q0];rcases hV with rfl | ⟨id,n,rfl⟩<;>rfl
 have lx:∀k:Go.AM.K AV,ldK 10 true (.ptr (p+1) 0 0 1) G2 k=k (.agg (encV x)):=fun k=>by rw [Z00,q1];rfl
 have hl2:G2.length=p+2:=by rw [hG2];simp [← hpG]
 obtain ⟨G3,hG3⟩:∃G3:Hp,G3=G2++[AObj.arr 10 [encV x] true false]:=⟨_,rfl⟩
 have bs:∀k:AV→Hp→Option AV,effK (bsE 10 zE 1 [(0, .agg (encV x))] G2.length) G2 k=k (.sl 10 G2.length 0 1 1 true) G3:=fun k=>by rw [hG3];simp [bsE,fillS,encV,effK,ap]
 have OV3:OwnV G3 V pend:=by
  rcases OV with O | ⟨id,rfl,hid⟩
  ·exact .inl O
  ·exact .inr ⟨id,rfl,by rw [hG3];exact Z08 (kG _ _ hid)⟩
 have hidp:∀id,V = .sl 10 id 0 pend.length pend.length false→id<p∧4≤id∨(id<4∧False):=fun id hid=>by
  refine .inl ⟨?_,hV4 id _ hid⟩
  rcases OV with ⟨-,e⟩ | ⟨id',e,hh⟩
  ·rw [e] at hid;cases hid
  ·rw [e] at hid
   injection hid with _ hid
   subst hid
   have h1:=(List.getElem?_eq_some_iff.1 hh).1
   omega
 obtain ⟨V',G4,a1,a2,a3,a4⟩:=OV3.snoc (m:=x) (p:=G2.length) (by rw [hG3,Z0M];rfl) (by omega)
 have k4':∀j o,G2[j]? = some o→(j<4∨p≤j)→G4[j]? = some o:=fun j o hj hjp=>a3 j o (by rw [hG3];exact Z08 hj) fun id=>by
  by_cases hid:V = .sl 10 id 0 pend.length pend.length false
  ·right
   rcases hidp id hid with ⟨h1,h2⟩ | ⟨-,h2⟩
   ·omega
   ·exact h2.elim
  ·exact .inl hid
 have u0:=k4' p _ q0 (.inr (Nat.le_refl _))
 have u1:=k4' (p+1) _ q1 (.inr (by omega))
 have u2:=k4' 2 _ (kG _ _ g2) (.inl (by omega))
 have u3:=k4' 3 _ (kG _ _ g3) (.inl (by omega))
 obtain ⟨G5,hG5⟩:∃G5:Hp,G5=G4.set p (.arr 3 [[I node,I next,V']] true false):=⟨_,rfl⟩
 have s1:∀k:AV→Hp→Option AV,effK (stE 1 (.ptr p 0 2 1) V' G4) G4 k=k .u G5:=fun k=>by
  have:stE 1 (.ptr p 0 2 1) V' G4=some (.u,⟨[(p, .arr 3 [[I node,I next,V']] true false)],[],[p]⟩):=by
   rw [Z0G,u0]
   obtain ⟨id,n,rfl⟩:=a4
   simp [putAt]
  rw [Z0a this,hG5]
 have v0:G5[p]? = some (.arr 3 [[I node,I next,V']] true false):=by rw [hG5];exact getSelfN u0
 have ln:∀k:Go.AM.K AV,ldK 1 false (.ptr p 0 1 1) G5 k=k (I next):=fun k=>by rw [Z00,v0];rfl
 have wn:IntKind.i64.wrap (next+1)=next+1:=wrap64 (by omega) (by omega)
 obtain ⟨G6,hG6⟩:∃G6:Hp,G6=G5.set p (.arr 3 [[I node,I (next+1),V']] true false):=⟨_,rfl⟩
 have s2:∀k:AV→Hp→Option AV,effK (stE 1 (.ptr p 0 1 1) (I (next+1)) G5) G5 k=k .u G6:=fun k=>by
  have:stE 1 (.ptr p 0 1 1) (I (next+1)) G5=some (.u,⟨[(p, .arr 3 [[I node,I (next+1),V']] true false)],[],[p]⟩):=by
   rw [Z0G,v0]
   simp [putAt]
  rw [Z0a this,hG6]
 have w0:G6[p]? = some (.arr 3 [[I node,I (next+1),V']] true false):=by rw [hG6];exact getSelfN v0
 have kk:∀j o,G4[j]? = some o→j≠p→G6[j]? = some o:=fun j o hj hn=>by rw [hG6];exact getSetN (by rw [hG5];exact getSetN hj (Ne.symm hn)) (Ne.symm hn)
 have lq:∀k:Go.AM.K AV,ldK 3 true (.ptr p 0 0 1) G6 k=k (.agg [I node,I (next+1),V']):=fun k=>by rw [Z00,w0];obtain ⟨id,n,rfl⟩:=a4;rfl
 have lx6:∀k:Go.AM.K AV,ldK 10 true (.ptr (p+1) 0 0 1) G6 k=k (.agg (encV x)):=fun k=>by rw [Z00,kk _ _ u1 (by omega)];rfl
 have z2:=kk 2 _ u2 (by omega)
 have z3:=kk 3 _ u3 (by omega)
 obtain ⟨G7,hG7⟩:∃G7:Hp,G7=G6.set 2 (.arr 3 [[I node,I (next+1),V']] true false):=⟨_,rfl⟩
 have f1:∀k:AV→Hp→Ent→Option AV,effD (stE 3 (.ptr 2 0 0 1) (.agg [I node,I (next+1),V']) G6) G6 k=k .u G7 ([2],[2]):=fun k=>by
  have:stE 3 (.ptr 2 0 0 1) (.agg [I node,I (next+1),V']) G6=some (.u,⟨[(2, .arr 3 [[I node,I (next+1),V']] true false)],[],[2]⟩):=by
   rw [Z0G,z2]
   obtain ⟨id,n,rfl⟩:=a4
   simp [putAt]
  rw [Z09 this,hG7]
 have z37:G7[3]? = some (.arr 10 [zE] true false):=by rw [hG7];exact getSetN z3 (by decide)
 obtain ⟨G8,hG8⟩:∃G8:Hp,G8=G7.set 3 (.arr 10 [encV x] true false):=⟨_,rfl⟩
 have f2:∀k:AV→Hp→Ent→Option AV,effD (stE 10 (.ptr 3 0 0 1) (.agg (encV x)) G7) G7 k=k .u G8 ([3],[3]):=fun k=>by
  have:stE 10 (.ptr 3 0 0 1) (.agg (encV x)) G7=some (.u,⟨[(3, .arr 10 [encV x] true false)],[],[3]⟩):=by
   rw [Z0G,z37]
   simp [putAt,encV]
  rw [Z09 this,hG8]
 have y2:G8[2]? = some (.arr 3 [[I node,I (next+1),V']] true false):=by rw [hG8];exact getSetN (by rw [hG7];exact getSelfN z2) (by decide)
 have y3:G8[3]? = some (.arr 10 [encV x] true false):=by rw [hG8];exact getSelfN z37
 have r2:∀k:Go.AM.K AV,ldK 3 true (.ptr 2 0 0 1) G8 k=k (.agg [I node,I (next+1),V']):=fun k=>by rw [Z00,y2];obtain ⟨id,n,rfl⟩:=a4;rfl
 have r3:∀k:Go.AM.K AV,ldK 10 true (.ptr 3 0 0 1) G8 k=k (.agg (encV x)):=fun k=>by rw [Z00,y3];rfl
 -- the answer
 have hcv:∃w bb,cvt false G8 V'=some w∧nrm (.l 10) w=SL 10 encV bb (pend++[x]):=by
  rcases a2 with ⟨e, -⟩ | ⟨id,rfl,hid⟩
  ·simp at e
  ·have n2:2≠id:=by rintro rfl;rw [u2] at hid;injection hid with hid;injection hid with q _;cases q
   have np:p≠id:=by rintro rfl;rw [u0] at hid;injection hid with hid;injection hid with q _;cases q
   have n3:3≠id:=by
    rintro rfl
    rw [u3] at hid
    injection hid with hid
    injection hid with _ q
    have hq:=congrArg List.getLast? q
    rw [List.map_append,List.map_singleton,List.getLast?_append] at hq
    simp [encV,hx] at hq
    have:=hq.2.2.1
    omega
   have hid8:G8[id]? = some (.arr 10 ((pend++[x]).map encV) true false):=by rw [hG8];exact getSetN (by rw [hG7];exact getSetN (kk _ _ hid (Ne.symm np)) n2) n3
   exact ⟨.lst 10 false ((pend++[x]).map encV),false,Z0Y (st:=false) hid8 (by simp) (by simp) (Z0U fun x=>by simp [encV]),rfl⟩
 obtain ⟨w,bb,c1,c2⟩:=hcv
 refine ⟨bb,fun h=>(Zrk (a0 := .agg [I node,I next,LP]) (a1:=I to) (a2 := .agg (encM m)) (v := .tup [.agg [I node,I (next+1),w], .agg (encV x),I 0]) hpl ?_ h).trans ?_⟩
 ·rw [hn1]
  simp -implicitDefEqProofs only [Z8z,x0,x1,x2,x3,lo,Zre,Zrf,Zrg,Z03,fC,Z07,beq_self_eq_true,Bool.true_xor,Bool.false_xor,Bool.not_true,Z01,Bool.false_eq_true,if_false,fn,Z0L,Z0c,Nat.zero_add,l0,l1,l2,lm,e1,fM,lenP,e2,Z0K,e3,decide_false,Z2m,ZeL,Zrc,Z1i,rg,l0',l1',lm',bK,d1,d2,d3,d4,dj,cond_true,lV,lx,bs,a1,s1,ln,Z0I,wn,s2,lq,lx6,f1,f2]
  have dj3:disjAll [(1,2)] [(idsOf (.ptr p 0 0 1),[]),(idsOf (.ptr (p+1) 0 0 1),[]),([2],[2]),([3],[3]),([],[])]=true:=by
   have:(p+1==2)=false:=by rw [beq_eq_false_iff_ne];omega
   simp [disjAll,disj2,idsOf]
   omega
  simp -implicitDefEqProofs only [dj3,cond_true,r2,r3]
  simp only [Z28,Z1h,Z1g,Z4s,cvt_s,c1]
  rfl
 ·show some (AV.tup [.agg [I node,I (next+1),nrm (.l 10) w], .agg (encV x),I 0],h)=_
  rw [c2,hx]
end Go.AM


namespace Go.AM
open Go.Proofs
set_option linter.unusedVariables false
set_option linter.unusedSimpArgs false
set_option linter.constructorNameAsVariable false
set_option maxRecDepth 20000
theorem ZaW {i:Inbx} (h1:isNode i.node=true) (h2:i.heard.length≤256) (h3:i.msgs.length≤64) (h4:chkH i.node none i.heard=0) (h5:errM i.msgs=0) (h6:normL i.msgs=i.msgs) (h7:i.msgs.length≤i.heard.length):chkI i=0:=by
 unfold chkI
 rw [if_neg (by rw [h1];simp),if_neg (by omega),if_neg (fun hh=>hh h4),if_neg (by rw [h5,h6];simp),if_neg (by omega)]
abbrev mX1:Msg:=msgX 1
abbrev mX2:Msg:=msgX 2
abbrev eX1:Envl:=⟨1,2,1,mX1⟩
abbrev eX2:Envl:=⟨1,2,2,mX2⟩
abbrev oX0:Outb:=⟨1,1,[]⟩
abbrev oX1:Outb:=⟨1,2,[eX1]⟩
abbrev oX2:Outb:=⟨1,3,[eX1,eX2]⟩
abbrev oX3:Outb:=⟨1,3,[eX1]⟩
abbrev oX4:Outb:=⟨1,3,[]⟩
abbrev iX0:Inbx:=⟨2,[],[]⟩
abbrev iX1:Inbx:=⟨2,[⟨1,1⟩],[mX1]⟩
abbrev iX2:Inbx:=⟨2,[⟨1,1⟩,⟨1,2⟩],[mX1,mX2]⟩
theorem nX0:normL []=[]:=ZaQ .nil
theorem nX1:normL [mX1]=[mX1]:=ZaQ (List.pairwise_singleton _ _)
theorem nX2:normL [mX1,mX2]=[mX1,mX2]:=ZaQ (by unfold Srt;decide +kernel)
theorem cX0:chkI iX0=0:=ZaW (by decide) (by decide) (by decide) (by decide) (by decide +kernel) nX0 (by decide)
theorem cX1:chkI iX1=0:=ZaW (by decide) (by decide) (by decide) (by decide +kernel) (by decide +kernel) nX1 (by decide)
theorem cX2:chkI iX2=0:=ZaW (by decide) (by decide) (by decide) (by decide +kernel) (by decide +kernel) nX2 (by decide)
theorem tX1:takeI iX0 eX1=(iX1,⟨1,1⟩,true,0):=by
 unfold takeI
 rw [if_neg (fun hh=>hh cX0),if_neg (by decide +kernel),if_neg (by decide),if_neg (by decide +kernel),if_neg (by decide +kernel)]
 rw [show iX0.msgs.contains eX1.msg=false by decide +kernel,if_neg (by simp)]
 rw [show iX0.msgs++[eX1.msg]=[mX1] from rfl,nX1,show insH iX0.heard ⟨eX1.frm,eX1.num⟩=[⟨1,1⟩] by decide +kernel]
theorem tX2:takeI iX1 eX2=(iX2,⟨1,2⟩,true,0):=by
 unfold takeI
 rw [if_neg (fun hh=>hh cX1),if_neg (by decide +kernel),if_neg (by decide),if_neg (by decide +kernel),if_neg (by decide +kernel)]
 rw [show iX1.msgs.contains eX2.msg=false by decide +kernel,if_neg (by simp)]
 rw [show iX1.msgs++[eX2.msg]=[mX1,mX2] from rfl,nX2,show insH iX1.heard ⟨eX2.frm,eX2.num⟩=[⟨1,1⟩,⟨1,2⟩] by decide +kernel]
theorem tX3:takeI iX2 eX1=(iX2,⟨1,1⟩,false,0):=by
 unfold takeI
 rw [if_neg (fun hh=>hh cX2),if_neg (by decide +kernel),if_neg (by decide),if_pos (by decide +kernel)]
theorem hX2:heardO oX2 ⟨1,2⟩=(oX3,0):=by decide +kernel
theorem hX3:heardO oX3 ⟨1,1⟩=(oX4,0):=by decide +kernel
theorem exX1:exO oX2 iX0 3 2=(oX3,iX2,0):=by
 unfold exO
 rw [if_neg (by rw [cX0,show chkO oX2=0 by decide +kernel];simp),if_neg (by decide),show againL iX0.node oX2.pend=[eX1,eX2] by decide +kernel]
 rw [exL,if_neg (by decide),tX1,if_neg (by simp),if_neg (by decide),exL,if_neg (by decide),tX2,if_neg (by simp),if_pos (by decide),hX2,exL]
theorem exX2:exO oX3 iX2 1 1=(oX4,iX2,0):=by
 unfold exO
 rw [if_neg (by rw [cX2,show chkO oX3=0 by decide +kernel];simp),if_neg (by decide),show againL iX2.node oX3.pend=[eX1] by decide +kernel]
 rw [exL,if_neg (by decide),tX3,if_neg (by simp),if_pos (by decide),hX3,exL]
end Go.AM


namespace Go.AM
open Go.Proofs
set_option linter.unusedVariables false
set_option linter.unusedSimpArgs false
set_option linter.constructorNameAsVariable false
set_option maxRecDepth 20000
theorem Zu7 {T:Tab} {D:DTab} {N:Nat} {x0:Hp→Option AV} {xr:AV→Hp→Option AV} {a b:List Hrd} {p q:Bool} {h:Hp} (hab:a.length=b.length) (hl:a.length<1000000) (hx:x0 h=xr (B true) h) (heq:∀(x y:Hrd) (k:Go.AM.K AV),eqK Try.prog true 36 (.agg (encH x)) (.agg (encH y)) h k=k (B (!(x==y)))):∀(n i:Nat),i≤a.length→a.length<i+n→
  Z2o Try.prog T D N x0 xr n (.lst 2 p (a.map encH)) (.lst 2 q (b.map encH)) (I a.length) (I i) h=xr (B (decide (a.drop i=b.drop i))) h:=by
 intro n
 induction n with
 | zero=>intro i h1 h2;omega
 | succ n ih=>
  intro i h1 h2
  show Z6F Try.prog T D N (Z2o Try.prog T D N x0 xr n) x0 xr _ _ _ _ h=_
  rcases Nat.lt_or_ge i a.length with hi | hi
  ·have c1:((i:Int)<(a.length:Int)):=by omega
   have hw:IntKind.i64.wrap ((i:Int)+1)=((i+1:Nat):Int):=by rw [wrap64 (by omega) (by omega)];omega
   have ia:∀k:Go.AM.K AV,iaK 2 (.lst 2 p (a.map encH)) (I i) k=k (.ep (encH a[i]) 0):=fun k=>Z0Q i rfl (List.getElem?_eq_getElem hi) k
   have ib:∀k:Go.AM.K AV,iaK 2 (.lst 2 q (b.map encH)) (I i) k=k (.ep (encH (b[i]'(by omega))) 0):=fun k=>Z0Q i rfl (List.getElem?_eq_getElem (by omega)) k
   have ld:∀(x:Hrd) (k:Go.AM.K AV),ldK 2 true (.ep (encH x) 0) h k=k (.agg (encH x)):=fun x k=>rfl
   rw [List.drop_eq_getElem_cons hi,List.drop_eq_getElem_cons (show i<b.length by omega)]
   simp -implicitDefEqProofs only [Z6F,Z0b,List.length_map,Z06,c1,decide_true,Z01,if_true,ia,ib,ld,heq,Z0I,hw,ih (i+1) (by omega) (by omega),List.cons.injEq,Bool.decide_and]
   by_cases e:a[i]=b[i]
   ·simp [e]
   ·simp [e]
  ·have:i=a.length:=by omega
   subst this
   have c1:¬((a.length:Int)<(a.length:Int)):=by omega
   simp -implicitDefEqProofs only [Z6F,Z0b,List.length_map,Z06,c1,decide_false,Z01,Bool.false_eq_true,if_false,hx]
   rw [List.drop_eq_nil_of_le (Nat.le_refl _),List.drop_eq_nil_of_le (by omega)]
   rfl
theorem Zu8 (a b:List Hrd) (p q:Bool) (hl:a.length<1000000) (heq:∀(x y:Hrd) (h:Hp) (k:Go.AM.K AV),eqK Try.prog true 36 (.agg (encH x)) (.agg (encH y)) h k=k (B (!(x==y)))) (h:Hp):Z5U [.lst 2 p (a.map encH), .lst 2 q (b.map encH)] h=some (B (decide (a=b)),h):=by
 refine Zrw rfl ?_ h
 simp only [nrm,nrmC]
 by_cases hab:a.length=b.length
 ·have e:((a.length:Int)==(b.length:Int))=true:=by simp [hab]
  have:=Zu7 (T:=Z5T) (D:=Z5S) (N:=NN) (x0:=fun h=>Z8C Try.prog Z5T Z5S NN (fun v g=>cvt false g v) h) (xr:=fun w13_4 h=>cvt false h w13_4) (a:=a) (b:=b) (p:=p) (q:=q) (h:=[]) hab hl rfl (fun x y k=>heq x y [] k) NN 0 (by omega) (by have:=NN_ge;omega)
  simp only [List.drop_zero] at this
  simp -implicitDefEqProofs only [Z56,Z0b,List.length_map,Z07,e,Bool.true_xor,Bool.not_true,Z01,Bool.false_eq_true,if_false]
  exact this
 ·have e:((a.length:Int)==(b.length:Int))=false:=by simp;omega
  have hne:a≠b:=fun h=>hab (by rw [h])
  simp [Z56,e,hne]
attribute [local congr] Z0d Z0e Z0f Z0g Z0h Z0i Z0j Z0k Z0l Z0m Z0n Z0o Z0p Z0q Z0r Z0s Z0t Z0u Z0v Z0w Z0x Z0y Z0z Z0A Z0B Z0C Z0D
abbrev bxO (b:Bool) (o:Outb):AObj := .arr 3 [cellsO b o] true false
abbrev bxI (b1 b2:Bool) (i:Inbx):AObj := .arr 3 [cellsI b1 b2 i] true false
abbrev bxE (e:Envl):AObj := .arr 10 [encV e] true false
theorem stI3 {β:Type} {h:Hp} {p:Nat} {b1 b2 b1' b2':Bool} {i i':Inbx} (g:h[p]? = some (bxI b1 b2 i)) (k:AV→Hp→Option β):effK (stE 3 (.ptr p 0 0 1) (ib b1' b2' i') h) h k=k .u (h.set p (bxI b1' b2' i')):=by
 have:stE 3 (.ptr p 0 0 1) (ib b1' b2' i') h=some (.u,⟨[(p,bxI b1' b2' i')],[],[p]⟩):=by rw [Z0G,g];simp [putAt]
 exact Z0a this k
theorem ldO {β:Type} {h:Hp} {p:Nat} {b:Bool} {o:Outb} (g:h[p]? = some (bxO b o)) (k:Go.AM.K β):ldK 3 true (.ptr p 0 0 1) h k=k (ob b o):=by rw [Z00,g];rfl
theorem ldI3 {β:Type} {h:Hp} {p:Nat} {b1 b2:Bool} {i:Inbx} (g:h[p]? = some (bxI b1 b2 i)) (k:Go.AM.K β):ldK 3 true (.ptr p 0 0 1) h k=k (ib b1 b2 i):=by rw [Z00,g];rfl
set_option maxHeartbeats 4000000 in
theorem Zu9 (h:Hp):Z7J [] h=some (B true,h):=by
 refine ZrK rfl ?_ h
 have n1:∀h,Z5Q [I 1] h=some (.tup [ob true oX0,I 0],h):=fun h=>(ZtC 1 h).trans rfl
 have n2:∀h,Z5h [I 2] h=some (.tup [ib true true iX0,I 0],h):=fun h=>(Zu5 2 h).trans rfl
 have gm1:∀h base,Z7I [I 1] h base=some (.agg (encM mX1),EF []):=fun h base=>(Z1A (Zh8 1 h) base).trans (by simp [idss,ids])
 have gm2:∀h base,Z7I [I 2] h base=some (.agg (encM mX2),EF []):=fun h base=>(Z1A (Zh8 2 h) base).trans (by simp [idss,ids])
 obtain ⟨b1,f1⟩:=Zh9 true oX0 2 mX1 (by decide +kernel) (by decide) (by decide) (by decide +kernel) (by decide) (by decide)
 replace f1:∀h,Z1Z [ob true oX0,I 2, .agg (encM mX1)] h=some (.tup [ob b1 oX1, .agg (encV eX1),I 0],h):=f1
 obtain ⟨b2,f2⟩:=Zh9 b1 oX1 2 mX2 (by decide +kernel) (by decide) (by decide) (by decide +kernel) (by decide) (by decide)
 replace f2:∀h,Z1Z [ob b1 oX1,I 2, .agg (encM mX2)] h=some (.tup [ob b2 oX2, .agg (encV eX2),I 0],h):=f2
 have cl:∀(b:Bool) (o:Outb) (m:Msg) (v:AV),(∀h,Z1Z [ob b o,I 2, .agg (encM m)] h=some (v,h))→∀h base,Zat [ob b o,I 2, .agg (encM m)] h base=some (v,EF []):=fun b o m v hv h base=>by
  exact (Z1A (hv h) base).trans (by simp [idss,ids,SL,encM])
 have gs1:=cl _ _ _ _ f1
 have gs2:=cl _ _ _ _ f2
 have tp0:∀(a b c:AV) (k:Go.AM.K AV),exK (.tup [a,b,c]) 0 k=k a:=fun a b c k=>rfl
 have tp1:∀(a b c:AV) (k:Go.AM.K AV),exK (.tup [a,b,c]) 1 k=k b:=fun a b c k=>rfl
 have tp2:∀(a b c:AV) (k:Go.AM.K AV),exK (.tup [a,b,c]) 2 k=k c:=fun a b c k=>rfl
 have tq0:∀(a b:AV) (k:Go.AM.K AV),exK (.tup [a,b]) 0 k=k a:=fun a b k=>rfl
 have tq1:∀(a b:AV) (k:Go.AM.K AV),exK (.tup [a,b]) 1 k=k b:=fun a b k=>rfl
 -- the heaps
 have x0:∀k:AV→Hp→Option AV,effK (boxE 3 (.agg zO) ([]:Hp).length) [] k=k (.ptr 0 0 0 1) [.arr 3 [zO] true false]:=fun k=>rfl
 have s0:∀k:AV→Hp→Option AV,effK (stE 3 (.ptr 0 0 0 1) (ob true oX0) [.arr 3 [zO] true false]) [.arr 3 [zO] true false] k=k .u [bxO true oX0]:=fun k=>Z0a (v := .u) (id:=0) (o:=bxO true oX0) (ft:=[0]) rfl k
 have l0:∀k:Go.AM.K AV,ldK 3 true (.ptr 0 0 0 1) [bxO true oX0] k=k (ob true oX0):=fun k=>ldO (p:=0) rfl k
 have d1:∀k:AV→Hp→Ent→Option AV,effD (boxE 10 (.agg zE) ([bxO true oX0]:Hp).length) [bxO true oX0] k=k (.ptr 1 0 0 1) [bxO true oX0, .arr 10 [zE] true false] ([],[1]):=fun k=>rfl
 have d2:∀k:AV→Hp→Ent→Option AV,effD (stE 3 (.ptr 0 0 0 1) (ob b1 oX1) [bxO true oX0, .arr 10 [zE] true false]) [bxO true oX0, .arr 10 [zE] true false] k=k .u [bxO b1 oX1, .arr 10 [zE] true false] ([0],[0]):=fun k=>Z09 (v := .u) (id:=0) (o:=bxO b1 oX1) (ft:=[0]) rfl k
 have d3:∀k:AV→Hp→Ent→Option AV,effD (stE 10 (.ptr 1 0 0 1) (.agg (encV eX1)) [bxO b1 oX1, .arr 10 [zE] true false]) [bxO b1 oX1, .arr 10 [zE] true false] k=k .u [bxO b1 oX1,bxE eX1] ([1],[1]):=fun k=>Z09 (v := .u) (id:=1) (o:=bxE eX1) (ft:=[1]) rfl k
 have l1:∀k:Go.AM.K AV,ldK 3 true (.ptr 0 0 0 1) [bxO b1 oX1,bxE eX1] k=k (ob b1 oX1):=fun k=>ldO (p:=0) rfl k
 have d4:∀k:AV→Hp→Ent→Option AV,effD (boxE 10 (.agg zE) ([bxO b1 oX1,bxE eX1]:Hp).length) [bxO b1 oX1,bxE eX1] k=k (.ptr 2 0 0 1) [bxO b1 oX1,bxE eX1, .arr 10 [zE] true false] ([],[2]):=fun k=>rfl
 have d5:∀k:AV→Hp→Ent→Option AV,effD (stE 3 (.ptr 0 0 0 1) (ob b2 oX2) [bxO b1 oX1,bxE eX1, .arr 10 [zE] true false]) [bxO b1 oX1,bxE eX1, .arr 10 [zE] true false] k=k .u [bxO b2 oX2,bxE eX1, .arr 10 [zE] true false] ([0],[0]):=fun k=>Z09 (v := .u) (id:=0) (o:=bxO b2 oX2) (ft:=[0]) rfl k
 have d6:∀k:AV→Hp→Ent→Option AV,effD (stE 10 (.ptr 2 0 0 1) (.agg (encV eX2)) [bxO b2 oX2,bxE eX1, .arr 10 [zE] true false]) [bxO b2 oX2,bxE eX1, .arr 10 [zE] true false] k=k .u [bxO b2 oX2,bxE eX1,bxE eX2] ([2],[2]):=fun k=>Z09 (v := .u) (id:=2) (o:=bxE eX2) (ft:=[2]) rfl k
 have dj1:disjAll [(0,1),(0,7),(1,7),(2,7)] [(idsOf (.ptr 0 0 0 1),[]),([],[]),([],[]),([],[]),([],[]),([],[]),([],[]),([],[1]),([0],[0]),([1],[1]),([],[])]=true:=rfl
 have dj2:disjAll [(0,1),(0,7),(1,7),(2,7)] [(idsOf (.ptr 0 0 0 1),[]),([],[]),([],[]),([],[]),([],[]),([],[]),([],[]),([],[2]),([0],[0]),([2],[2]),([],[])]=true:=rfl
 obtain ⟨H3,hH3⟩:∃H3:Hp,H3=[bxO b2 oX2,bxE eX1,bxE eX2]:=⟨_,rfl⟩
 rw [← hH3] at d6
 have x3:∀k:AV→Hp→Option AV,effK (boxE 3 (.agg zI) H3.length) H3 k=k (.ptr 3 0 0 1) (H3++[.arr 3 [zI] true false]):=fun k=>by rw [hH3];rfl
 obtain ⟨H4,hH4⟩:∃H4:Hp,H4=H3++[bxI true true iX0]:=⟨_,rfl⟩
 have s3:∀k:AV→Hp→Option AV,effK (stE 3 (.ptr 3 0 0 1) (ib true true iX0) (H3++[.arr 3 [zI] true false])) (H3++[.arr 3 [zI] true false]) k=k .u H4:=fun k=>by
  rw [hH4,hH3];exact Z0a (v := .u) (id:=3) (o:=bxI true true iX0) (ft:=[3]) rfl k
 have w0:IntKind.i64.wrap (0+0)=0:=by kernel_rfl
 have l40:∀k:Go.AM.K AV,ldK 3 true (.ptr 0 0 0 1) H4 k=k (ob b2 oX2):=fun k=>ldO (p:=0) (by rw [hH4,hH3];rfl) k
 have l43:∀k:Go.AM.K AV,ldK 3 true (.ptr 3 0 0 1) H4 k=k (ib true true iX0):=fun k=>ldI3 (p:=3) (by rw [hH4,hH3];rfl) k
 obtain ⟨b3,c1,c2,fX⟩:=Zh7 b2 oX2 true true iX0 3 2 (by decide) (by decide) (by decide) (by decide) (by decide) H4
 rw [exX1] at fX
 replace fX:Z30 [ob b2 oX2,ib true true iX0, .s (.int .u64 3), .s (.int .u64 2)] H4=some (.tup [ob b3 oX3,ib c1 c2 iX2,I 0],H4):=fX
 have x4:∀k:AV→Hp→Option AV,effK (boxE 3 (.agg zO) H4.length) H4 k=k (.ptr 4 0 0 1) (H4++[.arr 3 [zO] true false]):=fun k=>by rw [hH4,hH3];rfl
 have x5:∀k:AV→Hp→Option AV,effK (boxE 3 (.agg zI) (H4++[AObj.arr 3 [zO] true false]).length) (H4++[.arr 3 [zO] true false]) k=k (.ptr 5 0 0 1) (H4++[.arr 3 [zO] true false, .arr 3 [zI] true false]):=fun k=>by rw [hH4,hH3];rfl
 have s4:∀k:AV→Hp→Option AV,effK (stE 3 (.ptr 4 0 0 1) (ob b3 oX3) (H4++[.arr 3 [zO] true false, .arr 3 [zI] true false])) (H4++[.arr 3 [zO] true false, .arr 3 [zI] true false]) k=k .u (H4++[bxO b3 oX3, .arr 3 [zI] true false]):=fun k=>by
  rw [hH4,hH3];exact Z0a (v := .u) (id:=4) (o:=bxO b3 oX3) (ft:=[4]) rfl k
 obtain ⟨H6,hH6⟩:∃H6:Hp,H6=H4++[bxO b3 oX3,bxI c1 c2 iX2]:=⟨_,rfl⟩
 have s5:∀k:AV→Hp→Option AV,effK (stE 3 (.ptr 5 0 0 1) (ib c1 c2 iX2) (H4++[bxO b3 oX3, .arr 3 [zI] true false])) (H4++[bxO b3 oX3, .arr 3 [zI] true false]) k=k .u H6:=fun k=>by
  rw [hH6,hH4,hH3];exact Z0a (v := .u) (id:=5) (o:=bxI c1 c2 iX2) (ft:=[5]) rfl k
 have l64:∀k:Go.AM.K AV,ldK 3 true (.ptr 4 0 0 1) H6 k=k (ob b3 oX3):=fun k=>ldO (p:=4) (by rw [hH6,hH4,hH3];rfl) k
 have l65:∀k:Go.AM.K AV,ldK 3 true (.ptr 5 0 0 1) H6 k=k (ib c1 c2 iX2):=fun k=>ldI3 (p:=5) (by rw [hH6,hH4,hH3];rfl) k
 obtain ⟨b4,c3,c4,fY⟩:=Zh7 b3 oX3 c1 c2 iX2 1 1 (by decide) (by decide) (by decide) (by decide) (by decide) H6
 rw [exX2] at fY
 replace fY:Z30 [ob b3 oX3,ib c1 c2 iX2, .s (.int .u64 1), .s (.int .u64 1)] H6=some (.tup [ob b4 oX4,ib c3 c4 iX2,I 0],H6):=fY
 have x6:∀k:AV→Hp→Option AV,effK (boxE 3 (.agg zO) H6.length) H6 k=k (.ptr 6 0 0 1) (H6++[.arr 3 [zO] true false]):=fun k=>by rw [hH6,hH4,hH3];rfl
 have x7:∀k:AV→Hp→Option AV,effK (boxE 3 (.agg zI) (H6++[AObj.arr 3 [zO] true false]).length) (H6++[.arr 3 [zO] true false]) k=k (.ptr 7 0 0 1) (H6++[.arr 3 [zO] true false, .arr 3 [zI] true false]):=fun k=>by rw [hH6,hH4,hH3];rfl
 have s6:∀k:AV→Hp→Option AV,effK (stE 3 (.ptr 6 0 0 1) (ob b4 oX4) (H6++[.arr 3 [zO] true false, .arr 3 [zI] true false])) (H6++[.arr 3 [zO] true false, .arr 3 [zI] true false]) k=k .u (H6++[bxO b4 oX4, .arr 3 [zI] true false]):=fun k=>by
  rw [hH6,hH4,hH3];exact Z0a (v := .u) (id:=6) (o:=bxO b4 oX4) (ft:=[6]) rfl k
 obtain ⟨H8,hH8⟩:∃H8:Hp,H8=H6++[bxO b4 oX4,bxI c3 c4 iX2]:=⟨_,rfl⟩
 have s7:∀k:AV→Hp→Option AV,effK (stE 3 (.ptr 7 0 0 1) (ib c3 c4 iX2) (H6++[bxO b4 oX4, .arr 3 [zI] true false])) (H6++[bxO b4 oX4, .arr 3 [zI] true false]) k=k .u H8:=fun k=>by
  rw [hH8,hH6,hH4,hH3];exact Z0a (v := .u) (id:=7) (o:=bxI c3 c4 iX2) (ft:=[7]) rfl k
 have e4:H8[4]? = some (bxO b3 oX3):=by rw [hH8,hH6,hH4,hH3];rfl
 have e5:H8[5]? = some (bxI c1 c2 iX2):=by rw [hH8,hH6,hH4,hH3];rfl
 have e6:H8[6]? = some (bxO b4 oX4):=by rw [hH8,hH6,hH4,hH3];rfl
 have e7:H8[7]? = some (bxI c3 c4 iX2):=by rw [hH8,hH6,hH4,hH3];rfl
 have q42:∀k:Go.AM.K AV,ldK 1 false (.ptr 4 0 2 1) H8 k=k (SL 10 encV b3 [eX1]):=fun k=>by rw [Z00,e4];rfl
 have q52:∀k:Go.AM.K AV,ldK 1 false (.ptr 5 0 2 1) H8 k=k (SL 7 encM c2 [mX1,mX2]):=fun k=>by rw [Z00,e5];rfl
 have q62:∀k:Go.AM.K AV,ldK 1 false (.ptr 6 0 2 1) H8 k=k (SL 10 encV b4 []):=fun k=>by rw [Z00,e6];rfl
 have q51:∀k:Go.AM.K AV,ldK 1 false (.ptr 5 0 1 1) H8 k=k (SL 2 encH c1 [⟨1,1⟩,⟨1,2⟩]):=fun k=>by rw [Z00,e5];rfl
 have q71:∀k:Go.AM.K AV,ldK 1 false (.ptr 7 0 1 1) H8 k=k (SL 2 encH c3 [⟨1,1⟩,⟨1,2⟩]):=fun k=>by rw [Z00,e7];rfl
 have q5:∀k:Go.AM.K AV,ldK 3 true (.ptr 5 0 0 1) H8 k=k (ib c1 c2 iX2):=fun k=>ldI3 e5 k
 have q7:∀k:Go.AM.K AV,ldK 3 true (.ptr 7 0 0 1) H8 k=k (ib c3 c4 iX2):=fun k=>ldI3 e7 k
 have ln1:∀k:Go.AM.K AV,lenK (SL 10 encV b3 [eX1]) k=k (I 1):=fun k=>rfl
 have ln2:∀k:Go.AM.K AV,lenK (SL 7 encM c2 [mX1,mX2]) k=k (I 2):=fun k=>rfl
 have ln3:∀k:Go.AM.K AV,lenK (SL 10 encV b4 []) k=k (I 0):=fun k=>rfl
 have fA:=Zu6 c1 c2 c3 c4 iX2 iX2 (by decide) (by decide) (by decide) (by decide) H8
 rw [show agreesI iX2 iX2=true by unfold agreesI;rw [cX2];simp] at fA
 have fE:=Zu8 [⟨1,1⟩,⟨1,2⟩] [⟨1,1⟩,⟨1,2⟩] (c1&&false) (c3&&false) (by decide) (fun x y h k=>by rw [ZcC,Bool.true_xor]) H8
 replace fE:Z5U [SL 2 encH c1 [⟨1,1⟩,⟨1,2⟩],SL 2 encH c3 [⟨1,1⟩,⟨1,2⟩]] H8=some (B true,H8):=fE
 have fC:=Z7R c3 c4 iX2 (by decide) (by decide) H8
 rw [cX2] at fC
 simp -implicitDefEqProofs only [Z8g,ZrF,Z03,n1,tq0,tq1,x0,s0,l0,Zrz,Zry,Z1i,gm1,Z4p,gs1,tp0,tp1,tp2,d1,d2,d3,dj1,cond_true,l1,gm2,gs2,d4,d5,d6,dj2,ZrB,n2,x3,s3,Z0I,w0,Z07,beq_self_eq_true,Bool.true_xor,Bool.not_true,Z01,Bool.false_eq_true,if_false,l40,l43,ZrE,fX,x4,x5,s4,s5,l64,l65,fY,x6,x7,s6,s7,Z0c,Nat.zero_add,q42,ln1,Bool.false_xor,Z4r,q52,ln2,q62,ln3,q5,q7,ZrD,fA,q51,q71,ZrG,fE,ZrC,fC]
 rfl
end Go.AM


namespace Go.AM
open Go.Proofs
set_option linter.unusedVariables false
set_option linter.unusedSimpArgs false
set_option linter.constructorNameAsVariable false
set_option maxRecDepth 20000
attribute [local congr] Z0d Z0e Z0f Z0g Z0h Z0i Z0j Z0k Z0l Z0m Z0n Z0o Z0p Z0q Z0r Z0s Z0t Z0u Z0v Z0w Z0x Z0y Z0z Z0A Z0B Z0C Z0D
end Go.AM


namespace Go.AM
open Go.Proofs
set_option linter.unusedVariables false
set_option linter.unusedSimpArgs false
set_option linter.constructorNameAsVariable false
set_option maxRecDepth 20000
attribute [local congr] Z0d Z0e Z0f Z0g Z0h Z0i Z0j Z0k Z0l Z0m Z0n Z0o Z0p Z0q Z0r Z0s Z0t Z0u Z0v Z0w Z0x Z0y Z0z Z0A Z0B Z0C Z0D
structure Fol where
 d:Docu
 en:Bool
 an:Int
 cnt:List ((Int × Int) × Int)
def cntP (c:List ((Int × Int) × Int)) (p:Int × Int):Int:=((fndT c p).map (·.2)).getD 0
def bumpP (c:List ((Int × Int) × Int)) (p:Int × Int):List ((Int × Int) × Int):=updT c p (IntKind.i64.wrap (cntP c p+1))
def stepF (mv:Int) (s:Fol) (m:Msg):Fol:=
 if m.mv≠mv then s
 else if m.kind=1 then { s with d:={ s.d with stage:=1,frm:=m.frm,to:=m.to,sent:=m.alc },cnt:=bumpP s.cnt (m.kind,m.num) }
 else if m.kind=2 then { s with d:={ s.d with to:=m.to,chg:=IntKind.i64.wrap (s.d.chg+1) },cnt:=bumpP s.cnt (m.kind,m.num) }
 else if m.kind=3 then { s with d:={ s.d with got:=m.alc },an:=2,cnt:=bumpP s.cnt (m.kind,m.num) }
 else if m.kind=4 then { s with an:=3,cnt:=bumpP s.cnt (3,m.num) }
 else if m.kind=5 then { s with en:=true }
 else { s with cnt:=bumpP s.cnt (m.kind,m.num) }
def begF (mv:Int):Fol:=⟨⟨mv,0,0,0,0,0,0⟩,false,0,[]⟩
def folF (mv:Int) (l:List Msg):Fol:=l.foldl (stepF mv) (begF mv)
def noneD (mv:Int):Docu:=⟨mv,0,0,0,0,0,0⟩
abbrev fI:Int→AV:=fun n => .s (.int .i64 n)
section
variable {β:Type}
theorem get3 {o0 o1 o2 x:AObj} {g t:Hp}:(o0::o1::o2::(g++x::t))[g.length+3]? = some x:=by
 simp [List.getElem?_append_right]
theorem get4 {o0 o1 o2 x y:AObj} {g t:Hp}:(o0::o1::o2::(g++x::y::t))[g.length+4]? = some y:=by
 simp [List.getElem?_append_right]
variable {o0 o1 o2:AObj} {g t:Hp} {m:Msg}
theorem lq (j:Nat) (k:Go.AM.K β) {x:AV} (hx:(encM m)[j]? = some x):ldK 1 false (.ptr (g.length+3) 0 j 1) (o0::o1::o2::(g ++ .arr 7 [encM m] true false::t)) k=k x:=by
 rw [Z00,get3]
 simp [hx]
theorem lq4 (k:Go.AM.K β):ldK 1 false (.ptr (g.length+3) 0 4 1) (o0::o1::o2::(g ++ .arr 7 [encM m] true false::t)) k=k (I m.frm):=lq 4 k rfl
theorem lw2 {x:AObj} {a b:AV} (k:Go.AM.K β):ldK 2 true (.ptr (g.length+4) 0 0 1) (o0::o1::o2::(g++[x, .arr 2 [[a,b]] true false])) k=k (.agg [a,b]):=by
 rw [Z00,get4]
 simp
end
end Go.AM


namespace Go.AM
open Go.Proofs
set_option linter.unusedVariables false
set_option linter.unusedSimpArgs false
set_option linter.constructorNameAsVariable false
set_option maxRecDepth 20000
def ofk (mv k:Int) (l:List Msg):List Msg:=l.filter fun m=>m.mv==mv&&m.kind==k
theorem Z02 (mv k:Int) (l:List Msg) (m:Msg):ofk mv k (l++[m])=if m.mv=mv∧m.kind=k then ofk mv k l++[m] else ofk mv k l:=by
 unfold ofk
 rw [List.filter_append]
 by_cases h:m.mv=mv∧m.kind=k
 ·simp [h]
 ·rw [if_neg h]
  have:(m.mv==mv&&m.kind==k)=false:=by
   rw [Bool.eq_false_iff];intro q;simp at q;exact h q
  simp [this]
theorem ZaX {mv k:Int} {l:List Msg} {m:Msg}:m ∈ ofk mv k l↔m ∈ l∧m.mv=mv∧m.kind=k:=by unfold ofk;simp
theorem Zha {m:Msg} (h:checkM m=0):1≤m.kind∧m.kind≤5∧1≤m.mv∧m.mv≤1073741824∧formM m=true:=by
 unfold checkM at h
 split at h
 ·simp at h
 ·rename_i hr
  split at h
  ·rename_i hf
   simp [rangeM] at hr
   exact ⟨by omega,by omega,by omega,by omega,hf⟩
  ·simp at h
theorem ZaY {a b:Msg} (h:ltM a b=true):a.mv≤b.mv∧(a.mv=b.mv→a.kind≤b.kind∧(a.kind=b.kind→a.num≤b.num)):=by
 unfold ltM cellsM at h
 simp only [ZbV,Bool.or_eq_true,Bool.and_eq_true,decide_eq_true_eq] at h
 omega
def partM (m:Msg):Option (Int × Int):=if m.kind=5 then none else if m.kind=4 then some (3,m.num) else some (m.kind,m.num)
abbrev keysD {α:Type} (c:List ((Int × Int) × α)):Prop:=c.Pairwise fun a b=>a.1≠b.1
theorem Zhb {α:Type}:∀ {c:List ((Int × Int) × α)} {p:Int × Int} {x:α} {e:(Int × Int) × α},e ∈ updT c p x→e=(p,x)∨e ∈ c
 | [],p,x,e,h=>by simp [updT] at h;exact .inl h
 | (q,y)::c,p,x,e,h=>by
  simp only [updT] at h
  split at h
  ·rcases List.mem_cons.1 h with h | h
   ·exact .inl h
   ·exact .inr (by simp [h])
  ·rcases List.mem_cons.1 h with h | h
   ·exact .inr (by simp [h])
   ·rcases Zhb h with h | h
    ·exact .inl h
    ·exact .inr (by simp [h])
theorem Zhc {α:Type}:∀ {c:List ((Int × Int) × α)} (p:Int × Int) (x:α),keysD c→keysD (updT c p x)
 | [],p,x,h=>by simp [updT]
 | (q,y)::c,p,x,h=>by
  rw [keysD,List.pairwise_cons] at h
  simp only [updT]
  split
  ·rename_i e
   subst e
   rw [keysD,List.pairwise_cons]
   exact h
  ·rename_i e
   rw [keysD,List.pairwise_cons]
   refine ⟨fun z hz => ?_,Zhc p x h.2⟩
   rcases Zhb hz with rfl | hz
   ·exact fun q=>e q.symm
   ·exact h.1 z hz
theorem Zua (c:List ((Int × Int) × Int)) (p q:Int × Int):cntP (bumpP c p) q=if q=p then IntKind.i64.wrap (cntP c p+1) else cntP c q:=by
 unfold cntP bumpP
 rw [ZgJ]
 split<;>rfl
structure InF (mv:Int) (l:List Msg) (s:Fol):Prop where
 mve:s.d.mv=mv
 stage:s.d.stage=if ofk mv 1 l=[] then 0 else 1
 frm:s.d.frm=(((ofk mv 1 l).getLast?).map (·.frm)).getD 0
 sent:s.d.sent=(((ofk mv 1 l).getLast?).map (·.alc)).getD 0
 to:s.d.to=match (ofk mv 2 l).getLast? with | some c=>c.to | none=>(((ofk mv 1 l).getLast?).map (·.to)).getD 0
 got:s.d.got=(((ofk mv 3 l).getLast?).map (·.alc)).getD 0
 chg:s.d.chg=(ofk mv 2 l).length
 en:s.en = !(ofk mv 5 l).isEmpty
 an:s.an=if ofk mv 4 l≠[] then 3 else if ofk mv 3 l≠[] then 2 else 0
 cnt:∀p,cntP s.cnt p=(l.countP fun m=>m.mv==mv&&partM m==some p:Nat)
 keys:keysD s.cnt
theorem ZaZ (mv k:Int) (l:List Msg):(ofk mv k l).length≤l.length:=List.length_filter_le _ _
theorem InF.step {mv:Int} {l:List Msg} {s:Fol} {m:Msg} (H:InF mv l s) (hs:Srt (l++[m])) (hm:checkM m=0) (hl:l.length<1000000):InF mv (l++[m]) (stepF mv s m):=by
 obtain ⟨k0,k5, -⟩:=Zha hm
 have hlt:∀x ∈ l,ltM x m=true:=fun x hx=>by
  rw [Srt,List.pairwise_append] at hs
  exact hs.2.2 x hx m (by simp)
 by_cases hmv:m.mv=mv
 ·have noK:∀k,m.kind<k→ofk mv k l=[]:=fun k hk=>by
   rw [List.eq_nil_iff_forall_not_mem]
   intro x hx
   obtain ⟨h1,h2,h3⟩:=ZaX.1 hx
   have:=ZaY (hlt x h1)
   have h4:=this.2 (by omega)
   omega
  have wr:IntKind.i64.wrap (((ofk mv 2 l).length:Int)+1)=(((ofk mv 2 l).length+1:Nat):Int):=by
   have:=ZaZ mv 2 l
   rw [wrap64 (by omega) (by omega)];rfl
  have cn:∀(p q:Int × Int) (b:Bool),((partM m==some q)=b)→cntP s.cnt q=(l.countP fun m=>m.mv==mv&&partM m==some q:Nat)→(((l++[m]).countP fun m=>m.mv==mv&&partM m==some q:Nat):Int)=cntP s.cnt q+if b=true then 1 else 0:=by
   intro p q b hb hc
   rw [List.countP_append,hc]
   simp [hmv,hb]
   cases b<;>rfl
  have wc:∀q,IntKind.i64.wrap (cntP s.cnt q+1)=cntP s.cnt q+1:=fun q=>by
   have h1:=H.cnt q
   have h2:=List.countP_le_length (p:=fun m:Msg=>m.mv==mv&&partM m==some q) (l:=l)
   rw [wrap64 (by omega) (by omega)]
  have cb:∀p,partM m=some p→∀q,cntP (bumpP s.cnt p) q=((l++[m]).countP fun m=>m.mv==mv&&partM m==some q:Nat):=fun p hp q=>by
   rw [Zua]
   by_cases e:q=p
   ·subst e
    rw [if_pos rfl,wc,cn q q true (by simp [hp]) (H.cnt q)];simp
   ·rw [if_neg e,cn p q false (by simp [hp];exact fun h=>e h.symm) (H.cnt q)];simp
  have kb:∀p,keysD (bumpP s.cnt p):=fun p=>Zhc p _ H.keys
  have hk:m.kind=1∨m.kind=2∨m.kind=3∨m.kind=4∨m.kind=5:=by omega
  rcases hk with k | k | k | k | k
  ·have e2:=noK 2 (by omega)
   have st:stepF mv s m={ s with d:={ s.d with stage:=1,frm:=m.frm,to:=m.to,sent:=m.alc },cnt:=bumpP s.cnt (m.kind,m.num) }:=by simp [stepF,hmv,k]
   rw [st]
   exact ⟨H.mve,by simp [Z02,hmv,k],by simp [Z02,hmv,k],by simp [Z02,hmv,k],by simp [Z02,hmv,k,e2],by simp [Z02,hmv,k,H.got],by simp [Z02,hmv,k,H.chg],by simp [Z02,hmv,k,H.en],by simp [Z02,hmv,k,H.an],cb _ (by simp [partM,k]),kb _⟩
  ·have st:stepF mv s m={ s with d:={ s.d with to:=m.to,chg:=IntKind.i64.wrap (s.d.chg+1) },cnt:=bumpP s.cnt (m.kind,m.num) }:=by simp [stepF,hmv,k]
   rw [st]
   exact ⟨H.mve,by simp [Z02,hmv,k,H.stage],by simp [Z02,hmv,k,H.frm],by simp [Z02,hmv,k,H.sent],by simp [Z02,hmv,k],by simp [Z02,hmv,k,H.got],by simp [Z02,hmv,k,H.chg,wr],by simp [Z02,hmv,k,H.en],by simp [Z02,hmv,k,H.an],cb _ (by simp [partM,k]),kb _⟩
  ·have e4:=noK 4 (by omega)
   have st:stepF mv s m={ s with d:={ s.d with got:=m.alc },an:=2,cnt:=bumpP s.cnt (m.kind,m.num) }:=by simp [stepF,hmv,k]
   rw [st]
   exact ⟨H.mve,by simp [Z02,hmv,k,H.stage],by simp [Z02,hmv,k,H.frm],by simp [Z02,hmv,k,H.sent],by simp [Z02,hmv,k,H.to],by simp [Z02,hmv,k],by simp [Z02,hmv,k,H.chg],by simp [Z02,hmv,k,H.en],by simp [Z02,hmv,k,e4],cb _ (by simp [partM,k]),kb _⟩
  ·have st:stepF mv s m={ s with an:=3,cnt:=bumpP s.cnt (3,m.num) }:=by simp [stepF,hmv,k]
   rw [st]
   exact ⟨H.mve,by simp [Z02,hmv,k,H.stage],by simp [Z02,hmv,k,H.frm],by simp [Z02,hmv,k,H.sent],by simp [Z02,hmv,k,H.to],by simp [Z02,hmv,k,H.got],by simp [Z02,hmv,k,H.chg],by simp [Z02,hmv,k,H.en],by simp [Z02,hmv,k],cb _ (by simp [partM,k]),kb _⟩
  ·have st:stepF mv s m={ s with en:=true }:=by simp [stepF,hmv,k]
   rw [st]
   exact ⟨H.mve,by simp [Z02,hmv,k,H.stage],by simp [Z02,hmv,k,H.frm],by simp [Z02,hmv,k,H.sent],by simp [Z02,hmv,k,H.to],by simp [Z02,hmv,k,H.got],by simp [Z02,hmv,k,H.chg],by simp [Z02,hmv,k],by simp [Z02,hmv,k,H.an],fun q=>by rw [cn q q false (by simp [partM,k]) (H.cnt q)];simp,H.keys⟩
 ·have st:stepF mv s m=s:=by simp [stepF,hmv]
  have ek:∀k,ofk mv k (l++[m])=ofk mv k l:=fun k=>by rw [Z02,if_neg (by simp [hmv])]
  rw [st]
  exact ⟨H.mve,by rw [ek];exact H.stage,by rw [ek];exact H.frm,by rw [ek];exact H.sent,by rw [ek,ek];exact H.to,by rw [ek];exact H.got,by rw [ek];exact H.chg,by rw [ek];exact H.en,by rw [ek,ek];exact H.an,fun p=>by rw [List.countP_append,H.cnt p];simp [hmv],H.keys⟩
theorem InF.beg (mv:Int):InF mv [] (begF mv):=⟨rfl,rfl,rfl,rfl,rfl,rfl,rfl,rfl,rfl,fun p=>rfl, .nil⟩
theorem InF.all {mv:Int} {l:List Msg} (hs:Srt l) (hv:∀m ∈ l,checkM m=0) (hl:l.length<1000000):∀i,i≤l.length→InF mv (l.take i) (folF mv (l.take i))
 | 0,_=>by rw [List.take_zero];exact InF.beg mv
 | i+1,hi=>by
  have ih:=InF.all (mv:=mv) hs hv hl i (by omega)
  have hx:l[i]? = some l[i]:=List.getElem?_eq_getElem (by omega)
  have ht:=ZaO hx
  have:folF mv (l.take (i+1))=stepF mv (folF mv (l.take i)) l[i]:=by
   unfold folF;rw [ht,List.foldl_append];rfl
  rw [this,ht]
  refine ih.step ?_ (hv _ (List.getElem_mem _)) (by simp;omega)
  rw [← ht]
  exact hs.sublist (List.take_sublist _ _)
end Go.AM


namespace Go.AM
open Go.Proofs
set_option linter.unusedVariables false
set_option linter.unusedSimpArgs false
set_option linter.constructorNameAsVariable false
set_option maxRecDepth 20000
attribute [local congr] Z0d Z0e Z0f Z0g Z0h Z0i Z0j Z0k Z0l Z0m Z0n Z0o Z0p Z0q Z0r Z0s Z0t Z0u Z0v Z0w Z0x Z0y Z0z Z0A Z0B Z0C Z0D
structure Frs where
 d:Docu
 dis:Int
 ans:Int
 en:Int
 cf:Bool
 rf:Bool
def stepR (mv:Int) (p:Msg) (s:Frs) (m:Msg):Frs:=
 if m.mv≠mv then s
 else if m.kind=1 then { s with d:={ s.d with frm:=m.frm,to:=m.to,sent:=m.alc },dis:=IntKind.i64.wrap (s.dis+1) }
 else if m.kind=2 then { s with d:={ s.d with to:=m.to,chg:=IntKind.i64.wrap (s.d.chg+1) },cf:=s.cf||(p.mv==mv&&p.kind==m.kind&&p.num==m.num) }
 else if m.kind=3 then { s with d:={ s.d with got:=m.alc },ans:=IntKind.i64.wrap (s.ans+1) }
 else if m.kind=4 then { s with ans:=IntKind.i64.wrap (s.ans+1),rf:=true }
 else { s with en:=IntKind.i64.wrap (s.en+1) }
def foldR (mv:Int):Msg→Frs→List Msg→Frs
 | _,s,[]=>s
 | p,s,m::l=>foldR mv m (stepR mv p s m) l
def begR (mv:Int):Frs:=⟨noneD mv,0,0,0,false,false⟩
def zeroM:Msg:=⟨0,0,0,0,0,0,0⟩
section
variable {β:Type}
variable {o0 o1:AObj} {g t:Hp} {m:Msg}
end
end Go.AM


namespace Go.AM
open Go.Proofs
set_option linter.unusedVariables false
set_option linter.unusedSimpArgs false
set_option linter.constructorNameAsVariable false
set_option maxRecDepth 20000
structure InR (mv:Int) (l:List Msg) (s:Frs):Prop where
 mve:s.d.mv=mv
 stage:s.d.stage=0
 frm:s.d.frm=(((ofk mv 1 l).getLast?).map (·.frm)).getD 0
 sent:s.d.sent=(((ofk mv 1 l).getLast?).map (·.alc)).getD 0
 to:s.d.to=match (ofk mv 2 l).getLast? with | some c=>c.to | none=>(((ofk mv 1 l).getLast?).map (·.to)).getD 0
 got:s.d.got=(((ofk mv 3 l).getLast?).map (·.alc)).getD 0
 chg:s.d.chg=(ofk mv 2 l).length
 dis:s.dis=(ofk mv 1 l).length
 ans:s.ans=((ofk mv 3 l).length+(ofk mv 4 l).length:Nat)
 en:s.en=(ofk mv 5 l).length
 rf:s.rf = !(ofk mv 4 l).isEmpty
 cf:s.cf=decide (¬((ofk mv 2 l).map (·.num)).Nodup)
theorem Zub {l:List Msg} {m p x:Msg} (hs:Srt (l++[m])) (hp:(zeroM::l).getLast? = some p) (hx:x ∈ l):p ∈ l∧(x=p∨ltM x p=true):=by
 rcases List.eq_nil_or_concat l with rfl | ⟨l',q,rfl⟩
 ·simp at hx
 ·rw [List.concat_eq_append] at *
  have:p=q:=by rw [← List.cons_append,List.getLast?_append] at hp;simpa using hp.symm
  subst this
  refine ⟨by simp, ?_⟩
  rcases List.mem_append.1 hx with hx | hx
  ·right
   rw [Srt,List.append_assoc,List.pairwise_append] at hs
   exact hs.2.2 x hx p (by simp)
  ·simp at hx;exact .inl hx
theorem InR.step {mv:Int} {l:List Msg} {s:Frs} {m p:Msg} (H:InR mv l s) (hs:Srt (l++[m])) (hm:checkM m=0) (hp:(zeroM::l).getLast? = some p) (h0:mv≠0) (hl:l.length<1000000):InR mv (l++[m]) (stepR mv p s m):=by
 obtain ⟨k0,k5, -⟩:=Zha hm
 have hlt:∀x ∈ l,ltM x m=true:=fun x hx=>by
  rw [Srt,List.pairwise_append] at hs
  exact hs.2.2 x hx m (by simp)
 by_cases hmv:m.mv=mv
 ·have noK:∀k,m.kind<k→ofk mv k l=[]:=fun k hk=>by
   rw [List.eq_nil_iff_forall_not_mem]
   intro x hx
   obtain ⟨h1,h2,h3⟩:=ZaX.1 hx
   have:=ZaY (hlt x h1)
   have h4:=this.2 (by omega)
   omega
  have wr:∀k,IntKind.i64.wrap (((ofk mv k l).length:Int)+1)=((ofk mv k l).length:Int)+1:=fun k=>by
   have:=ZaZ mv k l
   rw [wrap64 (by omega) (by omega)]
  have wa:IntKind.i64.wrap (((((ofk mv 3 l).length+(ofk mv 4 l).length:Nat)):Int)+1)=((((ofk mv 3 l).length+(ofk mv 4 l).length:Nat)):Int)+1:=by
   have h3:=ZaZ mv 3 l
   have h4:=ZaZ mv 4 l
   rw [wrap64 (by omega) (by omega)]
  have hk:m.kind=1∨m.kind=2∨m.kind=3∨m.kind=4∨m.kind=5:=by omega
  rcases hk with k | k | k | k | k
  ·have e2:=noK 2 (by omega)
   have st:stepR mv p s m={ s with d:={ s.d with frm:=m.frm,to:=m.to,sent:=m.alc },dis:=IntKind.i64.wrap (s.dis+1) }:=by simp [stepR,hmv,k]
   rw [st]
   exact ⟨H.mve,H.stage,by simp [Z02,hmv,k],by simp [Z02,hmv,k],by simp [Z02,hmv,k,e2],by simp [Z02,hmv,k,H.got],by simp [Z02,hmv,k,H.chg],by simp [Z02,hmv,k,H.dis,wr],by simp [Z02,hmv,k,H.ans],by simp [Z02,hmv,k,H.en],by simp [Z02,hmv,k,H.rf],by simp [Z02,hmv,k,H.cf]⟩
  ·have st:stepR mv p s m={ s with d:={ s.d with to:=m.to,chg:=IntKind.i64.wrap (s.d.chg+1) },cf:=s.cf||(p.mv==mv&&p.kind==m.kind&&p.num==m.num) }:=by simp [stepR,hmv,k]
   rw [st]
   refine ⟨H.mve,H.stage,by simp [Z02,hmv,k,H.frm],by simp [Z02,hmv,k,H.sent],by simp [Z02,hmv,k],by simp [Z02,hmv,k,H.got],by simp [Z02,hmv,k,H.chg,wr],by simp [Z02,hmv,k,H.dis],by simp [Z02,hmv,k,H.ans],by simp [Z02,hmv,k,H.en],by simp [Z02,hmv,k,H.rf], ?_⟩
   rw [Z02,if_pos ⟨hmv,k⟩,List.map_append,H.cf]
   rw [Bool.eq_iff_iff]
   simp only [Bool.or_eq_true,Bool.and_eq_true,beq_iff_eq,decide_eq_true_eq]
   rw [List.nodup_append]
   have key:(p.mv=mv∧p.kind=m.kind)∧p.num=m.num↔∃x ∈ ofk mv 2 l,x.num=m.num:=by
    constructor
    ·rintro ⟨⟨h1,h2⟩,h3⟩
     have hpl:p ∈ l:=by
      rcases List.eq_nil_or_concat l with rfl | ⟨l',q,rfl⟩
      ·simp at hp;subst hp;exact absurd h1.symm h0
      ·rw [List.concat_eq_append, ← List.cons_append,List.getLast?_append] at hp
       have:q=p:=by simpa using hp
       simp [this]
     exact ⟨p,ZaX.2 ⟨hpl,h1,by omega⟩,h3⟩
    ·rintro ⟨x,hx,h3⟩
     obtain ⟨h1,h2,h4⟩:=ZaX.1 hx
     obtain ⟨hpl,hxp⟩:=Zub hs hp h1
     rcases hxp with rfl | hxp
     ·exact ⟨⟨h2,by omega⟩,h3⟩
     ·have a1:=ZaY hxp
      have a2:=ZaY (hlt p hpl)
      omega
   constructor
   ·rintro (h | h)
    ·exact fun q=>h q.1
    ·obtain ⟨x,hx,hxn⟩:=key.1 h
     intro q
     exact q.2.2 x.num (List.mem_map.2 ⟨x,hx,rfl⟩) m.num (by simp) hxn
   ·intro h
    by_cases hn:((ofk mv 2 l).map (·.num)).Nodup
    ·right
     refine key.2 ?_
     rcases Classical.em (∃x ∈ ofk mv 2 l,x.num=m.num) with h2 | h2
     ·exact h2
     ·refine absurd ⟨hn,by simp, ?_⟩ h
      intro a ha b hb hab
      obtain ⟨x,hx,rfl⟩:=List.mem_map.1 ha
      simp at hb
      exact h2 ⟨x,hx,by rw [hab,hb]⟩
    ·exact .inl hn
  ·have st:stepR mv p s m={ s with d:={ s.d with got:=m.alc },ans:=IntKind.i64.wrap (s.ans+1) }:=by simp [stepR,hmv,k]
   rw [st]
   exact ⟨H.mve,H.stage,by simp [Z02,hmv,k,H.frm],by simp [Z02,hmv,k,H.sent],by simp [Z02,hmv,k,H.to],by simp [Z02,hmv,k],by simp [Z02,hmv,k,H.chg],by simp [Z02,hmv,k,H.dis],by rw [H.ans,wa,Z02,Z02,if_pos ⟨hmv,k⟩,if_neg (by omega),List.length_append];simp;omega,by simp [Z02,hmv,k,H.en],by simp [Z02,hmv,k,H.rf],by simp [Z02,hmv,k,H.cf]⟩
  ·have st:stepR mv p s m={ s with ans:=IntKind.i64.wrap (s.ans+1),rf:=true }:=by simp [stepR,hmv,k]
   rw [st]
   exact ⟨H.mve,H.stage,by simp [Z02,hmv,k,H.frm],by simp [Z02,hmv,k,H.sent],by simp [Z02,hmv,k,H.to],by simp [Z02,hmv,k,H.got],by simp [Z02,hmv,k,H.chg],by simp [Z02,hmv,k,H.dis],by rw [H.ans,wa,Z02,Z02,if_neg (by omega),if_pos ⟨hmv,k⟩,List.length_append];simp;omega,by simp [Z02,hmv,k,H.en],by simp [Z02,hmv,k],by simp [Z02,hmv,k,H.cf]⟩
  ·have st:stepR mv p s m={ s with en:=IntKind.i64.wrap (s.en+1) }:=by simp [stepR,hmv,k]
   rw [st]
   exact ⟨H.mve,H.stage,by simp [Z02,hmv,k,H.frm],by simp [Z02,hmv,k,H.sent],by simp [Z02,hmv,k,H.to],by simp [Z02,hmv,k,H.got],by simp [Z02,hmv,k,H.chg],by simp [Z02,hmv,k,H.dis],by simp [Z02,hmv,k,H.ans],by simp [Z02,hmv,k,H.en,wr],by simp [Z02,hmv,k,H.rf],by simp [Z02,hmv,k,H.cf]⟩
 ·have st:stepR mv p s m=s:=by simp [stepR,hmv]
  have ek:∀k,ofk mv k (l++[m])=ofk mv k l:=fun k=>by rw [Z02,if_neg (by simp [hmv])]
  rw [st]
  exact ⟨H.mve,H.stage,by rw [ek];exact H.frm,by rw [ek];exact H.sent,by rw [ek,ek];exact H.to,by rw [ek];exact H.got,by rw [ek];exact H.chg,by rw [ek];exact H.dis,by rw [ek,ek];exact H.ans,by rw [ek];exact H.en,by rw [ek];exact H.rf,by rw [ek];exact H.cf⟩
theorem InR.beg (mv:Int):InR mv [] (begR mv):=⟨rfl,rfl,rfl,rfl,rfl,rfl,rfl,rfl,rfl,rfl,rfl,rfl⟩
theorem InR.all {mv:Int} (h0:mv≠0):∀(post pre:List Msg) (p:Msg) (s:Frs),Srt (pre++post)→(∀m ∈ post,checkM m=0)→(pre++post).length<1000000→(zeroM::pre).getLast? = some p→InR mv pre s→InR mv (pre++post) (foldR mv p s post)
 | [],pre,p,s,_,_,_,_,H=>by simpa [foldR] using H
 | m::post,pre,p,s,hs,hv,hl,hp,H=>by
  have e:pre++m::post=(pre++[m])++post:=by simp
  rw [e] at hs hl ⊢
  refine InR.all h0 post (pre++[m]) m (stepR mv p s m) hs (fun x hx=>hv x (by simp [hx])) hl (by rw [← List.cons_append,List.getLast?_append];simp) (H.step ?_ (hv m (by simp)) hp h0 (by simp at hl;omega))
  exact hs.sublist (List.sublist_append_left _ _)
end Go.AM


namespace Go.AM
open Go.Proofs
set_option linter.unusedVariables false
set_option linter.unusedSimpArgs false
set_option linter.constructorNameAsVariable false
set_option maxRecDepth 20000
attribute [local congr] Z0d Z0e Z0f Z0g Z0h Z0i Z0j Z0k Z0l Z0m Z0n Z0o Z0p Z0q Z0r Z0s Z0t Z0u Z0v Z0w Z0x Z0y Z0z Z0A Z0B Z0C Z0D
theorem Zuc {T:Tab} {D:DTab} {N:Nat} {x0:Hp→Option AV} {xr:AV→Hp→Option AV} {a b:List Msg} {p q:Bool} {h:Hp} (hab:a.length=b.length) (hl:a.length<1000000) (hx:x0 h=xr (B true) h) (heq:∀(x y:Msg) (k:Go.AM.K AV),eqK Try.prog true 27 (.agg (encM x)) (.agg (encM y)) h k=k (B (!(x==y)))):∀(n i:Nat),i≤a.length→a.length<i+n→
  Z2v Try.prog T D N x0 xr n (.lst 7 p (a.map encM)) (.lst 7 q (b.map encM)) (I i) h=xr (B (decide (a.drop i=b.drop i))) h:=by
 intro n
 induction n with
 | zero=>intro i h1 h2;omega
 | succ n ih=>
  intro i h1 h2
  show Z6K Try.prog T D N (Z2v Try.prog T D N x0 xr n) x0 xr _ _ _ h=_
  rcases Nat.lt_or_ge i a.length with hi | hi
  ·have c1:((i:Int)<(a.length:Int)):=by omega
   have hw:IntKind.i64.wrap ((i:Int)+1)=((i+1:Nat):Int):=by rw [wrap64 (by omega) (by omega)];omega
   have ia:∀k:Go.AM.K AV,iaK 7 (.lst 7 p (a.map encM)) (I i) k=k (.ep (encM a[i]) 0):=fun k=>Z0Q i rfl (List.getElem?_eq_getElem hi) k
   have ib:∀k:Go.AM.K AV,iaK 7 (.lst 7 q (b.map encM)) (I i) k=k (.ep (encM (b[i]'(by omega))) 0):=fun k=>Z0Q i rfl (List.getElem?_eq_getElem (by omega)) k
   have ld:∀(x:Msg) (k:Go.AM.K AV),ldK 7 true (.ep (encM x) 0) h k=k (.agg (encM x)):=fun x k=>rfl
   rw [List.drop_eq_getElem_cons hi,List.drop_eq_getElem_cons (show i<b.length by omega)]
   simp -implicitDefEqProofs only [Z6K,Z0b,List.length_map,Z06,c1,decide_true,Z01,if_true,ia,ib,ld,heq,Z0I,hw,ih (i+1) (by omega) (by omega),List.cons.injEq,Bool.decide_and]
   by_cases e:a[i]=b[i]
   ·simp [e]
   ·simp [e]
  ·have:i=a.length:=by omega
   subst this
   have c1:¬((a.length:Int)<(a.length:Int)):=by omega
   simp -implicitDefEqProofs only [Z6K,Z0b,List.length_map,Z06,c1,decide_false,Z01,Bool.false_eq_true,if_false,hx]
   rw [List.drop_eq_nil_of_le (Nat.le_refl _),List.drop_eq_nil_of_le (by omega)]
   rfl
theorem Zud (a b:List Msg) (p q:Bool) (hl:a.length<1000000) (heq:∀(x y:Msg) (h:Hp) (k:Go.AM.K AV),eqK Try.prog true 27 (.agg (encM x)) (.agg (encM y)) h k=k (B (!(x==y)))) (h:Hp):Z61 [.lst 7 p (a.map encM), .lst 7 q (b.map encM)] h=some (B (decide (a=b)),h):=by
 refine ZrW rfl ?_ h
 simp only [nrm,nrmC]
 by_cases hab:a.length=b.length
 ·have e:((a.length:Int)==(b.length:Int))=true:=by simp [hab]
  have:=Zuc (T:=Z60) (D:=Z5Z) (N:=NN) (x0:=fun h=>Z8J Try.prog Z60 Z5Z NN (fun v g=>cvt false g v) h) (xr:=fun w13_4 h=>cvt false h w13_4) (a:=a) (b:=b) (p:=p) (q:=q) (h:=[]) hab hl rfl (fun x y k=>heq x y [] k) NN 0 (by omega) (by have:=NN_ge;omega)
  simp only [List.drop_zero] at this
  simp -implicitDefEqProofs only [Z58,Z0b,List.length_map,Z07,e,Bool.true_xor,Bool.not_true,Z01,Bool.false_eq_true,if_false]
  exact this
 ·have e:((a.length:Int)==(b.length:Int))=false:=by simp;omega
  have hne:a≠b:=fun h=>hab (by rw [h])
  simp [Z58,e,hne]
theorem Zue (a b:List Msg) (p q:Bool) (hl:a.length<1000000) (h:Hp):Z61 [.lst 7 p (a.map encM), .lst 7 q (b.map encM)] h=some (B (decide (a=b)),h):=Zud a b p q hl (fun x y h k=>by rw [Z66,Bool.true_xor]) h
section
variable {β:Type}
end
end Go.AM


namespace Go.AM
open Go.Proofs
set_option linter.unusedVariables false
set_option linter.unusedSimpArgs false
set_option linter.constructorNameAsVariable false
set_option maxRecDepth 20000
attribute [local congr] Z0d Z0e Z0f Z0g Z0h Z0i Z0j Z0k Z0l Z0m Z0n Z0o Z0p Z0q Z0r Z0s Z0t Z0u Z0v Z0w Z0x Z0y Z0z Z0A Z0B Z0C Z0D
end Go.AM


namespace Go.AM
open Go.Proofs
set_option linter.unusedVariables false
set_option linter.unusedSimpArgs false
set_option linter.constructorNameAsVariable false
set_option maxRecDepth 20000
attribute [local congr] Z0d Z0e Z0f Z0g Z0h Z0i Z0j Z0k Z0l Z0m Z0n Z0o Z0p Z0q Z0r Z0s Z0t Z0u Z0v Z0w Z0x Z0y Z0z Z0A Z0B Z0C Z0D
theorem Zuf {x0:AV→AV→Hp→Option AV} {xr:AV→Hp→Option AV} {X Y:Option AV} {a b:Inbx} {a1 a2 b1 b2:Bool} {H:Hp} (h0:H[0]? = some (bxI a1 a2 a)) (h1:H[1]? = some (bxI b1 b2 b)) (hl:a.heard.length<100000) (he:a.heard.length=b.heard.length) (hx:x0 (.ptr 0 0 0 1) (.ptr 1 0 0 1) H=X) (hr:xr (B false) H=Y):∀(n i:Nat),i≤a.heard.length→a.heard.length<i+n→
  Z2d Try.prog Z32 Z4O NN x0 xr n (.ptr 0 0 0 1) (.ptr 1 0 0 1) (I i) H=if a.heard.drop i=b.heard.drop i then X else Y:=by
 intro n
 induction n with
 | zero=>intro i h1 h2;omega
 | succ n ih=>
  intro i hi1 hi2
  show Z6y Try.prog Z32 Z4O NN (Z2d Try.prog Z32 Z4O NN x0 xr n) x0 xr _ _ _ H=_
  have la:∀k:Go.AM.K AV,ldK 1 false (.ptr 0 0 1 1) H k=k (SL 2 encH a1 a.heard):=fun k=>by rw [Z00,h0];rfl
  have lb:∀k:Go.AM.K AV,ldK 1 false (.ptr 1 0 1 1) H k=k (SL 2 encH b1 b.heard):=fun k=>by rw [Z00,h1];rfl
  rcases Nat.lt_or_ge i a.heard.length with hi | hi
  ·have hlt:((i:Int)<(a.heard.length:Int)):=by omega
   have hw:IntKind.i64.wrap ((i:Int)+1)=((i+1:Nat):Int):=by rw [wrap64 (by omega) (by omega)];omega
   have xa:a.heard[i]? = some a.heard[i]:=List.getElem?_eq_getElem hi
   have xb:b.heard[i]? = some b.heard[i]:=List.getElem?_eq_getElem (by omega)
   rw [List.drop_eq_getElem_cons hi,List.drop_eq_getElem_cons (by omega:i<b.heard.length)]
   have ih':=ih (i+1) hi (by omega)
   generalize a.heard[i]=x at xa
   generalize b.heard[i]=y at xb
   have ia:∀k:Go.AM.K AV,iaK 2 (SL 2 encH a1 a.heard) (I i) k=k (.ep (encH x) 0):=fun k=>Z0Q i rfl xa k
   have ib':∀k:Go.AM.K AV,iaK 2 (SL 2 encH b1 b.heard) (I i) k=k (.ep (encH y) 0):=fun k=>Z0Q i rfl xb k
   have lx:∀(z:Hrd) (k:Go.AM.K AV),ldK 2 true (.ep (encH z) 0) H k=k (.agg (encH z)):=fun z k=>rfl
   have ln:∀k:Go.AM.K AV,lenK (SL 2 encH a1 a.heard) k=k (I a.heard.length):=fun k=>by rw [SL,Z0b,List.length_map]
   simp -implicitDefEqProofs only [Z6y,Z0c,Nat.zero_add,la,ln,Z06,hlt,decide_true,Z01,if_true,lb,ia,ib',lx,ZcC,Bool.true_xor]
   by_cases q:x=y
   ·have e:(!(x==y))=false:=by simp [q]
    simp -implicitDefEqProofs only [e,Bool.false_eq_true,if_false,Z0I,hw]
    rw [ih']
    simp [q]
   ·have e:(!(x==y))=true:=by simp [q]
    have e2:¬(x::a.heard.drop (i+1)=y::b.heard.drop (i+1)):=by simp [q]
    rw [if_neg e2]
    simp -implicitDefEqProofs only [e,if_true,hr]
  ·have:i=a.heard.length:=by omega
   subst this
   have c1:¬((a.heard.length:Int)<(a.heard.length:Int)):=by omega
   have ln:∀k:Go.AM.K AV,lenK (SL 2 encH a1 a.heard) k=k (I a.heard.length):=fun k=>by rw [SL,Z0b,List.length_map]
   rw [List.drop_length,he,List.drop_length,if_pos rfl, ← he]
   simp -implicitDefEqProofs only [Z6y,Z0c,Nat.zero_add,la,ln,Z06,c1,decide_false,Z01,Bool.false_eq_true,if_false,hx]
theorem Zug (a1 a2 b1 b2:Bool) (a b:Inbx) (hl:a.heard.length<100000) (hm:a.msgs.length<100000) (h:Hp):Z7K [ib a1 a2 a,ib b1 b2 b] h=some (B (decide (a=b)),h):=by
 refine Zs3 (a0:=ib a1 a2 a) (a1:=ib b1 b2 b) rfl ?_ h
 rw [show nrm (.a [none,some 2,some 7]) (ib a1 a2 a)=ib a1 a2 a from rfl,show nrm (.a [none,some 2,some 7]) (ib b1 b2 b)=ib b1 b2 b from rfl]
 obtain ⟨H,hH⟩:∃H:Hp,H=[bxI a1 a2 a,bxI b1 b2 b]:=⟨_,rfl⟩
 have x0:∀k:AV→Hp→Option AV,effK (boxE 3 (ib a1 a2 a) ([]:Hp).length) [] k=k (.ptr 0 0 0 1) [bxI a1 a2 a]:=fun k=>rfl
 have x1:∀k:AV→Hp→Option AV,effK (boxE 3 (ib b1 b2 b) ([bxI a1 a2 a]:Hp).length) [bxI a1 a2 a] k=k (.ptr 1 0 0 1) H:=fun k=>by rw [hH];rfl
 have h0:H[0]? = some (bxI a1 a2 a):=by rw [hH];rfl
 have h1:H[1]? = some (bxI b1 b2 b):=by rw [hH];rfl
 have a0:∀k:Go.AM.K AV,ldK 1 false (.ptr 0 0 0 1) H k=k (I a.node):=fun k=>by rw [hH];rfl
 have b0:∀k:Go.AM.K AV,ldK 1 false (.ptr 1 0 0 1) H k=k (I b.node):=fun k=>by rw [hH];rfl
 have la:∀k:Go.AM.K AV,ldK 1 false (.ptr 0 0 1 1) H k=k (SL 2 encH a1 a.heard):=fun k=>by rw [hH];rfl
 have lb:∀k:Go.AM.K AV,ldK 1 false (.ptr 1 0 1 1) H k=k (SL 2 encH b1 b.heard):=fun k=>by rw [hH];rfl
 have ma:∀k:Go.AM.K AV,ldK 1 false (.ptr 0 0 2 1) H k=k (SL 7 encM a2 a.msgs):=fun k=>by rw [hH];rfl
 have mb:∀k:Go.AM.K AV,ldK 1 false (.ptr 1 0 2 1) H k=k (SL 7 encM b2 b.msgs):=fun k=>by rw [hH];rfl
 have lna:∀k:Go.AM.K AV,lenK (SL 2 encH a1 a.heard) k=k (I a.heard.length):=fun k=>by rw [SL,Z0b,List.length_map]
 have lnb:∀k:Go.AM.K AV,lenK (SL 2 encH b1 b.heard) k=k (I b.heard.length):=fun k=>by rw [SL,Z0b,List.length_map]
 simp -implicitDefEqProofs only [Z6z,x0,x1,Z0c,Nat.zero_add,a0,b0,Z07,Bool.true_xor,la,lb,lna,lnb,Z0N,Z01]
 by_cases q:a.node=b.node∧a.heard.length=b.heard.length
 ·obtain ⟨q1,q2⟩:=q
  have e:(!(a.node==b.node) || !((a.heard.length:Int)==(b.heard.length:Int)))=false:=by simp [q1,q2]
  simp -implicitDefEqProofs only [e,Bool.false_eq_true,if_false]
  refine (Zuf (X:=some (B (decide (a.msgs=b.msgs)))) (Y:=some (B false)) h0 h1 hl q2 ?_ rfl NN 0 (by omega) (by have:=NN_ge;omega)).trans ?_
  ·have fS:=Zue a.msgs b.msgs (a2&&a.msgs.isEmpty) (b2&&b.msgs.isEmpty) (by omega) H
   simp -implicitDefEqProofs only [Z8l,Z0c,Nat.zero_add,ma,mb,ZrZ,Z03,fS]
   rfl
  ·rw [List.drop_zero,List.drop_zero]
   obtain ⟨n1,l1,m1⟩:=a
   obtain ⟨n2,l2,m2⟩:=b
   dsimp only at q1 ⊢
   subst q1
   by_cases e:l1=l2<;>simp [e]
 ·have e:(!(a.node==b.node) || !((a.heard.length:Int)==(b.heard.length:Int)))=true:=by
   cases hc:(!(a.node==b.node) || !((a.heard.length:Int)==(b.heard.length:Int))) with
   | true=>rfl
   | false=>
    simp at hc
    exact absurd hc (fun hh=>q ⟨hh.1,by omega⟩)
  have hne:¬a=b:=fun hh=>q ⟨by rw [hh],by rw [hh]⟩
  simp -implicitDefEqProofs only [e,if_true]
  simp [hne]
theorem Zuh (b1 b2:Bool) (i:Inbx) (hl:i.heard.length<100000) (hm:i.msgs.length<100000) (H:Hp):Z4N [ib b1 b2 i] H=some (.agg [I i.node, .sl 2 (H.length+3) 0 i.heard.length i.heard.length false, .sl 7 (H.length+5) 0 i.msgs.length i.msgs.length false],H++[bxI b1 b2 i, .arr 3 [[I i.node, .sl 2 (H.length+3) 0 i.heard.length i.heard.length false, .sl 7 (H.length+5) 0 i.msgs.length i.msgs.length false]] true false, .arr 2 [] true false, .arr 2 (i.heard.map encH) true false, .arr 7 [] true false, .arr 7 (i.msgs.map encM) true false]):=by
 rw [ZrO]
 obtain ⟨node,heard,msgs⟩:=i
 dsimp only at hl hm ⊢
 obtain ⟨LH,hLH⟩:∃LH:AV,LH=SL 2 encH b1 heard:=⟨_,rfl⟩
 obtain ⟨LM,hLM⟩:∃LM:AV,LM=SL 7 encM b2 msgs:=⟨_,rfl⟩
 obtain ⟨o0,ho0⟩:∃o0:AObj,o0 = .arr 3 [[I node,LH,LM]] true false:=⟨_,rfl⟩
 have eb:bxI b1 b2 ⟨node,heard,msgs⟩=o0:=by rw [ho0,hLH,hLM]
 rw [eb,show ib b1 b2 ⟨node,heard,msgs⟩ = .agg [I node,LH,LM] by rw [hLH,hLM]]
 obtain ⟨n,hn⟩:∃n,n=H.length:=⟨_,rfl⟩
 rw [← hn]
 have x0:∀k:AV→Hp→Option (AV × Hp),effK (boxE 3 (.agg [I node,LH,LM]) H.length) H k=k (.ptr n 0 0 1) (H++[o0]):=fun k=>by rw [hn,ho0];exact bx3 rfl (by rw [hLH,hLM];rfl) k
 have hl1:∀o:AObj,(H++[o]).length=n+1:=fun o=>by rw [hn];simp
 have hl2:∀o p:AObj,(H++[o,p]).length=n+2:=fun o p=>by rw [hn];simp
 have hl3:∀o p q:AObj,(H++[o,p,q]).length=n+3:=fun o p q=>by rw [hn];simp
 have hl4:∀o p q r:AObj,(H++[o,p,q,r]).length=n+4:=fun o p q r=>by rw [hn];simp
 have hl5:∀o p q r s:AObj,(H++[o,p,q,r,s]).length=n+5:=fun o p q r s=>by rw [hn];simp
 have gt:∀(l:List AObj) (j:Nat),(H++l)[n+j]? = l[j]? := fun l j=>by rw [hn,List.getElem?_append_right (by omega),show H.length+j-H.length=j by omega]
 have st':∀(l:List AObj) (j:Nat) (o:AObj),(H++l).set (n+j) o=H++l.set j o:=fun l j o=>by rw [hn,List.set_append_right _ _ (by omega),show H.length+j-H.length=j by omega]
 have x1:∀k:AV→Hp→Option (AV × Hp),effK (boxE 3 (.agg zI) (H++[o0]).length) (H++[o0]) k=k (.ptr (n+1) 0 0 1) (H++[o0, .arr 3 [zI] true false]):=fun k=>by
  refine (bx3 rfl rfl k).trans ?_
  rw [hl1,List.append_assoc];rfl
 have l0:∀(l:List AObj) (k:Go.AM.K (AV × Hp)),ldK 1 false (.ptr n 0 0 1) (H++o0::l) k=k (I node):=fun l k=>by rw [Z00,show n=n+0 from rfl,gt];rw [ho0];rfl
 have l1:∀(l:List AObj) (k:Go.AM.K (AV × Hp)),ldK 1 false (.ptr n 0 1 1) (H++o0::l) k=k LH:=fun l k=>by rw [Z00,show n=n+0 from rfl,gt];rw [ho0,hLH];rfl
 have l2:∀(l:List AObj) (k:Go.AM.K (AV × Hp)),ldK 1 false (.ptr n 0 2 1) (H++o0::l) k=k LM:=fun l k=>by rw [Z00,show n=n+0 from rfl,gt];rw [ho0,hLM];rfl
 have d1:∀k:AV→Hp→Ent→Option (AV × Hp),effD (bsE 2 zH 0 [] (H++[o0, .arr 3 [zI] true false]).length) (H++[o0, .arr 3 [zI] true false]) k=k (.sl 2 (n+2) 0 0 0 true) (H++[o0, .arr 3 [zI] true false, .arr 2 [] true false]) ([],[n+2]):=fun k=>by
  rw [hl2];simp [bsE,fillS,effD,ap,wrOf,hl2]
 have rH:∀h:Hp,readSl h LH=some (heard.map encH):=fun h=>by rw [hLH];rfl
 have rM:∀h:Hp,readSl h LM=some (msgs.map encM):=fun h=>by rw [hLM];rfl
 have aH:((heard.map encH).all fun e=>e.length==2)=true:=by rw [List.all_eq_true];intro e he;obtain ⟨x, -,rfl⟩:=List.mem_map.1 he;rfl
 have aM:((msgs.map encM).all fun e=>e.length==7)=true:=by rw [List.all_eq_true];intro e he;obtain ⟨x, -,rfl⟩:=List.mem_map.1 he;rfl
 have iH:idsOf LH=[]:=by rw [hLH];rfl
 have iM:idsOf LM=[]:=by rw [hLM];rfl
 have d2:∀k:AV→Hp→Ent→Option (AV × Hp),effD (appE 2 16 (.sl 2 (n+2) 0 0 0 true) LH (H++[o0, .arr 3 [zI] true false, .arr 2 [] true false]) (H++[o0,AObj.arr 3 [zI] true false, .arr 2 [] true false]).length) (H++[o0, .arr 3 [zI] true false, .arr 2 [] true false]) k=k (.sl 2 (n+3) 0 heard.length heard.length false) (H++[o0, .arr 3 [zI] true false, .arr 2 [] true false, .arr 2 (heard.map encH) true false]) ([n+2],[n+3]):=fun k=>by
  have:appE 2 16 (.sl 2 (n+2) 0 0 0 true) LH (H++[o0, .arr 3 [zI] true false, .arr 2 [] true false]) (n+3)=some (.sl 2 (n+3) 0 heard.length heard.length false,⟨[],[.arr 2 (heard.map encH) true false],[n+2]⟩):=by
   unfold appE
   rw [rH]
   simp only [gt]
   simp only [List.getElem?_cons_succ,List.getElem?_cons_zero,List.length_map,List.length_nil]
   rw [if_pos ⟨trivial,trivial,by omega,aH⟩,if_pos ⟨trivial,by omega, .inl trivial⟩]
   simp [iH]
  rw [hl3,this]
  simp [effD,ap,wrOf,hl3]
 have d3:∀k:AV→Hp→Ent→Option (AV × Hp),effD (bsE 7 [I 0,I 0,I 0,I 0,I 0,I 0,I 0] 0 [] (H++[o0, .arr 3 [zI] true false, .arr 2 [] true false, .arr 2 (heard.map encH) true false]).length) (H++[o0, .arr 3 [zI] true false, .arr 2 [] true false, .arr 2 (heard.map encH) true false]) k=k (.sl 7 (n+4) 0 0 0 true) (H++[o0, .arr 3 [zI] true false, .arr 2 [] true false, .arr 2 (heard.map encH) true false, .arr 7 [] true false]) ([],[n+4]):=fun k=>by
  rw [hl4];simp [bsE,fillS,effD,ap,wrOf,hl4]
 have d4:∀k:AV→Hp→Ent→Option (AV × Hp),effD (appE 7 56 (.sl 7 (n+4) 0 0 0 true) LM (H++[o0, .arr 3 [zI] true false, .arr 2 [] true false, .arr 2 (heard.map encH) true false, .arr 7 [] true false]) (H++[o0,AObj.arr 3 [zI] true false, .arr 2 [] true false, .arr 2 (heard.map encH) true false, .arr 7 [] true false]).length) (H++[o0, .arr 3 [zI] true false, .arr 2 [] true false, .arr 2 (heard.map encH) true false, .arr 7 [] true false]) k=k (.sl 7 (n+5) 0 msgs.length msgs.length false) (H++[o0, .arr 3 [zI] true false, .arr 2 [] true false, .arr 2 (heard.map encH) true false, .arr 7 [] true false, .arr 7 (msgs.map encM) true false]) ([n+4],[n+5]):=fun k=>by
  have:appE 7 56 (.sl 7 (n+4) 0 0 0 true) LM (H++[o0, .arr 3 [zI] true false, .arr 2 [] true false, .arr 2 (heard.map encH) true false, .arr 7 [] true false]) (n+5)=some (.sl 7 (n+5) 0 msgs.length msgs.length false,⟨[],[.arr 7 (msgs.map encM) true false],[n+4]⟩):=by
   unfold appE
   rw [rM]
   simp only [gt]
   simp only [List.getElem?_cons_succ,List.getElem?_cons_zero,List.length_map,List.length_nil]
   rw [if_pos ⟨trivial,trivial,by omega,aM⟩,if_pos ⟨trivial,by omega, .inl trivial⟩]
   simp [iM]
  rw [hl5,this]
  simp [effD,ap,wrOf,hl5]
 have bK:∀k:Go.AM.K (AV × Hp),buildK zI [(some (0,1),I node),(some (1,1), .sl 2 (n+3) 0 heard.length heard.length false),(some (2,1), .sl 7 (n+5) 0 msgs.length msgs.length false)] k=k (.agg [I node, .sl 2 (n+3) 0 heard.length heard.length false, .sl 7 (n+5) 0 msgs.length msgs.length false]):=fun k=>rfl
 have d5:∀k:AV→Hp→Ent→Option (AV × Hp),effD (stE 3 (.ptr (n+1) 0 0 1) (.agg [I node, .sl 2 (n+3) 0 heard.length heard.length false, .sl 7 (n+5) 0 msgs.length msgs.length false]) (H++[o0, .arr 3 [zI] true false, .arr 2 [] true false, .arr 2 (heard.map encH) true false, .arr 7 [] true false, .arr 7 (msgs.map encM) true false])) (H++[o0, .arr 3 [zI] true false, .arr 2 [] true false, .arr 2 (heard.map encH) true false, .arr 7 [] true false, .arr 7 (msgs.map encM) true false]) k=k .u (H++[o0, .arr 3 [[I node, .sl 2 (n+3) 0 heard.length heard.length false, .sl 7 (n+5) 0 msgs.length msgs.length false]] true false, .arr 2 [] true false, .arr 2 (heard.map encH) true false, .arr 7 [] true false, .arr 7 (msgs.map encM) true false]) ([n+1],[n+1]):=fun k=>by
  have:stE 3 (.ptr (n+1) 0 0 1) (.agg [I node, .sl 2 (n+3) 0 heard.length heard.length false, .sl 7 (n+5) 0 msgs.length msgs.length false]) (H++[o0, .arr 3 [zI] true false, .arr 2 [] true false, .arr 2 (heard.map encH) true false, .arr 7 [] true false, .arr 7 (msgs.map encM) true false])=some (.u,⟨[(n+1, .arr 3 [[I node, .sl 2 (n+3) 0 heard.length heard.length false, .sl 7 (n+5) 0 msgs.length msgs.length false]] true false)],[],[n+1]⟩):=by
   rw [Z0G,gt]
   simp [putAt]
  rw [Z09 this,st']
  rfl
 have dj:disjAll [(1,2),(2,4),(1,5),(1,6),(2,6),(4,6),(5,6),(2,8),(5,8),(6,8),(1,9)] [([],[]),(idsOf (.ptr n 0 0 1),[]),([],[n+2]),([],[]),(idsOf (.ptr n 0 1 1),[]),([n+2],[n+3]),([],[n+4]),([],[]),(idsOf (.ptr n 0 2 1),[]),([n+4],[n+5]),([],[]),([n+1],[n+1])]=true:=by
  simp [disjAll,disj2,idsOf]
 have lw:∀(l:List AObj) (o:AObj) (k:Go.AM.K (AV × Hp)),ldK 3 true (.ptr (n+1) 0 0 1) (H++o :: .arr 3 [[I node, .sl 2 (n+3) 0 heard.length heard.length false, .sl 7 (n+5) 0 msgs.length msgs.length false]] true false::l) k=k (.agg [I node, .sl 2 (n+3) 0 heard.length heard.length false, .sl 7 (n+5) 0 msgs.length msgs.length false]):=fun l o k=>by rw [Z00,gt];rfl
 simp -implicitDefEqProofs only [Z50,x0,x1,Z0c,Nat.zero_add,l0,d1,l1,d2,d3,l2,d4,bK,d5,dj,cond_true,lw]
theorem Zhd (b1 b2:Bool) (i:Inbx) (hl:i.heard.length<100000) (hm:i.msgs.length<100000) (h:Hp):Z5Y [ib b1 b2 i] h=some (ib false false i,h):=by
 refine (ZrQ (a0:=ib b1 b2 i) (v:=ib false false i) rfl ?_ h).trans rfl
 have hr:=Zuh b1 b2 i hl hm []
 have hK:=(Zch (fun v g=>cvt false g v) (ib b1 b2 i) []).symm
 show Z50 Try.prog Z5X Z5W NN (fun v g=>cvt false g v) (ib b1 b2 i) []=_
 rw [hK,hr]
 show cvt false _ (.agg [I i.node, .sl 2 3 0 i.heard.length i.heard.length false, .sl 7 5 0 i.msgs.length i.msgs.length false])=_
 simp only [Z4s,Z1h,Z1g,cvt_s]
 rw [Z0Y (st:=false) (es:=i.heard.map encH) (nl:=false) rfl (by simp) (by simp) (Z0U fun x=>by simp [encH]),Z0Y (st:=false) (es:=i.msgs.map encM) (nl:=false) rfl (by simp) (by simp) (Z0U fun x=>by simp [encM])]
 rfl
end Go.AM


namespace Go.AM
open Go.Proofs
set_option linter.unusedVariables false
set_option linter.unusedSimpArgs false
set_option linter.constructorNameAsVariable false
set_option maxRecDepth 20000
attribute [local congr] Z0d Z0e Z0f Z0g Z0h Z0i Z0j Z0k Z0l Z0m Z0n Z0o Z0p Z0q Z0r Z0s Z0t Z0u Z0v Z0w Z0x Z0y Z0z Z0A Z0B Z0C Z0D
def lastLt (p:Option Hrd) (x:Hrd):Bool:=match p with | some q => !ltH q x | none=>false
theorem Zui (node:Int) (p:Option Hrd) (x:Hrd) (r:List Hrd):chkH node p (x::r)=if (!isNode x.frm||decide (x.num<1)||decide (x.num > 1073741824))=true then 2 else if x.frm=node then 10 else if lastLt p x=true then 5 else chkH node (some x) r:=by
 rw [ZgU]
 cases p with
 | none=>rfl
 | some q=>
  have:decide (cmpH q x≥0)=lastLt (some q) x:=by
   unfold lastLt ltH
   by_cases h:cmpH q x<0
   ·simp [h]
   ·simp [h];omega
  simp only [this]
end Go.AM


namespace Go.AM
open Go.RowKit
set_option linter.unusedVariables false
def mu0 (w:World):Mu:=⟨fun _ => .virt none,w,fun k=>k<w.heap.size⟩
theorem rel0 (w:World):Rel (mu0 w) [] w where
 obj:=fun id o h=>by simp at h
 sep:=fun i j o p b x c y d h=>by simp at h
 apart:=fun i sz es nil b x c h=>by simp at h
 imm:=fun k hk=>⟨hk,rfl,fun ⟨id,o,off,c,h,_⟩=>by simp at h⟩
theorem own0 (w:World) (b:Nat):¬Own (mu0 w) [] b:=fun ⟨id,o,off,c,h,_⟩=>by simp at h
theorem below0 {w w':World} {μ':Mu} {h':Hp} (s:Step (mu0 w) [] w μ' h' w'):Below w.heap.size w w':=
 ⟨s.frame.os,s.frame.tape,s.frame.output,s.frame.size,fun k hk=>s.frame.block k hk (own0 w k)⟩
theorem row_calls {P:Program} {f:FuncId} {F:Fun} {args:List AV} {h':Hp} {b:Bool} {W:World} {cargs:Array Value} (hc:CSound P f F) (hF:F args []=some (.s (.bool b),h')) (hv:VRs (mu0 W) [] args cargs.toList):
  Calls P f cargs W fun e W'=>e = .returned (.bool b)∧Below W.heap.size W W':=by
 refine (hc args [] _ h' hF (mu0 W) W cargs (rel0 W) hv).2.mono fun e W' => ?_
 rintro ⟨cv,μ',rfl,s,hr⟩
 simp only [VR] at hr
 exact ⟨by rw [hr.2],below0 s⟩

inductive Ty where
 | int (k:IntKind)
 | bool
 | str
 | sl (e:List Ty)
def tyFs (f:TypeId→Option (List Ty)) (size:TypeId→Nat):List Field→Nat→Option (List Ty)
 | [],_=>some []
 | x::l,pos=>match f x.type,tyFs f size l (pos+size x.type) with
  | some a,some b=>if x.offset=pos∧a.length=size x.type then some (a++b) else none
  | _,_=>none
def tyOf (P:Program):Nat→TypeId→Option (List Ty)
 | 0,_=>none
 | n+1,t=>match P.underlying t with
  | some .bool=>some [.bool]
  | some (.int k)=>some [.int k]
  | some .string=>some [.str]
  | some (.slice e)=>match tyOf P n e with
   | some l=>if l.length=P.cellsOf e∧0<l.length then some [.sl l] else none
   | none=>none
  | some (.struct fs)=>match tyFs (tyOf P n) P.cellsOf fs.toList 0 with
   | some l=>if l.length=P.cellsOf t then some l else none
   | none=>none
  | some (.array m e)=>match tyOf P n e with
   | some l=>if l.length=P.cellsOf e∧m * P.cellsOf e=P.cellsOf t then some (List.replicate m l).flatten else none
   | none=>none
  | _=>none
mutual
def HasT:Ty→AV→Prop
 | .int k,a=>∃n,a = .s (.int k n)∧(Lit.int k n).wf=true
 | .bool,a=>∃b,a = .s (.bool b)
 | .str,a=>∃s:ByteArray,a = .s (.string s)∧s.size≤maxLen
 | .sl ts,a=>∃nil es,a = .lst ts.length nil es∧(nil=true→es=[])∧es.length≤maxLen∧∀e ∈ es,HasTs ts e
def HasTs:List Ty→List AV→Prop
 | [],asl=>asl=[]
 | t::ts,asl=>∃a as',asl=a::as'∧HasT t a∧HasTs ts as'
end
theorem HasTs.app:∀ {ts us:List Ty} {asl bs:List AV},HasTs ts asl→HasTs us bs→HasTs (ts++us) (asl++bs)
 | [],us,asl,bs,h,k=>by simp only [HasTs] at h;subst h;exact k
 | t::ts,us,asl,bs,h,k=>by
  simp only [HasTs] at h
  obtain ⟨a,as',rfl,h1,h2⟩:=h
  simp only [List.cons_append,HasTs]
  exact ⟨a,_,rfl,h1,HasTs.app h2 k⟩
theorem HasTs.len:∀ {ts:List Ty} {asl:List AV},HasTs ts asl→asl.length=ts.length
 | [],asl,h=>by simp only [HasTs] at h;subst h;rfl
 | t::ts,asl,h=>by
  simp only [HasTs] at h
  obtain ⟨a,as',rfl,h1,h2⟩:=h
  simp [HasTs.len h2]
theorem HasT.ok:∀ {t:Ty} {a:AV},HasT t a→okC a=true
 | .int k,a,h=>by simp only [HasT] at h;obtain ⟨n,rfl,_⟩:=h;rfl
 | .bool,a,h=>by simp only [HasT] at h;obtain ⟨n,rfl⟩:=h;rfl
 | .str,a,h=>by simp only [HasT] at h;obtain ⟨n,rfl,_⟩:=h;rfl
 | .sl ts,a,h=>by simp only [HasT] at h;obtain ⟨n,es,rfl,_⟩:=h;rfl
theorem HasTs.ok:∀ {ts:List Ty} {asl:List AV},HasTs ts asl→∀x ∈ asl,okC x=true
 | [],asl,h,x,hx=>by simp only [HasTs] at h;subst h;simp at hx
 | t::ts,asl,h,x,hx=>by
  simp only [HasTs] at h
  obtain ⟨a,as',rfl,h1,h2⟩:=h
  rcases List.mem_cons.1 hx with rfl | hx
  ·exact h1.ok
  ·exact h2.ok x hx
theorem ZcE {μ:Mu} {h:Hp}:∀ {asl bs:List AV} {cs ds:List Value},VRs μ h asl cs→VRs μ h bs ds→VRs μ h (asl++bs) (cs++ds)
 | [],bs,cs,ds,h1,h2=>by simp only [VRs] at h1;subst h1;exact h2
 | a::asl,bs,cs,ds,h1,h2=>by
  simp only [VRs] at h1
  obtain ⟨v,vs,rfl,h3,h4⟩:=h1
  simp only [List.cons_append,VRs]
  exact ⟨v,_,rfl,h3,ZcE h4 h2⟩
section
variable {H:Type} {enc:TypeId × Value→H} {P:Program} {w:World} {base:Nat} {spare:Nat→Bool} {held:Bool}
def Opened (w:World) (ts:List Ty) (cs:List Value):Prop:=∃asl,HasTs ts asl∧VRs (mu0 w) [] asl cs∧∀u ∈ cs,u.oneCell'=true
theorem Z69 {t:Ty} {u:Value} {a:AV} (h1:HasT t a) (h2:VR (mu0 w) [] a u) (h3:u.oneCell'=true):Opened w [t] [u]:=
 ⟨[a],by simp only [HasTs];exact ⟨a,[],rfl,h1,rfl⟩,by simp only [VRs];exact ⟨u,[],rfl,h2,rfl⟩,by simpa using h3⟩
theorem Zhe {f:TypeId→Option (List Ty)} {g:TypeId→List Value→Prop} {cs:List Value} (hg:∀t ts cs',f t=some ts→g t cs'→Opened w ts cs'):∀(l:List Field) (pos:Nat) (ts:List Ty),tyFs f P.cellsOf l pos=some ts→
  (∀x ∈ l,g x.type ((cs.drop x.offset).take (P.cellsOf x.type)))→Opened w ts ((cs.drop pos).take ts.length)
 | [],pos,ts,h,_=>by
  simp only [tyFs,Option.some.injEq] at h
  subst h
  exact ⟨[],rfl,rfl,by simp⟩
 | x::l,pos,ts,h,hx=>by
  simp only [tyFs] at h
  split at h
  ·rename_i a b h1 h2
   split at h
   ·rename_i hc
    simp only [Option.some.injEq] at h
    subst h
    obtain ⟨h3,h4⟩:=hc
    obtain ⟨asl,p1,p2,p3⟩:=hg _ _ _ h1 (hx x (by simp))
    obtain ⟨bs,q1,q2,q3⟩:=Zhe hg l _ b h2 (fun y hy=>hx y (by simp [hy]))
    have e:(cs.drop pos).take (a++b).length=(cs.drop x.offset).take (P.cellsOf x.type)++(cs.drop (pos+P.cellsOf x.type)).take b.length:=by
     rw [List.length_append,h4,h3, ← List.drop_drop,List.take_add]
    rw [e]
    refine ⟨asl++bs,p1.app q1,ZcE p2 q2, ?_⟩
    intro u hu
    rcases List.mem_append.1 hu with hu | hu
    ·exact p3 u hu
    ·exact q3 u hu
   ·simp at h
  ·simp at h
theorem Zhf {ts:List Ty} {sz:Nat} {cs:List Value}:∀(n i0:Nat),(∀i,i<n→Opened w ts ((cs.drop ((i0+i) * sz)).take sz))→Opened w (List.replicate n ts).flatten ((cs.drop (i0 * sz)).take (n * sz))
 | 0,i0,_=>⟨[],rfl,by simp [VRs],by simp⟩
 | n+1,i0,h=>by
  obtain ⟨asl,p1,p2,p3⟩:=h 0 (by omega)
  obtain ⟨bs,q1,q2,q3⟩:=Zhf n (i0+1) (fun i hi=>by have:=h (i+1) (by omega);rwa [show i0+(i+1)=i0+1+i by omega] at this)
  have e:(cs.drop (i0 * sz)).take ((n+1) * sz)=(cs.drop (i0 * sz)).take sz++(cs.drop ((i0+1) * sz)).take (n * sz):=by
   rw [show (n+1) * sz=sz+n * sz by rw [Nat.add_mul];omega,show (i0+1) * sz=i0 * sz+sz by rw [Nat.add_mul];omega, ← List.drop_drop,List.take_add]
  rw [e,List.replicate_succ,List.flatten_cons]
  refine ⟨asl++bs,p1.app q1,ZcE p2 q2, ?_⟩
  intro u hu
  rcases List.mem_append.1 hu with hu | hu
  ·exact p3 u hu
  ·exact q3 u hu
theorem Zhg {ts:List Ty} {sz b:Nat} (hts:ts.length=sz):∀(n o:Nat),(∀i,i<n→∃cs,Opened w ts cs∧cs.length=sz∧∀j u,cs[j]? = some u→w.cell? ⟨b,o+i * sz+j,none⟩=some u)→
  ∃es vs,es.length=n∧(∀e ∈ es,HasTs ts e)∧VRf (mu0 w) [] es vs∧∀j u,vs[j]? = some u→w.cell? ⟨b,o+j,none⟩=some u∧u.oneCell'=true
 | 0,o,h=>⟨[],[],rfl,by simp,rfl,by simp⟩
 | n+1,o,h=>by
  obtain ⟨cs,⟨asl,h1,h2,h3⟩,h4,h5⟩:=h 0 (by omega)
  obtain ⟨es,vs,k1,k2,k3,k4⟩:=Zhg hts n (o+sz) (fun i hi=>by
   obtain ⟨cs',q1,q2,q3⟩:=h (i+1) (by omega)
   refine ⟨cs',q1,q2,fun j u hu => ?_⟩
   rw [← q3 j u hu]
   congr 2
   rw [Nat.add_mul];omega)
  refine ⟨asl::es,cs++vs,by simp [k1], ?_, ?_, ?_⟩
  ·intro e he
   rcases List.mem_cons.1 he with rfl | he
   ·exact h1
   ·exact k2 e he
  ·simp only [VRf];exact ⟨cs,vs,rfl,h2,k3⟩
  ·intro j u hj
   by_cases hlt:j<cs.length
   ·rw [List.getElem?_append_left hlt] at hj
    have:=h5 j u hj
    exact ⟨by simpa using this,h3 u (List.mem_of_getElem? hj)⟩
   ·rw [List.getElem?_append_right (by omega)] at hj
    have:=k4 _ _ hj
    rw [show o+sz+(j-cs.length)=o+j by omega] at this
    exact this
theorem Zuj {a:Addr} {v:Value} (h:w.cell? a=some v):a.block<w.heap.size:=by
 rcases Nat.lt_or_ge a.block w.heap.size with h1 | h1
 ·exact h1
 ·have:w.heap[a.block]? = none:=by simpa using h1
  simp [World.cell?,this] at h
theorem Z7T:∀(fuel n:Nat) (t:TypeId) (ts:List Ty) (cs:List Value) (x:DataW H × List MemPlace),tyOf P n t=some ts→DataW.trod enc P w base spare held fuel t cs=some x→Opened w ts cs
 | 0,n,t,ts,cs,x,_,h=>by simp [DataW.trod] at h
 | fuel+1,0,t,ts,cs,x,h0,_=>by simp [tyOf] at h0
 | fuel+1,n+1,t,ts,cs,x,h0,h=>by
  unfold tyOf at h0
  cases hu:P.underlying t with
  | none=>rw [hu] at h0;simp at h0
  | some T=>
   rw [hu] at h0
   cases T with
   | bool=>
    simp only [Option.some.injEq] at h0
    subst h0
    obtain ⟨b,rfl,_⟩:=DataW.trod_bool hu h
    exact Z69 (a := .s (.bool b)) (by simp [HasT]) (by simp [VR,gv]) rfl
   | int k=>
    simp only [Option.some.injEq] at h0
    subst h0
    obtain ⟨m,rfl,_,hw⟩:=DataW.trod_int hu h
    exact Z69 (a := .s (.int k m)) (by simp [HasT,hw]) (by simp [VR,gv]) rfl
   | string=>
    simp only [Option.some.injEq] at h0
    subst h0
    obtain ⟨s,rfl,_,hs⟩:=DataW.trod_string hu h
    exact Z69 (a := .s (.string s)) (by simp [HasT,hs]) (by simp [VR,gv]) rfl
   | slice e=>
    simp only at h0
    cases he:tyOf P n e with
    | none=>rw [he] at h0;simp at h0
    | some l=>
     rw [he] at h0
     simp only at h0
     split at h0
     ·rename_i hl
      simp only [Option.some.injEq] at h0
      subst h0
      rcases DataW.trod_slice hu h with ⟨rfl,_⟩ | ⟨a,len,cap,elems,rest,m,hm,rfl,_,hb,h1,h2,h3,h4,_,_⟩
      ·refine Z69 (a := .lst l.length true []) ?_ ?_ rfl
       ·simp only [HasT];exact ⟨true,[],rfl,fun _=>rfl,by simp,by simp⟩
       ·simp only [VR]
        exact ⟨none,0,rfl,by simp,by simp,rfl,fun _=>rfl,by simp,by simp⟩
      ·have hm':m=fuel:=by omega
       subst hm'
       have cell:∀i,i<len→∃cs,Opened w l cs∧cs.length=P.cellsOf e∧∀j,j<P.cellsOf e→w.cell? ((a.add (i * P.cellsOf e)).add j)=cs[j]? := by
        intro i hi
        have hi':=h4 i hi
        rw [List.getElem?_eq_getElem (by omega),Option.bind_eq_some_iff] at hi'
        obtain ⟨cs,q1,q2⟩:=hi'
        have q3:=World.cells?_some q1
        exact ⟨cs,Z7T m n e l cs _ he q2,q3.2.1,q3.2.2⟩
       obtain ⟨b,off,spot⟩:=a
       have hsp:len≠0→spot=none:=fun hn=>by
        obtain ⟨cs,_,q2,q3⟩:=cell 0 (by omega)
        have q4:=q3 0 (by omega)
        rw [List.getElem?_eq_getElem (by omega)] at q4
        simpa [Addr.add] using World.cell?_spot q4
       by_cases hn:len=0
       ·subst hn
        refine Z69 (a := .lst l.length false []) ?_ ?_ rfl
        ·simp only [HasT];exact ⟨false,[],rfl,fun _=>rfl,by simp,by simp⟩
        ·simp only [VR]
         exact ⟨_,cap,rfl,by simp,h2,rfl,by simp,by simp,by simp⟩
       ·have hs:=hsp hn
        subst hs
        obtain ⟨es,vs,k1,k2,k3,k4⟩:=Zhg (w:=w) (ts:=l) (sz:=P.cellsOf e) (b:=b) hl.1 len off (fun i hi=>by
         obtain ⟨cs,q1,q2,q3⟩:=cell i hi
         refine ⟨cs,q1,q2,fun j u hj => ?_⟩
         have hjl:=(List.getElem?_eq_some_iff.1 hj).1
         have:=q3 j (by omega)
         rw [hj] at this
         rw [← this,Go.WideShapes.add_plain,Go.WideShapes.add_plain])
        refine Z69 (a := .lst l.length false es) ?_ ?_ rfl
        ·simp only [HasT];exact ⟨false,es,rfl,by simp,by omega,k2⟩
        ·simp only [VR]
         refine ⟨_,cap,by rw [k1],by omega,h2,rfl,by simp,fun e' he'=>⟨(k2 e' he').len,(k2 e' he').ok⟩,fun _=>⟨b,off,vs,rfl, ?_,k3,k4⟩⟩
         obtain ⟨cs,q1,q2,q3⟩:=cell 0 (by omega)
         have q4:=q3 0 (by omega)
         rw [List.getElem?_eq_getElem (by omega)] at q4
         show b<w.heap.size
         rw [Go.WideShapes.add_plain,Go.WideShapes.add_plain] at q4
         exact Zuj q4
     ·simp at h0
   | struct fs=>
    simp only at h0
    cases he:tyFs (tyOf P n) P.cellsOf fs.toList 0 with
    | none=>rw [he] at h0;simp at h0
    | some l=>
     rw [he] at h0
     simp only at h0
     split at h0
     ·rename_i hl
      simp only [Option.some.injEq] at h0
      subst h0
      obtain ⟨xs,m,hm,_,h2,h3,h4⟩:=DataW.trod_struct hu h
      have hm':m=fuel:=by omega
      subst hm'
      have:=Zhe (w:=w) (P:=P) (f:=tyOf P n) (g:=fun t cs'=>∃y,DataW.trod enc P w base spare held m t cs'=some y) (cs:=cs) (fun t ts cs' q1 ⟨y,q2⟩=>Z7T m n t ts cs' y q1 q2) fs.toList 0 l he (fun y hy=>by
       obtain ⟨i,hi⟩:=List.getElem?_of_mem hy
       have hi2:fs[i]? = some y:=by simpa using hi
       have:=h4 i y hi2
       have hlt:i<xs.length:=by rw [h3];exact (Array.getElem?_eq_some_iff.1 hi2).1
       rw [List.getElem?_eq_getElem hlt] at this
       exact ⟨_,this⟩)
      rw [List.drop_zero,hl, ← h2,List.take_length] at this
      exact this
     ·simp at h0
   | array k e=>
    simp only at h0
    cases he:tyOf P n e with
    | none=>rw [he] at h0;simp at h0
    | some l=>
     rw [he] at h0
     simp only at h0
     split at h0
     ·rename_i hl
      simp only [Option.some.injEq] at h0
      subst h0
      obtain ⟨xs,m,hm,_,h2,h3,h4⟩:=DataW.trod_array hu h
      have hm':m=fuel:=by omega
      subst hm'
      have:=Zhf (w:=w) (ts:=l) (sz:=P.cellsOf e) (cs:=cs) k 0 (fun i hi=>by
       have h5:=h4 i hi
       rw [List.getElem?_eq_getElem (by omega)] at h5
       have h6:=Z7T m n e l _ _ he h5
       rwa [Nat.zero_add])
      rw [Nat.zero_mul,List.drop_zero,hl.2, ← h2,List.take_length] at this
      exact this
     ·simp at h0
   | _=>simp at h0
theorem open_agg {t:TypeId} {fs:Array Field} {r:Reach} {b:Nat} {v:Value} {d:DataW H} {ps:List MemPlace} {n:Nat} {ts:List Ty} (hu:P.underlying t=some (.struct fs)) (ht:tyOf P n t=some ts) (hval:Value.okWide P w r b t v)
  (hd:DataW.Trod enc P w base spare held t v d ps):∃asl,HasTs ts asl∧VR (mu0 w) [] (.agg asl) v:=by
 obtain ⟨cs,rfl,_⟩:=WideShapes.okWide_struct hu hval
 obtain ⟨fuel,hf⟩:=hd
 obtain ⟨asl,h1,h2,_⟩:=Z7T fuel n t ts _ _ ht hf
 exact ⟨asl,h1,by simp only [VR];exact ⟨cs,rfl,h2⟩⟩
theorem open_cell {t:TypeId} {v:Value} {d:DataW H} {ps:List MemPlace} {n:Nat} {ty:Ty} (hv:v.cells = #[v]) (ht:tyOf P n t=some [ty]) (hd:DataW.Trod enc P w base spare held t v d ps):∃a,HasT ty a∧VR (mu0 w) [] a v:=by
 obtain ⟨fuel,hf⟩:=hd
 rw [hv] at hf
 obtain ⟨asl,h1,h2,_⟩:=Z7T fuel n t [ty] _ _ ht hf
 simp only [HasTs] at h1
 obtain ⟨a,as',rfl,h1,rfl⟩:=h1
 simp only [VRs] at h2
 obtain ⟨v',vs',h3,h4,_⟩:=h2
 simp at h3
 exact ⟨a,h1,by rw [h3.1];exact h4⟩
end
theorem ZcF {α:Type} {ts:List Ty} {f:α→List AV} (hf:∀cs,HasTs ts cs→∃x,cs=f x) {a:AV} (h:HasT (.sl ts) a):∃(l:List α) (b:Bool),a = .lst ts.length (b&&l.isEmpty) (l.map f):=by
 simp only [HasT] at h
 obtain ⟨nil,es,rfl,hn,hm,he⟩:=h
 have:∃l:List α,es=l.map f:=by
  clear hn hm
  induction es with
  | nil=>exact ⟨[],rfl⟩
  | cons e es ih=>
   obtain ⟨x,hx⟩:=hf e (he e (by simp))
   obtain ⟨l,hl⟩:=ih (fun e' h'=>he e' (by simp [h']))
   exact ⟨x::l,by simp [hx,hl]⟩
 obtain ⟨l,rfl⟩:=this
 refine ⟨l,nil, ?_⟩
 cases nil with
 | false=>rfl
 | true=>
  have:l=[]:=by simpa using hn rfl
  subst this;rfl
end Go.AM


namespace Go.AM
open Go.Proofs
set_option linter.unusedVariables false
set_option linter.unusedSimpArgs false
set_option linter.constructorNameAsVariable false
set_option maxRecDepth 20000
attribute [local congr] Z0d Z0e Z0f Z0g Z0h Z0i Z0j Z0k Z0l Z0m Z0n Z0o Z0p Z0q Z0r Z0s Z0t Z0u Z0v Z0w Z0x Z0y Z0z Z0A Z0B Z0C Z0D
theorem Zuk {cs:List AV} (h:HasTs [.int .i64, .int .i64, .int .i64, .int .i64, .int .i64, .int .i64, .int .i64] cs):∃p:Msg,cs=encM p:=by
 simp only [HasTs,HasT] at h
 obtain ⟨_,_,rfl,⟨a,rfl,_⟩,_,_,rfl,⟨b,rfl,_⟩,_,_,rfl,⟨c,rfl,_⟩,_,_,rfl,⟨d,rfl,_⟩,_,_,rfl,⟨e,rfl,_⟩,_,_,rfl,⟨f,rfl,_⟩,_,_,rfl,⟨g,rfl,_⟩,rfl⟩:=h
 exact ⟨⟨a,b,c,d,e,f,g⟩,rfl⟩
theorem Zul {cs:List AV} (h:HasTs [.int .i64, .int .i64] cs):∃p:Hrd,cs=encH p:=by
 simp only [HasTs,HasT] at h
 obtain ⟨_,_,rfl,⟨a,rfl,_⟩,_,_,rfl,⟨b,rfl,_⟩,rfl⟩:=h
 exact ⟨⟨a,b⟩,rfl⟩
theorem has_Inbx {cs:List AV} (h:HasTs [.int .i64, .sl [.int .i64, .int .i64], .sl [.int .i64, .int .i64, .int .i64, .int .i64, .int .i64, .int .i64, .int .i64]] cs):∃(i:Inbx) (b1 b2:Bool),cs=cellsI b1 b2 i:=by
 obtain ⟨_,_,rfl,h1,_,_,rfl,h2,_,_,rfl,h3,rfl⟩:=h
 obtain ⟨n,rfl, -⟩:=h1
 obtain ⟨l,b1,rfl⟩:=ZcF (fun _ h=>Zul h) h2
 obtain ⟨m,b2,rfl⟩:=ZcF (fun _ h=>Zuk h) h3
 exact ⟨⟨n,l,m⟩,b1,b2,rfl⟩
theorem Zum {cs:List AV} (h:HasTs [.int .i64, .int .i64, .int .i64, .int .i64, .int .i64, .int .i64, .int .i64, .int .i64, .int .i64, .int .i64] cs):∃p:Envl,cs=encV p:=by
 simp only [HasTs,HasT] at h
 obtain ⟨_,_,rfl,⟨x,rfl,_⟩,_,_,rfl,⟨y,rfl,_⟩,_,_,rfl,⟨z,rfl,_⟩,_,_,rfl,⟨a,rfl,_⟩,_,_,rfl,⟨b,rfl,_⟩,_,_,rfl,⟨c,rfl,_⟩,_,_,rfl,⟨d,rfl,_⟩,_,_,rfl,⟨e,rfl,_⟩,_,_,rfl,⟨f,rfl,_⟩,_,_,rfl,⟨g,rfl,_⟩,rfl⟩:=h
 exact ⟨⟨x,y,z,⟨a,b,c,d,e,f,g⟩⟩,rfl⟩
theorem has_EnvsI {a:AV} (h:HasT (.sl [.int .i64, .int .i64, .int .i64, .int .i64, .int .i64, .int .i64, .int .i64, .int .i64, .int .i64, .int .i64]) a):∃(l:List Envl) (b:Bool),a=SL 10 encV b l:=ZcF (fun _ h=>Zum h) h
theorem Zun {β:Type} (v:AV) (h:Hp) (k:AV→Hp→Ent→Option β):effD (some (v,EF [])) h k=k v h ([],[]):=by
 simp [effD,ap,wrOf,EF]
theorem Zhh {β:Type} {shp shr:List Sh} {F:Fun} {args:List AV} {v:AV} (hF:∀h,closedX shp shr F args h=some (v,h)) (hi:idss args=[]) (h:Hp) (k:AV→Hp→Ent→Option β):effD (callE (some (closedXD shp shr F)) args h h.length) h k=k v h ([],[]):=by
 show effD (closedXD shp shr F args h h.length) h k=_
 rw [Z1A (hF h) h.length,hi]
 exact Zun v h k
theorem Zhi (b1 b2:Bool) (i:Inbx):ids (ib b1 b2 i)=[]:=by simp [ids,idss,SL]
theorem Zuo (e:Envl):ids (.agg (encV e))=[]:=by simp [ids,idss,encV,encM]
end Go.AM


namespace Go.AM
open Go.Proofs
set_option linter.unusedVariables false
set_option linter.unusedSimpArgs false
set_option linter.constructorNameAsVariable false
set_option maxRecDepth 20000
attribute [local congr] Z0d Z0e Z0f Z0g Z0h Z0i Z0j Z0k Z0l Z0m Z0n Z0o Z0p Z0q Z0r Z0s Z0t Z0u Z0v Z0w Z0x Z0y Z0z Z0A Z0B Z0C Z0D
structure RTk (c1 c2:Bool) (i:Inbx) (e:Envl) (L:List Hrd) (VM:AV) (h:Hp):Prop where
 g0:h[0]? = some (bxI c1 c2 i)
 g1:h[1]? = some (bxE e)
 g2:h[2]? = some (.arr 3 [zI] true false)
 g3:h[3]? = some (.arr 2 [zH] true false)
 g4:h[4]? = some (.arr 2 [encH ⟨e.frm,e.num⟩] true false)
 g8:h[8]? = some (.arr 2 (L.map encH) true false)
 g11:h[11]? = some (.arr 3 [[I i.node, .sl 2 8 0 L.length L.length false,VM]] true false)
def CVm (h:Hp) (V:AV) (M:List Msg):Prop:=(V = .sl 7 10 0 M.length M.length false∧h[10]? = some (.arr 7 (M.map encM) true false))∨V = .lst 7 false (M.map encM)
section
variable {c1 c2:Bool} {i:Inbx} {e:Envl} {L:List Hrd} {VM:AV} {h:Hp} {M:List Msg}
theorem CVm.cvt (C:CVm h VM M):cvt false h VM=some (.lst 7 false (M.map encM)):=by
 rcases C with ⟨rfl,h1⟩ | rfl
 ·exact Z0Y (st:=false) (n:=M.length) (fr:=M.length) (full:=false) h1 (by simp) (by simp) (Z0U fun x=>by simp [encM])
 ·exact Zbz ..
theorem RTk.l01 (R:RTk c1 c2 i e L VM h) (k:Go.AM.K AV):ldK 1 false (.ptr 0 0 1 1) h k=k (SL 2 encH c1 i.heard):=by rw [Z00,R.g0];rfl
theorem RTk.l13 (R:RTk c1 c2 i e L VM h) (k:Go.AM.K AV):ldK 7 true (.ptr 1 0 3 1) h k=k (.agg (encM e.msg)):=by rw [Z00,R.g1];rfl
theorem RTk.l4w (R:RTk c1 c2 i e L VM h) (k:Go.AM.K AV):ldK 2 true (.ptr 4 0 0 1) h k=k (.agg (encH ⟨e.frm,e.num⟩)):=by rw [Z00,R.g4];rfl
theorem RTk.out (R:RTk c1 c2 i e L VM h) (C:CVm h VM M) (fr:Bool):∃h1 h2:Hp,
  (∀(k:AV→Hp→Ent→Option AV),effD (stE 3 (.ptr 2 0 0 1) (.agg [I i.node, .sl 2 8 0 L.length L.length false,VM]) h) h k=k .u h1 ([2],[2])) ∧
  (∀(k:AV→Hp→Ent→Option AV),effD (stE 2 (.ptr 3 0 0 1) (.agg (encH ⟨e.frm,e.num⟩)) h1) h1 k=k .u h2 ([3],[3])) ∧
  (∀k:Go.AM.K AV,ldK 3 true (.ptr 11 0 0 1) h k=k (.agg [I i.node, .sl 2 8 0 L.length L.length false,VM])) ∧
  (∀k:Go.AM.K AV,ldK 3 true (.ptr 2 0 0 1) h2 k=k (.agg [I i.node, .sl 2 8 0 L.length L.length false,VM])) ∧
  (∀k:Go.AM.K AV,ldK 2 true (.ptr 3 0 0 1) h2 k=k (.agg (encH ⟨e.frm,e.num⟩))) ∧
  cvt false h2 (.tup [.agg [I i.node, .sl 2 8 0 L.length L.length false,VM], .agg (encH ⟨e.frm,e.num⟩),B fr,I 0])=some (.tup [.agg [I i.node, .lst 2 false (L.map encH), .lst 7 false (M.map encM)], .agg (encH ⟨e.frm,e.num⟩),B fr,I 0]):=by
 have hs:(∃id n,VM = .sl 7 id 0 n n false)∨∃es,VM = .lst 7 false es:=by
  rcases C with ⟨rfl, -⟩ | rfl
  ·exact .inl ⟨_,_,rfl⟩
  ·exact .inr ⟨_,rfl⟩
 obtain ⟨o,ho⟩:∃o:AObj,o = .arr 3 [[I i.node, .sl 2 8 0 L.length L.length false,VM]] true false:=⟨_,rfl⟩
 have a3:(h.set 2 o)[3]? = some (.arr 2 [zH] true false):=getSetN R.g3 (by omega)
 have C2:CVm ((h.set 2 o).set 3 (.arr 2 [encH ⟨e.frm,e.num⟩] true false)) VM M:=by
  rcases C with ⟨rfl,h1⟩ | rfl
  ·exact .inl ⟨rfl,getSetN (getSetN h1 (by omega)) (by omega)⟩
  ·exact .inr rfl
 have g82:((h.set 2 o).set 3 (.arr 2 [encH ⟨e.frm,e.num⟩] true false))[8]? = some (.arr 2 (L.map encH) true false):=getSetN (getSetN R.g8 (by omega)) (by omega)
 refine ⟨h.set 2 o,(h.set 2 o).set 3 (.arr 2 [encH ⟨e.frm,e.num⟩] true false),fun k => ?_,fun k => ?_,fun k => ?_,fun k => ?_,fun k => ?_, ?_⟩
 ·have:stE 3 (.ptr 2 0 0 1) (.agg [I i.node, .sl 2 8 0 L.length L.length false,VM]) h=some (.u,⟨[(2,o)],[],[2]⟩):=by
   rw [Z0G,R.g2,ho]
   rcases hs with ⟨id,n,rfl⟩ | ⟨es,rfl⟩<;>simp [putAt]
  exact Z09 this k
 ·have:stE 2 (.ptr 3 0 0 1) (.agg (encH ⟨e.frm,e.num⟩)) (h.set 2 o)=some (.u,⟨[(3, .arr 2 [encH ⟨e.frm,e.num⟩] true false)],[],[3]⟩):=by
   rw [Z0G,a3]
   simp [putAt,encH]
  exact Z09 this k
 ·rw [Z00,R.g11];rcases hs with ⟨id,n,rfl⟩ | ⟨es,rfl⟩<;>rfl
 ·have:((h.set 2 o).set 3 (.arr 2 [encH ⟨e.frm,e.num⟩] true false))[2]? = some o:=getSetN (getSelfN R.g2) (by omega)
  rw [Z00,this,ho];rcases hs with ⟨id,n,rfl⟩ | ⟨es,rfl⟩<;>rfl
 ·have:((h.set 2 o).set 3 (.arr 2 [encH ⟨e.frm,e.num⟩] true false))[3]? = some (.arr 2 [encH ⟨e.frm,e.num⟩] true false):=getSelfN a3
  rw [Z00,this];rfl
 ·have cw:cvt false ((h.set 2 o).set 3 (.arr 2 [encH ⟨e.frm,e.num⟩] true false)) (.sl 2 8 0 L.length L.length false)=some (.lst 2 false (L.map encH)):=Z0Y (st:=false) (n:=L.length) (fr:=L.length) (full:=false) g82 (by simp) (by simp) (Z0U fun x=>by simp [encH])
  simp only [Z28,Z1h,Z1g,Z4s,cvt_s,C2.cvt,cw]
  rfl
end
end Go.AM


namespace Go.AM
open Go.Proofs
set_option linter.unusedVariables false
set_option linter.unusedSimpArgs false
set_option linter.constructorNameAsVariable false
set_option maxRecDepth 20000
attribute [local congr] Z0d Z0e Z0f Z0g Z0h Z0i Z0j Z0k Z0l Z0m Z0n Z0o Z0p Z0q Z0r Z0s Z0t Z0u Z0v Z0w Z0x Z0y Z0z Z0A Z0B Z0C Z0D
section
variable {c1 c2:Bool} {i:Inbx} {e:Envl} {L:List Hrd} {VM:AV} {h:Hp} {M:List Msg}
end
end Go.AM


namespace Go.AM
open Go.Proofs
set_option linter.unusedVariables false
set_option linter.unusedSimpArgs false
set_option linter.constructorNameAsVariable false
set_option maxRecDepth 20000
attribute [local congr] Z0d Z0e Z0f Z0g Z0h Z0i Z0j Z0k Z0l Z0m Z0n Z0o Z0p Z0q Z0r Z0s Z0t Z0u Z0v Z0w Z0x Z0y Z0z Z0A Z0B Z0C Z0D
end Go.AM


namespace Go.AM
open Go.Proofs
set_option linter.unusedVariables false
set_option linter.unusedSimpArgs false
set_option linter.constructorNameAsVariable false
set_option maxRecDepth 20000
attribute [local congr] Z0d Z0e Z0f Z0g Z0h Z0i Z0j Z0k Z0l Z0m Z0n Z0o Z0p Z0q Z0r Z0s Z0t Z0u Z0v Z0w Z0x Z0y Z0z Z0A Z0B Z0C Z0D
end Go.AM


namespace Go.AM
open Go.Proofs
set_option linter.unusedVariables false
set_option linter.unusedSimpArgs false
set_option linter.constructorNameAsVariable false
set_option maxRecDepth 20000
attribute [local congr] Z0d Z0e Z0f Z0g Z0h Z0i Z0j Z0k Z0l Z0m Z0n Z0o Z0p Z0q Z0r Z0s Z0t Z0u Z0v Z0w Z0x Z0y Z0z Z0A Z0B Z0C Z0D
end Go.AM


namespace Go.AM
open Go.Proofs
set_option linter.unusedVariables false
set_option linter.unusedSimpArgs false
set_option linter.constructorNameAsVariable false
set_option maxRecDepth 20000
attribute [local congr] Z0d Z0e Z0f Z0g Z0h Z0i Z0j Z0k Z0l Z0m Z0n Z0o Z0p Z0q Z0r Z0s Z0t Z0u Z0v Z0w Z0x Z0y Z0z Z0A Z0B Z0C Z0D
theorem Zup {shp shr:List Sh} {F:Fun} {args:List AV} {v:AV} {h h1:Hp} (ha:plains args=true) (hF:closedX shp shr F args h=some (v,h1)) (h':Hp):closedX shp shr F args h'=some (v,h'):=by
 unfold closedX at hF ⊢
 rw [Z22 ha] at hF ⊢
 dsimp only at hF ⊢
 cases q:F (nrms shp args) [] with
 | none=>rw [q] at hF;cases hF
 | some p=>
  rw [q] at hF
  dsimp only at hF ⊢
  cases q2:cvt (!plains args) p.2 p.1 with
  | none=>rw [q2] at hF;cases hF
  | some w=>
   rw [q2] at hF
   injection hF with hF
   injection hF with h1 h2
   rw [← h1]
end Go.AM


namespace Go.AM
open Go.Proofs
set_option linter.unusedVariables false
set_option linter.unusedSimpArgs false
set_option linter.constructorNameAsVariable false
theorem Zhj {l:List Hrd} {x y:Hrd}:y ∈ insH l x↔y=x∨y ∈ l:=by
 unfold insH
 rw [List.mem_append,List.mem_cons]
 have:y ∈ l↔y ∈ l.take (posH l x)∨y ∈ l.drop (posH l x):=by rw [← List.mem_append,List.take_append_drop]
 rw [this]
 constructor
 ·rintro (h | h | h)
  ·exact .inr (.inl h)
  ·exact .inl h
  ·exact .inr (.inr h)
 ·rintro (h | h | h)
  ·exact .inr (.inl h)
  ·exact .inl h
  ·exact .inr (.inr h)
theorem Zuq {l:List Hrd} {x:Hrd} (hs:AscH l) (hn:x ∉ l):AscH (insH l x):=by
 have hlo:∀y ∈ l.take (posH l x),ltH y x=true:=fun y hy=>by
  obtain ⟨j,hj,he⟩:=List.mem_iff_getElem.1 hy
  rw [List.length_take] at hj
  rw [List.getElem_take] at he
  have:=ZcB (x:=x) hs (j:=j) (y:=y) (by rw [List.getElem?_eq_some_iff];exact ⟨by omega,he⟩)
  rw [this];simp;omega
 have hhi:∀y ∈ l.drop (posH l x),ltH x y=true:=fun y hy=>by
  obtain ⟨j,hj,he⟩:=List.mem_iff_getElem.1 hy
  rw [List.length_drop] at hj
  rw [List.getElem_drop] at he
  have h1:=ZcB (x:=x) hs (j:=posH l x+j) (y:=y) (by rw [List.getElem?_eq_some_iff];exact ⟨by omega,he⟩)
  have h2:ltH y x=false:=by rw [h1];simp
  cases q:ltH x y with
  | true=>rfl
  | false=>
   have:=ZtQ q h2
   subst this
   exact absurd (List.mem_of_mem_drop hy) hn
 have hsp:AscH (l.take (posH l x)++l.drop (posH l x)):=by rw [List.take_append_drop];exact hs
 obtain ⟨p1,p2,p3⟩:=List.pairwise_append.1 hsp
 unfold insH
 refine List.pairwise_append.2 ⟨p1,List.pairwise_cons.2 ⟨hhi,p2⟩,fun a ha b hb => ?_⟩
 rcases List.mem_cons.1 hb with rfl | hb
 ·exact hlo a ha
 ·exact p3 a ha b hb
theorem Zhk {node:Int}:∀ {l:List Hrd} {p:Option Hrd},AscH l→(∀q,p=some q→∀x ∈ l,ltH q x=true)→(∀x ∈ l,isNode x.frm=true∧1≤x.num∧x.num≤1073741824∧x.frm≠node)→chkH node p l=0
 | [],p,_,_,_=>ZgV node p
 | x::r,p,hs,hp,hv=>by
  obtain ⟨v1,v2,v3,v4⟩:=hv x (by simp)
  obtain ⟨q1,q2⟩:=List.pairwise_cons.1 hs
  have e1:(!isNode x.frm||decide (x.num<1)||decide (x.num > 1073741824))=false:=by
   rw [v1];simp;omega
  have e2:lastLt p x=false:=by
   cases p with
   | none=>rfl
   | some q=>simp [lastLt,hp q rfl x (by simp)]
  rw [Zui,if_neg (by rw [e1];simp),if_neg v4,if_neg (by rw [e2];simp)]
  exact Zhk q2 (fun q hq y hy=>by injection hq with hq;subst hq;exact q1 y hy) (fun y hy=>hv y (by simp [hy]))
def inI (i:Inbx) (e:Envl):Inbx:=⟨i.node,insH i.heard ⟨e.frm,e.num⟩,if i.msgs.contains e.msg=true then i.msgs else normL (i.msgs++[e.msg])⟩
theorem Zhl (i:Inbx) (e:Envl):((takeI i e).2.2.2≠0∧(takeI i e).1=⟨0,[],[]⟩∧(takeI i e).2.2.1=false) ∨
  (chkI i=0∧formE e=0∧e.to=i.node∧(⟨e.frm,e.num⟩:Hrd) ∈ i.heard∧takeI i e=(i,⟨e.frm,e.num⟩,false,0)) ∨
  (chkI i=0∧formE e=0∧e.to=i.node∧(⟨e.frm,e.num⟩:Hrd) ∉ i.heard∧i.heard.length≠256∧(i.msgs.contains e.msg=false→i.msgs.length≠64)∧takeI i e=(inI i e,⟨e.frm,e.num⟩,true,0)):=by
 unfold takeI
 by_cases h1:chkI i=0
 ·rw [if_neg (fun hh=>hh h1)]
  by_cases h2:formE e=0
  ·rw [if_neg (fun hh=>hh h2)]
   by_cases h3:e.to=i.node
   ·rw [if_neg (fun hh=>hh h3)]
    by_cases h4:i.heard.contains ⟨e.frm,e.num⟩=true
    ·rw [if_pos h4]
     exact .inr (.inl ⟨h1,h2,h3,List.contains_iff_mem.1 h4,rfl⟩)
    ·rw [if_neg h4]
     by_cases h5:i.heard.length=256∨(i.msgs.contains e.msg=false∧i.msgs.length=64)
     ·rw [if_pos h5]
      exact .inl ⟨by simp,rfl,rfl⟩
     ·rw [if_neg h5]
      exact .inr (.inr ⟨h1,h2,h3,fun hh=>h4 (List.contains_iff_mem.2 hh),fun hh=>h5 (.inl hh),fun h6 h7=>h5 (.inr ⟨h6,h7⟩),rfl⟩)
   ·rw [if_pos h3];exact .inl ⟨by simp,rfl,rfl⟩
  ·rw [if_pos h2];exact .inl ⟨h2,rfl,rfl⟩
 ·rw [if_pos h1];exact .inl ⟨by simp,rfl,rfl⟩
theorem Zhm (i:Inbx) (e:Envl) (m:Msg):m ∈ (inI i e).msgs↔m ∈ i.msgs∨m=e.msg:=by
 unfold inI
 dsimp only
 by_cases h:i.msgs.contains e.msg=true
 ·rw [if_pos h]
  constructor
  ·exact .inl
  ·rintro (h1 | rfl)
   ·exact h1
   ·exact List.contains_iff_mem.1 h
 ·rw [if_neg h,Zct,List.mem_append,List.mem_singleton]
theorem Zur (i:Inbx) (e:Envl) (h:normL i.msgs=i.msgs):normL (inI i e).msgs=(inI i e).msgs:=by
 unfold inI
 dsimp only
 by_cases q:i.msgs.contains e.msg=true
 ·rw [if_pos q];exact h
 ·rw [if_neg q];exact ZaQ (Zcs _)
theorem Zus {i:Inbx} {e:Envl} (h1:chkI i=0) (h2:formE e=0) (h3:e.to=i.node) (h4:(⟨e.frm,e.num⟩:Hrd) ∉ i.heard) (h5:i.heard.length≠256) (h6:i.msgs.contains e.msg=false→i.msgs.length≠64):chkI (inI i e)=0:=by
 obtain ⟨k1,k2,k3,k4,k5,k6,k7⟩:=Z7S h1
 obtain ⟨hasc, -,hval⟩:=Z68 k4
 obtain ⟨m1,m2,m3,m4,m5,m6⟩:=Zh4 h2
 have hlen:(inI i e).heard.length=i.heard.length+1:=ZcD _ _
 have hml:(inI i e).msgs.length≤64∧(inI i e).msgs.length≤i.msgs.length+1:=by
  unfold inI
  dsimp only
  by_cases q:i.msgs.contains e.msg=true
  ·rw [if_pos q];omega
  ·rw [if_neg q]
   have:=h6 (by simpa using q)
   have l:=Zco (i.msgs++[e.msg])
   simp only [List.length_append,List.length_singleton] at l
   omega
 refine ZaW k1 (by omega) hml.1 (Zhk (Zuq hasc h4) (fun q hq=>by cases hq) fun x hx => ?_) (ZaR.2 ⟨hml.1,fun m hm => ?_⟩) (Zur i e k6) (by omega)
 ·rcases Zhj.1 hx with rfl | hx
  ·exact ⟨m2,m4,m5,fun hh=>m6 (hh.trans h3.symm)⟩
  ·exact hval x hx
 ·rcases (Zhm i e m).1 hm with hm | rfl
  ·exact (ZaR.1 k5).2 m hm
  ·exact m1
end Go.AM


namespace Go.AM
open Go.Proofs
set_option linter.unusedVariables false
set_option linter.unusedSimpArgs false
set_option linter.constructorNameAsVariable false
set_option maxRecDepth 20000
attribute [local congr] Z0d Z0e Z0f Z0g Z0h Z0i Z0j Z0k Z0l Z0m Z0n Z0o Z0p Z0q Z0r Z0s Z0t Z0u Z0v Z0w Z0x Z0y Z0z Z0A Z0B Z0C Z0D
def smallI (i:Inbx):Bool:=decide (i.heard.length≤20)&&decide (i.msgs.length≤20)
theorem Zut (b1 b2:Bool) (i:Inbx) (h:Hp):Z7L [ib b1 b2 i] h=some (B (smallI i),h):=by
 refine Zs9 (a0:=ib b1 b2 i) rfl ?_ h
 rw [show nrm (.a [none,some 2,some 7]) (ib b1 b2 i)=ib b1 b2 i from rfl]
 have x0:∀k:AV→Hp→Option AV,effK (boxE 3 (ib b1 b2 i) ([]:Hp).length) [] k=k (.ptr 0 0 0 1) [bxI b1 b2 i]:=fun k=>rfl
 have l1:∀k:Go.AM.K AV,ldK 1 false (.ptr 0 0 1 1) [bxI b1 b2 i] k=k (SL 2 encH b1 i.heard):=fun k=>rfl
 have l2:∀k:Go.AM.K AV,ldK 1 false (.ptr 0 0 2 1) [bxI b1 b2 i] k=k (SL 7 encM b2 i.msgs):=fun k=>rfl
 have la:∀k:Go.AM.K AV,lenK (SL 2 encH b1 i.heard) k=k (I i.heard.length):=fun k=>by rw [SL,Z0b,List.length_map]
 have lb:∀k:Go.AM.K AV,lenK (SL 7 encM b2 i.msgs) k=k (I i.msgs.length):=fun k=>by rw [SL,Z0b,List.length_map]
 simp -implicitDefEqProofs only [Z8n,x0,Z0c,Nat.zero_add,l1,l2,la,lb,Z17,Z0X]
 unfold smallI
 have e1:decide ((i.heard.length:Int)≤20)=decide (i.heard.length≤20):=by by_cases q:i.heard.length≤20<;>simp [q]<;>omega
 have e2:decide ((i.msgs.length:Int)≤20)=decide (i.msgs.length≤20):=by by_cases q:i.msgs.length≤20<;>simp [q]<;>omega
 rw [e1,e2]
 rfl
end Go.AM


namespace Go.AM
open Go.Proofs
set_option linter.unusedVariables false
set_option linter.unusedSimpArgs false
set_option linter.constructorNameAsVariable false
theorem Zhn:∀ {a b:List Hrd},AscH a→AscH b→(∀x,x ∈ a↔x ∈ b)→a=b
 | [],[],_,_,_=>rfl
 | [],y::b,_,_,h=>by have:=(h y).2 (by simp);simp at this
 | x::a,[],_,_,h=>by have:=(h x).1 (by simp);simp at this
 | x::a,y::b,ha,hb,h=>by
  obtain ⟨ha1,ha2⟩:=List.pairwise_cons.1 ha
  obtain ⟨hb1,hb2⟩:=List.pairwise_cons.1 hb
  have e:x=y:=by
   rcases List.mem_cons.1 ((h x).1 (by simp)) with e | h1
   ·exact e
   ·rcases List.mem_cons.1 ((h y).2 (by simp)) with e | h2
    ·exact e.symm
    ·have h5:=Zcz (hb1 x h1) (ha1 y h2)
     rw [ZcA] at h5
     cases h5
  subst e
  rw [Zhn ha2 hb2 fun z => ?_]
  have hz:=h z
  simp only [List.mem_cons] at hz
  constructor
  ·intro hm
   rcases hz.1 (.inr hm) with rfl | h1
   ·have:=ha1 z hm;rw [ZcA] at this;cases this
   ·exact h1
  ·intro hm
   rcases hz.2 (.inr hm) with rfl | h1
   ·have:=hb1 z hm;rw [ZcA] at this;cases this
   ·exact h1
def stepT (X:Inbx) (e:Envl):Inbx:=if (takeI X e).2.2.2=0 then (takeI X e).1 else X
theorem Zuu (X:Inbx) (e:Envl):(stepT X e).heard.length≤X.heard.length+1∧(stepT X e).msgs.length≤X.msgs.length+1:=by
 unfold stepT
 by_cases q:(takeI X e).2.2.2=0
 ·rw [if_pos q];exact ZaV X e
 ·rw [if_neg q];omega
theorem Zho {X:Inbx} {e:Envl} (h:chkI X≠0∨formE e≠0∨e.to≠X.node):stepT X e=X:=by
 unfold stepT
 rcases Zhl X e with ⟨h1, -⟩ | ⟨h1,h2,h3, -⟩ | ⟨h1,h2,h3, -⟩
 ·rw [if_neg h1]
 ·rcases h with h | h | h
  ·exact absurd h1 h
  ·exact absurd h2 h
  ·exact absurd h3 h
 ·rcases h with h | h | h
  ·exact absurd h1 h
  ·exact absurd h2 h
  ·exact absurd h3 h
abbrev hdE (e:Envl):Hrd:=⟨e.frm,e.num⟩
structure Behind (i X:Inbx) (P:List Envl):Prop where
 node:X.node=i.node
 ok:chkI X=0
 hrd:∀h,h ∈ X.heard↔h ∈ i.heard∨∃e ∈ P,formE e=0∧e.to=i.node∧hdE e=h
 msg:∀m,m ∈ X.msgs↔m ∈ i.msgs∨∃e ∈ P,formE e=0∧e.to=i.node∧hdE e ∉ i.heard∧e.msg=m
 lh:X.heard.length≤i.heard.length+P.length
 lm:X.msgs.length≤i.msgs.length+P.length
theorem Behind.step {i X:Inbx} {P:List Envl} {e:Envl} (B:Behind i X P) (hs:smallI i=true) (hP:P.length<40) (hu:∀e' ∈ P,hdE e'=hdE e→e'=e):Behind i (stepT X e) (P++[e]):=by
 have hs':=hs
 unfold smallI at hs'
 simp only [Bool.and_eq_true,decide_eq_true_eq] at hs'
 have lh:=B.lh
 have lm:=B.lm
 by_cases g:formE e=0∧e.to=i.node
 ·obtain ⟨g1,g2⟩:=g
  rcases Zhl X e with ⟨h1, -⟩ | ⟨h1,h2,h3,h4,h5⟩ | ⟨h1,h2,h3,h4,h5,h6,h7⟩
  ·exfalso
   apply h1
   unfold takeI
   rw [if_neg (fun hh=>hh B.ok),if_neg (fun hh=>hh g1),if_neg (fun hh=>hh (g2.trans B.node.symm))]
   by_cases q:X.heard.contains (hdE e)=true
   ·rw [if_pos q]
   ·rw [if_neg q,if_neg (by omega)]
  ·have:stepT X e=X:=by unfold stepT;rw [h5];rfl
   rw [this]
   refine ⟨B.node,B.ok,fun h => ?_,fun m => ?_,by simp;omega,by simp;omega⟩
   ·rw [B.hrd]
    constructor
    ·rintro (h | ⟨e',he,r⟩)
     ·exact .inl h
     ·exact .inr ⟨e',by simp [he],r⟩
    ·rintro (h | ⟨e',he,r1,r2,r3⟩)
     ·exact .inl h
     ·rcases List.mem_append.1 he with he | he
      ·exact .inr ⟨e',he,r1,r2,r3⟩
      ·simp only [List.mem_singleton] at he;subst he
       rw [← r3];exact (B.hrd _).1 h4
   ·rw [B.msg]
    constructor
    ·rintro (h | ⟨e',he,r⟩)
     ·exact .inl h
     ·exact .inr ⟨e',by simp [he],r⟩
    ·rintro (h | ⟨e',he,r1,r2,r3,r4⟩)
     ·exact .inl h
     ·rcases List.mem_append.1 he with he | he
      ·exact .inr ⟨e',he,r1,r2,r3,r4⟩
      ·simp only [List.mem_singleton] at he;subst he
       rcases (B.hrd _).1 h4 with q | ⟨e2,he2,q1,q2,q3⟩
       ·exact absurd q r3
       ·have:=hu e2 he2 q3
        subst this
        exact .inr ⟨e2,he2,q1,q2,r3,r4⟩
  ·have:stepT X e=inI X e:=by unfold stepT;rw [h7];rfl
   rw [this]
   have hlen:=ZaV X e
   rw [h7] at hlen
   dsimp only at hlen
   refine ⟨B.node,Zus h1 h2 h3 h4 h5 h6,fun h => ?_,fun m => ?_,by simp;omega,by simp;omega⟩
   ·rw [show h ∈ (inI X e).heard↔h=hdE e∨h ∈ X.heard from Zhj,B.hrd]
    constructor
    ·rintro (h | h | ⟨e',he,r⟩)
     ·exact .inr ⟨e,by simp,g1,g2,h.symm⟩
     ·exact .inl h
     ·exact .inr ⟨e',by simp [he],r⟩
    ·rintro (h | ⟨e',he,r1,r2,r3⟩)
     ·exact .inr (.inl h)
     ·rcases List.mem_append.1 he with he | he
      ·exact .inr (.inr ⟨e',he,r1,r2,r3⟩)
      ·simp only [List.mem_singleton] at he;subst he
       exact .inl r3.symm
   ·rw [Zhm,B.msg]
    constructor
    ·rintro ((h | ⟨e',he,r⟩) | h)
     ·exact .inl h
     ·exact .inr ⟨e',by simp [he],r⟩
     ·exact .inr ⟨e,by simp,g1,g2,fun hh=>h4 ((B.hrd _).2 (.inl hh)),h.symm⟩
    ·rintro (h | ⟨e',he,r1,r2,r3,r4⟩)
     ·exact .inl (.inl h)
     ·rcases List.mem_append.1 he with he | he
      ·exact .inl (.inr ⟨e',he,r1,r2,r3,r4⟩)
      ·simp only [List.mem_singleton] at he;subst he
       exact .inr r4.symm
 ·have:stepT X e=X:=Zho (by
   by_cases q:formE e=0
   ·exact .inr (.inr fun hh=>g ⟨q,hh.trans B.node⟩)
   ·exact .inr (.inl q))
  rw [this]
  refine ⟨B.node,B.ok,fun h => ?_,fun m => ?_,by simp;omega,by simp;omega⟩
  ·rw [B.hrd]
   constructor
   ·rintro (h | ⟨e',he,r⟩)
    ·exact .inl h
    ·exact .inr ⟨e',by simp [he],r⟩
   ·rintro (h | ⟨e',he,r1,r2,r3⟩)
    ·exact .inl h
    ·rcases List.mem_append.1 he with he | he
     ·exact .inr ⟨e',he,r1,r2,r3⟩
     ·simp only [List.mem_singleton] at he;subst he
      exact absurd ⟨r1,r2⟩ g
  ·rw [B.msg]
   constructor
   ·rintro (h | ⟨e',he,r⟩)
    ·exact .inl h
    ·exact .inr ⟨e',by simp [he],r⟩
   ·rintro (h | ⟨e',he,r1,r2,r3⟩)
    ·exact .inl h
    ·rcases List.mem_append.1 he with he | he
     ·exact .inr ⟨e',he,r1,r2,r3⟩
     ·simp only [List.mem_singleton] at he;subst he
      exact absurd ⟨r1,r2⟩ g
theorem Behind.all {i:Inbx} {L:List Envl} (hs:smallI i=true) (hL:L.length<40) (hu:∀a ∈ L,∀b ∈ L,hdE a=hdE b→a=b):∀(post pre:List Envl) (X:Inbx),L=pre++post→Behind i X pre→Behind i (post.foldl stepT X) L
 | [],pre,X,hc,B=>by
  rw [List.append_nil] at hc
  subst hc
  exact B
 | e::post,pre,X,hc,B=>by
  have hlen:L.length=pre.length+post.length+1:=by rw [hc];simp;omega
  exact Behind.all hs hL hu post (pre++[e]) (stepT X e) (by simp [hc]) (B.step hs (by omega) fun e' he' hh=>hu e' (by rw [hc];simp [he']) e (by rw [hc];simp) hh)
theorem ZcG {i:Inbx} (h:chkI i≠0):∀L:List Envl,L.foldl stepT i=i
 | []=>rfl
 | e::L=>by rw [List.foldl_cons,Zho (.inl h)];exact ZcG h L
theorem Zuv {i:Inbx} {l m:List Envl} (hs:smallI i=true) (hl:l.length<40) (hm:m.length<40) (hlm:∀e,e ∈ l↔e ∈ m) (hu:∀a ∈ l,∀b ∈ l,hdE a=hdE b→a=b):l.foldl stepT i=m.foldl stepT i:=by
 by_cases hc:chkI i=0
 ·have B0:Behind i i []:=⟨rfl,hc,fun h=>by simp,fun m=>by simp,by simp,by simp⟩
  have A:=Behind.all hs hl hu l [] i rfl B0
  have B:=Behind.all hs hm (fun a ha b hb=>hu a ((hlm a).2 ha) b ((hlm b).2 hb)) m [] i rfl B0
  generalize l.foldl stepT i=X at A
  generalize m.foldl stepT i=Y at B
  obtain ⟨-, -, -,x4, -,x6, -⟩:=Z7S A.ok
  obtain ⟨-, -, -,y4, -,y6, -⟩:=Z7S B.ok
  have e1:X.node=Y.node:=A.node.trans B.node.symm
  have e2:X.heard=Y.heard:=Zhn (Z68 x4).1 (Z68 y4).1 fun h=>by
   rw [A.hrd,B.hrd]
   constructor
   ·rintro (h | ⟨e,he,r⟩)
    ·exact .inl h
    ·exact .inr ⟨e,(hlm e).1 he,r⟩
   ·rintro (h | ⟨e,he,r⟩)
    ·exact .inl h
    ·exact .inr ⟨e,(hlm e).2 he,r⟩
  have e3:X.msgs=Y.msgs:=by
   rw [← x6, ← y6]
   refine Ztv fun m => ?_
   rw [A.msg,B.msg]
   constructor
   ·rintro (h | ⟨e,he,r⟩)
    ·exact .inl h
    ·exact .inr ⟨e,(hlm e).1 he,r⟩
   ·rintro (h | ⟨e,he,r⟩)
    ·exact .inl h
    ·exact .inr ⟨e,(hlm e).2 he,r⟩
  obtain ⟨a1,a2,a3⟩:=X
  obtain ⟨b1,b2,b3⟩:=Y
  dsimp only at e1 e2 e3
  rw [e1,e2,e3]
 ·rw [ZcG hc,ZcG hc]
end Go.AM


namespace Go.AM
open Go.Proofs
set_option linter.unusedVariables false
set_option linter.unusedSimpArgs false
set_option linter.constructorNameAsVariable false
set_option maxRecDepth 20000
attribute [local congr] Z0d Z0e Z0f Z0g Z0h Z0i Z0j Z0k Z0l Z0m Z0n Z0o Z0p Z0q Z0r Z0s Z0t Z0u Z0v Z0w Z0x Z0y Z0z Z0A Z0B Z0C Z0D
theorem boxD {β:Type} {sz:Nat} {c:List AV} (hc:c.length=sz) (ho:c.all okC=true) (H:Hp) (k:AV→Hp→Ent→Option β):effD (boxE sz (.agg c) H.length) H k=k (.ptr H.length 0 0 1) (H++[.arr sz [c] true false]) ([],[H.length]):=by
 have:boxE sz (.agg c) H.length=some (.ptr H.length 0 0 1,EN (.arr sz [c] true false)):=by simp [boxE,hc,ho]
 rw [this,Zcm]
theorem Zuw {β:Type} (H:Hp) (b1 b2:Bool) (x:Inbx) (p:Hrd):
  (∀k:AV→Hp→Ent→Option β,effD (boxE 3 (.agg zI) H.length) H k=k (.ptr H.length 0 0 1) (H++[.arr 3 [zI] true false]) ([],[H.length])) ∧
  (∀k:AV→Hp→Ent→Option β,effD (boxE 2 (.agg zH) (H++[AObj.arr 3 [zI] true false]).length) (H++[.arr 3 [zI] true false]) k=k (.ptr (H.length+1) 0 0 1) (H++[.arr 3 [zI] true false, .arr 2 [zH] true false]) ([],[H.length+1])) ∧
  (∀k:AV→Hp→Ent→Option β,effD (stE 3 (.ptr H.length 0 0 1) (ib b1 b2 x) (H++[.arr 3 [zI] true false, .arr 2 [zH] true false])) (H++[.arr 3 [zI] true false, .arr 2 [zH] true false]) k=k .u (H++[bxI b1 b2 x, .arr 2 [zH] true false]) ([H.length],[H.length])) ∧
  (∀k:AV→Hp→Ent→Option β,effD (stE 2 (.ptr (H.length+1) 0 0 1) (.agg (encH p)) (H++[bxI b1 b2 x, .arr 2 [zH] true false])) (H++[bxI b1 b2 x, .arr 2 [zH] true false]) k=k .u (H++[bxI b1 b2 x, .arr 2 [encH p] true false]) ([H.length+1],[H.length+1])):=by
 refine ⟨fun k=>boxD rfl rfl H k,fun k => ?_,fun k => ?_,fun k => ?_⟩
 ·rw [boxD (sz:=2) (c:=zH) rfl rfl];simp
 ·have:stE 3 (.ptr H.length 0 0 1) (ib b1 b2 x) (H++[.arr 3 [zI] true false, .arr 2 [zH] true false])=some (.u,⟨[(H.length,bxI b1 b2 x)],[],[H.length]⟩):=by
   rw [Z0G,List.getElem?_append_right (Nat.le_refl _),Nat.sub_self]
   simp [putAt]
  rw [Z09 this,List.set_append_right _ _ (Nat.le_refl _),Nat.sub_self]
  rfl
 ·have:stE 2 (.ptr (H.length+1) 0 0 1) (.agg (encH p)) (H++[bxI b1 b2 x, .arr 2 [zH] true false])=some (.u,⟨[(H.length+1, .arr 2 [encH p] true false)],[],[H.length+1]⟩):=by
   rw [Z0G,List.getElem?_append_right (by omega),show H.length+1-H.length=1 by omega]
   simp [putAt,encH]
  rw [Z09 this,List.set_append_right _ _ (by omega),show H.length+1-H.length=1 by omega]
  rfl
theorem stIz {β:Type} {h:Hp} {p:Nat} {b1 b2:Bool} {i:Inbx} (g:h[p]? = some (.arr 3 [zI] true false)) (k:AV→Hp→Option β):effK (stE 3 (.ptr p 0 0 1) (ib b1 b2 i) h) h k=k .u (h.set p (bxI b1 b2 i)):=by
 have:stE 3 (.ptr p 0 0 1) (ib b1 b2 i) h=some (.u,⟨[(p,bxI b1 b2 i)],[],[p]⟩):=by
  rw [Z0G,g]
  simp [putAt]
 rw [Z0a this]
structure TkInv (h H:Hp) (X:Inbx) (b1 b2:Bool):Prop where
 ext:∃g,H=h++g
 g0:H[h.length]? = some (.arr 3 [zI] true false)
 g1:H[h.length+1]? = some (bxI b1 b2 X)
theorem TkInv.app {h H:Hp} {X:Inbx} {b1 b2:Bool} (I:TkInv h H X b1 b2) (g:Hp):TkInv h (H++g) X b1 b2:=by
 obtain ⟨⟨g',rfl⟩,q1,q2⟩:=I
 exact ⟨⟨g'++g,by rw [List.append_assoc]⟩,Z08 q1,Z08 q2⟩
theorem TkInv.put {h H:Hp} {X Y:Inbx} {b1 b2 c1 c2:Bool} (I:TkInv h H X b1 b2):TkInv h (H.set (h.length+1) (bxI c1 c2 Y)) Y c1 c2:=by
 obtain ⟨⟨g',rfl⟩,q1,q2⟩:=I
 refine ⟨⟨g'.set 1 (bxI c1 c2 Y), ?_⟩,getSetN q1 (by omega),getSelfN q2⟩
 rw [List.set_append_right _ _ (by omega),show h.length+1-h.length=1 by omega]
theorem Zux {x0:AV→AV→Hp→Option (AV × Hp)} {L:List Envl} {v:AV} {h:Hp} (hL:L.length<1000) (hE:∀(H:Hp),(∃g,H=h++g)→∀(j:Nat) (x:Envl),L[j]? = some x→∀k:Go.AM.K (AV × Hp),iaK 10 v (I j) (fun q=>ldK 10 true q H k)=k (.agg (encV x))):∀(n:Nat) (pre post:List Envl) (X:Inbx) (b1 b2:Bool) (H:Hp),L=pre++post→post.length<n→TkInv h H X b1 b2→X.heard.length+post.length<500→X.msgs.length+post.length<500→
  ∃c1 c2 H',Z1u Try.prog Z16 Z0Z NN x0 n (.ptr h.length 0 0 1) (.ptr (h.length+1) 0 0 1) v (I L.length) (I pre.length) H=x0 (.ptr h.length 0 0 1) (.ptr (h.length+1) 0 0 1) H'∧TkInv h H' (post.foldl stepT X) c1 c2:=by
 intro n
 induction n with
 | zero=>intro pre post X b1 b2 H _ h2;omega
 | succ n ih=>
  intro pre post X b1 b2 H hc hn J hx hm
  cases post with
  | nil=>
   have:L=pre:=by simpa using hc
   have c3:¬((pre.length:Int)<(L.length:Int)):=by rw [this];omega
   refine ⟨b1,b2,H, ?_,J⟩
   show Z52 Try.prog Z16 Z0Z NN (Z1u Try.prog Z16 Z0Z NN x0 n) x0 _ _ _ _ _ H=_
   simp -implicitDefEqProofs only [Z52,Z06,c3,decide_false,Z01,Bool.false_eq_true,if_false]
  | cons e post=>
   have hxe:L[pre.length]? = some e:=by rw [hc];simp
   have hi:pre.length<L.length:=by rw [hc];simp
   have hlt:((pre.length:Int)<(L.length:Int)):=by omega
   have hw:IntKind.i64.wrap ((pre.length:Int)+1)=(((pre++[e]).length:Nat):Int):=by rw [wrap64 (by omega) (by omega)];simp
   simp only [List.length_cons] at hx hm hn
   have E:=hE H J.ext pre.length e hxe
   obtain ⟨H1,hH1⟩:∃H1:Hp,H1=H++[bxE e]:=⟨_,rfl⟩
   have hl1:H1.length=H.length+1:=by rw [hH1];simp
   have bx:∀k:AV→Hp→Option (AV × Hp),effK (boxE 10 (.agg zE) H.length) H k=k (.ptr H.length 0 0 1) (H++[.arr 10 [zE] true false]):=fun k=>Z1B 10 H.length (.agg zE) H k rfl rfl rfl
   have ns:∀k:AV→Hp→Option (AV × Hp),effK (stE 10 (.ptr H.length 0 0 1) (.agg (encV e)) (H++[.arr 10 [zE] true false])) (H++[.arr 10 [zE] true false]) k=k .u H1:=fun k=>by
    rw [Z0a (v := .u) (id:=H.length) (o:=bxE e) (ft:=[H.length]) (by simp [encV,encM]),Z27,hH1];rfl
   have J1:TkInv h H1 X b1 b2:=by rw [hH1];exact J.app _
   have g1e:H1[H.length]? = some (bxE e):=by rw [hH1,Z0M];rfl
   have lX:∀k:Go.AM.K (AV × Hp),ldK 3 true (.ptr (h.length+1) 0 0 1) H1 k=k (ib b1 b2 X):=fun k=>by rw [Z00,J1.g1];rfl
   have lE:∀k:Go.AM.K (AV × Hp),ldK 10 true (.ptr H.length 0 0 1) H1 k=k (.agg (encV e)):=fun k=>by rw [Z00,g1e];rfl
   obtain ⟨b3,b4,hT⟩:=Zh6 false false X e (by omega) (by omega) []
   have hlen:=ZaV X e
   have hst:stepT X e=if (takeI X e).2.2.2=0 then (takeI X e).1 else X:=rfl
   generalize takeI X e=r at hT hlen hst
   obtain ⟨x,p,u,kk⟩:=r
   unfold takeV at hT
   dsimp only at hT hlen hst
   have fT:∀h,Z1F [ib false false X, .agg (encV e)] h=some (.tup [ib b3 b4 x, .agg (encH p),B u,I kk],h):=Zup rfl hT
   have c1':∀(h:Hp) (k:AV→Hp→Ent→Option (AV × Hp)),effD (callE (Z0Z 14) [ib b1 b2 X] h h.length) h k=k (ib false false X) h ([],[]):=Zhh (fun h=>Zhd b1 b2 X (by omega) (by omega) h) (by simp [idss,Zhi])
   have c2':∀(h:Hp) (k:AV→Hp→Ent→Option (AV × Hp)),effD (callE (Z0Z 13) [ib false false X, .agg (encV e)] h h.length) h k=k (.tup [ib b3 b4 x, .agg (encH p),B u,I kk]) h ([],[]):=Zhh fT (by simp [idss,Zhi,Zuo])
   have u0:∀(a b c d:AV) (k:Go.AM.K (AV × Hp)),exK (.tup [a,b,c,d]) 0 k=k a:=fun a b c d k=>rfl
   have u1:∀(a b c d:AV) (k:Go.AM.K (AV × Hp)),exK (.tup [a,b,c,d]) 1 k=k b:=fun a b c d k=>rfl
   have u2:∀(a b c d:AV) (k:Go.AM.K (AV × Hp)),exK (.tup [a,b,c,d]) 2 k=k c:=fun a b c d k=>rfl
   have u3:∀(a b c d:AV) (k:Go.AM.K (AV × Hp)),exK (.tup [a,b,c,d]) 3 k=k d:=fun a b c d k=>rfl
   obtain ⟨o1,o2,o3,o4⟩:=Zuw (β:=AV × Hp) H1 b3 b4 x p
   obtain ⟨H2,hH2⟩:∃H2:Hp,H2=H1++[bxI b3 b4 x, .arr 2 [encH p] true false]:=⟨_,rfl⟩
   rw [← hH2] at o4
   have J2:TkInv h H2 X b1 b2:=by rw [hH2];exact J1.app _
   have g2:H2[H1.length]? = some (bxI b3 b4 x):=by rw [hH2,Z0M];rfl
   have hmH:h.length+1<H.length:=(List.getElem?_eq_some_iff.1 J.g1).1
   have dj:disjAll [(1,2),(0,9),(1,9),(2,9),(3,9),(0,10),(1,10),(2,10),(3,10),(9,10)] [(idsOf (.ptr (h.length+1) 0 0 1),[]),([],[]),(idsOf (.ptr H.length 0 0 1),[]),([],[]),([],[]),([],[]),([],[]),([],[]),([],[]),([],[H1.length]),([],[H1.length+1]),([H1.length],[H1.length]),([H1.length+1],[H1.length+1]),([],[]),([],[])]=true:=by
    simp [disjAll,disj2,idsOf];omega
   have lx2:∀k:Go.AM.K (AV × Hp),ldK 3 true (.ptr H1.length 0 0 1) H2 k=k (ib b3 b4 x):=fun k=>by rw [Z00,g2];rfl
   have sX:∀k:AV→Hp→Option (AV × Hp),effK (stE 3 (.ptr (h.length+1) 0 0 1) (ib b3 b4 x) H2) H2 k=k .u (H2.set (h.length+1) (bxI b3 b4 x)):=fun k=>stI3 J2.g1 k
   have go:Z1u Try.prog Z16 Z0Z NN x0 (n+1) (.ptr h.length 0 0 1) (.ptr (h.length+1) 0 0 1) v (I L.length) (I pre.length) H=Z1u Try.prog Z16 Z0Z NN x0 n (.ptr h.length 0 0 1) (.ptr (h.length+1) 0 0 1) v (I L.length) (I (pre++[e]).length) (if kk=0 then H2.set (h.length+1) (bxI b3 b4 x) else H2):=by
    show Z52 Try.prog Z16 Z0Z NN (Z1u Try.prog Z16 Z0Z NN x0 n) x0 _ _ _ _ _ H=_
    simp -implicitDefEqProofs only [Z52,Z06,hlt,decide_true,Z01,if_true]
    refine (E _).trans ?_
    simp -implicitDefEqProofs only [bx,ns,lX,c1',lE,c2',u0,u1,u2,u3,o1,o2,o3,o4,dj,cond_true,Z07,Bool.false_xor,Z01]
    by_cases z:kk=0
    ·have ez:(kk==0)=true:=by simp [z]
     rw [if_pos z]
     simp -implicitDefEqProofs only [ez,if_true,lx2,sX,Z8v,ZbC,Z0I,hw]
    ·have ez:(kk==0)=false:=by simp [z]
     rw [if_neg z]
     simp -implicitDefEqProofs only [ez,Bool.false_eq_true,if_false,Z8v,ZbC,Z0I,hw]
   rw [go,List.foldl_cons,hst]
   by_cases z:kk=0
   ·rw [if_pos z,if_pos z]
    exact ih (pre++[e]) post x b3 b4 _ (by simp [hc]) (by omega) J2.put (by omega) (by omega)
   ·rw [if_neg z,if_neg z]
    exact ih (pre++[e]) post X b1 b2 _ (by simp [hc]) (by omega) J2 (by omega) (by omega)
theorem Zhp {L:List Envl} {v:AV} {i:Inbx} {a1 a2:Bool} {h:Hp} {id:Nat} (hid:h[id]? = some (bxI a1 a2 i)) (hh:i.heard.length≤20) (hm:i.msgs.length≤20) (hL:L.length≤100) (hl:∀k:Go.AM.K (AV × Hp),lenK v k=k (I L.length)) (hE:∀(H:Hp),(∃g,H=h++g)→∀(j:Nat) (x:Envl),L[j]? = some x→∀k:Go.AM.K (AV × Hp),iaK 10 v (I j) (fun q=>ldK 10 true q H k)=k (.agg (encV x))):∃b1 b2,Z7Q [v, .ptr id 0 0 1] h=some (ib b1 b2 (L.foldl stepT i),h):=by
 have x1:∀k:AV→Hp→Option (AV × Hp),effK (boxE 3 (.agg zI) h.length) h k=k (.ptr h.length 0 0 1) (h++[.arr 3 [zI] true false]):=fun k=>bx3 rfl rfl k
 have li:∀k:Go.AM.K (AV × Hp),ldK 3 true (.ptr id 0 0 1) (h++[.arr 3 [zI] true false]) k=k (ib a1 a2 i):=fun k=>by rw [Z00,Z08 hid];rfl
 have fc:=fun h=>Zhd a1 a2 i (by omega) (by omega) h
 have x2:∀k:AV→Hp→Option (AV × Hp),effK (boxE 3 (.agg zI) (h++[AObj.arr 3 [zI] true false]).length) (h++[.arr 3 [zI] true false]) k=k (.ptr (h.length+1) 0 0 1) (h++[.arr 3 [zI] true false, .arr 3 [zI] true false]):=fun k=>by
  rw [bx3 rfl rfl k];simp
 have gz:(h++[AObj.arr 3 [zI] true false, .arr 3 [zI] true false])[h.length+1]? = some (.arr 3 [zI] true false):=by rw [List.getElem?_append_right (by omega),show h.length+1-h.length=1 by omega];rfl
 obtain ⟨H0,hH0⟩:∃H0:Hp,H0=h++[.arr 3 [zI] true false,bxI false false i]:=⟨_,rfl⟩
 have s2:∀k:AV→Hp→Option (AV × Hp),effK (stE 3 (.ptr (h.length+1) 0 0 1) (ib false false i) (h++[.arr 3 [zI] true false, .arr 3 [zI] true false])) (h++[.arr 3 [zI] true false, .arr 3 [zI] true false]) k=k .u H0:=fun k=>by
  rw [stIz gz k,List.set_append_right _ _ (by omega),show h.length+1-h.length=1 by omega,hH0]
  rfl
 have J0:TkInv h H0 i false false:=by
  rw [hH0]
  exact ⟨⟨_,rfl⟩,by rw [Z0M];rfl,by rw [List.getElem?_append_right (by omega),show h.length+1-h.length=1 by omega];rfl⟩
 obtain ⟨c1,c2,H',e1,J'⟩:=Zux (x0:=fun w51_3 w51_4 h=>Z6A Try.prog Z16 Z0Z NN (fun v h=>some (v,h)) w51_3 w51_4 h) (by omega) hE NN [] L i false false H0 rfl (by have:=NN_ge;omega) J0 (by omega) (by omega)
 have lX:∀k:Go.AM.K (AV × Hp),ldK 3 true (.ptr (h.length+1) 0 0 1) H' k=k (ib c1 c2 (L.foldl stepT i)):=fun k=>by rw [Z00,J'.g1];rfl
 have sr:∀k:AV→Hp→Option (AV × Hp),effK (stE 3 (.ptr h.length 0 0 1) (ib c1 c2 (L.foldl stepT i)) H') H' k=k .u (H'.set h.length (bxI c1 c2 (L.foldl stepT i))):=fun k=>stIz J'.g0 k
 have lr:∀k:Go.AM.K (AV × Hp),ldK 3 true (.ptr h.length 0 0 1) (H'.set h.length (bxI c1 c2 (L.foldl stepT i))) k=k (ib c1 c2 (L.foldl stepT i)):=fun k=>by rw [Z00,getSelfN J'.g0];rfl
 obtain ⟨g',hg'⟩:=J'.ext
 refine ⟨c1,c2,ZsO (g:=g'.set 0 (bxI c1 c2 (L.foldl stepT i))) ?_ rfl⟩
 have hset:H'.set h.length (bxI c1 c2 (L.foldl stepT i))=h++g'.set 0 (bxI c1 c2 (L.foldl stepT i)):=by
  rw [hg',List.set_append_right _ _ (Nat.le_refl _),Nat.sub_self]
 simp -implicitDefEqProofs only [Z6B,x1,li,ZsK,Z03,fc,x2,s2,hl]
 refine e1.trans ?_
 simp -implicitDefEqProofs only [Z6A,lX,sr,lr]
 rw [hset]
end Go.AM


namespace Go.AM
open Go.Proofs
set_option linter.unusedVariables false
set_option linter.unusedSimpArgs false
set_option linter.constructorNameAsVariable false
set_option maxRecDepth 20000
section
variable {β:Type} {P:Program} {T:Tab} {D:DTab} {N:Nat} {K:AV→Hp→Option β}
section
variable {x0:AV→AV→Hp→Option β} {x2:AV→Hp→Option β} {ps:List (AV × List Envl)} {nl:Bool}
theorem Zuy (n:Nat) (h:Hp) (hn:n<1000000):Z62 [nilS,I n] h=some (if n=0 then (nilS,h) else (.sl 10 h.length 0 0 n false,h++[.arr 10 (List.replicate n zE) true false])):=by
 rw [Zsx]
 have w0:IntKind.i64.wrap 0=0:=wrap64 (by omega) (by omega)
 by_cases h0:n=0
 ·subst h0
  simp [Z6P,ZbJ,Z8X,capK,w0]
 ·have h1:¬(n:Int)<0:=by omega
  have h2:(0:Int)<(n:Int):=by omega
  have h3:(n:Int) * 80≤140737488355328:=by omega
  have w1:IntKind.i64.wrap (n:Int)=(n:Int):=wrap64 (by omega) (by omega)
  simp [Z6P,ZbJ,Z8X,capK,w0,h0,h1,h2,h3,show 0<n by omega,w1,sliceK,boundOr,mkE,effK,ap]
end
end
attribute [local congr] Z0d Z0e Z0f Z0g Z0h Z0i Z0j Z0k Z0l Z0m Z0n Z0o Z0p Z0q Z0r Z0s Z0t Z0u Z0v Z0w Z0x Z0y Z0z Z0A Z0B Z0C Z0D
theorem NN_3v:∃n,NN=n+3:=⟨NN-3,by have:=NN_ge;omega⟩
theorem Zuz {s:List Envl} {b:Bool} {h:Hp} {k:Nat} (hl:s.length<1000) (hk:h[k]? = some (.arr 1 [[.lst 10 b (s.map encV)],[.lst 10 b (s.map encV)]] true false)):∃v h',Z64 [.sl 1 k 0 2 2 true] h=some (v,h')∧Gro 10 encV h' v (s++s)∧∀j<h.length,h'[j]? = h[j]? := by
 obtain ⟨n,hn⟩:=NN_3v
 obtain ⟨a,ha⟩:∃a:AV,a = .lst 10 b (s.map encV):=⟨_,rfl⟩
 rw [← ha] at hk
 have la:∀ {β:Type} (k:Go.AM.K β),lenK a k=k (I s.length):=fun k=>by rw [ha,Z0b,List.length_map]
 have ic:∀ {β:Type} (i:Nat) (hi:i<2) (k':Go.AM.K β),iaK 1 (.sl 1 k 0 2 2 true) (I i) k'=k' (.ptr k i 0 2):=fun i hi k'=>by
  have e2:((i:Nat):Int)<2:=by omega
  simp [iaK,e2]
 have i0:∀ {β:Type} (k':Go.AM.K β),iaK 1 (.sl 1 k 0 2 2 true) (I 0) k'=k' (.ptr k 0 0 2):=fun k'=>ic 0 (by omega) k'
 have i1:∀ {β:Type} (k':Go.AM.K β),iaK 1 (.sl 1 k 0 2 2 true) (I 1) k'=k' (.ptr k 1 0 2):=fun k'=>ic 1 (by omega) k'
 have l0:∀ {β:Type} (h':Hp) (hh:h'[k]? = some (.arr 1 [[a],[a]] true false)) (k':Go.AM.K β),ldK 1 false (.ptr k 0 0 2) h' k'=k' a:=fun h' hh k'=>by simp [hh,pickC]
 have l1:∀ {β:Type} (h':Hp) (hh:h'[k]? = some (.arr 1 [[a],[a]] true false)) (k':Go.AM.K β),ldK 1 false (.ptr k 1 0 2) h' k'=k' a:=fun h' hh k'=>by simp [hh,pickC]
 have l2:∀ {β:Type} (k':Go.AM.K β),lenK (.sl 1 k 0 2 2 true) k'=k' (I 2):=fun k'=>rfl
 have w1:IntKind.i64.wrap (0+(s.length:Int))=(s.length:Int):=by rw [wrap64 (by omega) (by omega)];omega
 have w2:IntKind.i64.wrap ((s.length:Int)+(s.length:Int))=((s.length+s.length:Nat):Int):=by rw [wrap64 (by omega) (by omega)];omega
 have c1:¬((s.length:Int)<0):=by omega
 have c2:¬(((s.length+s.length:Nat):Int)<0):=by omega
 have v1:IntKind.i64.wrap (0+1)=1:=by kernel_rfl
 have v2:IntKind.i64.wrap (1+1)=2:=by kernel_rfl
 have d0:((0:Int)<2):=by decide
 have d1:((1:Int)<2):=by decide
 have d2:¬((2:Int)<2):=by decide
 have L4:∀x0:AV→AV→Hp→Option (AV × Hp),Z2j Try.prog Z4R Z63 NN x0 (n+3) (.sl 1 k 0 2 2 true) (I 0) (.sl 1 k 0 2 2 true) (I 2) (I 0) h=x0 (.sl 1 k 0 2 2 true) (I ((s.length+s.length:Nat):Int)) h:=fun x0=>by
  simp -implicitDefEqProofs only [Z2j,ZbF,Z06,d0,d1,d2,decide_true,decide_false,Z01,if_true,Bool.false_eq_true,if_false,i0,i1,l0 h hk,l1 h hk,la,Z0I,w1,w2,c1,c2,ZeH,ZeG,v1,v2]
 have gr:=Zuy (s.length+s.length) h (by omega)
 rw [ZsC]
 have goL:∀(v:AV) (h1:Hp),h1[k]? = some (.arr 1 [[a],[a]] true false)→∀(u1 u2:AV) (g1 g2:Hp),(∀k':AV→Hp→Option (AV × Hp),effK (appE 10 80 v a h1 h1.length) h1 k'=k' u1 g1)→g1[k]? = some (.arr 1 [[a],[a]] true false)→(∀k':AV→Hp→Option (AV × Hp),effK (appE 10 80 u1 a g1 g1.length) g1 k'=k' u2 g2)→
   ∀x2:AV→Hp→Option (AV × Hp),Z2i Try.prog Z4R Z63 NN x2 (n+3) v (.sl 1 k 0 2 2 true) (I 2) (I 0) h1=x2 u2 g2:=fun v h1 hh u1 u2 g1 g2 e1 hh1 e2 x2=>by
  simp -implicitDefEqProofs only [Z2i,ZbE,Z06,d0,d1,d2,decide_true,decide_false,Z01,if_true,Bool.false_eq_true,if_false,i0,i1,l0 h1 hh,l1 g1 hh1,e1,e2,Z0I,v1,v2]
 by_cases h0:s.length=0
 ·have hs:s=[]:=List.eq_nil_of_length_eq_zero h0
  subst hs
  refine ⟨nilS,h, ?_, .nil,fun _ _=>rfl⟩
  rw [if_pos (by simp)] at gr
  have ea:∀k':AV→Hp→Option (AV × Hp),effK (appE 10 80 nilS a h h.length) h k'=k' nilS h:=fun k'=>by rw [ha];simp [appE,readSl,effK,ap]
  have L3:=goL nilS h hk nilS nilS h h ea hk ea
  rw [hn] at L4 L3 ⊢
  simp -implicitDefEqProofs only [Z54,l2]
  refine (L4 _).trans ?_
  simp -implicitDefEqProofs only [Z53,Zgv,Z03,gr,l2]
  refine (L3 _).trans ?_
  simp -implicitDefEqProofs only [Z6C]
 ·rw [if_neg (by omega)] at gr
  obtain ⟨g0,hg0⟩:∃g0:Hp,g0=h++[AObj.arr 10 (List.replicate (s.length+s.length) zE) true false]:=⟨_,rfl⟩
  have hkl:k<h.length:=(List.getElem?_eq_some_iff.1 hk).1
  have k0:g0[k]? = some (.arr 1 [[a],[a]] true false):=by rw [hg0];exact Z08 hk
  have o0:g0[h.length]? = some (.arr 10 (List.replicate (s.length+s.length) zE) true false):=by rw [hg0,Z0M];rfl
  have ra:∀h:Hp,readSl h a=some (s.map encV):=fun h=>by rw [ha];rfl
  obtain ⟨g1,hg1⟩:∃g1:Hp,g1=g0.set h.length (.arr 10 (s.map encV++List.replicate s.length zE) true false):=⟨_,rfl⟩
  have hal:((s.map encV).all fun e=>e.length==10)=true:=by simp [encV,encM]
  have e1:∀k':AV→Hp→Option (AV × Hp),effK (appE 10 80 (.sl 10 h.length 0 0 (s.length+s.length) false) a g0 g0.length) g0 k'=k' (.sl 10 h.length 0 s.length (s.length+s.length) false) g1:=fun k'=>by
   have:appE 10 80 (.sl 10 h.length 0 0 (s.length+s.length) false) a g0 g0.length=some (.sl 10 h.length 0 s.length (s.length+s.length) false,⟨[(h.length, .arr 10 (s.map encV++List.replicate s.length zE) true false)],[],h.length::idsOf a⟩):=by
    unfold appE
    rw [ra]
    simp only [o0,List.length_replicate,List.length_map]
    rw [if_pos ⟨trivial,trivial,by omega,hal⟩,if_neg (by simp),if_neg (by omega),if_pos ⟨trivial,trivial,by omega⟩]
    simp
   rw [Z0a this,hg1]
  have k1:g1[k]? = some (.arr 1 [[a],[a]] true false):=by rw [hg1];exact getSetN k0 (by omega)
  have o1:g1[h.length]? = some (.arr 10 (s.map encV++List.replicate s.length zE) true false):=by rw [hg1];exact getSelfN o0
  obtain ⟨g2,hg2⟩:∃g2:Hp,g2=g1.set h.length (.arr 10 ((s++s).map encV) true false):=⟨_,rfl⟩
  have e2:∀k':AV→Hp→Option (AV × Hp),effK (appE 10 80 (.sl 10 h.length 0 s.length (s.length+s.length) false) a g1 g1.length) g1 k'=k' (.sl 10 h.length 0 (s.length+s.length) (s.length+s.length) false) g2:=fun k'=>by
   have:appE 10 80 (.sl 10 h.length 0 s.length (s.length+s.length) false) a g1 g1.length=some (.sl 10 h.length 0 (s.length+s.length) (s.length+s.length) false,⟨[(h.length, .arr 10 ((s++s).map encV) true false)],[],h.length::idsOf a⟩):=by
    unfold appE
    rw [ra]
    simp only [o1,List.length_append,List.length_replicate,List.length_map]
    rw [if_pos ⟨trivial,trivial,by omega,hal⟩,if_neg (by simp),if_neg (by omega),if_pos ⟨trivial,trivial,by omega⟩]
    simp [List.take_append,List.drop_append]
   rw [Z0a this,hg2]
  have L3:=goL (.sl 10 h.length 0 0 (s.length+s.length) false) g0 k0 _ _ g1 g2 e1 k1 e2
  have o2:g2[h.length]? = some (.arr 10 ((s++s).map encV) true false):=by rw [hg2];exact getSelfN o1
  refine ⟨.sl 10 h.length 0 (s.length+s.length) (s.length+s.length) false,g2, ?_, .inr ⟨by intro e;rw [List.append_eq_nil_iff] at e;rw [e.1] at h0;exact h0 rfl,h.length,by rw [List.length_append],o2⟩,fun j hj=>by rw [hg2,List.getElem?_set_ne (by omega),hg1,List.getElem?_set_ne (by omega),hg0,List.getElem?_append_left hj]⟩
  rw [hn] at L4 L3 ⊢
  simp -implicitDefEqProofs only [Z54,l2]
  refine (L4 _).trans ?_
  simp -implicitDefEqProofs only [Z53,Zgv,Z03,gr, ← hg0,l2]
  refine (L3 _).trans ?_
  simp -implicitDefEqProofs only [Z6C]
theorem stVx {β:Type} {W:List Envl} {id i n:Nat} {h:Hp} {x:Envl} (hid:h[id]? = some (.arr 10 (W.map encV) true false)) (hn:W.length=n) (hi:i<W.length) (k:AV→Hp→Option β):effK (stE 10 (.ptr id i 0 n) (.agg (encV x)) h) h k=k .u (h.set id (.arr 10 ((W.set i x).map encV) true false)):=by
 have hx:W[i]? = some W[i]:=List.getElem?_eq_getElem hi
 have:stE 10 (.ptr id i 0 n) (.agg (encV x)) h=some (.u,⟨[(id, .arr 10 ((W.map encV).set i (encV x)) true false)],[],[id]⟩):=by
  rw [Z0G,hid]
  simp [hn,hx,putAt,encV,encM]
 rw [Z0a this,List.map_set]
theorem ldVx {β:Type} {W:List Envl} {id i n:Nat} {h:Hp} {x:Envl} (hid:h[id]? = some (.arr 10 (W.map encV) true false)) (hn:W.length=n) (hx:W[i]? = some x) (k:Go.AM.K β):ldK 10 true (.ptr id i 0 n) h k=k (.agg (encV x)):=by
 simp [hid,hn,hx,pickC,encV,encM]
theorem ZuA {β:Type} {x0:Hp→Option β} {s:List Envl} {id:Nat} (hl:s.length<1000000):∀(n i:Nat) (W:List Envl) (h:Hp),s.length≤i+n→0<n→i≤s.length→h[id]? = some (.arr 10 (W.map encV) true false)→W.length=s.length→(∀p,p<s.length→W[p]? = if p<i∨s.length<p+1+i then s[s.length-1-p]? else s[p]?)→
  ∃h':Hp,Z1v Try.prog Z1d Z1c NN x0 n (.sl 10 id 0 s.length s.length false) (I i) (I ((s.length:Int)-1-i)) h=x0 h'∧h'[id]? = some (.arr 10 (s.reverse.map encV) true false)∧Kept h h' id:=by
 intro n
 induction n with
 | zero=>intro i W h h1 h2;omega
 | succ n ih=>
  intro i W h h1 _ h3 hid hW hp
  by_cases hc:2 * i+1<s.length
  ·have hi:i<s.length:=by omega
   obtain ⟨j,hj⟩:∃j,j=s.length-1-i:=⟨_,rfl⟩
   have hjc:(s.length:Int)-1-i=(j:Int):=by omega
   have hjl:j<s.length:=by omega
   have c1:((i:Int)<(j:Int)):=by omega
   have ia:∀(m:Nat) (hm:m<s.length) (k':Go.AM.K β),iaK 10 (.sl 10 id 0 s.length s.length false) (I m) k'=k' (.ptr id m 0 s.length):=fun m hm k'=>by
    have e2:((m:Nat):Int)<((s.length:Nat):Int):=by omega
    simp [iaK,e2]
   have wi:W[i]? = some W[i]:=List.getElem?_eq_getElem (by omega)
   have wj:W[j]? = some W[j]:=List.getElem?_eq_getElem (by omega)
   have pi:=hp i hi
   have pj:=hp j hjl
   rw [if_neg (by omega),wi] at pi
   rw [if_neg (by omega),wj] at pj
   generalize W[i]=x at wi pi
   generalize W[j]=y at wj pj
   have lj:∀k':Go.AM.K β,ldK 10 true (.ptr id j 0 s.length) h k'=k' (.agg (encV y)):=fun k'=>ldVx hid hW wj k'
   have li:∀k':Go.AM.K β,ldK 10 true (.ptr id i 0 s.length) h k'=k' (.agg (encV x)):=fun k'=>ldVx hid hW wi k'
   have s1:∀k':AV→Hp→Option β,effK (stE 10 (.ptr id i 0 s.length) (.agg (encV y)) h) h k'=k' .u (h.set id (.arr 10 ((W.set i y).map encV) true false)):=fun k'=>stVx hid hW (by omega) k'
   have hid1:(h.set id (.arr 10 ((W.set i y).map encV) true false))[id]? = some (.arr 10 ((W.set i y).map encV) true false):=getSelfN hid
   have kp1:Kept h (h.set id (.arr 10 ((W.set i y).map encV) true false)) id:=(Kept.refl h id).set _
   generalize h.set id (.arr 10 ((W.set i y).map encV) true false)=h1' at *
   have s2:∀k':AV→Hp→Option β,effK (stE 10 (.ptr id j 0 s.length) (.agg (encV x)) h1') h1' k'=k' .u (h1'.set id (.arr 10 (((W.set i y).set j x).map encV) true false)):=fun k'=>stVx hid1 (by simpa using hW) (by simp;omega) k'
   have w1:IntKind.i64.wrap ((i:Int)+1)=((i+1:Nat):Int):=by rw [wrap64 (by omega) (by omega)];omega
   have w2:IntKind.i64.wrap ((j:Int)-1)=(s.length:Int)-1-((i+1:Nat):Int):=by rw [wrap64 (by omega) (by omega)];omega
   obtain ⟨h',a1,a2,a3⟩:=ih (i+1) ((W.set i y).set j x) (h1'.set id (.arr 10 (((W.set i y).set j x).map encV) true false)) (by omega) (by omega) (by omega) (getSelfN hid1) (by simpa using hW) (fun p hpl=>by
    by_cases q1:p=j
    ·subst q1
     rw [List.getElem?_set_self (by simp;omega),if_pos (by omega),show s.length-1-p=i by omega,pi]
    ·rw [List.getElem?_set_ne (Ne.symm q1)]
     by_cases q2:p=i
     ·subst q2
      rw [List.getElem?_set_self (by omega),if_pos (by omega), ← hj,pj]
     ·rw [List.getElem?_set_ne (Ne.symm q2),hp p hpl]
      by_cases q3:p<i∨s.length<p+1+i
      ·rw [if_pos q3,if_pos (by omega)]
      ·rw [if_neg q3,if_neg (by omega)])
   refine ⟨h', ?_,a2,Kept.trans (kp1.set _) a3⟩
   rw [← a1,hjc]
   show Z2l Try.prog Z1d Z1c NN (Z1v Try.prog Z1d Z1c NN x0 n) x0 _ _ _ h=_
   simp -implicitDefEqProofs only [Z2l,Z06,c1,decide_true,Z01,if_true,ia i hi,ia j hjl,lj,li,s1,s2,Z0I,w1,Z26,w2]
  ·have c1:¬((i:Int)<(s.length:Int)-1-i):=by omega
   refine ⟨h, ?_, ?_, .refl h id⟩
   ·show Z2l Try.prog Z1d Z1c NN (Z1v Try.prog Z1d Z1c NN x0 n) x0 _ _ _ h=_
    simp -implicitDefEqProofs only [Z2l,Z06,c1,decide_false,Z01,Bool.false_eq_true,if_false]
   ·have:W=s.reverse:=List.ext_getElem? fun p=>by
     by_cases hpl:p<s.length
     ·rw [hp p hpl,List.getElem?_reverse hpl]
      by_cases q:p<i∨s.length<p+1+i
      ·rw [if_pos q]
      ·rw [if_neg q,show s.length-1-p=p by omega]
     ·rw [List.getElem?_eq_none (by omega),List.getElem?_eq_none (by simp;omega)]
    rw [← this];exact hid
theorem ZuB {s:List Envl} {h:Hp} {v:AV} (G:Gro 10 encV h v s) (hl:s.length<1000000):∃h',Z65 [v] h=some (.tup [],h')∧Gro 10 encV h' v s.reverse∧∀(j:Nat) (o:AObj),h[j]? = some o→(∀xs,o≠AObj.arr 10 xs true false)→h'[j]? = some o:=by
 have hN:=NN_ge
 rw [ZsH]
 rcases G with ⟨rfl,rfl⟩ | ⟨h1,k,rfl,h2⟩
 ·refine ⟨h, ?_, .nil,fun _ _ hj _=>hj⟩
  obtain ⟨n,hn⟩:∃n,NN=n+1:=⟨NN-1,by omega⟩
  have w:IntKind.i64.wrap (0-1) = -1:=by rw [wrap64 (by omega) (by omega)];rfl
  have ln:∀k:Go.AM.K (AV × Hp),lenK nilS k=k (I 0):=fun k=>rfl
  have key:∀x0:Hp→Option (AV × Hp),Z1v Try.prog Z1d Z1c NN x0 NN nilS (I 0) (I (-1)) h=x0 h:=fun x0=>by
   conv=>lhs;arg 6;rw [hn]
   show Z2l Try.prog Z1d Z1c NN (Z1v Try.prog Z1d Z1c NN x0 n) x0 _ _ _ h=_
   have c1:¬((0:Int) < -1):=by decide
   simp -implicitDefEqProofs only [Z2l,Z06,c1,decide_false,Z01,Bool.false_eq_true,if_false]
  simp -implicitDefEqProofs only [Z55,ln,Z26,w,key,Z6D]
 ·have hpos:0<s.length:=List.length_pos_iff.2 h1
  have w:IntKind.i64.wrap ((s.length:Int)-1)=(s.length:Int)-1:=wrap64 (by omega) (by omega)
  obtain ⟨h',a1,a2,a3⟩:=ZuA (x0:=fun h=>Z6D Try.prog Z1d Z1c NN (fun v h=>some (v,h)) h) (id:=k) hl NN 0 s h (by omega) (by omega) (by omega) h2 rfl (fun p hp=>by rw [if_neg (by omega)])
  have ln:∀k':Go.AM.K (AV × Hp),lenK (.sl 10 k 0 s.length s.length false) k'=k' (I s.length):=fun k'=>rfl
  rw [show ((s.length:Int)-1-((0:Nat):Int))=(s.length:Int)-1 by omega] at a1
  refine ⟨h', ?_, .inr ⟨by simpa using h1,k,by rw [List.length_reverse],a2⟩,fun j o hj ho => ?_⟩
  ·simp -implicitDefEqProofs only [Z55,ln,Z26,w]
   exact a1
  ·have:j≠k:=by rintro rfl;rw [h2] at hj;injection hj with hj;exact ho _ hj.symm
   rw [a3.same j this (List.getElem?_eq_some_iff.1 hj).1];exact hj
end Go.AM


namespace Go.AM
open Go.Proofs
set_option linter.unusedVariables false
set_option linter.unusedSimpArgs false
set_option linter.constructorNameAsVariable false
set_option maxRecDepth 20000
attribute [local congr] Z0d Z0e Z0f Z0g Z0h Z0i Z0j Z0k Z0l Z0m Z0n Z0o Z0p Z0q Z0r Z0s Z0t Z0u Z0v Z0w Z0x Z0y Z0z Z0A Z0B Z0C Z0D
theorem ZuC (x y:Envl) (n:Bool) (h:Hp) {β:Type} (k:Go.AM.K β):eqK Try.prog n 29 (.agg (encV x)) (.agg (encV y)) h k=k (B (xor n (x==y))):=by
 obtain ⟨a0,a1,a2,a3,a4,a5,a6,a7,a8,a9⟩:=x
 obtain ⟨b0,b1,b2,b3,b4,b5,b6,b7,b8,b9⟩:=y
 simp only [encV,ZjV]
 congr 4
 rw [Bool.eq_iff_iff]
 simp [Envl.mk.injEq,Msg.mk.injEq]
def clashE (x y:Envl):Bool:=(y.frm==x.frm&&y.num==x.num) && !(y==x)
theorem ZuD {x:Envl} {h:Hp} {id:Nat} (hx:h[id]? = some (bxE x)) (y:Envl):Z4P [.agg (encV y), .ptr id 0 0 1] h=some (B (clashE x y),h):=by
 refine Zse (g:=[.arr 10 [encV y] true false]) ?_ rfl
 have bx:∀k:AV→Hp→Option (AV × Hp),effK (boxE 10 (.agg (encV y)) h.length) h k=k (.ptr h.length 0 0 1) (h++[.arr 10 [encV y] true false]):=fun k=>Z1B 10 h.length (.agg (encV y)) h k rfl rfl rfl
 have gx:(h++[AObj.arr 10 [encV y] true false])[id]? = some (bxE x):=Z08 hx
 have gy:(h++[AObj.arr 10 [encV y] true false])[h.length]? = some (bxE y):=by rw [Z0M];rfl
 have y0:∀k:Go.AM.K (AV × Hp),ldK 1 false (.ptr h.length 0 0 1) (h++[.arr 10 [encV y] true false]) k=k (I y.frm):=fun k=>by rw [Z00,gy];rfl
 have y2:∀k:Go.AM.K (AV × Hp),ldK 1 false (.ptr h.length 0 2 1) (h++[.arr 10 [encV y] true false]) k=k (I y.num):=fun k=>by rw [Z00,gy];rfl
 have yw:∀k:Go.AM.K (AV × Hp),ldK 10 true (.ptr h.length 0 0 1) (h++[.arr 10 [encV y] true false]) k=k (.agg (encV y)):=fun k=>by rw [Z00,gy];rfl
 have x0:∀k:Go.AM.K (AV × Hp),ldK 1 false (.ptr id 0 0 1) (h++[.arr 10 [encV y] true false]) k=k (I x.frm):=fun k=>by rw [Z00,gx];rfl
 have x2:∀k:Go.AM.K (AV × Hp),ldK 1 false (.ptr id 0 2 1) (h++[.arr 10 [encV y] true false]) k=k (I x.num):=fun k=>by rw [Z00,gx];rfl
 have xw:∀k:Go.AM.K (AV × Hp),ldK 10 true (.ptr id 0 0 1) (h++[.arr 10 [encV y] true false]) k=k (.agg (encV x)):=fun k=>by rw [Z00,gx];rfl
 simp -implicitDefEqProofs only [Z8t,bx,Z0c,Nat.zero_add,y0,y2,yw,x0,x2,xw,Z07,Bool.false_xor,Z0X,ZuC,Bool.true_xor]
 rfl
theorem ZuE {x:Envl} {h:Hp} {id:Nat} {d:List Envl} {b:Bool} (hx:h[id]? = some (bxE x)) (hd:d.length<1000000):Z7P [.lst 10 b (d.map encV), .fn 33 [.ptr id 0 0 1]] h=some (B (d.any (clashE x)),h):=by
 have fi:Z7N [.lst 10 b (d.map encV), .fn 33 [.ptr id 0 0 1]] h=some (I (match d.findIdx? (clashE x) with | some j=>(j:Int) | none => -1),h):=
  Zsl (g:=[]) (by
   rw [List.append_nil]
   refine Zcw (T:=Z4Q) (P:=Try.prog) (D:=Z7M) (N:=NN) (K:=fun v h=>some (v,h)) (l:=d) (v := .lst 10 b (d.map encV)) (fv := .fn 33 [.ptr id 0 0 1]) (h:=h) (p:=clashE x) (by have:=NN_ge;omega) (by omega) (fun k=>by rw [Z0b,List.length_map]) (fun i y hy k=>by rw [Z0Q i rfl hy];rfl) (fun y hy k=>by
    show callK (Z4Q 33) [.agg (encV y), .ptr id 0 0 1] h k=_
    simp -implicitDefEqProofs only [Zsh,Z03,ZuD hx])) rfl
 refine Zss (g:=[]) ?_ rfl
 rw [List.append_nil]
 simp -implicitDefEqProofs only [Z8s,Zso,Z03,fi,Z0T]
 have:d.any (clashE x)=(d.findIdx? (clashE x)).isSome:=by rw [List.findIdx?_isSome]
 rw [this]
 cases d.findIdx? (clashE x)<;>simp
theorem ZuF {x0:AV→AV→Hp→Option AV} {xr:AV→Hp→Option AV} {l:List Envl} {b:Bool} {i:Inbx} {c1 c2:Bool} (hl:l.length<1000) (hr:∀h,xr (B true) h=some (B true)):∀(n k:Nat) (h:Hp),k≤l.length→l.length<k+n→h[0]? = some (bxI c1 c2 i)→
  Z1C Try.prog Z0V Z1H NN x0 xr n (.lst 10 b (l.map encV)) (.ptr 0 0 0 1) (.lst 10 b (l.map encV)) (I l.length) (I k) h=some (B true) ∨
  ∃h',Z1C Try.prog Z0V Z1H NN x0 xr n (.lst 10 b (l.map encV)) (.ptr 0 0 0 1) (.lst 10 b (l.map encV)) (I l.length) (I k) h=x0 (.lst 10 b (l.map encV)) (.ptr 0 0 0 1) h'∧h'[0]? = some (bxI c1 c2 i)∧∀j x,k≤j→l[j]? = some x→(l.take j).any (clashE x)=false:=by
 intro n
 induction n with
 | zero=>intro k h h1 h2;omega
 | succ n ih=>
  intro k h hk1 hk2 g0
  have unf:Z1C Try.prog Z0V Z1H NN x0 xr (n+1) (.lst 10 b (l.map encV)) (.ptr 0 0 0 1) (.lst 10 b (l.map encV)) (I l.length) (I k) h=Z6t Try.prog Z0V Z1H NN (Z1C Try.prog Z0V Z1H NN x0 xr n) x0 xr (.lst 10 b (l.map encV)) (.ptr 0 0 0 1) (.lst 10 b (l.map encV)) (I l.length) (I k) h:=rfl
  rw [unf]
  rcases Nat.lt_or_ge k l.length with hk | hk
  ·have hlt:((k:Int)<(l.length:Int)):=by omega
   have hw:IntKind.i64.wrap ((k:Int)+1)=((k+1:Nat):Int):=by rw [wrap64 (by omega) (by omega)];omega
   have xa:l[k]? = some l[k]:=List.getElem?_eq_getElem hk
   generalize l[k]=x at xa
   have ia:∀k':Go.AM.K AV,iaK 10 (.lst 10 b (l.map encV)) (I k) k'=k' (.ep (encV x) 0):=fun k'=>Z0Q k rfl xa k'
   have lx:∀k:Go.AM.K AV,ldK 10 true (.ep (encV x) 0) h k=k (.agg (encV x)):=fun k=>rfl
   obtain ⟨H1,hH1⟩:∃H1:Hp,H1=h++[bxE x]:=⟨_,rfl⟩
   have bx:∀k:AV→Hp→Option AV,effK (boxE 10 (.agg zE) h.length) h k=k (.ptr h.length 0 0 1) (h++[.arr 10 [zE] true false]):=fun k=>Z1B 10 h.length (.agg zE) h k rfl rfl rfl
   have ns:∀k:AV→Hp→Option AV,effK (stE 10 (.ptr h.length 0 0 1) (.agg (encV x)) (h++[.arr 10 [zE] true false])) (h++[.arr 10 [zE] true false]) k=k .u H1:=fun k=>by
    rw [Z0a (v := .u) (id:=h.length) (o:=bxE x) (ft:=[h.length]) (by simp [encV,encM]),Z27,hH1];rfl
   have g1:H1[h.length]? = some (bxE x):=by rw [hH1,Z0M];rfl
   have sk:∀k':Go.AM.K AV,sliceK 10 (.lst 10 b (l.map encV)) none (some (I k)) none k'=k' (.lst 10 b ((l.take k).map encV)):=fun k'=>Zt2 (by omega) k'
   have fA:=ZuE (d:=l.take k) (b:=b) g1 (by rw [List.length_take];omega)
   simp -implicitDefEqProofs only [Z6t,Z06,hlt,decide_true,Z01,if_true,ia,lx,bx,ns,sk,ZsU,Z03,fA]
   cases q:(l.take k).any (clashE x) with
   | true=>left;rw [if_pos rfl,hr]
   | false=>
    simp -implicitDefEqProofs only [Bool.false_eq_true,if_false,Z0I,hw]
    rcases ih (k+1) H1 hk (by omega) (by rw [hH1];exact Z08 g0) with r | ⟨h',r1,r2,r3⟩
    ·exact .inl r
    ·refine .inr ⟨h',r1,r2,fun j y hj hy => ?_⟩
     by_cases hjk:j=k
     ·subst hjk
      rw [xa] at hy
      injection hy with hy
      rw [← hy];exact q
     ·exact r3 j y (by omega) hy
  ·have:k=l.length:=by omega
   subst this
   have c3:¬((l.length:Int)<(l.length:Int)):=by omega
   refine .inr ⟨h, ?_,g0,fun j x hj hx => ?_⟩
   ·simp -implicitDefEqProofs only [Z6t,Z06,c3,decide_false,Z01,Bool.false_eq_true,if_false]
   ·have:=(List.getElem?_eq_some_iff.1 hx).1;omega
theorem ZuG {l:List Envl} (h:∀j x,0≤j→l[j]? = some x→(l.take j).any (clashE x)=false):∀a ∈ l,∀b ∈ l,hdE a=hdE b→a=b:=by
 have key:∀(j k:Nat) (x y:Envl),j<k→l[j]? = some x→l[k]? = some y→hdE x=hdE y→x=y:=fun j k x y hjk hx hy he=>by
  have:=h k y (Nat.zero_le _) hy
  rw [List.any_eq_false] at this
  have hm:x ∈ l.take k:=by
   rw [List.mem_iff_getElem?]
   exact ⟨j,by rw [List.getElem?_take,if_pos hjk];exact hx⟩
  have hc:=this x hm
  unfold clashE at hc
  simp only [hdE,Hrd.mk.injEq] at he
  simp only [he.1,he.2,beq_self_eq_true,Bool.and_self,Bool.true_and,Bool.not_eq_true',Bool.not_eq_false] at hc
  exact eq_of_beq (by simpa using hc)
 intro a ha b hb he
 obtain ⟨j,hj⟩:=List.mem_iff_getElem?.1 ha
 obtain ⟨k,hk⟩:=List.mem_iff_getElem?.1 hb
 rcases Nat.lt_trichotomy j k with q | q | q
 ·exact key j k a b q hj hk he
 ·subst q;rw [hj] at hk;injection hk
 ·exact (key k j b a q hk hj he.symm).symm
set_option maxHeartbeats 4000000 in
theorem order_law (i:Inbx) (c1 c2:Bool) (l:List Envl) (b:Bool):Zcj [.agg (cellsI c1 c2 i),SL 10 encV b l] []=some (B true,[]):=by
 refine Zt0 (a0:=ib c1 c2 i) (a1:=SL 10 encV b l) rfl ?_ []
 rw [show nrm (.a [none,some 2,some 7]) (ib c1 c2 i)=ib c1 c2 i from rfl]
 rw [show nrm (.l 10) (SL 10 encV b l) = .lst 10 (b&&l.isEmpty) (l.map encV) from rfl]
 obtain ⟨H,hH⟩:∃H:Hp,H=[bxI c1 c2 i]:=⟨_,rfl⟩
 have x0:∀k:AV→Hp→Option AV,effK (boxE 3 (ib c1 c2 i) ([]:Hp).length) [] k=k (.ptr 0 0 0 1) H:=fun k=>by rw [hH];rfl
 have la:∀k:Go.AM.K AV,ldK 3 true (.ptr 0 0 0 1) H k=k (ib c1 c2 i):=fun k=>by rw [hH];rfl
 have fw:=Zu9
 have f1:=Zut c1 c2 i
 have hln:∀k:Go.AM.K AV,lenK (.lst 10 (b&&l.isEmpty) (l.map encV)) k=k (I l.length):=fun k=>by rw [Z0b,List.length_map]
 simp -implicitDefEqProofs only [Z6u,x0,ZsR,ZsT,Z03,fw,Z0L,Bool.not_true,Z01,Bool.false_eq_true,if_false,la,f1,hln,Z0K,Z0N]
 by_cases q:smallI i=true∧l.length≤8
 ·obtain ⟨q1,q2⟩:=q
  have e:(!smallI i||decide ((l.length:Int) > 8))=false:=by simp [q1];omega
  have q1':=q1
  unfold smallI at q1'
  simp only [Bool.and_eq_true,decide_eq_true_eq] at q1'
  obtain ⟨a3,a4⟩:=q1'
  simp -implicitDefEqProofs only [e,Bool.false_eq_true,if_false]
  rcases ZuF (x0:=fun w39_1 w39_2 h=>Z6s Try.prog Z0V Z1H NN (fun v g=>cvt false g v) w39_1 w39_2 h) (xr:=fun w40_4 h=>cvt false h w40_4) (l:=l) (b:=b&&l.isEmpty) (i:=i) (c1:=c1) (c2:=c2) (by omega) (fun h=>rfl) NN 0 H (by omega) (by have:=NN_ge;omega) (by rw [hH];rfl) with r | ⟨h',r1,r2,r3⟩
  ·exact r
  ·refine r1.trans ?_
   have hu:=ZuG r3
   obtain ⟨A,hA⟩:∃A:AV,A = .lst 10 (b&&l.isEmpty) (l.map encV):=⟨_,rfl⟩
   obtain ⟨H1,hH1⟩:∃H1:Hp,H1=h'++[AObj.arr 1 [[A],[A]] true false]:=⟨_,rfl⟩
   have bs:∀k:AV→Hp→Option AV,effK (bsE 1 [.s (.slice none 0 0)] 2 [(0,A),(1,A)] h'.length) h' k=k (.sl 1 h'.length 0 2 2 true) H1:=fun k=>by rw [hH1,hA];simp [bsE,fillS,effK,ap]
   have p0:0<h'.length:=(List.getElem?_eq_some_iff.1 r2).1
   obtain ⟨vm,h2,d1,d2,d3⟩:=Zuz (s:=l) (b:=b&&l.isEmpty) (h:=H1) (k:=h'.length) (by omega) (by rw [hH1, ← hA,Z0M];rfl)
   have g2:h2[0]? = some (bxI c1 c2 i):=by rw [d3 0 (by rw [hH1];simp),hH1];exact Z08 r2
   obtain ⟨h3,k1,k2,k3⟩:=ZuB d2 (by simp;omega)
   have g3:h3[0]? = some (bxI c1 c2 i):=k3 0 _ g2 (fun xs hh=>by injection hh with z _;cases z)
   have hE1:∀(H:Hp),(∃g,H=h3++g)→∀(j:Nat) (x:Envl),l[j]? = some x→∀k:Go.AM.K (AV × Hp),iaK 10 A (I j) (fun q=>ldK 10 true q H k)=k (.agg (encV x)):=fun H hg j x hx k=>by rw [hA,Z0Q j rfl hx];rfl
   have hl1:∀k:Go.AM.K (AV × Hp),lenK A k=k (I l.length):=fun k=>by rw [hA,Z0b,List.length_map]
   have hrl:(l++l).reverse.length=l.length+l.length:=by simp
   have hE2:∀(H:Hp),(∃g,H=h3++g)→∀(j:Nat) (x:Envl),(l++l).reverse[j]? = some x→∀k:Go.AM.K (AV × Hp),iaK 10 vm (I j) (fun q=>ldK 10 true q H k)=k (.agg (encV x)):=fun H hg j x hx k=>by
    obtain ⟨g,rfl⟩:=hg
    rcases k2 with ⟨hs, -⟩ | ⟨_,kk,rfl,hk⟩
    ·have:(l++l).reverse=[]:=by assumption
     rw [this] at hx;simp at hx
    ·have hj:j<(l++l).reverse.length:=(List.getElem?_eq_some_iff.1 hx).1
     have ia:∀(m:Nat),j<m→∀k':Go.AM.K (AV × Hp),iaK 10 (.sl 10 kk 0 m m false) (I j) k'=k' (.ptr kk j 0 m):=fun m hm k'=>by
      have e2:((j:Nat):Int)<((m:Nat):Int):=by omega
      simp [iaK,e2]
     rw [ia _ hj]
     exact ldE (f:=encV) (sz:=10) rfl (Z08 hk) rfl hx k
   have hl2:∀k:Go.AM.K (AV × Hp),lenK vm k=k (I (l++l).reverse.length):=fun k=>by
    rcases k2 with ⟨hs,hv⟩ | ⟨_,kk,rfl,hk⟩
    ·first
     | (rw [hs];subst hv;rfl)
     | (rw [hv];subst hs;rfl)
    ·rfl
   obtain ⟨t1,t2,T1⟩:=Zhp (L:=l) (v:=A) g3 a3 a4 (by omega) hl1 hE1
   obtain ⟨t3,t4,T2⟩:=Zhp (L:=(l++l).reverse) (v:=vm) g3 a3 a4 (by omega) hl2 hE2
   have hlen:∀(L:List Envl) (X:Inbx),(L.foldl stepT X).heard.length≤X.heard.length+L.length∧(L.foldl stepT X).msgs.length≤X.msgs.length+L.length:=fun L=>by
    induction L with
    | nil=>intro X;simp
    | cons e L ih=>
     intro X
     have z1:=Zuu X e
     have z2:=ih (stepT X e)
     simp only [List.foldl_cons,List.length_cons]
     omega
   have hL1:=hlen l i
   have hL2:=hlen (l++l).reverse i
   have hsame:=Zuv q1 (l:=l) (m:=(l++l).reverse) (by omega) (by omega) (fun e=>by simp) hu
   have fS:=Zug t1 t2 t3 t4 (l.foldl stepT i) ((l++l).reverse.foldl stepT i) (by omega) (by omega)
   rw [← hA]
   simp -implicitDefEqProofs only [Z6s,bs,ZsW,ZsX,Z03,d1,k1,Zek,List.cons_append,List.nil_append,ZsV,T1,T2,ZsS,fS]
   rw [decide_eq_true hsame]
   rfl
 ·have e:(!smallI i||decide ((l.length:Int) > 8))=true:=by
   cases qa:smallI i with
   | false=>rfl
   | true=>
    have:¬l.length≤8:=fun hh=>q ⟨qa,hh⟩
    simp;omega
  simp -implicitDefEqProofs only [e,if_true]
  rfl
end Go.AM

