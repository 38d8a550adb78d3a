import Derived.Test.YtgmfphialjcpcaaGreatG6
import Derived.Below
import Derived.ChangeOld
import Derived.Carry
import Derived.OpenShut
set_option linter.unusedSectionVars false
set_option linter.unusedVariables false
set_option linter.unusedSimpArgs false
set_option linter.constructorNameAsVariable false
set_option maxRecDepth 100000
noncomputable section
namespace Go.AM
open Go.Proofs
theorem Zmn{β:Type}{P:Program}{ty:TypeId}(a s:Nat)(hs:s≤64)(k:K β):reckK P .shr ty (.s (.int .u64 (a:Int))) (I s) k=k (.s (.int .u64 ((a / 2 ^ s:Nat):Int))):=by
 refine Zfh (s:=Op.shift .shr .u64 a .i64 s) rfl rfl rfl ?_ k;have h1:¬((s:Int)<0):=by omega
 have h2:min s IntKind.u64.bits=s:=by simp[IntKind.bits];omega
 have h3:((a:Int)).fdiv (2 ^ s)=((a / 2 ^ s:Nat):Int):=by
  rw[Int.fdiv_eq_ediv_of_nonneg _ (Int.pow_nonneg (by decide))];push_cast;rfl
 unfold Op.shift
 simp[h1,h2,h3]
def bitN(a k:Nat):Bool:=a / 2 ^ k % 2==1
theorem Zmo(a:Nat):a &&& 1=a % 2:=Nat.and_one_is_mod a
attribute [local congr] Z0i Z0j Z0k Z0l Z0m Z0n Z0o Z0p Z0q Z0r Z0s Z0t Z0u Z0v Z0w Z0x Z0y Z0z Z0A Z0B Z0C Z0D Z0E Z0F Z0G Z0H Z0I
theorem bit_K{β:Type}{h:Hp}(a k:Nat)(ha:a<18446744073709551616)(hk:k≤64)(K:Go.AM.K β):(reckK Tryz.prog .shr 29 (.s (.int .u64 (a:Int))) (I k) λx11=>reckK Tryz.prog .and 29 x11 (.s (.int .u64 1)) λx12=>eqK Tryz.prog false 29 x12 (.s (.int .u64 1)) h K)=K (B (bitN a k)):=by
 have h1:a / 2 ^ k<18446744073709551616:=Nat.lt_of_le_of_lt (Nat.div_le_self _ _) ha;rw[Zmn a k hk];have h2:=Zis (P:=Tryz.prog) (ty:=29) (a / 2 ^ k) 1 h1 (by omega) (λx12=>eqK Tryz.prog false 29 x12 (.s (.int .u64 1)) h K)
 refine h2.trans ?_;rw[Zmo,Z03];rw[Bool.false_xor];congr 3;unfold bitN;generalize a / 2 ^ k % 2=m;rw[Bool.eq_iff_iff,beq_iff_eq,beq_iff_eq]
 omega
def exL(ar an:Nat):Nat→List Envl→Outb→Inbx→Outb × Inbx × Int
 | _,[],o,i=>(o,i,0)
 | k,x::r,o,i=>if bitN ar k=false then exL ar an (k+1) r o i else
  if (takeI i x).2.2.2≠0 then (⟨0,0,[]⟩,⟨0,[],[]⟩,(takeI i x).2.2.2)
  else exL ar an (k+1) r (if bitN an k=true then (heardO o (takeI i x).2.1).1 else o) (takeI i x).1
def exO(o:Outb)(i:Inbx)(ar an:Nat):Outb × Inbx × Int:=
 if chkO o≠0∨chkI i≠0 then (⟨0,0,[]⟩,⟨0,[],[]⟩,1) else if o.node=i.node then (⟨0,0,[]⟩,⟨0,[],[]⟩,10) else exL ar an 0 (againL i.node o.pend) o i
noncomputable abbrev loopE(st:LoopState)(pd:Option Code):AObj := .loop Z31 Z30 Z2O Z2P (envT [(7,.ptr 2 0 0 1),(8,.ptr 3 0 0 1),(9,.ptr 4 0 0 1),(10,.ptr 5 0 0 1),(13,.ptr 6 0 0 1),(14,.ptr 7 0 0 1)]) st pd
structure InvX(ar an:Nat)(l:AV)(o:Outb)(i:Inbx)(h:Hp):Prop where
 a2:h[2]? = some (.arr 1 [[.s (.int .u64 (an:Int))]] true false)
 a3:h[3]? = some (.arr 3 [zO] true false)
 a4:h[4]? = some (.arr 3 [zI] true false)
 a5:h[5]? = some (.arr 1 [[I 0]] true false)
 a6:∃b,h[6]? = some (.arr 3 [cellsO b o] true false)
 a7:∃b1 b2,h[7]? = some (.arr 3 [cellsI b1 b2 i] true false)
 a8:h[8]? = some (.arr 1 [[l]] true false)
 a9:h[9]? = some (.arr 1 [[.s (.int .u64 (ar:Int))]] true false)
 a10:h[10]? = some (loopE .ready none)
structure EndX(e:Int)(h:Hp):Prop where
 b3:h[3]? = some (.arr 3 [zO] true false)
 b4:h[4]? = some (.arr 3 [zI] true false)
 b5:h[5]? = some (.arr 1 [[I e]] true false)
 b10:h[10]? = some (loopE .done (some .ret))
theorem InvX.mono{ar an:Nat}{l:AV}{o:Outb}{i:Inbx}{h h':Hp}(J:InvX ar an l o i h)(hk:∀(j:Nat)(x:AObj),h[j]? = some x→h'[j]? = some x):InvX ar an l o i h':=by
 obtain ⟨a2,a3,a4,a5,⟨b,a6⟩,⟨b1,b2,a7⟩,a8,a9,a10⟩:=J;exact ⟨hk _ _ a2,hk _ _ a3,hk _ _ a4,hk _ _ a5,⟨b,hk _ _ a6⟩,⟨b1,b2,hk _ _ a7⟩,hk _ _ a8,hk _ _ a9,hk _ _ a10⟩
set_option maxHeartbeats 4000000 in
theorem ZCn{ar an k:Nat}{l:AV}{o:Outb}{i:Inbx}{h:Hp}{x:Envl}(J:InvX ar an l o i h)(han:an<18446744073709551616)(hk:k≤64)(hh:i.heard.length<1000)(hm:i.msgs.length<1000)(hp:o.pend.length<1000):
  ∃h',((takeI i x).2.2.2≠0→Z6J [ymark,.yl 10,I k,.agg (encV x)] h=some (B false,h')∧EndX (takeI i x).2.2.2 h') ∧
   ((takeI i x).2.2.2=0→Z6J [ymark,.yl 10,I k,.agg (encV x)] h=some (B true,h')∧InvX ar an l (if bitN an k=true then (heardO o (takeI i x).2.1).1 else o) (takeI i x).1 h'):=by
 obtain ⟨a2,a3,a4,a5,⟨b,a6⟩,⟨b1,b2,a7⟩,a8,a9,a10⟩:=J;rw[Zx3 a10];have h10:10<h.length:=(List.getElem?_eq_some_iff.1 a10).1;obtain ⟨y,hy⟩:∃y,y=h.set 10 (loopE .busy none)++[AObj.arr 10 [encV x] true false]:=⟨_,rfl⟩;have hsl:(h.set 10 (loopE .busy none)).length=h.length:=by simp
 have keep:∀j o',h[j]? = some o'→j≠10→y[j]? = some o':=λj o' hj hn=>by rw[hy];exact Z0a (getSetN hj (Ne.symm hn))
 have y10:y[10]? = some (loopE .busy none):=by rw[hy];exact Z0a (getSelfN a10)
 have yb:y[h.length]? = some (.arr 10 [encV x] true false):=by rw[hy, ← hsl,Z0R];rfl
 have hb:∀k:Hp→Option (AV × Hp),beginX 10 Z31 Z30 Z2O Z2P (envT [(7,.ptr 2 0 0 1),(8,.ptr 3 0 0 1),(9,.ptr 4 0 0 1),(10,.ptr 5 0 0 1),(13,.ptr 6 0 0 1),(14,.ptr 7 0 0 1)]) (h++[.arr 10 [encV x] true false]) k=k y:=λk=>by rw[hy];exact beginN a10 k
 have l7:∀k:Go.AM.K (AV × Hp),ldK 3 true (.ptr 7 0 0 1) y k=k (ib b1 b2 i):=λk=>by rw[Z01,keep 7 _ a7 (by decide)];rfl
 have lx:∀k:Go.AM.K (AV × Hp),ldK 10 true (.ptr h.length 0 0 1) y k=k (.agg (encV x)):=λk=>by rw[Z01,yb];rfl
 obtain ⟨c1,c2,fT⟩:=ZCm b1 b2 i x hh hm y;obtain ⟨r,hr⟩:∃r,r=takeI i x:=⟨_,rfl⟩;rw[← hr] at fT ⊢
 have t0:∀k:Go.AM.K (AV × Hp),exK (takeV c1 c2 r) 0 k=k (ib c1 c2 r.1):=λk=>rfl
 have t1:∀k:Go.AM.K (AV × Hp),exK (takeV c1 c2 r) 1 k=k (.agg (encH r.2.1)):=λk=>rfl
 have t2:∀k:Go.AM.K (AV × Hp),exK (takeV c1 c2 r) 2 k=k (B r.2.2.1):=λk=>rfl
 have t3:∀k:Go.AM.K (AV × Hp),exK (takeV c1 c2 r) 3 k=k (I r.2.2.2):=λk=>rfl
 obtain ⟨z,hz⟩:∃z,z=y++[AObj.arr 3 [cellsI c1 c2 r.1] true false,.arr 2 [encH r.2.1] true false]:=⟨_,rfl⟩;have q1:∀k:AV→Hp→Option (AV × Hp),effK (boxE 3 (.agg zI) y.length) y k=k (.ptr y.length 0 0 1) (y++[.arr 3 [zI] true false]):=λk=>bx3 rfl rfl k
 have q2:∀k:AV→Hp→Option (AV × Hp),effK (boxE 2 (.agg zH) (y++[AObj.arr 3 [zI] true false]).length) (y++[.arr 3 [zI] true false]) k=k (.ptr (y.length+1) 0 0 1) (y++[.arr 3 [zI] true false,.arr 2 [zH] true false]):=λk=>by
  refine (Z2F 2 _ (.agg zH) (y++[AObj.arr 3 [zI] true false]) k rfl rfl rfl).trans ?_
  simp
 have q3:∀k:AV→Hp→Option (AV × Hp),effK (stE 3 (.ptr y.length 0 0 1) (ib c1 c2 r.1) (y++[.arr 3 [zI] true false,.arr 2 [zH] true false])) (y++[.arr 3 [zI] true false,.arr 2 [zH] true false]) k=k .u (y++[.arr 3 [cellsI c1 c2 r.1] true false,.arr 2 [zH] true false]):=λk=>by
  have:stE 3 (.ptr y.length 0 0 1) (ib c1 c2 r.1) (y++[.arr 3 [zI] true false,.arr 2 [zH] true false])=some (.u,⟨[(y.length,.arr 3 [cellsI c1 c2 r.1] true false)],[],[y.length]⟩):=by
   rw[Z0f,List.getElem?_append_right (Nat.le_refl _),Nat.sub_self];simp[putAt]
  rw[Z0d this,List.set_append_right _ _ (Nat.le_refl _),Nat.sub_self]
  rfl
 have q4:∀k:AV→Hp→Option (AV × Hp),effK (stE 2 (.ptr (y.length+1) 0 0 1) (.agg (encH r.2.1)) (y++[.arr 3 [cellsI c1 c2 r.1] true false,.arr 2 [zH] true false])) (y++[.arr 3 [cellsI c1 c2 r.1] true false,.arr 2 [zH] true false]) k=k .u z:=λk=>by
  have:stE 2 (.ptr (y.length+1) 0 0 1) (.agg (encH r.2.1)) (y++[.arr 3 [cellsI c1 c2 r.1] true false,.arr 2 [zH] true false])=some (.u,⟨[(y.length+1,.arr 2 [encH r.2.1] true false)],[],[y.length+1]⟩):=by
   rw[Z0f,List.getElem?_append_right (by omega),show y.length+1-y.length=1 by omega]
   simp[putAt,encH]
  rw[Z0d this,hz,List.set_append_right _ _ (by omega),show y.length+1-y.length=1 by omega]
  rfl
 have kz:∀j o',h[j]? = some o'→j≠10→z[j]? = some o':=λj o' hj hn=>by rw[hz];exact Z0a (keep j o' hj hn)
 have z10:z[10]? = some (loopE .busy none):=by rw[hz];exact Z0a y10
 have zb:z[y.length]? = some (.arr 3 [cellsI c1 c2 r.1] true false):=by rw[hz,List.getElem?_append_right (Nat.le_refl _),Nat.sub_self];rfl
 have zb2:z[y.length+1]? = some (.arr 2 [encH r.2.1] true false):=by rw[hz,List.getElem?_append_right (by omega),show y.length+1-y.length=1 by omega];rfl
 have hyl:10<y.length:=by rw[hy];simp;omega
 simp -implicitDefEqProofs only[Zfi,nbx,nst,hb,l7,lx,Zx0,Z02,fT,t0,t1,t2,t3,q1,q2,q3,q4,Z03,Bool.true_xor,Z00]
 by_cases e:r.2.2.2=0
 ·have ee:(r.2.2.2==0)=true:=by simp[e]
  have lz:∀k:Go.AM.K (AV × Hp),ldK 3 true (.ptr y.length 0 0 1) z k=k (ib c1 c2 r.1):=λk=>by rw[Z01,zb];rfl
  obtain ⟨w,hw⟩:∃w:Hp,w=z.set 7 (.arr 3 [cellsI c1 c2 r.1] true false):=⟨_,rfl⟩
  have s7:∀k:AV→Hp→Option (AV × Hp),effK (stE 3 (.ptr 7 0 0 1) (ib c1 c2 r.1) z) z k=k .u w:=λk=>by
   have:stE 3 (.ptr 7 0 0 1) (ib c1 c2 r.1) z=some (.u,⟨[(7,.arr 3 [cellsI c1 c2 r.1] true false)],[],[7]⟩):=by
    rw[Z0f,kz 7 _ a7 (by decide)]
    simp[putAt]
   rw[Z0d this,hw]
  have kw:∀j o',h[j]? = some o'→j≠10→j≠7→w[j]? = some o':=λj o' hj hn hn7=>by rw[hw];exact getSetN (kz j o' hj hn) (Ne.symm hn7)
  have w7:w[7]? = some (.arr 3 [cellsI c1 c2 r.1] true false):=by rw[hw];exact getSelfN (kz 7 _ a7 (by decide))
  have w10:w[10]? = some (loopE .busy none):=by rw[hw];exact getSetN z10 (by decide)
  have wb2:w[y.length+1]? = some (.arr 2 [encH r.2.1] true false):=by rw[hw];exact getSetN zb2 (by omega)
  have la:∀k:Go.AM.K (AV × Hp),ldK 1 false (.ptr 2 0 0 1) w k=k (.s (.int .u64 (an:Int))):=λk=>by rw[Z01,kw 2 _ a2 (by decide) (by decide)];rfl
  have hbit:=λK:Go.AM.K (AV × Hp)=>bit_K (h:=w) an k han hk K
  simp -implicitDefEqProofs only[ee,Bool.not_true,Bool.false_eq_true,if_false,lz,s7,la]
  rw[hbit];cases hbt:bitN an k with
  | true=>
   obtain ⟨b',fH⟩:=ZCb b o r.2.1 hp w;have l6:∀k:Go.AM.K (AV × Hp),ldK 3 true (.ptr 6 0 0 1) w k=k (ob b o):=λk=>by rw[Z01,kw 6 _ a6 (by decide) (by decide)];rfl
   have lh:∀k:Go.AM.K (AV × Hp),ldK 2 true (.ptr (y.length+1) 0 0 1) w k=k (.agg (encH r.2.1)):=λk=>by rw[Z01,wb2];rfl
   have u0:∀k:Go.AM.K (AV × Hp),exK (.tup [ob b' (heardO o r.2.1).1,I (heardO o r.2.1).2]) 0 k=k (ob b' (heardO o r.2.1).1):=λk=>rfl
   have u1:∀k:Go.AM.K (AV × Hp),exK (.tup [ob b' (heardO o r.2.1).1,I (heardO o r.2.1).2]) 1 k=k (I (heardO o r.2.1).2):=λk=>rfl
   obtain ⟨v,hv⟩:∃v:Hp,v=w.set 6 (.arr 3 [cellsO b' (heardO o r.2.1).1] true false):=⟨_,rfl⟩
   have s6:∀k:AV→Hp→Option (AV × Hp),effK (stE 3 (.ptr 6 0 0 1) (ob b' (heardO o r.2.1).1) w) w k=k .u v:=λk=>by
    have:stE 3 (.ptr 6 0 0 1) (ob b' (heardO o r.2.1).1) w=some (.u,⟨[(6,.arr 3 [cellsO b' (heardO o r.2.1).1] true false)],[],[6]⟩):=by
     rw[Z0f,kw 6 _ a6 (by decide) (by decide)]
     simp[putAt]
    rw[Z0d this,hv]
   have kv:∀j o',h[j]? = some o'→j≠10→j≠7→j≠6→(v.set 10 (loopE .ready none))[j]? = some o':=λj o' hj hn hn7 hn6=>getSetN (by rw[hv];exact getSetN (kw j o' hj hn hn7) (Ne.symm hn6)) (Ne.symm hn)
   refine ⟨v.set 10 (loopE .ready none),λhne=>absurd e hne,λ_=>⟨?_,kv 2 _ a2 (by decide) (by decide) (by decide),kv 3 _ a3 (by decide) (by decide) (by decide),kv 4 _ a4 (by decide) (by decide) (by decide),kv 5 _ a5 (by decide) (by decide) (by decide),⟨b', ?_⟩,⟨c1,c2, ?_⟩,kv 8 _ a8 (by decide) (by decide) (by decide),kv 9 _ a9 (by decide) (by decide) (by decide), ?_⟩⟩
   ·simp -implicitDefEqProofs only[Z00,if_true,l6,lh,Zx1,Z02,fH,u0,u1,s6,ZaP]
   ·exact getSetN (by rw[hv];exact getSelfN (kw 6 _ a6 (by decide) (by decide))) (by decide)
   ·exact getSetN (by rw[hv];exact getSetN w7 (by decide)) (by decide)
   ·exact getSelfN (by rw[hv];exact getSetN w10 (by decide))
  | false=>
   have kv:∀j o',h[j]? = some o'→j≠10→j≠7→(w.set 10 (loopE .ready none))[j]? = some o':=λj o' hj hn hn7=>getSetN (kw j o' hj hn hn7) (Ne.symm hn)
   refine ⟨w.set 10 (loopE .ready none),λhne=>absurd e hne,λ_=>⟨?_,kv 2 _ a2 (by decide) (by decide),kv 3 _ a3 (by decide) (by decide),kv 4 _ a4 (by decide) (by decide),kv 5 _ a5 (by decide) (by decide),⟨b,kv 6 _ a6 (by decide) (by decide)⟩,⟨c1,c2,getSetN w7 (by decide)⟩,kv 8 _ a8 (by decide) (by decide),kv 9 _ a9 (by decide) (by decide),getSelfN w10⟩⟩
   simp -implicitDefEqProofs only[Z00,Bool.false_eq_true,if_false,ZaP]
 ·have ee:(r.2.2.2==0)=false:=by simp[e]
  have bO:∀k:Go.AM.K (AV × Hp),buildK zO [] k=k (.agg zO):=λk=>rfl
  have bI:∀k:Go.AM.K (AV × Hp),buildK zI [] k=k (.agg zI):=λk=>rfl
  have z3:=kz 3 _ a3 (by decide)
  have z4:=kz 4 _ a4 (by decide)
  have z5:=kz 5 _ a5 (by decide)
  have s3:∀k:AV→Hp→Option (AV × Hp),effK (stE 3 (.ptr 3 0 0 1) (.agg zO) z) z k=k .u z:=λk=>by
   have:stE 3 (.ptr 3 0 0 1) (.agg zO) z=some (.u,⟨[(3,.arr 3 [zO] true false)],[],[3]⟩):=by rw[Z0f,z3];rfl
   rw[Z0d this,Z15 z3]
  have s4:∀k:AV→Hp→Option (AV × Hp),effK (stE 3 (.ptr 4 0 0 1) (.agg zI) z) z k=k .u z:=λk=>by
   have:stE 3 (.ptr 4 0 0 1) (.agg zI) z=some (.u,⟨[(4,.arr 3 [zI] true false)],[],[4]⟩):=by rw[Z0f,z4];rfl
   rw[Z0d this,Z15 z4]
  obtain ⟨w,hw⟩:∃w:Hp,w=z.set 5 (.arr 1 [[I r.2.2.2]] true false):=⟨_,rfl⟩
  have s5:∀k:AV→Hp→Option (AV × Hp),effK (stE 1 (.ptr 5 0 0 1) (I r.2.2.2) z) z k=k .u w:=λk=>by
   have:stE 1 (.ptr 5 0 0 1) (I r.2.2.2) z=some (.u,⟨[(5,.arr 1 [[I r.2.2.2]] true false)],[],[5]⟩):=by rw[Z0f,z5];rfl
   rw[Z0d this,hw]
  refine ⟨w.set 10 (loopE .done (some .ret)),λ_=>⟨?_, ?_, ?_, ?_, ?_⟩,λhq=>absurd hq e⟩
  ·simp -implicitDefEqProofs only[ee,Bool.not_false,if_true,bO,bI,s3,s4,s5]
  ·exact getSetN (by rw[hw];exact getSetN z3 (by decide)) (by decide)
  ·exact getSetN (by rw[hw];exact getSetN z4 (by decide)) (by decide)
  ·exact getSetN (by rw[hw];exact getSelfN z5) (by decide)
  ·exact getSelfN (by rw[hw];exact getSetN z10 (by decide))
end Go.AM


namespace Go.AM
open Go.Proofs
theorem Zgz(l:List Hrd)(x:Hrd):(insH l x).length=l.length+1:=by
 unfold insH;rw[List.length_append,List.length_cons,List.length_take,List.length_drop]
 have:=Zex l x
 omega
theorem ZeA(i:Inbx)(e:Envl):(takeI i e).1.heard.length≤i.heard.length+1∧(takeI i e).1.msgs.length≤i.msgs.length+1:=by
 unfold takeI;repeat' split
 all_goals (try (constructor<;>simp;done))
 ·constructor
  ·rw[Zgz];exact Nat.le_refl _
  ·simp
 ·constructor
  ·rw[Zgz];exact Nat.le_refl _
  ·have:=Z4s (i.msgs++[e.msg]);simpa using this
theorem ZgA(o:Outb)(hd:Hrd):(heardO o hd).1.pend.length≤o.pend.length:=by
 unfold heardO;repeat' split
 all_goals (try (simp;done))
 exact List.length_filter_le _ _
attribute [local congr] Z0i Z0j Z0k Z0l Z0m Z0n Z0o Z0p Z0q Z0r Z0s Z0t Z0u Z0v Z0w Z0x Z0y Z0z Z0A Z0B Z0C Z0D Z0E Z0F Z0G Z0H Z0I
set_option maxHeartbeats 4000000 in
theorem ZCo{x0 xr:Hp→Option (AV × Hp)}{ar an:Nat}{l:List Envl}{b:Bool}(har:ar<18446744073709551616)(han:an<18446744073709551616)(hl:l.length≤64):∀(n:Nat)(pre post:List Envl)(o:Outb)(i:Inbx)(h:Hp),l=pre++post→post.length<n→InvX ar an (.lst 10 b (l.map encV)) o i h→i.heard.length+post.length≤900→i.msgs.length+post.length≤900→o.pend.length<1000→
  ∃h',((exL ar an pre.length post o i).2.2=0→Z2H Tryz.prog Z0V D0 NN x0 xr n (.yl 10) (.ptr 9 0 0 1) (.lst 10 b (l.map encV)) (I l.length) (I pre.length) h=x0 h'∧InvX ar an (.lst 10 b (l.map encV)) (exL ar an pre.length post o i).1 (exL ar an pre.length post o i).2.1 h') ∧
   ((exL ar an pre.length post o i).2.2≠0→Z2H Tryz.prog Z0V D0 NN x0 xr n (.yl 10) (.ptr 9 0 0 1) (.lst 10 b (l.map encV)) (I l.length) (I pre.length) h=xr h'∧EndX (exL ar an pre.length post o i).2.2 h'∧(exL ar an pre.length post o i).1=⟨0,0,[]⟩∧(exL ar an pre.length post o i).2.1=⟨0,[],[]⟩):=by
 intro n;induction n with
 | zero=>intro pre post o i h _ h2;omega
 | succ n ih=>
  intro pre post o i h hc hn J l1 l2 l3;show ∃h',(_→Z43 Tryz.prog Z0V D0 NN (Z2H Tryz.prog Z0V D0 NN x0 xr n) x0 xr _ _ _ _ _ h=_∧_)∧(_→Z43 Tryz.prog Z0V D0 NN (Z2H Tryz.prog Z0V D0 NN x0 xr n) x0 xr _ _ _ _ _ h=_∧_)
  cases post with
  | nil=>
   have:l=pre:=by simpa using hc
   subst this;have c1:¬((l.length:Int)<(l.length:Int)):=by omega
   have hb:Z43 Tryz.prog Z0V D0 NN (Z2H Tryz.prog Z0V D0 NN x0 xr n) x0 xr (.yl 10) (.ptr 9 0 0 1) (.lst 10 b (l.map encV)) (I l.length) (I l.length) h=x0 h:=by
    simp -implicitDefEqProofs only[Z43,Z05,c1,decide_false,Z00,Bool.false_eq_true,if_false]
   exact ⟨h,λ_=>⟨hb,J⟩,λhh=>absurd rfl hh⟩
  | cons x post=>
   have hi:pre.length<l.length:=by rw[hc];simp
   have hx:l[pre.length]? = some x:=by rw[hc];simp
   have hlt:((pre.length:Int)<(l.length:Int)):=by omega
   have hw:IntKind.i64.wrap ((pre.length:Int)+1)=(((pre++[x]).length:Nat):Int):=by rw[wrap64 (by omega) (by omega)];simp
   have ic:∀k:Go.AM.K (AV × Hp),iaK 10 (.lst 10 b (l.map encV)) (I pre.length) k=k (.ep (encV x) 0):=λk=>Z0M pre.length rfl hx k
   have ld:∀k:Go.AM.K (AV × Hp),ldK 10 true (.ep (encV x) 0) h k=k (.agg (encV x)):=λk=>rfl
   obtain ⟨y,hy⟩:∃y,y=h++[AObj.arr 10 [encV x] true false]:=⟨_,rfl⟩;have ns:∀k:AV→Hp→Option (AV × Hp),effK (stE 10 (.ptr h.length 0 0 1) (.agg (encV x)) (h++[.arr 10 [zE] true false])) (h++[.arr 10 [zE] true false]) k=k .u y:=λk=>by rw[hy];exact nst k
   have lw:∀k:Go.AM.K (AV × Hp),ldK 10 true (.ptr h.length 0 0 1) y k=k (.agg (encV x)):=λk=>by rw[hy];exact nlw k
   have Jy:InvX ar an (.lst 10 b (l.map encV)) o i y:=J.mono λj z hj=>by rw[hy];exact Z0a hj
   have la:∀k:Go.AM.K (AV × Hp),ldK 1 false (.ptr 9 0 0 1) y k=k (.s (.int .u64 (ar:Int))):=λk=>by rw[Z01,Jy.a9];rfl
   have hbit:=λK:Go.AM.K (AV × Hp)=>bit_K (h:=y) ar pre.length har (by omega) K
   have hpl:(pre++[x]).length=pre.length+1:=by simp
   have hb:∀(c:Bool)(g:Hp),(∀k:AV→Hp→Option (AV × Hp),grpK true (B (bitN ar pre.length)) y (λk14=>callVK Z0V (.yl 10) [I pre.length,.agg (encV x)] y λx16 h17=>notK x16 λx18=>k14 x18 h17) k=k (B c) g)→Z43 Tryz.prog Z0V D0 NN (Z2H Tryz.prog Z0V D0 NN x0 xr n) x0 xr (.yl 10) (.ptr 9 0 0 1) (.lst 10 b (l.map encV)) (I l.length) (I pre.length) h=if c=true then xr g else Z2H Tryz.prog Z0V D0 NN x0 xr n (.yl 10) (.ptr 9 0 0 1) (.lst 10 b (l.map encV)) (I l.length) (I ((pre++[x]).length:Nat)) g:=λc g hg=>by
    simp -implicitDefEqProofs only[Z43,Z05,hlt,decide_true,Z00,if_true,ic,ld,nbx,ns,la]
    rw[hbit];simp -implicitDefEqProofs only[lw];rw[hg];simp -implicitDefEqProofs only[Z00,Z0e,hw]
   cases hbt:bitN ar pre.length with
   | false=>
    have he:exL ar an pre.length (x::post) o i=exL ar an (pre++[x]).length post o i:=by rw[exL,if_pos hbt,hpl]
    have hb0:=hb false y (λk=>by rw[hbt,Z5N])
    rw[hb0,he];simp only[Bool.false_eq_true,if_false];exact ih (pre++[x]) post o i y (by simpa using hc) (by simpa using hn) Jy (by simp at l1;omega) (by simp at l2;omega) l3
   | true=>
    have he:exL ar an pre.length (x::post) o i=if (takeI i x).2.2.2≠0 then (⟨0,0,[]⟩,⟨0,[],[]⟩,(takeI i x).2.2.2) else exL ar an (pre.length+1) post (if bitN an pre.length=true then (heardO o (takeI i x).2.1).1 else o) (takeI i x).1:=by rw[exL,if_neg (by rw[hbt];simp)]
    have hlen:(x::post).length=post.length+1:=rfl;obtain ⟨g,r1,r2⟩:=ZCn (k:=pre.length) (x:=x) Jy han (by omega) (by omega) (by omega) l3
    by_cases e:(takeI i x).2.2.2=0
    ·obtain ⟨r3,r4⟩:=r2 e
     rw[if_neg (show ¬(takeI i x).2.2.2≠0 from λhh=>hh e)] at he
     have hb0:=hb false g (λk=>by
      have cy:∀k:AV→Hp→Option (AV × Hp),callVK Z0V (.yl 10) [I pre.length,.agg (encV x)] y k=k (B true) g:=λk=>by
       show callK (Z0V YB) (ymark :: .yl 10::[I pre.length,.agg (encV x)]) y k=_;rw[Zla,Z02,r3]
      rw[hbt,Z3b,cy];rfl)
     rw[hb0,he, ← hpl];simp only[Bool.false_eq_true,if_false];obtain ⟨t1,t2⟩:=ZeA i x
     refine ih (pre++[x]) post _ _ g (by simpa using hc) (by simpa using hn) r4 (by omega) (by omega) ?_
     split
     ·have:=ZgA o (takeI i x).2.1;omega
     ·exact l3
    ·obtain ⟨r3,r4⟩:=r1 e
     rw[if_pos (show (takeI i x).2.2.2≠0 from e)] at he
     have hb0:=hb true g (λk=>by
      have cy:∀k:AV→Hp→Option (AV × Hp),callVK Z0V (.yl 10) [I pre.length,.agg (encV x)] y k=k (B false) g:=λk=>by
       show callK (Z0V YB) (ymark :: .yl 10::[I pre.length,.agg (encV x)]) y k=_;rw[Zla,Z02,r3]
      rw[hbt,Z3b,cy];rfl)
     rw[hb0,he];exact ⟨g,λhh=>absurd hh e,λ_=>⟨if_pos rfl,r4,rfl,rfl⟩⟩
theorem ZCp{β:Type}{T:Tab}{F:Fun}{f:FuncId}{caps:List AV}{h h':Hp}{m:Nat}{ps:Array Tmp}{asg body:Code}{ts:Tm}{v:AV}{pend:Option Code}{k:Option Code→Qb β}(hT:T f=some F)(hF:F (.yl h.length::caps) (h++[.loop m ps asg body ts .ready none])=some (v,h'))(hl:h'[h.length]? = some (.loop m ps asg body ts .done pend)):
  rangeX T (.fn f caps) m ps asg body ts h k=k pend (h'.set h.length (.loop m ps asg body ts .exhausted pend)):=by
 unfold rangeX;simp only[hT,Z02,hF,hl]
end Go.AM


namespace Go.AM
open Go.Proofs
attribute [local congr] Z0i Z0j Z0k Z0l Z0m Z0n Z0o Z0p Z0q Z0r Z0s Z0t Z0u Z0v Z0w Z0x Z0y Z0z Z0A Z0B Z0C Z0D Z0E Z0F Z0G Z0H Z0I
def exV(b b1 b2:Bool)(r:Outb × Inbx × Int):AV := .tup [ob b r.1,ib b1 b2 r.2.1,I r.2.2]
set_option maxHeartbeats 4000000 in
theorem ZgB(b:Bool)(o:Outb)(c1 c2:Bool)(i:Inbx)(ar an:Nat)(har:ar<18446744073709551616)(han:an<18446744073709551616)(hp:o.pend.length<1000)(hh:i.heard.length<1000)(hm:i.msgs.length<1000)(h:Hp):∃b' b1 b2,Z35 [ob b o,ib c1 c2 i,.s (.int .u64 (ar:Int)),.s (.int .u64 (an:Int))] h=some (exV b' b1 b2 (exO o i ar an),h):=by
 obtain ⟨LP,hLP⟩:∃LP:AV,LP=SL 10 encV b o.pend:=⟨_,rfl⟩;obtain ⟨LH,hLH⟩:∃LH:AV,LH=SL 2 encH c1 i.heard:=⟨_,rfl⟩;obtain ⟨LM,hLM⟩:∃LM:AV,LM=SL 7 encM c2 i.msgs:=⟨_,rfl⟩;have eob:ob b o = .agg [I o.node,I o.next,LP]:=by rw[hLP]
 have eib:ib c1 c2 i = .agg [I i.node,LH,LM]:=by rw[hLH,hLM]
 obtain ⟨o0,ho0⟩:∃o0:AObj,o0 = .arr 3 [[I o.node,I o.next,LP]] true false:=⟨_,rfl⟩;obtain ⟨o1,ho1⟩:∃o1:AObj,o1 = .arr 3 [[I i.node,LH,LM]] true false:=⟨_,rfl⟩;obtain ⟨o2,ho2⟩:∃o2:AObj,o2 = .arr 1 [[.s (.int .u64 (an:Int))]] true false:=⟨_,rfl⟩;obtain ⟨H,hH⟩:∃H:Hp,H=[o0,o1,o2,AObj.arr 3 [zO] true false,.arr 3 [zI] true false,.arr 1 [[I 0]] true false]:=⟨_,rfl⟩;have x0:∀k:Kb AV,effK (boxE 3 (.agg [I o.node,I o.next,LP]) ([]:Hp).length) [] k=k (.ptr 0 0 0 1) [o0]:=λk=>by rw[ho0,hLP];rfl
 have x1:∀k:Kb AV,effK (boxE 3 (.agg [I i.node,LH,LM]) ([o0]:Hp).length) [o0] k=k (.ptr 1 0 0 1) [o0,o1]:=λk=>by rw[ho1,hLH,hLM];rfl
 have x2:∀k:Kb AV,effK (boxE 1 (.s (.int .u64 (an:Int))) ([o0,o1]:Hp).length) [o0,o1] k=k (.ptr 2 0 0 1) [o0,o1,o2]:=λk=>by rw[ho2];rfl
 have x3:∀k:Kb AV,effK (boxE 3 (.agg zO) ([o0,o1,o2]:Hp).length) [o0,o1,o2] k=k (.ptr 3 0 0 1) [o0,o1,o2,.arr 3 [zO] true false]:=λk=>rfl
 have x4:∀k:Kb AV,effK (boxE 3 (.agg zI) ([o0,o1,o2,.arr 3 [zO] true false]:Hp).length) [o0,o1,o2,.arr 3 [zO] true false] k=k (.ptr 4 0 0 1) [o0,o1,o2,.arr 3 [zO] true false,.arr 3 [zI] true false]:=λk=>rfl
 have x5:∀k:Kb AV,effK (boxE 1 (I 0) ([o0,o1,o2,.arr 3 [zO] true false,.arr 3 [zI] true false]:Hp).length) [o0,o1,o2,.arr 3 [zO] true false,.arr 3 [zI] true false] k=k (.ptr 5 0 0 1) H:=λk=>by rw[hH];rfl
 have lo:∀k:KV,ldK 3 true (.ptr 0 0 0 1) H k=k (.agg [I o.node,I o.next,LP]):=λk=>by rw[hH,ho0,hLP];rfl
 have li:∀k:KV,ldK 3 true (.ptr 1 0 0 1) H k=k (.agg [I i.node,LH,LM]):=λk=>by rw[hH,ho1,hLH,hLM];rfl
 have lon:∀k:KV,ldK 1 false (.ptr 0 0 0 1) H k=k (I o.node):=λk=>by rw[hH,ho0];rfl
 have lin:∀k:KV,ldK 1 false (.ptr 1 0 0 1) H k=k (I i.node):=λk=>by rw[hH,ho1];rfl
 have bO:∀k:KV,buildK zO [] k=k (.agg zO):=λk=>rfl
 have bI:∀k:KV,buildK zI [] k=k (.agg zI):=λk=>rfl
 have s3:∀k:Kb AV,effK (stE 3 (.ptr 3 0 0 1) (.agg zO) H) H k=k .u H:=λk=>by rw[hH];exact Z0d (v := .u) (id:=3) (o := .arr 3 [zO] true false) (ft:=[3]) rfl k
 have s4:∀k:Kb AV,effK (stE 3 (.ptr 4 0 0 1) (.agg zI) H) H k=k .u H:=λk=>by rw[hH];exact Z0d (v := .u) (id:=4) (o := .arr 3 [zI] true false) (ft:=[4]) rfl k
 have s5:∀(e:Int)(k:Kb AV),effK (stE 1 (.ptr 5 0 0 1) (I e) H) H k=k .u (H.set 5 (.arr 1 [[I e]] true false)):=λe k=>by rw[hH];exact Z0d (v := .u) (id:=5) (o := .arr 1 [[I e]] true false) (ft:=[5]) rfl k
 have r3:∀(e:Int)(k:KV),ldK 3 true (.ptr 3 0 0 1) (H.set 5 (.arr 1 [[I e]] true false)) k=k (.agg zO):=λe k=>by rw[hH];rfl
 have r4:∀(e:Int)(k:KV),ldK 3 true (.ptr 4 0 0 1) (H.set 5 (.arr 1 [[I e]] true false)) k=k (.agg zI):=λe k=>by rw[hH];rfl
 have r5:∀(e:Int)(k:KV),ldK 1 false (.ptr 5 0 0 1) (H.set 5 (.arr 1 [[I e]] true false)) k=k (I e):=λe k=>by rw[hH];rfl
 have fO:=Zev b o (by omega)
 have fI:=Z7b c1 c2 i (by omega) hm
 rw[eob] at fO;rw[eib] at fI;have hn1:nrm (.a [none,none,some 10]) (.agg [I o.node,I o.next,LP]) = .agg [I o.node,I o.next,LP]:=by rw[hLP];rfl
 have hn2:nrm (.a [none,some 2,some 7]) (.agg [I i.node,LH,LM]) = .agg [I i.node,LH,LM]:=by rw[hLH,hLM];rfl
 have hpl:plains [.agg [I o.node,I o.next,LP],.agg [I i.node,LH,LM],.s (.int .u64 (ar:Int)),.s (.int .u64 (an:Int))]=true:=by rw[hLP,hLH,hLM];rfl
 rw[eob,eib];unfold exO
 have go:∀w,Z3S Tryz.prog Z12 Z1X NN (λv g=>cvt false g v) (.agg [I o.node,I o.next,LP]) (.agg [I i.node,LH,LM]) (.s (.int .u64 (ar:Int))) (.s (.int .u64 (an:Int))) []=some w→Z35 [.agg [I o.node,I o.next,LP],.agg [I i.node,LH,LM],.s (.int .u64 (ar:Int)),.s (.int .u64 (an:Int))] h=some (nrmR [.a [none,none,some 10],.a [none,some 2,some 7],.o] w,h):=λw hw=>
  Zxf (a0 := .agg [I o.node,I o.next,LP]) (a1 := .agg [I i.node,LH,LM]) (a2 := .s (.int .u64 (ar:Int))) (a3 := .s (.int .u64 (an:Int))) (v:=w) hpl (by rw[hn1,hn2];exact hw) h
 by_cases z:chkO o≠0∨chkI i≠0
 ·rw[if_pos z]
  refine ⟨true,true,true,(go (.tup [.agg zO,.agg zI,I 1]) ?_).trans rfl⟩
  have gr:(!(chkO o==0) || !(chkI i==0))=true:=by
   rcases z with z | z
   ·simp[z]
   ·simp[z]
  simp -implicitDefEqProofs only[Z3S,x0,x1,x2,x3,x4,x5,lo,li,Zg6,Zg5,Z02,fO,fI,Z03,Bool.true_xor,Z0J,gr,Z00,if_true,bO,bI,s3,s4,s5,r3,r4,r5]
  rfl
 ·have z1:chkO o=0:=Classical.byContradiction λq=>z (.inl q)
  have z2:chkI i=0:=Classical.byContradiction λq=>z (.inr q)
  rw[if_neg z];have gr:(!(chkO o==0) || !(chkI i==0))=false:=by simp[z1,z2]
  by_cases q:o.node=i.node
  ·have eq':(o.node==i.node)=true:=by simp[q]
   rw[if_pos q];refine ⟨true,true,true,(go (.tup [.agg zO,.agg zI,I 10]) ?_).trans rfl⟩
   simp -implicitDefEqProofs only[Z3S,x0,x1,x2,x3,x4,x5,lo,li,Zg6,Zg5,Z02,fO,fI,Z03,Bool.true_xor,Z0J,gr,Z00,Bool.false_eq_true,if_false,Z04,Nat.zero_add,lon,lin,Bool.false_xor,eq',if_true,bO,bI,s3,s4,s5,r3,r4,r5]
   rfl
  ·have eq':(o.node==i.node)=false:=by simp[q]
   rw[if_neg q];obtain ⟨-,-,-,k4,-⟩:=Z4t z1
   obtain ⟨m1,m2,m3,-⟩:=Z7c z2;obtain ⟨ba,fA⟩:=ZC3 b o i.node (by omega) H
   rw[eob] at fA;have hA:againO o i.node=(againL i.node o.pend,0):=by unfold againO;rw[if_neg (λhh=>hh z1),if_neg (by rw[m1];simp)]
   rw[hA] at fA;obtain ⟨L,hL⟩:∃L:List Envl,L=againL i.node o.pend:=⟨_,rfl⟩
   rw[← hL] at fA ⊢
   have hLl:L.length≤64:=by rw[hL];exact Nat.le_trans (List.length_filter_le _ _) k4
   have tp:∀(a b:AV)(k:KV),exK (.tup [a,b]) 0 k=k a:=λa b k=>rfl
   have tq:∀(a b:AV)(k:KV),exK (.tup [a,b]) 1 k=k b:=λa b k=>rfl
   -- the copies
   have y0:∀k:Kb AV,effK (boxE 3 (.agg zO) H.length) H k=k (.ptr 6 0 0 1) (H++[.arr 3 [zO] true false]):=λk=>by rw[hH];rfl
   have y1:∀k:Kb AV,effK (stE 3 (.ptr 6 0 0 1) (.agg [I o.node,I o.next,LP]) (H++[.arr 3 [zO] true false])) (H++[.arr 3 [zO] true false]) k=k .u (H++[o0]):=λk=>by
    rw[hH,ho0,hLP];exact Z0d (v := .u) (id:=6) (o := .arr 3 [[I o.node,I o.next,SL 10 encV b o.pend]] true false) (ft:=[6]) rfl k
   obtain ⟨H1,hH1⟩:∃H1:Hp,H1=H++[o0]:=⟨_,rfl⟩;rw[← hH1] at y1;have y2:∀k:KV,ldK 1 false (.ptr 0 0 2 1) H1 k=k LP:=λk=>by rw[hH1,hH,ho0,hLP];rfl
   have fE:∀h,Z5j [LP] h=some (LP,h):=λh=>by rw[hLP];exact ZBU o.pend b (by omega) h
   have y3:∀k:Kb AV,effK (stE 1 (.ptr 6 0 2 1) LP H1) H1 k=k .u H1:=λk=>by
    rw[hH1,hH,ho0,hLP];exact Z0d (v := .u) (id:=6) (o := .arr 3 [[I o.node,I o.next,SL 10 encV b o.pend]] true false) (ft:=[6]) rfl k
   have y4:∀k:KV,ldK 1 false (.ptr 1 0 0 1) H1 k=k (I i.node):=λk=>by rw[hH1,hH,ho1];rfl
   have y5:∀k:KV,ldK 1 false (.ptr 1 0 1 1) H1 k=k LH:=λk=>by rw[hH1,hH,ho1,hLH];rfl
   have y6:∀k:KV,ldK 1 false (.ptr 1 0 2 1) H1 k=k LM:=λk=>by rw[hH1,hH,ho1,hLM];rfl
   have gH:∀h base,Z5k [LH] h base=some (LH,EF []):=λh base=>by
    rw[hLH];exact (Z3a (Zml i.heard c1 (by omega) h) base).trans (by simp[SL,idss,ids])
   have gM:∀h base,ZcA [LM] h base=some (LM,EF []):=λh base=>by
    rw[hLM]
    have fM:Z5d [SL 7 encM c2 i.msgs] h=some (SL 7 encM c2 i.msgs,h):=by
     refine (ZtT (a0:=SL 7 encM c2 i.msgs) (v:=if (c2&&i.msgs.isEmpty)=true then nilS else SL 7 encM c2 i.msgs) rfl ?_ h).trans ?_
     ·have rC:=Zeo i.msgs c2 (by omega) []
      have hK:=(ZfP (λv g=>cvt false g v) (SL 7 encM c2 i.msgs) []).symm
      show Z4B Tryz.prog Z6k Z6j NN (λv g=>cvt false g v) (SL 7 encM c2 i.msgs) []=_
      rw[hK,rC];by_cases hb:(c2&&i.msgs.isEmpty)=true
      ·rw[if_pos hb,if_pos hb];rfl
      ·rw[if_neg hb,if_neg hb]
       have hb':(c2&&i.msgs.isEmpty)=false:=by simpa using hb
       refine (Z0X (st:=false) (n:=i.msgs.length) (fr:=i.msgs.length) (full:=false) (sz:=7) (id:=1) (h:=[.arr 7 [] true false,.arr 7 (i.msgs.map encM) true false]) rfl (by simp) (by simp) (Z0U λx=>by simp[encM])).trans ?_
       rw[SL,hb']
     ·by_cases hb:(c2&&i.msgs.isEmpty)=true
      ·rw[if_pos hb]
       obtain ⟨e1,e2⟩:=Bool.and_eq_true_iff.1 hb;have:i.msgs=[]:=by simpa using e2
       rw[this,e1];rfl
      ·rw[if_neg hb];rfl
    exact (Z3a fM base).trans (by simp[SL,idss,ids])
   have bI3:∀k:KV,buildK zI [(some (0,1),I i.node),(some (1,1),LH),(some (2,1),LM)] k=k (.agg [I i.node,LH,LM]):=λk=>by rw[hLH,hLM];rfl
   have d1:∀k:AV→Hp→Ent→Option AV,effD (boxE 3 (.agg zI) H1.length) H1 k=k (.ptr 7 0 0 1) (H1++[.arr 3 [zI] true false]) ([],[7]):=λk=>by rw[hH1,hH];rfl
   obtain ⟨H2,hH2⟩:∃H2:Hp,H2=H1++[o1]:=⟨_,rfl⟩
   have d2:∀k:AV→Hp→Ent→Option AV,effD (stE 3 (.ptr 7 0 0 1) (.agg [I i.node,LH,LM]) (H1++[.arr 3 [zI] true false])) (H1++[.arr 3 [zI] true false]) k=k .u H2 ([7],[7]):=λk=>by
    rw[hH2,hH1,hH,ho1,hLH,hLM];exact Z0h (v := .u) (id:=7) (o := .arr 3 [[I i.node,SL 2 encH c1 i.heard,SL 7 encM c2 i.msgs]] true false) (ft:=[7]) rfl k
   have dj1:disjAll [(1,4),(4,6),(1,7),(1,9),(3,9),(4,9),(6,9),(7,9)] [([],[]),(idsOf (.ptr 1 0 0 1),[]),([],[]),(idsOf (.ptr 1 0 1 1),[]),([],[]),([],[]),(idsOf (.ptr 1 0 2 1),[]),([],[]),([],[]),([],[7]),([7],[7])]=true:=rfl;obtain ⟨H3,hH3⟩:∃H3:Hp,H3=H2++[AObj.arr 1 [[.lst 10 ba (L.map encV)]] true false,.arr 1 [[.s (.int .u64 (ar:Int))]] true false]:=⟨_,rfl⟩;have hl3:H3.length=10:=by rw[hH3,hH2,hH1,hH];rfl
   have fR:Z6u [.lst 10 ba (L.map encV),.s (.int .u64 (ar:Int))] H2=some (.fn 50 [.ptr 8 0 0 1,.ptr 9 0 0 1],H3):=by
    rw[ZvM,hH3,hH2,hH1,hH]
    rfl
   have J:InvX ar an (.lst 10 ba (L.map encV)) o i (H3++[loopE .ready none]):=by
    rw[hH3,hH2,hH1,hH,ho0,ho1,ho2,hLP,hLH,hLM];exact ⟨rfl,rfl,rfl,rfl,⟨b,rfl⟩,⟨c1,c2,rfl⟩,rfl,rfl,rfl⟩
   obtain ⟨h',e1,e2⟩:=ZCo (x0:=λh=>Z8r Tryz.prog Z0V D0 NN (λv h=>some (v,h)) h) (xr:=λh=>some (.tup [],h)) (b:=ba) har han hLl NN [] L o i _ rfl (by have:=NN_ge;omega) J (by omega) (by omega) hp
   have hF:∀g v,Z2H Tryz.prog Z0V D0 NN (λh=>Z8r Tryz.prog Z0V D0 NN (λv h=>some (v,h)) h) (λh=>some (.tup [],h)) NN (.yl 10) (.ptr 9 0 0 1) (.lst 10 ba (L.map encV)) (I L.length) (I ([]:List Envl).length) (H3++[loopE .ready none])=some (v,g)→Z6K [.yl H3.length,.ptr 8 0 0 1,.ptr 9 0 0 1] (H3++[loopE .ready none])=some (v,g):=λg v hg=>by
    rw[Zx7,hl3];have ls:∀k:Go.AM.K (AV × Hp),ldK 1 false (.ptr 8 0 0 1) (H3++[loopE .ready none]) k=k (.lst 10 ba (L.map encV)):=λk=>by rw[Z01,J.a8];rfl
    unfold Z8s;rw[ls,Z07,List.length_map]
    exact hg
   have start:∀w,(rangeX Z12 (.fn 50 [.ptr 8 0 0 1,.ptr 9 0 0 1]) Z31 Z30 Z2O Z2P (envT [(7,.ptr 2 0 0 1),(8,.ptr 3 0 0 1),(9,.ptr 4 0 0 1),(10,.ptr 5 0 0 1),(13,.ptr 6 0 0 1),(14,.ptr 7 0 0 1)]) H3 λpd h150=>jumpC pd (Z5Q Tryz.prog Z12 Z1X NN (λv g=>cvt false g v) (.ptr 3 0 0 1) (.ptr 4 0 0 1) (.ptr 5 0 0 1) (.ptr 6 0 0 1) (.ptr 7 0 0 1) h150) (λi151=>bif i151==1 then (Z5Q Tryz.prog Z12 Z1X NN (λv g=>cvt false g v) (.ptr 3 0 0 1) (.ptr 4 0 0 1) (.ptr 5 0 0 1) (.ptr 6 0 0 1) (.ptr 7 0 0 1) h150) else (none)) (ldK 3 true (.ptr 3 0 0 1) h150 λr152=>ldK 3 true (.ptr 4 0 0 1) h150 λr153=>ldK 1 false (.ptr 5 0 0 1) h150 λr154=>cvt false h150 (.tup [r152,r153,r154])))=some w→Z3S Tryz.prog Z12 Z1X NN (λv g=>cvt false g v) (.agg [I o.node,I o.next,LP]) (.agg [I i.node,LH,LM]) (.s (.int .u64 (ar:Int))) (.s (.int .u64 (an:Int))) []=some w:=λw hw=>by
    simp -implicitDefEqProofs only[Z3S,x0,x1,x2,x3,x4,x5,lo,li,Zg6,Zg5,Zx9,Zxa,Zxb,Z02,fO,fI,Z03,Bool.true_xor,Z0J,gr,Z00,Bool.false_eq_true,if_false,Z04,Nat.zero_add,lon,lin,Bool.false_xor,eq',fA,tp,tq,y0,y1,y2,fE,y3,y4,y5,ZwY,ZwZ,Z2N,gH,Z4q,y6,gM,bI3,d1,d2,dj1,cond_true,fR]
    exact hw
   by_cases e:(exL ar an 0 L o i).2.2=0
   ·obtain ⟨f1,f2⟩:=e1 e
    obtain ⟨a2,a3,a4,a5,⟨b',a6⟩,⟨b1,b2,a7⟩,a8,a9,a10⟩:=f2;have hF':=hF h' (.tup []) f1;obtain ⟨g,hg⟩:∃g:Hp,g=h'.set H3.length (loopE .exhausted none):=⟨_,rfl⟩;have kg:∀j x,j<10→h'[j]? = some x→g[j]? = some x:=λj x hj hx=>by rw[hg,hl3];exact getSetN hx (by omega)
    obtain ⟨r,hr⟩:∃r,r=exL ar an 0 L o i:=⟨_,rfl⟩;rw[show exL ar an ([]:List Envl).length L o i=r from hr.symm] at a6 a7;rw[← hr] at e ⊢
    refine ⟨b',b1,b2,(go (.tup [ob b' r.1,ib b1 b2 r.2.1,I 0]) (start _ ?_)).trans (by unfold exV;rw[e];rfl)⟩
    refine (ZBP Zlb hF' (by rw[hl3];exact a10)).trans ?_
    rw[← hg];have g6:=kg 6 _ (by omega) a6
    have g7:=kg 7 _ (by omega) a7
    have g3:=kg 3 _ (by omega) a3
    have g4:=kg 4 _ (by omega) a4
    have g5:=kg 5 _ (by omega) a5
    have u6:∀k:KV,ldK 3 true (.ptr 6 0 0 1) g k=k (ob b' r.1):=λk=>by rw[Z01,g6];rfl
    have u7:∀k:KV,ldK 3 true (.ptr 7 0 0 1) g k=k (ib b1 b2 r.2.1):=λk=>by rw[Z01,g7];rfl
    obtain ⟨ga,hga⟩:∃ga:Hp,ga=g.set 3 (.arr 3 [cellsO b' r.1] true false):=⟨_,rfl⟩
    have v3:∀k:AV→Hp→Ent→Option AV,effD (stE 3 (.ptr 3 0 0 1) (ob b' r.1) g) g k=k .u ga ([3],[3]):=λk=>by
     have:stE 3 (.ptr 3 0 0 1) (ob b' r.1) g=some (.u,⟨[(3,.arr 3 [cellsO b' r.1] true false)],[],[3]⟩):=by rw[Z0f,g3];simp[putAt]
     rw[Z0h this,hga]
    have ga4:ga[4]? = some (.arr 3 [zI] true false):=by rw[hga];exact getSetN g4 (by decide)
    obtain ⟨gb,hgb⟩:∃gb:Hp,gb=ga.set 4 (.arr 3 [cellsI b1 b2 r.2.1] true false):=⟨_,rfl⟩
    have v4:∀k:AV→Hp→Ent→Option AV,effD (stE 3 (.ptr 4 0 0 1) (ib b1 b2 r.2.1) ga) ga k=k .u gb ([4],[4]):=λk=>by
     have:stE 3 (.ptr 4 0 0 1) (ib b1 b2 r.2.1) ga=some (.u,⟨[(4,.arr 3 [cellsI b1 b2 r.2.1] true false)],[],[4]⟩):=by rw[Z0f,ga4];simp[putAt]
     rw[Z0h this,hgb]
    have gb5:gb[5]? = some (.arr 1 [[I 0]] true false):=by rw[hgb];exact getSetN (by rw[hga];exact getSetN g5 (by decide)) (by decide)
    have v5:∀k:AV→Hp→Ent→Option AV,effD (stE 1 (.ptr 5 0 0 1) (I 0) gb) gb k=k .u gb ([5],[5]):=λk=>by
     have:stE 1 (.ptr 5 0 0 1) (I 0) gb=some (.u,⟨[(5,.arr 1 [[I 0]] true false)],[],[5]⟩):=by rw[Z0f,gb5];rfl
     rw[Z0h this,Z15 gb5]
    have gb3:gb[3]? = some (.arr 3 [cellsO b' r.1] true false):=by rw[hgb];exact getSetN (by rw[hga];exact getSelfN g3) (by decide)
    have gb4:gb[4]? = some (.arr 3 [cellsI b1 b2 r.2.1] true false):=by rw[hgb];exact getSelfN ga4
    have w3:∀k:KV,ldK 3 true (.ptr 3 0 0 1) gb k=k (ob b' r.1):=λk=>by rw[Z01,gb3];rfl
    have w4:∀k:KV,ldK 3 true (.ptr 4 0 0 1) gb k=k (ib b1 b2 r.2.1):=λk=>by rw[Z01,gb4];rfl
    have w5:∀k:KV,ldK 1 false (.ptr 5 0 0 1) gb k=k (I 0):=λk=>by rw[Z01,gb5];rfl
    show Z5Q Tryz.prog Z12 Z1X NN (λv g=>cvt false g v) (.ptr 3 0 0 1) (.ptr 4 0 0 1) (.ptr 5 0 0 1) (.ptr 6 0 0 1) (.ptr 7 0 0 1) g=_
    simp -implicitDefEqProofs only[Z5Q,u6,u7,v3,v4,v5,w3,w4,w5]
    rfl
   ·obtain ⟨f1,f2,f3,f4⟩:=e2 e
    obtain ⟨b3,b4,b5,b10⟩:=f2;have hF':=hF h' (.tup []) f1;obtain ⟨g,hg⟩:∃g:Hp,g=h'.set H3.length (loopE .exhausted (some .ret)):=⟨_,rfl⟩;have kg:∀j x,j<10→h'[j]? = some x→g[j]? = some x:=λj x hj hx=>by rw[hg,hl3];exact getSetN hx (by omega)
    obtain ⟨r,hr⟩:∃r,r=exL ar an 0 L o i:=⟨_,rfl⟩;rw[show exL ar an ([]:List Envl).length L o i=r from hr.symm] at f3 f4 b5;rw[← hr];refine ⟨true,true,true,(go (.tup [.agg zO,.agg zI,I r.2.2]) (start _ ?_)).trans (by unfold exV;rw[f3,f4];rfl)⟩
    refine (ZCp Zlb hF' (by rw[hl3];exact b10)).trans ?_
    rw[← hg];have w3:∀k:KV,ldK 3 true (.ptr 3 0 0 1) g k=k (.agg zO):=λk=>by rw[Z01,kg 3 _ (by omega) b3];rfl
    have w4:∀k:KV,ldK 3 true (.ptr 4 0 0 1) g k=k (.agg zI):=λk=>by rw[Z01,kg 4 _ (by omega) b4];rfl
    have w5:∀k:KV,ldK 1 false (.ptr 5 0 0 1) g k=k (I r.2.2):=λk=>by rw[Z01,kg 5 _ (by omega) b5];rfl
    show (ldK 3 true (.ptr 3 0 0 1) g λr152=>ldK 3 true (.ptr 4 0 0 1) g λr153=>ldK 1 false (.ptr 5 0 0 1) g λr154=>cvt false g (.tup [r152,r153,r154]))=_
    rw[w3,w4,w5]
    rfl
theorem OwnV.snoc{h:Hp}{v:AV}{l:List Envl}{m:Envl}{p:Nat}(O:OwnV h v l)(hm:h[p]? = some (.arr 10 [encV m] true false))(hl:l.length<100000):∃v' h',(∀k:Kb AV,effK (appE 10 80 v (.sl 10 p 0 1 1 true) h h.length) h k=k v' h')∧OwnV h' v' (l++[m])∧(∀(j:Nat)(o:AObj),h[j]? = some o→(∀id,v ≠ .sl 10 id 0 l.length l.length false∨j≠id)→h'[j]? = some o)∧∃id n,v' = .sl 10 id 0 n n false:=by
 have rd:readSl h (.sl 10 p 0 1 1 true)=some [encV m]:=by unfold readSl;simp[hm]
 rcases O with ⟨rfl,rfl⟩ | ⟨id,rfl,h1⟩
 ·have ha:appE 10 80 nilS (.sl 10 p 0 1 1 true) h h.length=some (.sl 10 h.length 0 1 1 false,⟨[],[.arr 10 [encV m] true false],[p]⟩):=by
   unfold appE;rw[rd]
   simp[idsOf,encV]
  exact ⟨_,h++[.arr 10 [encV m] true false],λk=>by rw[ha];rfl,.inr ⟨h.length,rfl,by rw[Z0R];rfl⟩,λj o hj _=>Z0a hj,_,_,rfl⟩
 ·have ha:appE 10 80 (.sl 10 id 0 l.length l.length false) (.sl 10 p 0 1 1 true) h h.length=some (.sl 10 id 0 (l++[m]).length (l++[m]).length false,⟨[(id,.arr 10 ((l++[m]).map encV) true false)],[],[id,p]⟩):=by
   unfold appE;rw[rd]
   simp only[h1,List.length_map,List.length_singleton];rw[if_pos ⟨trivial,trivial,by omega,by simp[encV]⟩,if_neg (by simp),if_pos (by simp)]
   simp[idsOf]
  refine ⟨_,h.set id (.arr 10 ((l++[m]).map encV) true false),λk=>Z0d ha k,.inr ⟨id,rfl,getSelfN h1⟩,λj o hj ho=>getSetN hj ?_,_,_,rfl⟩
  rintro rfl
  rcases ho id with q | q
  ·exact q rfl
  ·exact q rfl
theorem ZCq(n:Int)(h:Hp):Z6N [I n] h=some (if isNode n=true then .tup [ib true true ⟨n,[],[]⟩,I 0] else .tup [ib true true ⟨0,[],[]⟩,I 2],h):=by
 have fn:=Zgv n;have bx:∀k:Kb AV,effK (boxE 3 (.agg zI) ([]:Hp).length) [] k=k (.ptr 0 0 0 1) [.arr 3 [zI] true false]:=λk=>rfl
 have b1:∀k:KV,buildK zI [(some (0,1),I n)] k=k (.agg [I n,nilS,nilS]):=λk=>rfl
 have b2:∀k:KV,buildK zI [] k=k (.agg zI):=λk=>rfl
 have st:∀(a:Int)(k:Kb AV),effK (stE 3 (.ptr 0 0 0 1) (.agg [I a,nilS,nilS]) [.arr 3 [zI] true false]) [.arr 3 [zI] true false] k=k .u [.arr 3 [[I a,nilS,nilS]] true false]:=λa k=>Z0d (v := .u) (id:=0) (o := .arr 3 [[I a,nilS,nilS]] true false) (ft:=[0]) rfl k
 have ld:∀(a:Int)(k:KV),ldK 3 true (.ptr 0 0 0 1) [.arr 3 [[I a,nilS,nilS]] true false] k=k (.agg [I a,nilS,nilS]):=λa k=>rfl
 cases hn:isNode n with
 | true=>
  rw[hn] at fn;refine (Zlh (a0:=I n) (v := .tup [.agg [I n,nilS,nilS],I 0]) rfl ?_ h).trans rfl
  simp -implicitDefEqProofs only[Z7J,bx,Zlg,Z02,fn,Z0L,Bool.not_true,Z00,Bool.false_eq_true,if_false,b1,st,ld]
  rfl
 | false=>
  rw[hn] at fn;refine (Zlh (a0:=I n) (v := .tup [.agg zI,I 2]) rfl ?_ h).trans rfl
  simp -implicitDefEqProofs only[Z7J,bx,Zlg,Z02,fn,Z0L,Bool.not_false,Z00,if_true,b2,st,ld]
  rfl
def agreesI(a b:Inbx):Bool:=(chkI a==0)&&(chkI b==0)&&decide (a.msgs=b.msgs)
theorem ZCr(a1 a2 b1 b2:Bool)(a b:Inbx)(hla:a.heard.length<1000)(hma:a.msgs.length<1000)(hlb:b.heard.length<1000)(hmb:b.msgs.length<1000)(h:Hp):Z9U [ib a1 a2 a,ib b1 b2 b] h=some (B (agreesI a b),h):=by
 refine ZxN (a0:=ib a1 a2 a) (a1:=ib b1 b2 b) rfl ?_ h;have n1:nrm (.a [none,some 2,some 7]) (ib a1 a2 a)=ib a1 a2 a:=rfl;have n2:nrm (.a [none,some 2,some 7]) (ib b1 b2 b)=ib b1 b2 b:=rfl;rw[n1,n2];have x0:∀k:Kb AV,effK (boxE 3 (ib a1 a2 a) ([]:Hp).length) [] k=k (.ptr 0 0 0 1) [.arr 3 [cellsI a1 a2 a] true false]:=λk=>rfl
 obtain ⟨H,hH⟩:∃H:Hp,H=[AObj.arr 3 [cellsI a1 a2 a] true false,.arr 3 [cellsI b1 b2 b] true false]:=⟨_,rfl⟩;have x1:∀k:Kb AV,effK (boxE 3 (ib b1 b2 b) ([AObj.arr 3 [cellsI a1 a2 a] true false]:Hp).length) [.arr 3 [cellsI a1 a2 a] true false] k=k (.ptr 1 0 0 1) H:=λk=>by rw[hH];rfl
 have la:∀k:KV,ldK 3 true (.ptr 0 0 0 1) H k=k (ib a1 a2 a):=λk=>by rw[hH];rfl
 have lb:∀k:KV,ldK 3 true (.ptr 1 0 0 1) H k=k (ib b1 b2 b):=λk=>by rw[hH];rfl
 have ma:∀k:KV,ldK 1 false (.ptr 0 0 2 1) H k=k (SL 7 encM a2 a.msgs):=λk=>by rw[hH];rfl
 have mb:∀k:KV,ldK 1 false (.ptr 1 0 2 1) H k=k (SL 7 encM b2 b.msgs):=λk=>by rw[hH];rfl
 have fa:=Z7b a1 a2 a (by omega) hma
 have fb:=Z7b b1 b2 b (by omega) hmb
 have fE:=Zma a.msgs b.msgs (a2&&a.msgs.isEmpty) (b2&&b.msgs.isEmpty) (by omega) (λx y h k=>by rw[Z4r,Bool.true_xor])
 have e1:∀(n:Int)(k:KV),eqK Tryz.prog false 35 (I n) (I 0) H k=k (B (n==0)):=λn k=>by rw[Z03,Bool.false_xor]
 unfold agreesI;simp -implicitDefEqProofs only[ZaZ,x0,x1,la,lb,ZxI,ZxJ,Z02,fa,fb,e1,Z0Q,Z04,Nat.zero_add,ma,mb,fE]
 rfl
abbrev msgX(n:Int):Msg:=⟨n,1,0,0,1,2,10⟩
theorem Zmp(n:Int)(h:Hp):Z6M [I n] h=some (.agg (encM (msgX n)),h):=by
 refine ZxA (a0:=I n) (v := .agg (encM (msgX n))) rfl ?_ h;have bx:∀k:Kb AV,effK (boxE 7 (.agg [I 0,I 0,I 0,I 0,I 0,I 0,I 0]) ([]:Hp).length) [] k=k (.ptr 0 0 0 1) [.arr 7 [[I 0,I 0,I 0,I 0,I 0,I 0,I 0]] true false]:=λk=>rfl
 have b1:∀k:KV,buildK [I 0,I 0,I 0,I 0,I 0,I 0,I 0] [(some (0,1),I n),(some (1,1),I 1),(some (4,1),I 1),(some (5,1),I 2),(some (6,1),I 10)] k=k (.agg (encM (msgX n))):=λk=>rfl
 have st:∀(k:Kb AV),effK (stE 7 (.ptr 0 0 0 1) (.agg (encM (msgX n))) [.arr 7 [[I 0,I 0,I 0,I 0,I 0,I 0,I 0]] true false]) [.arr 7 [[I 0,I 0,I 0,I 0,I 0,I 0,I 0]] true false] k=k .u [.arr 7 [encM (msgX n)] true false]:=λk=>Z0d (v := .u) (id:=0) (o := .arr 7 [encM (msgX n)] true false) (ft:=[0]) rfl k
 have ld:∀(k:KV),ldK 7 true (.ptr 0 0 0 1) [.arr 7 [encM (msgX n)] true false] k=k (.agg (encM (msgX n))):=λk=>rfl
 simp -implicitDefEqProofs only[ZaY,bx,b1,st,ld]
 rfl
set_option maxHeartbeats 4000000 in
theorem Zmq(b:Bool)(o:Outb)(to:Int)(m:Msg)(hc:chkO o=0)(hto:isNode to=true)(hne:to≠o.node)(hm:checkM m=0)(h64:o.pend.length≠64)(hnx:o.next≤1073741824):∃b',∀h:Hp,Z3E [ob b o,I to,.agg (encM m)] h=some (.tup [ob b' ⟨o.node,o.next+1,o.pend++[⟨o.node,to,o.next,m⟩]⟩,.agg (encV ⟨o.node,to,o.next,m⟩),I 0],h):=by
 obtain ⟨-,kn1,-,k4,-⟩:=Z4t hc;have fC:=Zev b o (by omega)
 have oD:=λ(h:Hp)(base:Nat)=>own_D b o (by omega) h base
 obtain ⟨node,next,pend⟩:=o;dsimp only at hne h64 hnx k4 kn1 ⊢
 obtain ⟨LP,hLP⟩:∃LP:AV,LP=SL 10 encV b pend:=⟨_,rfl⟩;have eob:ob b ⟨node,next,pend⟩ = .agg [I node,I next,LP]:=by rw[hLP]
 rw[eob] at fC oD ⊢
 rw[hc] at fC;dsimp only at oD
 have hn1:nrm (.a [none,none,some 10]) (.agg [I node,I next,LP]) = .agg [I node,I next,LP]:=by rw[hLP];rfl
 have hpl:plains [.agg [I node,I next,LP],I to,.agg (encM m)]=true:=by rw[hLP];rfl
 obtain ⟨o0,ho0⟩:∃o0:AObj,o0 = .arr 3 [[I node,I next,LP]] true false:=⟨_,rfl⟩;obtain ⟨o1,ho1⟩:∃o1:AObj,o1 = .arr 7 [encM m] true false:=⟨_,rfl⟩;obtain ⟨H,hH⟩:∃H:Hp,H=[o0,o1,AObj.arr 3 [zO] true false,.arr 10 [zE] true false]:=⟨_,rfl⟩;have x0:∀k:Kb AV,effK (boxE 3 (.agg [I node,I next,LP]) ([]:Hp).length) [] k=k (.ptr 0 0 0 1) [o0]:=λk=>by rw[ho0,hLP];rfl
 have x1:∀k:Kb AV,effK (boxE 7 (.agg (encM m)) ([o0]:Hp).length) [o0] k=k (.ptr 1 0 0 1) [o0,o1]:=λk=>by rw[ho1];rfl
 have x2:∀k:Kb AV,effK (boxE 3 (.agg zO) ([o0,o1]:Hp).length) [o0,o1] k=k (.ptr 2 0 0 1) [o0,o1,.arr 3 [zO] true false]:=λk=>rfl
 have x3:∀k:Kb AV,effK (boxE 10 (.agg zE) ([o0,o1,.arr 3 [zO] true false]:Hp).length) [o0,o1,.arr 3 [zO] true false] k=k (.ptr 3 0 0 1) H:=λk=>by rw[hH];rfl
 have lo:∀k:KV,ldK 3 true (.ptr 0 0 0 1) H k=k (.agg [I node,I next,LP]):=λk=>by rw[hH,ho0,hLP];rfl
 have l0:∀k:KV,ldK 1 false (.ptr 0 0 0 1) H k=k (I node):=λk=>by rw[hH,ho0];rfl
 have l1:∀k:KV,ldK 1 false (.ptr 0 0 1 1) H k=k (I next):=λk=>by rw[hH,ho0];rfl
 have l2:∀k:KV,ldK 1 false (.ptr 0 0 2 1) H k=k LP:=λk=>by rw[hH,ho0,hLP];rfl
 have lm:∀k:KV,ldK 7 true (.ptr 1 0 0 1) H k=k (.agg (encM m)):=λk=>by rw[hH,ho1];rfl
 have fn:=Zeu to;rw[hto] at fn;have fM:=Zgj m;rw[hm] at fM;have lenP:∀k:KV,lenK LP k=k (I pend.length):=λk=>by rw[hLP,SL,Z07,List.length_map]
 have e1:(to==node)=false:=by simp[hne]
 have e2:((pend.length:Int)==64)=false:=by rw[beq_eq_false_iff_ne];omega
 have e3:¬(next > 1073741824):=by omega
 -- what the region makes
 obtain ⟨x,hx⟩:∃x:Envl,x=⟨node,to,next,m⟩:=⟨_,rfl⟩;have bK:∀k:KV,buildK zE [(some (0,1),I node),(some (1,1),I to),(some (2,1),I next),(some (3,7),.agg (encM m))] k=k (.agg (encV x)):=λk=>by rw[hx];rfl
 have region:∃(V:AV)(G:Hp)(p:Nat)(e21:Ent),(∀k:AV→Hp→Ent→Option AV,effD (newA Z2K [.agg [I node,I next,LP]] H H.length) H k=k (.agg [I node,I next,V]) G e21)∧p=G.length∧4≤p∧(∀j<4,G[j]? = H[j]?)∧OwnV G V pend∧(V=nilS∨∃id n,V = .sl 10 id 0 n n false)∧(∀id n,V = .sl 10 id 0 n n false→4≤id)∧disjAll [(1,3),(1,6),(1,7),(0,9),(1,9),(3,9),(6,9),(7,9),(0,10),(1,10),(3,10),(6,10),(7,10),(9,10),(3,11),(6,11),(7,11)] [(idsOf (.ptr 0 0 0 1),[]),e21,([],[]),(idsOf (.ptr 0 0 0 1),[]),([],[]),([],[]),(idsOf (.ptr 0 0 1 1),[]),(idsOf (.ptr 1 0 0 1),[]),([],[]),([],[p]),([],[p+1]),([p],[p]),([p+1],[p+1])]=true:=by
  have hl4:H.length=4:=by rw[hH];rfl
  by_cases hb:(b&&pend.isEmpty)=true
  ·have:=oD H H.length
   rw[if_pos hb] at this;refine ⟨nilS,H,4,([],[]),λk=>by rw[this];simp[effD,ap,wrOf],hl4.symm,Nat.le_refl _,λ_ _=>rfl,.inl ⟨by simpa using (Bool.and_eq_true_iff.1 hb).2,rfl⟩,.inl rfl,(λid n hh=>by cases hh),rfl⟩
  ·have:=oD H H.length
   rw[if_neg hb] at this;refine ⟨_,H++[.arr 10 (pend.map encV) true false],5,([],[4]),λk=>by rw[this];simp[effD,ap,wrOf,hl4],by simp[hl4],by omega,λj hj=>List.getElem?_append_left (by omega),.inr ⟨H.length,rfl,by rw[Z0R];rfl⟩,.inr ⟨_,_,rfl⟩,(λid n hh=>by injection hh with _ hh;omega),rfl⟩
 obtain ⟨V,G,p,e21,rg,hpG,hp4,hG,OV,hV,hV4,dj⟩:=region;have g0:G[0]? = some o0:=by rw[hG 0 (by omega),hH];rfl
 have g1:G[1]? = some o1:=by rw[hG 1 (by omega),hH];rfl
 have g2:G[2]? = some (.arr 3 [zO] true false):=by rw[hG 2 (by omega),hH];rfl
 have g3:G[3]? = some (.arr 10 [zE] true false):=by rw[hG 3 (by omega),hH];rfl
 have l0':∀k:KV,ldK 1 false (.ptr 0 0 0 1) G k=k (I node):=λk=>by rw[Z01,g0,ho0];rfl
 have l1':∀k:KV,ldK 1 false (.ptr 0 0 1 1) G k=k (I next):=λk=>by rw[Z01,g0,ho0];rfl
 have lm':∀k:KV,ldK 7 true (.ptr 1 0 0 1) G k=k (.agg (encM m)):=λk=>by rw[Z01,g1,ho1];rfl
 have d1:∀k:AV→Hp→Ent→Option AV,effD (boxE 3 (.agg zO) G.length) G k=k (.ptr p 0 0 1) (G++[.arr 3 [zO] true false]) ([],[p]):=λk=>by rw[← hpG];simp[effD,boxE,ap,wrOf, ← hpG]
 have d2:∀k:AV→Hp→Ent→Option AV,effD (boxE 10 (.agg zE) (G++[AObj.arr 3 [zO] true false]).length) (G++[.arr 3 [zO] true false]) k=k (.ptr (p+1) 0 0 1) (G++[.arr 3 [zO] true false,.arr 10 [zE] true false]) ([],[p+1]):=λk=>by
  have:(G++[AObj.arr 3 [zO] true false]).length=p+1:=by simp[← hpG]
  rw[this];simp[effD,boxE,ap,wrOf,this, ← hpG]
 have d3:∀k:AV→Hp→Ent→Option AV,effD (stE 3 (.ptr p 0 0 1) (.agg [I node,I next,V]) (G++[.arr 3 [zO] true false,.arr 10 [zE] true false])) (G++[.arr 3 [zO] true false,.arr 10 [zE] true false]) k=k .u (G++[.arr 3 [[I node,I next,V]] true false,.arr 10 [zE] true false]) ([p],[p]):=λk=>by
  have:stE 3 (.ptr p 0 0 1) (.agg [I node,I next,V]) (G++[.arr 3 [zO] true false,.arr 10 [zE] true false])=some (.u,⟨[(p,.arr 3 [[I node,I next,V]] true false)],[],[p]⟩):=by
   rw[Z0f,List.getElem?_append_right (by omega),show p-G.length=0 by omega]
   rcases hV with rfl | ⟨id,n,rfl⟩<;>simp[putAt]
  rw[Z0h this,List.set_append_right _ _ (by omega),show p-G.length=0 by omega]
  rfl
 obtain ⟨G2,hG2⟩:∃G2:Hp,G2=G++[AObj.arr 3 [[I node,I next,V]] true false,.arr 10 [encV x] true false]:=⟨_,rfl⟩
 have d4:∀k:AV→Hp→Ent→Option AV,effD (stE 10 (.ptr (p+1) 0 0 1) (.agg (encV x)) (G++[.arr 3 [[I node,I next,V]] true false,.arr 10 [zE] true false])) (G++[.arr 3 [[I node,I next,V]] true false,.arr 10 [zE] true false]) k=k .u G2 ([p+1],[p+1]):=λk=>by
  have:stE 10 (.ptr (p+1) 0 0 1) (.agg (encV x)) (G++[.arr 3 [[I node,I next,V]] true false,.arr 10 [zE] true false])=some (.u,⟨[(p+1,.arr 10 [encV x] true false)],[],[p+1]⟩):=by
   rw[Z0f,List.getElem?_append_right (by omega),show p+1-G.length=1 by omega]
   simp[putAt,encV]
  rw[Z0h this,List.set_append_right _ _ (by omega),show p+1-G.length=1 by omega,hG2]
  rfl
 have q0:G2[p]? = some (.arr 3 [[I node,I next,V]] true false):=by rw[hG2,hpG,List.getElem?_append_right (Nat.le_refl _),Nat.sub_self];rfl
 have q1:G2[p+1]? = some (.arr 10 [encV x] true false):=by rw[hG2,hpG,List.getElem?_append_right (by omega),show G.length+1-G.length=1 by omega];rfl
 have kG:∀j o,G[j]? = some o→G2[j]? = some o:=λj o hj=>by rw[hG2];exact Z0a hj
 have lV:∀k:KV,ldK 1 false (.ptr p 0 2 1) G2 k=k V:=λk=>by rw[Z01,q0];rcases hV with rfl | ⟨id,n,rfl⟩<;>rfl
 have lx:∀k:KV,ldK 10 true (.ptr (p+1) 0 0 1) G2 k=k (.agg (encV x)):=λk=>by rw[Z01,q1];rfl
 have hl2:G2.length=p+2:=by rw[hG2];simp[← hpG]
 obtain ⟨G3,hG3⟩:∃G3:Hp,G3=G2++[AObj.arr 10 [encV x] true false]:=⟨_,rfl⟩;have bs:∀k:Kb AV,effK (bsE 10 zE 1 [(0,.agg (encV x))] G2.length) G2 k=k (.sl 10 G2.length 0 1 1 true) G3:=λk=>by rw[hG3];simp[bsE,fillS,encV,effK,ap]
 have OV3:OwnV G3 V pend:=by
  rcases OV with O | ⟨id,rfl,hid⟩
  ·exact .inl O
  ·exact .inr ⟨id,rfl,by rw[hG3];exact Z0a (kG _ _ hid)⟩
 have hidp:∀id,V = .sl 10 id 0 pend.length pend.length false→id<p∧4≤id∨(id<4∧False):=λid hid=>by
  refine .inl ⟨?_,hV4 id _ hid⟩;rcases OV with ⟨-,e⟩ | ⟨id',e,hh⟩
  ·rw[e] at hid;cases hid
  ·rw[e] at hid
   injection hid with _ hid;subst hid
   have h1:=(List.getElem?_eq_some_iff.1 hh).1
   omega
 obtain ⟨V',G4,a1,a2,a3,a4⟩:=OV3.snoc (m:=x) (p:=G2.length) (by rw[hG3,Z0R];rfl) (by omega)
 have k4':∀j o,G2[j]? = some o→(j<4∨p≤j)→G4[j]? = some o:=λj o hj hjp=>a3 j o (by rw[hG3];exact Z0a hj) λid=>by
  by_cases hid:V = .sl 10 id 0 pend.length pend.length false
  ·right
   rcases hidp id hid with ⟨h1,h2⟩ | ⟨-,h2⟩
   ·omega
   ·exact h2.elim
  ·exact .inl hid
 have u0:=k4' p _ q0 (.inr (Nat.le_refl _));have u1:=k4' (p+1) _ q1 (.inr (by omega))
 have u2:=k4' 2 _ (kG _ _ g2) (.inl (by omega))
 have u3:=k4' 3 _ (kG _ _ g3) (.inl (by omega))
 obtain ⟨G5,hG5⟩:∃G5:Hp,G5=G4.set p (.arr 3 [[I node,I next,V']] true false):=⟨_,rfl⟩
 have s1:∀k:Kb AV,effK (stE 1 (.ptr p 0 2 1) V' G4) G4 k=k .u G5:=λk=>by
  have:stE 1 (.ptr p 0 2 1) V' G4=some (.u,⟨[(p,.arr 3 [[I node,I next,V']] true false)],[],[p]⟩):=by
   rw[Z0f,u0];obtain ⟨id,n,rfl⟩:=a4
   simp[putAt]
  rw[Z0d this,hG5]
 have v0:G5[p]? = some (.arr 3 [[I node,I next,V']] true false):=by rw[hG5];exact getSelfN u0
 have ln:∀k:KV,ldK 1 false (.ptr p 0 1 1) G5 k=k (I next):=λk=>by rw[Z01,v0];rfl
 have wn:IntKind.i64.wrap (next+1)=next+1:=wrap64 (by omega) (by omega)
 obtain ⟨G6,hG6⟩:∃G6:Hp,G6=G5.set p (.arr 3 [[I node,I (next+1),V']] true false):=⟨_,rfl⟩
 have s2:∀k:Kb AV,effK (stE 1 (.ptr p 0 1 1) (I (next+1)) G5) G5 k=k .u G6:=λk=>by
  have:stE 1 (.ptr p 0 1 1) (I (next+1)) G5=some (.u,⟨[(p,.arr 3 [[I node,I (next+1),V']] true false)],[],[p]⟩):=by
   rw[Z0f,v0];simp[putAt]
  rw[Z0d this,hG6]
 have w0:G6[p]? = some (.arr 3 [[I node,I (next+1),V']] true false):=by rw[hG6];exact getSelfN v0
 have kk:∀j o,G4[j]? = some o→j≠p→G6[j]? = some o:=λj o hj hn=>by rw[hG6];exact getSetN (by rw[hG5];exact getSetN hj (Ne.symm hn)) (Ne.symm hn)
 have lq:∀k:KV,ldK 3 true (.ptr p 0 0 1) G6 k=k (.agg [I node,I (next+1),V']):=λk=>by rw[Z01,w0];obtain ⟨id,n,rfl⟩:=a4;rfl
 have lx6:∀k:KV,ldK 10 true (.ptr (p+1) 0 0 1) G6 k=k (.agg (encV x)):=λk=>by rw[Z01,kk _ _ u1 (by omega)];rfl
 have z2:=kk 2 _ u2 (by omega)
 have z3:=kk 3 _ u3 (by omega)
 obtain ⟨G7,hG7⟩:∃G7:Hp,G7=G6.set 2 (.arr 3 [[I node,I (next+1),V']] true false):=⟨_,rfl⟩
 have f1:∀k:AV→Hp→Ent→Option AV,effD (stE 3 (.ptr 2 0 0 1) (.agg [I node,I (next+1),V']) G6) G6 k=k .u G7 ([2],[2]):=λk=>by
  have:stE 3 (.ptr 2 0 0 1) (.agg [I node,I (next+1),V']) G6=some (.u,⟨[(2,.arr 3 [[I node,I (next+1),V']] true false)],[],[2]⟩):=by
   rw[Z0f,z2];obtain ⟨id,n,rfl⟩:=a4
   simp[putAt]
  rw[Z0h this,hG7]
 have z37:G7[3]? = some (.arr 10 [zE] true false):=by rw[hG7];exact getSetN z3 (by decide)
 obtain ⟨G8,hG8⟩:∃G8:Hp,G8=G7.set 3 (.arr 10 [encV x] true false):=⟨_,rfl⟩
 have f2:∀k:AV→Hp→Ent→Option AV,effD (stE 10 (.ptr 3 0 0 1) (.agg (encV x)) G7) G7 k=k .u G8 ([3],[3]):=λk=>by
  have:stE 10 (.ptr 3 0 0 1) (.agg (encV x)) G7=some (.u,⟨[(3,.arr 10 [encV x] true false)],[],[3]⟩):=by
   rw[Z0f,z37];simp[putAt,encV]
  rw[Z0h this,hG8]
 have y2:G8[2]? = some (.arr 3 [[I node,I (next+1),V']] true false):=by rw[hG8];exact getSetN (by rw[hG7];exact getSelfN z2) (by decide)
 have y3:G8[3]? = some (.arr 10 [encV x] true false):=by rw[hG8];exact getSelfN z37
 have r2:∀k:KV,ldK 3 true (.ptr 2 0 0 1) G8 k=k (.agg [I node,I (next+1),V']):=λk=>by rw[Z01,y2];obtain ⟨id,n,rfl⟩:=a4;rfl
 have r3:∀k:KV,ldK 10 true (.ptr 3 0 0 1) G8 k=k (.agg (encV x)):=λk=>by rw[Z01,y3];rfl
 -- the answer
 have hcv:∃w bb,cvt false G8 V'=some w∧nrm (.l 10) w=SL 10 encV bb (pend++[x]):=by
  rcases a2 with ⟨e,-⟩ | ⟨id,rfl,hid⟩
  ·simp at e
  ·have n2:2≠id:=by rintro rfl;rw[u2] at hid;injection hid with hid;injection hid with q _;cases q
   have np:p≠id:=by rintro rfl;rw[u0] at hid;injection hid with hid;injection hid with q _;cases q
   have n3:3≠id:=by
    rintro rfl
    rw[u3] at hid;injection hid with hid
    injection hid with _ q;have hq:=congrArg List.getLast? q
    rw[List.map_append,List.map_singleton,List.getLast?_append] at hq;simp[encV,hx] at hq;have:=hq.2.2.1
    omega
   have hid8:G8[id]? = some (.arr 10 ((pend++[x]).map encV) true false):=by rw[hG8];exact getSetN (by rw[hG7];exact getSetN (kk _ _ hid (Ne.symm np)) n2) n3
   exact ⟨.lst 10 false ((pend++[x]).map encV),false,Z0X (st:=false) hid8 (by simp) (by simp) (Z0U λx=>by simp[encV]),rfl⟩
 obtain ⟨w,bb,c1,c2⟩:=hcv;refine ⟨bb,λh=>(Zxu (a0 := .agg [I node,I next,LP]) (a1:=I to) (a2 := .agg (encM m)) (v := .tup [.agg [I node,I (next+1),w],.agg (encV x),I 0]) hpl ?_ h).trans ?_⟩
 ·rw[hn1]
  simp -implicitDefEqProofs only[ZaX,x0,x1,x2,x3,lo,Zxo,Zxp,Zxq,Z02,fC,Z03,beq_self_eq_true,Bool.true_xor,Bool.false_xor,Bool.not_true,Z00,Bool.false_eq_true,if_false,fn,Z0L,Z04,Nat.zero_add,l0,l1,l2,lm,e1,fM,lenP,e2,Z0g,e3,decide_false,Z3U,ZiF,Zxm,Z2N,rg,l0',l1',lm',bK,d1,d2,d3,d4,dj,cond_true,lV,lx,bs,a1,s1,ln,Z0e,wn,s2,lq,lx6,f1,f2]
  have dj3:disjAll [(1,2)] [(idsOf (.ptr p 0 0 1),[]),(idsOf (.ptr (p+1) 0 0 1),[]),([2],[2]),([3],[3]),([],[])]=true:=by
   have:(p+1==2)=false:=by rw[beq_eq_false_iff_ne];omega
   simp[disjAll,disj2,idsOf]
   omega
  simp -implicitDefEqProofs only[dj3,cond_true,r2,r3]
  simp only[Z2Y,Z1b,Z1a,Z3s,cvt_s,c1]
  rfl
 ·show some (AV.tup [.agg [I node,I (next+1),nrm (.l 10) w],.agg (encV x),I 0],h)=_
  rw[c2,hx]
end Go.AM


namespace Go.AM
open Go.Proofs
theorem ZeB{i:Inbx}(h1:isNode i.node=true)(h2:i.heard.length≤256)(h3:i.msgs.length≤64)(h4:chkH i.node none i.heard=0)(h5:errM i.msgs=0)(h6:normL i.msgs=i.msgs)(h7:i.msgs.length≤i.heard.length):chkI i=0:=by
 unfold chkI;rw[if_neg (by rw[h1];simp),if_neg (by omega),if_neg (λhh=>hh h4),if_neg (by rw[h5,h6];simp),if_neg (by omega)]
abbrev mX1:Msg:=msgX 1
abbrev mX2:Msg:=msgX 2
abbrev eX1:Envl:=⟨1,2,1,mX1⟩
abbrev eX2:Envl:=⟨1,2,2,mX2⟩
abbrev oX0:Outb:=⟨1,1,[]⟩
abbrev oX1:Outb:=⟨1,2,[eX1]⟩
abbrev oX2:Outb:=⟨1,3,[eX1,eX2]⟩
abbrev oX3:Outb:=⟨1,3,[eX1]⟩
abbrev oX4:Outb:=⟨1,3,[]⟩
abbrev iX0:Inbx:=⟨2,[],[]⟩
abbrev iX1:Inbx:=⟨2,[⟨1,1⟩],[mX1]⟩
abbrev iX2:Inbx:=⟨2,[⟨1,1⟩,⟨1,2⟩],[mX1,mX2]⟩
theorem nX0:normL []=[]:=Zet .nil
theorem nX1:normL [mX1]=[mX1]:=Zet (List.pairwise_singleton _ _)
theorem nX2:normL [mX1,mX2]=[mX1,mX2]:=Zet (by unfold Srt;decide +kernel)
theorem cX0:chkI iX0=0:=ZeB (by decide) (by decide) (by decide) (by decide) (by decide +kernel) nX0 (by decide)
theorem cX1:chkI iX1=0:=ZeB (by decide) (by decide) (by decide) (by decide +kernel) (by decide +kernel) nX1 (by decide)
theorem cX2:chkI iX2=0:=ZeB (by decide) (by decide) (by decide) (by decide +kernel) (by decide +kernel) nX2 (by decide)
theorem tX1:takeI iX0 eX1=(iX1,⟨1,1⟩,true,0):=by
 unfold takeI;rw[if_neg (λhh=>hh cX0),if_neg (by decide +kernel),if_neg (by decide),if_neg (by decide +kernel),if_neg (by decide +kernel)]
 rw[show iX0.msgs.contains eX1.msg=false by decide +kernel,if_neg (by simp)]
 rw[show iX0.msgs++[eX1.msg]=[mX1] from rfl,nX1,show insH iX0.heard ⟨eX1.frm,eX1.num⟩=[⟨1,1⟩] by decide +kernel]
theorem tX2:takeI iX1 eX2=(iX2,⟨1,2⟩,true,0):=by
 unfold takeI;rw[if_neg (λhh=>hh cX1),if_neg (by decide +kernel),if_neg (by decide),if_neg (by decide +kernel),if_neg (by decide +kernel)]
 rw[show iX1.msgs.contains eX2.msg=false by decide +kernel,if_neg (by simp)]
 rw[show iX1.msgs++[eX2.msg]=[mX1,mX2] from rfl,nX2,show insH iX1.heard ⟨eX2.frm,eX2.num⟩=[⟨1,1⟩,⟨1,2⟩] by decide +kernel]
theorem tX3:takeI iX2 eX1=(iX2,⟨1,1⟩,false,0):=by
 unfold takeI;rw[if_neg (λhh=>hh cX2),if_neg (by decide +kernel),if_neg (by decide),if_pos (by decide +kernel)]
theorem hX2:heardO oX2 ⟨1,2⟩=(oX3,0):=by decide +kernel
theorem hX3:heardO oX3 ⟨1,1⟩=(oX4,0):=by decide +kernel
theorem exX1:exO oX2 iX0 3 2=(oX3,iX2,0):=by
 unfold exO;rw[if_neg (by rw[cX0,show chkO oX2=0 by decide +kernel];simp),if_neg (by decide),show againL iX0.node oX2.pend=[eX1,eX2] by decide +kernel]
 rw[exL,if_neg (by decide),tX1,if_neg (by simp),if_neg (by decide),exL,if_neg (by decide),tX2,if_neg (by simp),if_pos (by decide),hX2,exL]
theorem exX2:exO oX3 iX2 1 1=(oX4,iX2,0):=by
 unfold exO;rw[if_neg (by rw[cX2,show chkO oX3=0 by decide +kernel];simp),if_neg (by decide),show againL iX2.node oX3.pend=[eX1] by decide +kernel]
 rw[exL,if_neg (by decide),tX3,if_neg (by simp),if_pos (by decide),hX3,exL]
theorem ZCs{T:Tab}{D:DTab}{N:Nat}{x0:Hp→Option AV}{xr:Kb AV}{a b:List Hrd}{p q:Bool}{h:Hp}(hab:a.length=b.length)(hl:a.length<1000000)(hx:x0 h=xr (B true) h)(heq:∀(x y:Hrd)(k:KV),eqK Tryz.prog true 60 (.agg (encH x)) (.agg (encH y)) h k=k (B (!(x==y)))):∀(n i:Nat),i≤a.length→a.length<i+n→
  Z4y Tryz.prog T D N x0 xr n (.lst 2 p (a.map encH)) (.lst 2 q (b.map encH)) (I a.length) (I i) h=xr (B (decide (a.drop i=b.drop i))) h:=by
 intro n;induction n with
 | zero=>intro i h1 h2;omega
 | succ n ih=>
  intro i h1 h2;show Z7L Tryz.prog T D N (Z4y Tryz.prog T D N x0 xr n) x0 xr _ _ _ _ h=_
  rcases Nat.lt_or_ge i a.length with hi | hi
  ·have c1:((i:Int)<(a.length:Int)):=by omega
   have hw:IntKind.i64.wrap ((i:Int)+1)=((i+1:Nat):Int):=by rw[wrap64 (by omega) (by omega)];omega
   have ia:∀k:KV,iaK 2 (.lst 2 p (a.map encH)) (I i) k=k (.ep (encH a[i]) 0):=λk=>Z0M i rfl (List.getElem?_eq_getElem hi) k
   have ib:∀k:KV,iaK 2 (.lst 2 q (b.map encH)) (I i) k=k (.ep (encH (b[i]'(by omega))) 0):=λk=>Z0M i rfl (List.getElem?_eq_getElem (by omega)) k
   have ld:∀(x:Hrd)(k:KV),ldK 2 true (.ep (encH x) 0) h k=k (.agg (encH x)):=λx k=>rfl
   rw[List.drop_eq_getElem_cons hi,List.drop_eq_getElem_cons (show i<b.length by omega)]
   simp -implicitDefEqProofs only[Z7L,Z07,List.length_map,Z05,c1,decide_true,Z00,if_true,ia,ib,ld,heq,Z0e,hw,ih (i+1) (by omega) (by omega),List.cons.injEq,Bool.decide_and]
   by_cases e:a[i]=b[i]
   ·simp[e]
   ·simp[e]
  ·have:i=a.length:=by omega
   subst this;have c1:¬((a.length:Int)<(a.length:Int)):=by omega
   simp -implicitDefEqProofs only[Z7L,Z07,List.length_map,Z05,c1,decide_false,Z00,Bool.false_eq_true,if_false,hx]
   rw[List.drop_eq_nil_of_le (Nat.le_refl _),List.drop_eq_nil_of_le (by omega)]
   rfl
theorem ZCt(a b:List Hrd)(p q:Bool)(hl:a.length<1000000)(heq:∀(x y:Hrd) (h:Hp) (k:KV),eqK Tryz.prog true 60 (.agg (encH x)) (.agg (encH y)) h k=k (B (!(x==y))))(h:Hp):Z6R [.lst 2 p (a.map encH),.lst 2 q (b.map encH)] h=some (B (decide (a=b)),h):=by
 refine ZxT rfl ?_ h;simp only[nrm,nrmC];by_cases hab:a.length=b.length
 ·have e:((a.length:Int)==(b.length:Int))=true:=by simp[hab]
  have:=ZCs (T:=Z6Q) (D:=Z6P) (N:=NN) (x0:=λh=>Zb1 Tryz.prog Z6Q Z6P NN (λv g=>cvt false g v) h) (xr:=λw13_4 h=>cvt false h w13_4) (a:=a) (b:=b) (p:=p) (q:=q) (h:=[]) hab hl rfl (λx y k=>heq x y [] k) NN 0 (by omega) (by have:=NN_ge;omega)
  simp only[List.drop_zero] at this;simp -implicitDefEqProofs only[Z5U,Z07,List.length_map,Z03,e,Bool.true_xor,Bool.not_true,Z00,Bool.false_eq_true,if_false];exact this
 ·have e:((a.length:Int)==(b.length:Int))=false:=by simp;omega
  have hne:a≠b:=λh=>hab (by rw[h])
  simp[Z5U,e,hne]
attribute [local congr] Z0i Z0j Z0k Z0l Z0m Z0n Z0o Z0p Z0q Z0r Z0s Z0t Z0u Z0v Z0w Z0x Z0y Z0z Z0A Z0B Z0C Z0D Z0E Z0F Z0G Z0H Z0I
abbrev bxO(b:Bool)(o:Outb):AObj := .arr 3 [cellsO b o] true false
abbrev bxI(b1 b2:Bool)(i:Inbx):AObj := .arr 3 [cellsI b1 b2 i] true false
abbrev bxE(e:Envl):AObj := .arr 10 [encV e] true false
theorem ldO{β:Type}{h:Hp}{p:Nat}{b:Bool}{o:Outb}(g:h[p]? = some (bxO b o))(k:Go.AM.K β):ldK 3 true (.ptr p 0 0 1) h k=k (ob b o):=by rw[Z01,g];rfl
theorem ldI3{β:Type}{h:Hp}{p:Nat}{b1 b2:Bool}{i:Inbx}(g:h[p]? = some (bxI b1 b2 i))(k:Go.AM.K β):ldK 3 true (.ptr p 0 0 1) h k=k (ib b1 b2 i):=by rw[Z01,g];rfl
set_option maxHeartbeats 4000000 in
theorem ZCu(h:Hp):Z9V [] h=some (B true,h):=by
 refine Zy7 rfl ?_ h;have n1:∀h,Z6L [I 1] h=some (.tup [ob true oX0,I 0],h):=λh=>(ZBY 1 h).trans rfl
 have n2:∀h,Z6N [I 2] h=some (.tup [ib true true iX0,I 0],h):=λh=>(ZCq 2 h).trans rfl
 have gm1:∀h base,Z9S [I 1] h base=some (.agg (encM mX1),EF []):=λh base=>(Z3a (Zmp 1 h) base).trans (by simp[idss,ids])
 have gm2:∀h base,Z9S [I 2] h base=some (.agg (encM mX2),EF []):=λh base=>(Z3a (Zmp 2 h) base).trans (by simp[idss,ids])
 obtain ⟨b1,f1⟩:=Zmq true oX0 2 mX1 (by decide +kernel) (by decide) (by decide) (by decide +kernel) (by decide) (by decide)
 replace f1:∀h,Z3E [ob true oX0,I 2,.agg (encM mX1)] h=some (.tup [ob b1 oX1,.agg (encV eX1),I 0],h):=f1
 obtain ⟨b2,f2⟩:=Zmq b1 oX1 2 mX2 (by decide +kernel) (by decide) (by decide) (by decide +kernel) (by decide) (by decide)
 replace f2:∀h,Z3E [ob b1 oX1,I 2,.agg (encM mX2)] h=some (.tup [ob b2 oX2,.agg (encV eX2),I 0],h):=f2
 have cl:∀(b:Bool)(o:Outb)(m:Msg)(v:AV),(∀h,Z3E [ob b o,I 2,.agg (encM m)] h=some (v,h))→∀h base,Zdr [ob b o,I 2,.agg (encM m)] h base=some (v,EF []):=λb o m v hv h base=>by
  exact (Z3a (hv h) base).trans (by simp[idss,ids,SL,encM])
 have gs1:=cl _ _ _ _ f1;have gs2:=cl _ _ _ _ f2;have tp0:∀(a b c:AV)(k:KV),exK (.tup [a,b,c]) 0 k=k a:=λa b c k=>rfl
 have tp1:∀(a b c:AV)(k:KV),exK (.tup [a,b,c]) 1 k=k b:=λa b c k=>rfl
 have tp2:∀(a b c:AV)(k:KV),exK (.tup [a,b,c]) 2 k=k c:=λa b c k=>rfl
 have tq0:∀(a b:AV)(k:KV),exK (.tup [a,b]) 0 k=k a:=λa b k=>rfl
 have tq1:∀(a b:AV)(k:KV),exK (.tup [a,b]) 1 k=k b:=λa b k=>rfl
 -- the heaps
 have x0:∀k:Kb AV,effK (boxE 3 (.agg zO) ([]:Hp).length) [] k=k (.ptr 0 0 0 1) [.arr 3 [zO] true false]:=λk=>rfl
 have s0:∀k:Kb AV,effK (stE 3 (.ptr 0 0 0 1) (ob true oX0) [.arr 3 [zO] true false]) [.arr 3 [zO] true false] k=k .u [bxO true oX0]:=λk=>Z0d (v := .u) (id:=0) (o:=bxO true oX0) (ft:=[0]) rfl k
 have l0:∀k:KV,ldK 3 true (.ptr 0 0 0 1) [bxO true oX0] k=k (ob true oX0):=λk=>ldO (p:=0) rfl k
 have d1:∀k:AV→Hp→Ent→Option AV,effD (boxE 10 (.agg zE) ([bxO true oX0]:Hp).length) [bxO true oX0] k=k (.ptr 1 0 0 1) [bxO true oX0,.arr 10 [zE] true false] ([],[1]):=λk=>rfl
 have d2:∀k:AV→Hp→Ent→Option AV,effD (stE 3 (.ptr 0 0 0 1) (ob b1 oX1) [bxO true oX0,.arr 10 [zE] true false]) [bxO true oX0,.arr 10 [zE] true false] k=k .u [bxO b1 oX1,.arr 10 [zE] true false] ([0],[0]):=λk=>Z0h (v := .u) (id:=0) (o:=bxO b1 oX1) (ft:=[0]) rfl k
 have d3:∀k:AV→Hp→Ent→Option AV,effD (stE 10 (.ptr 1 0 0 1) (.agg (encV eX1)) [bxO b1 oX1,.arr 10 [zE] true false]) [bxO b1 oX1,.arr 10 [zE] true false] k=k .u [bxO b1 oX1,bxE eX1] ([1],[1]):=λk=>Z0h (v := .u) (id:=1) (o:=bxE eX1) (ft:=[1]) rfl k
 have l1:∀k:KV,ldK 3 true (.ptr 0 0 0 1) [bxO b1 oX1,bxE eX1] k=k (ob b1 oX1):=λk=>ldO (p:=0) rfl k
 have d4:∀k:AV→Hp→Ent→Option AV,effD (boxE 10 (.agg zE) ([bxO b1 oX1,bxE eX1]:Hp).length) [bxO b1 oX1,bxE eX1] k=k (.ptr 2 0 0 1) [bxO b1 oX1,bxE eX1,.arr 10 [zE] true false] ([],[2]):=λk=>rfl
 have d5:∀k:AV→Hp→Ent→Option AV,effD (stE 3 (.ptr 0 0 0 1) (ob b2 oX2) [bxO b1 oX1,bxE eX1,.arr 10 [zE] true false]) [bxO b1 oX1,bxE eX1,.arr 10 [zE] true false] k=k .u [bxO b2 oX2,bxE eX1,.arr 10 [zE] true false] ([0],[0]):=λk=>Z0h (v := .u) (id:=0) (o:=bxO b2 oX2) (ft:=[0]) rfl k
 have d6:∀k:AV→Hp→Ent→Option AV,effD (stE 10 (.ptr 2 0 0 1) (.agg (encV eX2)) [bxO b2 oX2,bxE eX1,.arr 10 [zE] true false]) [bxO b2 oX2,bxE eX1,.arr 10 [zE] true false] k=k .u [bxO b2 oX2,bxE eX1,bxE eX2] ([2],[2]):=λk=>Z0h (v := .u) (id:=2) (o:=bxE eX2) (ft:=[2]) rfl k
 have dj1:disjAll [(0,1),(0,7),(1,7),(2,7)] [(idsOf (.ptr 0 0 0 1),[]),([],[]),([],[]),([],[]),([],[]),([],[]),([],[]),([],[1]),([0],[0]),([1],[1]),([],[])]=true:=rfl;have dj2:disjAll [(0,1),(0,7),(1,7),(2,7)] [(idsOf (.ptr 0 0 0 1),[]),([],[]),([],[]),([],[]),([],[]),([],[]),([],[]),([],[2]),([0],[0]),([2],[2]),([],[])]=true:=rfl;obtain ⟨H3,hH3⟩:∃H3:Hp,H3=[bxO b2 oX2,bxE eX1,bxE eX2]:=⟨_,rfl⟩;rw[← hH3] at d6;have x3:∀k:Kb AV,effK (boxE 3 (.agg zI) H3.length) H3 k=k (.ptr 3 0 0 1) (H3++[.arr 3 [zI] true false]):=λk=>by rw[hH3];rfl
 obtain ⟨H4,hH4⟩:∃H4:Hp,H4=H3++[bxI true true iX0]:=⟨_,rfl⟩
 have s3:∀k:Kb AV,effK (stE 3 (.ptr 3 0 0 1) (ib true true iX0) (H3++[.arr 3 [zI] true false])) (H3++[.arr 3 [zI] true false]) k=k .u H4:=λk=>by
  rw[hH4,hH3];exact Z0d (v := .u) (id:=3) (o:=bxI true true iX0) (ft:=[3]) rfl k
 have w0:IntKind.i64.wrap (0+0)=0:=by kernel_rfl
 have l40:∀k:KV,ldK 3 true (.ptr 0 0 0 1) H4 k=k (ob b2 oX2):=λk=>ldO (p:=0) (by rw[hH4,hH3];rfl) k
 have l43:∀k:KV,ldK 3 true (.ptr 3 0 0 1) H4 k=k (ib true true iX0):=λk=>ldI3 (p:=3) (by rw[hH4,hH3];rfl) k
 obtain ⟨b3,c1,c2,fX⟩:=ZgB b2 oX2 true true iX0 3 2 (by decide) (by decide) (by decide) (by decide) (by decide) H4
 rw[exX1] at fX;replace fX:Z35 [ob b2 oX2,ib true true iX0,.s (.int .u64 3),.s (.int .u64 2)] H4=some (.tup [ob b3 oX3,ib c1 c2 iX2,I 0],H4):=fX
 have x4:∀k:Kb AV,effK (boxE 3 (.agg zO) H4.length) H4 k=k (.ptr 4 0 0 1) (H4++[.arr 3 [zO] true false]):=λk=>by rw[hH4,hH3];rfl
 have x5:∀k:Kb AV,effK (boxE 3 (.agg zI) (H4++[AObj.arr 3 [zO] true false]).length) (H4++[.arr 3 [zO] true false]) k=k (.ptr 5 0 0 1) (H4++[.arr 3 [zO] true false,.arr 3 [zI] true false]):=λk=>by rw[hH4,hH3];rfl
 have s4:∀k:Kb AV,effK (stE 3 (.ptr 4 0 0 1) (ob b3 oX3) (H4++[.arr 3 [zO] true false,.arr 3 [zI] true false])) (H4++[.arr 3 [zO] true false,.arr 3 [zI] true false]) k=k .u (H4++[bxO b3 oX3,.arr 3 [zI] true false]):=λk=>by
  rw[hH4,hH3];exact Z0d (v := .u) (id:=4) (o:=bxO b3 oX3) (ft:=[4]) rfl k
 obtain ⟨H6,hH6⟩:∃H6:Hp,H6=H4++[bxO b3 oX3,bxI c1 c2 iX2]:=⟨_,rfl⟩
 have s5:∀k:Kb AV,effK (stE 3 (.ptr 5 0 0 1) (ib c1 c2 iX2) (H4++[bxO b3 oX3,.arr 3 [zI] true false])) (H4++[bxO b3 oX3,.arr 3 [zI] true false]) k=k .u H6:=λk=>by
  rw[hH6,hH4,hH3];exact Z0d (v := .u) (id:=5) (o:=bxI c1 c2 iX2) (ft:=[5]) rfl k
 have l64:∀k:KV,ldK 3 true (.ptr 4 0 0 1) H6 k=k (ob b3 oX3):=λk=>ldO (p:=4) (by rw[hH6,hH4,hH3];rfl) k
 have l65:∀k:KV,ldK 3 true (.ptr 5 0 0 1) H6 k=k (ib c1 c2 iX2):=λk=>ldI3 (p:=5) (by rw[hH6,hH4,hH3];rfl) k
 obtain ⟨b4,c3,c4,fY⟩:=ZgB b3 oX3 c1 c2 iX2 1 1 (by decide) (by decide) (by decide) (by decide) (by decide) H6
 rw[exX2] at fY;replace fY:Z35 [ob b3 oX3,ib c1 c2 iX2,.s (.int .u64 1),.s (.int .u64 1)] H6=some (.tup [ob b4 oX4,ib c3 c4 iX2,I 0],H6):=fY
 have x6:∀k:Kb AV,effK (boxE 3 (.agg zO) H6.length) H6 k=k (.ptr 6 0 0 1) (H6++[.arr 3 [zO] true false]):=λk=>by rw[hH6,hH4,hH3];rfl
 have x7:∀k:Kb AV,effK (boxE 3 (.agg zI) (H6++[AObj.arr 3 [zO] true false]).length) (H6++[.arr 3 [zO] true false]) k=k (.ptr 7 0 0 1) (H6++[.arr 3 [zO] true false,.arr 3 [zI] true false]):=λk=>by rw[hH6,hH4,hH3];rfl
 have s6:∀k:Kb AV,effK (stE 3 (.ptr 6 0 0 1) (ob b4 oX4) (H6++[.arr 3 [zO] true false,.arr 3 [zI] true false])) (H6++[.arr 3 [zO] true false,.arr 3 [zI] true false]) k=k .u (H6++[bxO b4 oX4,.arr 3 [zI] true false]):=λk=>by
  rw[hH6,hH4,hH3];exact Z0d (v := .u) (id:=6) (o:=bxO b4 oX4) (ft:=[6]) rfl k
 obtain ⟨H8,hH8⟩:∃H8:Hp,H8=H6++[bxO b4 oX4,bxI c3 c4 iX2]:=⟨_,rfl⟩
 have s7:∀k:Kb AV,effK (stE 3 (.ptr 7 0 0 1) (ib c3 c4 iX2) (H6++[bxO b4 oX4,.arr 3 [zI] true false])) (H6++[bxO b4 oX4,.arr 3 [zI] true false]) k=k .u H8:=λk=>by
  rw[hH8,hH6,hH4,hH3];exact Z0d (v := .u) (id:=7) (o:=bxI c3 c4 iX2) (ft:=[7]) rfl k
 have e4:H8[4]? = some (bxO b3 oX3):=by rw[hH8,hH6,hH4,hH3];rfl
 have e5:H8[5]? = some (bxI c1 c2 iX2):=by rw[hH8,hH6,hH4,hH3];rfl
 have e6:H8[6]? = some (bxO b4 oX4):=by rw[hH8,hH6,hH4,hH3];rfl
 have e7:H8[7]? = some (bxI c3 c4 iX2):=by rw[hH8,hH6,hH4,hH3];rfl
 have q42:∀k:KV,ldK 1 false (.ptr 4 0 2 1) H8 k=k (SL 10 encV b3 [eX1]):=λk=>by rw[Z01,e4];rfl
 have q52:∀k:KV,ldK 1 false (.ptr 5 0 2 1) H8 k=k (SL 7 encM c2 [mX1,mX2]):=λk=>by rw[Z01,e5];rfl
 have q62:∀k:KV,ldK 1 false (.ptr 6 0 2 1) H8 k=k (SL 10 encV b4 []):=λk=>by rw[Z01,e6];rfl
 have q51:∀k:KV,ldK 1 false (.ptr 5 0 1 1) H8 k=k (SL 2 encH c1 [⟨1,1⟩,⟨1,2⟩]):=λk=>by rw[Z01,e5];rfl
 have q71:∀k:KV,ldK 1 false (.ptr 7 0 1 1) H8 k=k (SL 2 encH c3 [⟨1,1⟩,⟨1,2⟩]):=λk=>by rw[Z01,e7];rfl
 have q5:∀k:KV,ldK 3 true (.ptr 5 0 0 1) H8 k=k (ib c1 c2 iX2):=λk=>ldI3 e5 k
 have q7:∀k:KV,ldK 3 true (.ptr 7 0 0 1) H8 k=k (ib c3 c4 iX2):=λk=>ldI3 e7 k
 have ln1:∀k:KV,lenK (SL 10 encV b3 [eX1]) k=k (I 1):=λk=>rfl
 have ln2:∀k:KV,lenK (SL 7 encM c2 [mX1,mX2]) k=k (I 2):=λk=>rfl
 have ln3:∀k:KV,lenK (SL 10 encV b4 []) k=k (I 0):=λk=>rfl
 have fA:=ZCr c1 c2 c3 c4 iX2 iX2 (by decide) (by decide) (by decide) (by decide) H8
 rw[show agreesI iX2 iX2=true by unfold agreesI;rw[cX2];simp] at fA
 have fE:=ZCt [⟨1,1⟩,⟨1,2⟩] [⟨1,1⟩,⟨1,2⟩] (c1&&false) (c3&&false) (by decide) (λx y h k=>by rw[Zey,Bool.true_xor]) H8
 replace fE:Z6R [SL 2 encH c1 [⟨1,1⟩,⟨1,2⟩],SL 2 encH c3 [⟨1,1⟩,⟨1,2⟩]] H8=some (B true,H8):=fE
 have fC:=Z7b c3 c4 iX2 (by decide) (by decide) H8
 rw[cX2] at fC;simp -implicitDefEqProofs only[ZaM,ZxZ,Z02,n1,tq0,tq1,x0,s0,l0,ZxW,ZxV,Z2N,gm1,Z4q,gs1,tp0,tp1,tp2,d1,d2,d3,dj1,cond_true,l1,gm2,gs2,d4,d5,d6,dj2,Zy0,n2,x3,s3,Z0e,w0,Z03,beq_self_eq_true,Bool.true_xor,Bool.not_true,Z00,Bool.false_eq_true,if_false,l40,l43,ZxY,fX,x4,x5,s4,s5,l64,l65,fY,x6,x7,s6,s7,Z04,Nat.zero_add,q42,ln1,Bool.false_xor,Z3b,q52,ln2,q62,ln3,q5,q7,Zy1,fA,q51,q71,Zy2,fE,Zy3,fC]
 rfl
end Go.AM


namespace Go.AM
open Go.Proofs
attribute [local congr] Z0i Z0j Z0k Z0l Z0m Z0n Z0o Z0p Z0q Z0r Z0s Z0t Z0u Z0v Z0w Z0x Z0y Z0z Z0A Z0B Z0C Z0D Z0E Z0F Z0G Z0H Z0I
theorem ZCv{β:Type}{T:Tab}{D:DTab}{N:Nat}{x0:Qb β}{xr:Kb β}{a b:List Int}{h:Hp}(ha:h[2]? = some (.arr 1 (a.map λz=>[I z]) true false))(hb:h[3]? = some (.arr 1 (b.map λz=>[I z]) true false))(la:a.length=7)(lb:b.length=7)(hx:x0 h=xr (B false) h):∀(n i:Nat),i≤7→7<i+n→
  Z59 Tryz.prog T D N x0 xr n (.sl 1 2 0 7 7 true) (.sl 1 3 0 7 7 true) (I i) h=xr (B (ltZ (a.drop i) (b.drop i))) h:=by
 intro n;induction n with
 | zero=>intro i h1 h2;omega
 | succ n ih=>
  intro i h1 h2;show Z9b Tryz.prog T D N (Z59 Tryz.prog T D N x0 xr n) x0 xr _ _ _ h=_
  rcases Nat.lt_or_ge i 7 with hi | hi
  ·have c1:((i:Int)<((7:Nat):Int)):=by omega
   have w2:IntKind.i64.wrap ((i:Int)+1)=((i+1:Nat):Int):=by rw[wrap64 (by omega) (by omega)];omega
   have i1:∀K:Go.AM.K β,iaK 1 (.sl 1 2 0 7 7 true) (I i) K=K (.ptr 2 i 0 7):=λK=>by rw[ZaK (by omega) (by omega)];simp
   have i2:∀K:Go.AM.K β,iaK 1 (.sl 1 3 0 7 7 true) (I i) K=K (.ptr 3 i 0 7):=λK=>by rw[ZaK (by omega) (by omega)];simp
   have ea:a[i]? = some a[i]:=List.getElem?_eq_getElem (by omega)
   have eb:b[i]? = some b[i]:=List.getElem?_eq_getElem (by omega)
   have l1:∀K:Go.AM.K β,ldK 1 false (.ptr 2 i 0 7) h K=K (I a[i]):=λK=>by simp[ha,la,ea]
   have l2:∀K:Go.AM.K β,ldK 1 false (.ptr 3 i 0 7) h K=K (I b[i]):=λK=>by simp[hb,lb,eb]
   rw[List.drop_eq_getElem_cons (show i<a.length by omega),List.drop_eq_getElem_cons (show i<b.length by omega),Z6b]
   simp -implicitDefEqProofs only[Z9b,Z0S,Z05,c1,decide_true,Z00,if_true,i1,i2,l1,l2,Z03,Bool.true_xor,Z0e,w2]
   by_cases he:a[i]=b[i]
   ·have e:(a[i]==b[i])=true:=by simpa using he
    have hn:¬b[i]<b[i]:=by omega
    simp only[e,Bool.not_true,Bool.false_eq_true,if_false,ih (i+1) (by omega) (by omega)]
    rw[he];simp[hn]
   ·have e:(a[i]==b[i])=false:=by simpa using he
    simp[e,he]
  ·have:i=7:=by omega
   subst this;have c1:¬(((7:Nat):Int)<((7:Nat):Int)):=by omega
   simp -implicitDefEqProofs only[Z9b,Z0S,Z05,c1,decide_false,Z00,Bool.false_eq_true,if_false,hx]
   rw[List.drop_eq_nil_of_le (by omega),List.drop_eq_nil_of_le (by omega)]
   rfl
theorem ZCw(a b:Msg)(h:Hp):Z5s [.agg (encM a),.agg (encM b)] h=some (B (ltM a b),h):=by
 refine Zzb (by simp[encM]) ?_ h
 unfold ltM;obtain ⟨a0,a1,a2,a3,a4,a5,a6⟩:=a
 obtain ⟨b0,b1,b2,b3,b4,b5,b6⟩:=b;have bs2:∀(o0 o1:AObj)(c0 c1 c2 c3 c4 c5 c6:Int)(k:Kb AV),effK (bsE 1 [I 0] 7 [(0,I c0),(1,I c1),(2,I c2),(3,I c3),(4,I c4),(5,I c5),(6,I c6)] ([o0,o1]:Hp).length) [o0,o1] k=k (.sl 1 2 0 7 7 true) [o0,o1,.arr 1 [[I c0],[I c1],[I c2],[I c3],[I c4],[I c5],[I c6]] true false]:=λ_ _ _ _ _ _ _ _ _ _=>rfl
 have bs3:∀(o0 o1 o2:AObj)(c0 c1 c2 c3 c4 c5 c6:Int)(k:Kb AV),effK (bsE 1 [I 0] 7 [(0,I c0),(1,I c1),(2,I c2),(3,I c3),(4,I c4),(5,I c5),(6,I c6)] ([o0,o1,o2]:Hp).length) [o0,o1,o2] k=k (.sl 1 3 0 7 7 true) [o0,o1,o2,.arr 1 [[I c0],[I c1],[I c2],[I c3],[I c4],[I c5],[I c6]] true false]:=λ_ _ _ _ _ _ _ _ _ _ _=>rfl
 simp -implicitDefEqProofs only[Z9c,encM,encDo,Z04,Z11,Nat.zero_add,Nat.add_zero,Nat.reduceAdd,Z1Z,Z20,Z21,Z22,Z23,Z24,Z25,Z26,Z27,Z28,Z29,Z2a,Z2b,Z2c,Z2d,Z2e,Z2f,Z2g,Z2h,Z2i,Z2j,lw7_0,ew7_0,bx7_0,Z1c,Z1d,Z1e,Z1f,Z14,Z1g,Z1h,Z1i,Z1j,Z1k,Z1l,Z1m,Z1n,Z1o,Z1p,Z1q,Z1r,Z1s,Z1t,Z1u,Z1v,lw7_1,ew7_1,bx7_1,Z1w,Z1x,Z1y,Z17,Z18,Z1z,Z1A,Z1B,Z1C,Z1D,Z1E,Z1F,Z1G,Z1H,Z1I,Z1J,Z1K,Z1L,Z1M,Z1N,Z1O,lw7_2,ew7_2,bx7_2,Z2k,Z2l,Z2m,Z2n,Z2o,Z2p,Z2q,Z2r,Z2s,Z2t,Z2u,Z2v,Z2w,Z2x,Z2y,Z2z,Z2A,Z2B,Z2C,Z2D,Z2E,lw7_3,ew7_3,bx7_3,Z1S,Z05,Z10,Z0g,Z0P,Z0J,Z0Q,Z00,Z03,Z0L,Bool.false_xor,Bool.true_xor,Z02,Z16,Z07,Z0S,Z1R,List.length_map,bs2,bs3]
 have:=ZCv (T:=Z6Z) (D:=Z6Y) (N:=NN) (x0:=λh=>Zcm Tryz.prog Z6Z Z6Y NN (λv g=>cvt false g v) h) (xr:=λw51_4 h=>cvt false h w51_4) (a:=[a0,a1,a2,a3,a4,a5,a6]) (b:=[b0,b1,b2,b3,b4,b5,b6]) (h:=[.arr 7 [[I a0,I a1,I a2,I a3,I a4,I a5,I a6]] true false,.arr 7 [[I b0,I b1,I b2,I b3,I b4,I b5,I b6]] true false,.arr 1 [[I a0],[I a1],[I a2],[I a3],[I a4],[I a5],[I a6]] true false,.arr 1 [[I b0],[I b1],[I b2],[I b3],[I b4],[I b5],[I b6]] true false]) rfl rfl rfl rfl rfl NN 0 (by omega) (by have:=NN_ge;omega)
 exact this.trans rfl
theorem Zmr{T:Tab}{D:DTab}{N:Nat}{x0:Hp→Option AV}{xr:Kb AV}{l:List Msg}{b:Bool}{h:Hp}(hT:T 77=some Z4i)(hl:l.length<1000000)(hx:x0 h=xr (I 0) h):∀(n:Nat)(pre post:List Msg),l=pre++post→post.length<n→
  Z4V Tryz.prog T D N x0 xr n (.lst 7 b (l.map encM)) (I pre.length) h=xr (I (if (post.any λm=>checkM m != 0)=true then 1 else 0)) h:=by
 intro n;induction n with
 | zero=>intro pre post _ h2;omega
 | succ n ih=>
  intro pre post hc hn;show Z8C Tryz.prog T D N (Z4V Tryz.prog T D N x0 xr n) x0 xr _ _ h=_
  cases post with
  | nil=>
   have:l=pre:=by simpa using hc
   subst this;have c1:¬((l.length:Int)<(l.length:Int)):=by omega
   simp -implicitDefEqProofs only[Z8C,Z07,List.length_map,Z05,c1,decide_false,Z00,Bool.false_eq_true,if_false,hx]
   rfl
  | cons c post=>
   have hi:pre.length<l.length:=by rw[hc];simp
   have hci:l[pre.length]? = some c:=by rw[hc];simp
   have hlt:((pre.length:Int)<(l.length:Int)):=by omega
   have hw:IntKind.i64.wrap ((pre.length:Int)+1)=(((pre++[c]).length:Nat):Int):=by rw[wrap64 (by omega) (by omega)];simp
   have ic:∀k:KV,iaK 7 (.lst 7 b (l.map encM)) (I pre.length) k=k (.ep (encM c) 0):=λk=>Z0M pre.length rfl hci k
   have ld:∀k:KV,ldK 7 true (.ep (encM c) 0) h k=k (.agg (encM c)):=λk=>rfl
   have step:=ih (pre++[c]) post (by simpa using hc) (by simpa using hn)
   have fc:=ZlL c;simp -implicitDefEqProofs only[Z8C,Z07,List.length_map,Z05,hlt,decide_true,Z00,if_true,ic,ld,hT,Z02,fc,Z03,Bool.true_xor,Z0e,hw,step];by_cases h0:checkM c=0
   ·simp[h0]
   ·simp[h0]
theorem Zms(l:List Msg)(b:Bool)(hl:l.length<1000000)(h:Hp):Z3I [.lst 7 b (l.map encM)] h=some (I (errM l),h):=by
 refine Zz4 rfl ?_ h;simp only[nrm,nrmC];by_cases h1:64<l.length
 ·have c1:((64:Int)<(l.length:Int)):=by omega
  simp[Z3u,c1,errM,h1]
 ·have c1:¬((64:Int)<(l.length:Int)):=by omega
  have:=Zmr (T:=Z3k) (D:=Z3H) (N:=NN) (x0:=λh=>Z8B Tryz.prog Z3k Z3H NN (λv g=>cvt false g v) h) (xr:=λw12_2 h=>cvt false h w12_2) (l:=l) (b:=b) (h:=[]) Zlq hl rfl NN [] l rfl (by have:=NN_ge;omega)
  simp -implicitDefEqProofs only[Z3u,Z07,List.length_map,Z0g,c1,decide_false,Z00,Bool.false_eq_true,if_false,errM,h1]
  exact this.trans rfl
theorem ZgC{β:Type}{id n:Nat}{b:Bool}{m:Int}(i:Nat)(hm:m=i)(hi:i<n)(k:Go.AM.K β):iaK 7 (.sl 7 id 0 n n b) (I m) k=k (.ptr id i 0 n):=by
 subst hm;rw[ZaK (by omega) (by omega)]
 simp
theorem ZCx{A B:List Msg}{x:Msg}(hs:Srt (A++B))(hB:∀b ∈ B,ltM x b=true)(hA:∀a ∈ A,ltM a x=true):Srt (A++[x]++B):=by
 rw[Srt,List.append_assoc,List.pairwise_append] at *
 refine ⟨hs.1, ?_, ?_⟩
 ·rw[List.singleton_append,List.pairwise_cons]
  exact ⟨hB,hs.2.1⟩
 ·intro a ha b hb
  rcases List.mem_append.1 hb with hb | hb
  ·simp only[List.mem_singleton] at hb;subst hb;exact hA a ha
  ·exact hs.2.2 a ha b hb
theorem ZCy{β:Type}{T:Tab}{D:DTab}{N:Nat}{x4:AV→AV→Kb β}{v0 v4:AV}{id m:Nat}{fb:Bool}{x:Msg}{h0:Hp}(hT:T 87=some Z5s)(hid:id<h0.length)(hm:m<1000000):∀(n:Nat)(A B:List Msg),A.length<n→(A++B).length+1=m→Srt (A++B)→(∀b ∈ B,ltM x b=true)→x ∉ A++B→
  ∃o:List Msg,Srt o∧o.length=m∧(∀y,y ∈ o↔y ∈ A++B∨y=x) ∧
   Z54 Tryz.prog T D N x4 n v0 (.sl 7 id 0 m m fb) v4 (I A.length) (h0.set id (.arr 7 ((A++[x]++B).map encM) true false))=x4 v0 (.sl 7 id 0 m m fb) v4 (h0.set id (.arr 7 (o.map encM) true false)):=by
 intro n;induction n with
 | zero=>intro A B h1;omega
 | succ n ih=>
  intro A B h1 hm2 hs hB hx;have hget:(h0.set id (.arr 7 ((A++[x]++B).map encM) true false))[id]? = some (.arr 7 ((A++[x]++B).map encM) true false):=by simp[hid]
  have hlen:(A++[x]++B).length=m:=by simp at hm2 ⊢;omega
  have done:(∀a ∈ A,ltM a x=true)→∃o:List Msg,Srt o∧o.length=m∧(∀y,y ∈ o↔y ∈ A++B∨y=x)∧x4 v0 (.sl 7 id 0 m m fb) v4 (h0.set id (.arr 7 ((A++[x]++B).map encM) true false))=x4 v0 (.sl 7 id 0 m m fb) v4 (h0.set id (.arr 7 (o.map encM) true false)):=
   λhA=>⟨A++[x]++B,ZCx hs hB hA,hlen,λy=>by simp only[List.mem_append,List.mem_singleton];exact ⟨λh=>h.elim (λh=>h.elim (λh => .inl (.inl h)) .inr) λh => .inl (.inr h),λh=>h.elim (λh=>h.elim (λh => .inl (.inl h)) .inr) λh => .inl (.inr h)⟩,rfl⟩
  show ∃o,_∧_∧_∧Z90 Tryz.prog T D N (Z54 Tryz.prog T D N x4 n) x4 _ _ _ _ _=_;rcases List.eq_nil_or_concat A with rfl | ⟨A',a,rfl⟩
  ·have c1:¬((0:Int)<((0:Nat):Int)):=by omega
   simp -implicitDefEqProofs only[Z90,List.length_nil,Z0g,c1,decide_false,Z5N,Z00,Bool.false_eq_true,if_false]
   exact done (by simp)
  ·rw[List.concat_eq_append] at *
   have hl2:(A'++[a]).length=A'.length+1:=by simp
   have c1:((0:Int)<(((A'++[a]).length:Nat):Int)):=by rw[hl2];omega
   have w1:IntKind.i64.wrap ((((A'++[a]).length:Nat):Int)-1)=((A'.length:Nat):Int):=by rw[hl2];rw[wrap64 (by omega) (by simp at hm2;omega)];omega
   have gx:(A'++[a]++[x]++B)[(A'++[a]).length]? = some x:=by
    rw[List.append_assoc (A'++[a]),List.getElem?_append_right (Nat.le_refl _)];simp
   have ga:(A'++[a]++[x]++B)[A'.length]? = some a:=by
    rw[List.append_assoc,List.append_assoc,List.getElem?_append_right (Nat.le_refl _)];simp
   have i1:∀K:Go.AM.K β,iaK 7 (.sl 7 id 0 m m fb) (I (((A'++[a]).length:Nat):Int)) K=K (.ptr id (A'++[a]).length 0 m):=λK=>ZgC _ rfl (by simp at hm2 ⊢;omega) K
   have i2:∀K:Go.AM.K β,iaK 7 (.sl 7 id 0 m m fb) (I ((A'.length:Nat):Int)) K=K (.ptr id A'.length 0 m):=λK=>ZgC _ rfl (by simp at hm2 ⊢;omega) K
   have l1:=λK:Go.AM.K β=>ld_el hget hlen gx K
   have l2:=λK:Go.AM.K β=>ld_el hget hlen ga K
   have s1:=λK:Kb β=>st_el (i:=A'.length) (x:=x) hget hlen (by simp) K
   have fl:=ZCw x a;simp -implicitDefEqProofs only[Z90,Z0g,c1,decide_true,Z3b,i1,l1,Z1U,w1,i2,l2,hT,Z02,fl,Z00,s1];cases hlt:ltM x a with
   | false=>
    simp only[Bool.false_eq_true,if_false];refine done λc hc => ?_
    have hax:ltM a x=true:=by
     cases h2:ltM a x with
     | true=>rfl
     | false=>have:=Zer h2 hlt;subst this;exact absurd (by simp) hx
    rcases List.mem_append.1 hc with hc | hc
    ·refine Zgq ?_ hax
     rw[Srt,List.append_assoc,List.pairwise_append] at hs;exact hs.2.2 c hc a (by simp)
    ·simp only[List.mem_singleton] at hc;subst hc;exact hax
   | true=>
    have e1:(A'++[a]++[x]++B).set A'.length x=A'++[x]++[x]++B:=by
     rw[List.append_assoc,List.append_assoc,List.set_append_right _ _ (Nat.le_refl _)]
     simp
    have hget2:(h0.set id (.arr 7 ((A'++[x]++[x]++B).map encM) true false))[id]? = some (.arr 7 ((A'++[x]++[x]++B).map encM) true false):=by simp[hid]
    have s2:=λK:Kb β=>st_el (i:=(A'++[a]).length) (x:=a) hget2 (by simp at hm2 ⊢;omega) (by simp) K
    have e2:(A'++[x]++[x]++B).set (A'++[a]).length a=A'++[x]++(a::B):=by
     rw[hl2,List.append_assoc (A'++[x]),List.set_append_right _ _ (by simp)]
     simp
    simp -implicitDefEqProofs only[if_true,e1,i1,s2,e2,List.set_set,Z1U,w1]
    have:=ih A' (a::B) (by simp at h1;omega) (by simpa using hm2) (by simpa using hs) (λb hb=>by
     rcases List.mem_cons.1 hb with rfl | hb
     ·exact hlt
     ·exact hB b hb) (by simpa using hx)
    obtain ⟨o,g1,g2,g3,g4⟩:=this;exact ⟨o,g1,g2,λy=>by rw[g3];simp,g4⟩
theorem ZCz{β:Type}{T:Tab}{D:DTab}{N:Nat}{x2:AV→AV→AV→Kb β}{l o:List Msg}{b fb:Bool}{id j:Nat}{c:Msg}{h:Hp}(hid:h[id]? = some (.arr 7 (o.map encM) true false))(hj:l[j]? = some c)(ho:o.length<1000000):∀(n i:Nat)(kn:Bool),i≤o.length→o.length<i+n→kn=(o.take i).contains c→
  Z56 Tryz.prog T D N x2 n (.lst 7 b (l.map encM)) (.sl 7 id 0 o.length o.length fb) (I j) (B kn) (I i) h=x2 (.lst 7 b (l.map encM)) (.sl 7 id 0 o.length o.length fb) (I j) (B (o.contains c)) h:=by
 intro n;induction n with
 | zero=>intro i kn h1 h2;omega
 | succ n ih=>
  intro i kn h1 h2 hk;show Z91 Tryz.prog T D N (Z56 Tryz.prog T D N x2 n) x2 _ _ _ _ _ h=_
  rcases Nat.lt_or_ge i o.length with hi | hi
  ·have hx:o[i]? = some o[i]:=List.getElem?_eq_getElem hi
   have c1:((i:Int)<(o.length:Int)):=by omega
   have w2:IntKind.i64.wrap ((i:Int)+1)=((i+1:Nat):Int):=by rw[wrap64 (by omega) (by omega)];omega
   have i1:∀K:Go.AM.K β,iaK 7 (.sl 7 id 0 o.length o.length fb) (I i) K=K (.ptr id i 0 o.length):=λK=>ZgC i rfl hi K
   have l1:=λK:Go.AM.K β=>ld_el hid rfl hx K
   have ic:∀k:Go.AM.K β,iaK 7 (.lst 7 b (l.map encM)) (I j) k=k (.ep (encM c) 0):=λk=>Z0M j rfl hj k
   have ld:∀k:Go.AM.K β,ldK 7 true (.ep (encM c) 0) h k=k (.agg (encM c)):=λk=>rfl
   have step:=ih (i+1) (kn||o[i]==c) (by omega) (by omega) (by
    rw[Z79 hx,hk,List.contains_append];rw[show ([o[i]]:List Msg).contains c=(c==o[i]) by simp[List.contains_cons];rw[Bool.eq_iff_iff];simp,Bool.beq_comm (a:=c)])
   simp -implicitDefEqProofs only[Z91,Z0S,Z05,c1,decide_true,Z00,if_true,i1,l1,ic,ld,Z4r,Bool.false_xor,Z0J,Z0e,w2]
   exact step
  ·have:i=o.length:=by omega
   subst this;have c1:¬((o.length:Int)<(o.length:Int)):=by omega
   rw[List.take_length] at hk;simp -implicitDefEqProofs only[Z91,Z0S,Z05,c1,decide_false,Z00,Bool.false_eq_true,if_false,hk]
theorem Zmt{β:Type}{T:Tab}{D:DTab}{N:Nat}{x0:Kb β}{X:Option β}{l:List Msg}{b:Bool}(hT:T 87=some Z5s)(hN:1000000≤N)(hl:l.length<1000)(hx:∀v h,Grm 7 encM h v (normL l)→x0 v h=X):∀(n:Nat)(pre post o:List Msg)(v:AV)(h:Hp),l=pre++post→post.length<n→Srt o→(∀y,y ∈ o↔y ∈ pre)→o.length≤pre.length→Grm 7 encM h v o→
  Z3v Tryz.prog T D N x0 n (.lst 7 b (l.map encM)) v (I pre.length) h=X:=by
 intro n;induction n with
 | zero=>intro pre post o v h _ h2;omega
 | succ n ih=>
  intro pre post o v h hc hn hs hm hol O;show Z92 Tryz.prog T D N (Z3v Tryz.prog T D N x0 n) x0 _ _ _ h=_
  cases post with
  | nil=>
   have:l=pre:=by simpa using hc
   subst this;have c1:¬((l.length:Int)<(l.length:Int)):=by omega
   simp -implicitDefEqProofs only[Z92,Z07,List.length_map,Z05,c1,decide_false,Z00,Bool.false_eq_true,if_false]
   exact hx v h (by rw[← Zm7 hs hm];exact O)
  | cons c post=>
   have hi:pre.length<l.length:=by rw[hc];simp
   have hci:l[pre.length]? = some c:=by rw[hc];simp
   have hlt:((pre.length:Int)<(l.length:Int)):=by omega
   have hw:IntKind.i64.wrap ((pre.length:Int)+1)=(((pre++[c]).length:Nat):Int):=by rw[wrap64 (by omega) (by omega)];simp
   have ic:∀k:Go.AM.K β,iaK 7 (.lst 7 b (l.map encM)) (I pre.length) k=k (.ep (encM c) 0):=λk=>Z0M pre.length rfl hci k
   obtain ⟨id,fb,rfl,hid,hfb⟩:=O;have kn:=ZCz (T:=T) (D:=D) (N:=N) (x2:=λw49_0 w49_3 w49_4 w49_5 h=>Z55 Tryz.prog T D N (Z3v Tryz.prog T D N x0 n) x0 w49_0 w49_3 w49_4 w49_5 h) (l:=l) (o:=o) (b:=b) (fb:=fb) (id:=id) (j:=pre.length) (c:=c) hid hci (by omega) N 0 false (by omega) (by omega) rfl
   simp -implicitDefEqProofs only[Z92,Z07,List.length_map,Z05,hlt,decide_true,Z00,if_true]
   refine Eq.trans kn ?_;cases hk:o.contains c with
   | true=>
    have hcm:c ∈ o:=by simpa using hk
    have step:=ih (pre++[c]) post o _ h (by simpa using hc) (by simpa using hn) hs (λy=>by
     rw[hm,List.mem_append,List.mem_singleton];exact ⟨.inl,λq=>q.elim (λq=>q) λe=>by rw[e];exact (hm c).1 hcm⟩) (by simp;omega) ⟨id,fb,rfl,hid,hfb⟩
    simp -implicitDefEqProofs only[Z55,Z00,if_true,Z69,ZfD,Z0e,hw]
    exact step
   | false=>
    have hcm:c ∉ o:=by simpa using hk
    have bs:∀k:Kb β,effK (bsE 7 zM 1 [(0,.agg (encM c))] h.length) h k=k (.sl 7 h.length 0 1 1 true) (h++[.arr 7 [encM c] true false]):=λk=>by simp[bsE,fillS,encM,effK,ap]
    have hmget:(h++[AObj.arr 7 [encM c] true false])[h.length]? = some (.arr 7 [encM c] true false):=by simp
    have hlt0:id<h.length:=(List.getElem?_eq_some_iff.1 hid).1;obtain ⟨v',e,a1,a2,a3,a4,a5,a6,a7⟩:=Grm.snocE (h:=h++[AObj.arr 7 [encM c] true false]) (by_:=56) (m:=h.length) (z:=c) (b:=true) (Grm.app ⟨id,fb,rfl,hid,hfb⟩ [AObj.arr 7 [encM c] true false]) hmget (by simp[idOf];omega) (by simp[encM]) (by omega)
    obtain ⟨id2,fb2,rfl,hid2,hfb2⟩:=a2;have ld:∀k:Go.AM.K β,ldK 7 true (.ep (encM c) 0) h k=k (.agg (encM c)):=λk=>rfl
    have hl2:(o++[c]).length=o.length+1:=by simp
    obtain ⟨o',g1,g2,g3,g4⟩:=ZCy (T:=T) (D:=D) (N:=N) (x4:=λw37_0 w37_3 w37_4 h=>Z8Z Tryz.prog T D N (Z3v Tryz.prog T D N x0 n) x0 w37_0 w37_3 w37_4 h) (v0 := .lst 7 b (l.map encM)) (v4:=I pre.length) (id:=id2) (m:=o.length+1) (fb:=fb2) (x:=c) (h0:=ap (h++[AObj.arr 7 [encM c] true false]) e) hT (List.getElem?_eq_some_iff.1 hid2).1 (by omega) N o [] (by omega) (by simp) (by simpa using hs) (by simp) (by simpa using hcm)
    simp only[List.append_nil] at g3 g4;rw[Z15 hid2] at g4
    have step:=ih (pre++[c]) post o' (.sl 7 id2 0 (o.length+1) (o.length+1) fb2) ((ap (h++[AObj.arr 7 [encM c] true false]) e).set id2 (.arr 7 (o'.map encM) true false)) (by simpa using hc) (by simpa using hn) g1 (λy=>by
     rw[g3,hm];simp) (by simp[g2];omega) ⟨id2,fb2,by rw[g2],by simp[(List.getElem?_eq_some_iff.1 hid2).1],λhb=>by have:=hfb2 hb;simp at this⟩
    have ap':∀k:Kb β,effK (appE 7 56 (.sl 7 id 0 o.length o.length fb) (.sl 7 h.length 0 1 1 true) (h++[AObj.arr 7 [encM c] true false]) (h++[AObj.arr 7 [encM c] true false]).length) (h++[AObj.arr 7 [encM c] true false]) k=k (.sl 7 id2 0 (o++[c]).length (o++[c]).length fb2) (ap (h++[AObj.arr 7 [encM c] true false]) e):=λk=>by rw[a1];rfl
    simp -implicitDefEqProofs only[Z55,Z00,Bool.false_eq_true,if_false,Z0S,ic,ld,bs,ap',hl2]
    refine g4.trans ?_;simp -implicitDefEqProofs only[Z8Z,Z69,ZfD,Z0e,hw];exact step
theorem Zmu(l:List Msg)(b:Bool)(hl:l.length<1000)(h:Hp):Z3K [.lst 7 b (l.map encM)] h=some (.lst 7 false ((normL l).map encM),h):=by
 refine (Zzf (v := .lst 7 false ((normL l).map encM)) rfl ?_ h).trans rfl;simp only[nrm,nrmC];have bs:∀k:Kb AV,effK (bsE 7 zM 0 [] ([]:Hp).length) [] k=k (.sl 7 0 0 0 0 true) [.arr 7 [] true false]:=λk=>by simp[bsE,fillS,effK,ap]
 simp -implicitDefEqProofs only[Z57,bs]
 refine Zmt (T:=Z3l) (D:=Z3J) (N:=NN) (x0:=λw50_3 h=>Z8Y Tryz.prog Z3l Z3J NN (λv g=>cvt false g v) w50_3 h) (X:=some (AV.lst 7 false ((normL l).map encM))) rfl NN_ge hl ?_ NN [] l [] (.sl 7 0 0 0 0 true) [.arr 7 [] true false] rfl (by have:=NN_ge;omega) (by simp) (by simp) (by simp) ⟨0,true,rfl,rfl,λ_=>rfl⟩
 intro v h O;exact O.cvt (λx st=>by cases st<;>simp[encM,isS]) false
def normR'(l:List Msg):AV := .tup [if errM l=0 then .lst 7 false ((normL l).map encM) else .lst 7 true [],I (errM l)]
theorem ZCA(l:List Msg)(b:Bool)(hl:l.length<1000)(h:Hp):Za6 [.lst 7 b (l.map encM)] h=some (normR' l,h):=by
 have f1:=Zms l b (by omega)
 have f2:=Zmu l b hl;refine (Zzl (v := .tup [if errM l=0 then .lst 7 false ((normL l).map encM) else nilS,I (errM l)]) rfl ?_ h).trans ?_
 ·simp only[nrm,nrmC]
  simp -implicitDefEqProofs only[Z61,Zlv,Zlw,Z02,f1,f2,Z03,Bool.true_xor,Z00]
  by_cases h0:errM l=0
  ·simp[h0]
  ·simp[h0]
 ·unfold normR'
  by_cases h0:errM l=0
  ·simp only[h0,if_true];rfl
  ·simp only[h0,if_false];rfl
structure Fol where
 d:Docu
 en:Bool
 an:Int
 cnt:List ((Int × Int) × Int)
def cntP(c:List ((Int × Int) × Int))(p:Int × Int):Int:=((fndT c p).map (·.2)).getD 0
def bumpP(c:List ((Int × Int) × Int))(p:Int × Int):List ((Int × Int) × Int):=updT c p (IntKind.i64.wrap (cntP c p+1))
def stepF(mv:Int)(s:Fol)(m:Msg):Fol:=
 if m.mv≠mv then s
 else if m.kind=1 then { s with d:={ s.d with stage:=1,frm:=m.frm,to:=m.to,sent:=m.alc },cnt:=bumpP s.cnt (m.kind,m.num) }
 else if m.kind=2 then { s with d:={ s.d with to:=m.to,chg:=IntKind.i64.wrap (s.d.chg+1) },cnt:=bumpP s.cnt (m.kind,m.num) }
 else if m.kind=3 then { s with d:={ s.d with got:=m.alc },an:=2,cnt:=bumpP s.cnt (m.kind,m.num) }
 else if m.kind=4 then { s with an:=3,cnt:=bumpP s.cnt (3,m.num) }
 else if m.kind=5 then { s with en:=true }
 else { s with cnt:=bumpP s.cnt (m.kind,m.num) }
def begF(mv:Int):Fol:=⟨⟨mv,0,0,0,0,0,0⟩,false,0,[]⟩
def folF(mv:Int)(l:List Msg):Fol:=l.foldl (stepF mv) (begF mv)
def noneD(mv:Int):Docu:=⟨mv,0,0,0,0,0,0⟩
def confD(mv:Int):Docu:=⟨mv,5,0,0,0,0,0⟩
def endF(mv:Int)(s:Fol):Docu:=
 if s.d.stage=0 then noneD mv
 else if (s.cnt.any λe=>decide (1<e.2))=true then confD mv
 else if s.an=0 then s.d else if s.en=true then { s.d with stage:=4 } else { s.d with stage:=s.an }
def docF(mv:Int)(l:List Msg):Docu:=endF mv (folF mv l)
abbrev fI:Int→AV:=λn => .s (.int .i64 n)
theorem twoP:TwoInts Tryz.prog 117 3:=⟨⟨_,Tryz.underlying117,_,_,rfl,rfl,rfl,rfl,rfl,eq_false (by decide),eq_false (by decide)⟩,Tryz.underlying3,by kernel_rfl⟩
section
variable {β:Type}
theorem get3{o0 o1 o2 x:AObj}{g t:Hp}:(o0::o1::o2::(g++x::t))[g.length+3]? = some x:=by
 simp[List.getElem?_append_right]
theorem get4{o0 o1 o2 x y:AObj}{g t:Hp}:(o0::o1::o2::(g++x::y::t))[g.length+4]? = some y:=by
 simp[List.getElem?_append_right]
theorem set3{o0 o1 o2 x z:AObj}{g t:Hp}:(o0::o1::o2::(g++x::t)).set (g.length+3) z=o0::o1::o2::(g++z::t):=by
 simp[List.set_append_right]
theorem set4{o0 o1 o2 x y z:AObj}{g t:Hp}:(o0::o1::o2::(g++x::y::t)).set (g.length+4) z=o0::o1::o2::(g++x::z::t):=by
 simp[List.set_append_right]
variable {o0 o1 o2:AObj} {g t:Hp} {m:Msg}
theorem lq(j:Nat)(k:Go.AM.K β){x:AV}(hx:(encM m)[j]? = some x):ldK 1 false (.ptr (g.length+3) 0 j 1) (o0::o1::o2::(g ++ .arr 7 [encM m] true false::t)) k=k x:=by
 rw[Z01,get3];simp[hx]
theorem lq0(k:Go.AM.K β):ldK 1 false (.ptr (g.length+3) 0 0 1) (o0::o1::o2::(g ++ .arr 7 [encM m] true false::t)) k=k (I m.mv):=lq 0 k rfl
theorem lq1(k:Go.AM.K β):ldK 1 false (.ptr (g.length+3) 0 1 1) (o0::o1::o2::(g ++ .arr 7 [encM m] true false::t)) k=k (I m.kind):=lq 1 k rfl
theorem lq2(k:Go.AM.K β):ldK 1 false (.ptr (g.length+3) 0 2 1) (o0::o1::o2::(g ++ .arr 7 [encM m] true false::t)) k=k (I m.num):=lq 2 k rfl
theorem lq4(k:Go.AM.K β):ldK 1 false (.ptr (g.length+3) 0 4 1) (o0::o1::o2::(g ++ .arr 7 [encM m] true false::t)) k=k (I m.frm):=lq 4 k rfl
theorem lq5(k:Go.AM.K β):ldK 1 false (.ptr (g.length+3) 0 5 1) (o0::o1::o2::(g ++ .arr 7 [encM m] true false::t)) k=k (I m.to):=lq 5 k rfl
theorem lq6(k:Go.AM.K β):ldK 1 false (.ptr (g.length+3) 0 6 1) (o0::o1::o2::(g ++ .arr 7 [encM m] true false::t)) k=k (I m.alc):=lq 6 k rfl
theorem bq7(k:Kb β):effK (boxE 7 (.agg zM) (o0::o1::o2::g).length) (o0::o1::o2::g) k=k (.ptr (g.length+3) 0 0 1) (o0::o1::o2::(g++[.arr 7 [zM] true false])):=by
 exact (Z2F 7 (o0::o1::o2::g).length (.agg zM) _ k rfl rfl rfl).trans rfl
theorem sq7(k:Kb β):effK (stE 7 (.ptr (g.length+3) 0 0 1) (.agg (encM m)) (o0::o1::o2::(g++[.arr 7 [zM] true false]))) (o0::o1::o2::(g++[.arr 7 [zM] true false])) k=k .u (o0::o1::o2::(g++[.arr 7 [encM m] true false])):=by
 rw[Z0N (v := .u) (id:=g.length+3) (o := .arr 7 [encM m] true false) (ft:=[g.length+3]) (by rw[Z0f,get3];simp[encM]),set3]
theorem bq2{x:AObj}(k:Kb β):effK (boxE 2 (.agg zz2) (o0::o1::o2::(g++[x])).length) (o0::o1::o2::(g++[x])) k=k (.ptr (g.length+4) 0 0 1) (o0::o1::o2::(g++[x,.arr 2 [[I 0,I 0]] true false])):=by
 rw[Z2F 2 _ _ _ k rfl rfl rfl];simp
theorem sq2{x:AObj}{a b:Int}(k:Kb β):effK (stE 2 (.ptr (g.length+4) 0 0 1) (.agg [I a,I b]) (o0::o1::o2::(g++[x,.arr 2 [[I 0,I 0]] true false]))) (o0::o1::o2::(g++[x,.arr 2 [[I 0,I 0]] true false])) k=k .u (o0::o1::o2::(g++[x,.arr 2 [[I a,I b]] true false])):=by
 rw[Z0N (v := .u) (id:=g.length+4) (o := .arr 2 [[I a,I b]] true false) (ft:=[g.length+4]) (by rw[Z0f,get4];simp),set4]
theorem sq20{x:AObj}{a b c:Int}(k:Kb β):effK (stE 1 (.ptr (g.length+4) 0 0 1) (I c) (o0::o1::o2::(g++[x,.arr 2 [[I a,I b]] true false]))) (o0::o1::o2::(g++[x,.arr 2 [[I a,I b]] true false])) k=k .u (o0::o1::o2::(g++[x,.arr 2 [[I c,I b]] true false])):=by
 rw[Z0N (v := .u) (id:=g.length+4) (o := .arr 2 [[I c,I b]] true false) (ft:=[g.length+4]) (by rw[Z0f,get4];simp),set4]
theorem lw2{x:AObj}{a b:AV}(k:Go.AM.K β):ldK 2 true (.ptr (g.length+4) 0 0 1) (o0::o1::o2::(g++[x,.arr 2 [[a,b]] true false])) k=k (.agg [a,b]):=by
 rw[Z01,get4]
 simp
end
theorem of_j9{β:Type}{T:Tab}{D:DTab}{N:Nat}{xn:AV→AV→AV→AV→AV→AV→AV→AV→Kb β}{x0:AV→AV→AV→AV→AV→Kb β}{v1 v4 v6 v7 v8 v17 v18 v19:AV}{o0 o2 x:AObj}{g:Hp}{c:List ((Int × Int) × Int)}{a b:Int}:
  Z4T Tryz.prog T D N xn x0 v1 v4 (.mp 1) v6 v7 v8 (.ptr (g.length+4) 0 0 1) v17 v18 v19 (o0 :: .map (kvT fI c)::o2::(g++[x,.arr 2 [[I a,I b]] true false])) =
   Z32 Tryz.prog T D N xn x0 v1 v4 (.mp 1) v6 v7 v8 v17 v18 v19 (o0 :: .map (kvT fI (bumpP c (a,b)))::o2::(g++[x,.arr 2 [[I a,I b]] true false])):=by
 obtain ⟨bv,j,c1,h1,h2⟩:=ZBH (f:=fI) (h:=o0 :: .map (kvT fI c)::o2::(g++[x,.arr 2 [[I a,I b]] true false])) (id:=1) (c:=c) (p:=(a,b)) (z:=(0:Int)) (x:=IntKind.i64.wrap (cntP c (a,b)+1)) twoP rfl
 have hl:∀k:Go.AM.K β,lookK Tryz.prog 117 (I 0) false (.mp 1) (.agg [I a,I b]) (o0 :: .map (kvT fI c)::o2::(g++[x,.arr 2 [[I a,I b]] true false])) k=k (I (cntP c (a,b))):=λk=>by
  rw[Zm3 (p:=(a,b)) (f:=fI) (c:=c) twoP rfl];unfold cntP
  cases fndT c (a,b)<;>rfl
 have e1:∀k:AV→Hp→Ent→Option β,effD (mentE Tryz.prog 117 (I 0) (.mp 1) (.agg [I a,I b]) (o0 :: .map (kvT fI c)::o2::(g++[x,.arr 2 [[I a,I b]] true false]))) (o0 :: .map (kvT fI c)::o2::(g++[x,.arr 2 [[I a,I b]] true false])) k=k (.tup [bv,.s (.int .i64 j)]) (o0 :: .map (kvT fI c1)::o2::(g++[x,.arr 2 [[I a,I b]] true false])) ([1],[1]):=λk=>Z0h h1 k
 have e2:∀k:AV→Hp→Ent→Option β,effD (estE (.mp 1) (.s (.int .i64 j)) (I (IntKind.i64.wrap (cntP c (a,b)+1))) (o0 :: .map (kvT fI c1)::o2::(g++[x,.arr 2 [[I a,I b]] true false]))) (o0 :: .map (kvT fI c1)::o2::(g++[x,.arr 2 [[I a,I b]] true false])) k=k .u (o0 :: .map (kvT fI (bumpP c (a,b)))::o2::(g++[x,.arr 2 [[I a,I b]] true false])) ([1],[1]):=λk=>Z0h (h2 _ rfl) k
 have x1:∀k:Go.AM.K β,exK (.tup [bv,.s (.int .i64 j)]) 1 k=k (.s (.int .i64 j)):=λk=>rfl
 simp -implicitDefEqProofs only[Z4T,ZjF,lw2,hl,Z0e,e1,x1,e2,Zpc,cond_true]
theorem of_b6{β:Type}{T:Tab}{D:DTab}{N:Nat}{xn:AV→AV→AV→AV→AV→AV→AV→AV→Kb β}{x0:AV→AV→AV→AV→AV→Kb β}{l:List Msg}{b:Bool}{i:Nat}{m:Msg}{mv:Int}{s:Fol}{o0:AObj}{g:Hp}(hl:l.length<1000000)(hi:l[i]? = some m):
  ∃g',Z4U Tryz.prog T D N xn x0 (I mv) (.ptr 0 0 0 1) (.mp 1) (.ptr 2 0 0 1) (B s.en) (I s.an) (.lst 7 b (l.map encM)) (I l.length) (I i) (o0 :: .map (kvT fI s.cnt) :: .arr 7 [encDo s.d] true false::g) =
   xn (I mv) (.ptr 0 0 0 1) (.mp 1) (.ptr 2 0 0 1) (B (stepF mv s m).en) (I (stepF mv s m).an) (.lst 7 b (l.map encM)) (I l.length) (I ((i+1:Nat):Int)) (o0 :: .map (kvT fI (stepF mv s m).cnt) :: .arr 7 [encDo (stepF mv s m).d] true false::g'):=by
 have hil:i<l.length:=(List.getElem?_eq_some_iff.1 hi).1;have c1:((i:Int)<(l.length:Int)):=by omega
 have hw:IntKind.i64.wrap ((i:Int)+1)=((i+1:Nat):Int):=by rw[wrap64 (by omega) (by omega)];omega
 have ic:∀k:Go.AM.K β,iaK 7 (.lst 7 b (l.map encM)) (I i) k=k (.ep (encM m) 0):=λk=>Z0M i rfl hi k
 have ld:∀(h:Hp)(k:Go.AM.K β),ldK 7 true (.ep (encM m) 0) h k=k (.agg (encM m)):=λh k=>rfl
 have bd:∀k:Go.AM.K β,buildK zz2 [(some (0,1),I m.kind),(some (1,1),I m.num)] k=k (.agg [I m.kind,I m.num]):=λk=>rfl
 obtain ⟨⟨d0,d1,d2,d3,d4,d5,d6⟩,en,an,cnt⟩:=s;simp only[encDo];have dj4:disjAll [(1,7),(3,7),(5,7),(3,9),(5,9),(5,11)] [([],[]),(idsOf (AV.ptr (g.length+3) 0 4 1),[]),([],[]),(idsOf (AV.ptr (g.length+3) 0 5 1),[]),([],[]),(idsOf (AV.ptr (g.length+3) 0 6 1),[]),([],[]),([2],[2]),([],[]),([2],[2]),([],[]),([2],[2]),([],[]),([2],[2])]=true:=by simp[disjAll,disj2,idsOf]
 by_cases hm:m.mv=mv
 ·have em:(m.mv==mv)=true:=by simpa using hm
  have en':¬(m.mv≠mv):=by simpa using hm
  refine ⟨g++[.arr 7 [encM m] true false,.arr 2 [[I (if m.kind=4 then 3 else m.kind),I m.num]] true false], ?_⟩
  simp -implicitDefEqProofs only[Z4U,Z05,c1,decide_true,Z00,if_true,ic,ld,bq7,sq7,Z04,Nat.zero_add,lq0,Z03,em,Bool.true_xor,Bool.false_xor,Bool.not_true,Bool.false_eq_true,if_false,lq1,lq2,bd,bq2,sq2]
  by_cases k1:m.kind=1
  ·have q1:(m.kind==1)=true:=by simpa using k1
   simp -implicitDefEqProofs only[q1,if_true,lq4,lq5,lq6,Z04,Nat.zero_add,Z1w,Z1x,Z1y,Z17,Z18,Z1z,Z1A,Z1B,Z1C,Z1D,Z1E,Z1F,Z1G,Z1H,Z1I,Z1J,Z1K,Z1L,Z1M,Z1N,Z1O,of_j9,dj4,cond_true,Z32,Z44,Z0e,hw]
   simp[stepF,hm,k1]
  have q1:(m.kind==1)=false:=by simpa using k1
  by_cases k2:m.kind=2
  ·have q2:(m.kind==2)=true:=by simpa using k2
   simp -implicitDefEqProofs only[q1,q2,Bool.false_eq_true,if_false,if_true,lq5,Z04,Nat.zero_add,Z1w,Z1x,Z1y,Z17,Z18,Z1z,Z1A,Z1B,Z1C,Z1D,Z1E,Z1F,Z1G,Z1H,Z1I,Z1J,Z1K,Z1L,Z1M,Z1N,Z1O,of_j9,Z32,Z44,Z0e,hw]
   simp[stepF,hm,k1,k2]
  have q2:(m.kind==2)=false:=by simpa using k2
  by_cases k3:m.kind=3
  ·have q3:(m.kind==3)=true:=by simpa using k3
   have dj:disjAll [(1,4)] [([],[]),(idsOf (AV.ptr (g.length+3) 0 6 1),[]),([],[]),([],[]),([2],[2])]=true:=by simp[disjAll,disj2,idsOf]
   simp -implicitDefEqProofs only[q1,q2,q3,Bool.false_eq_true,if_false,if_true,lq6,Z04,Nat.zero_add,Z1w,Z1x,Z1y,Z17,Z18,Z1z,Z1A,Z1B,Z1C,Z1D,Z1E,Z1F,Z1G,Z1H,Z1I,Z1J,Z1K,Z1L,Z1M,Z1N,Z1O,of_j9,dj,cond_true,Z32,Z44,Z0e,hw]
   simp[stepF,hm,k1,k2,k3]
  have q3:(m.kind==3)=false:=by simpa using k3
  by_cases k4:m.kind=4
  ·have q4:(m.kind==4)=true:=by simpa using k4
   simp -implicitDefEqProofs only[q1,q2,q3,q4,Bool.false_eq_true,if_false,if_true,Z04,Nat.zero_add,sq20,of_j9,Z32,Z44,Z0e,hw]
   simp[stepF,hm,k1,k2,k3,k4]
  have q4:(m.kind==4)=false:=by simpa using k4
  by_cases k5:m.kind=5
  ·have q5:(m.kind==5)=true:=by simpa using k5
   simp -implicitDefEqProofs only[q1,q2,q3,q4,q5,Bool.false_eq_true,if_false,if_true,Z32,Z44,Z0e,hw]
   simp[stepF,hm,k1,k2,k3,k4,k5]
  have q5:(m.kind==5)=false:=by simpa using k5
  simp only[k4,if_false];simp -implicitDefEqProofs only[q1,q2,q3,q4,q5,Bool.false_eq_true,if_false,if_true,of_j9,Z32,Z44,Z0e,hw];simp[stepF,hm,k1,k2,k3,k4,k5]
 ·have em:(m.mv==mv)=false:=by simpa using hm
  have en':m.mv≠mv:=hm;refine ⟨g++[.arr 7 [encM m] true false], ?_⟩;simp -implicitDefEqProofs only[Z4U,Z05,c1,decide_true,Z00,if_true,ic,ld,bq7,sq7,Z04,Nat.zero_add,lq0,Z03,em,Bool.true_xor,Bool.not_false,Z32,Z44,Z0e,hw,stepF,en',ne_eq,not_false_eq_true]
theorem of_L6{β:Type}{T:Tab}{D:DTab}{N:Nat}{x0:AV→AV→AV→AV→AV→Kb β}{X:Option β}{l:List Msg}{b:Bool}{mv:Int}{o0:AObj}(hl:l.length<1000000)(hx:∀g,x0 (I mv) (.ptr 0 0 0 1) (.mp 1) (.ptr 2 0 0 1) (B (folF mv l).en) (I (folF mv l).an) (o0 :: .map (kvT fI (folF mv l).cnt) :: .arr 7 [encDo (folF mv l).d] true false::g)=X):∀(n i:Nat)(g:Hp),i≤l.length→l.length<i+n→
  Z45 Tryz.prog T D N x0 n (I mv) (.ptr 0 0 0 1) (.mp 1) (.ptr 2 0 0 1) (B (folF mv (l.take i)).en) (I (folF mv (l.take i)).an) (.lst 7 b (l.map encM)) (I l.length) (I i) (o0 :: .map (kvT fI (folF mv (l.take i)).cnt) :: .arr 7 [encDo (folF mv (l.take i)).d] true false::g)=X:=by
 intro n;induction n with
 | zero=>intro i g h1 h2;omega
 | succ n ih=>
  intro i g h1 h2;show Z4U Tryz.prog T D N (Z45 Tryz.prog T D N x0 n) x0 _ _ _ _ _ _ _ _ _ _=_
  rcases Nat.lt_or_ge i l.length with hi | hi
  ·have hm:l[i]? = some l[i]:=List.getElem?_eq_getElem hi
   obtain ⟨g',e⟩:=of_b6 (T:=T) (D:=D) (N:=N) (xn:=Z45 Tryz.prog T D N x0 n) (x0:=x0) (b:=b) (mv:=mv) (s:=folF mv (l.take i)) (o0:=o0) (g:=g) hl hm;rw[e]
   have hs:stepF mv (folF mv (l.take i)) l[i]=folF mv (l.take (i+1)):=by
    unfold folF;rw[Z79 hm,List.foldl_append]
    rfl
   rw[hs];exact ih (i+1) g' (by omega) (by omega)
  ·have:i=l.length:=by omega
   subst this;have c1:¬((l.length:Int)<(l.length:Int)):=by omega
   rw[List.take_length];simp -implicitDefEqProofs only[Z4U,Z05,c1,decide_false,Z00,Bool.false_eq_true,if_false];exact hx g
theorem of_L5{T:Tab}{D:DTab}{N:Nat}{x3:AV→AV→AV→Kb AV}{xr:Kb AV}{X:Option AV}{mv:Int}{en an:AV}{c:List ((Int × Int) × Int)}{d:Docu}{id:Nat}
  (h3:(c.any λe=>decide (1<e.2))=false→∀z t,x3 (.ptr 0 0 0 1) (.ptr 2 0 0 1) en an (.arr 7 [zM] true false::z :: .arr 7 [encDo d] true false::t)=X) (hr:(c.any λe=>decide (1<e.2))=true→∀z z2 t,xr (.ptr 0 0 0 1) (.arr 7 [encDo (confD mv)] true false::z::z2::t)=X):
  ∀(n:Nat)(seen:List Nat)(t:Hp),(leftIt c.length seen).length<n→(∀j ∈ seen,∀e,c[j]? = some e→¬1<e.2)→(.arr 7 [zM] true false :: .map (kvT fI c) :: .arr 7 [encDo d] true false::t:Hp)[id]? = some (.iter 1 c.length seen)→
  Z4S Tryz.prog T D N x3 xr n (I mv) (.ptr 0 0 0 1) (.ptr 2 0 0 1) en an (.it id) (.arr 7 [zM] true false :: .map (kvT fI c) :: .arr 7 [encDo d] true false::t)=X:=by
 intro n;induction n with
 | zero=>intro seen t h1;omega
 | succ n ih=>
  intro seen t h1 hseen hid;have hn:(kvT fI c).length=c.length:=by simp[kvT]
  have hid3:∃q,id=q+3:=by
   match id,hid with
   | 0,hid=>simp at hid
   | 1,hid=>simp at hid
   | 2,hid=>simp at hid
   | q+3,_=>exact ⟨q,rfl⟩
  obtain ⟨q,rfl⟩:=hid3;have hset:∀o,(.arr 7 [zM] true false :: .map (kvT fI c) :: .arr 7 [encDo d] true false::t:Hp).set (q+3) o = .arr 7 [zM] true false :: .map (kvT fI c) :: .arr 7 [encDo d] true false::t.set q o:=λo=>rfl
  have hql:q<t.length:=by simpa using (List.getElem?_eq_some_iff.1 hid).1
  show Zfy Tryz.prog T D N (Z4S Tryz.prog T D N x3 xr n) x3 xr _ _ _ _ _ _ _=_;refine ZBK hid rfl hn _ (λh0 => ?_) λj hj => ?_
  ·simp -implicitDefEqProofs only[Z16,List.getElem?_cons_zero,Z00,Bool.false_eq_true,if_false]
   refine h3 ?_ _ _;rw[List.any_eq_false];intro e he;obtain ⟨j,hj,rfl⟩:=List.getElem_of_mem he;have:j ∉ leftIt c.length seen:=by rw[h0];simp
   rw[Zgo] at this
   have hs:j ∈ seen:=by
    rcases Decidable.em (j ∈ seen) with h | h
    ·exact h
    ·exact absurd ⟨hj,h⟩ this
   simpa using hseen j hs _ (List.getElem?_eq_getElem hj)
  ·obtain ⟨hjl,hjs⟩:=Zgo.1 hj
   have hcj:c[j]? = some c[j]:=List.getElem?_eq_getElem hjl;have hkj:(kvT fI c)[j]? = some (keyT c[j].1,fI c[j].2):=by simp[kvT,hjl]
   rw[hset];have en1:∀k:KV,entryK (.it (q+3)) (.arr 7 [zM] true false :: .map (kvT fI c) :: .arr 7 [encDo d] true false::t.set q (.iter 1 c.length (seen++[j]))) k=k (.tup [keyAV (keyT c[j].1),I c[j].2]):=λk=>ZBL (seen:=seen) (n:=c.length) (j:=j) (h := .arr 7 [zM] true false :: .map (kvT fI c) :: .arr 7 [encDo d] true false::t.set q (.iter 1 c.length (seen++[j]))) (id:=q+3) (m:=1) (by simp[hql]) rfl hn hkj k
   have bc:∀k:KV,buildK zz7 [(some (0,1),I mv),(some (1,1),.s (.int .i64 5))] k=k (.agg [I mv,I 5,I 0,I 0,I 0,I 0,I 0]):=λk=>rfl
   simp -implicitDefEqProofs only[Z16,List.getElem?_cons_zero,Z00,if_true]
   rw[en1];simp -implicitDefEqProofs only[Z16,List.getElem?_cons_zero,List.getElem?_cons_succ,Z00,Z0g,bc,ew7_0];by_cases h2:1<c[j].2
   ·rw[if_pos (by simpa using h2)]
    exact hr (List.any_eq_true.2 ⟨c[j],List.getElem_mem hjl,by simpa using h2⟩) _ _ _
   ·rw[if_neg (by simpa using h2)]
    refine ih (seen++[j]) _ (by have:=ZBI hj;omega) (λi hi e he => ?_) (by simp[hql])
    rcases List.mem_append.1 hi with hi | hi
    ·exact hseen i hi e he
    ·simp only[List.mem_singleton] at hi
     subst hi;rw[hcj] at he
     injection he with he;rw[← he];exact h2
theorem Zmv{α:Type}:∀(c:List ((Int × Int) × α))(p:Int × Int)(x:α),(updT c p x).length≤c.length+1
 | [],p,x=>by simp[updT]
 | (q,y)::c,p,x=>by
  have:=Zmv c p x
  simp only[updT];split<;>simp<;>omega
theorem ZCB(mv:Int)(s:Fol)(m:Msg):(stepF mv s m).cnt.length≤s.cnt.length+1:=by
 unfold stepF;repeat' split
 all_goals first | exact Zmv _ _ _ | (simp;done)
theorem Zmw(mv:Int):∀(l:List Msg)(s:Fol),(l.foldl (stepF mv) s).cnt.length≤s.cnt.length+l.length
 | [],s=>by simp
 | m::l,s=>by
  have h1:=Zmw mv l (stepF mv s m);have h2:=ZCB mv s m;simp only[List.foldl_cons,List.length_cons]
  omega
theorem ZCC(l:List Msg)(b:Bool)(mv:Int)(hl:l.length<1000000)(h:Hp):Zaa [.lst 7 b (l.map encM),I mv] h=some (.agg (encDo (docF mv l)),h):=by
 refine ZzX (v := .agg (encDo (docF mv l))) rfl ?_ h;simp only[nrm,nrmC];have b0:∀k:KV,buildK zz7 [(some (0,1),I mv)] k=k (.agg (encDo (noneD mv))):=λk=>rfl
 have mk:∀(o:AObj)(k:Kb AV),effK (some (.mp (List.length [o]),EN (.map []))) [o] k=k (.mp 1) [o,.map []]:=λo k=>rfl
 simp -implicitDefEqProofs only[ZbN,bx7_0,mk,b0,bx7_2,encDo,noneD,ew7_2,Z07,List.length_map]
 have key:=of_L6 (T:=Z5y) (D:=Z5x) (N:=NN) (x0:=λw121_1 w121_4 w121_5 w121_6 w121_7 w121_8 h=>Z62 Tryz.prog Z5y Z5x NN (λv g=>cvt false g v) w121_1 w121_4 w121_5 w121_6 w121_7 w121_8 h) (X:=some (AV.agg (encDo (docF mv l)))) (l:=l) (b:=b) (mv:=mv) (o0 := .arr 7 [zM] true false) hl ?_ NN 0 [] (by omega) (by have:=NN_ge;omega)
 ·exact key
 ·intro g
  have b1:∀k:KV,buildK zM [(some (0,1),I mv)] k=k (.agg (encDo (noneD mv))):=λk=>rfl
  unfold docF;have hcl:(folF mv l).cnt.length≤l.length:=by have:=Zmw mv l (begF mv);simpa [begF,folF] using this
  generalize folF mv l=s at *;obtain ⟨⟨d0,d1,d2,d3,d4,d5,d6⟩,en,an,c⟩:=s;simp -implicitDefEqProofs only[Z62,Z04,Nat.zero_add,encDo,Z17,Z03,Bool.false_xor,Z00,b1];by_cases h1:d1=0
  ·subst h1
   simp -implicitDefEqProofs only[beq_self_eq_true,if_true,encDo,noneD,ew7_0,lw7_0,endF]
   rfl
  ·have e1:(d1==0)=false:=by simpa using h1
   have rg:∀(o2:AObj)(k:Kb AV),effK (rngE (.mp 1) (.arr 7 [zM] true false :: .map (kvT fI c)::o2::g) (.arr 7 [zM] true false :: .map (kvT fI c)::o2::g:Hp).length) (.arr 7 [zM] true false :: .map (kvT fI c)::o2::g) k=k (.it (g.length+3)) (.arr 7 [zM] true false :: .map (kvT fI c)::o2::(g++[.iter 1 c.length []])):=λo2 k=>by
    have:(kvT fI c).length=c.length:=by simp[kvT]
    simp[rngE,effK,ap,this]
   simp -implicitDefEqProofs only[e1,Bool.false_eq_true,if_false,rg]
   refine of_L5 (d:=⟨d0,d1,d2,d3,d4,d5,d6⟩) (c:=c) (λhc z t => ?_) (λhc z z2 t => ?_) NN [] _ ?_ (by simp) ?_
   ·simp -implicitDefEqProofs only[ZbM,Z03,Bool.false_xor,Z00,encDo,Z04,Nat.zero_add,Z18,ZbL,ZjE,lw7_2,ew7_0,lw7_0,endF,h1,if_false,hc,Bool.false_eq_true]
    by_cases h2:an=0
    ·subst h2;rfl
    ·have e2:(an==0)=false:=by simpa using h2
     simp only[e2,h2,if_false,Bool.false_eq_true];cases en<;>rfl
   ·simp -implicitDefEqProofs only[encDo,confD,lw7_0,endF,h1,if_false,hc,if_true]
    rfl
   ·have:=List.length_filter_le (λj => !([]:List Nat).contains j) (List.range c.length)
    rw[List.length_range] at this;have hN:=NN_ge
    unfold leftIt;simp only at hcl
    omega
   ·exact get3
end Go.AM


namespace Go.AM
open Go.Proofs
def ofk(mv k:Int)(l:List Msg):List Msg:=l.filter λm=>m.mv==mv&&m.kind==k
theorem Z06(mv k:Int)(l:List Msg)(m:Msg):ofk mv k (l++[m])=if m.mv=mv∧m.kind=k then ofk mv k l++[m] else ofk mv k l:=by
 unfold ofk;rw[List.filter_append]
 by_cases h:m.mv=mv∧m.kind=k
 ·simp[h]
 ·rw[if_neg h]
  have:(m.mv==mv&&m.kind==k)=false:=by
   rw[Bool.eq_false_iff];intro q;simp at q;exact h q
  simp[this]
theorem ZeC{mv k:Int}{l:List Msg}{m:Msg}:m ∈ ofk mv k l↔m ∈ l∧m.mv=mv∧m.kind=k:=by unfold ofk;simp
def docS(mv:Int)(l:List Msg):Docu:=
 match (ofk mv 1 l).getLast? with
 | none=>noneD mv
 | some d=>
  if 1<(ofk mv 1 l).length∨1<(ofk mv 3 l).length+(ofk mv 4 l).length∨¬((ofk mv 2 l).map (·.num)).Nodup then confD mv
  else ⟨mv,if ofk mv 3 l=[]∧ofk mv 4 l=[] then 1 else if ofk mv 5 l≠[] then 4 else if ofk mv 4 l=[] then 2 else 3,d.frm,match (ofk mv 2 l).getLast? with | some c=>c.to | none=>d.to,d.alc,(((ofk mv 3 l).getLast?).map (·.alc)).getD 0,(ofk mv 2 l).length⟩
theorem Z5E{m:Msg}(h:checkM m=0):1≤m.kind∧m.kind≤5∧1≤m.mv∧m.mv≤1073741824∧formM m=true:=by
 unfold checkM at h;split at h
 ·simp at h
 ·rename_i hr
  split at h
  ·rename_i hf
   simp[rangeM] at hr;exact ⟨by omega,by omega,by omega,by omega,hf⟩
  ·simp at h
theorem ZgD{m:Msg}(h:checkM m=0):m.kind=1∨m.kind=3∨m.kind=4∨m.kind=5→m.num=0:=by
 obtain ⟨-,-,-,-,hf⟩:=Z5E h;rintro (k | k | k | k)<;>simp[formM,k] at hf<;>simp_all
theorem ZeD{a b:Msg}(h:ltM a b=true):a.mv≤b.mv∧(a.mv=b.mv→a.kind≤b.kind∧(a.kind=b.kind→a.num≤b.num)):=by
 unfold ltM cellsM at h;simp only[Z6b,Bool.or_eq_true,Bool.and_eq_true,decide_eq_true_eq] at h
 omega
def partM(m:Msg):Option (Int × Int):=if m.kind=5 then none else if m.kind=4 then some (3,m.num) else some (m.kind,m.num)
abbrev keysD{α:Type}(c:List ((Int × Int) × α)):Prop:=c.Pairwise λa b=>a.1≠b.1
theorem Zmx{α:Type}:∀{c:List ((Int × Int) × α)}{p:Int × Int}{x:α}{e:(Int × Int) × α},e ∈ updT c p x→e=(p,x)∨e ∈ c
 | [],p,x,e,h=>by simp[updT] at h;exact .inl h
 | (q,y)::c,p,x,e,h=>by
  simp only[updT] at h;split at h
  ·rcases List.mem_cons.1 h with h | h
   ·exact .inl h
   ·exact .inr (by simp[h])
  ·rcases List.mem_cons.1 h with h | h
   ·exact .inr (by simp[h])
   ·rcases Zmx h with h | h
    ·exact .inl h
    ·exact .inr (by simp[h])
theorem Zmy{α:Type}:∀{c:List ((Int × Int) × α)}(p:Int × Int)(x:α),keysD c→keysD (updT c p x)
 | [],p,x,h=>by simp[updT]
 | (q,y)::c,p,x,h=>by
  rw[keysD,List.pairwise_cons] at h;simp only[updT]
  split
  ·rename_i e
   subst e;rw[keysD,List.pairwise_cons]
   exact h
  ·rename_i e
   rw[keysD,List.pairwise_cons];refine ⟨λz hz => ?_,Zmy p x h.2⟩
   rcases Zmx hz with rfl | hz
   ·exact λq=>e q.symm
   ·exact h.1 z hz
theorem Zmz{α:Type}:∀{c:List ((Int × Int) × α)}{e:(Int × Int) × α},keysD c→e ∈ c→(fndT c e.1).map (·.2)=some e.2
 | [],e,_,h=>by simp at h
 | (q,y)::c,e,hk,h=>by
  rw[keysD,List.pairwise_cons] at hk;rcases List.mem_cons.1 h with rfl | h
  ·simp[fndT]
  ·have:¬e.1=q:=λq=>hk.1 e h q.symm
   simp only[fndT,if_neg this,Option.map_map];have ih:=Zmz hk.2 h
   rw[← ih]
   rfl
theorem ZCD(c:List ((Int × Int) × Int))(p q:Int × Int):cntP (bumpP c p) q=if q=p then IntKind.i64.wrap (cntP c p+1) else cntP c q:=by
 unfold cntP bumpP;rw[Zm0]
 split<;>rfl
theorem ZCE{c:List ((Int × Int) × Int)}(hk:keysD c):(c.any λe=>decide (1<e.2))=true↔∃p,1<cntP c p:=by
 rw[List.any_eq_true]
 constructor
 ·rintro ⟨e,he,h⟩
  refine ⟨e.1, ?_⟩;unfold cntP;rw[Zmz hk he];simpa using h
 ·rintro ⟨p,h⟩
  unfold cntP at h;cases hf:fndT c p with
  | none=>rw[hf] at h;simp at h
  | some r=>
   obtain ⟨j,x⟩:=r;rw[hf] at h;exact ⟨(p,x),List.mem_of_getElem? (Zgn hf).1,by simpa using h⟩
structure InF(mv:Int)(l:List Msg)(s:Fol):Prop where
 mve:s.d.mv=mv
 stage:s.d.stage=if ofk mv 1 l=[] then 0 else 1
 frm:s.d.frm=(((ofk mv 1 l).getLast?).map (·.frm)).getD 0
 sent:s.d.sent=(((ofk mv 1 l).getLast?).map (·.alc)).getD 0
 to:s.d.to=match (ofk mv 2 l).getLast? with | some c=>c.to | none=>(((ofk mv 1 l).getLast?).map (·.to)).getD 0
 got:s.d.got=(((ofk mv 3 l).getLast?).map (·.alc)).getD 0
 chg:s.d.chg=(ofk mv 2 l).length
 en:s.en = !(ofk mv 5 l).isEmpty
 an:s.an=if ofk mv 4 l≠[] then 3 else if ofk mv 3 l≠[] then 2 else 0
 cnt:∀p,cntP s.cnt p=(l.countP λm=>m.mv==mv&&partM m==some p:Nat)
 keys:keysD s.cnt
theorem ZeE(mv k:Int)(l:List Msg):(ofk mv k l).length≤l.length:=List.length_filter_le _ _
theorem InF.step{mv:Int}{l:List Msg}{s:Fol}{m:Msg}(H:InF mv l s)(hs:Srt (l++[m]))(hm:checkM m=0)(hl:l.length<1000000):InF mv (l++[m]) (stepF mv s m):=by
 obtain ⟨k0,k5,-⟩:=Z5E hm
 have hlt:∀x ∈ l,ltM x m=true:=λx hx=>by
  rw[Srt,List.pairwise_append] at hs;exact hs.2.2 x hx m (by simp)
 by_cases hmv:m.mv=mv
 ·have noK:∀k,m.kind<k→ofk mv k l=[]:=λk hk=>by
   rw[List.eq_nil_iff_forall_not_mem];intro x hx
   obtain ⟨h1,h2,h3⟩:=ZeC.1 hx;have:=ZeD (hlt x h1);have h4:=this.2 (by omega)
   omega
  have wr:IntKind.i64.wrap (((ofk mv 2 l).length:Int)+1)=(((ofk mv 2 l).length+1:Nat):Int):=by
   have:=ZeE mv 2 l
   rw[wrap64 (by omega) (by omega)];rfl
  have cn:∀(p q:Int × Int)(b:Bool),((partM m==some q)=b)→cntP s.cnt q=(l.countP λm=>m.mv==mv&&partM m==some q:Nat)→(((l++[m]).countP λm=>m.mv==mv&&partM m==some q:Nat):Int)=cntP s.cnt q+if b=true then 1 else 0:=by
   intro p q b hb hc;rw[List.countP_append,hc]
   simp[hmv,hb];cases b<;>rfl
  have wc:∀q,IntKind.i64.wrap (cntP s.cnt q+1)=cntP s.cnt q+1:=λq=>by
   have h1:=H.cnt q;have h2:=List.countP_le_length (p:=λm:Msg=>m.mv==mv&&partM m==some q) (l:=l)
   rw[wrap64 (by omega) (by omega)]
  have cb:∀p,partM m=some p→∀q,cntP (bumpP s.cnt p) q=((l++[m]).countP λm=>m.mv==mv&&partM m==some q:Nat):=λp hp q=>by
   rw[ZCD];by_cases e:q=p
   ·subst e
    rw[if_pos rfl,wc,cn q q true (by simp[hp]) (H.cnt q)];simp
   ·rw[if_neg e,cn p q false (by simp[hp];exact λh=>e h.symm) (H.cnt q)];simp
  have kb:∀p,keysD (bumpP s.cnt p):=λp=>Zmy p _ H.keys
  have hk:m.kind=1∨m.kind=2∨m.kind=3∨m.kind=4∨m.kind=5:=by omega
  rcases hk with k | k | k | k | k
  ·have e2:=noK 2 (by omega)
   have st:stepF mv s m={ s with d:={ s.d with stage:=1,frm:=m.frm,to:=m.to,sent:=m.alc },cnt:=bumpP s.cnt (m.kind,m.num) }:=by simp[stepF,hmv,k]
   rw[st];exact ⟨H.mve,by simp[Z06,hmv,k],by simp[Z06,hmv,k],by simp[Z06,hmv,k],by simp[Z06,hmv,k,e2],by simp[Z06,hmv,k,H.got],by simp[Z06,hmv,k,H.chg],by simp[Z06,hmv,k,H.en],by simp[Z06,hmv,k,H.an],cb _ (by simp[partM,k]),kb _⟩
  ·have st:stepF mv s m={ s with d:={ s.d with to:=m.to,chg:=IntKind.i64.wrap (s.d.chg+1) },cnt:=bumpP s.cnt (m.kind,m.num) }:=by simp[stepF,hmv,k]
   rw[st];exact ⟨H.mve,by simp[Z06,hmv,k,H.stage],by simp[Z06,hmv,k,H.frm],by simp[Z06,hmv,k,H.sent],by simp[Z06,hmv,k],by simp[Z06,hmv,k,H.got],by simp[Z06,hmv,k,H.chg,wr],by simp[Z06,hmv,k,H.en],by simp[Z06,hmv,k,H.an],cb _ (by simp[partM,k]),kb _⟩
  ·have e4:=noK 4 (by omega)
   have st:stepF mv s m={ s with d:={ s.d with got:=m.alc },an:=2,cnt:=bumpP s.cnt (m.kind,m.num) }:=by simp[stepF,hmv,k]
   rw[st];exact ⟨H.mve,by simp[Z06,hmv,k,H.stage],by simp[Z06,hmv,k,H.frm],by simp[Z06,hmv,k,H.sent],by simp[Z06,hmv,k,H.to],by simp[Z06,hmv,k],by simp[Z06,hmv,k,H.chg],by simp[Z06,hmv,k,H.en],by simp[Z06,hmv,k,e4],cb _ (by simp[partM,k]),kb _⟩
  ·have st:stepF mv s m={ s with an:=3,cnt:=bumpP s.cnt (3,m.num) }:=by simp[stepF,hmv,k]
   rw[st];exact ⟨H.mve,by simp[Z06,hmv,k,H.stage],by simp[Z06,hmv,k,H.frm],by simp[Z06,hmv,k,H.sent],by simp[Z06,hmv,k,H.to],by simp[Z06,hmv,k,H.got],by simp[Z06,hmv,k,H.chg],by simp[Z06,hmv,k,H.en],by simp[Z06,hmv,k],cb _ (by simp[partM,k]),kb _⟩
  ·have st:stepF mv s m={ s with en:=true }:=by simp[stepF,hmv,k]
   rw[st];exact ⟨H.mve,by simp[Z06,hmv,k,H.stage],by simp[Z06,hmv,k,H.frm],by simp[Z06,hmv,k,H.sent],by simp[Z06,hmv,k,H.to],by simp[Z06,hmv,k,H.got],by simp[Z06,hmv,k,H.chg],by simp[Z06,hmv,k],by simp[Z06,hmv,k,H.an],λq=>by rw[cn q q false (by simp[partM,k]) (H.cnt q)];simp,H.keys⟩
 ·have st:stepF mv s m=s:=by simp[stepF,hmv]
  have ek:∀k,ofk mv k (l++[m])=ofk mv k l:=λk=>by rw[Z06,if_neg (by simp[hmv])]
  rw[st];exact ⟨H.mve,by rw[ek];exact H.stage,by rw[ek];exact H.frm,by rw[ek];exact H.sent,by rw[ek,ek];exact H.to,by rw[ek];exact H.got,by rw[ek];exact H.chg,by rw[ek];exact H.en,by rw[ek,ek];exact H.an,λp=>by rw[List.countP_append,H.cnt p];simp[hmv],H.keys⟩
theorem InF.beg(mv:Int):InF mv [] (begF mv):=⟨rfl,rfl,rfl,rfl,rfl,rfl,rfl,rfl,rfl,λp=>rfl,.nil⟩
theorem InF.all{mv:Int}{l:List Msg}(hs:Srt l)(hv:∀m ∈ l,checkM m=0)(hl:l.length<1000000):∀i,i≤l.length→InF mv (l.take i) (folF mv (l.take i))
 | 0,_=>by rw[List.take_zero];exact InF.beg mv
 | i+1,hi=>by
  have ih:=InF.all (mv:=mv) hs hv hl i (by omega)
  have hx:l[i]? = some l[i]:=List.getElem?_eq_getElem (by omega)
  have ht:=Z79 hx
  have:folF mv (l.take (i+1))=stepF mv (folF mv (l.take i)) l[i]:=by
   unfold folF;rw[ht,List.foldl_append];rfl
  rw[this,ht];refine ih.step ?_ (hv _ (List.getElem_mem _)) (by simp;omega)
  rw[← ht];exact hs.sublist (List.take_sublist _ _)
theorem ZCF{mv:Int}{l:List Msg}(hv:∀m ∈ l,checkM m=0):(∃p,1<(l.countP λm=>m.mv==mv&&partM m==some p))↔(1<(ofk mv 1 l).length∨1<(ofk mv 3 l).length+(ofk mv 4 l).length∨¬((ofk mv 2 l).map (·.num)).Nodup):=by
 have h1:(l.countP λm=>m.mv==mv&&partM m==some (1,0))=(ofk mv 1 l).length:=by
  unfold ofk;rw[← List.countP_eq_length_filter]
  refine List.countP_congr λm hm => ?_
  have hk:=Z5E (hv m hm);have hn:=ZgD (hv m hm);simp only[Bool.and_eq_true,beq_iff_eq,partM]
  constructor
  ·rintro ⟨a,b⟩
   refine ⟨a, ?_⟩;split at b
   ·simp at b
   ·split at b
    ·simp at b
    ·simp at b;exact b.1
  ·rintro ⟨a,b⟩
   exact ⟨a,by simp[b,hn (.inl b)]⟩
 have h3:(l.countP λm=>m.mv==mv&&partM m==some (3,0))=(ofk mv 3 l).length+(ofk mv 4 l).length:=by
  unfold ofk;rw[← List.countP_eq_length_filter, ← List.countP_eq_length_filter]
  clear h1;induction l with
  | nil=>rfl
  | cons m l ih=>
   have ih:=ih λx hx=>hv x (by simp[hx])
   have hn:=ZgD (hv m (by simp))
   simp only[List.countP_cons,ih];by_cases hmv:m.mv=mv
   ·by_cases q5:m.kind=5
    ·simp[partM,hmv,q5]
    ·by_cases q4:m.kind=4
     ·simp[partM,hmv,q4,hn (.inr (.inr (.inl q4)))];omega
     ·by_cases q3:m.kind=3
      ·simp[partM,hmv,q3,hn (.inr (.inl q3))];omega
      ·simp[partM,hmv,q5,q4,q3]
   ·simp[hmv]
 have h2:∀j,(l.countP λm=>m.mv==mv&&partM m==some (2,j))=((ofk mv 2 l).map (·.num)).count j:=by
  intro j;clear h1 h3
  rw[List.count_eq_countP,List.countP_map];unfold ofk
  rw[List.countP_filter];refine List.countP_congr λm hm => ?_
  simp only[Bool.and_eq_true,beq_iff_eq,partM,Function.comp]
  constructor
  ·rintro ⟨a,b⟩
   split at b
   ·simp at b
   ·split at b
    ·simp at b
    ·simp at b;exact ⟨b.2,a,b.1⟩
  ·rintro ⟨a,b,c⟩
   exact ⟨b,by simp[c,a]⟩
 constructor
 ·rintro ⟨⟨a,b⟩,h⟩
  -- the key is one of these
  obtain ⟨m,hm,hp⟩:=List.countP_pos_iff.1 (by omega:0<l.countP λm=>m.mv==mv&&partM m==some (a,b))
  simp only[Bool.and_eq_true,beq_iff_eq] at hp;have hk:=Z5E (hv m hm)
  have hn:=ZgD (hv m hm);have hpp:=hp.2;unfold partM at hpp;split at hpp
  ·simp at hpp
  ·split at hpp
   ·rename_i q5 q4
    simp at hpp
    obtain ⟨rfl,rfl⟩:=hpp;rw[hn (.inr (.inr (.inl q4))),h3] at h;exact .inr (.inl h)
   ·rename_i q5 q4
    simp at hpp
    obtain ⟨rfl,rfl⟩:=hpp;have:m.kind=1∨m.kind=2∨m.kind=3:=by omega
    rcases this with k | k | k
    ·rw[k,hn (.inl k),h1] at h;exact .inl h
    ·rw[k,h2] at h
     refine .inr (.inr λhnd => ?_)
     rw[List.nodup_iff_count] at hnd;have:=hnd m.num
     omega
    ·rw[k,hn (.inr (.inl k)),h3] at h;exact .inr (.inl h)
 ·rintro (h | h | h)
  ·exact ⟨(1,0),by rw[h1];exact h⟩
  ·exact ⟨(3,0),by rw[h3];exact h⟩
  ·rw[List.nodup_iff_count] at h
   simp only[Classical.not_forall] at h;obtain ⟨j,hj⟩:=h
   exact ⟨(2,j),by rw[h2];omega⟩
theorem ZCG{mv:Int}{l:List Msg}(hs:Srt l)(hv:∀m ∈ l,checkM m=0)(hl:l.length<1000000):docF mv l=docS mv l:=by
 have H:=InF.all (mv:=mv) hs hv hl l.length (Nat.le_refl _);rw[List.take_length] at H;unfold docF;generalize folF mv l=s at *;unfold endF docS;cases hd:(ofk mv 1 l).getLast? with
 | none=>
  have h0:ofk mv 1 l=[]:=List.getLast?_eq_none_iff.1 hd;rw[if_pos (by rw[H.stage,if_pos h0])]
 | some d=>
  have h0:ofk mv 1 l≠[]:=λe=>by rw[e] at hd;simp at hd
  have hst:s.d.stage=1:=by rw[H.stage,if_neg h0]
  rw[if_neg (by rw[hst];decide)]
  simp only[]
  have hc:(s.cnt.any λe=>decide (1<e.2))=true↔(1<(ofk mv 1 l).length∨1<(ofk mv 3 l).length+(ofk mv 4 l).length∨¬((ofk mv 2 l).map (·.num)).Nodup):=by
   rw[ZCE H.keys, ← ZCF hv]
   constructor
   ·rintro ⟨p,h⟩;rw[H.cnt] at h;exact ⟨p,by omega⟩
   ·rintro ⟨p,h⟩;exact ⟨p,by rw[H.cnt];omega⟩
  by_cases hcc:(s.cnt.any λe=>decide (1<e.2))=true
  ·rw[if_pos hcc,if_pos (hc.1 hcc)]
  ·rw[if_neg hcc,if_neg λh=>hcc (hc.2 h)]
   obtain ⟨⟨d0,d1,d2,d3,d4,d5,d6⟩,en,an,c⟩:=s;obtain ⟨q1,q2,q3,q4,q5,q6,q7,q8,q9,-,-⟩:=H;simp only at q1 q2 q3 q4 q5 q6 q7 q8 q9 hst;rw[hd] at q3 q4 q5;subst q1 q3 q4 q6 q7 q8 q9 hst;simp only[Option.map_some,Option.getD_some] at q5 ⊢
   subst q5;by_cases r3:ofk d0 3 l=[]
   ·by_cases r4:ofk d0 4 l=[]
    ·simp[r3,r4]
    ·by_cases r5:ofk d0 5 l=[]
     ·simp[r3,r4,r5]
     ·simp[r3,r4,r5]
   ·by_cases r4:ofk d0 4 l=[]
    ·by_cases r5:ofk d0 5 l=[]
     ·simp[r3,r4,r5]
     ·simp[r3,r4,r5]
    ·by_cases r5:ofk d0 5 l=[]
     ·simp[r3,r4,r5]
     ·simp[r3,r4,r5]
end Go.AM


namespace Go.AM
open Go.Proofs
attribute [local congr] Z0i Z0j Z0k Z0l Z0m Z0n Z0o Z0p Z0q Z0r Z0s Z0t Z0u Z0v Z0w Z0x Z0y Z0z Z0A Z0B Z0C Z0D Z0E Z0F Z0G Z0H Z0I
structure Frs where
 d:Docu
 dis:Int
 ans:Int
 en:Int
 cf:Bool
 rf:Bool
def stepR(mv:Int)(p:Msg)(s:Frs)(m:Msg):Frs:=
 if m.mv≠mv then s
 else if m.kind=1 then { s with d:={ s.d with frm:=m.frm,to:=m.to,sent:=m.alc },dis:=IntKind.i64.wrap (s.dis+1) }
 else if m.kind=2 then { s with d:={ s.d with to:=m.to,chg:=IntKind.i64.wrap (s.d.chg+1) },cf:=s.cf||(p.mv==mv&&p.kind==m.kind&&p.num==m.num) }
 else if m.kind=3 then { s with d:={ s.d with got:=m.alc },ans:=IntKind.i64.wrap (s.ans+1) }
 else if m.kind=4 then { s with ans:=IntKind.i64.wrap (s.ans+1),rf:=true }
 else { s with en:=IntKind.i64.wrap (s.en+1) }
def foldR(mv:Int):Msg→Frs→List Msg→Frs
 | _,s,[]=>s
 | p,s,m::l=>foldR mv m (stepR mv p s m) l
def begR(mv:Int):Frs:=⟨noneD mv,0,0,0,false,false⟩
def endR(mv:Int)(s:Frs):Docu:=
 if s.dis=0 then noneD mv
 else if (s.cf||decide (1<s.dis)||decide (1<s.ans))=true then confD mv
 else if s.ans=1 then (if 0<s.en then { s.d with stage:=4 } else if s.rf=true then { s.d with stage:=3 } else { s.d with stage:=2 })
 else { s.d with stage:=1 }
def zeroM:Msg:=⟨0,0,0,0,0,0,0⟩
section
variable {β:Type}
theorem get2{o0 o1 x:AObj}{g t:Hp}:(o0::o1::(g++x::t))[g.length+2]? = some x:=by
 simp[List.getElem?_append_right]
theorem set2{o0 o1 x z:AObj}{g t:Hp}:(o0::o1::(g++x::t)).set (g.length+2) z=o0::o1::(g++z::t):=by
 simp[List.set_append_right]
variable {o0 o1:AObj} {g t:Hp} {m:Msg}
theorem mq(j:Nat)(k:Go.AM.K β){x:AV}(hx:(encM m)[j]? = some x):ldK 1 false (.ptr (g.length+2) 0 j 1) (o0::o1::(g ++ .arr 7 [encM m] true false::t)) k=k x:=by
 rw[Z01,get2];simp[hx]
theorem mq0(k:Go.AM.K β):ldK 1 false (.ptr (g.length+2) 0 0 1) (o0::o1::(g ++ .arr 7 [encM m] true false::t)) k=k (I m.mv):=mq 0 k rfl
theorem mq1(k:Go.AM.K β):ldK 1 false (.ptr (g.length+2) 0 1 1) (o0::o1::(g ++ .arr 7 [encM m] true false::t)) k=k (I m.kind):=mq 1 k rfl
theorem mq2(k:Go.AM.K β):ldK 1 false (.ptr (g.length+2) 0 2 1) (o0::o1::(g ++ .arr 7 [encM m] true false::t)) k=k (I m.num):=mq 2 k rfl
theorem mq4(k:Go.AM.K β):ldK 1 false (.ptr (g.length+2) 0 4 1) (o0::o1::(g ++ .arr 7 [encM m] true false::t)) k=k (I m.frm):=mq 4 k rfl
theorem mq5(k:Go.AM.K β):ldK 1 false (.ptr (g.length+2) 0 5 1) (o0::o1::(g ++ .arr 7 [encM m] true false::t)) k=k (I m.to):=mq 5 k rfl
theorem mq6(k:Go.AM.K β):ldK 1 false (.ptr (g.length+2) 0 6 1) (o0::o1::(g ++ .arr 7 [encM m] true false::t)) k=k (I m.alc):=mq 6 k rfl
theorem br7(k:Kb β):effK (boxE 7 (.agg zM) (o0::o1::g).length) (o0::o1::g) k=k (.ptr (g.length+2) 0 0 1) (o0::o1::(g++[.arr 7 [zM] true false])):=by
 exact (Z2F 7 (o0::o1::g).length (.agg zM) _ k rfl rfl rfl).trans rfl
theorem sr7(k:Kb β):effK (stE 7 (.ptr (g.length+2) 0 0 1) (.agg (encM m)) (o0::o1::(g++[.arr 7 [zM] true false]))) (o0::o1::(g++[.arr 7 [zM] true false])) k=k .u (o0::o1::(g++[.arr 7 [encM m] true false])):=by
 rw[Z0N (v := .u) (id:=g.length+2) (o := .arr 7 [encM m] true false) (ft:=[g.length+2]) (by rw[Z0f,get2];simp[encM]),set2]
theorem le0(h:Hp)(k:Go.AM.K β):ldK 1 false (.ep (encM m) 0) h k=k (I m.mv):=rfl
theorem le1(h:Hp)(k:Go.AM.K β):ldK 1 false (.ep (encM m) 1) h k=k (I m.kind):=rfl
theorem le2(h:Hp)(k:Go.AM.K β):ldK 1 false (.ep (encM m) 2) h k=k (I m.num):=rfl
end
theorem ZCH{β:Type}{T:Tab}{D:DTab}{N:Nat}{xn:AV→AV→AV→AV→AV→AV→AV→AV→AV→Kb β}{x0:AV→AV→AV→AV→AV→AV→AV→Kb β}{l:List Msg}{b:Bool}{i:Nat}{m p:Msg}{mv:Int}{s:Frs}{o0:AObj}{g:Hp}(hl:l.length<1000000)(hi:l[i+1]? = some m)(hp:l[i]? = some p):
  ∃g',Z3x Tryz.prog T D N xn x0 (.lst 7 b (l.map encM)) (I mv) (.ptr 0 0 0 1) (.ptr 1 0 0 1) (I s.dis) (I s.ans) (I s.en) (B s.cf) (B s.rf) (I ((i+1:Nat):Int)) (o0 :: .arr 7 [encDo s.d] true false::g) =
   xn (.lst 7 b (l.map encM)) (I mv) (.ptr 0 0 0 1) (.ptr 1 0 0 1) (I (stepR mv p s m).dis) (I (stepR mv p s m).ans) (I (stepR mv p s m).en) (B (stepR mv p s m).cf) (B (stepR mv p s m).rf) (I ((i+2:Nat):Int)) (o0 :: .arr 7 [encDo (stepR mv p s m).d] true false::g'):=by
 have hil:i+1<l.length:=(List.getElem?_eq_some_iff.1 hi).1;have c1:(((i+1:Nat):Int)<(l.length:Int)):=by omega
 have hw:IntKind.i64.wrap (((i+1:Nat):Int)+1)=((i+2:Nat):Int):=by rw[wrap64 (by omega) (by omega)];omega
 have hw1:IntKind.i64.wrap (((i+1:Nat):Int)-1)=((i:Nat):Int):=by rw[wrap64 (by omega) (by omega)];omega
 have ic:∀k:Go.AM.K β,iaK 7 (.lst 7 b (l.map encM)) (I ((i+1:Nat):Int)) k=k (.ep (encM m) 0):=λk=>Z0M (i+1) rfl hi k
 have ip:∀k:Go.AM.K β,iaK 7 (.lst 7 b (l.map encM)) (I ((i:Nat):Int)) k=k (.ep (encM p) 0):=λk=>Z0M i rfl hp k
 have ld:∀(h:Hp)(k:Go.AM.K β),ldK 7 true (.ep (encM m) 0) h k=k (.agg (encM m)):=λh k=>rfl
 obtain ⟨⟨d0,d1,d2,d3,d4,d5,d6⟩,dis,ans,en,cf,rf⟩:=s;simp only[encDo];refine ⟨g++[.arr 7 [encM m] true false], ?_⟩;by_cases hm:m.mv=mv
 ·have em:(m.mv==mv)=true:=by simpa using hm
  have en':¬(m.mv≠mv):=by simpa using hm
  simp -implicitDefEqProofs only[Z3x,Z07,List.length_map,Z05,c1,decide_true,Z00,if_true,ic,ld,br7,sr7,Z04,Nat.zero_add,mq0,Z03,em,Bool.true_xor,Bool.false_xor,Bool.not_true,Bool.false_eq_true,if_false,mq1]
  by_cases k1:m.kind=1
  ·have q1:(m.kind==1)=true:=by simpa using k1
   have dj:disjAll [(3,7),(5,7),(5,9)] [([],[]),(idsOf (AV.ptr (g.length+2) 0 4 1),[]),([],[]),(idsOf (AV.ptr (g.length+2) 0 5 1),[]),([],[]),(idsOf (AV.ptr (g.length+2) 0 6 1),[]),([],[]),([1],[1]),([],[]),([1],[1]),([],[]),([1],[1])]=true:=by simp[disjAll,disj2,idsOf]
   simp -implicitDefEqProofs only[q1,if_true,Z0e,mq4,mq5,mq6,Z04,Nat.zero_add,Z1c,Z1d,Z1e,Z1f,Z14,Z1g,Z1h,Z1i,Z1j,Z1k,Z1l,Z1m,Z1n,Z1o,Z1p,Z1q,Z1r,Z1s,Z1t,Z1u,Z1v,dj,cond_true,Z3g,Z3w,Z49,hw]
   simp[stepR,hm,k1]
  have q1:(m.kind==1)=false:=by simpa using k1
  by_cases k2:m.kind=2
  ·have q2:(m.kind==2)=true:=by simpa using k2
   have dj:disjAll [(4,6)] [([],[]),(idsOf (AV.ptr 1 0 6 1),[]),([],[]),([],[]),(idsOf (AV.ptr (g.length+2) 0 5 1),[]),([],[]),([1],[1]),([],[]),([1],[1])]=true:=by simp[disjAll,disj2,idsOf]
   simp -implicitDefEqProofs only[q1,q2,Bool.false_eq_true,if_false,if_true,Z0e,Z1U,mq5,mq1,mq2,Z04,Z11,Nat.zero_add,Z1c,Z1d,Z1e,Z1f,Z14,Z1g,Z1h,Z1i,Z1j,Z1k,Z1l,Z1m,Z1n,Z1o,Z1p,Z1q,Z1r,Z1s,Z1t,Z1u,Z1v,dj,cond_true,hw1,ip,le0,le1,le2,Z03,Bool.false_xor,Z0Q,Z0J,Z3g,Z3w,Z49,hw]
   simp[stepR,hm,k1,k2]
  have q2:(m.kind==2)=false:=by simpa using k2
  by_cases k3:m.kind=3
  ·have q3:(m.kind==3)=true:=by simpa using k3
   simp -implicitDefEqProofs only[q1,q2,q3,Bool.false_eq_true,if_false,if_true,Z0e,mq6,Z04,Nat.zero_add,Z1c,Z1d,Z1e,Z1f,Z14,Z1g,Z1h,Z1i,Z1j,Z1k,Z1l,Z1m,Z1n,Z1o,Z1p,Z1q,Z1r,Z1s,Z1t,Z1u,Z1v,Z3g,Z3w,Z49,hw]
   simp[stepR,hm,k1,k2,k3]
  have q3:(m.kind==3)=false:=by simpa using k3
  by_cases k4:m.kind=4
  ·have q4:(m.kind==4)=true:=by simpa using k4
   simp -implicitDefEqProofs only[q1,q2,q3,q4,Bool.false_eq_true,if_false,if_true,Z0e,Z3g,Z3w,Z49,hw]
   simp[stepR,hm,k1,k2,k3,k4]
  have q4:(m.kind==4)=false:=by simpa using k4
  simp -implicitDefEqProofs only[q1,q2,q3,q4,Bool.false_eq_true,if_false,if_true,Z0e,Z3g,Z3w,Z49,hw]
  simp[stepR,hm,k1,k2,k3,k4]
 ·have em:(m.mv==mv)=false:=by simpa using hm
  simp -implicitDefEqProofs only[Z3x,Z07,List.length_map,Z05,c1,decide_true,Z00,if_true,ic,ld,br7,sr7,Z04,Nat.zero_add,mq0,Z03,em,Bool.true_xor,Bool.not_false,Z3w,Z49,Z0e,hw]
  simp[stepR,hm]
theorem ZCI{β:Type}{T:Tab}{D:DTab}{N:Nat}{x0:AV→AV→AV→AV→AV→AV→AV→Kb β}{X:Option β}{l:List Msg}{b:Bool}{mv:Int}{o0:AObj}(hl:l.length<1000000):∀(n i:Nat)(post:List Msg)(p:Msg)(s:Frs)(g:Hp),l.drop (i+1)=post→l[i]? = some p→l.length<i+1+n→
  (∀g,x0 (I mv) (.ptr 0 0 0 1) (.ptr 1 0 0 1) (I (foldR mv p s post).dis) (I (foldR mv p s post).ans) (I (foldR mv p s post).en) (B (foldR mv p s post).cf) (B (foldR mv p s post).rf) (o0 :: .arr 7 [encDo (foldR mv p s post).d] true false::g)=X)→
  Z4a Tryz.prog T D N x0 n (.lst 7 b (l.map encM)) (I mv) (.ptr 0 0 0 1) (.ptr 1 0 0 1) (I s.dis) (I s.ans) (I s.en) (B s.cf) (B s.rf) (I ((i+1:Nat):Int)) (o0 :: .arr 7 [encDo s.d] true false::g)=X:=by
 intro n;induction n with
 | zero=>intro i post p s g _ h2 h3;have:=(List.getElem?_eq_some_iff.1 h2).1;omega
 | succ n ih=>
  intro i post p s g hd hp hn hx;have hil:=(List.getElem?_eq_some_iff.1 hp).1
  show Z3x Tryz.prog T D N (Z4a Tryz.prog T D N x0 n) x0 _ _ _ _ _ _ _ _ _ _ _=_;cases post with
  | nil=>
   have:i+1=l.length:=by
    have:=congrArg List.length hd
    simp at this;omega
   have c1:¬(((i+1:Nat):Int)<(l.length:Int)):=by omega
   simp -implicitDefEqProofs only[Z3x,Z07,List.length_map,Z05,c1,decide_false,Z00,Bool.false_eq_true,if_false]
   exact hx g
  | cons m post=>
   have hm:l[i+1]? = some m:=by
    have:=congrArg (λq=>q[0]?) hd
    simpa using this
   obtain ⟨g',e⟩:=ZCH (T:=T) (D:=D) (N:=N) (xn:=Z4a Tryz.prog T D N x0 n) (x0:=x0) (b:=b) (mv:=mv) (s:=s) (o0:=o0) (g:=g) hl hm hp;rw[e];refine ih (i+1) post m (stepR mv p s m) g' ?_ hm (by omega) hx
   have:=congrArg (List.drop 1) hd
   simpa [List.drop_drop] using this
def docR(mv:Int)(l:List Msg):Docu:=endR mv (foldR mv zeroM (begR mv) l)
theorem ZCJ(l:List Msg)(b:Bool)(mv:Int)(hmv:mv≠0)(hl:l.length<900000)(h:Hp):Zae [.lst 7 b ((zeroM::l).map encM),I mv] h=some (.agg (encDo (docR mv l)),h):=by
 refine ZAm (v := .agg (encDo (docR mv l))) rfl ?_ h;simp only[nrm,nrmC];have b0:∀k:KV,buildK zM [(some (0,1),I mv)] k=k (.agg (encDo (noneD mv))):=λk=>rfl
 have b5:∀k:KV,buildK zM [(some (0,1),I mv),(some (1,1),I 5)] k=k (.agg (encDo (confD mv))):=λk=>rfl
 have ic:∀k:KV,iaK 7 (.lst 7 b ((zeroM::l).map encM)) (I 0) k=k (.ep (encM zeroM) 0):=λk=>Z0M 0 rfl rfl k
 have ld:∀(h:Hp)(k:KV),ldK 7 true (.ep (encM zeroM) 0) h k=k (.agg (encM zeroM)):=λh k=>rfl
 have em:((0:Int)==mv)=false:=by simpa using Ne.symm hmv
 obtain ⟨n,hn⟩:∃n,NN=n+1:=⟨NN-1,by have:=NN_ge;omega⟩
 have w1:IntKind.i64.wrap (0+1)=1:=by kernel_rfl
 have c1:((0:Int)<(((zeroM::l).length:Nat):Int)):=by simp
 simp -implicitDefEqProofs only[Z98,bx7_0,b0,bx7_1,encDo,noneD,ew7_1]
 have key:=ZCI (T:=Z5A) (D:=Z5z) (N:=NN) (x0:=λw129_1 w129_4 w129_5 w129_6 w129_7 w129_8 w129_9 w129_10 h=>Z97 Tryz.prog Z5A Z5z NN (λv g=>cvt false g v) w129_1 w129_4 w129_5 w129_6 w129_7 w129_8 w129_9 w129_10 h) (X:=some (AV.agg (encDo (docR mv l)))) (l:=zeroM::l) (b:=b) (mv:=mv) (o0 := .arr 7 [zM] true false) (by simp;omega) n 0 l zeroM (begR mv) [.arr 7 [encM zeroM] true false] rfl rfl (by have:=NN_ge;simp;omega) ?_
 ·rw[hn]
  rw[hn] at key;refine Eq.trans ?_ key
  show Z3x Tryz.prog Z5A Z5z (n+1) _ _ _ _ _ _ _ _ _ _ _ _ _=_;have sz:∀(o0 o1:AObj)(k:Kb AV),effK (stE 7 (.ptr 2 0 0 1) (.agg (encM zeroM)) [o0,o1,.arr 7 [zM] true false]) [o0,o1,.arr 7 [zM] true false] k=k .u [o0,o1,.arr 7 [encM zeroM] true false]:=λo0 o1 k=>ew7_2 k
  have l0:∀(o0 o1:AObj)(k:KV),ldK 1 false (.ptr 2 0 0 1) [o0,o1,.arr 7 [encM zeroM] true false] k=k (I 0):=λo0 o1 k=>rfl
  simp -implicitDefEqProofs only[Z3x,Z07,List.length_map,Z05,c1,decide_true,Z00,if_true,ic,ld,bx7_2,sz,Z04,Nat.zero_add,l0,Z03,em,Bool.true_xor,Bool.not_false,Z3w,Z49,Z0e,w1]
  rfl
 ·intro g
  unfold docR;generalize foldR mv zeroM (begR mv) l=s
  obtain ⟨⟨d0,d1,d2,d3,d4,d5,d6⟩,dis,ans,en,cf,rf⟩:=s;simp -implicitDefEqProofs only[Z97,Z03,Bool.false_xor,Z00,b0,b5,encDo,noneD,confD,ew7_0,lw7_0,Z0g,Z0J,Z04,Nat.zero_add,Z14,endR];by_cases h1:dis=0
  ·simp[h1]
  ·have e1:(dis==0)=false:=by simpa using h1
   simp only[e1,h1,if_false,Bool.false_eq_true];by_cases h2:(cf||decide (1<dis)||decide (1<ans))=true
   ·simp only[h2,if_true];rfl
   ·rw[if_neg h2,if_neg h2]
    by_cases h3:ans=1
    ·subst h3
     cases rf<;>by_cases h4:0<en<;>simp -implicitDefEqProofs only[beq_self_eq_true,if_true,ZfF,Z0g,h4,decide_true,decide_false,Z00,Bool.false_eq_true,if_false,Z04,Nat.zero_add,Z14,Z96,lw7_1,ew7_0,lw7_0]<;>rfl
    ·have e3:(ans==1)=false:=by simpa using h3
     simp -implicitDefEqProofs only[e3,h3,Bool.false_eq_true,if_false,Z96,lw7_1,ew7_0,lw7_0]
     rfl
end Go.AM


namespace Go.AM
open Go.Proofs
structure InR(mv:Int)(l:List Msg)(s:Frs):Prop where
 mve:s.d.mv=mv
 stage:s.d.stage=0
 frm:s.d.frm=(((ofk mv 1 l).getLast?).map (·.frm)).getD 0
 sent:s.d.sent=(((ofk mv 1 l).getLast?).map (·.alc)).getD 0
 to:s.d.to=match (ofk mv 2 l).getLast? with | some c=>c.to | none=>(((ofk mv 1 l).getLast?).map (·.to)).getD 0
 got:s.d.got=(((ofk mv 3 l).getLast?).map (·.alc)).getD 0
 chg:s.d.chg=(ofk mv 2 l).length
 dis:s.dis=(ofk mv 1 l).length
 ans:s.ans=((ofk mv 3 l).length+(ofk mv 4 l).length:Nat)
 en:s.en=(ofk mv 5 l).length
 rf:s.rf = !(ofk mv 4 l).isEmpty
 cf:s.cf=decide (¬((ofk mv 2 l).map (·.num)).Nodup)
theorem ZCK{l:List Msg}{m p x:Msg}(hs:Srt (l++[m]))(hp:(zeroM::l).getLast? = some p)(hx:x ∈ l):p ∈ l∧(x=p∨ltM x p=true):=by
 rcases List.eq_nil_or_concat l with rfl | ⟨l',q,rfl⟩
 ·simp at hx
 ·rw[List.concat_eq_append] at *
  have:p=q:=by rw[← List.cons_append,List.getLast?_append] at hp;simpa using hp.symm
  subst this;refine ⟨by simp, ?_⟩
  rcases List.mem_append.1 hx with hx | hx
  ·right
   rw[Srt,List.append_assoc,List.pairwise_append] at hs;exact hs.2.2 x hx p (by simp)
  ·simp at hx;exact .inl hx
theorem InR.step{mv:Int}{l:List Msg}{s:Frs}{m p:Msg}(H:InR mv l s)(hs:Srt (l++[m]))(hm:checkM m=0)(hp:(zeroM::l).getLast? = some p)(h0:mv≠0)(hl:l.length<1000000):InR mv (l++[m]) (stepR mv p s m):=by
 obtain ⟨k0,k5,-⟩:=Z5E hm
 have hlt:∀x ∈ l,ltM x m=true:=λx hx=>by
  rw[Srt,List.pairwise_append] at hs;exact hs.2.2 x hx m (by simp)
 by_cases hmv:m.mv=mv
 ·have noK:∀k,m.kind<k→ofk mv k l=[]:=λk hk=>by
   rw[List.eq_nil_iff_forall_not_mem];intro x hx
   obtain ⟨h1,h2,h3⟩:=ZeC.1 hx;have:=ZeD (hlt x h1);have h4:=this.2 (by omega)
   omega
  have wr:∀k,IntKind.i64.wrap (((ofk mv k l).length:Int)+1)=((ofk mv k l).length:Int)+1:=λk=>by
   have:=ZeE mv k l
   rw[wrap64 (by omega) (by omega)]
  have wa:IntKind.i64.wrap (((((ofk mv 3 l).length+(ofk mv 4 l).length:Nat)):Int)+1)=((((ofk mv 3 l).length+(ofk mv 4 l).length:Nat)):Int)+1:=by
   have h3:=ZeE mv 3 l;have h4:=ZeE mv 4 l;rw[wrap64 (by omega) (by omega)]
  have hk:m.kind=1∨m.kind=2∨m.kind=3∨m.kind=4∨m.kind=5:=by omega
  rcases hk with k | k | k | k | k
  ·have e2:=noK 2 (by omega)
   have st:stepR mv p s m={ s with d:={ s.d with frm:=m.frm,to:=m.to,sent:=m.alc },dis:=IntKind.i64.wrap (s.dis+1) }:=by simp[stepR,hmv,k]
   rw[st];exact ⟨H.mve,H.stage,by simp[Z06,hmv,k],by simp[Z06,hmv,k],by simp[Z06,hmv,k,e2],by simp[Z06,hmv,k,H.got],by simp[Z06,hmv,k,H.chg],by simp[Z06,hmv,k,H.dis,wr],by simp[Z06,hmv,k,H.ans],by simp[Z06,hmv,k,H.en],by simp[Z06,hmv,k,H.rf],by simp[Z06,hmv,k,H.cf]⟩
  ·have st:stepR mv p s m={ s with d:={ s.d with to:=m.to,chg:=IntKind.i64.wrap (s.d.chg+1) },cf:=s.cf||(p.mv==mv&&p.kind==m.kind&&p.num==m.num) }:=by simp[stepR,hmv,k]
   rw[st];refine ⟨H.mve,H.stage,by simp[Z06,hmv,k,H.frm],by simp[Z06,hmv,k,H.sent],by simp[Z06,hmv,k],by simp[Z06,hmv,k,H.got],by simp[Z06,hmv,k,H.chg,wr],by simp[Z06,hmv,k,H.dis],by simp[Z06,hmv,k,H.ans],by simp[Z06,hmv,k,H.en],by simp[Z06,hmv,k,H.rf], ?_⟩
   rw[Z06,if_pos ⟨hmv,k⟩,List.map_append,H.cf];rw[Bool.eq_iff_iff];simp only[Bool.or_eq_true,Bool.and_eq_true,beq_iff_eq,decide_eq_true_eq];rw[List.nodup_append]
   have key:(p.mv=mv∧p.kind=m.kind)∧p.num=m.num↔∃x ∈ ofk mv 2 l,x.num=m.num:=by
    constructor
    ·rintro ⟨⟨h1,h2⟩,h3⟩
     have hpl:p ∈ l:=by
      rcases List.eq_nil_or_concat l with rfl | ⟨l',q,rfl⟩
      ·simp at hp;subst hp;exact absurd h1.symm h0
      ·rw[List.concat_eq_append, ← List.cons_append,List.getLast?_append] at hp
       have:q=p:=by simpa using hp
       simp[this]
     exact ⟨p,ZeC.2 ⟨hpl,h1,by omega⟩,h3⟩
    ·rintro ⟨x,hx,h3⟩
     obtain ⟨h1,h2,h4⟩:=ZeC.1 hx;obtain ⟨hpl,hxp⟩:=ZCK hs hp h1;rcases hxp with rfl | hxp
     ·exact ⟨⟨h2,by omega⟩,h3⟩
     ·have a1:=ZeD hxp
      have a2:=ZeD (hlt p hpl)
      omega
   constructor
   ·rintro (h | h)
    ·exact λq=>h q.1
    ·obtain ⟨x,hx,hxn⟩:=key.1 h
     intro q;exact q.2.2 x.num (List.mem_map.2 ⟨x,hx,rfl⟩) m.num (by simp) hxn
   ·intro h
    by_cases hn:((ofk mv 2 l).map (·.num)).Nodup
    ·right
     refine key.2 ?_;rcases Classical.em (∃x ∈ ofk mv 2 l,x.num=m.num) with h2 | h2
     ·exact h2
     ·refine absurd ⟨hn,by simp, ?_⟩ h
      intro a ha b hb hab;obtain ⟨x,hx,rfl⟩:=List.mem_map.1 ha
      simp at hb
      exact h2 ⟨x,hx,by rw[hab,hb]⟩
    ·exact .inl hn
  ·have st:stepR mv p s m={ s with d:={ s.d with got:=m.alc },ans:=IntKind.i64.wrap (s.ans+1) }:=by simp[stepR,hmv,k]
   rw[st];exact ⟨H.mve,H.stage,by simp[Z06,hmv,k,H.frm],by simp[Z06,hmv,k,H.sent],by simp[Z06,hmv,k,H.to],by simp[Z06,hmv,k],by simp[Z06,hmv,k,H.chg],by simp[Z06,hmv,k,H.dis],by rw[H.ans,wa,Z06,Z06,if_pos ⟨hmv,k⟩,if_neg (by omega),List.length_append];simp;omega,by simp[Z06,hmv,k,H.en],by simp[Z06,hmv,k,H.rf],by simp[Z06,hmv,k,H.cf]⟩
  ·have st:stepR mv p s m={ s with ans:=IntKind.i64.wrap (s.ans+1),rf:=true }:=by simp[stepR,hmv,k]
   rw[st];exact ⟨H.mve,H.stage,by simp[Z06,hmv,k,H.frm],by simp[Z06,hmv,k,H.sent],by simp[Z06,hmv,k,H.to],by simp[Z06,hmv,k,H.got],by simp[Z06,hmv,k,H.chg],by simp[Z06,hmv,k,H.dis],by rw[H.ans,wa,Z06,Z06,if_neg (by omega),if_pos ⟨hmv,k⟩,List.length_append];simp;omega,by simp[Z06,hmv,k,H.en],by simp[Z06,hmv,k],by simp[Z06,hmv,k,H.cf]⟩
  ·have st:stepR mv p s m={ s with en:=IntKind.i64.wrap (s.en+1) }:=by simp[stepR,hmv,k]
   rw[st];exact ⟨H.mve,H.stage,by simp[Z06,hmv,k,H.frm],by simp[Z06,hmv,k,H.sent],by simp[Z06,hmv,k,H.to],by simp[Z06,hmv,k,H.got],by simp[Z06,hmv,k,H.chg],by simp[Z06,hmv,k,H.dis],by simp[Z06,hmv,k,H.ans],by simp[Z06,hmv,k,H.en,wr],by simp[Z06,hmv,k,H.rf],by simp[Z06,hmv,k,H.cf]⟩
 ·have st:stepR mv p s m=s:=by simp[stepR,hmv]
  have ek:∀k,ofk mv k (l++[m])=ofk mv k l:=λk=>by rw[Z06,if_neg (by simp[hmv])]
  rw[st];exact ⟨H.mve,H.stage,by rw[ek];exact H.frm,by rw[ek];exact H.sent,by rw[ek,ek];exact H.to,by rw[ek];exact H.got,by rw[ek];exact H.chg,by rw[ek];exact H.dis,by rw[ek,ek];exact H.ans,by rw[ek];exact H.en,by rw[ek];exact H.rf,by rw[ek];exact H.cf⟩
theorem InR.beg(mv:Int):InR mv [] (begR mv):=⟨rfl,rfl,rfl,rfl,rfl,rfl,rfl,rfl,rfl,rfl,rfl,rfl⟩
theorem InR.all{mv:Int}(h0:mv≠0):∀(post pre:List Msg)(p:Msg)(s:Frs),Srt (pre++post)→(∀m ∈ post,checkM m=0)→(pre++post).length<1000000→(zeroM::pre).getLast? = some p→InR mv pre s→InR mv (pre++post) (foldR mv p s post)
 | [],pre,p,s,_,_,_,_,H=>by simpa [foldR] using H
 | m::post,pre,p,s,hs,hv,hl,hp,H=>by
  have e:pre++m::post=(pre++[m])++post:=by simp
  rw[e] at hs hl ⊢
  refine InR.all h0 post (pre++[m]) m (stepR mv p s m) hs (λx hx=>hv x (by simp[hx])) hl (by rw[← List.cons_append,List.getLast?_append];simp) (H.step ?_ (hv m (by simp)) hp h0 (by simp at hl;omega))
  exact hs.sublist (List.sublist_append_left _ _)
theorem ZCL{mv:Int}{l:List Msg}(h0:mv≠0)(hs:Srt l)(hv:∀m ∈ l,checkM m=0)(hl:l.length<1000000):docR mv l=docS mv l:=by
 have H:=InR.all h0 l [] zeroM (begR mv) hs hv hl rfl (InR.beg mv);rw[List.nil_append] at H;unfold docR;generalize foldR mv zeroM (begR mv) l=s at *;unfold endR docS;cases hd:(ofk mv 1 l).getLast? with
 | none=>
  have h0:ofk mv 1 l=[]:=List.getLast?_eq_none_iff.1 hd;rw[if_pos (by rw[H.dis,h0];rfl)]
 | some d=>
  have h1:ofk mv 1 l≠[]:=λe=>by rw[e] at hd;simp at hd
  have hpos:0<(ofk mv 1 l).length:=List.length_pos_iff.2 h1;rw[if_neg (by rw[H.dis];omega)]
  simp only[]
  have hc:(s.cf||decide (1<s.dis)||decide (1<s.ans))=true↔(1<(ofk mv 1 l).length∨1<(ofk mv 3 l).length+(ofk mv 4 l).length∨¬((ofk mv 2 l).map (·.num)).Nodup):=by
   rw[H.cf,H.dis,H.ans];simp only[Bool.or_eq_true,decide_eq_true_eq]
   constructor
   ·rintro ((h | h) | h)
    ·exact .inr (.inr h)
    ·exact .inl (by omega)
    ·exact .inr (.inl (by omega))
   ·rintro (h | h | h)
    ·exact .inl (.inr (by omega))
    ·exact .inr (by omega)
    ·exact .inl (.inl h)
  by_cases hcc:(s.cf||decide (1<s.dis)||decide (1<s.ans))=true
  ·rw[if_pos hcc,if_pos (hc.1 hcc)]
  ·rw[if_neg hcc,if_neg λh=>hcc (hc.2 h)]
   have hn:=λh=>hcc (hc.2 h)
   have ha:(ofk mv 3 l).length+(ofk mv 4 l).length≤1:=by
    rcases Nat.lt_or_ge 1 ((ofk mv 3 l).length+(ofk mv 4 l).length) with h | h
    ·exact absurd (.inr (.inl h)) hn
    ·exact h
   obtain ⟨⟨d0,d1,d2,d3,d4,d5,d6⟩,dis,ans,en,cf,rf⟩:=s;obtain ⟨q1,q2,q3,q4,q5,q6,q7,q8,q9,q10,q11,q12⟩:=H;simp only at q1 q2 q3 q4 q5 q6 q7 q8 q9 q10 q11 q12;rw[hd] at q3 q4 q5;subst q1 q2 q3 q4 q6 q7 q9 q10 q11;simp only[Option.map_some,Option.getD_some] at q5 ⊢
   subst q5;clear hcc hc hn q12 q8
   by_cases r3:ofk d0 3 l=[]
   ·by_cases r4:ofk d0 4 l=[]
    ·simp[r3,r4]<;>(cases (ofk d0 2 l).getLast? <;> rfl)
    ·have hl4:0<(ofk d0 4 l).length:=List.length_pos_iff.2 r4
     have e1:(ofk d0 4 l).length=1:=by omega
     by_cases r5:ofk d0 5 l=[]
     ·simp[r3,r4,r5,e1]<;>(cases (ofk d0 2 l).getLast? <;> rfl)
     ·have hl5:0<(ofk d0 5 l).length:=List.length_pos_iff.2 r5
      simp[r3,r4,r5,e1,hl5]<;>(cases (ofk d0 2 l).getLast? <;> rfl)
   ·have hl3:0<(ofk d0 3 l).length:=List.length_pos_iff.2 r3
    have r4:ofk d0 4 l=[]:=List.eq_nil_of_length_eq_zero (by omega)
    have e1:(ofk d0 3 l).length=1:=by omega
    by_cases r5:ofk d0 5 l=[]
    ·simp[r3,r4,r5,e1]<;>(cases (ofk d0 2 l).getLast? <;> rfl)
    ·have hl5:0<(ofk d0 5 l).length:=List.length_pos_iff.2 r5
     simp[r3,r4,r5,e1,hl5]<;>(cases (ofk d0 2 l).getLast? <;> rfl)
end Go.AM


namespace Go.AM
open Go.Proofs
attribute [local congr] Z0i Z0j Z0k Z0l Z0m Z0n Z0o Z0p Z0q Z0r Z0s Z0t Z0u Z0v Z0w Z0x Z0y Z0z Z0A Z0B Z0C Z0D Z0E Z0F Z0G Z0H Z0I
theorem ZCM{T:Tab}{D:DTab}{N:Nat}{x0:Hp→Option AV}{xr:Kb AV}{a b:List Msg}{p q:Bool}{h:Hp}(hab:a.length=b.length)(hl:a.length<1000000)(hx:x0 h=xr (B true) h)(heq:∀(x y:Msg)(k:KV),eqK Tryz.prog true 50 (.agg (encM x)) (.agg (encM y)) h k=k (B (!(x==y)))):∀(n i:Nat),i≤a.length→a.length<i+n→
  Z4O Tryz.prog T D N x0 xr n (.lst 7 p (a.map encM)) (.lst 7 q (b.map encM)) (I i) h=xr (B (decide (a.drop i=b.drop i))) h:=by
 intro n;induction n with
 | zero=>intro i h1 h2;omega
 | succ n ih=>
  intro i h1 h2;show Z8g Tryz.prog T D N (Z4O Tryz.prog T D N x0 xr n) x0 xr _ _ _ h=_
  rcases Nat.lt_or_ge i a.length with hi | hi
  ·have c1:((i:Int)<(a.length:Int)):=by omega
   have hw:IntKind.i64.wrap ((i:Int)+1)=((i+1:Nat):Int):=by rw[wrap64 (by omega) (by omega)];omega
   have ia:∀k:KV,iaK 7 (.lst 7 p (a.map encM)) (I i) k=k (.ep (encM a[i]) 0):=λk=>Z0M i rfl (List.getElem?_eq_getElem hi) k
   have ib:∀k:KV,iaK 7 (.lst 7 q (b.map encM)) (I i) k=k (.ep (encM (b[i]'(by omega))) 0):=λk=>Z0M i rfl (List.getElem?_eq_getElem (by omega)) k
   have ld:∀(x:Msg)(k:KV),ldK 7 true (.ep (encM x) 0) h k=k (.agg (encM x)):=λx k=>rfl
   rw[List.drop_eq_getElem_cons hi,List.drop_eq_getElem_cons (show i<b.length by omega)]
   simp -implicitDefEqProofs only[Z8g,Z07,List.length_map,Z05,c1,decide_true,Z00,if_true,ia,ib,ld,heq,Z0e,hw,ih (i+1) (by omega) (by omega),List.cons.injEq,Bool.decide_and]
   by_cases e:a[i]=b[i]
   ·simp[e]
   ·simp[e]
  ·have:i=a.length:=by omega
   subst this;have c1:¬((a.length:Int)<(a.length:Int)):=by omega
   simp -implicitDefEqProofs only[Z8g,Z07,List.length_map,Z05,c1,decide_false,Z00,Bool.false_eq_true,if_false,hx]
   rw[List.drop_eq_nil_of_le (Nat.le_refl _),List.drop_eq_nil_of_le (by omega)]
   rfl
theorem ZCN(a b:List Msg)(p q:Bool)(hl:a.length<1000000)(heq:∀(x y:Msg) (h:Hp) (k:KV),eqK Tryz.prog true 50 (.agg (encM x)) (.agg (encM y)) h k=k (B (!(x==y))))(h:Hp):Z4j [.lst 7 p (a.map encM),.lst 7 q (b.map encM)] h=some (B (decide (a=b)),h):=by
 refine ZyV rfl ?_ h;simp only[nrm,nrmC];by_cases hab:a.length=b.length
 ·have e:((a.length:Int)==(b.length:Int))=true:=by simp[hab]
  have:=ZCM (T:=Z6X) (D:=Z6W) (N:=NN) (x0:=λh=>Zbo Tryz.prog Z6X Z6W NN (λv g=>cvt false g v) h) (xr:=λw13_4 h=>cvt false h w13_4) (a:=a) (b:=b) (p:=p) (q:=q) (h:=[]) hab hl rfl (λx y k=>heq x y [] k) NN 0 (by omega) (by have:=NN_ge;omega)
  simp only[List.drop_zero] at this;simp -implicitDefEqProofs only[Z5Z,Z07,List.length_map,Z03,e,Bool.true_xor,Bool.not_true,Z00,Bool.false_eq_true,if_false];exact this
 ·have e:((a.length:Int)==(b.length:Int))=false:=by simp;omega
  have hne:a≠b:=λh=>hab (by rw[h])
  simp[Z5Z,e,hne]
theorem ZCO{T:Tab}{D:DTab}{N:Nat}{x0:Hp→Option AV}{xr:Kb AV}{a b:List Docu}{p q:Bool}{h:Hp}(hab:a.length=b.length)(hl:a.length<1000000)(hx:x0 h=xr (B true) h)(heq:∀(x y:Docu)(k:KV),eqK Tryz.prog true 78 (.agg (encDo x)) (.agg (encDo y)) h k=k (B (!(x==y)))):∀(n i:Nat),i≤a.length→a.length<i+n→
  Z4x Tryz.prog T D N x0 xr n (.lst 7 p (a.map encDo)) (.lst 7 q (b.map encDo)) (I i) h=xr (B (decide (a.drop i=b.drop i))) h:=by
 intro n;induction n with
 | zero=>intro i h1 h2;omega
 | succ n ih=>
  intro i h1 h2;show Z7H Tryz.prog T D N (Z4x Tryz.prog T D N x0 xr n) x0 xr _ _ _ h=_
  rcases Nat.lt_or_ge i a.length with hi | hi
  ·have c1:((i:Int)<(a.length:Int)):=by omega
   have hw:IntKind.i64.wrap ((i:Int)+1)=((i+1:Nat):Int):=by rw[wrap64 (by omega) (by omega)];omega
   have ia:∀k:KV,iaK 7 (.lst 7 p (a.map encDo)) (I i) k=k (.ep (encDo a[i]) 0):=λk=>Z0M i rfl (List.getElem?_eq_getElem hi) k
   have ib:∀k:KV,iaK 7 (.lst 7 q (b.map encDo)) (I i) k=k (.ep (encDo (b[i]'(by omega))) 0):=λk=>Z0M i rfl (List.getElem?_eq_getElem (by omega)) k
   have ld:∀(x:Docu)(k:KV),ldK 7 true (.ep (encDo x) 0) h k=k (.agg (encDo x)):=λx k=>rfl
   rw[List.drop_eq_getElem_cons hi,List.drop_eq_getElem_cons (show i<b.length by omega)]
   simp -implicitDefEqProofs only[Z7H,Z07,List.length_map,Z05,c1,decide_true,Z00,if_true,ia,ib,ld,heq,Z0e,hw,ih (i+1) (by omega) (by omega),List.cons.injEq,Bool.decide_and]
   by_cases e:a[i]=b[i]
   ·simp[e]
   ·simp[e]
  ·have:i=a.length:=by omega
   subst this;have c1:¬((a.length:Int)<(a.length:Int)):=by omega
   simp -implicitDefEqProofs only[Z7H,Z07,List.length_map,Z05,c1,decide_false,Z00,Bool.false_eq_true,if_false,hx]
   rw[List.drop_eq_nil_of_le (Nat.le_refl _),List.drop_eq_nil_of_le (by omega)]
   rfl
theorem ZCP(a b:List Docu)(p q:Bool)(hl:a.length<1000000)(heq:∀(x y:Docu) (h:Hp) (k:KV),eqK Tryz.prog true 78 (.agg (encDo x)) (.agg (encDo y)) h k=k (B (!(x==y))))(h:Hp):Z4o [.lst 7 p (a.map encDo),.lst 7 q (b.map encDo)] h=some (B (decide (a=b)),h):=by
 refine ZB7 rfl ?_ h;simp only[nrm,nrmC];by_cases hab:a.length=b.length
 ·have e:((a.length:Int)==(b.length:Int))=true:=by simp[hab]
  have:=ZCO (T:=Z78) (D:=Z77) (N:=NN) (x0:=λh=>ZaW Tryz.prog Z78 Z77 NN (λv g=>cvt false g v) h) (xr:=λw13_4 h=>cvt false h w13_4) (a:=a) (b:=b) (p:=p) (q:=q) (h:=[]) hab hl rfl (λx y k=>heq x y [] k) NN 0 (by omega) (by have:=NN_ge;omega)
  simp only[List.drop_zero] at this;simp -implicitDefEqProofs only[Z5T,Z07,List.length_map,Z03,e,Bool.true_xor,Bool.not_true,Z00,Bool.false_eq_true,if_false];exact this
 ·have e:((a.length:Int)==(b.length:Int))=false:=by simp;omega
  have hne:a≠b:=λh=>hab (by rw[h])
  simp[Z5T,e,hne]
theorem ZmA(a b:List Msg)(p q:Bool)(hl:a.length<1000000)(h:Hp):Z4j [.lst 7 p (a.map encM),.lst 7 q (b.map encM)] h=some (B (decide (a=b)),h):=ZCN a b p q hl (λx y h k=>by rw[Z4r,Bool.true_xor]) h
theorem ZmB(a b:List Docu)(p q:Bool)(hl:a.length<1000000)(h:Hp):Z4o [.lst 7 p (a.map encDo),.lst 7 q (b.map encDo)] h=some (B (decide (a=b)),h):=ZCP a b p q hl (λx y h k=>by rw[ZBr,Bool.true_xor]) h
theorem ZmC{l:List Msg}(h:errM l=0):(normL l).length≤64∧∀m ∈ normL l,checkM m=0:=by
 obtain ⟨h1,h2⟩:=Z5C.1 h;exact ⟨Nat.le_trans (Z4s l) h1,λm hm=>h2 m (Zgs.1 hm)⟩
theorem ZCQ(l:List Msg)(b:Bool)(hl:l.length<900000)(h:Hp):Zad [.lst 7 b (l.map encM)] h=some (.lst 7 false ((zeroM::l).map encM),h):=by
 refine (ZAg (v := .lst 7 false ((zeroM::l).map encM)) rfl ?_ h).trans rfl;simp only[nrm,nrmC];have bz:∀k:KV,buildK zM [] k=k (.agg (encM zeroM)):=λk=>rfl
 have bs:∀k:Kb AV,effK (bsE 7 zM 1 [(0,.agg (encM zeroM))] ([]:Hp).length) [] k=k (.sl 7 0 0 1 1 true) [.arr 7 [encM zeroM] true false]:=λk=>rfl
 have h2:((l.map encM).all λe=>e.length==7)=true:=by simp[encM]
 have hle:(1+l.length) * 56≤140737488355328:=by omega
 have okl:okE false ((zeroM::l).map encM)=true:=Z0U (by intro x;simp[encM])
 by_cases h0:l=[]
 ·subst h0
  simp -implicitDefEqProofs only[Z93,bz,bs]
  rfl
 ·have hl0:l.length≠0:=λq=>h0 (List.eq_nil_of_length_eq_zero q)
  have ap:∀k:Kb AV,effK (appE 7 56 (.sl 7 0 0 1 1 true) (.lst 7 b (l.map encM)) [.arr 7 [encM zeroM] true false] ([.arr 7 [encM zeroM] true false]:Hp).length) [.arr 7 [encM zeroM] true false] k=k (.sl 7 1 0 (1+l.length) (1+l.length) false) [.arr 7 [encM zeroM] true false,.arr 7 ((zeroM::l).map encM) true false]:=λk=>by
   simp[appE,readSl,h2,hle,hl0,effK,Go.AM.ap]
  simp -implicitDefEqProofs only[Z93,bz,bs,ap]
  exact Z0X (es:=(zeroM::l).map encM) rfl (by simp;omega) (by simp;omega) okl
def allG(n:List Msg):Int→List Msg→List Docu
 | _,[]=>[]
 | p,m::l=>if m.mv≠p then docS m.mv n::allG n m.mv l else allG n p l
theorem ZgE(n:List Msg):∀(l:List Msg)(p:Int),(allG n p l).length≤l.length
 | [],p=>by simp[allG]
 | m::l,p=>by
  have h1:=ZgE n l m.mv;have h2:=ZgE n l p;simp only[allG];split<;>simp<;>omega
def allS(l:List Msg):List Docu:=if errM l=0 then allG (normL l) 0 (normL l) else []
theorem ZCR(l:List Msg):(allS l).length≤l.length:=by
 have h1:=ZgE (normL l) (normL l) 0;have h2:=Z4s l;unfold allS
 split
 ·omega
 ·simp
section
variable {β:Type}
theorem bxh{h:Hp}(k:Kb β):effK (boxE 7 (.agg zM) h.length) h k=k (.ptr h.length 0 0 1) (h++[.arr 7 [zM] true false]):=Z2F 7 h.length (.agg zM) h k rfl rfl rfl
theorem sth{h:Hp}{m:Msg}(k:Kb β):effK (stE 7 (.ptr h.length 0 0 1) (.agg (encM m)) (h++[.arr 7 [zM] true false])) (h++[.arr 7 [zM] true false]) k=k .u (h++[.arr 7 [encM m] true false]):=by
 rw[Z0N (v := .u) (id:=h.length) (o := .arr 7 [encM m] true false) (ft:=[h.length]) (by simp[encM]),Z3r];rfl
theorem lh0{h:Hp}{m:Msg}(k:Go.AM.K β):ldK 1 false (.ptr h.length 0 0 1) (h++[.arr 7 [encM m] true false]) k=k (I m.mv):=by simp[encM]
theorem bsD{h:Hp}{d:Docu}(k:Kb β):effK (bsE 7 zM 1 [(0,.agg (encDo d))] h.length) h k=k (.sl 7 h.length 0 1 1 true) (h++[.arr 7 [encDo d] true false]):=by simp[bsE,fillS,encDo,effK,ap]
theorem ZCS{h:Hp}{v:AV}{o:List Docu}{d:Docu}(O:Gro 7 encDo h v o)(hl:o.length<1000000):∃v' h',(∀{β:Type}(k:Kb β),effK (appE 7 56 v (.sl 7 h.length 0 1 1 true) (h++[.arr 7 [encDo d] true false]) (h++[AObj.arr 7 [encDo d] true false]).length) (h++[.arr 7 [encDo d] true false]) k=k v' h')∧Gro 7 encDo h' v' (o++[d]):=by
 obtain ⟨v',e,a1,a2,-⟩:=Gro.snocE (h:=h++[AObj.arr 7 [encDo d] true false]) (by_:=56) (m:=h.length) (z:=d) (b:=true) (O.app [AObj.arr 7 [encDo d] true false]) (by simp) (λq=>by have:=O.lt q;omega) (by simp[encDo]) (by omega)
 exact ⟨v',_,λk=>by rw[a1];rfl,a2⟩
theorem ZCT{h:Hp}{v:AV}{o:List Docu}{d:Docu}(O:Grm 7 encDo h v o)(hl:o.length<1000000):∃v' h',(∀{β:Type}(k:Kb β),effK (appE 7 56 v (.sl 7 h.length 0 1 1 true) (h++[.arr 7 [encDo d] true false]) (h++[AObj.arr 7 [encDo d] true false]).length) (h++[.arr 7 [encDo d] true false]) k=k v' h')∧Grm 7 encDo h' v' (o++[d]):=by
 obtain ⟨j,hj,hjl⟩:=O.lt;obtain ⟨v',e,a1,a2,-⟩:=Grm.snocE (h:=h++[AObj.arr 7 [encDo d] true false]) (by_:=56) (m:=h.length) (z:=d) (b:=true) (O.app [AObj.arr 7 [encDo d] true false]) (by simp) (by rw[hj];simp;omega) (by simp[encDo]) (by omega)
 exact ⟨v',_,λk=>by rw[a1];rfl,a2⟩
end
theorem ZCU{N:Nat}{x0:Kb AV}{X:Option AV}{n:List Msg}{b:Bool}(hs:Srt n)(hv:∀m ∈ n,checkM m=0)(hl:n.length<1000)(hx:∀v h,Gro 7 encDo h v (allG n 0 n)→x0 v h=X):∀(k:Nat)(pre post:List Msg)(p:Int)(o:List Docu)(v:AV)(h:Hp),n=pre++post→post.length<k→(pre=[]→p=0)→(∀q,pre.getLast? = some q→p=q.mv)→o++allG n p post=allG n 0 n→o.length≤pre.length→Gro 7 encDo h v o→
  Z4L Tryz.prog Z36 Z3O N x0 k (.lst 7 b (n.map encM)) v (.lst 7 b (n.map encM)) (I n.length) (I pre.length) h=X:=by
 intro k;induction k with
 | zero=>intro pre post p o v h _ h2;omega
 | succ k ih=>
  intro pre post p o v h hc hn hp0 hp ho hol O;show Z8b Tryz.prog Z36 Z3O N (Z4L Tryz.prog Z36 Z3O N x0 k) x0 _ _ _ _ _ h=_
  cases post with
  | nil=>
   have:n=pre:=by simpa using hc
   subst this;have c1:¬((n.length:Int)<(n.length:Int)):=by omega
   simp -implicitDefEqProofs only[Z8b,Z05,c1,decide_false,Z00,Bool.false_eq_true,if_false]
   simp only[allG,List.append_nil] at ho;exact hx v h (by rw[← ho];exact O)
  | cons m post=>
   have hi:pre.length<n.length:=by rw[hc];simp
   have hci:n[pre.length]? = some m:=by rw[hc];simp
   have hmn:m ∈ n:=by rw[hc];simp
   obtain ⟨-,-,hm1,-⟩:=Z5E (hv m hmn);have hlt:((pre.length:Int)<(n.length:Int)):=by omega
   have hw:IntKind.i64.wrap ((pre.length:Int)+1)=(((pre++[m]).length:Nat):Int):=by rw[wrap64 (by omega) (by omega)];simp
   have ic:∀k:KV,iaK 7 (.lst 7 b (n.map encM)) (I pre.length) k=k (.ep (encM m) 0):=λk=>Z0M pre.length rfl hci k
   have ld:∀k:KV,ldK 7 true (.ep (encM m) 0) h k=k (.agg (encM m)):=λk=>rfl
   have O1:=O.app [AObj.arr 7 [encM m] true false]
   have cnd:∀(K:Kb AV),grpK false (.s (.bool ((pre.length:Int)==0))) (h++[.arr 7 [encM m] true false]) (λk16=>arithK .sub (I pre.length) (I 1) λx19=>iaK 7 (.lst 7 b (n.map encM)) x19 λx20=>faK 0 x20 λx21=>ldK 1 false x21 (h++[.arr 7 [encM m] true false]) λx22=>eqK Tryz.prog true 3 (I m.mv) x22 (h++[.arr 7 [encM m] true false]) λx23=>k16 x23 (h++[.arr 7 [encM m] true false])) K=K (B (!(m.mv==p))) (h++[.arr 7 [encM m] true false]):=λK=>by
    rcases List.eq_nil_or_concat pre with e | ⟨pre',q,e⟩
    ·subst e
     have:(m.mv==p)=false:=by rw[hp0 rfl];simp;omega
     rw[this]
     rfl
    ·rw[List.concat_eq_append] at e
     subst e;have hq:p=q.mv:=hp q (by simp)
     have e0:(((pre'++[q]).length:Nat):Int)≠0:=by simp;omega
     have e0':((((pre'++[q]).length:Nat):Int)==0)=false:=by simpa using e0
     have w1:IntKind.i64.wrap ((((pre'++[q]).length:Nat):Int)-1)=((pre'.length:Nat):Int):=by
      have hpl:(pre'++[q]).length=pre'.length+1:=by simp
      rw[hpl] at hi ⊢
      rw[wrap64 (by omega) (by omega)];omega
     have gq:n[pre'.length]? = some q:=by rw[hc];simp
     have iq:∀k:KV,iaK 7 (.lst 7 b (n.map encM)) (I pre'.length) k=k (.ep (encM q) 0):=λk=>Z0M pre'.length rfl gq k
     simp -implicitDefEqProofs only[e0',ZaJ,Z1U,w1,iq,Z11,Nat.add_zero,le0,Z03,Bool.true_xor,hq]
   simp -implicitDefEqProofs only[Z8b,Z05,hlt,decide_true,Z00,if_true,ic,ld,bxh,sth,Z03,Bool.false_xor,Z04,Nat.zero_add,lh0,cnd]
   by_cases hmp:m.mv=p
   ·have e:(m.mv==p)=true:=by simpa using hmp
    simp -implicitDefEqProofs only[e,Bool.not_true,Bool.false_eq_true,if_false,Zbk,Zfr,Z0e,hw]
    simp only[allG,hmp,ne_eq,not_true_eq_false,if_false] at ho;refine ih (pre++[m]) post p o v _ (by simpa using hc) (by simpa using hn) (by simp) (λq hq => ?_) ho (by simp;omega) O1
    simp at hq;rw[← hq];exact hmp.symm
   ·have e:(m.mv==p)=false:=by simpa using hmp
    have fo:=λh=>ZCC n b m.mv (by omega) h
    rw[ZCG hs hv (by omega)] at fo
    have hoN:o.length<1000000:=by omega
    obtain ⟨v',h',g1,g2⟩:=ZCS (d:=docS m.mv n) O1 hoN;simp -implicitDefEqProofs only[e,Bool.not_false,if_true,ZA0,Z02,fo,bsD,g1,Zbk,Zfr,Z0e,hw];simp only[allG,if_pos hmp] at ho;exact ih (pre++[m]) post m.mv (o++[docS m.mv n]) v' h' (by simpa using hc) (by simpa using hn) (by simp) (λq hq=>by simp at hq;rw[hq]) (by simpa using ho) (by simp;omega) g2
theorem ZCV(l:List Msg)(b:Bool)(hl:l.length<1000):∃w,(∀st,Z4M Tryz.prog Z36 Z3O NN (λv g=>cvt st g v) (SLm b l) []=some (.tup [w,I (errM l)]))∧nrm (.l 7) w = .lst 7 (allS l).isEmpty ((allS l).map encDo):=by
 have fN:=ZBE l b (by omega)
 have x0:∀k:KV,exK (normR b l) 0 k=k (if errM l=0 then SLm b (normL l) else .lst 7 true []):=λk=>rfl
 have x1:∀k:KV,exK (normR b l) 1 k=k (I (errM l)):=λk=>rfl
 by_cases he:errM l=0
 ·have hn:=Z4s l
  obtain ⟨w,hw1,hw2⟩:∃w,(∀st v h,Gro 7 encDo h v (allG (normL l) 0 (normL l))→Z8a Tryz.prog Z36 Z3O NN (λv g=>cvt st g v) v h=some (.tup [w,I 0]))∧nrm (.l 7) w = .lst 7 (allG (normL l) 0 (normL l)).isEmpty ((allG (normL l) 0 (normL l)).map encDo):=by
   by_cases hz:allG (normL l) 0 (normL l)=[]
   ·refine ⟨nilS,λst v h O => ?_,by rw[hz];rfl⟩
    rcases O with ⟨-,rfl⟩ | ⟨h1,-⟩
    ·rfl
    ·exact absurd hz h1
   ·refine ⟨.lst 7 false ((allG (normL l) 0 (normL l)).map encDo),λst v h O => ?_, ?_⟩
    ·rcases O with ⟨h1,-⟩ | ⟨h1,k,rfl,h2⟩
     ·exact absurd h1 hz
     ·have:=Z0X (st:=st) (full:=false) h2 (n:=(allG (normL l) 0 (normL l)).length) (fr:=(allG (normL l) 0 (normL l)).length) (by simp) (by simp) (Z0U λx=>by cases st<;>simp[encDo,isS])
      simp only[Z8a,Z2Y,Z1b,Z1a,this,cvt_s]
      rfl
    ·have:(allG (normL l) 0 (normL l)).isEmpty=false:=by simpa using hz
     rw[this];rfl
  refine ⟨w,λst => ?_,by unfold allS;rw[if_pos he];exact hw2⟩
  simp -implicitDefEqProofs only[Z4M,ZlC,Z02,fN,x0,x1,he,Z03,beq_self_eq_true,Bool.true_xor,Bool.not_true,Z00,Bool.false_eq_true,if_false,if_true,SLm,Z07,List.length_map]
  exact ZCU (Zes l) (ZmC he).2 (by omega) (hw1 st) NN [] (normL l) 0 [] nilS [] rfl (by have:=NN_ge;omega) (λ_=>rfl) (by simp) rfl (by simp) .nil
 ·have e:(errM l==0)=false:=by simpa using he
  refine ⟨nilS,λst => ?_,by unfold allS;rw[if_neg he];rfl⟩
  simp -implicitDefEqProofs only[Z4M,ZlC,Z02,fN,x0,x1,Z03,e,Bool.true_xor,Bool.not_false,Z00,if_true]
  rfl
def allV(l:List Msg):AV := .tup [.lst 7 (allS l).isEmpty ((allS l).map encDo),I (errM l)]
theorem ZCW(l:List Msg)(b:Bool)(hl:l.length<1000)(h:Hp):Zab [SLm b l] h=some (allV l,h):=by
 obtain ⟨w,hw1,hw2⟩:=ZCV l b hl;refine (ZA4 (a0:=SLm b l) rfl (hw1 false) h).trans ?_;show some (AV.tup [nrm (.l 7) w,I (errM l)],h)=_;rw[hw2]
 rfl
end Go.AM


namespace Go.AM
open Go.Proofs
attribute [local congr] Z0i Z0j Z0k Z0l Z0m Z0n Z0o Z0p Z0q Z0r Z0s Z0t Z0u Z0v Z0w Z0x Z0y Z0z Z0A Z0B Z0C Z0D Z0E Z0F Z0G Z0H Z0I
def fewI(i:Inbx):Bool:=(decide (i.heard.length≤20)||decide (i.heard.length=257))&&(decide (i.msgs.length≤20)||decide (i.msgs.length=65))
theorem ZCX(b1 b2:Bool)(i:Inbx)(h:Hp):Z9X [ib b1 b2 i] h=some (B (fewI i),h):=by
 refine Zyj (a0:=ib b1 b2 i) rfl ?_ h;rw[show nrm (.a [none,some 2,some 7]) (ib b1 b2 i)=ib b1 b2 i from rfl];obtain ⟨H,hH⟩:∃H:Hp,H=[bxI b1 b2 i]:=⟨_,rfl⟩;have bx:∀k:Kb AV,effK (boxE 3 (ib b1 b2 i) ([]:Hp).length) [] k=k (.ptr 0 0 0 1) H:=λk=>by rw[hH];rfl
 have l1:∀k:KV,ldK 1 false (.ptr 0 0 1 1) H k=k (SL 2 encH b1 i.heard):=λk=>by rw[hH];rfl
 have l2:∀k:KV,ldK 1 false (.ptr 0 0 2 1) H k=k (SL 7 encM b2 i.msgs):=λk=>by rw[hH];rfl
 have e1:decide ((i.heard.length:Int)≤20)=decide (i.heard.length≤20):=by rw[decide_eq_decide];omega
 have e2:decide ((i.msgs.length:Int)≤20)=decide (i.msgs.length≤20):=by rw[decide_eq_decide];omega
 have e3:((i.heard.length:Int)==257)=decide (i.heard.length=257):=by rw[Bool.eq_iff_iff];simp;omega
 have e4:((i.msgs.length:Int)==65)=decide (i.msgs.length=65):=by rw[Bool.eq_iff_iff];simp;omega
 simp -implicitDefEqProofs only[ZaO,bx,Z04,Nat.zero_add,l1,l2,SL,Z07,List.length_map,Z10,Z03,Bool.false_xor,Z0J,Z0Q,e1,e2,e3,e4]
 rfl
theorem ZmD(a b:Hrd)(h:Hp):Z5r [.agg (encH a),.agg (encH b)] h=some (B (ltH b a),h):=by
 refine Zz0 (by simp[encH]) ?_ h
 obtain ⟨a0,a1⟩:=a;obtain ⟨b0,b1⟩:=b;have bx0:∀k:Kb AV,effK (boxE 2 (.agg [I a0,I a1]) ([]:Hp).length) [] k=k (.ptr 0 0 0 1) [.arr 2 [[I a0,I a1]] true false]:=λk=>rfl
 have bx1:∀k:Kb AV,effK (boxE 2 (.agg [I b0,I b1]) ([AObj.arr 2 [[I a0,I a1]] true false]:Hp).length) [.arr 2 [[I a0,I a1]] true false] k=k (.ptr 1 0 0 1) [.arr 2 [[I a0,I a1]] true false,.arr 2 [[I b0,I b1]] true false]:=λk=>rfl
 have l00:∀k:KV,ldK 1 false (.ptr 0 0 0 1) [.arr 2 [[I a0,I a1]] true false,.arr 2 [[I b0,I b1]] true false] k=k (I a0):=λk=>rfl
 have l01:∀k:KV,ldK 1 false (.ptr 0 0 1 1) [.arr 2 [[I a0,I a1]] true false,.arr 2 [[I b0,I b1]] true false] k=k (I a1):=λk=>rfl
 have l10:∀k:KV,ldK 1 false (.ptr 1 0 0 1) [.arr 2 [[I a0,I a1]] true false,.arr 2 [[I b0,I b1]] true false] k=k (I b0):=λk=>rfl
 have l11:∀k:KV,ldK 1 false (.ptr 1 0 1 1) [.arr 2 [[I a0,I a1]] true false,.arr 2 [[I b0,I b1]] true false] k=k (I b1):=λk=>rfl
 simp -implicitDefEqProofs only[ZbI,encH,bx0,bx1,Z04,Nat.zero_add,l00,l01,l10,l11,Z0g,Z03,Bool.false_xor,Z0Q,Z0J]
 have:(decide (a0 > b0)||(a0==b0)&&decide (a1 > b1))=ltH ⟨b0,b1⟩ ⟨a0,a1⟩:=by
  rw[ZCc,Z6b,Z6b,Bool.eq_iff_iff];simp[ltZ,lexZ]
  omega
 rw[this]
 rfl
theorem ZCY{x0:AV→Kb AV}{xr:Kb AV}{X Y:Option AV}{a b:Inbx}{a1 a2 b1 b2:Bool}{H:Hp}(h0:H[0]? = some (bxI a1 a2 a))(h1:H[1]? = some (bxI b1 b2 b))(hl:a.heard.length<100000)(he:a.heard.length=b.heard.length)(hx:x0 (.ptr 0 0 0 1) (.ptr 1 0 0 1) H=X)(hr:xr (B false) H=Y):∀(n i:Nat),i≤a.heard.length→a.heard.length<i+n→
  Z4w Tryz.prog Z4n Z5B NN x0 xr n (.ptr 0 0 0 1) (.ptr 1 0 0 1) (I i) H=if a.heard.drop i=b.heard.drop i then X else Y:=by
 intro n;induction n with
 | zero=>intro i h1 h2;omega
 | succ n ih=>
  intro i hi1 hi2;show Z7E Tryz.prog Z4n Z5B NN (Z4w Tryz.prog Z4n Z5B NN x0 xr n) x0 xr _ _ _ H=_
  have la:∀k:KV,ldK 1 false (.ptr 0 0 1 1) H k=k (SL 2 encH a1 a.heard):=λk=>by rw[Z01,h0];rfl
  have lb:∀k:KV,ldK 1 false (.ptr 1 0 1 1) H k=k (SL 2 encH b1 b.heard):=λk=>by rw[Z01,h1];rfl
  rcases Nat.lt_or_ge i a.heard.length with hi | hi
  ·have hlt:((i:Int)<(a.heard.length:Int)):=by omega
   have hw:IntKind.i64.wrap ((i:Int)+1)=((i+1:Nat):Int):=by rw[wrap64 (by omega) (by omega)];omega
   have xa:a.heard[i]? = some a.heard[i]:=List.getElem?_eq_getElem hi;have xb:b.heard[i]? = some b.heard[i]:=List.getElem?_eq_getElem (by omega)
   rw[List.drop_eq_getElem_cons hi,List.drop_eq_getElem_cons (by omega:i<b.heard.length)]
   have ih':=ih (i+1) hi (by omega)
   generalize a.heard[i]=x at xa;generalize b.heard[i]=y at xb;have ia:∀k:KV,iaK 2 (SL 2 encH a1 a.heard) (I i) k=k (.ep (encH x) 0):=λk=>Z0M i rfl xa k
   have ib':∀k:KV,iaK 2 (SL 2 encH b1 b.heard) (I i) k=k (.ep (encH y) 0):=λk=>Z0M i rfl xb k
   have lx:∀(z:Hrd)(k:KV),ldK 2 true (.ep (encH z) 0) H k=k (.agg (encH z)):=λz k=>rfl
   have ln:∀k:KV,lenK (SL 2 encH a1 a.heard) k=k (I a.heard.length):=λk=>by rw[SL,Z07,List.length_map]
   simp -implicitDefEqProofs only[Z7E,Z04,Nat.zero_add,la,ln,Z05,hlt,decide_true,Z00,if_true,lb,ia,ib',lx,Zey,Bool.true_xor]
   by_cases q:x=y
   ·have e:(!(x==y))=false:=by simp[q]
    simp -implicitDefEqProofs only[e,Bool.false_eq_true,if_false,Z0e,hw]
    rw[ih'];simp[q]
   ·have e:(!(x==y))=true:=by simp[q]
    have e2:¬(x::a.heard.drop (i+1)=y::b.heard.drop (i+1)):=by simp[q]
    rw[if_neg e2];simp -implicitDefEqProofs only[e,if_true,hr]
  ·have:i=a.heard.length:=by omega
   subst this;have c1:¬((a.heard.length:Int)<(a.heard.length:Int)):=by omega
   have ln:∀k:KV,lenK (SL 2 encH a1 a.heard) k=k (I a.heard.length):=λk=>by rw[SL,Z07,List.length_map]
   rw[List.drop_length,he,List.drop_length,if_pos rfl, ← he];simp -implicitDefEqProofs only[Z7E,Z04,Nat.zero_add,la,ln,Z05,c1,decide_false,Z00,Bool.false_eq_true,if_false,hx]
theorem ZCZ(a1 a2 b1 b2:Bool)(a b:Inbx)(hl:a.heard.length<100000)(hm:a.msgs.length<100000)(h:Hp):Zak [ib a1 a2 a,ib b1 b2 b] h=some (B (decide (a=b)),h):=by
 refine ZB1 (a0:=ib a1 a2 a) (a1:=ib b1 b2 b) rfl ?_ h;rw[show nrm (.a [none,some 2,some 7]) (ib a1 a2 a)=ib a1 a2 a from rfl,show nrm (.a [none,some 2,some 7]) (ib b1 b2 b)=ib b1 b2 b from rfl];obtain ⟨H,hH⟩:∃H:Hp,H=[bxI a1 a2 a,bxI b1 b2 b]:=⟨_,rfl⟩;have x0:∀k:Kb AV,effK (boxE 3 (ib a1 a2 a) ([]:Hp).length) [] k=k (.ptr 0 0 0 1) [bxI a1 a2 a]:=λk=>rfl
 have x1:∀k:Kb AV,effK (boxE 3 (ib b1 b2 b) ([bxI a1 a2 a]:Hp).length) [bxI a1 a2 a] k=k (.ptr 1 0 0 1) H:=λk=>by rw[hH];rfl
 have h0:H[0]? = some (bxI a1 a2 a):=by rw[hH];rfl
 have h1:H[1]? = some (bxI b1 b2 b):=by rw[hH];rfl
 have a0:∀k:KV,ldK 1 false (.ptr 0 0 0 1) H k=k (I a.node):=λk=>by rw[hH];rfl
 have b0:∀k:KV,ldK 1 false (.ptr 1 0 0 1) H k=k (I b.node):=λk=>by rw[hH];rfl
 have la:∀k:KV,ldK 1 false (.ptr 0 0 1 1) H k=k (SL 2 encH a1 a.heard):=λk=>by rw[hH];rfl
 have lb:∀k:KV,ldK 1 false (.ptr 1 0 1 1) H k=k (SL 2 encH b1 b.heard):=λk=>by rw[hH];rfl
 have ma:∀k:KV,ldK 1 false (.ptr 0 0 2 1) H k=k (SL 7 encM a2 a.msgs):=λk=>by rw[hH];rfl
 have mb:∀k:KV,ldK 1 false (.ptr 1 0 2 1) H k=k (SL 7 encM b2 b.msgs):=λk=>by rw[hH];rfl
 have lna:∀k:KV,lenK (SL 2 encH a1 a.heard) k=k (I a.heard.length):=λk=>by rw[SL,Z07,List.length_map]
 have lnb:∀k:KV,lenK (SL 2 encH b1 b.heard) k=k (I b.heard.length):=λk=>by rw[SL,Z07,List.length_map]
 simp -implicitDefEqProofs only[Z7F,x0,x1,Z04,Nat.zero_add,a0,b0,Z03,Bool.true_xor,la,lb,lna,lnb,Z0J,Z00]
 by_cases q:a.node=b.node∧a.heard.length=b.heard.length
 ·obtain ⟨q1,q2⟩:=q
  have e:(!(a.node==b.node) || !((a.heard.length:Int)==(b.heard.length:Int)))=false:=by simp[q1,q2]
  simp -implicitDefEqProofs only[e,Bool.false_eq_true,if_false]
  refine (ZCY (X:=some (B (decide (a.msgs=b.msgs)))) (Y:=some (B false)) h0 h1 hl q2 ?_ rfl NN 0 (by omega) (by have:=NN_ge;omega)).trans ?_
  ·have fS:=ZmA a.msgs b.msgs (a2&&a.msgs.isEmpty) (b2&&b.msgs.isEmpty) (by omega) H
   simp -implicitDefEqProofs only[ZaU,Z04,Nat.zero_add,ma,mb,ZAX,Z02,fS]
   rfl
  ·rw[List.drop_zero,List.drop_zero]
   obtain ⟨n1,l1,m1⟩:=a;obtain ⟨n2,l2,m2⟩:=b;dsimp only at q1 ⊢
   subst q1;by_cases e:l1=l2<;>simp[e]
 ·have e:(!(a.node==b.node) || !((a.heard.length:Int)==(b.heard.length:Int)))=true:=by
   cases hc:(!(a.node==b.node) || !((a.heard.length:Int)==(b.heard.length:Int))) with
   | true=>rfl
   | false=>
    simp at hc
    exact absurd hc (λhh=>q ⟨hh.1,by omega⟩)
  have hne:¬a=b:=λhh=>q ⟨by rw[hh],by rw[hh]⟩
  simp -implicitDefEqProofs only[e,if_true]
  simp[hne]
theorem ZmE(b1 b2:Bool)(i:Inbx)(hl:i.heard.length<100000)(hm:i.msgs.length<100000)(H:Hp):Z3j [ib b1 b2 i] H=some (.agg [I i.node,.sl 2 (H.length+3) 0 i.heard.length i.heard.length false,.sl 7 (H.length+5) 0 i.msgs.length i.msgs.length false],H++[bxI b1 b2 i,.arr 3 [[I i.node,.sl 2 (H.length+3) 0 i.heard.length i.heard.length false,.sl 7 (H.length+5) 0 i.msgs.length i.msgs.length false]] true false,.arr 2 [] true false,.arr 2 (i.heard.map encH) true false,.arr 7 [] true false,.arr 7 (i.msgs.map encM) true false]):=by
 rw[Zyr];obtain ⟨node,heard,msgs⟩:=i
 dsimp only at hl hm ⊢
 obtain ⟨LH,hLH⟩:∃LH:AV,LH=SL 2 encH b1 heard:=⟨_,rfl⟩;obtain ⟨LM,hLM⟩:∃LM:AV,LM=SL 7 encM b2 msgs:=⟨_,rfl⟩;obtain ⟨o0,ho0⟩:∃o0:AObj,o0 = .arr 3 [[I node,LH,LM]] true false:=⟨_,rfl⟩;have eb:bxI b1 b2 ⟨node,heard,msgs⟩=o0:=by rw[ho0,hLH,hLM]
 rw[eb,show ib b1 b2 ⟨node,heard,msgs⟩ = .agg [I node,LH,LM] by rw[hLH,hLM]]
 obtain ⟨n,hn⟩:∃n,n=H.length:=⟨_,rfl⟩;rw[← hn];have x0:∀k:AV→Hp→Option (AV × Hp),effK (boxE 3 (.agg [I node,LH,LM]) H.length) H k=k (.ptr n 0 0 1) (H++[o0]):=λk=>by rw[hn,ho0];exact bx3 rfl (by rw[hLH,hLM];rfl) k
 have hl1:∀o:AObj,(H++[o]).length=n+1:=λo=>by rw[hn];simp
 have hl2:∀o p:AObj,(H++[o,p]).length=n+2:=λo p=>by rw[hn];simp
 have hl3:∀o p q:AObj,(H++[o,p,q]).length=n+3:=λo p q=>by rw[hn];simp
 have hl4:∀o p q r:AObj,(H++[o,p,q,r]).length=n+4:=λo p q r=>by rw[hn];simp
 have hl5:∀o p q r s:AObj,(H++[o,p,q,r,s]).length=n+5:=λo p q r s=>by rw[hn];simp
 have gt:∀(l:List AObj)(j:Nat),(H++l)[n+j]? = l[j]? := λl j=>by rw[hn,List.getElem?_append_right (by omega),show H.length+j-H.length=j by omega]
 have st':∀(l:List AObj)(j:Nat)(o:AObj),(H++l).set (n+j) o=H++l.set j o:=λl j o=>by rw[hn,List.set_append_right _ _ (by omega),show H.length+j-H.length=j by omega]
 have x1:∀k:AV→Hp→Option (AV × Hp),effK (boxE 3 (.agg zI) (H++[o0]).length) (H++[o0]) k=k (.ptr (n+1) 0 0 1) (H++[o0,.arr 3 [zI] true false]):=λk=>by
  refine (bx3 rfl rfl k).trans ?_;rw[hl1,List.append_assoc];rfl
 have l0:∀(l:List AObj)(k:Go.AM.K (AV × Hp)),ldK 1 false (.ptr n 0 0 1) (H++o0::l) k=k (I node):=λl k=>by rw[Z01,show n=n+0 from rfl,gt];rw[ho0];rfl
 have l1:∀(l:List AObj)(k:Go.AM.K (AV × Hp)),ldK 1 false (.ptr n 0 1 1) (H++o0::l) k=k LH:=λl k=>by rw[Z01,show n=n+0 from rfl,gt];rw[ho0,hLH];rfl
 have l2:∀(l:List AObj)(k:Go.AM.K (AV × Hp)),ldK 1 false (.ptr n 0 2 1) (H++o0::l) k=k LM:=λl k=>by rw[Z01,show n=n+0 from rfl,gt];rw[ho0,hLM];rfl
 have d1:∀k:AV→Hp→Ent→Option (AV × Hp),effD (bsE 2 zH 0 [] (H++[o0,.arr 3 [zI] true false]).length) (H++[o0,.arr 3 [zI] true false]) k=k (.sl 2 (n+2) 0 0 0 true) (H++[o0,.arr 3 [zI] true false,.arr 2 [] true false]) ([],[n+2]):=λk=>by
  rw[hl2];simp[bsE,fillS,effD,ap,wrOf,hl2]
 have rH:∀h:Hp,readSl h LH=some (heard.map encH):=λh=>by rw[hLH];rfl
 have rM:∀h:Hp,readSl h LM=some (msgs.map encM):=λh=>by rw[hLM];rfl
 have aH:((heard.map encH).all λe=>e.length==2)=true:=by rw[List.all_eq_true];intro e he;obtain ⟨x,-,rfl⟩:=List.mem_map.1 he;rfl
 have aM:((msgs.map encM).all λe=>e.length==7)=true:=by rw[List.all_eq_true];intro e he;obtain ⟨x,-,rfl⟩:=List.mem_map.1 he;rfl
 have iH:idsOf LH=[]:=by rw[hLH];rfl
 have iM:idsOf LM=[]:=by rw[hLM];rfl
 have d2:∀k:AV→Hp→Ent→Option (AV × Hp),effD (appE 2 16 (.sl 2 (n+2) 0 0 0 true) LH (H++[o0,.arr 3 [zI] true false,.arr 2 [] true false]) (H++[o0,AObj.arr 3 [zI] true false,.arr 2 [] true false]).length) (H++[o0,.arr 3 [zI] true false,.arr 2 [] true false]) k=k (.sl 2 (n+3) 0 heard.length heard.length false) (H++[o0,.arr 3 [zI] true false,.arr 2 [] true false,.arr 2 (heard.map encH) true false]) ([n+2],[n+3]):=λk=>by
  have:appE 2 16 (.sl 2 (n+2) 0 0 0 true) LH (H++[o0,.arr 3 [zI] true false,.arr 2 [] true false]) (n+3)=some (.sl 2 (n+3) 0 heard.length heard.length false,⟨[],[.arr 2 (heard.map encH) true false],[n+2]⟩):=by
   unfold appE;rw[rH]
   simp only[gt];simp only[List.getElem?_cons_succ,List.getElem?_cons_zero,List.length_map,List.length_nil];rw[if_pos ⟨trivial,trivial,by omega,aH⟩,if_pos ⟨trivial,by omega,.inl trivial⟩]
   simp[iH]
  rw[hl3,this];simp[effD,ap,wrOf,hl3]
 have d3:∀k:AV→Hp→Ent→Option (AV × Hp),effD (bsE 7 [I 0,I 0,I 0,I 0,I 0,I 0,I 0] 0 [] (H++[o0,.arr 3 [zI] true false,.arr 2 [] true false,.arr 2 (heard.map encH) true false]).length) (H++[o0,.arr 3 [zI] true false,.arr 2 [] true false,.arr 2 (heard.map encH) true false]) k=k (.sl 7 (n+4) 0 0 0 true) (H++[o0,.arr 3 [zI] true false,.arr 2 [] true false,.arr 2 (heard.map encH) true false,.arr 7 [] true false]) ([],[n+4]):=λk=>by
  rw[hl4];simp[bsE,fillS,effD,ap,wrOf,hl4]
 have d4:∀k:AV→Hp→Ent→Option (AV × Hp),effD (appE 7 56 (.sl 7 (n+4) 0 0 0 true) LM (H++[o0,.arr 3 [zI] true false,.arr 2 [] true false,.arr 2 (heard.map encH) true false,.arr 7 [] true false]) (H++[o0,AObj.arr 3 [zI] true false,.arr 2 [] true false,.arr 2 (heard.map encH) true false,.arr 7 [] true false]).length) (H++[o0,.arr 3 [zI] true false,.arr 2 [] true false,.arr 2 (heard.map encH) true false,.arr 7 [] true false]) k=k (.sl 7 (n+5) 0 msgs.length msgs.length false) (H++[o0,.arr 3 [zI] true false,.arr 2 [] true false,.arr 2 (heard.map encH) true false,.arr 7 [] true false,.arr 7 (msgs.map encM) true false]) ([n+4],[n+5]):=λk=>by
  have:appE 7 56 (.sl 7 (n+4) 0 0 0 true) LM (H++[o0,.arr 3 [zI] true false,.arr 2 [] true false,.arr 2 (heard.map encH) true false,.arr 7 [] true false]) (n+5)=some (.sl 7 (n+5) 0 msgs.length msgs.length false,⟨[],[.arr 7 (msgs.map encM) true false],[n+4]⟩):=by
   unfold appE;rw[rM]
   simp only[gt];simp only[List.getElem?_cons_succ,List.getElem?_cons_zero,List.length_map,List.length_nil];rw[if_pos ⟨trivial,trivial,by omega,aM⟩,if_pos ⟨trivial,by omega,.inl trivial⟩]
   simp[iM]
  rw[hl5,this];simp[effD,ap,wrOf,hl5]
 have bK:∀k:Go.AM.K (AV × Hp),buildK zI [(some (0,1),I node),(some (1,1),.sl 2 (n+3) 0 heard.length heard.length false),(some (2,1),.sl 7 (n+5) 0 msgs.length msgs.length false)] k=k (.agg [I node,.sl 2 (n+3) 0 heard.length heard.length false,.sl 7 (n+5) 0 msgs.length msgs.length false]):=λk=>rfl
 have d5:∀k:AV→Hp→Ent→Option (AV × Hp),effD (stE 3 (.ptr (n+1) 0 0 1) (.agg [I node,.sl 2 (n+3) 0 heard.length heard.length false,.sl 7 (n+5) 0 msgs.length msgs.length false]) (H++[o0,.arr 3 [zI] true false,.arr 2 [] true false,.arr 2 (heard.map encH) true false,.arr 7 [] true false,.arr 7 (msgs.map encM) true false])) (H++[o0,.arr 3 [zI] true false,.arr 2 [] true false,.arr 2 (heard.map encH) true false,.arr 7 [] true false,.arr 7 (msgs.map encM) true false]) k=k .u (H++[o0,.arr 3 [[I node,.sl 2 (n+3) 0 heard.length heard.length false,.sl 7 (n+5) 0 msgs.length msgs.length false]] true false,.arr 2 [] true false,.arr 2 (heard.map encH) true false,.arr 7 [] true false,.arr 7 (msgs.map encM) true false]) ([n+1],[n+1]):=λk=>by
  have:stE 3 (.ptr (n+1) 0 0 1) (.agg [I node,.sl 2 (n+3) 0 heard.length heard.length false,.sl 7 (n+5) 0 msgs.length msgs.length false]) (H++[o0,.arr 3 [zI] true false,.arr 2 [] true false,.arr 2 (heard.map encH) true false,.arr 7 [] true false,.arr 7 (msgs.map encM) true false])=some (.u,⟨[(n+1,.arr 3 [[I node,.sl 2 (n+3) 0 heard.length heard.length false,.sl 7 (n+5) 0 msgs.length msgs.length false]] true false)],[],[n+1]⟩):=by
   rw[Z0f,gt];simp[putAt]
  rw[Z0h this,st']
  rfl
 have dj:disjAll [(1,2),(2,4),(1,5),(1,6),(2,6),(4,6),(5,6),(2,8),(5,8),(6,8),(1,9)] [([],[]),(idsOf (.ptr n 0 0 1),[]),([],[n+2]),([],[]),(idsOf (.ptr n 0 1 1),[]),([n+2],[n+3]),([],[n+4]),([],[]),(idsOf (.ptr n 0 2 1),[]),([n+4],[n+5]),([],[]),([n+1],[n+1])]=true:=by
  simp[disjAll,disj2,idsOf]
 have lw:∀(l:List AObj)(o:AObj)(k:Go.AM.K (AV × Hp)),ldK 3 true (.ptr (n+1) 0 0 1) (H++o :: .arr 3 [[I node,.sl 2 (n+3) 0 heard.length heard.length false,.sl 7 (n+5) 0 msgs.length msgs.length false]] true false::l) k=k (.agg [I node,.sl 2 (n+3) 0 heard.length heard.length false,.sl 7 (n+5) 0 msgs.length msgs.length false]):=λl o k=>by rw[Z01,gt];rfl
 simp -implicitDefEqProofs only[Z5R,x0,x1,Z04,Nat.zero_add,l0,d1,l1,d2,d3,l2,d4,bK,d5,dj,cond_true,lw]
theorem ZgF(b1 b2:Bool)(i:Inbx)(hl:i.heard.length<100000)(hm:i.msgs.length<100000)(h:Hp):Z4h [ib b1 b2 i] h=some (ib false false i,h):=by
 refine (Zys (a0:=ib b1 b2 i) (v:=ib false false i) rfl ?_ h).trans rfl;have hr:=ZmE b1 b2 i hl hm [];have hK:=(Zg9 (λv g=>cvt false g v) (ib b1 b2 i) []).symm
 show Z5R Tryz.prog Z6U Z6T NN (λv g=>cvt false g v) (ib b1 b2 i) []=_
 rw[hK,hr];show cvt false _ (.agg [I i.node,.sl 2 3 0 i.heard.length i.heard.length false,.sl 7 5 0 i.msgs.length i.msgs.length false])=_
 simp only[Z3s,Z1b,Z1a,cvt_s];rw[Z0X (st:=false) (es:=i.heard.map encH) (nl:=false) rfl (by simp) (by simp) (Z0U λx=>by simp[encH]),Z0X (st:=false) (es:=i.msgs.map encM) (nl:=false) rfl (by simp) (by simp) (Z0U λx=>by simp[encM])]
 rfl
def lastLt(p:Option Hrd)(x:Hrd):Bool:=match p with | some q => !ltH q x | none=>false
theorem ZmF(node:Int)(p:Option Hrd)(x:Hrd)(r:List Hrd):chkH node p (x::r)=if (!isNode x.frm||decide (x.num<1)||decide (x.num > 1073741824))=true then 2 else if x.frm=node then 10 else if lastLt p x=true then 5 else chkH node (some x) r:=by
 rw[Zmb];cases p with
 | none=>rfl
 | some q=>
  have:decide (cmpH q x≥0)=lastLt (some q) x:=by
   unfold lastLt ltH;by_cases h:cmpH q x<0
   ·simp[h]
   ·simp[h];omega
  simp only[this]
theorem ZD0{x0:Kb AV}{xr:Kb AV}{X:Option AV}{X2:Int→Option AV}{i:Inbx}{c1 c2:Bool}(hl:i.heard.length<1000000)(h0:∀h:Hp,h[0]? = some (bxI c1 c2 i)→x0 (.ptr 0 0 0 1) h=X)(hr:∀(e:Int) h,xr (I e) h=X2 e):∀(n:Nat)(pre post:List Hrd)(h:Hp),i.heard=pre++post→post.length<n→h[0]? = some (bxI c1 c2 i)→
  Z4D Tryz.prog Z2V Z5u NN x0 xr n (.ptr 0 0 0 1) (I pre.length) h=if chkH i.node pre.getLast? post=0 then X else X2 (chkH i.node pre.getLast? post):=by
 intro n;induction n with
 | zero=>intro pre post h _ h2;omega
 | succ n ih=>
  intro pre post h hc hn g0;show Z7W Tryz.prog Z2V Z5u NN (Z4D Tryz.prog Z2V Z5u NN x0 xr n) x0 xr _ _ h=_
  have g1:∀k:KV,ldK 1 false (.ptr 0 0 1 1) h k=k (SL 2 encH c1 i.heard):=λk=>by rw[Z01,g0];rfl
  have ln:∀k:KV,lenK (SL 2 encH c1 i.heard) k=k (I i.heard.length):=λk=>by rw[SL,Z07,List.length_map]
  cases post with
  | nil=>
   have:i.heard=pre:=by simpa using hc
   have c1:¬((pre.length:Int)<(i.heard.length:Int)):=by rw[this];omega
   simp -implicitDefEqProofs only[Z7W,Z04,Nat.zero_add,g1,ln,Z05,c1,decide_false,Z00,Bool.false_eq_true,if_false,Zgx,if_true]
   exact h0 h g0
  | cons x post=>
   have hx:i.heard[pre.length]? = some x:=by rw[hc];simp
   have hi:pre.length<i.heard.length:=by rw[hc];simp
   have hlt:((pre.length:Int)<(i.heard.length:Int)):=by omega
   have hw:IntKind.i64.wrap ((pre.length:Int)+1)=(((pre++[x]).length:Nat):Int):=by rw[wrap64 (by omega) (by omega)];simp
   have ic:∀k:KV,iaK 2 (SL 2 encH c1 i.heard) (I pre.length) k=k (.ep (encH x) 0):=λk=>Z0M pre.length rfl hx k
   have ld:∀k:KV,ldK 2 true (.ep (encH x) 0) h k=k (.agg (encH x)):=λk=>rfl
   obtain ⟨y,hy⟩:∃y,y=h++[AObj.arr 2 [encH x] true false]:=⟨_,rfl⟩;have bx:∀k:Kb AV,effK (boxE 2 (.agg zH) h.length) h k=k (.ptr h.length 0 0 1) (h++[.arr 2 [zH] true false]):=λk=>Z2F 2 h.length (.agg zH) h k rfl rfl rfl
   have ns:∀k:Kb AV,effK (stE 2 (.ptr h.length 0 0 1) (.agg (encH x)) (h++[.arr 2 [zH] true false])) (h++[.arr 2 [zH] true false]) k=k .u y:=λk=>by
    rw[Z0d (v := .u) (id:=h.length) (o := .arr 2 [encH x] true false) (ft:=[h.length]) (by simp[encH]),Z3r,hy];rfl
   have hb:y[h.length]? = some (.arr 2 [encH x] true false):=by rw[hy,Z0R];rfl
   have y0:y[0]? = some (bxI c1 c2 i):=by rw[hy];exact Z0a g0
   have l0:∀k:KV,ldK 1 false (.ptr h.length 0 0 1) y k=k (I x.frm):=λk=>by rw[Z01,hb];rfl
   have l1:∀k:KV,ldK 1 false (.ptr h.length 0 1 1) y k=k (I x.num):=λk=>by rw[Z01,hb];rfl
   have lw:∀k:KV,ldK 2 true (.ptr h.length 0 0 1) y k=k (.agg (encH x)):=λk=>by rw[Z01,hb];rfl
   have b0:∀k:KV,ldK 1 false (.ptr 0 0 0 1) y k=k (I i.node):=λk=>by rw[Z01,y0];rfl
   have b1:∀k:KV,ldK 1 false (.ptr 0 0 1 1) y k=k (SL 2 encH c1 i.heard):=λk=>by rw[Z01,y0];rfl
   have fn:=Z4p x.frm
   have grp:∀k:Kb AV,(arithK .gtr (I pre.length) (I 0) λx75=>grpK true x75 y (λk76=>ldK 2 true (.ptr h.length 0 0 1) y λx77=>ldK 1 false (.ptr 0 0 1 1) y λx79=>arithK .sub (I pre.length) (I 1) λx80=>iaK 2 x79 x80 λx81=>ldK 2 true x81 y λx82=>callK (Z2V 59) [x77,x82] y λx83 h84=>notK x83 λx85=>k76 x85 h84) k)=k (B (lastLt pre.getLast? x)) y:=λk=>by
    by_cases hp:pre.length=0
    ·have:pre=[]:=List.eq_nil_of_length_eq_zero hp
     subst this;simp -implicitDefEqProofs only[Z0g,List.length_nil,show ¬(((0:Nat):Int) > 0) by omega,decide_false]
     rfl
    ·have c0:(pre.length:Int) > 0:=by omega
     obtain ⟨p,hm⟩:∃p,p=pre.length-1:=⟨_,rfl⟩;have hwm:IntKind.i64.wrap ((pre.length:Int)-1)=(p:Int):=by rw[wrap64 (by omega) (by omega)];omega
     obtain ⟨z,hz⟩:∃z,pre.getLast? = some z:=by
      cases hq:pre.getLast? with
      | none=>rw[List.getLast?_eq_none_iff] at hq;rw[hq] at hp;exact absurd rfl hp
      | some z=>exact ⟨z,rfl⟩
     have hzm:i.heard[p]? = some z:=by
      rw[hc,List.getElem?_append_left (by omega),hm, ← List.getLast?_eq_getElem?,hz]
     have im:∀k:KV,iaK 2 (SL 2 encH c1 i.heard) (I p) k=k (.ep (encH z) 0):=λk=>Z0M p rfl hzm k
     have lm:∀k:KV,ldK 2 true (.ep (encH z) 0) y k=k (.agg (encH z)):=λk=>rfl
     have fh:=ZmD x z;rw[hz];simp -implicitDefEqProofs only[Z0g,c0,decide_true,b1,Z1U,hwm,im,lm,lw,Zzp,Z02,fh,Z0L]
     rfl
   rw[ZmF];simp -implicitDefEqProofs only[Z7W,Z04,Nat.zero_add,g1,ln,Z05,hlt,decide_true,Z00,if_true,ic,ld,bx,ns,l0,Zlz,Z02,fn,Z0L,l1,Z0g,Z0J];by_cases q1:(!isNode x.frm||decide (x.num<1)||decide (x.num > 1073741824))=true
   ·rw[if_pos q1,if_pos q1]
    simp -implicitDefEqProofs only[hr]
    rfl
   ·rw[if_neg q1,if_neg q1]
    simp -implicitDefEqProofs only[b0,Z03,Bool.false_xor,Z00]
    by_cases q2:x.frm=i.node
    ·have e2:(x.frm==i.node)=true:=by simp[q2]
     rw[if_pos q2];simp -implicitDefEqProofs only[e2,if_true,hr]
     rfl
    ·have e2:(x.frm==i.node)=false:=by simp[q2]
     rw[if_neg q2];simp -implicitDefEqProofs only[e2,Bool.false_eq_true,if_false];simp only[Z0g] at grp;rw[grp];simp -implicitDefEqProofs only[Z00];by_cases q3:lastLt pre.getLast? x=true
     ·rw[if_pos q3,if_pos q3]
      simp -implicitDefEqProofs only[hr]
      rfl
     ·rw[if_neg q3,if_neg q3]
      simp -implicitDefEqProofs only[Z0e,hw]
      refine (ih (pre++[x]) post y (by simpa using hc) (by simpa using hn) y0).trans ?_
      simp
theorem ZgG(b1 b2:Bool)(i:Inbx)(hl:i.heard.length<1000000)(hm:i.msgs.length<1000)(h:Hp):Z3M [ib b1 b2 i] h=some (I (chkI i),h):=by
 refine Zzt (a0:=ib b1 b2 i) rfl ?_ h;rw[show nrm (.a [none,some 2,some 7]) (ib b1 b2 i)=ib b1 b2 i from rfl];obtain ⟨H,hH⟩:∃H:Hp,H=[bxI b1 b2 i]:=⟨_,rfl⟩;have bx:∀k:Kb AV,effK (boxE 3 (ib b1 b2 i) ([]:Hp).length) [] k=k (.ptr 0 0 0 1) H:=λk=>by rw[hH];rfl
 have ld:∀(H:Hp),H[0]? = some (bxI b1 b2 i)→(∀k:KV,ldK 1 false (.ptr 0 0 0 1) H k=k (I i.node))∧(∀k:KV,ldK 1 false (.ptr 0 0 1 1) H k=k (SL 2 encH b1 i.heard))∧(∀k:KV,ldK 1 false (.ptr 0 0 2 1) H k=k (SL 7 encM b2 i.msgs)):=λH H0=>⟨λk=>by rw[Z01,H0];rfl,λk=>by rw[Z01,H0];rfl,λk=>by rw[Z01,H0];rfl⟩
 have H0:H[0]? = some (bxI b1 b2 i):=by rw[hH];rfl
 obtain ⟨l0,l1,l2⟩:=ld H H0;have fn:=Z4p i.node;have lna:∀k:KV,lenK (SL 2 encH b1 i.heard) k=k (I i.heard.length):=λk=>by rw[SL,Z07,List.length_map]
 have lnb:∀k:KV,lenK (SL 7 encM b2 i.msgs) k=k (I i.msgs.length):=λk=>by rw[SL,Z07,List.length_map]
 unfold chkI;simp -implicitDefEqProofs only[Z7X,bx,Z04,Nat.zero_add,l0,l1,l2,Zlz,Z02,fn,Z0L,Z00,lna,lnb,Z0g,Z0J]
 cases hn:isNode i.node with
 | false=>rfl
 | true=>
  simp -implicitDefEqProofs only[Bool.not_true,Bool.false_eq_true,if_false]
  by_cases h8:256<i.heard.length∨64<i.msgs.length
  ·have e:(decide ((i.heard.length:Int) > 256)||decide ((i.msgs.length:Int) > 64))=true:=by simp;omega
   rw[if_pos h8];simp -implicitDefEqProofs only[e,if_true]
   rfl
  ·have e:(decide ((i.heard.length:Int) > 256)||decide ((i.msgs.length:Int) > 64))=false:=by simp;omega
   rw[if_neg (show ¬(true=false) by simp),if_neg h8]
   simp -implicitDefEqProofs only[e,Bool.false_eq_true,if_false]
   refine (ZD0 (c1:=b1) (c2:=b2) (X:=some (I (if errM i.msgs≠0∨normL i.msgs≠i.msgs then 1 else if i.heard.length<i.msgs.length then 10 else 0))) (X2:=λe=>some (I e)) hl (λh hh => ?_) (λe h=>rfl) NN [] i.heard H rfl (by have:=NN_ge;omega) H0).trans ?_
   ·obtain ⟨k0,k1,k2⟩:=ld h hh
    have fN:=ZCA i.msgs (b2&&i.msgs.isEmpty) (by omega)
    have tp:∀(a b:AV)(k:KV),exK (.tup [a,b]) 0 k=k a:=λa b k=>rfl
    have tq:∀(a b:AV)(k:KV),exK (.tup [a,b]) 1 k=k b:=λa b k=>rfl
    unfold normR' at fN
    simp -implicitDefEqProofs only[Zb8,Z04,Nat.zero_add,k1,k2,Zzq,Z02,fN,tp,tq,Z03,Bool.true_xor]
    by_cases z:errM i.msgs=0
    ·have ez:(!(errM i.msgs==0))=false:=by simp[z]
     have hnl:=Z4s i.msgs;have fE:=ZmA (normL i.msgs) i.msgs false (b2&&i.msgs.isEmpty) (by omega)
     have ex:(if errM i.msgs=0 then AV.lst 7 false ((normL i.msgs).map encM) else .lst 7 true []) = .lst 7 false ((normL i.msgs).map encM):=if_pos z
     simp -implicitDefEqProofs only[ez,ex,ZaJ,Zzo,Z02,fE,Z0L,Z00,lna,lnb,Z0g]
     by_cases q:normL i.msgs=i.msgs
     ·have e1:(!decide (normL i.msgs=i.msgs))=false:=by simp[q]
      have rr:¬(errM i.msgs≠0∨normL i.msgs≠i.msgs):=by simp[z,q]
      simp -implicitDefEqProofs only[e1,Bool.false_eq_true,if_false]
      by_cases q2:i.heard.length<i.msgs.length
      ·have c:(i.msgs.length:Int) > (i.heard.length:Int):=by omega
       simp -implicitDefEqProofs only[k1,k2,lna,lnb,Z0g,Z00,c,decide_true,if_true,if_neg rr,if_pos q2]
       rfl
      ·have c:¬((i.msgs.length:Int) > (i.heard.length:Int)):=by omega
       simp -implicitDefEqProofs only[k1,k2,lna,lnb,Z0g,Z00,c,decide_false,Bool.false_eq_true,if_false,if_neg rr,if_neg q2]
       rfl
     ·have e1:(!decide (normL i.msgs=i.msgs))=true:=by simp[q]
      have rr:(errM i.msgs≠0∨normL i.msgs≠i.msgs) := .inr q;simp -implicitDefEqProofs only[e1,if_true,if_pos rr]
      rfl
    ·have ez:(!(errM i.msgs==0))=true:=by simp[z]
     have rr:(errM i.msgs≠0∨normL i.msgs≠i.msgs) := .inl z;simp -implicitDefEqProofs only[ez,Zfd,Z00,if_true,if_pos rr]
     rfl
   ·show (if chkH i.node none i.heard=0 then _ else _)=_
    by_cases z:chkH i.node none i.heard=0
    ·rw[if_pos z,if_neg (show ¬chkH i.node none i.heard≠0 from λhh=>hh z)]
    ·rw[if_neg z,if_pos (show chkH i.node none i.heard≠0 from z)];rfl
end Go.AM


namespace Go.AM
open Go.RowKit
def mu0(w:World):Mu:=⟨λ_ => .virt none,w,λk=>k<w.heap.size⟩
theorem rel0(w:World):Rel (mu0 w) [] w where
 obj:=λid o h=>by simp at h
 sep:=λi j o p b x c y d h=>by simp at h
 apart:=λi sz es nil b x c h=>by simp at h
 imm:=λk hk=>⟨hk,rfl,λ⟨id,o,off,c,h,_⟩=>by simp at h⟩
theorem own0(w:World)(b:Nat):¬Own (mu0 w) [] b:=λ⟨id,o,off,c,h,_⟩=>by simp at h
theorem below0{w w':World}{μ':Mu}{h':Hp}(s:Step (mu0 w) [] w μ' h' w'):Below w.heap.size w w':=
 ⟨s.frame.os,s.frame.tape,s.frame.output,s.frame.size,λk hk=>s.frame.block k hk (own0 w k)⟩
theorem row_calls{P:Program}{f:FuncId}{F:Fun}{args:List AV}{h':Hp}{b:Bool}{W:World}{cargs:Array Value}(hc:CSound P f F)(hF:F args []=some (.s (.bool b),h'))(hv:VRs (mu0 W) [] args cargs.toList):
  Calls P f cargs W λe W'=>e = .returned (.bool b)∧Below W.heap.size W W':=by
 refine (hc args [] _ h' hF (mu0 W) W cargs (rel0 W) hv).2.mono λe W' => ?_
 rintro ⟨cv,μ',rfl,s,hr⟩
 simp only[VR] at hr;exact ⟨by rw[hr.2],below0 s⟩

inductive Ty where
 | int (k:IntKind)
 | bool
 | str
 | sl (e:List Ty)
def tyFs(f:TypeId→Option (List Ty))(size:TypeId→Nat):List Field→Nat→Option (List Ty)
 | [],_=>some []
 | x::l,pos=>match f x.type,tyFs f size l (pos+size x.type) with
  | some a,some b=>if x.offset=pos∧a.length=size x.type then some (a++b) else none
  | _,_=>none
def tyOf(P:Program):Nat→TypeId→Option (List Ty)
 | 0,_=>none
 | n+1,t=>match P.underlying t with
  | some .bool=>some [.bool]
  | some (.int k)=>some [.int k]
  | some .string=>some [.str]
  | some (.slice e)=>match tyOf P n e with
   | some l=>if l.length=P.cellsOf e∧0<l.length then some [.sl l] else none
   | none=>none
  | some (.struct fs)=>match tyFs (tyOf P n) P.cellsOf fs.toList 0 with
   | some l=>if l.length=P.cellsOf t then some l else none
   | none=>none
  | some (.array m e)=>match tyOf P n e with
   | some l=>if l.length=P.cellsOf e∧m * P.cellsOf e=P.cellsOf t then some (List.replicate m l).flatten else none
   | none=>none
  | _=>none
mutual
def HasT:Ty→AV→Prop
 | .int k,a=>∃n,a = .s (.int k n)∧(Lit.int k n).wf=true
 | .bool,a=>∃b,a = .s (.bool b)
 | .str,a=>∃s:ByteArray,a = .s (.string s)∧s.size≤maxLen
 | .sl ts,a=>∃nil es,a = .lst ts.length nil es∧(nil=true→es=[])∧es.length≤maxLen∧∀e ∈ es,HasTs ts e
def HasTs:List Ty→List AV→Prop
 | [],asl=>asl=[]
 | t::ts,asl=>∃a as',asl=a::as'∧HasT t a∧HasTs ts as'
end
theorem HasTs.app:∀{ts us:List Ty}{asl bs:List AV},HasTs ts asl→HasTs us bs→HasTs (ts++us) (asl++bs)
 | [],us,asl,bs,h,k=>by simp only[HasTs] at h;subst h;exact k
 | t::ts,us,asl,bs,h,k=>by
  simp only[HasTs] at h;obtain ⟨a,as',rfl,h1,h2⟩:=h
  simp only[List.cons_append,HasTs];exact ⟨a,_,rfl,h1,HasTs.app h2 k⟩
theorem HasTs.len:∀{ts:List Ty}{asl:List AV},HasTs ts asl→asl.length=ts.length
 | [],asl,h=>by simp only[HasTs] at h;subst h;rfl
 | t::ts,asl,h=>by
  simp only[HasTs] at h;obtain ⟨a,as',rfl,h1,h2⟩:=h
  simp[HasTs.len h2]
theorem HasT.ok:∀{t:Ty}{a:AV},HasT t a→okC a=true
 | .int k,a,h=>by simp only[HasT] at h;obtain ⟨n,rfl,_⟩:=h;rfl
 | .bool,a,h=>by simp only[HasT] at h;obtain ⟨n,rfl⟩:=h;rfl
 | .str,a,h=>by simp only[HasT] at h;obtain ⟨n,rfl,_⟩:=h;rfl
 | .sl ts,a,h=>by simp only[HasT] at h;obtain ⟨n,es,rfl,_⟩:=h;rfl
theorem HasTs.ok:∀{ts:List Ty}{asl:List AV},HasTs ts asl→∀x ∈ asl,okC x=true
 | [],asl,h,x,hx=>by simp only[HasTs] at h;subst h;simp at hx
 | t::ts,asl,h,x,hx=>by
  simp only[HasTs] at h;obtain ⟨a,as',rfl,h1,h2⟩:=h
  rcases List.mem_cons.1 hx with rfl | hx
  ·exact h1.ok
  ·exact h2.ok x hx
theorem ZgH{μ:Mu}{h:Hp}:∀{asl bs:List AV}{cs ds:List Value},VRs μ h asl cs→VRs μ h bs ds→VRs μ h (asl++bs) (cs++ds)
 | [],bs,cs,ds,h1,h2=>by simp only[VRs] at h1;subst h1;exact h2
 | a::asl,bs,cs,ds,h1,h2=>by
  simp only[VRs] at h1;obtain ⟨v,vs,rfl,h3,h4⟩:=h1
  simp only[List.cons_append,VRs];exact ⟨v,_,rfl,h3,ZgH h4 h2⟩
section
variable {H:Type} {enc:TypeId × Value→H} {P:Program} {w:World} {base:Nat} {spare:Nat→Bool} {held:Bool}
def Opened(w:World)(ts:List Ty)(cs:List Value):Prop:=∃asl,HasTs ts asl∧VRs (mu0 w) [] asl cs∧∀u ∈ cs,u.oneCell'=true
theorem Z7d{t:Ty}{u:Value}{a:AV}(h1:HasT t a)(h2:VR (mu0 w) [] a u)(h3:u.oneCell'=true):Opened w [t] [u]:=
 ⟨[a],by simp only[HasTs];exact ⟨a,[],rfl,h1,rfl⟩,by simp only[VRs];exact ⟨u,[],rfl,h2,rfl⟩,by simpa using h3⟩
theorem ZmG{f:TypeId→Option (List Ty)}{g:TypeId→List Value→Prop}{cs:List Value}(hg:∀t ts cs',f t=some ts→g t cs'→Opened w ts cs'):∀(l:List Field)(pos:Nat)(ts:List Ty),tyFs f P.cellsOf l pos=some ts→
  (∀x ∈ l,g x.type ((cs.drop x.offset).take (P.cellsOf x.type)))→Opened w ts ((cs.drop pos).take ts.length)
 | [],pos,ts,h,_=>by
  simp only[tyFs,Option.some.injEq] at h;subst h
  exact ⟨[],rfl,rfl,by simp⟩
 | x::l,pos,ts,h,hx=>by
  simp only[tyFs] at h;split at h
  ·rename_i a b h1 h2
   split at h
   ·rename_i hc
    simp only[Option.some.injEq] at h;subst h
    obtain ⟨h3,h4⟩:=hc;obtain ⟨asl,p1,p2,p3⟩:=hg _ _ _ h1 (hx x (by simp))
    obtain ⟨bs,q1,q2,q3⟩:=ZmG hg l _ b h2 (λy hy=>hx y (by simp[hy]))
    have e:(cs.drop pos).take (a++b).length=(cs.drop x.offset).take (P.cellsOf x.type)++(cs.drop (pos+P.cellsOf x.type)).take b.length:=by
     rw[List.length_append,h4,h3, ← List.drop_drop,List.take_add]
    rw[e];refine ⟨asl++bs,p1.app q1,ZgH p2 q2, ?_⟩
    intro u hu;rcases List.mem_append.1 hu with hu | hu
    ·exact p3 u hu
    ·exact q3 u hu
   ·simp at h
  ·simp at h
theorem ZmH{ts:List Ty}{sz:Nat}{cs:List Value}:∀(n i0:Nat),(∀i,i<n→Opened w ts ((cs.drop ((i0+i) * sz)).take sz))→Opened w (List.replicate n ts).flatten ((cs.drop (i0 * sz)).take (n * sz))
 | 0,i0,_=>⟨[],rfl,by simp[VRs],by simp⟩
 | n+1,i0,h=>by
  obtain ⟨asl,p1,p2,p3⟩:=h 0 (by omega)
  obtain ⟨bs,q1,q2,q3⟩:=ZmH n (i0+1) (λi hi=>by have:=h (i+1) (by omega);rwa [show i0+(i+1)=i0+1+i by omega] at this)
  have e:(cs.drop (i0 * sz)).take ((n+1) * sz)=(cs.drop (i0 * sz)).take sz++(cs.drop ((i0+1) * sz)).take (n * sz):=by
   rw[show (n+1) * sz=sz+n * sz by rw[Nat.add_mul];omega,show (i0+1) * sz=i0 * sz+sz by rw[Nat.add_mul];omega, ← List.drop_drop,List.take_add]
  rw[e,List.replicate_succ,List.flatten_cons];refine ⟨asl++bs,p1.app q1,ZgH p2 q2, ?_⟩
  intro u hu;rcases List.mem_append.1 hu with hu | hu
  ·exact p3 u hu
  ·exact q3 u hu
theorem ZmI{ts:List Ty}{sz b:Nat}(hts:ts.length=sz):∀(n o:Nat),(∀i,i<n→∃cs,Opened w ts cs∧cs.length=sz∧∀j u,cs[j]? = some u→w.cell? ⟨b,o+i * sz+j,none⟩=some u)→
  ∃es vs,es.length=n∧(∀e ∈ es,HasTs ts e)∧VRf (mu0 w) [] es vs∧∀j u,vs[j]? = some u→w.cell? ⟨b,o+j,none⟩=some u∧u.oneCell'=true
 | 0,o,h=>⟨[],[],rfl,by simp,rfl,by simp⟩
 | n+1,o,h=>by
  obtain ⟨cs,⟨asl,h1,h2,h3⟩,h4,h5⟩:=h 0 (by omega)
  obtain ⟨es,vs,k1,k2,k3,k4⟩:=ZmI hts n (o+sz) (λi hi=>by
   obtain ⟨cs',q1,q2,q3⟩:=h (i+1) (by omega)
   refine ⟨cs',q1,q2,λj u hu => ?_⟩
   rw[← q3 j u hu];congr 2
   rw[Nat.add_mul];omega)
  refine ⟨asl::es,cs++vs,by simp[k1], ?_, ?_, ?_⟩
  ·intro e he
   rcases List.mem_cons.1 he with rfl | he
   ·exact h1
   ·exact k2 e he
  ·simp only[VRf];exact ⟨cs,vs,rfl,h2,k3⟩
  ·intro j u hj
   by_cases hlt:j<cs.length
   ·rw[List.getElem?_append_left hlt] at hj
    have:=h5 j u hj
    exact ⟨by simpa using this,h3 u (List.mem_of_getElem? hj)⟩
   ·rw[List.getElem?_append_right (by omega)] at hj
    have:=k4 _ _ hj
    rw[show o+sz+(j-cs.length)=o+j by omega] at this
    exact this
theorem ZD1{a:Addr}{v:Value}(h:w.cell? a=some v):a.block<w.heap.size:=by
 rcases Nat.lt_or_ge a.block w.heap.size with h1 | h1
 ·exact h1
 ·have:w.heap[a.block]? = none:=by simpa using h1
  simp[World.cell?,this] at h
theorem ZeF:∀(fuel n:Nat)(t:TypeId)(ts:List Ty)(cs:List Value)(x:DataW H × List MemPlace),tyOf P n t=some ts→DataW.trod enc P w base spare held fuel t cs=some x→Opened w ts cs
 | 0,n,t,ts,cs,x,_,h=>by simp[DataW.trod] at h
 | fuel+1,0,t,ts,cs,x,h0,_=>by simp[tyOf] at h0
 | fuel+1,n+1,t,ts,cs,x,h0,h=>by
  unfold tyOf at h0;cases hu:P.underlying t with
  | none=>rw[hu] at h0;simp at h0
  | some T=>
   rw[hu] at h0;cases T with
   | bool=>
    simp only[Option.some.injEq] at h0;subst h0
    obtain ⟨b,rfl,_⟩:=DataW.trod_bool hu h;exact Z7d (a := .s (.bool b)) (by simp[HasT]) (by simp[VR,gv]) rfl
   | int k=>
    simp only[Option.some.injEq] at h0;subst h0
    obtain ⟨m,rfl,_,hw⟩:=DataW.trod_int hu h;exact Z7d (a := .s (.int k m)) (by simp[HasT,hw]) (by simp[VR,gv]) rfl
   | string=>
    simp only[Option.some.injEq] at h0;subst h0
    obtain ⟨s,rfl,_,hs⟩:=DataW.trod_string hu h;exact Z7d (a := .s (.string s)) (by simp[HasT,hs]) (by simp[VR,gv]) rfl
   | slice e=>
    simp only at h0
    cases he:tyOf P n e with
    | none=>rw[he] at h0;simp at h0
    | some l=>
     rw[he] at h0;simp only at h0
     split at h0
     ·rename_i hl
      simp only[Option.some.injEq] at h0;subst h0
      rcases DataW.trod_slice hu h with ⟨rfl,_⟩ | ⟨a,len,cap,elems,rest,m,hm,rfl,_,hb,h1,h2,h3,h4,_,_⟩
      ·refine Z7d (a := .lst l.length true []) ?_ ?_ rfl
       ·simp only[HasT];exact ⟨true,[],rfl,λ_=>rfl,by simp,by simp⟩
       ·simp only[VR]
        exact ⟨none,0,rfl,by simp,by simp,rfl,λ_=>rfl,by simp,by simp⟩
      ·have hm':m=fuel:=by omega
       subst hm'
       have cell:∀i,i<len→∃cs,Opened w l cs∧cs.length=P.cellsOf e∧∀j,j<P.cellsOf e→w.cell? ((a.add (i * P.cellsOf e)).add j)=cs[j]? := by
        intro i hi;have hi':=h4 i hi
        rw[List.getElem?_eq_getElem (by omega),Option.bind_eq_some_iff] at hi'
        obtain ⟨cs,q1,q2⟩:=hi';have q3:=World.cells?_some q1;exact ⟨cs,ZeF m n e l cs _ he q2,q3.2.1,q3.2.2⟩
       obtain ⟨b,off,spot⟩:=a
       have hsp:len≠0→spot=none:=λhn=>by
        obtain ⟨cs,_,q2,q3⟩:=cell 0 (by omega)
        have q4:=q3 0 (by omega)
        rw[List.getElem?_eq_getElem (by omega)] at q4
        simpa [Addr.add] using World.cell?_spot q4
       by_cases hn:len=0
       ·subst hn
        refine Z7d (a := .lst l.length false []) ?_ ?_ rfl
        ·simp only[HasT];exact ⟨false,[],rfl,λ_=>rfl,by simp,by simp⟩
        ·simp only[VR]
         exact ⟨_,cap,rfl,by simp,h2,rfl,by simp,by simp,by simp⟩
       ·have hs:=hsp hn
        subst hs
        obtain ⟨es,vs,k1,k2,k3,k4⟩:=ZmI (w:=w) (ts:=l) (sz:=P.cellsOf e) (b:=b) hl.1 len off (λi hi=>by
         obtain ⟨cs,q1,q2,q3⟩:=cell i hi;refine ⟨cs,q1,q2,λj u hj => ?_⟩
         have hjl:=(List.getElem?_eq_some_iff.1 hj).1;have:=q3 j (by omega)
         rw[hj] at this;rw[← this,Go.WideShapes.add_plain,Go.WideShapes.add_plain])
        refine Z7d (a := .lst l.length false es) ?_ ?_ rfl
        ·simp only[HasT];exact ⟨false,es,rfl,by simp,by omega,k2⟩
        ·simp only[VR]
         refine ⟨_,cap,by rw[k1],by omega,h2,rfl,by simp,λe' he'=>⟨(k2 e' he').len,(k2 e' he').ok⟩,λ_=>⟨b,off,vs,rfl, ?_,k3,k4⟩⟩
         obtain ⟨cs,q1,q2,q3⟩:=cell 0 (by omega)
         have q4:=q3 0 (by omega)
         rw[List.getElem?_eq_getElem (by omega)] at q4
         show b<w.heap.size;rw[Go.WideShapes.add_plain,Go.WideShapes.add_plain] at q4;exact ZD1 q4
     ·simp at h0
   | struct fs=>
    simp only at h0
    cases he:tyFs (tyOf P n) P.cellsOf fs.toList 0 with
    | none=>rw[he] at h0;simp at h0
    | some l=>
     rw[he] at h0;simp only at h0
     split at h0
     ·rename_i hl
      simp only[Option.some.injEq] at h0;subst h0
      obtain ⟨xs,m,hm,_,h2,h3,h4⟩:=DataW.trod_struct hu h;have hm':m=fuel:=by omega
      subst hm'
      have:=ZmG (w:=w) (P:=P) (f:=tyOf P n) (g:=λt cs'=>∃y,DataW.trod enc P w base spare held m t cs'=some y) (cs:=cs) (λt ts cs' q1 ⟨y,q2⟩=>ZeF m n t ts cs' y q1 q2) fs.toList 0 l he (λy hy=>by
       obtain ⟨i,hi⟩:=List.getElem?_of_mem hy;have hi2:fs[i]? = some y:=by simpa using hi
       have:=h4 i y hi2
       have hlt:i<xs.length:=by rw[h3];exact (Array.getElem?_eq_some_iff.1 hi2).1
       rw[List.getElem?_eq_getElem hlt] at this;exact ⟨_,this⟩)
      rw[List.drop_zero,hl, ← h2,List.take_length] at this;exact this
     ·simp at h0
   | array k e=>
    simp only at h0
    cases he:tyOf P n e with
    | none=>rw[he] at h0;simp at h0
    | some l=>
     rw[he] at h0;simp only at h0
     split at h0
     ·rename_i hl
      simp only[Option.some.injEq] at h0;subst h0
      obtain ⟨xs,m,hm,_,h2,h3,h4⟩:=DataW.trod_array hu h;have hm':m=fuel:=by omega
      subst hm'
      have:=ZmH (w:=w) (ts:=l) (sz:=P.cellsOf e) (cs:=cs) k 0 (λi hi=>by
       have h5:=h4 i hi;rw[List.getElem?_eq_getElem (by omega)] at h5
       have h6:=ZeF m n e l _ _ he h5
       rwa [Nat.zero_add])
      rw[Nat.zero_mul,List.drop_zero,hl.2, ← h2,List.take_length] at this;exact this
     ·simp at h0
   | _=>simp at h0
theorem open_agg{t:TypeId}{fs:Array Field}{r:Reach}{b:Nat}{v:Value}{d:DataW H}{ps:List MemPlace}{n:Nat}{ts:List Ty}(hu:P.underlying t=some (.struct fs))(ht:tyOf P n t=some ts)(hval:Value.okWide P w r b t v)
  (hd:DataW.Trod enc P w base spare held t v d ps):∃asl,HasTs ts asl∧VR (mu0 w) [] (.agg asl) v:=by
 obtain ⟨cs,rfl,_⟩:=WideShapes.okWide_struct hu hval;obtain ⟨fuel,hf⟩:=hd;obtain ⟨asl,h1,h2,_⟩:=ZeF fuel n t ts _ _ ht hf;exact ⟨asl,h1,by simp only[VR];exact ⟨cs,rfl,h2⟩⟩
end
theorem ZmJ{n:Int}(h:(Lit.int .u64 n).wf=true):0≤n∧n≤18446744073709551615:=by
 simp[Lit.wf,IntKind.min,IntKind.max,IntKind.signed,IntKind.bits] at h;omega
theorem ZgI{α:Type}{ts:List Ty}{f:α→List AV}(hf:∀cs,HasTs ts cs→∃x,cs=f x){a:AV}(h:HasT (.sl ts) a):∃(l:List α)(b:Bool),a = .lst ts.length (b&&l.isEmpty) (l.map f):=by
 simp only[HasT] at h;obtain ⟨nil,es,rfl,hn,hm,he⟩:=h
 have:∃l:List α,es=l.map f:=by
  clear hn hm;induction es with
  | nil=>exact ⟨[],rfl⟩
  | cons e es ih=>
   obtain ⟨x,hx⟩:=hf e (he e (by simp))
   obtain ⟨l,hl⟩:=ih (λe' h'=>he e' (by simp[h']))
   exact ⟨x::l,by simp[hx,hl]⟩
 obtain ⟨l,rfl⟩:=this;refine ⟨l,nil, ?_⟩;cases nil with
 | false=>rfl
 | true=>
  have:l=[]:=by simpa using hn rfl
  subst this;rfl
end Go.AM


namespace Go.AM
open Go.Proofs
attribute [local congr] Z0i Z0j Z0k Z0l Z0m Z0n Z0o Z0p Z0q Z0r Z0s Z0t Z0u Z0v Z0w Z0x Z0y Z0z Z0A Z0B Z0C Z0D Z0E Z0F Z0G Z0H Z0I
theorem ZD2{cs:List AV}(h:HasTs [.int .i64,.int .i64,.int .i64,.int .i64,.int .i64,.int .i64,.int .i64] cs):∃p:Msg,cs=encM p:=by
 simp only[HasTs,HasT] at h;obtain ⟨_,_,rfl,⟨a,rfl,_⟩,_,_,rfl,⟨b,rfl,_⟩,_,_,rfl,⟨c,rfl,_⟩,_,_,rfl,⟨d,rfl,_⟩,_,_,rfl,⟨e,rfl,_⟩,_,_,rfl,⟨f,rfl,_⟩,_,_,rfl,⟨g,rfl,_⟩,rfl⟩:=h
 exact ⟨⟨a,b,c,d,e,f,g⟩,rfl⟩
theorem ZD3{cs:List AV}(h:HasTs [.int .i64,.int .i64] cs):∃p:Hrd,cs=encH p:=by
 simp only[HasTs,HasT] at h;obtain ⟨_,_,rfl,⟨a,rfl,_⟩,_,_,rfl,⟨b,rfl,_⟩,rfl⟩:=h
 exact ⟨⟨a,b⟩,rfl⟩
theorem has_Inbx{cs:List AV}(h:HasTs [.int .i64,.sl [.int .i64,.int .i64],.sl [.int .i64,.int .i64,.int .i64,.int .i64,.int .i64,.int .i64,.int .i64]] cs):∃(i:Inbx)(b1 b2:Bool),cs=cellsI b1 b2 i:=by
 obtain ⟨_,_,rfl,h1,_,_,rfl,h2,_,_,rfl,h3,rfl⟩:=h;obtain ⟨n,rfl,-⟩:=h1;obtain ⟨l,b1,rfl⟩:=ZgI (λ_ h=>ZD3 h) h2
 obtain ⟨m,b2,rfl⟩:=ZgI (λ_ h=>ZD2 h) h3
 exact ⟨⟨n,l,m⟩,b1,b2,rfl⟩
theorem ZD4{cs:List AV}(h:HasTs [.int .i64,.int .i64,.int .i64,.int .i64,.int .i64,.int .i64,.int .i64,.int .i64,.int .i64,.int .i64] cs):∃p:Envl,cs=encV p:=by
 simp only[HasTs,HasT] at h;obtain ⟨_,_,rfl,⟨x,rfl,_⟩,_,_,rfl,⟨y,rfl,_⟩,_,_,rfl,⟨z,rfl,_⟩,_,_,rfl,⟨a,rfl,_⟩,_,_,rfl,⟨b,rfl,_⟩,_,_,rfl,⟨c,rfl,_⟩,_,_,rfl,⟨d,rfl,_⟩,_,_,rfl,⟨e,rfl,_⟩,_,_,rfl,⟨f,rfl,_⟩,_,_,rfl,⟨g,rfl,_⟩,rfl⟩:=h
 exact ⟨⟨x,y,z,⟨a,b,c,d,e,f,g⟩⟩,rfl⟩
theorem ZD5{a:AV}(h:HasT (.sl [.int .i64,.int .i64,.int .i64,.int .i64,.int .i64,.int .i64,.int .i64,.int .i64,.int .i64,.int .i64]) a):∃(l:List Envl)(b:Bool),a=SL 10 encV b l:=ZgI (λ_ h=>ZD4 h) h
theorem has_Outb{cs:List AV}(h:HasTs [.int .i64,.int .i64,.sl [.int .i64,.int .i64,.int .i64,.int .i64,.int .i64,.int .i64,.int .i64,.int .i64,.int .i64,.int .i64]] cs):∃(o:Outb)(b:Bool),cs=cellsO b o:=by
 obtain ⟨_,_,rfl,h1,_,_,rfl,h2,_,_,rfl,h3,rfl⟩:=h;obtain ⟨n,rfl,-⟩:=h1;obtain ⟨m,rfl,-⟩:=h2;obtain ⟨l,b,rfl⟩:=ZD5 h3;exact ⟨⟨n,m,l⟩,b,rfl⟩
theorem ZD6{β:Type}(v:AV)(h:Hp)(k:AV→Hp→Ent→Option β):effD (some (v,EF [])) h k=k v h ([],[]):=by
 simp[effD,ap,wrOf,EF]
theorem Z7e{β:Type}{shp shr:List Sh}{F:Fun}{args:List AV}{v:AV}(hF:∀h,closedX shp shr F args h=some (v,h))(hi:idss args=[])(h:Hp)(k:AV→Hp→Ent→Option β):effD (callE (some (closedXD shp shr F)) args h h.length) h k=k v h ([],[]):=by
 show effD (closedXD shp shr F args h h.length) h k=_;rw[Z3a (hF h) h.length,hi];exact ZD6 v h k
theorem ZeG(b1 b2:Bool)(i:Inbx):ids (ib b1 b2 i)=[]:=by simp[ids,idss,SL]
theorem ZgJ(b:Bool)(o:Outb):ids (ob b o)=[]:=by simp[ids,idss,SL]
theorem ZD7(e:Envl):ids (.agg (encV e))=[]:=by simp[ids,idss,encV,encM]
end Go.AM
end
