import Derived.Test.YtgmfphialjcpcaaG2
set_option linter.unusedSectionVars false
set_option linter.unusedVariables false
set_option linter.unusedSimpArgs false
set_option linter.constructorNameAsVariable false
namespace Go.AM
open Go.RowKit
set_option linter.unusedVariables false
set_option linter.unusedSimpArgs false
set_option linter.constructorNameAsVariable false
variable {P:Program} {μ μ':Mu} {h h':Hp} {w w':World} {ks:List Nat} {np:Nat}
noncomputable def trimT (ks:List Nat) (np:Nat) (t:Tm):Tm:=fun i=>match ks.contains i||decide (i<np) with | true=>t i | false => .u
noncomputable def bindT (t:Tm):List Nat→List AV→Tm
 | p::ps,a::asl=>bindT (upd t p a) ps asl
 | _,_=>t
noncomputable def okRound (ks:List Nat) (np m:Nat) (ps:List Nat) (n:Nat) (asg body:Code):Bool:=
 Nat.beq ps.length n&&(ps.all fun p=>ks.contains p&&decide (p<m))&&codeOk ks np m asg&&codeOk ks np m body&&noRange asg&&noRange body
noncomputable def endK (L m:Nat) (ps:Array Tmp) (asg body:Code) (ts:Tm) (e:Ex) (s:St):Option (AV × Hp):=
 e.on (some (.s (.bool true),s.2.set L (.loop m ps asg body ts .ready none)))
  (fun i=>some (.s (.bool false),s.2.set L (.loop m ps asg body ts .done (some (.exit i)))))
  (some (.s (.bool false),s.2.set L (.loop m ps asg body ts .done (some .ret))))
noncomputable def beginX {β:Type} (L m:Nat) (ps:Array Tmp) (asg body:Code) (ts:Tm) (h:Hp) (k:Hp→Option β):Option β:=
 match h[L]? with
 | some (.loop _ _ _ _ _ .ready pend)=>k (h.set L (.loop m ps asg body ts .busy pend))
 | _=>none
noncomputable def beginK (P:Program) (T:Tab) (D:DTab) (N:Nat) (ks:List Nat) (L m:Nat) (ps:Array Tmp) (asg body:Code) (ts:Tm) (e:Ex) (s:St):Option (AV × Hp):=
 e.on (beginX L m ps asg body ts s.2 fun h=>execK P T D N ks body (s.1,h) (endK L m ps asg body ts)) (fun _=>none) none
noncomputable def roundF (P:Program) (T:Tab) (D:DTab) (N:Nat) (ks:List Nat) (np L m:Nat) (ps:Array Tmp) (asg body:Code) (ts:Tm) (args:List AV) (h:Hp):Option (AV × Hp):=
 execK P T D N ks asg (bindT (trimT ks np ts) ps.toList args,h) (beginK P T D N ks L m ps asg body ts)
noncomputable def yieldF (P:Program) (T:Tab) (D:DTab) (N:Nat) (ks:List Nat) (np:Nat):Fun:=fun args h=>
 match args with
 | .s (.map (some 0)) :: .yl L::asl=>
  match h[L]? with
  | some (.loop m ps asg body ts .ready pend)=>match okRound ks np m ps.toList asl.length asg body with
   | true=>roundF P T D N ks np L m ps asg body ts asl h
   | false=>none
  | _=>none
 | _=>none
theorem ZjT {T:Tab} {D:DTab} {N L m:Nat} {ps:Array Tmp} {asg body:Code} {ts:Tm} {pend:Option Code} {asl:List AV} (hL:h[L]? = some (.loop m ps asg body ts .ready pend)) (hok:okRound ks np m ps.toList asl.length asg body=true):
  yieldF P T D N ks np (ymark :: .yl L::asl) h=roundF P T D N ks np L m ps asg body ts asl h:=by
 unfold yieldF
 simp [hL,hok]
theorem ZjU {m n:Nat} (hm:m≤n) {d:Option Nat} (h:dstOk ks np m d=true):dstOk ks np n d=true:=by
 cases d with
 | none=>rfl
 | some d=>
  simp only [dstOk,Bool.and_eq_true,decide_eq_true_eq] at h ⊢
  exact ⟨by omega,h.2⟩
theorem Z2N {m n:Nat} (hm:m≤n):∀(c:Code),codeOk ks np m c=true→codeOk ks np n c=true
 | .region _ ops _,h=>by
  simp only [codeOk,List.all_eq_true] at h ⊢
  exact fun o ho=>ZjU hm (h o ho)
 | .seq a b,h=>by simp only [codeOk,Bool.and_eq_true] at h ⊢;exact ⟨Z2N hm a h.1,Z2N hm b h.2⟩
 | .cond _ a b,h=>by simp only [codeOk,Bool.and_eq_true] at h ⊢;exact ⟨Z2N hm a h.1,Z2N hm b h.2⟩
 | .block _ c,h=>by simp only [codeOk] at h ⊢;exact Z2N hm c h
 | .loop c,h=>by simp only [codeOk] at h ⊢;exact Z2N hm c h
 | .scope c,h=>by simp only [codeOk] at h ⊢;exact Z2N hm c h
 | .rangeFunc _ _ a c,h=>by simp only [codeOk,Bool.and_eq_true] at h ⊢;exact ⟨Z2N hm a h.1,Z2N hm c h.2⟩
 | .skip,_=>rfl
 | .label _,_=>rfl
 | .exit _,_=>rfl
 | .ret,_=>rfl
 | .goto _,_=>rfl
 | .refuse _,_=>rfl
theorem Zep {nt:Nat}:∀(ps:List Nat) (asl:List AV) (cas:List Value) (t:Tm) (tmps:Array Value),VRs μ h asl cas→ps.length=asl.length→tmps.size=nt→(∀p ∈ ps,ks.contains p=true∧p<nt)→
  (∀i,VR μ h (t i) (tmps.getD i undef))→(∀i,ks.contains i=false→np≤i→t i = .u)→
  ∃tm:Array Value,(ps.zip cas).foldl (fun tmps (p:Nat × Value)=>tmps.setIfInBounds p.1 p.2) tmps=tm∧Fit ks np nt [] μ h (bindT t ps asl) { tmps:=tm,defers:=[] }
 | [],asl,cas,t,tmps,hv,hl,hs,hp,ht,hlow=>by
  refine ⟨tmps,by simp,hs,rfl,fun i => ?_,fun i _=>rfl, ?_⟩
  ·rw [Z6f];simpa [bindT,Act.eval] using ht i
  ·simpa [bindT] using hlow
 | p::ps,[],cas,t,tmps,hv,hl,hs,hp,ht,hlow=>by simp at hl
 | p::ps,a::asl,cas,t,tmps,hv,hl,hs,hp,ht,hlow=>by
  simp only [VRs] at hv
  obtain ⟨v,vs,rfl,h1,h2⟩:=hv
  have hpp:=hp p (by simp)
  simp only [List.zip_cons_cons,List.foldl_cons,bindT]
  refine Zep ps asl vs (upd t p a) _ h2 (by simpa using hl) (by simpa using hs) (fun q hq=>hp q (by simp [hq])) (fun i => ?_) (fun i hi hn => ?_)
  ·have:=Z80 { tmps,defers:=[] } p v (by rw [hs];exact hpp.2) i
   simp only [Act.put,Act.eval] at this
   rw [this]
   simp only [upd]
   split
   ·exact h1
   ·exact ht i
  ·simp only [upd]
   rw [if_neg (by rintro rfl;rw [hpp.1] at hi;cases hi)]
   exact hlow i hi hn
theorem ZjV {T:Tab} {D:DTab} (TS:TSound P T) (DS:DSound P D) (hm:P.follows .mixedOrders=true) (N:Nat):YSound P (yieldF P T D N ks np):=by
 intro args h v h' hk
 unfold yieldF at hk
 split at hk<;>try (simp at hk;done)
 rename_i L asl
 refine ⟨L,asl,rfl,fun μ w cas blk n R hcas hmu => ?_⟩
 split at hk<;>try (simp at hk;done)
 rename_i m ps asg body ts pend hL
 split at hk<;>try (simp at hk;done)
 rename_i hok
 simp only [okRound,Bool.and_eq_true,List.all_eq_true,decide_eq_true_eq] at hok
 obtain ⟨⟨⟨⟨⟨hlen,hps⟩,hc1⟩,hc2⟩,hn1⟩,hn2⟩:=hok
 have hlen:=Nat.eq_of_beq_eq_true hlen
 obtain ⟨blk',r,hmu',hh,r1,r2,r3,r4,r5,r6,r7⟩:=R.obj _ _ hL
 rw [hmu] at hmu'
 injection hmu' with e
 subst e
 have hsz:cas.size=r.params.size:=by
  rw [r3, ← Array.length_toList, ← hcas.length, ← hlen,Array.length_toList]
 obtain ⟨tm,e1,hF⟩:=Zep (ks:=ks) (np:=np) ps.toList asl cas.toList (trimT ks np ts) r.tmps hcas hlen rfl (fun p hp=>⟨(hps p hp).1,Nat.lt_of_lt_of_le (hps p hp).2 r6⟩) (fun i=>by
  unfold trimT;split
  ·exact r7 i
  ·simp [VR]) (fun i hi hn=>by
  unfold trimT
  split
  ·rename_i q
   rw [hi] at q
   simp at q
   omega
  ·rfl)
 have e2:(r.params.zip cas).foldl (fun tmps (p:Nat × Value)=>tmps.setIfInBounds p.1 p.2) r.tmps=tm:=by
  rw [← e1,r3, ← Array.foldl_toList,Array.toList_zip]
 refine ⟨r.fn,tm,r.assign,r.body, ?_, ?_⟩
 ·have:=run_yield (P:=P) hh hsz
  rw [← e2]
  exact this
 ·refine roundIn_of_wpIn (F:=Fence.wide) trivial ?_
  unfold roundF at hk
  rw [r4]
  refine Z2U (ρ:=some blk) (b0:=0) (nt:=r.tmps.size) TS DS hm asg (Z2N r6 asg hc1) (.inr hn1) [] _ h _ _ _ w μ _ hk hF ⟨[],rfl,List.nodup_nil,fun r hr=>by cases hr⟩ (Nat.zero_le _) R ?_
  intro e t1 h1 a1 w1 μ1 ds1 q1 q2 qm q3
  cases e with
  | exit i=>simp [beginK,Ex.on] at q1
  | ret=>simp [beginK,Ex.on] at q1
  | normal=>
   simp only [beginK,Ex.on,beginX] at q1
   split at q1<;>try (simp at q1;done)
   rename_i m' ps' asg' body' ts' pend' hL1
   obtain ⟨st2,pend2,hL2,hm2⟩:=q3.evo.obj L _ hL
   have hs:=hL2.symm.trans hL1
   simp only [Option.some.injEq,AObj.loop.injEq] at hs
   obtain ⟨g1,g2,g3,g4,g5,g6,g7⟩:=hs
   rw [g6,g7] at hL2
   obtain ⟨blk2,rr,k1,k2,k3,k4,k5,k6,k7,k8,k9,S4⟩:=Step.setLoop q3.rel hL2 .busy pend'
   rw [Mu.set_self] at S4
   rw [hm2,hmu] at k1
   injection k1 with e
   subst e
   have hb:=run_beginRound (P:=P) k2 k3
   rw [← k4] at S4 q1
   refine ⟨_,hb, ?_⟩
   rw [r5]
   have Sb:=q3.trans S4
   refine Z2U (ρ:=some blk) (b0:=0) (nt:=r.tmps.size) TS DS hm body (Z2N r6 body hc2) (.inr hn2) ds1 _ _ _ _ _ _ μ1 _ q1 (q2.evo S4.evo) (qm.evo S4.evo.imm) (Nat.zero_le _) S4.rel ?_
   intro e t3 h3 a3 w3 μ3 ds3 p1 p2 pm p3
   have hL3':(h1.set L (AObj.loop m ps asg body ts .busy rr.pending))[L]? = some (.loop m ps asg body ts .busy rr.pending):=by
    rw [List.getElem?_set_self];exact (List.getElem?_eq_some_iff.1 hL2).1
   obtain ⟨st3,pend3,hL3,hm3⟩:=p3.evo.obj L _ hL3'
   have fin:∀(jump:Option Code) (st':LoopState) (b:Bool),st'=(if jump.isNone then .ready else .done)→b=jump.isNone→some (AV.s (.bool b),h3.set L (.loop m ps asg body ts st' jump))=some (v,h')→
     ∃v' w',(Instr.endRound blk jump).run P w3 = .ok v' w'∧∃cv μ',Ending.returned v' = .returned cv∧Step μ h w μ' h' w'∧VR μ' h' v cv:=by
    intro jump st' b e1 e2 e3
    simp only [Option.some.injEq,Prod.mk.injEq] at e3
    obtain ⟨rfl,rfl⟩:=e3
    obtain ⟨blk3,r3',j1,j2,j3,j4,j5,j6,j7,j8,j9,S5⟩:=Step.setLoop p3.rel hL3 st' jump
    rw [Mu.set_self] at S5
    rw [hm3,hm2,hmu] at j1
    injection j1 with e
    subst e
    have he:=run_endRound (P:=P) jump j2
    rw [← e1] at he
    refine ⟨_,_,he,_,μ3,rfl,Sb.trans (p3.trans S5), ?_⟩
    simp only [VR]
    exact ⟨rfl,by rw [e2]⟩
   cases e with
   | normal=>exact fin none .ready true rfl rfl p1
   | exit i=>exact fin (some (.exit i)) .done false rfl rfl p1
   | ret=>exact fin (some .ret) .done false rfl rfl p1
end Go.AM

