import Derived.Test.YtgmfphialjcpcaaG2
import Derived.Test.YtgmfphialjcpcaaProg
set_option linter.unusedSectionVars false
set_option linter.unusedVariables false
set_option linter.unusedSimpArgs false
set_option linter.constructorNameAsVariable false
namespace Go.AM
open Go.RowKit
set_option linter.unusedVariables false
set_option linter.unusedSimpArgs false
set_option linter.constructorNameAsVariable false
variable {P:Program} {μ μ':Mu} {h h':Hp} {w w':World} {ks:List Nat} {np:Nat}
noncomputable def trimT (ks:List Nat) (np:Nat) (t:Tm):Tm:=fun i=>match ks.contains i||decide (i<np) with | true=>t i | false => .u
noncomputable def bindT (t:Tm):List Nat→List AV→Tm
 | p::ps,a::asl=>bindT (upd t p a) ps asl
 | _,_=>t
noncomputable def okRound (ks:List Nat) (np m:Nat) (ps:List Nat) (n:Nat) (asg body:Code):Bool:=
 Nat.beq ps.length n&&(ps.all fun p=>ks.contains p&&decide (p<m))&&codeOk ks np m asg&&codeOk ks np m body&&noRange asg&&noRange body
noncomputable def endK (L m:Nat) (ps:Array Tmp) (asg body:Code) (ts:Tm) (e:Ex) (s:St):Option (AV × Hp):=
 e.on (some (.s (.bool true),s.2.set L (.loop m ps asg body ts .ready none)))
  (fun i=>some (.s (.bool false),s.2.set L (.loop m ps asg body ts .done (some (.exit i)))))
  (some (.s (.bool false),s.2.set L (.loop m ps asg body ts .done (some .ret))))
noncomputable def beginX {β:Type} (L m:Nat) (ps:Array Tmp) (asg body:Code) (ts:Tm) (h:Hp) (k:Hp→Option β):Option β:=
 match h[L]? with
 | some (.loop _ _ _ _ _ .ready pend)=>k (h.set L (.loop m ps asg body ts .busy pend))
 | _=>none
noncomputable def beginK (P:Program) (T:Tab) (D:DTab) (N:Nat) (ks:List Nat) (L m:Nat) (ps:Array Tmp) (asg body:Code) (ts:Tm) (e:Ex) (s:St):Option (AV × Hp):=
 e.on (beginX L m ps asg body ts s.2 fun h=>execK P T D N ks body (s.1,h) (endK L m ps asg body ts)) (fun _=>none) none
noncomputable def roundF (P:Program) (T:Tab) (D:DTab) (N:Nat) (ks:List Nat) (np L m:Nat) (ps:Array Tmp) (asg body:Code) (ts:Tm) (args:List AV) (h:Hp):Option (AV × Hp):=
 execK P T D N ks asg (bindT (trimT ks np ts) ps.toList args,h) (beginK P T D N ks L m ps asg body ts)
noncomputable def yieldF (P:Program) (T:Tab) (D:DTab) (N:Nat) (ks:List Nat) (np:Nat):Fun:=fun args h=>
 match args with
 | .s (.map (some 0)) :: .yl L::asl=>
  match h[L]? with
  | some (.loop m ps asg body ts .ready pend)=>match okRound ks np m ps.toList asl.length asg body with
   | true=>roundF P T D N ks np L m ps asg body ts asl h
   | false=>none
  | _=>none
 | _=>none
theorem Zlh {T:Tab} {D:DTab} {N L m:Nat} {ps:Array Tmp} {asg body:Code} {ts:Tm} {pend:Option Code} {asl:List AV} (hL:h[L]? = some (.loop m ps asg body ts .ready pend)) (hok:okRound ks np m ps.toList asl.length asg body=true):
  yieldF P T D N ks np (ymark :: .yl L::asl) h=roundF P T D N ks np L m ps asg body ts asl h:=by
 unfold yieldF
 simp [hL,hok]
theorem Zli {m n:Nat} (hm:m≤n) {d:Option Nat} (h:dstOk ks np m d=true):dstOk ks np n d=true:=by
 cases d with
 | none=>rfl
 | some d=>
  simp only [dstOk,Bool.and_eq_true,decide_eq_true_eq] at h ⊢
  exact ⟨by omega,h.2⟩
theorem Z1S {m n:Nat} (hm:m≤n):∀(c:Code),codeOk ks np m c=true→codeOk ks np n c=true
 | .region _ ops _,h=>by
  simp only [codeOk,List.all_eq_true] at h ⊢
  exact fun o ho=>Zli hm (h o ho)
 | .seq a b,h=>by simp only [codeOk,Bool.and_eq_true] at h ⊢;exact ⟨Z1S hm a h.1,Z1S hm b h.2⟩
 | .cond _ a b,h=>by simp only [codeOk,Bool.and_eq_true] at h ⊢;exact ⟨Z1S hm a h.1,Z1S hm b h.2⟩
 | .block _ c,h=>by simp only [codeOk] at h ⊢;exact Z1S hm c h
 | .loop c,h=>by simp only [codeOk] at h ⊢;exact Z1S hm c h
 | .scope c,h=>by simp only [codeOk] at h ⊢;exact Z1S hm c h
 | .rangeFunc _ _ a c,h=>by simp only [codeOk,Bool.and_eq_true] at h ⊢;exact ⟨Z1S hm a h.1,Z1S hm c h.2⟩
 | .skip,_=>rfl
 | .label _,_=>rfl
 | .exit _,_=>rfl
 | .ret,_=>rfl
 | .goto _,_=>rfl
 | .refuse _,_=>rfl
theorem Zft {nt:Nat}:∀(ps:List Nat) (asl:List AV) (cas:List Value) (t:Tm) (tmps:Array Value),VRs μ h asl cas→ps.length=asl.length→tmps.size=nt→(∀p ∈ ps,ks.contains p=true∧p<nt)→
  (∀i,VR μ h (t i) (tmps.getD i undef))→(∀i,ks.contains i=false→np≤i→t i = .u)→
  ∃tm:Array Value,(ps.zip cas).foldl (fun tmps (p:Nat × Value)=>tmps.setIfInBounds p.1 p.2) tmps=tm∧Fit ks np nt [] μ h (bindT t ps asl) { tmps:=tm,defers:=[] }
 | [],asl,cas,t,tmps,hv,hl,hs,hp,ht,hlow=>by
  refine ⟨tmps,by simp,hs,rfl,fun i => ?_,fun i _=>rfl, ?_⟩
  ·rw [Z58];simpa [bindT,Act.eval] using ht i
  ·simpa [bindT] using hlow
 | p::ps,[],cas,t,tmps,hv,hl,hs,hp,ht,hlow=>by simp at hl
 | p::ps,a::asl,cas,t,tmps,hv,hl,hs,hp,ht,hlow=>by
  simp only [VRs] at hv
  obtain ⟨v,vs,rfl,h1,h2⟩:=hv
  have hpp:=hp p (by simp)
  simp only [List.zip_cons_cons,List.foldl_cons,bindT]
  refine Zft ps asl vs (upd t p a) _ h2 (by simpa using hl) (by simpa using hs) (fun q hq=>hp q (by simp [hq])) (fun i => ?_) (fun i hi hn => ?_)
  ·have:=Z8y { tmps,defers:=[] } p v (by rw [hs];exact hpp.2) i
   simp only [Act.put,Act.eval] at this
   rw [this]
   simp only [upd]
   split
   ·exact h1
   ·exact ht i
  ·simp only [upd]
   rw [if_neg (by rintro rfl;rw [hpp.1] at hi;cases hi)]
   exact hlow i hi hn
theorem Zlj {T:Tab} {D:DTab} (TS:TSound P T) (DS:DSound P D) (hm:P.follows .mixedOrders=true) (N:Nat):YSound P (yieldF P T D N ks np):=by
 intro args h v h' hk
 unfold yieldF at hk
 split at hk<;>try (simp at hk;done)
 rename_i L asl
 refine ⟨L,asl,rfl,fun μ w cas blk n R hcas hmu => ?_⟩
 split at hk<;>try (simp at hk;done)
 rename_i m ps asg body ts pend hL
 split at hk<;>try (simp at hk;done)
 rename_i hok
 simp only [okRound,Bool.and_eq_true,List.all_eq_true,decide_eq_true_eq] at hok
 obtain ⟨⟨⟨⟨⟨hlen,hps⟩,hc1⟩,hc2⟩,hn1⟩,hn2⟩:=hok
 have hlen:=Nat.eq_of_beq_eq_true hlen
 obtain ⟨blk',r,hmu',hh,r1,r2,r3,r4,r5,r6,r7⟩:=R.obj _ _ hL
 rw [hmu] at hmu'
 injection hmu' with e
 subst e
 have hsz:cas.size=r.params.size:=by
  rw [r3, ← Array.length_toList, ← hcas.length, ← hlen,Array.length_toList]
 obtain ⟨tm,e1,hF⟩:=Zft (ks:=ks) (np:=np) ps.toList asl cas.toList (trimT ks np ts) r.tmps hcas hlen rfl (fun p hp=>⟨(hps p hp).1,Nat.lt_of_lt_of_le (hps p hp).2 r6⟩) (fun i=>by
  unfold trimT;split
  ·exact r7 i
  ·simp [VR]) (fun i hi hn=>by
  unfold trimT
  split
  ·rename_i q
   rw [hi] at q
   simp at q
   omega
  ·rfl)
 have e2:(r.params.zip cas).foldl (fun tmps (p:Nat × Value)=>tmps.setIfInBounds p.1 p.2) r.tmps=tm:=by
  rw [← e1,r3, ← Array.foldl_toList,Array.toList_zip]
 refine ⟨r.fn,tm,r.assign,r.body, ?_, ?_⟩
 ·have:=run_yield (P:=P) hh hsz
  rw [← e2]
  exact this
 ·refine roundIn_of_wpIn (F:=Fence.wide) trivial ?_
  unfold roundF at hk
  rw [r4]
  refine Z1P (ρ:=some blk) (b0:=0) (nt:=r.tmps.size) TS DS hm asg (Z1S r6 asg hc1) (.inr hn1) [] _ h _ _ _ w μ _ hk hF ⟨[],rfl,List.nodup_nil,fun r hr=>by cases hr⟩ (Nat.zero_le _) R ?_
  intro e t1 h1 a1 w1 μ1 ds1 q1 q2 qm q3
  cases e with
  | exit i=>simp [beginK,Ex.on] at q1
  | ret=>simp [beginK,Ex.on] at q1
  | normal=>
   simp only [beginK,Ex.on,beginX] at q1
   split at q1<;>try (simp at q1;done)
   rename_i m' ps' asg' body' ts' pend' hL1
   obtain ⟨st2,pend2,hL2,hm2⟩:=q3.evo.obj L _ hL
   have hs:=hL2.symm.trans hL1
   simp only [Option.some.injEq,AObj.loop.injEq] at hs
   obtain ⟨g1,g2,g3,g4,g5,g6,g7⟩:=hs
   rw [g6,g7] at hL2
   obtain ⟨blk2,rr,k1,k2,k3,k4,k5,k6,k7,k8,k9,S4⟩:=Step.setLoop q3.rel hL2 .busy pend'
   rw [Mu.set_self] at S4
   rw [hm2,hmu] at k1
   injection k1 with e
   subst e
   have hb:=run_beginRound (P:=P) k2 k3
   rw [← k4] at S4 q1
   refine ⟨_,hb, ?_⟩
   rw [r5]
   have Sb:=q3.trans S4
   refine Z1P (ρ:=some blk) (b0:=0) (nt:=r.tmps.size) TS DS hm body (Z1S r6 body hc2) (.inr hn2) ds1 _ _ _ _ _ _ μ1 _ q1 (q2.evo S4.evo) (qm.evo S4.evo.imm) (Nat.zero_le _) S4.rel ?_
   intro e t3 h3 a3 w3 μ3 ds3 p1 p2 pm p3
   have hL3':(h1.set L (AObj.loop m ps asg body ts .busy rr.pending))[L]? = some (.loop m ps asg body ts .busy rr.pending):=by
    rw [List.getElem?_set_self];exact (List.getElem?_eq_some_iff.1 hL2).1
   obtain ⟨st3,pend3,hL3,hm3⟩:=p3.evo.obj L _ hL3'
   have fin:∀(jump:Option Code) (st':LoopState) (b:Bool),st'=(if jump.isNone then .ready else .done)→b=jump.isNone→some (AV.s (.bool b),h3.set L (.loop m ps asg body ts st' jump))=some (v,h')→
     ∃v' w',(Instr.endRound blk jump).run P w3 = .ok v' w'∧∃cv μ',Ending.returned v' = .returned cv∧Step μ h w μ' h' w'∧VR μ' h' v cv:=by
    intro jump st' b e1 e2 e3
    simp only [Option.some.injEq,Prod.mk.injEq] at e3
    obtain ⟨rfl,rfl⟩:=e3
    obtain ⟨blk3,r3',j1,j2,j3,j4,j5,j6,j7,j8,j9,S5⟩:=Step.setLoop p3.rel hL3 st' jump
    rw [Mu.set_self] at S5
    rw [hm3,hm2,hmu] at j1
    injection j1 with e
    subst e
    have he:=run_endRound (P:=P) jump j2
    rw [← e1] at he
    refine ⟨_,_,he,_,μ3,rfl,Sb.trans (p3.trans S5), ?_⟩
    simp only [VR]
    exact ⟨rfl,by rw [e2]⟩
   cases e with
   | normal=>exact fin none .ready true rfl rfl p1
   | exit i=>exact fin (some (.exit i)) .done false rfl rfl p1
   | ret=>exact fin (some .ret) .done false rfl rfl p1
end Go.AM


namespace Go.AM
open Go.Proofs
set_option linter.unusedVariables false
set_option maxRecDepth 100000
theorem un_3:Try.prog.underlying 3=some (.int .i64):=by kernel_rfl
theorem Z5f:Try.prog.underlying 132=some (.int .u64):=by kernel_rfl
@[simp] theorem Zxl {β:Type} (n:Int) (k:K β):convK Try.prog 3 132 (.s (.int .i64 n)) k=k (.s (.int .u64 (IntKind.u64.wrap n))):=Z5e un_3 Z5f k
@[simp] theorem Zxm {β:Type} (n:Int) (k:K β):convK Try.prog 132 3 (.s (.int .u64 n)) k=k (.s (.int .i64 (IntKind.i64.wrap n))):=Z5e Z5f un_3 k
@[simp] theorem el_22:elemOf Try.prog 22=some 36:=by kernel_rfl
@[simp] theorem Zxn {β:Type} (h:Hp) (k:K β):eqK Try.prog false 22 (.s (.slice none 0 0)) (.s (.slice none 0 0)) h k=k (.s (.bool true)):=by kernel_rfl
@[simp] theorem Zxo {β:Type} (h:Hp) (k:K β):eqK Try.prog true 22 (.s (.slice none 0 0)) (.s (.slice none 0 0)) h k=k (.s (.bool false)):=by kernel_rfl
@[simp] theorem el_23:elemOf Try.prog 23=some 27:=by kernel_rfl
@[simp] theorem Zxp {β:Type} (h:Hp) (k:K β):eqK Try.prog false 23 (.s (.slice none 0 0)) (.s (.slice none 0 0)) h k=k (.s (.bool true)):=by kernel_rfl
@[simp] theorem Zxq {β:Type} (h:Hp) (k:K β):eqK Try.prog true 23 (.s (.slice none 0 0)) (.s (.slice none 0 0)) h k=k (.s (.bool false)):=by kernel_rfl
@[simp] theorem el_47:elemOf Try.prog 47=some 29:=by kernel_rfl
@[simp] theorem Zxr {β:Type} (h:Hp) (k:K β):eqK Try.prog false 47 (.s (.slice none 0 0)) (.s (.slice none 0 0)) h k=k (.s (.bool true)):=by kernel_rfl
@[simp] theorem Zxs {β:Type} (h:Hp) (k:K β):eqK Try.prog true 47 (.s (.slice none 0 0)) (.s (.slice none 0 0)) h k=k (.s (.bool false)):=by kernel_rfl
@[simp] theorem el_50:elemOf Try.prog 50=some 57:=by kernel_rfl
@[simp] theorem Zxt {β:Type} (h:Hp) (k:K β):eqK Try.prog false 50 (.s (.slice none 0 0)) (.s (.slice none 0 0)) h k=k (.s (.bool true)):=by kernel_rfl
@[simp] theorem Zxu {β:Type} (h:Hp) (k:K β):eqK Try.prog true 50 (.s (.slice none 0 0)) (.s (.slice none 0 0)) h k=k (.s (.bool false)):=by kernel_rfl
@[simp] theorem Z6J {β:Type} (neq:Bool) (a0:Int) (a1:Int) (a2:Int) (a3:Int) (a4:Int) (a5:Int) (a6:Int) (b0:Int) (b1:Int) (b2:Int) (b3:Int) (b4:Int) (b5:Int) (b6:Int) (h:Hp) (k:K β):eqK Try.prog neq 27 (.agg [.s (.int .i64 a0), .s (.int .i64 a1), .s (.int .i64 a2), .s (.int .i64 a3), .s (.int .i64 a4), .s (.int .i64 a5), .s (.int .i64 a6)]) (.agg [.s (.int .i64 b0), .s (.int .i64 b1), .s (.int .i64 b2), .s (.int .i64 b3), .s (.int .i64 b4), .s (.int .i64 b5), .s (.int .i64 b6)]) h k=k (.s (.bool (xor neq ((a0==b0)&&((a1==b1)&&((a2==b2)&&((a3==b3)&&((a4==b4)&&((a5==b5)&&((a6==b6)&&(true))))))))))):=by
 have e1:Try.prog.eqGuardType Try.prog.depth 27=false:=by kernel_rfl
 have e2:aggT Try.prog 27=true:=by kernel_rfl
 have e3:eqFlat Try.prog 8 27 [.s (.int .i64 a0), .s (.int .i64 a1), .s (.int .i64 a2), .s (.int .i64 a3), .s (.int .i64 a4), .s (.int .i64 a5), .s (.int .i64 a6)] [.s (.int .i64 b0), .s (.int .i64 b1), .s (.int .i64 b2), .s (.int .i64 b3), .s (.int .i64 b4), .s (.int .i64 b5), .s (.int .i64 b6)]=some ((a0==b0)&&((a1==b1)&&((a2==b2)&&((a3==b3)&&((a4==b4)&&((a5==b5)&&((a6==b6)&&(true)))))))):=by kernel_rfl
 simp only [eqK,e1,e2,e3]
@[simp] theorem Zlk {β:Type} (neq:Bool) (a0:Int) (a1:Int) (a2:Int) (a3:Int) (a4:Int) (a5:Int) (a6:Int) (a7:Int) (a8:Int) (a9:Int) (b0:Int) (b1:Int) (b2:Int) (b3:Int) (b4:Int) (b5:Int) (b6:Int) (b7:Int) (b8:Int) (b9:Int) (h:Hp) (k:K β):eqK Try.prog neq 29 (.agg [.s (.int .i64 a0), .s (.int .i64 a1), .s (.int .i64 a2), .s (.int .i64 a3), .s (.int .i64 a4), .s (.int .i64 a5), .s (.int .i64 a6), .s (.int .i64 a7), .s (.int .i64 a8), .s (.int .i64 a9)]) (.agg [.s (.int .i64 b0), .s (.int .i64 b1), .s (.int .i64 b2), .s (.int .i64 b3), .s (.int .i64 b4), .s (.int .i64 b5), .s (.int .i64 b6), .s (.int .i64 b7), .s (.int .i64 b8), .s (.int .i64 b9)]) h k=k (.s (.bool (xor neq ((a0==b0)&&((a1==b1)&&((a2==b2)&&(((a3==b3)&&((a4==b4)&&((a5==b5)&&((a6==b6)&&((a7==b7)&&((a8==b8)&&((a9==b9)&&(true))))))))&&(true)))))))):=by
 have e1:Try.prog.eqGuardType Try.prog.depth 29=false:=by kernel_rfl
 have e2:aggT Try.prog 29=true:=by kernel_rfl
 have e3:eqFlat Try.prog 8 29 [.s (.int .i64 a0), .s (.int .i64 a1), .s (.int .i64 a2), .s (.int .i64 a3), .s (.int .i64 a4), .s (.int .i64 a5), .s (.int .i64 a6), .s (.int .i64 a7), .s (.int .i64 a8), .s (.int .i64 a9)] [.s (.int .i64 b0), .s (.int .i64 b1), .s (.int .i64 b2), .s (.int .i64 b3), .s (.int .i64 b4), .s (.int .i64 b5), .s (.int .i64 b6), .s (.int .i64 b7), .s (.int .i64 b8), .s (.int .i64 b9)]=some ((a0==b0)&&((a1==b1)&&((a2==b2)&&(((a3==b3)&&((a4==b4)&&((a5==b5)&&((a6==b6)&&((a7==b7)&&((a8==b8)&&((a9==b9)&&(true))))))))&&(true))))):=by kernel_rfl
 simp only [eqK,e1,e2,e3]
@[simp] theorem Zll {β:Type} (neq:Bool) (a0:Int) (a1:Int) (b0:Int) (b1:Int) (h:Hp) (k:K β):eqK Try.prog neq 36 (.agg [.s (.int .i64 a0), .s (.int .i64 a1)]) (.agg [.s (.int .i64 b0), .s (.int .i64 b1)]) h k=k (.s (.bool (xor neq ((a0==b0)&&((a1==b1)&&(true)))))):=by
 have e1:Try.prog.eqGuardType Try.prog.depth 36=false:=by kernel_rfl
 have e2:aggT Try.prog 36=true:=by kernel_rfl
 have e3:eqFlat Try.prog 8 36 [.s (.int .i64 a0), .s (.int .i64 a1)] [.s (.int .i64 b0), .s (.int .i64 b1)]=some ((a0==b0)&&((a1==b1)&&(true))):=by kernel_rfl
 simp only [eqK,e1,e2,e3]
@[simp] theorem Zlm {β:Type} (neq:Bool) (a0:Int) (a1:Int) (a2:Int) (a3:Int) (a4:Int) (a5:Int) (a6:Int) (b0:Int) (b1:Int) (b2:Int) (b3:Int) (b4:Int) (b5:Int) (b6:Int) (h:Hp) (k:K β):eqK Try.prog neq 72 (.agg [.s (.int .i64 a0), .s (.int .i64 a1), .s (.int .i64 a2), .s (.int .i64 a3), .s (.int .i64 a4), .s (.int .i64 a5), .s (.int .i64 a6)]) (.agg [.s (.int .i64 b0), .s (.int .i64 b1), .s (.int .i64 b2), .s (.int .i64 b3), .s (.int .i64 b4), .s (.int .i64 b5), .s (.int .i64 b6)]) h k=k (.s (.bool (xor neq ((a0==b0)&&((a1==b1)&&((a2==b2)&&((a3==b3)&&((a4==b4)&&((a5==b5)&&((a6==b6)&&(true))))))))))):=by
 have e1:Try.prog.eqGuardType Try.prog.depth 72=false:=by kernel_rfl
 have e2:aggT Try.prog 72=true:=by kernel_rfl
 have e3:eqFlat Try.prog 8 72 [.s (.int .i64 a0), .s (.int .i64 a1), .s (.int .i64 a2), .s (.int .i64 a3), .s (.int .i64 a4), .s (.int .i64 a5), .s (.int .i64 a6)] [.s (.int .i64 b0), .s (.int .i64 b1), .s (.int .i64 b2), .s (.int .i64 b3), .s (.int .i64 b4), .s (.int .i64 b5), .s (.int .i64 b6)]=some ((a0==b0)&&((a1==b1)&&((a2==b2)&&((a3==b3)&&((a4==b4)&&((a5==b5)&&((a6==b6)&&(true)))))))):=by kernel_rfl
 simp only [eqK,e1,e2,e3]
@[simp] theorem Zln {β:Type} (neq:Bool) (a0:Int) (a1:Int) (b0:Int) (b1:Int) (h:Hp) (k:K β):eqK Try.prog neq 131 (.agg [.s (.int .i64 a0), .s (.int .i64 a1)]) (.agg [.s (.int .i64 b0), .s (.int .i64 b1)]) h k=k (.s (.bool (xor neq ((a0==b0)&&((a1==b1)&&(true)))))):=by
 have e1:Try.prog.eqGuardType Try.prog.depth 131=false:=by kernel_rfl
 have e2:aggT Try.prog 131=true:=by kernel_rfl
 have e3:eqFlat Try.prog 8 131 [.s (.int .i64 a0), .s (.int .i64 a1)] [.s (.int .i64 b0), .s (.int .i64 b1)]=some ((a0==b0)&&((a1==b1)&&(true))):=by kernel_rfl
 simp only [eqK,e1,e2,e3]
noncomputable def Zfu (P:Program) (T:Tab) (D:DTab) (N:Nat) {β:Type} (K:AV→Hp→Option β) (t:Tm) (h:Hp):Option β:=
K (.s (.bool true)) h
noncomputable def Z3y (P:Program) (T:Tab) (D:DTab) (N:Nat) {β:Type} (t:Tm) (h:Hp) (k:Ex→St→Option β):Option β:=
arithK .lss (t 130) (t 129) fun x114=>
condK x114 (
iaK 7 (t 128) (t 130) fun x115=>
ldK 7 true x115 h fun x116=>
effK (boxE 7 (.agg [.s (.int .i64 0), .s (.int .i64 0), .s (.int .i64 0), .s (.int .i64 0), .s (.int .i64 0), .s (.int .i64 0), .s (.int .i64 0)]) (List.length h)) h fun x117 h118=>
effK (stE 7 x117 x116 h118) h118 fun x119 h120=>
callK (T 40) [(t 14),(.fn 41 [x117])] h120 fun x121 h122=>
notK x121 fun x123=>
condK x123 (
k .ret ((upd (upd (upd (upd t 131 x114) 17 x117) 137 x123) 6 (.s (.bool false))),h122)) (
arithK .add (t 130) (.s (.int .i64 1)) fun x124=>
k .normal ((upd (upd (upd (upd t 131 x114) 17 x117) 137 x123) 130 x124),h122))) (
k (.exit 2) ((upd t 131 x114),h))
noncomputable def Z8N (P:Program) (T:Tab) (D:DTab) (N:Nat) {β:Type} (K:AV→Hp→Option β) (e:Ex) (s:St):Option β:=
 e.on ((Zfu P T D N K s.1 s.2))
 (fun i=>bif i==2 then ((Zfu P T D N K s.1 s.2)) else (none))
 (K (s.1 6) s.2)
noncomputable def Zfv (P:Program) (T:Tab) (D:DTab) (N:Nat) {β:Type} (cL3:St→Option β) (K:AV→Hp→Option β) (t:Tm) (h:Hp) :  Option β:=
faK 2 (t 4) fun x90=>
ldK 1 false x90 h fun x91=>
callK (T 24) [x91,(.fn 38 [(t 8)])] h fun x92 h93=>
condK x92 (
K (.s (.bool false)) h93) (
ldK 3 true (t 4) h93 fun x94=>
callK (T 14) [x94] h93 fun x95 h96=>
callK (T 39) [x95] h96 fun x97 h98=>
exK x97 0 fun x99=>
exK x97 1 fun x100=>
ldK 3 true (t 8) h98 fun x101=>
callK (T 14) [x101] h98 fun x102 h103=>
callK (T 39) [x102] h103 fun x104 h105=>
exK x104 0 fun x106=>
exK x104 1 fun x107=>
eqK P true 32 x100 (.s (.int .i64 0)) h105 fun x108=>
grpK false x108 h105 (fun k109=>
eqK P true 32 x107 (.s (.int .i64 0)) h105 fun x110=>
k109 x110 h105) fun x111 h112=>
condK x111 (
K (.s (.bool false)) h112) (
lenK x99 fun x113=>
cL3 ((upd (upd (upd (upd (upd (upd (upd (upd (upd t 109 x92) 12 x99) 13 x100) 14 x106) 15 x107) 127 x111) 128 x99) 129 x113) 130 (.s (.int .i64 0))),h112)))
noncomputable def Zcz (P:Program) (T:Tab) (D:DTab) (N:Nat) {β:Type} (K:AV→Hp→Option β) (t:Tm) (h:Hp):Option β:=Zfv P T D N (fun s=>iterK (fun s k=>Z3y P T D N s.1 s.2 k) N s (Z8N P T D N K)) K t h
noncomputable def Z3z (P:Program) (T:Tab) (D:DTab) (N:Nat) {β:Type} (t:Tm) (h:Hp) (k:Ex→St→Option β):Option β:=
arithK .lss (t 78) (t 77) fun x125=>
condK x125 (
iaK 10 (t 76) (t 78) fun x126=>
ldK 10 true x126 h fun x127=>
effK (boxE 10 (.agg [.s (.int .i64 0), .s (.int .i64 0), .s (.int .i64 0), .s (.int .i64 0), .s (.int .i64 0), .s (.int .i64 0), .s (.int .i64 0), .s (.int .i64 0), .s (.int .i64 0), .s (.int .i64 0)]) (List.length h)) h fun x128 h129=>
effK (stE 10 x128 x127 h129) h129 fun x130 h131=>
faK 2 (t 7) fun x132=>
ldK 1 false x132 h131 fun x133=>
ldK 10 true x128 h131 fun x134=>
callK (T 31) [x133,x134] h131 fun x135 h136=>
notK x135 fun x137=>
grpK true x137 h136 (fun k138=>
faK 1 x128 fun x139=>
ldK 1 false x139 h136 fun x140=>
faK 0 (t 4) fun x141=>
ldK 1 false x141 h136 fun x142=>
eqK P true 3 x140 x142 h136 fun x143=>
grpK false x143 h136 (fun k144=>
faK 1 (t 8) fun x145=>
ldK 1 false x145 h136 fun x146=>
faK 0 x128 fun x147=>
ldK 1 false x147 h136 fun x148=>
faK 2 x128 fun x149=>
ldK 1 false x149 h136 fun x150=>
buildK [.s (.int .i64 0), .s (.int .i64 0)] [(some (0,1),x148),(some (1,1),x150)] fun x151=>
callK (T 22) [x146,x151] h136 fun x152 h153=>
notK x152 fun x154=>
k144 x154 h153) fun x155 h156=>
k138 x155 h156) fun x157 h158=>
condK x157 (
k .ret ((upd (upd (upd (upd t 79 x125) 11 x128) 104 x157) 6 (.s (.bool false))),h158)) (
arithK .add (t 78) (.s (.int .i64 1)) fun x159=>
k .normal ((upd (upd (upd (upd t 79 x125) 11 x128) 104 x157) 78 x159),h158))) (
k (.exit 0) ((upd t 79 x125),h))
noncomputable def Z8O (P:Program) (T:Tab) (D:DTab) (N:Nat) {β:Type} (K:AV→Hp→Option β) (e:Ex) (s:St):Option β:=
 e.on ((Zcz P T D N K s.1 s.2))
 (fun i=>bif i==0 then ((Zcz P T D N K s.1 s.2)) else (none))
 (K (s.1 6) s.2)
noncomputable def Zfw (P:Program) (T:Tab) (D:DTab) (N:Nat) {β:Type} (cL4:St→Option β) (K:AV→Hp→Option β) (a0:AV) (a1:AV) (a2:AV) (h:Hp) :  Option β:=
effK (boxE 3 a0 (List.length h)) h fun x1 h2=>
effK (boxE 3 a1 (List.length h2)) h2 fun x3 h4=>
effK (boxE 2 a2 (List.length h4)) h4 fun x5 h6=>
callK (T 9) [] h6 fun x7 h8=>
notK x7 fun x9=>
condK x9 (
K (.s (.bool false)) h8) (
faK 2 x1 fun x10=>
ldK 1 false x10 h8 fun x11=>
lenK x11 fun x12=>
arithK .gtr x12 (.s (.int .i64 14)) fun x13=>
grpK false x13 h8 (fun k14=>
ldK 3 true x3 h8 fun x15=>
callK (T 21) [x15] h8 fun x16 h17=>
notK x16 fun x18=>
k14 x18 h17) fun x19 h20=>
condK x19 (
K (.s (.bool true)) h20) (
ldK 3 true x1 h20 fun x21=>
effD (callE (D 28) [x21] h20 (List.length h20)) h20 fun x22 h23 e24=>
ldK 3 true x3 h23 fun x25=>
effD (callE (D 14) [x25] h23 (List.length h23)) h23 fun x26 h27 e28=>
faK 0 x5 fun x29=>
ldK 1 false x29 h27 fun x30=>
faK 1 x5 fun x31=>
ldK 1 false x31 h27 fun x32=>
effD (callE (D 30) [x22,x26,x30,x32] h27 (List.length h27)) h27 fun x33 h34 e35=>
exK x33 0 fun x36=>
exK x33 1 fun x37=>
exK x33 2 fun x38=>
effD (boxE 3 (.agg [.s (.int .i64 0), .s (.int .i64 0), .s (.slice none 0 0)]) (List.length h34)) h34 fun x39 h40 e41=>
effD (boxE 3 (.agg [.s (.int .i64 0), .s (.slice none 0 0), .s (.slice none 0 0)]) (List.length h40)) h40 fun x42 h43 e44=>
effD (stE 3 x39 x36 h43) h43 fun x45 h46 e47=>
effD (stE 3 x42 x37 h46) h46 fun x48 h49 e50=>
bif disjAll [(1,2),(1,5),(3,5),(1,7),(3,7),(0,13),(1,13),(2,13),(3,13),(5,13),(7,13),(8,13),(0,14),(1,14),(2,14),(3,14),(5,14),(7,14),(8,14),(13,14)] [((idsOf x1),[]),e24,((idsOf x3),[]),e28,([],[]),((idsOf x29),[]),([],[]),((idsOf x31),[]),e35,([],[]),([],[]),([],[]),([],[]),e41,e44,e47,e50,([],[])] then (
eqK P true 32 x38 (.s (.int .i64 0)) h49 fun x51=>
condK x51 (
faK 0 x39 fun x52=>
ldK 1 false x52 h49 fun x53=>
eqK P false 3 x53 (.s (.int .i64 0)) h49 fun x54=>
grpK true x54 h49 (fun k55=>
faK 2 x39 fun x56=>
ldK 1 false x56 h49 fun x57=>
lenK x57 fun x58=>
eqK P false 3 x58 (.s (.int .i64 0)) h49 fun x59=>
k55 x59 h49) fun x60 h61=>
grpK true x60 h61 (fun k62=>
faK 0 x42 fun x63=>
ldK 1 false x63 h61 fun x64=>
eqK P false 3 x64 (.s (.int .i64 0)) h61 fun x65=>
k62 x65 h61) fun x66 h67=>
grpK true x66 h67 (fun k68=>
faK 1 x42 fun x69=>
ldK 1 false x69 h67 fun x70=>
lenK x70 fun x71=>
eqK P false 3 x71 (.s (.int .i64 0)) h67 fun x72=>
k68 x72 h67) fun x73 h74=>
K x73 h74) (
faK 2 x39 fun x75=>
ldK 1 false x75 h49 fun x76=>
callK (T 32) [x76,(.fn 37 [x1])] h49 fun x77 h78=>
grpK false x77 h78 (fun k79=>
faK 1 x39 fun x80=>
ldK 1 false x80 h78 fun x81=>
faK 1 x1 fun x82=>
ldK 1 false x82 h78 fun x83=>
eqK P true 3 x81 x83 h78 fun x84=>
k79 x84 h78) fun x85 h86=>
condK x85 (
K (.s (.bool false)) h86) (
faK 2 x1 fun x87=>
ldK 1 false x87 h86 fun x88=>
lenK x88 fun x89=>
cL4 ((upd (upd (upd (upd (upd (upd (upd (upd (upd (upd (upd (upd (upd (upd (tm0 [a0,a1,a2]) 3 x1) 4 x3) 5 x5) 6 (.s (.bool false))) 19 x9) 28 x19) 7 x39) 8 x42) 9 x38) 43 x51) 74 x85) 76 x88) 77 x89) 78 (.s (.int .i64 0))),h86)))) else none))
noncomputable def Zfx (P:Program) (T:Tab) (D:DTab) (N:Nat) {β:Type} (K:AV→Hp→Option β) (a0:AV) (a1:AV) (a2:AV) (h:Hp):Option β:=Zfw P T D N (fun s=>iterK (fun s k=>Z3z P T D N s.1 s.2 k) N s (Z8O P T D N K)) K a0 a1 a2 h
noncomputable def Z8P (P:Program) (T:Tab) (D:DTab) (N:Nat) {β:Type} (K:AV→Hp→Option β) (h:Hp):Option β:=
K (.s (.bool true)) h
noncomputable def Z6K (P:Program) (T:Tab) (D:DTab) (N:Nat) {β:Type} (xn:AV→AV→AV→AV→Hp→Option β) (x2:Hp→Option β) (xr:AV→Hp→Option β) (v14:AV) (v128:AV) (v129:AV) (v130:AV) (h:Hp):Option β:=
arithK .lss v130 v129 fun x114=>
condK x114 (
iaK 7 v128 v130 fun x115=>
ldK 7 true x115 h fun x116=>
effK (boxE 7 (.agg [.s (.int .i64 0), .s (.int .i64 0), .s (.int .i64 0), .s (.int .i64 0), .s (.int .i64 0), .s (.int .i64 0), .s (.int .i64 0)]) (List.length h)) h fun x117 h118=>
effK (stE 7 x117 x116 h118) h118 fun x119 h120=>
callK (T 40) [v14,(.fn 41 [x117])] h120 fun x121 h122=>
notK x121 fun x123=>
condK x123 (
xr (.s (.bool false)) h122) (
arithK .add v130 (.s (.int .i64 1)) fun x124=>
xn v14 v128 v129 x124 h122)) (
x2 h)
noncomputable def Z3A (P:Program) (T:Tab) (D:DTab) (N:Nat) {β:Type} (x2:Hp→Option β) (xr:AV→Hp→Option β):Nat→AV→AV→AV→AV→Hp→Option β
 | 0=>fun _ _ _ _ _=>none
 | n+1=>fun v14 v128 v129 v130 h=>Z6K P T D N (Z3A P T D N x2 xr n) x2 xr v14 v128 v129 v130 h
noncomputable def Z5g (P:Program) (T:Tab) (D:DTab) (N:Nat) {β:Type} (K:AV→Hp→Option β) (v4:AV) (v8:AV) (h:Hp):Option β:=
faK 2 v4 fun x90=>
ldK 1 false x90 h fun x91=>
callK (T 24) [x91,(.fn 38 [v8])] h fun x92 h93=>
condK x92 (
K (.s (.bool false)) h93) (
ldK 3 true v4 h93 fun x94=>
callK (T 14) [x94] h93 fun x95 h96=>
callK (T 39) [x95] h96 fun x97 h98=>
exK x97 0 fun x99=>
exK x97 1 fun x100=>
ldK 3 true v8 h98 fun x101=>
callK (T 14) [x101] h98 fun x102 h103=>
callK (T 39) [x102] h103 fun x104 h105=>
exK x104 0 fun x106=>
exK x104 1 fun x107=>
eqK P true 32 x100 (.s (.int .i64 0)) h105 fun x108=>
grpK false x108 h105 (fun k109=>
eqK P true 32 x107 (.s (.int .i64 0)) h105 fun x110=>
k109 x110 h105) fun x111 h112=>
condK x111 (
K (.s (.bool false)) h112) (
lenK x99 fun x113=>
Z3A P T D N (fun h=>Z8P P T D N K h) (fun w126_6 h=>K w126_6 h) N x106 x99 x113 (.s (.int .i64 0)) h112))
noncomputable def Z5h (P:Program) (T:Tab) (D:DTab) (N:Nat) {β:Type} (xn:AV→AV→AV→AV→AV→AV→Hp→Option β) (x0:AV→AV→Hp→Option β) (xr:AV→Hp→Option β) (v4:AV) (v7:AV) (v8:AV) (v76:AV) (v77:AV) (v78:AV) (h:Hp):Option β:=
arithK .lss v78 v77 fun x127=>
condK x127 (
iaK 10 v76 v78 fun x128=>
ldK 10 true x128 h fun x129=>
effK (boxE 10 (.agg [.s (.int .i64 0), .s (.int .i64 0), .s (.int .i64 0), .s (.int .i64 0), .s (.int .i64 0), .s (.int .i64 0), .s (.int .i64 0), .s (.int .i64 0), .s (.int .i64 0), .s (.int .i64 0)]) (List.length h)) h fun x130 h131=>
effK (stE 10 x130 x129 h131) h131 fun x132 h133=>
faK 2 v7 fun x134=>
ldK 1 false x134 h133 fun x135=>
ldK 10 true x130 h133 fun x136=>
callK (T 31) [x135,x136] h133 fun x137 h138=>
notK x137 fun x139=>
grpK true x139 h138 (fun k140=>
faK 1 x130 fun x141=>
ldK 1 false x141 h138 fun x142=>
faK 0 v4 fun x143=>
ldK 1 false x143 h138 fun x144=>
eqK P true 3 x142 x144 h138 fun x145=>
grpK false x145 h138 (fun k146=>
faK 1 v8 fun x147=>
ldK 1 false x147 h138 fun x148=>
faK 0 x130 fun x149=>
ldK 1 false x149 h138 fun x150=>
faK 2 x130 fun x151=>
ldK 1 false x151 h138 fun x152=>
buildK [.s (.int .i64 0), .s (.int .i64 0)] [(some (0,1),x150),(some (1,1),x152)] fun x153=>
callK (T 22) [x148,x153] h138 fun x154 h155=>
notK x154 fun x156=>
k146 x156 h155) fun x157 h158=>
k140 x157 h158) fun x159 h160=>
condK x159 (
xr (.s (.bool false)) h160) (
arithK .add v78 (.s (.int .i64 1)) fun x161=>
xn v4 v7 v8 v76 v77 x161 h160)) (
x0 v4 v8 h)
noncomputable def Z3B (P:Program) (T:Tab) (D:DTab) (N:Nat) {β:Type} (x0:AV→AV→Hp→Option β) (xr:AV→Hp→Option β):Nat→AV→AV→AV→AV→AV→AV→Hp→Option β
 | 0=>fun _ _ _ _ _ _ _=>none
 | n+1=>fun v4 v7 v8 v76 v77 v78 h=>Z5h P T D N (Z3B P T D N x0 xr n) x0 xr v4 v7 v8 v76 v77 v78 h
noncomputable def Z6L (P:Program) (T:Tab) (D:DTab) (N:Nat) {β:Type} (K:AV→Hp→Option β) (a0:AV) (a1:AV) (a2:AV) (h:Hp):Option β:=
effK (boxE 3 a0 (List.length h)) h fun x1 h2=>
effK (boxE 3 a1 (List.length h2)) h2 fun x3 h4=>
effK (boxE 2 a2 (List.length h4)) h4 fun x5 h6=>
callK (T 9) [] h6 fun x7 h8=>
notK x7 fun x9=>
condK x9 (
K (.s (.bool false)) h8) (
faK 2 x1 fun x10=>
ldK 1 false x10 h8 fun x11=>
lenK x11 fun x12=>
arithK .gtr x12 (.s (.int .i64 14)) fun x13=>
grpK false x13 h8 (fun k14=>
ldK 3 true x3 h8 fun x15=>
callK (T 21) [x15] h8 fun x16 h17=>
notK x16 fun x18=>
k14 x18 h17) fun x19 h20=>
condK x19 (
K (.s (.bool true)) h20) (
ldK 3 true x1 h20 fun x21=>
effD (callE (D 28) [x21] h20 (List.length h20)) h20 fun x22 h23 e24=>
ldK 3 true x3 h23 fun x25=>
effD (callE (D 14) [x25] h23 (List.length h23)) h23 fun x26 h27 e28=>
faK 0 x5 fun x29=>
ldK 1 false x29 h27 fun x30=>
faK 1 x5 fun x31=>
ldK 1 false x31 h27 fun x32=>
effD (callE (D 30) [x22,x26,x30,x32] h27 (List.length h27)) h27 fun x33 h34 e35=>
exK x33 0 fun x36=>
exK x33 1 fun x37=>
exK x33 2 fun x38=>
effD (boxE 3 (.agg [.s (.int .i64 0), .s (.int .i64 0), .s (.slice none 0 0)]) (List.length h34)) h34 fun x39 h40 e41=>
effD (boxE 3 (.agg [.s (.int .i64 0), .s (.slice none 0 0), .s (.slice none 0 0)]) (List.length h40)) h40 fun x42 h43 e44=>
effD (stE 3 x39 x36 h43) h43 fun x45 h46 e47=>
effD (stE 3 x42 x37 h46) h46 fun x48 h49 e50=>
bif disjAll [(1,2),(1,5),(3,5),(1,7),(3,7),(0,13),(1,13),(2,13),(3,13),(5,13),(7,13),(8,13),(0,14),(1,14),(2,14),(3,14),(5,14),(7,14),(8,14),(13,14)] [((idsOf x1),[]),e24,((idsOf x3),[]),e28,([],[]),((idsOf x29),[]),([],[]),((idsOf x31),[]),e35,([],[]),([],[]),([],[]),([],[]),e41,e44,e47,e50,([],[])] then (
eqK P true 32 x38 (.s (.int .i64 0)) h49 fun x51=>
condK x51 (
faK 0 x39 fun x52=>
ldK 1 false x52 h49 fun x53=>
eqK P false 3 x53 (.s (.int .i64 0)) h49 fun x54=>
grpK true x54 h49 (fun k55=>
faK 2 x39 fun x56=>
ldK 1 false x56 h49 fun x57=>
lenK x57 fun x58=>
eqK P false 3 x58 (.s (.int .i64 0)) h49 fun x59=>
k55 x59 h49) fun x60 h61=>
grpK true x60 h61 (fun k62=>
faK 0 x42 fun x63=>
ldK 1 false x63 h61 fun x64=>
eqK P false 3 x64 (.s (.int .i64 0)) h61 fun x65=>
k62 x65 h61) fun x66 h67=>
grpK true x66 h67 (fun k68=>
faK 1 x42 fun x69=>
ldK 1 false x69 h67 fun x70=>
lenK x70 fun x71=>
eqK P false 3 x71 (.s (.int .i64 0)) h67 fun x72=>
k68 x72 h67) fun x73 h74=>
K x73 h74) (
faK 2 x39 fun x75=>
ldK 1 false x75 h49 fun x76=>
callK (T 32) [x76,(.fn 37 [x1])] h49 fun x77 h78=>
grpK false x77 h78 (fun k79=>
faK 1 x39 fun x80=>
ldK 1 false x80 h78 fun x81=>
faK 1 x1 fun x82=>
ldK 1 false x82 h78 fun x83=>
eqK P true 3 x81 x83 h78 fun x84=>
k79 x84 h78) fun x85 h86=>
condK x85 (
K (.s (.bool false)) h86) (
faK 2 x1 fun x87=>
ldK 1 false x87 h86 fun x88=>
lenK x88 fun x89=>
Z3B P T D N (fun w162_4 w162_8 h=>Z5g P T D N K w162_4 w162_8 h) (fun w163_6 h=>K w163_6 h) N x3 x39 x42 x88 x89 (.s (.int .i64 0)) h86))) else none))
theorem Zlo (P:Program) (T:Tab) (D:DTab) (N:Nat) {β:Type} (xn:AV→AV→AV→AV→Hp→Option β) (x2:Hp→Option β) (xr:AV→Hp→Option β) (xd:Nat→St→Option β) (xq:St→Option β) (t:Tm) (h:Hp):Z3y P T D N t h (fun (e:Ex) (s:St)=>e.on (xn (s.1 14) (s.1 128) (s.1 129) (s.1 130) s.2) (fun i=>(bif i==2 then x2 s.2 else (xd i s))) (xr (s.1 6) s.2))=Z6K P T D N xn x2 xr (t 14) (t 128) (t 129) (t 130) h:=by kernel_rfl
theorem Zlp (P:Program) (T:Tab) (D:DTab) (N:Nat) {β:Type} (A:Ex→St→Option β) (x2:Hp→Option β) (xr:AV→Hp→Option β) (q2:∀s,A (.exit 2) s=x2 s.2) (qr:∀s,A .ret s=xr (s.1 6) s.2):∀(n:Nat) (s:St),iterK (fun s k=>Z3y P T D N s.1 s.2 k) n s A=Z3A P T D N x2 xr n (s.1 14) (s.1 128) (s.1 129) (s.1 130) s.2:=by
 intro n
 induction n with
 | zero=>intro s;rfl
 | succ n ih=>
  intro s
  have hk:(fun (e:Ex) (s':St)=>Ex.on e (iterK (fun s k=>Z3y P T D N s.1 s.2 k) n s' A) (fun i=>A (.exit i) s') (A .ret s'))=(fun (e:Ex) (s:St)=>e.on ((Z3A P T D N x2 xr n) (s.1 14) (s.1 128) (s.1 129) (s.1 130) s.2) (fun i=>(bif i==2 then x2 s.2 else (A (.exit i) s))) (xr (s.1 6) s.2)):=by
   funext e s'
   cases e with
   | normal=>exact ih s'
   | ret=>exact qr s'
   | exit i=>
    by_cases r2:i=2
    ·subst r2;exact q2 s'
    simp only [Ex.on,beq_false_of_ne r2,cond_false]
  show Z3y P T D N s.1 s.2 (fun (e:Ex) (s':St)=>Ex.on e (iterK (fun s k=>Z3y P T D N s.1 s.2 k) n s' A) (fun i=>A (.exit i) s') (A .ret s'))=_
  rw [hk]
  exact Zlo P T D N (Z3A P T D N x2 xr n) x2 xr (fun i s=>A (.exit i) s) (fun s=>A .ret s) s.1 s.2
theorem Zlq (P:Program) (T:Tab) (D:DTab) (N:Nat) {β:Type} (K:AV→Hp→Option β) (t:Tm) (h:Hp):Zcz P T D N K t h=Z5g P T D N K (t 4) (t 8) h:=by
 have eL3:(fun s:St=>iterK (fun s k=>Z3y P T D N s.1 s.2 k) N s (Z8N P T D N K))=(fun s:St=>Z3A P T D N (fun h=>Z8P P T D N K h) (fun w126_6 h=>K w126_6 h) N (s.1 14) (s.1 128) (s.1 129) (s.1 130) s.2):=funext fun s=>Zlp P T D N (Z8N P T D N K) (fun h=>Z8P P T D N K h) (fun w126_6 h=>K w126_6 h) (fun s=>rfl) (fun s=>rfl) N s
 show Zfv P T D N (fun s=>iterK (fun s k=>Z3y P T D N s.1 s.2 k) N s (Z8N P T D N K)) K t h=_
 rw [eL3]
 kernel_rfl
theorem Zlr (P:Program) (T:Tab) (D:DTab) (N:Nat) {β:Type} (xn:AV→AV→AV→AV→AV→AV→Hp→Option β) (x0:AV→AV→Hp→Option β) (xr:AV→Hp→Option β) (xd:Nat→St→Option β) (xq:St→Option β) (t:Tm) (h:Hp):Z3z P T D N t h (fun (e:Ex) (s:St)=>e.on (xn (s.1 4) (s.1 7) (s.1 8) (s.1 76) (s.1 77) (s.1 78) s.2) (fun i=>(bif i==0 then x0 (s.1 4) (s.1 8) s.2 else (xd i s))) (xr (s.1 6) s.2))=Z5h P T D N xn x0 xr (t 4) (t 7) (t 8) (t 76) (t 77) (t 78) h:=by kernel_rfl
theorem Zls (P:Program) (T:Tab) (D:DTab) (N:Nat) {β:Type} (A:Ex→St→Option β) (x0:AV→AV→Hp→Option β) (xr:AV→Hp→Option β) (q0:∀s,A (.exit 0) s=x0 (s.1 4) (s.1 8) s.2) (qr:∀s,A .ret s=xr (s.1 6) s.2):∀(n:Nat) (s:St),iterK (fun s k=>Z3z P T D N s.1 s.2 k) n s A=Z3B P T D N x0 xr n (s.1 4) (s.1 7) (s.1 8) (s.1 76) (s.1 77) (s.1 78) s.2:=by
 intro n
 induction n with
 | zero=>intro s;rfl
 | succ n ih=>
  intro s
  have hk:(fun (e:Ex) (s':St)=>Ex.on e (iterK (fun s k=>Z3z P T D N s.1 s.2 k) n s' A) (fun i=>A (.exit i) s') (A .ret s'))=(fun (e:Ex) (s:St)=>e.on ((Z3B P T D N x0 xr n) (s.1 4) (s.1 7) (s.1 8) (s.1 76) (s.1 77) (s.1 78) s.2) (fun i=>(bif i==0 then x0 (s.1 4) (s.1 8) s.2 else (A (.exit i) s))) (xr (s.1 6) s.2)):=by
   funext e s'
   cases e with
   | normal=>exact ih s'
   | ret=>exact qr s'
   | exit i=>
    by_cases r0:i=0
    ·subst r0;exact q0 s'
    simp only [Ex.on,beq_false_of_ne r0,cond_false]
  show Z3z P T D N s.1 s.2 (fun (e:Ex) (s':St)=>Ex.on e (iterK (fun s k=>Z3z P T D N s.1 s.2 k) n s' A) (fun i=>A (.exit i) s') (A .ret s'))=_
  rw [hk]
  exact Zlr P T D N (Z3B P T D N x0 xr n) x0 xr (fun i s=>A (.exit i) s) (fun s=>A .ret s) s.1 s.2
theorem Zlt (P:Program) (T:Tab) (D:DTab) (N:Nat) {β:Type} (K:AV→Hp→Option β) (a0:AV) (a1:AV) (a2:AV) (h:Hp):Zfx P T D N K a0 a1 a2 h=Z6L P T D N K a0 a1 a2 h:=by
 have eL4:(fun s:St=>iterK (fun s k=>Z3z P T D N s.1 s.2 k) N s (Z8O P T D N K))=(fun s:St=>Z3B P T D N (fun w162_4 w162_8 h=>Z5g P T D N K w162_4 w162_8 h) (fun w163_6 h=>K w163_6 h) N (s.1 4) (s.1 7) (s.1 8) (s.1 76) (s.1 77) (s.1 78) s.2):=funext fun s=>Zls P T D N (Z8O P T D N K) (fun w162_4 w162_8 h=>Z5g P T D N K w162_4 w162_8 h) (fun w163_6 h=>K w163_6 h) (fun s=>Zlq P T D N K s.1 s.2) (fun s=>rfl) N s
 show Zfw P T D N (fun s=>iterK (fun s k=>Z3z P T D N s.1 s.2 k) N s (Z8O P T D N K)) K a0 a1 a2 h=_
 rw [eL4]
 kernel_rfl
theorem Zlu (T:Tab) (D:DTab) (N:Nat) {β:Type} (K:AV→Hp→Option β) (a0:AV) (a1:AV) (a2:AV) (h:Hp):runK Try.prog T D N [0,1,2,3,4,5,6,7,8,9,11,12,13,14,15,17,19,28,43,74,76,77,78,79,104,109,127,128,129,130,131,137] Try.f8 K [a0,a1,a2] h=Zfx Try.prog T D N K a0 a1 a2 h:=by kernel_rfl
theorem Zlv (T:Tab) (D:DTab) (N:Nat) {β:Type} (K:AV→Hp→Option β) (a0:AV) (a1:AV) (a2:AV) (h:Hp):runK Try.prog T D N [0,1,2,3,4,5,6,7,8,9,11,12,13,14,15,17,19,28,43,74,76,77,78,79,104,109,127,128,129,130,131,137] Try.f8 K [a0,a1,a2] h=Z6L Try.prog T D N K a0 a1 a2 h:=(Zlu T D N K a0 a1 a2 h).trans (Zlt Try.prog T D N K a0 a1 a2 h)
noncomputable def Z8Q (P:Program) (T:Tab) (D:DTab) (N:Nat) {β:Type} (K:AV→Hp→Option β) (h:Hp):Option β:=
callK (T 43) [(.s (.int .i64 1))] h fun x1 h2=>
exK x1 0 fun x3=>
exK x1 1 fun x4=>
effK (boxE 3 (.agg [.s (.int .i64 0), .s (.int .i64 0), .s (.slice none 0 0)]) (List.length h2)) h2 fun x5 h6=>
effK (stE 3 x5 x3 h6) h6 fun x7 h8=>
ldK 3 true x5 h8 fun x9=>
effD (callE (D 45) [(.s (.int .i64 1))] h8 (List.length h8)) h8 fun x10 h11 e12=>
effD (callE (D 44) [x9,(.s (.int .i64 2)),x10] h11 (List.length h11)) h11 fun x13 h14 e15=>
exK x13 0 fun x16=>
exK x13 1 fun x17=>
exK x13 2 fun x18=>
effD (boxE 10 (.agg [.s (.int .i64 0), .s (.int .i64 0), .s (.int .i64 0), .s (.int .i64 0), .s (.int .i64 0), .s (.int .i64 0), .s (.int .i64 0), .s (.int .i64 0), .s (.int .i64 0), .s (.int .i64 0)]) (List.length h14)) h14 fun x19 h20 e21=>
effD (stE 3 x5 x16 h20) h20 fun x22 h23 e24=>
effD (stE 10 x19 x17 h23) h23 fun x25 h26 e27=>
bif disjAll [(0,1),(0,7),(1,7),(2,7)] [((idsOf x5),[]),e12,e15,([],[]),([],[]),([],[]),([],[]),e21,e24,e27,([],[])] then (
ldK 3 true x5 h26 fun x28=>
effD (callE (D 45) [(.s (.int .i64 2))] h26 (List.length h26)) h26 fun x29 h30 e31=>
effD (callE (D 44) [x28,(.s (.int .i64 2)),x29] h30 (List.length h30)) h30 fun x32 h33 e34=>
exK x32 0 fun x35=>
exK x32 1 fun x36=>
exK x32 2 fun x37=>
effD (boxE 10 (.agg [.s (.int .i64 0), .s (.int .i64 0), .s (.int .i64 0), .s (.int .i64 0), .s (.int .i64 0), .s (.int .i64 0), .s (.int .i64 0), .s (.int .i64 0), .s (.int .i64 0), .s (.int .i64 0)]) (List.length h33)) h33 fun x38 h39 e40=>
effD (stE 3 x5 x35 h39) h39 fun x41 h42 e43=>
effD (stE 10 x38 x36 h42) h42 fun x44 h45 e46=>
bif disjAll [(0,1),(0,7),(1,7),(2,7)] [((idsOf x5),[]),e31,e34,([],[]),([],[]),([],[]),([],[]),e40,e43,e46,([],[])] then (
callK (T 11) [(.s (.int .i64 2))] h45 fun x47 h48=>
exK x47 0 fun x49=>
exK x47 1 fun x50=>
effK (boxE 3 (.agg [.s (.int .i64 0), .s (.slice none 0 0), .s (.slice none 0 0)]) (List.length h48)) h48 fun x51 h52=>
effK (stE 3 x51 x49 h52) h52 fun x53 h54=>
arithK .add x4 x18 fun x55=>
arithK .add x55 x37 fun x56=>
arithK .add x56 x50 fun x57=>
eqK P true 32 x57 (.s (.int .i64 0)) h54 fun x58=>
condK x58 (
K (.s (.bool false)) h54) (
ldK 3 true x5 h54 fun x59=>
ldK 3 true x51 h54 fun x60=>
callK (T 30) [x59,x60,(.s (.int .u64 3)),(.s (.int .u64 2))] h54 fun x61 h62=>
exK x61 0 fun x63=>
exK x61 1 fun x64=>
exK x61 2 fun x65=>
effK (boxE 3 (.agg [.s (.int .i64 0), .s (.int .i64 0), .s (.slice none 0 0)]) (List.length h62)) h62 fun x66 h67=>
effK (boxE 3 (.agg [.s (.int .i64 0), .s (.slice none 0 0), .s (.slice none 0 0)]) (List.length h67)) h67 fun x68 h69=>
effK (stE 3 x66 x63 h69) h69 fun x70 h71=>
effK (stE 3 x68 x64 h71) h71 fun x72 h73=>
ldK 3 true x66 h73 fun x74=>
ldK 3 true x68 h73 fun x75=>
callK (T 30) [x74,x75,(.s (.int .u64 1)),(.s (.int .u64 1))] h73 fun x76 h77=>
exK x76 0 fun x78=>
exK x76 1 fun x79=>
exK x76 2 fun x80=>
effK (boxE 3 (.agg [.s (.int .i64 0), .s (.int .i64 0), .s (.slice none 0 0)]) (List.length h77)) h77 fun x81 h82=>
effK (boxE 3 (.agg [.s (.int .i64 0), .s (.slice none 0 0), .s (.slice none 0 0)]) (List.length h82)) h82 fun x83 h84=>
effK (stE 3 x81 x78 h84) h84 fun x85 h86=>
effK (stE 3 x83 x79 h86) h86 fun x87 h88=>
faK 2 x66 fun x89=>
ldK 1 false x89 h88 fun x90=>
lenK x90 fun x91=>
eqK P false 3 x91 (.s (.int .i64 1)) h88 fun x92=>
grpK true x92 h88 (fun k93=>
faK 2 x68 fun x94=>
ldK 1 false x94 h88 fun x95=>
lenK x95 fun x96=>
eqK P false 3 x96 (.s (.int .i64 2)) h88 fun x97=>
k93 x97 h88) fun x98 h99=>
grpK true x98 h99 (fun k100=>
faK 2 x81 fun x101=>
ldK 1 false x101 h99 fun x102=>
lenK x102 fun x103=>
eqK P false 3 x103 (.s (.int .i64 0)) h99 fun x104=>
k100 x104 h99) fun x105 h106=>
grpK true x105 h106 (fun k107=>
ldK 3 true x68 h106 fun x108=>
ldK 3 true x83 h106 fun x109=>
callK (T 19) [x108,x109] h106 fun x110 h111=>
k107 x110 h111) fun x112 h113=>
grpK true x112 h113 (fun k114=>
faK 1 x68 fun x115=>
ldK 1 false x115 h113 fun x116=>
faK 1 x83 fun x117=>
ldK 1 false x117 h113 fun x118=>
callK (T 46) [x116,x118] h113 fun x119 h120=>
k114 x119 h120) fun x121 h122=>
grpK true x121 h122 (fun k123=>
ldK 3 true x83 h122 fun x124=>
callK (T 16) [x124] h122 fun x125 h126=>
eqK P false 32 x125 (.s (.int .i64 0)) h126 fun x127=>
k123 x127 h126) fun x128 h129=>
grpK true x128 h129 (fun k130=>
arithK .add x65 x80 fun x131=>
eqK P false 32 x131 (.s (.int .i64 0)) h129 fun x132=>
k130 x132 h129) fun x133 h134=>
K x133 h134)) else none) else none
theorem Zlw (T:Tab) (D:DTab) (N:Nat) {β:Type} (K:AV→Hp→Option β) (h:Hp):runK Try.prog T D N [0,1,2,4,6,7,8,9,10,11,12,13,14,44] Try.f9 K [] h=Z8Q Try.prog T D N K  h:=by kernel_rfl
noncomputable def Z6M (P:Program) (T:Tab) (D:DTab) (N:Nat) {β:Type} (K:AV→Hp→Option β) (a0:AV) (h:Hp):Option β:=
effK (boxE 3 (.agg [.s (.int .i64 0), .s (.slice none 0 0), .s (.slice none 0 0)]) (List.length h)) h fun x1 h2=>
callK (T 47) [a0] h2 fun x3 h4=>
notK x3 fun x5=>
condK x5 (
buildK [.s (.int .i64 0), .s (.slice none 0 0), .s (.slice none 0 0)] [] fun x6=>
effK (stE 3 x1 x6 h4) h4 fun x7 h8=>
ldK 3 true x1 h8 fun r9=>
K (.tup [r9,(.s (.int .i64 2))]) h8) (
buildK [.s (.int .i64 0), .s (.slice none 0 0), .s (.slice none 0 0)] [(some (0,1),a0)] fun x10=>
effK (stE 3 x1 x10 h4) h4 fun x11 h12=>
ldK 3 true x1 h12 fun r13=>
K (.tup [r13,(.s (.int .i64 0))]) h12)
theorem Zlx (T:Tab) (D:DTab) (N:Nat) {β:Type} (K:AV→Hp→Option β) (a0:AV) (h:Hp):runK Try.prog T D N [0,2,3,6] Try.f11 K [a0] h=Z6M Try.prog T D N K a0 h:=by kernel_rfl
noncomputable def Z8R (P:Program) (T:Tab) (D:DTab) (N:Nat) {β:Type} (K:AV→Hp→Option β) (v4:AV) (v5:AV) (v9:AV) (v12:AV) (h:Hp):Option β:=
ldK 3 true v12 h fun x139=>
ldK 2 true v9 h fun x140=>
effD (stE 3 v4 x139 h) h fun x141 h142 e143=>
effD (stE 2 v5 x140 h142) h142 fun x144 h145 e146=>
bif disjAll [(1,2)] [((idsOf v12),[]),((idsOf v9),[]),e143,e146,([],[]),([],[])] then (
ldK 3 true v4 h145 fun r147=>
ldK 2 true v5 h145 fun r148=>
K (.tup [r147,r148,(.s (.bool true)),(.s (.int .i64 0))]) h145) else none
noncomputable def Z23 (P:Program) (T:Tab) (D:DTab) (N:Nat) {β:Type} (K:AV→Hp→Option β) (a0:AV) (a1:AV) (h:Hp):Option β:=
effK (boxE 3 a0 (List.length h)) h fun x1 h2=>
effK (boxE 10 a1 (List.length h2)) h2 fun x3 h4=>
effK (boxE 3 (.agg [.s (.int .i64 0), .s (.slice none 0 0), .s (.slice none 0 0)]) (List.length h4)) h4 fun x5 h6=>
effK (boxE 2 (.agg [.s (.int .i64 0), .s (.int .i64 0)]) (List.length h6)) h6 fun x7 h8=>
buildK [.s (.int .i64 0), .s (.slice none 0 0), .s (.slice none 0 0)] [] fun x9=>
faK 0 x3 fun x10=>
ldK 1 false x10 h8 fun x11=>
faK 2 x3 fun x12=>
ldK 1 false x12 h8 fun x13=>
buildK [.s (.int .i64 0), .s (.int .i64 0)] [(some (0,1),x11),(some (1,1),x13)] fun x14=>
effD (boxE 3 (.agg [.s (.int .i64 0), .s (.slice none 0 0), .s (.slice none 0 0)]) (List.length h8)) h8 fun x15 h16 e17=>
effD (boxE 2 (.agg [.s (.int .i64 0), .s (.int .i64 0)]) (List.length h16)) h16 fun x18 h19 e20=>
effD (stE 3 x15 x9 h19) h19 fun x21 h22 e23=>
effD (stE 2 x18 x14 h22) h22 fun x24 h25 e26=>
bif disjAll [(2,6),(4,6),(2,7),(4,7),(6,7),(2,8),(4,8)] [([],[]),([],[]),((idsOf x10),[]),([],[]),((idsOf x12),[]),([],[]),e17,e20,e23,e26] then (
ldK 3 true x1 h25 fun x27=>
callK (T 16) [x27] h25 fun x28 h29=>
eqK P true 32 x28 (.s (.int .i64 0)) h29 fun x30=>
condK x30 (
ldK 3 true x15 h29 fun x31=>
buildK [.s (.int .i64 0), .s (.int .i64 0)] [] fun x32=>
effK (stE 3 x5 x31 h29) h29 fun x33 h34=>
effK (stE 2 x7 x32 h34) h34 fun x35 h36=>
ldK 3 true x5 h36 fun r37=>
ldK 2 true x7 h36 fun r38=>
K (.tup [r37,r38,(.s (.bool false)),(.s (.int .i64 1))]) h36) (
ldK 10 true x3 h29 fun x39=>
effK (bsE 10 [.s (.int .i64 0), .s (.int .i64 0), .s (.int .i64 0), .s (.int .i64 0), .s (.int .i64 0), .s (.int .i64 0), .s (.int .i64 0), .s (.int .i64 0), .s (.int .i64 0), .s (.int .i64 0)] 1 [(0,x39)] (List.length h29)) h29 fun x40 h41=>
callK (T 49) [x40] h41 fun x42 h43=>
exK x42 0 fun x44=>
exK x42 1 fun x45=>
eqK P true 32 x45 (.s (.int .i64 0)) h43 fun x46=>
condK x46 (
ldK 3 true x15 h43 fun x47=>
buildK [.s (.int .i64 0), .s (.int .i64 0)] [] fun x48=>
effK (stE 3 x5 x47 h43) h43 fun x49 h50=>
effK (stE 2 x7 x48 h50) h50 fun x51 h52=>
ldK 3 true x5 h52 fun r53=>
ldK 2 true x7 h52 fun r54=>
K (.tup [r53,r54,(.s (.bool false)),x45]) h52) (
faK 1 x3 fun x55=>
ldK 1 false x55 h43 fun x56=>
faK 0 x1 fun x57=>
ldK 1 false x57 h43 fun x58=>
eqK P true 3 x56 x58 h43 fun x59=>
condK x59 (
ldK 3 true x15 h43 fun x60=>
buildK [.s (.int .i64 0), .s (.int .i64 0)] [] fun x61=>
effK (stE 3 x5 x60 h43) h43 fun x62 h63=>
effK (stE 2 x7 x61 h63) h63 fun x64 h65=>
ldK 3 true x5 h65 fun r66=>
ldK 2 true x7 h65 fun r67=>
K (.tup [r66,r67,(.s (.bool false)),(.s (.int .i64 19))]) h65) (
faK 0 x1 fun x68=>
ldK 1 false x68 h43 fun x69=>
faK 1 x1 fun x70=>
ldK 1 false x70 h43 fun x71=>
effD (callE (D 50) [x71] h43 (List.length h43)) h43 fun x72 h73 e74=>
faK 2 x1 fun x75=>
ldK 1 false x75 h73 fun x76=>
effD (callE (D 51) [x76] h73 (List.length h73)) h73 fun x77 h78 e79=>
buildK [.s (.int .i64 0), .s (.slice none 0 0), .s (.slice none 0 0)] [(some (0,1),x69),(some (1,1),x72),(some (2,1),x77)] fun x80=>
effD (boxE 3 (.agg [.s (.int .i64 0), .s (.slice none 0 0), .s (.slice none 0 0)]) (List.length h78)) h78 fun x81 h82 e83=>
effD (stE 3 x81 x80 h82) h82 fun x84 h85 e86=>
bif disjAll [(1,4),(4,6),(1,7),(1,9),(3,9),(4,9),(6,9),(7,9)] [([],[]),((idsOf x68),[]),([],[]),((idsOf x70),[]),e74,([],[]),((idsOf x75),[]),e79,([],[]),e83,e86] then (
faK 1 x1 fun x87=>
ldK 1 false x87 h85 fun x88=>
ldK 2 true x18 h85 fun x89=>
callK (T 22) [x88,x89] h85 fun x90 h91=>
condK x90 (
ldK 3 true x81 h91 fun x92=>
ldK 2 true x18 h91 fun x93=>
effD (stE 3 x5 x92 h91) h91 fun x94 h95 e96=>
effD (stE 2 x7 x93 h95) h95 fun x97 h98 e99=>
bif disjAll [(1,2)] [((idsOf x81),[]),((idsOf x18),[]),e96,e99,([],[]),([],[])] then (
ldK 3 true x5 h98 fun r100=>
ldK 2 true x7 h98 fun r101=>
K (.tup [r100,r101,(.s (.bool false)),(.s (.int .i64 0))]) h98) else none) (
faK 2 x1 fun x102=>
ldK 1 false x102 h91 fun x103=>
faK 3 x3 fun x104=>
ldK 7 true x104 h91 fun x105=>
callK (T 23) [x103,x105] h91 fun x106 h107=>
notK x106 fun x108=>
faK 1 x1 fun x109=>
ldK 1 false x109 h107 fun x110=>
lenK x110 fun x111=>
eqK P false 3 x111 (.s (.int .i64 256)) h107 fun x112=>
grpK false x112 h107 (fun k113=>
grpK true x108 h107 (fun k114=>
faK 2 x1 fun x115=>
ldK 1 false x115 h107 fun x116=>
lenK x116 fun x117=>
eqK P false 3 x117 (.s (.int .i64 64)) h107 fun x118=>
k114 x118 h107) fun x119 h120=>
k113 x119 h120) fun x121 h122=>
condK x121 (
ldK 3 true x15 h122 fun x123=>
buildK [.s (.int .i64 0), .s (.int .i64 0)] [] fun x124=>
effK (stE 3 x5 x123 h122) h122 fun x125 h126=>
effK (stE 2 x7 x124 h126) h126 fun x127 h128=>
ldK 3 true x5 h128 fun r129=>
ldK 2 true x7 h128 fun r130=>
K (.tup [r129,r130,(.s (.bool false)),(.s (.int .i64 12))]) h128) (
faK 1 x1 fun x131=>
ldK 1 false x131 h122 fun x132=>
ldK 2 true x18 h122 fun x133=>
callK (T 52) [x132,x133,(.fn 53 [])] h122 fun x134 h135=>
faK 1 x81 fun x136=>
effK (stE 1 x136 x134 h135) h135 fun x137 h138=>
condK x108 (
faK 2 x81 fun x149=>
ldK 1 false x149 h138 fun x150=>
faK 3 x3 fun x151=>
ldK 7 true x151 h138 fun x152=>
effK (bsE 7 [.s (.int .i64 0), .s (.int .i64 0), .s (.int .i64 0), .s (.int .i64 0), .s (.int .i64 0), .s (.int .i64 0), .s (.int .i64 0)] 1 [(0,x152)] (List.length h138)) h138 fun x153 h154=>
effK (appE 7 56 x150 x153 h154 (List.length h154)) h154 fun x155 h156=>
callK (T 54) [x155] h156 fun x157 h158=>
exK x157 0 fun x159=>
exK x157 1 fun x160=>
faK 2 x81 fun x161=>
effK (stE 1 x161 x159 h158) h158 fun x162 h163=>
Z8R P T D N K x5 x7 x18 x81 h163) (
Z8R P T D N K x5 x7 x18 x81 h138)))) else none)))) else none
theorem Zly (T:Tab) (D:DTab) (N:Nat) {β:Type} (K:AV→Hp→Option β) (a0:AV) (a1:AV) (h:Hp):runK Try.prog T D N [0,1,2,3,4,5,6,7,8,9,11,12,13,22,32,40,55,76,84] Try.f13 K [a0,a1] h=Z23 Try.prog T D N K a0 a1 h:=by kernel_rfl
noncomputable def Z5i (P:Program) (T:Tab) (D:DTab) (N:Nat) {β:Type} (K:AV→Hp→Option β) (a0:AV) (h:Hp):Option β:=
effK (boxE 3 a0 (List.length h)) h fun x1 h2=>
effK (boxE 3 (.agg [.s (.int .i64 0), .s (.slice none 0 0), .s (.slice none 0 0)]) (List.length h2)) h2 fun x3 h4=>
faK 0 x1 fun x5=>
ldK 1 false x5 h4 fun x6=>
effD (bsE 2 [.s (.int .i64 0), .s (.int .i64 0)] 0 [] (List.length h4)) h4 fun x7 h8 e9=>
faK 1 x1 fun x10=>
ldK 1 false x10 h8 fun x11=>
effD (appE 2 16 x7 x11 h8 (List.length h8)) h8 fun x12 h13 e14=>
effD (bsE 7 [.s (.int .i64 0), .s (.int .i64 0), .s (.int .i64 0), .s (.int .i64 0), .s (.int .i64 0), .s (.int .i64 0), .s (.int .i64 0)] 0 [] (List.length h13)) h13 fun x15 h16 e17=>
faK 2 x1 fun x18=>
ldK 1 false x18 h16 fun x19=>
effD (appE 7 56 x15 x19 h16 (List.length h16)) h16 fun x20 h21 e22=>
buildK [.s (.int .i64 0), .s (.slice none 0 0), .s (.slice none 0 0)] [(some (0,1),x6),(some (1,1),x12),(some (2,1),x20)] fun x23=>
effD (stE 3 x3 x23 h21) h21 fun x24 h25 e26=>
bif disjAll [(1,2),(2,4),(1,5),(1,6),(2,6),(4,6),(5,6),(2,8),(5,8),(6,8),(1,9)] [([],[]),((idsOf x5),[]),e9,([],[]),((idsOf x10),[]),e14,e17,([],[]),((idsOf x18),[]),e22,([],[]),e26] then (
ldK 3 true x3 h25 fun r27=>
K r27 h25) else none
theorem Zlz (T:Tab) (D:DTab) (N:Nat) {β:Type} (K:AV→Hp→Option β) (a0:AV) (h:Hp):runK Try.prog T D N [0,1,2] Try.f14 K [a0] h=Z5i Try.prog T D N K a0 h:=by kernel_rfl
noncomputable def Zfy (P:Program) (T:Tab) (D:DTab) (N:Nat) {β:Type} (K:AV→Hp→Option β) (t:Tm) (h:Hp):Option β:=
faK 2 (t 1) fun x22=>
ldK 1 false x22 h fun x23=>
callK (T 54) [x23] h fun x24 h25=>
exK x24 0 fun x26=>
exK x24 1 fun x27=>
eqK P true 32 x27 (.s (.int .i64 0)) h25 fun x28=>
grpK false x28 h25 (fun k29=>
faK 2 (t 1) fun x30=>
ldK 1 false x30 h25 fun x31=>
callK (T 58) [x26,x31] h25 fun x32 h33=>
notK x32 fun x34=>
k29 x34 h33) fun x35 h36=>
condK x35 (
K (.s (.int .i64 1)) h36) (
faK 2 (t 1) fun x37=>
ldK 1 false x37 h36 fun x38=>
lenK x38 fun x39=>
faK 1 (t 1) fun x40=>
ldK 1 false x40 h36 fun x41=>
lenK x41 fun x42=>
arithK .gtr x39 x42 fun x43=>
condK x43 (
K (.s (.int .i64 10)) h36) (
K (.s (.int .i64 0)) h36))
noncomputable def Z3C (P:Program) (T:Tab) (D:DTab) (N:Nat) {β:Type} (t:Tm) (h:Hp) (k:Ex→St→Option β):Option β:=
arithK .lss (t 26) (t 25) fun x44=>
condK x44 (
iaK 2 (t 24) (t 26) fun x45=>
ldK 2 true x45 h fun x46=>
effK (boxE 2 (.agg [.s (.int .i64 0), .s (.int .i64 0)]) (List.length h)) h fun x47 h48=>
effK (stE 2 x47 x46 h48) h48 fun x49 h50=>
faK 0 x47 fun x51=>
ldK 1 false x51 h50 fun x52=>
callK (T 47) [x52] h50 fun x53 h54=>
notK x53 fun x55=>
grpK false x55 h54 (fun k56=>
faK 1 x47 fun x57=>
ldK 1 false x57 h54 fun x58=>
arithK .lss x58 (.s (.int .i64 1)) fun x59=>
k56 x59 h54) fun x60 h61=>
grpK false x60 h61 (fun k62=>
faK 1 x47 fun x63=>
ldK 1 false x63 h61 fun x64=>
arithK .gtr x64 (.s (.int .i64 1073741824)) fun x65=>
k62 x65 h61) fun x66 h67=>
condK x66 (
k .ret ((upd (upd (upd (upd (upd t 27 x44) 4 x47) 3 (t 26)) 31 x66) 2 (.s (.int .i64 2))),h67)) (
faK 0 x47 fun x68=>
ldK 1 false x68 h67 fun x69=>
faK 0 (t 1) fun x70=>
ldK 1 false x70 h67 fun x71=>
eqK P false 3 x69 x71 h67 fun x72=>
condK x72 (
k .ret ((upd (upd (upd (upd (upd (upd t 27 x44) 4 x47) 3 (t 26)) 31 x66) 46 x72) 2 (.s (.int .i64 10))),h67)) (
arithK .gtr (t 26) (.s (.int .i64 0)) fun x73=>
grpK true x73 h67 (fun k74=>
faK 1 (t 1) fun x75=>
ldK 1 false x75 h67 fun x76=>
arithK .sub (t 26) (.s (.int .i64 1)) fun x77=>
iaK 2 x76 x77 fun x78=>
ldK 2 true x78 h67 fun x79=>
ldK 2 true x47 h67 fun x80=>
callK (T 53) [x79,x80] h67 fun x81 h82=>
arithK .geq x81 (.s (.int .i64 0)) fun x83=>
k74 x83 h82) fun x84 h85=>
condK x84 (
k .ret ((upd (upd (upd (upd (upd (upd (upd t 27 x44) 4 x47) 3 (t 26)) 31 x66) 46 x72) 52 x84) 2 (.s (.int .i64 5))),h85)) (
arithK .add (t 26) (.s (.int .i64 1)) fun x86=>
k .normal ((upd (upd (upd (upd (upd (upd (upd t 27 x44) 4 x47) 3 (t 26)) 31 x66) 46 x72) 52 x84) 26 x86),h85))))) (
k (.exit 1) ((upd t 27 x44),h))
noncomputable def Z8S (P:Program) (T:Tab) (D:DTab) (N:Nat) {β:Type} (K:AV→Hp→Option β) (e:Ex) (s:St):Option β:=
 e.on ((Zfy P T D N K s.1 s.2))
 (fun i=>bif i==1 then ((Zfy P T D N K s.1 s.2)) else (none))
 (K (s.1 2) s.2)
noncomputable def Zfz (P:Program) (T:Tab) (D:DTab) (N:Nat) {β:Type} (cL2:St→Option β) (K:AV→Hp→Option β) (a0:AV) (h:Hp) :  Option β:=
effK (boxE 3 a0 (List.length h)) h fun x1 h2=>
faK 0 x1 fun x3=>
ldK 1 false x3 h2 fun x4=>
callK (T 47) [x4] h2 fun x5 h6=>
notK x5 fun x7=>
condK x7 (
K (.s (.int .i64 2)) h6) (
faK 1 x1 fun x8=>
ldK 1 false x8 h6 fun x9=>
lenK x9 fun x10=>
arithK .gtr x10 (.s (.int .i64 256)) fun x11=>
grpK false x11 h6 (fun k12=>
faK 2 x1 fun x13=>
ldK 1 false x13 h6 fun x14=>
lenK x14 fun x15=>
arithK .gtr x15 (.s (.int .i64 64)) fun x16=>
k12 x16 h6) fun x17 h18=>
condK x17 (
K (.s (.int .i64 8)) h18) (
faK 1 x1 fun x19=>
ldK 1 false x19 h18 fun x20=>
lenK x20 fun x21=>
cL2 ((upd (upd (upd (upd (upd (upd (upd (tm0 [a0]) 1 x1) 2 (.s (.int .i64 0))) 7 x7) 12 x17) 24 x20) 25 x21) 26 (.s (.int .i64 0))),h18)))
noncomputable def ZfA (P:Program) (T:Tab) (D:DTab) (N:Nat) {β:Type} (K:AV→Hp→Option β) (a0:AV) (h:Hp):Option β:=Zfz P T D N (fun s=>iterK (fun s k=>Z3C P T D N s.1 s.2 k) N s (Z8S P T D N K)) K a0 h
noncomputable def Z8T (P:Program) (T:Tab) (D:DTab) (N:Nat) {β:Type} (K:AV→Hp→Option β) (v1:AV) (h:Hp):Option β:=
faK 2 v1 fun x22=>
ldK 1 false x22 h fun x23=>
callK (T 54) [x23] h fun x24 h25=>
exK x24 0 fun x26=>
exK x24 1 fun x27=>
eqK P true 32 x27 (.s (.int .i64 0)) h25 fun x28=>
grpK false x28 h25 (fun k29=>
faK 2 v1 fun x30=>
ldK 1 false x30 h25 fun x31=>
callK (T 58) [x26,x31] h25 fun x32 h33=>
notK x32 fun x34=>
k29 x34 h33) fun x35 h36=>
condK x35 (
K (.s (.int .i64 1)) h36) (
faK 2 v1 fun x37=>
ldK 1 false x37 h36 fun x38=>
lenK x38 fun x39=>
faK 1 v1 fun x40=>
ldK 1 false x40 h36 fun x41=>
lenK x41 fun x42=>
arithK .gtr x39 x42 fun x43=>
condK x43 (
K (.s (.int .i64 10)) h36) (
K (.s (.int .i64 0)) h36))
noncomputable def Z6N (P:Program) (T:Tab) (D:DTab) (N:Nat) {β:Type} (xn:AV→AV→AV→AV→Hp→Option β) (x1:AV→Hp→Option β) (xr:AV→Hp→Option β) (v1:AV) (v24:AV) (v25:AV) (v26:AV) (h:Hp):Option β:=
arithK .lss v26 v25 fun x44=>
condK x44 (
iaK 2 v24 v26 fun x45=>
ldK 2 true x45 h fun x46=>
effK (boxE 2 (.agg [.s (.int .i64 0), .s (.int .i64 0)]) (List.length h)) h fun x47 h48=>
effK (stE 2 x47 x46 h48) h48 fun x49 h50=>
faK 0 x47 fun x51=>
ldK 1 false x51 h50 fun x52=>
callK (T 47) [x52] h50 fun x53 h54=>
notK x53 fun x55=>
grpK false x55 h54 (fun k56=>
faK 1 x47 fun x57=>
ldK 1 false x57 h54 fun x58=>
arithK .lss x58 (.s (.int .i64 1)) fun x59=>
k56 x59 h54) fun x60 h61=>
grpK false x60 h61 (fun k62=>
faK 1 x47 fun x63=>
ldK 1 false x63 h61 fun x64=>
arithK .gtr x64 (.s (.int .i64 1073741824)) fun x65=>
k62 x65 h61) fun x66 h67=>
condK x66 (
xr (.s (.int .i64 2)) h67) (
faK 0 x47 fun x68=>
ldK 1 false x68 h67 fun x69=>
faK 0 v1 fun x70=>
ldK 1 false x70 h67 fun x71=>
eqK P false 3 x69 x71 h67 fun x72=>
condK x72 (
xr (.s (.int .i64 10)) h67) (
arithK .gtr v26 (.s (.int .i64 0)) fun x73=>
grpK true x73 h67 (fun k74=>
faK 1 v1 fun x75=>
ldK 1 false x75 h67 fun x76=>
arithK .sub v26 (.s (.int .i64 1)) fun x77=>
iaK 2 x76 x77 fun x78=>
ldK 2 true x78 h67 fun x79=>
ldK 2 true x47 h67 fun x80=>
callK (T 53) [x79,x80] h67 fun x81 h82=>
arithK .geq x81 (.s (.int .i64 0)) fun x83=>
k74 x83 h82) fun x84 h85=>
condK x84 (
xr (.s (.int .i64 5)) h85) (
arithK .add v26 (.s (.int .i64 1)) fun x86=>
xn v1 v24 v25 x86 h85)))) (
x1 v1 h)
noncomputable def Z3D (P:Program) (T:Tab) (D:DTab) (N:Nat) {β:Type} (x1:AV→Hp→Option β) (xr:AV→Hp→Option β):Nat→AV→AV→AV→AV→Hp→Option β
 | 0=>fun _ _ _ _ _=>none
 | n+1=>fun v1 v24 v25 v26 h=>Z6N P T D N (Z3D P T D N x1 xr n) x1 xr v1 v24 v25 v26 h
noncomputable def Z6O (P:Program) (T:Tab) (D:DTab) (N:Nat) {β:Type} (K:AV→Hp→Option β) (a0:AV) (h:Hp):Option β:=
effK (boxE 3 a0 (List.length h)) h fun x1 h2=>
faK 0 x1 fun x3=>
ldK 1 false x3 h2 fun x4=>
callK (T 47) [x4] h2 fun x5 h6=>
notK x5 fun x7=>
condK x7 (
K (.s (.int .i64 2)) h6) (
faK 1 x1 fun x8=>
ldK 1 false x8 h6 fun x9=>
lenK x9 fun x10=>
arithK .gtr x10 (.s (.int .i64 256)) fun x11=>
grpK false x11 h6 (fun k12=>
faK 2 x1 fun x13=>
ldK 1 false x13 h6 fun x14=>
lenK x14 fun x15=>
arithK .gtr x15 (.s (.int .i64 64)) fun x16=>
k12 x16 h6) fun x17 h18=>
condK x17 (
K (.s (.int .i64 8)) h18) (
faK 1 x1 fun x19=>
ldK 1 false x19 h18 fun x20=>
lenK x20 fun x21=>
Z3D P T D N (fun w87_1 h=>Z8T P T D N K w87_1 h) (fun w88_2 h=>K w88_2 h) N x1 x20 x21 (.s (.int .i64 0)) h18))
theorem ZlA (P:Program) (T:Tab) (D:DTab) (N:Nat) {β:Type} (xn:AV→AV→AV→AV→Hp→Option β) (x1:AV→Hp→Option β) (xr:AV→Hp→Option β) (xd:Nat→St→Option β) (xq:St→Option β) (t:Tm) (h:Hp):Z3C P T D N t h (fun (e:Ex) (s:St)=>e.on (xn (s.1 1) (s.1 24) (s.1 25) (s.1 26) s.2) (fun i=>(bif i==1 then x1 (s.1 1) s.2 else (xd i s))) (xr (s.1 2) s.2))=Z6N P T D N xn x1 xr (t 1) (t 24) (t 25) (t 26) h:=by kernel_rfl
theorem ZlB (P:Program) (T:Tab) (D:DTab) (N:Nat) {β:Type} (A:Ex→St→Option β) (x1:AV→Hp→Option β) (xr:AV→Hp→Option β) (q1:∀s,A (.exit 1) s=x1 (s.1 1) s.2) (qr:∀s,A .ret s=xr (s.1 2) s.2):∀(n:Nat) (s:St),iterK (fun s k=>Z3C P T D N s.1 s.2 k) n s A=Z3D P T D N x1 xr n (s.1 1) (s.1 24) (s.1 25) (s.1 26) s.2:=by
 intro n
 induction n with
 | zero=>intro s;rfl
 | succ n ih=>
  intro s
  have hk:(fun (e:Ex) (s':St)=>Ex.on e (iterK (fun s k=>Z3C P T D N s.1 s.2 k) n s' A) (fun i=>A (.exit i) s') (A .ret s'))=(fun (e:Ex) (s:St)=>e.on ((Z3D P T D N x1 xr n) (s.1 1) (s.1 24) (s.1 25) (s.1 26) s.2) (fun i=>(bif i==1 then x1 (s.1 1) s.2 else (A (.exit i) s))) (xr (s.1 2) s.2)):=by
   funext e s'
   cases e with
   | normal=>exact ih s'
   | ret=>exact qr s'
   | exit i=>
    by_cases r1:i=1
    ·subst r1;exact q1 s'
    simp only [Ex.on,beq_false_of_ne r1,cond_false]
  show Z3C P T D N s.1 s.2 (fun (e:Ex) (s':St)=>Ex.on e (iterK (fun s k=>Z3C P T D N s.1 s.2 k) n s' A) (fun i=>A (.exit i) s') (A .ret s'))=_
  rw [hk]
  exact ZlA P T D N (Z3D P T D N x1 xr n) x1 xr (fun i s=>A (.exit i) s) (fun s=>A .ret s) s.1 s.2
theorem ZlC (P:Program) (T:Tab) (D:DTab) (N:Nat) {β:Type} (K:AV→Hp→Option β) (a0:AV) (h:Hp):ZfA P T D N K a0 h=Z6O P T D N K a0 h:=by
 have eL2:(fun s:St=>iterK (fun s k=>Z3C P T D N s.1 s.2 k) N s (Z8S P T D N K))=(fun s:St=>Z3D P T D N (fun w87_1 h=>Z8T P T D N K w87_1 h) (fun w88_2 h=>K w88_2 h) N (s.1 1) (s.1 24) (s.1 25) (s.1 26) s.2):=funext fun s=>ZlB P T D N (Z8S P T D N K) (fun w87_1 h=>Z8T P T D N K w87_1 h) (fun w88_2 h=>K w88_2 h) (fun s=>rfl) (fun s=>rfl) N s
 show Zfz P T D N (fun s=>iterK (fun s k=>Z3C P T D N s.1 s.2 k) N s (Z8S P T D N K)) K a0 h=_
 rw [eL2]
 kernel_rfl
theorem ZlD (T:Tab) (D:DTab) (N:Nat) {β:Type} (K:AV→Hp→Option β) (a0:AV) (h:Hp):runK Try.prog T D N [0,1,2,3,4,5,6,7,12,24,25,26,27,31,46,52,73,83] Try.f16 K [a0] h=ZfA Try.prog T D N K a0 h:=by kernel_rfl
theorem ZlE (T:Tab) (D:DTab) (N:Nat) {β:Type} (K:AV→Hp→Option β) (a0:AV) (h:Hp):runK Try.prog T D N [0,1,2,3,4,5,6,7,12,24,25,26,27,31,46,52,73,83] Try.f16 K [a0] h=Z6O Try.prog T D N K a0 h:=(ZlD T D N K a0 h).trans (ZlC Try.prog T D N K a0 h)
noncomputable def Z8U (P:Program) (T:Tab) (D:DTab) (N:Nat) {β:Type} (K:AV→Hp→Option β) (a0:AV) (a1:AV) (h:Hp):Option β:=
effK (boxE 3 a0 (List.length h)) h fun x1 h2=>
effK (boxE 3 a1 (List.length h2)) h2 fun x3 h4=>
ldK 3 true x1 h4 fun x5=>
callK (T 16) [x5] h4 fun x6 h7=>
eqK P false 32 x6 (.s (.int .i64 0)) h7 fun x8=>
grpK true x8 h7 (fun k9=>
ldK 3 true x3 h7 fun x10=>
callK (T 16) [x10] h7 fun x11 h12=>
eqK P false 32 x11 (.s (.int .i64 0)) h12 fun x13=>
k9 x13 h12) fun x14 h15=>
grpK true x14 h15 (fun k16=>
faK 2 x1 fun x17=>
ldK 1 false x17 h15 fun x18=>
faK 2 x3 fun x19=>
ldK 1 false x19 h15 fun x20=>
callK (T 58) [x18,x20] h15 fun x21 h22=>
k16 x21 h22) fun x23 h24=>
K x23 h24
theorem ZlF (T:Tab) (D:DTab) (N:Nat) {β:Type} (K:AV→Hp→Option β) (a0:AV) (a1:AV) (h:Hp):runK Try.prog T D N [0,1,2,3,4] Try.f19 K [a0,a1] h=Z8U Try.prog T D N K a0 a1 h:=by kernel_rfl
noncomputable def Z8V (P:Program) (T:Tab) (D:DTab) (N:Nat) {β:Type} (K:AV→Hp→Option β) (a0:AV) (h:Hp):Option β:=
effK (boxE 3 a0 (List.length h)) h fun x1 h2=>
faK 1 x1 fun x3=>
ldK 1 false x3 h2 fun x4=>
lenK x4 fun x5=>
arithK .leq x5 (.s (.int .i64 20)) fun x6=>
grpK true x6 h2 (fun k7=>
faK 2 x1 fun x8=>
ldK 1 false x8 h2 fun x9=>
lenK x9 fun x10=>
arithK .leq x10 (.s (.int .i64 20)) fun x11=>
k7 x11 h2) fun x12 h13=>
K x12 h13
theorem ZlG (T:Tab) (D:DTab) (N:Nat) {β:Type} (K:AV→Hp→Option β) (a0:AV) (h:Hp):runK Try.prog T D N [0,1,2] Try.f21 K [a0] h=Z8V Try.prog T D N K a0 h:=by kernel_rfl
noncomputable def Z8W (P:Program) (T:Tab) (D:DTab) (N:Nat) {β:Type} (K:AV→Hp→Option β) (a0:AV) (a1:AV) (h:Hp):Option β:=
effK (boxE 2 a1 (List.length h)) h fun x1 h2=>
ldK 2 true x1 h2 fun x3=>
callK (T 60) [a0,x3] h2 fun x4 h5=>
arithK .geq x4 (.s (.int .i64 0)) fun x6=>
K x6 h5
theorem ZlH (T:Tab) (D:DTab) (N:Nat) {β:Type} (K:AV→Hp→Option β) (a0:AV) (a1:AV) (h:Hp):runK Try.prog T D N [0,1,3,4] Try.f22 K [a0,a1] h=Z8W Try.prog T D N K a0 a1 h:=by kernel_rfl
noncomputable def Z8X (P:Program) (T:Tab) (D:DTab) (N:Nat) {β:Type} (K:AV→Hp→Option β) (a0:AV) (a1:AV) (h:Hp):Option β:=
effK (boxE 7 a1 (List.length h)) h fun x1 h2=>
ldK 7 true x1 h2 fun x3=>
callK (T 61) [a0,x3] h2 fun x4 h5=>
arithK .geq x4 (.s (.int .i64 0)) fun x6=>
K x6 h5
theorem ZlI (T:Tab) (D:DTab) (N:Nat) {β:Type} (K:AV→Hp→Option β) (a0:AV) (a1:AV) (h:Hp):runK Try.prog T D N [0,1,3,4] Try.f23 K [a0,a1] h=Z8X Try.prog T D N K a0 a1 h:=by kernel_rfl
noncomputable def Z4x (P:Program) (T:Tab) (D:DTab) (N:Nat) {β:Type} (K:AV→Hp→Option β) (a0:AV) (a1:AV) (h:Hp):Option β:=
callK (T 62) [a0,a1] h fun x1 h2=>
arithK .geq x1 (.s (.int .i64 0)) fun x3=>
K x3 h2
theorem ZfB (T:Tab) (D:DTab) (N:Nat) {β:Type} (K:AV→Hp→Option β) (a0:AV) (a1:AV) (h:Hp):runK Try.prog T D N [0,1,4] Try.f24 K [a0,a1] h=Z4x Try.prog T D N K a0 a1 h:=by kernel_rfl
noncomputable def Z8Y (P:Program) (T:Tab) (D:DTab) (N:Nat) {β:Type} (K:AV→Hp→Option β) (a0:AV) (h:Hp):Option β:=
effK (boxE 3 a0 (List.length h)) h fun x1 h2=>
effK (boxE 3 (.agg [.s (.int .i64 0), .s (.int .i64 0), .s (.slice none 0 0)]) (List.length h2)) h2 fun x3 h4=>
effK (bsE 10 [.s (.int .i64 0), .s (.int .i64 0), .s (.int .i64 0), .s (.int .i64 0), .s (.int .i64 0), .s (.int .i64 0), .s (.int .i64 0), .s (.int .i64 0), .s (.int .i64 0), .s (.int .i64 0)] 0 [] (List.length h4)) h4 fun x5 h6=>
faK 2 x1 fun x7=>
ldK 1 false x7 h6 fun x8=>
effK (appE 10 80 x5 x8 h6 (List.length h6)) h6 fun x9 h10=>
faK 2 x1 fun x11=>
effK (stE 1 x11 x9 h10) h10 fun x12 h13=>
ldK 3 true x1 h13 fun x14=>
effK (stE 3 x3 x14 h13) h13 fun x15 h16=>
ldK 3 true x3 h16 fun r17=>
K r17 h16
theorem ZlJ (T:Tab) (D:DTab) (N:Nat) {β:Type} (K:AV→Hp→Option β) (a0:AV) (h:Hp):runK Try.prog T D N [0,1,2] Try.f28 K [a0] h=Z8Y Try.prog T D N K a0 h:=by kernel_rfl
noncomputable def Z1T:Array Tmp:=(rangeOf Try.f30 0).1
noncomputable def Z1H:Code:=(rangeOf Try.f30 0).2.1
noncomputable def Z1I:Code:=(rangeOf Try.f30 0).2.2
noncomputable def Z1U:Nat:=needR Z1H Z1I
noncomputable def Z5j (P:Program) (T:Tab) (D:DTab) (N:Nat) {β:Type} (K:AV→Hp→Option β) (v8:AV) (v9:AV) (v10:AV) (v13:AV) (v14:AV) (h:Hp):Option β:=
ldK 3 true v13 h fun x91=>
ldK 3 true v14 h fun x92=>
effD (stE 3 v8 x91 h) h fun x93 h94 e95=>
effD (stE 3 v9 x92 h94) h94 fun x96 h97 e98=>
effD (stE 1 v10 (.s (.int .i64 0)) h97) h97 fun x99 h100 e101=>
bif disjAll [(1,2)] [((idsOf v13),[]),((idsOf v14),[]),e95,e98,e101] then (
ldK 3 true v8 h100 fun r102=>
ldK 3 true v9 h100 fun r103=>
ldK 1 false v10 h100 fun r104=>
K (.tup [r102,r103,r104]) h100) else none
noncomputable def Z8Z (P:Program) (T:Tab) (D:DTab) (N:Nat) {β:Type} (xn:Hp→Option β) (xr:Hp→Option β) (h:Hp):Option β:=
xn h
noncomputable def ZcA (P:Program) (T:Tab) (D:DTab) (N:Nat) {β:Type} (L:Nat) (ts:Tm) (xn:Hp→Option β) (xr:Hp→Option β) (v7:AV) (v8:AV) (v9:AV) (v10:AV) (v13:AV) (v14:AV) (v64:AV) (v65:AV) (h:Hp):Option β:=
effK (boxE 10 (.agg [.s (.int .i64 0), .s (.int .i64 0), .s (.int .i64 0), .s (.int .i64 0), .s (.int .i64 0), .s (.int .i64 0), .s (.int .i64 0), .s (.int .i64 0), .s (.int .i64 0), .s (.int .i64 0)]) (List.length h)) h fun x105 h106=>
effK (stE 10 x105 v65 h106) h106 fun x107 h108=>
beginX L (Z1U) (Z1T) (Z1H) (Z1I) ts h108 fun h109=>
ldK 3 true v14 h109 fun x110=>
ldK 10 true x105 h109 fun x111=>
callK (T 13) [x110,x111] h109 fun x112 h113=>
exK x112 0 fun x114=>
exK x112 1 fun x115=>
exK x112 2 fun x116=>
exK x112 3 fun x117=>
effK (boxE 3 (.agg [.s (.int .i64 0), .s (.slice none 0 0), .s (.slice none 0 0)]) (List.length h113)) h113 fun x118 h119=>
effK (boxE 2 (.agg [.s (.int .i64 0), .s (.int .i64 0)]) (List.length h119)) h119 fun x120 h121=>
effK (stE 3 x118 x114 h121) h121 fun x122 h123=>
effK (stE 2 x120 x115 h123) h123 fun x124 h125=>
eqK P true 32 x117 (.s (.int .i64 0)) h125 fun x126=>
condK x126 (
buildK [.s (.int .i64 0), .s (.int .i64 0), .s (.slice none 0 0)] [] fun x127=>
buildK [.s (.int .i64 0), .s (.slice none 0 0), .s (.slice none 0 0)] [] fun x128=>
effK (stE 3 v8 x127 h125) h125 fun x129 h130=>
effK (stE 3 v9 x128 h130) h130 fun x131 h132=>
effK (stE 1 v10 x117 h132) h132 fun x133 h134=>
xr h134) (
ldK 3 true x118 h125 fun x135=>
effK (stE 3 v14 x135 h125) h125 fun x136 h137=>
ldK 1 false v7 h137 fun x138=>
reckK P .shr 55 x138 v64 fun x139=>
reckK P .and 55 x139 (.s (.int .u64 1)) fun x140=>
eqK P false 55 x140 (.s (.int .u64 1)) h137 fun x141=>
condK x141 (
ldK 3 true v13 h137 fun x142=>
ldK 2 true x120 h137 fun x143=>
callK (T 68) [x142,x143] h137 fun x144 h145=>
exK x144 0 fun x146=>
exK x144 1 fun x147=>
effK (stE 3 v13 x146 h145) h145 fun x148 h149=>
Z8Z P T D N xn xr h149) (
Z8Z P T D N xn xr h137))
theorem ZlK (T:Tab) (D:DTab) (N L:Nat) (v7:AV) (v8:AV) (v9:AV) (v10:AV) (v13:AV) (v14:AV) (v64:AV) (v65:AV) (h:Hp):roundF Try.prog T D N [0,1,2,3,4,5,7,8,9,10,11,13,14,15,16,17,18,20,21,32,63,64,65,75,84] 4 L (Z1U) (Z1T) (Z1H) (Z1I) (envT [(7,v7),(8,v8),(9,v9),(10,v10),(13,v13),(14,v14)]) [v64,v65] h=ZcA Try.prog T D N L (envT [(7,v7),(8,v8),(9,v9),(10,v10),(13,v13),(14,v14)]) (fun h=>some (.s (.bool true),h.set L (.loop (Z1U) (Z1T) (Z1H) (Z1I) (envT [(7,v7),(8,v8),(9,v9),(10,v10),(13,v13),(14,v14)]) .ready none))) (fun h=>some (.s (.bool false),h.set L (.loop (Z1U) (Z1T) (Z1H) (Z1I) (envT [(7,v7),(8,v8),(9,v9),(10,v10),(13,v13),(14,v14)]) .done (some .ret)))) v7 v8 v9 v10 v13 v14 v64 v65 h:=by kernel_rfl
noncomputable def Z3E (P:Program) (T:Tab) (D:DTab) (N:Nat) {β:Type} (K:AV→Hp→Option β) (a0:AV) (a1:AV) (a2:AV) (a3:AV) (h:Hp):Option β:=
effK (boxE 3 a0 (List.length h)) h fun x1 h2=>
effK (boxE 3 a1 (List.length h2)) h2 fun x3 h4=>
effK (boxE 1 a3 (List.length h4)) h4 fun x5 h6=>
effK (boxE 3 (.agg [.s (.int .i64 0), .s (.int .i64 0), .s (.slice none 0 0)]) (List.length h6)) h6 fun x7 h8=>
effK (boxE 3 (.agg [.s (.int .i64 0), .s (.slice none 0 0), .s (.slice none 0 0)]) (List.length h8)) h8 fun x9 h10=>
effK (boxE 1 (.s (.int .i64 0)) (List.length h10)) h10 fun x11 h12=>
ldK 3 true x1 h12 fun x13=>
callK (T 64) [x13] h12 fun x14 h15=>
eqK P true 32 x14 (.s (.int .i64 0)) h15 fun x16=>
grpK false x16 h15 (fun k17=>
ldK 3 true x3 h15 fun x18=>
callK (T 16) [x18] h15 fun x19 h20=>
eqK P true 32 x19 (.s (.int .i64 0)) h20 fun x21=>
k17 x21 h20) fun x22 h23=>
condK x22 (
buildK [.s (.int .i64 0), .s (.int .i64 0), .s (.slice none 0 0)] [] fun x24=>
buildK [.s (.int .i64 0), .s (.slice none 0 0), .s (.slice none 0 0)] [] fun x25=>
effK (stE 3 x7 x24 h23) h23 fun x26 h27=>
effK (stE 3 x9 x25 h27) h27 fun x28 h29=>
effK (stE 1 x11 (.s (.int .i64 1)) h29) h29 fun x30 h31=>
ldK 3 true x7 h31 fun r32=>
ldK 3 true x9 h31 fun r33=>
ldK 1 false x11 h31 fun r34=>
K (.tup [r32,r33,r34]) h31) (
faK 0 x1 fun x35=>
ldK 1 false x35 h23 fun x36=>
faK 0 x3 fun x37=>
ldK 1 false x37 h23 fun x38=>
eqK P false 3 x36 x38 h23 fun x39=>
condK x39 (
buildK [.s (.int .i64 0), .s (.int .i64 0), .s (.slice none 0 0)] [] fun x40=>
buildK [.s (.int .i64 0), .s (.slice none 0 0), .s (.slice none 0 0)] [] fun x41=>
effK (stE 3 x7 x40 h23) h23 fun x42 h43=>
effK (stE 3 x9 x41 h43) h43 fun x44 h45=>
effK (stE 1 x11 (.s (.int .i64 10)) h45) h45 fun x46 h47=>
ldK 3 true x7 h47 fun r48=>
ldK 3 true x9 h47 fun r49=>
ldK 1 false x11 h47 fun r50=>
K (.tup [r48,r49,r50]) h47) (
ldK 3 true x1 h23 fun x51=>
faK 0 x3 fun x52=>
ldK 1 false x52 h23 fun x53=>
callK (T 65) [x51,x53] h23 fun x54 h55=>
exK x54 0 fun x56=>
exK x54 1 fun x57=>
ldK 3 true x1 h55 fun x58=>
effK (boxE 3 (.agg [.s (.int .i64 0), .s (.int .i64 0), .s (.slice none 0 0)]) (List.length h55)) h55 fun x59 h60=>
effK (stE 3 x59 x58 h60) h60 fun x61 h62=>
faK 2 x1 fun x63=>
ldK 1 false x63 h62 fun x64=>
callK (T 66) [x64] h62 fun x65 h66=>
faK 2 x59 fun x67=>
effK (stE 1 x67 x65 h66) h66 fun x68 h69=>
faK 0 x3 fun x70=>
ldK 1 false x70 h69 fun x71=>
faK 1 x3 fun x72=>
ldK 1 false x72 h69 fun x73=>
effD (callE (D 50) [x73] h69 (List.length h69)) h69 fun x74 h75 e76=>
faK 2 x3 fun x77=>
ldK 1 false x77 h75 fun x78=>
effD (callE (D 51) [x78] h75 (List.length h75)) h75 fun x79 h80 e81=>
buildK [.s (.int .i64 0), .s (.slice none 0 0), .s (.slice none 0 0)] [(some (0,1),x71),(some (1,1),x74),(some (2,1),x79)] fun x82=>
effD (boxE 3 (.agg [.s (.int .i64 0), .s (.slice none 0 0), .s (.slice none 0 0)]) (List.length h80)) h80 fun x83 h84 e85=>
effD (stE 3 x83 x82 h84) h84 fun x86 h87 e88=>
bif disjAll [(1,4),(4,6),(1,7),(1,9),(3,9),(4,9),(6,9),(7,9)] [([],[]),((idsOf x70),[]),([],[]),((idsOf x72),[]),e76,([],[]),((idsOf x77),[]),e81,([],[]),e85,e88] then (
callK (T 67) [x56,a2] h87 fun x89 h90=>
rangeX T x89 (Z1U) (Z1T) (Z1H) (Z1I) (envT [(7,x5),(8,x7),(9,x9),(10,x11),(13,x59),(14,x83)]) h90 fun pd h150=>
jumpC pd (
Z5j P T D N K x7 x9 x11 x59 x83 h150) (fun i151=>bif i151==1 then (Z5j P T D N K x7 x9 x11 x59 x83 h150) else (none)) (
ldK 3 true x7 h150 fun r152=>
ldK 3 true x9 h150 fun r153=>
ldK 1 false x11 h150 fun r154=>
K (.tup [r152,r153,r154]) h150)) else none))
theorem ZlL (T:Tab) (D:DTab) (N:Nat) {β:Type} (K:AV→Hp→Option β) (a0:AV) (a1:AV) (a2:AV) (a3:AV) (h:Hp):runK Try.prog T D N [0,1,2,3,4,5,7,8,9,10,11,13,14,15,16,17,18,20,21,32,63,64,65,75,84] Try.f30 K [a0,a1,a2,a3] h=Z3E Try.prog T D N K a0 a1 a2 a3 h:=by kernel_rfl
noncomputable def Z90 (P:Program) (T:Tab) (D:DTab) (N:Nat) {β:Type} (K:AV→Hp→Option β) (a0:AV) (a1:AV) (h:Hp):Option β:=
effK (boxE 10 a1 (List.length h)) h fun x1 h2=>
ldK 10 true x1 h2 fun x3=>
callK (T 69) [a0,x3] h2 fun x4 h5=>
arithK .geq x4 (.s (.int .i64 0)) fun x6=>
K x6 h5
theorem ZlM (T:Tab) (D:DTab) (N:Nat) {β:Type} (K:AV→Hp→Option β) (a0:AV) (a1:AV) (h:Hp):runK Try.prog T D N [0,1,3,4] Try.f31 K [a0,a1] h=Z90 Try.prog T D N K a0 a1 h:=by kernel_rfl
noncomputable def Z91 (P:Program) (T:Tab) (D:DTab) (N:Nat) {β:Type} (K:AV→Hp→Option β) (a0:AV) (a1:AV) (h:Hp):Option β:=
callK (T 70) [a0,a1] h fun x1 h2=>
arithK .geq x1 (.s (.int .i64 0)) fun x3=>
K x3 h2
theorem ZlN (T:Tab) (D:DTab) (N:Nat) {β:Type} (K:AV→Hp→Option β) (a0:AV) (a1:AV) (h:Hp):runK Try.prog T D N [0,1,4] Try.f32 K [a0,a1] h=Z91 Try.prog T D N K a0 a1 h:=by kernel_rfl
noncomputable def Z92 (P:Program) (T:Tab) (D:DTab) (N:Nat) {β:Type} (K:AV→Hp→Option β) (a0:AV) (a1:AV) (h:Hp):Option β:=
effK (boxE 10 a0 (List.length h)) h fun x1 h2=>
faK 2 a1 fun x3=>
ldK 1 false x3 h2 fun x4=>
ldK 10 true x1 h2 fun x5=>
callK (T 31) [x4,x5] h2 fun x6 h7=>
notK x6 fun x8=>
K x8 h7
theorem ZlO (T:Tab) (D:DTab) (N:Nat) {β:Type} (K:AV→Hp→Option β) (a0:AV) (a1:AV) (h:Hp):runK Try.prog T D N [0,1,2,3] Try.f37 K [a0,a1] h=Z92 Try.prog T D N K a0 a1 h:=by kernel_rfl
noncomputable def Z93 (P:Program) (T:Tab) (D:DTab) (N:Nat) {β:Type} (K:AV→Hp→Option β) (a0:AV) (a1:AV) (h:Hp):Option β:=
effK (boxE 7 a0 (List.length h)) h fun x1 h2=>
faK 2 a1 fun x3=>
ldK 1 false x3 h2 fun x4=>
ldK 7 true x1 h2 fun x5=>
callK (T 23) [x4,x5] h2 fun x6 h7=>
notK x6 fun x8=>
K x8 h7
theorem ZlP (T:Tab) (D:DTab) (N:Nat) {β:Type} (K:AV→Hp→Option β) (a0:AV) (a1:AV) (h:Hp):runK Try.prog T D N [0,1,2,3] Try.f38 K [a0,a1] h=Z93 Try.prog T D N K a0 a1 h:=by kernel_rfl
noncomputable def Z6P (P:Program) (T:Tab) (D:DTab) (N:Nat) {β:Type} (K:AV→Hp→Option β) (a0:AV) (h:Hp):Option β:=
effK (boxE 3 a0 (List.length h)) h fun x1 h2=>
ldK 3 true x1 h2 fun x3=>
callK (T 16) [x3] h2 fun x4 h5=>
eqK P true 32 x4 (.s (.int .i64 0)) h5 fun x6=>
condK x6 (
K (.tup [(.s (.slice none 0 0)),(.s (.int .i64 1))]) h5) (
faK 2 x1 fun x7=>
ldK 1 false x7 h5 fun x8=>
callK (T 72) [x8] h5 fun x9 h10=>
exK x9 0 fun x11=>
exK x9 1 fun x12=>
K (.tup [x11,x12]) h10)
theorem ZlQ (T:Tab) (D:DTab) (N:Nat) {β:Type} (K:AV→Hp→Option β) (a0:AV) (h:Hp):runK Try.prog T D N [0,1,2,3,6] Try.f39 K [a0] h=Z6P Try.prog T D N K a0 h:=by kernel_rfl
noncomputable def Z94 (P:Program) (T:Tab) (D:DTab) (N:Nat) {β:Type} (K:AV→Hp→Option β) (a0:AV) (a1:AV) (h:Hp):Option β:=
callK (T 73) [a0,a1] h fun x1 h2=>
arithK .geq x1 (.s (.int .i64 0)) fun x3=>
K x3 h2
theorem ZlR (T:Tab) (D:DTab) (N:Nat) {β:Type} (K:AV→Hp→Option β) (a0:AV) (a1:AV) (h:Hp):runK Try.prog T D N [0,1,4] Try.f40 K [a0,a1] h=Z94 Try.prog T D N K a0 a1 h:=by kernel_rfl
noncomputable def Z95 (P:Program) (T:Tab) (D:DTab) (N:Nat) {β:Type} (K:AV→Hp→Option β) (a0:AV) (a1:AV) (h:Hp):Option β:=
effK (boxE 7 a0 (List.length h)) h fun x1 h2=>
ldK 7 true a1 h2 fun x3=>
ldK 7 true x1 h2 fun x4=>
callK (T 42) [x3,x4] h2 fun x5 h6=>
K x5 h6
theorem ZlS (T:Tab) (D:DTab) (N:Nat) {β:Type} (K:AV→Hp→Option β) (a0:AV) (a1:AV) (h:Hp):runK Try.prog T D N [0,1,2,3] Try.f41 K [a0,a1] h=Z95 Try.prog T D N K a0 a1 h:=by kernel_rfl
noncomputable def Z96 (P:Program) (T:Tab) (D:DTab) (N:Nat) {β:Type} (K:AV→Hp→Option β) (a0:AV) (a1:AV) (h:Hp):Option β:=
effK (boxE 7 a0 (List.length h)) h fun x1 h2=>
effK (boxE 7 a1 (List.length h2)) h2 fun x3 h4=>
faK 0 x1 fun x5=>
ldK 1 false x5 h4 fun x6=>
faK 0 x3 fun x7=>
ldK 1 false x7 h4 fun x8=>
eqK P true 3 x6 x8 h4 fun x9=>
condK x9 (
K (.s (.bool false)) h4) (
ldK 7 true x1 h4 fun x10=>
ldK 7 true x3 h4 fun x11=>
eqK P false 72 x10 x11 h4 fun x12=>
grpK false x12 h4 (fun k13=>
faK 1 x1 fun x14=>
ldK 1 false x14 h4 fun x15=>
eqK P false 3 x15 (.s (.int .i64 0)) h4 fun x16=>
k13 x16 h4) fun x17 h18=>
grpK false x17 h18 (fun k19=>
faK 1 x3 fun x20=>
ldK 1 false x20 h18 fun x21=>
eqK P false 3 x21 (.s (.int .i64 5)) h18 fun x22=>
k19 x22 h18) fun x23 h24=>
condK x23 (
K (.s (.bool true)) h24) (
faK 2 x1 fun x25=>
ldK 1 false x25 h24 fun x26=>
faK 2 x3 fun x27=>
ldK 1 false x27 h24 fun x28=>
eqK P false 3 x26 x28 h24 fun x29=>
grpK true x29 h24 (fun k30=>
faK 4 x1 fun x31=>
ldK 1 false x31 h24 fun x32=>
faK 4 x3 fun x33=>
ldK 1 false x33 h24 fun x34=>
eqK P false 3 x32 x34 h24 fun x35=>
k30 x35 h24) fun x36 h37=>
grpK true x36 h37 (fun k38=>
faK 6 x3 fun x39=>
ldK 1 false x39 h37 fun x40=>
faK 6 x1 fun x41=>
ldK 1 false x41 h37 fun x42=>
arithK .gtr x40 x42 fun x43=>
grpK false x43 h37 (fun k44=>
faK 6 x3 fun x45=>
ldK 1 false x45 h37 fun x46=>
faK 6 x1 fun x47=>
ldK 1 false x47 h37 fun x48=>
eqK P false 3 x46 x48 h37 fun x49=>
grpK true x49 h37 (fun k50=>
faK 3 x1 fun x51=>
ldK 1 false x51 h37 fun x52=>
faK 3 x3 fun x53=>
ldK 1 false x53 h37 fun x54=>
eqK P false 3 x52 x54 h37 fun x55=>
k50 x55 h37) fun x56 h57=>
k44 x56 h57) fun x58 h59=>
k38 x58 h59) fun x60 h61=>
grpK true x60 h61 (fun k62=>
ldK 7 true x1 h61 fun x63=>
ldK 7 true x3 h61 fun x64=>
callK (T 74) [x63,x64] h61 fun x65 h66=>
k62 x65 h66) fun x67 h68=>
K x67 h68))
theorem ZlT (T:Tab) (D:DTab) (N:Nat) {β:Type} (K:AV→Hp→Option β) (a0:AV) (a1:AV) (h:Hp):runK Try.prog T D N [0,1,2,3,4,5,11] Try.f42 K [a0,a1] h=Z96 Try.prog T D N K a0 a1 h:=by kernel_rfl
noncomputable def Z6Q (P:Program) (T:Tab) (D:DTab) (N:Nat) {β:Type} (K:AV→Hp→Option β) (a0:AV) (h:Hp):Option β:=
effK (boxE 3 (.agg [.s (.int .i64 0), .s (.int .i64 0), .s (.slice none 0 0)]) (List.length h)) h fun x1 h2=>
callK (T 75) [a0] h2 fun x3 h4=>
notK x3 fun x5=>
condK x5 (
buildK [.s (.int .i64 0), .s (.int .i64 0), .s (.slice none 0 0)] [] fun x6=>
effK (stE 3 x1 x6 h4) h4 fun x7 h8=>
ldK 3 true x1 h8 fun r9=>
K (.tup [r9,(.s (.int .i64 2))]) h8) (
buildK [.s (.int .i64 0), .s (.int .i64 0), .s (.slice none 0 0)] [(some (0,1),a0),(some (1,1),(.s (.int .i64 1)))] fun x10=>
effK (stE 3 x1 x10 h4) h4 fun x11 h12=>
ldK 3 true x1 h12 fun r13=>
K (.tup [r13,(.s (.int .i64 0))]) h12)
theorem ZlU (T:Tab) (D:DTab) (N:Nat) {β:Type} (K:AV→Hp→Option β) (a0:AV) (h:Hp):runK Try.prog T D N [0,2,3,6] Try.f43 K [a0] h=Z6Q Try.prog T D N K a0 h:=by kernel_rfl
noncomputable def ZfC (P:Program) (T:Tab) (D:DTab) (N:Nat) {β:Type} (K:AV→Hp→Option β) (v1:AV) (v3:AV) (v5:AV) (v6:AV) (v7:AV) (v9:AV) (h:Hp):Option β:=
eqK P true 32 v9 (.s (.int .i64 0)) h fun x9=>
condK x9 (
buildK [.s (.int .i64 0), .s (.int .i64 0), .s (.slice none 0 0)] [] fun x10=>
buildK [.s (.int .i64 0), .s (.int .i64 0), .s (.int .i64 0), .s (.int .i64 0), .s (.int .i64 0), .s (.int .i64 0), .s (.int .i64 0), .s (.int .i64 0), .s (.int .i64 0), .s (.int .i64 0)] [] fun x11=>
effK (stE 3 v6 x10 h) h fun x12 h13=>
effK (stE 10 v7 x11 h13) h13 fun x14 h15=>
ldK 3 true v6 h15 fun r16=>
ldK 10 true v7 h15 fun r17=>
K (.tup [r16,r17,v9]) h15) (
ldK 3 true v3 h fun x18=>
effD (callE (D 77) [x18] h (List.length h)) h fun x19 h20 e21=>
faK 0 v3 fun x22=>
ldK 1 false x22 h20 fun x23=>
faK 1 v3 fun x24=>
ldK 1 false x24 h20 fun x25=>
ldK 7 true v5 h20 fun x26=>
buildK [.s (.int .i64 0), .s (.int .i64 0), .s (.int .i64 0), .s (.int .i64 0), .s (.int .i64 0), .s (.int .i64 0), .s (.int .i64 0), .s (.int .i64 0), .s (.int .i64 0), .s (.int .i64 0)] [(some (0,1),x23),(some (1,1),v1),(some (2,1),x25),(some (3,7),x26)] fun x27=>
effD (boxE 3 (.agg [.s (.int .i64 0), .s (.int .i64 0), .s (.slice none 0 0)]) (List.length h20)) h20 fun x28 h29 e30=>
effD (boxE 10 (.agg [.s (.int .i64 0), .s (.int .i64 0), .s (.int .i64 0), .s (.int .i64 0), .s (.int .i64 0), .s (.int .i64 0), .s (.int .i64 0), .s (.int .i64 0), .s (.int .i64 0), .s (.int .i64 0)]) (List.length h29)) h29 fun x31 h32 e33=>
effD (stE 3 x28 x19 h32) h32 fun x34 h35 e36=>
effD (stE 10 x31 x27 h35) h35 fun x37 h38 e39=>
bif disjAll [(1,3),(1,6),(1,7),(0,9),(1,9),(3,9),(6,9),(7,9),(0,10),(1,10),(3,10),(6,10),(7,10),(9,10),(3,11),(6,11),(7,11)] [((idsOf v3),[]),e21,([],[]),((idsOf x22),[]),([],[]),([],[]),((idsOf x24),[]),((idsOf v5),[]),([],[]),e30,e33,e36,e39] then (
faK 2 x28 fun x40=>
ldK 1 false x40 h38 fun x41=>
ldK 10 true x31 h38 fun x42=>
effK (bsE 10 [.s (.int .i64 0), .s (.int .i64 0), .s (.int .i64 0), .s (.int .i64 0), .s (.int .i64 0), .s (.int .i64 0), .s (.int .i64 0), .s (.int .i64 0), .s (.int .i64 0), .s (.int .i64 0)] 1 [(0,x42)] (List.length h38)) h38 fun x43 h44=>
effK (appE 10 80 x41 x43 h44 (List.length h44)) h44 fun x45 h46=>
faK 2 x28 fun x47=>
effK (stE 1 x47 x45 h46) h46 fun x48 h49=>
faK 1 x28 fun x50=>
ldK 1 false x50 h49 fun x51=>
arithK .add x51 (.s (.int .i64 1)) fun x52=>
faK 1 x28 fun x53=>
effK (stE 1 x53 x52 h49) h49 fun x54 h55=>
ldK 3 true x28 h55 fun x56=>
ldK 10 true x31 h55 fun x57=>
effD (stE 3 v6 x56 h55) h55 fun x58 h59 e60=>
effD (stE 10 v7 x57 h59) h59 fun x61 h62 e63=>
bif disjAll [(1,2)] [((idsOf x28),[]),((idsOf x31),[]),e60,e63,([],[])] then (
ldK 3 true v6 h62 fun r64=>
ldK 10 true v7 h62 fun r65=>
K (.tup [r64,r65,(.s (.int .i64 0))]) h62) else none) else none)
noncomputable def Z3F (P:Program) (T:Tab) (D:DTab) (N:Nat) {β:Type} (K:AV→Hp→Option β) (v1:AV) (v3:AV) (v5:AV) (v6:AV) (v7:AV) (v9:AV) (h:Hp):Option β:=
ZfC P T D N K v1 v3 v5 v6 v7 v9 h
noncomputable def Z97 (P:Program) (T:Tab) (D:DTab) (N:Nat) {β:Type} (K:AV→Hp→Option β) (a0:AV) (a1:AV) (a2:AV) (h:Hp):Option β:=
effK (boxE 3 a0 (List.length h)) h fun x1 h2=>
effK (boxE 7 a2 (List.length h2)) h2 fun x3 h4=>
effK (boxE 3 (.agg [.s (.int .i64 0), .s (.int .i64 0), .s (.slice none 0 0)]) (List.length h4)) h4 fun x5 h6=>
effK (boxE 10 (.agg [.s (.int .i64 0), .s (.int .i64 0), .s (.int .i64 0), .s (.int .i64 0), .s (.int .i64 0), .s (.int .i64 0), .s (.int .i64 0), .s (.int .i64 0), .s (.int .i64 0), .s (.int .i64 0)]) (List.length h6)) h6 fun x7 h8=>
ldK 3 true x1 h8 fun x66=>
callK (T 64) [x66] h8 fun x67 h68=>
eqK P true 32 x67 (.s (.int .i64 0)) h68 fun x69=>
condK x69 (
Z3F P T D N K a1 x1 x3 x5 x7 (.s (.int .i64 1)) h68) (
callK (T 75) [a1] h68 fun x70 h71=>
notK x70 fun x72=>
condK x72 (
Z3F P T D N K a1 x1 x3 x5 x7 (.s (.int .i64 2)) h71) (
faK 0 x1 fun x73=>
ldK 1 false x73 h71 fun x74=>
eqK P false 3 a1 x74 h71 fun x75=>
condK x75 (
Z3F P T D N K a1 x1 x3 x5 x7 (.s (.int .i64 10)) h71) (
ldK 7 true x3 h71 fun x76=>
callK (T 76) [x76] h71 fun x77 h78=>
eqK P true 32 x77 (.s (.int .i64 0)) h78 fun x79=>
condK x79 (
Z3F P T D N K a1 x1 x3 x5 x7 (.s (.int .i64 11)) h78) (
faK 2 x1 fun x80=>
ldK 1 false x80 h78 fun x81=>
lenK x81 fun x82=>
eqK P false 3 x82 (.s (.int .i64 64)) h78 fun x83=>
condK x83 (
Z3F P T D N K a1 x1 x3 x5 x7 (.s (.int .i64 12)) h78) (
faK 1 x1 fun x84=>
ldK 1 false x84 h78 fun x85=>
arithK .gtr x85 (.s (.int .i64 1073741824)) fun x86=>
condK x86 (
Z3F P T D N K a1 x1 x3 x5 x7 (.s (.int .i64 15)) h78) (
Z3F P T D N K a1 x1 x3 x5 x7 (.s (.int .i64 0)) h78))))))
theorem ZlV (T:Tab) (D:DTab) (N:Nat) {β:Type} (K:AV→Hp→Option β) (a0:AV) (a1:AV) (a2:AV) (h:Hp):runK Try.prog T D N [0,1,2,3,5,6,7,8,9,10,11,12,16,20,25,29,34,39] Try.f44 K [a0,a1,a2] h=Z97 Try.prog T D N K a0 a1 a2 h:=by kernel_rfl
noncomputable def Z98 (P:Program) (T:Tab) (D:DTab) (N:Nat) {β:Type} (K:AV→Hp→Option β) (a0:AV) (h:Hp):Option β:=
effK (boxE 7 (.agg [.s (.int .i64 0), .s (.int .i64 0), .s (.int .i64 0), .s (.int .i64 0), .s (.int .i64 0), .s (.int .i64 0), .s (.int .i64 0)]) (List.length h)) h fun x1 h2=>
buildK [.s (.int .i64 0), .s (.int .i64 0), .s (.int .i64 0), .s (.int .i64 0), .s (.int .i64 0), .s (.int .i64 0), .s (.int .i64 0)] [(some (0,1),a0),(some (1,1),(.s (.int .i64 1))),(some (4,1),(.s (.int .i64 1))),(some (5,1),(.s (.int .i64 2))),(some (6,1),(.s (.int .i64 10)))] fun x3=>
effK (stE 7 x1 x3 h2) h2 fun x4 h5=>
ldK 7 true x1 h5 fun r6=>
K r6 h5
theorem ZlW (T:Tab) (D:DTab) (N:Nat) {β:Type} (K:AV→Hp→Option β) (a0:AV) (h:Hp):runK Try.prog T D N [0,2] Try.f45 K [a0] h=Z98 Try.prog T D N K a0 h:=by kernel_rfl
noncomputable def ZfD (P:Program) (T:Tab) (D:DTab) (N:Nat) {β:Type} (K:AV→Hp→Option β) (t:Tm) (h:Hp):Option β:=
K (.s (.bool true)) h
noncomputable def Z3G (P:Program) (T:Tab) (D:DTab) (N:Nat) {β:Type} (t:Tm) (h:Hp) (k:Ex→St→Option β):Option β:=
arithK .lss (t 13) (t 12) fun x5=>
condK x5 (
iaK 2 (t 0) (t 13) fun x6=>
ldK 2 true x6 h fun x7=>
iaK 2 (t 1) (t 13) fun x8=>
ldK 2 true x8 h fun x9=>
eqK P true 36 x7 x9 h fun x10=>
condK x10 (
k .ret ((upd (upd (upd (upd t 14 x5) 5 (t 13)) 24 x10) 4 (.s (.bool false))),h)) (
arithK .add (t 13) (.s (.int .i64 1)) fun x11=>
k .normal ((upd (upd (upd (upd t 14 x5) 5 (t 13)) 24 x10) 13 x11),h))) (
k (.exit 0) ((upd t 14 x5),h))
noncomputable def Z99 (P:Program) (T:Tab) (D:DTab) (N:Nat) {β:Type} (K:AV→Hp→Option β) (e:Ex) (s:St):Option β:=
 e.on ((ZfD P T D N K s.1 s.2))
 (fun i=>bif i==0 then ((ZfD P T D N K s.1 s.2)) else (none))
 (K (s.1 4) s.2)
noncomputable def ZfE (P:Program) (T:Tab) (D:DTab) (N:Nat) {β:Type} (cL2:St→Option β) (K:AV→Hp→Option β) (a0:AV) (a1:AV) (h:Hp) :  Option β:=
lenK a0 fun x1=>
lenK a1 fun x2=>
eqK P true 3 x1 x2 h fun x3=>
condK x3 (
K (.s (.bool false)) h) (
lenK a0 fun x4=>
cL2 ((upd (upd (upd (upd (tm0 [a0,a1]) 4 (.s (.bool false))) 10 x3) 12 x4) 13 (.s (.int .i64 0))),h))
noncomputable def ZfF (P:Program) (T:Tab) (D:DTab) (N:Nat) {β:Type} (K:AV→Hp→Option β) (a0:AV) (a1:AV) (h:Hp):Option β:=ZfE P T D N (fun s=>iterK (fun s k=>Z3G P T D N s.1 s.2 k) N s (Z99 P T D N K)) K a0 a1 h
noncomputable def Z9a (P:Program) (T:Tab) (D:DTab) (N:Nat) {β:Type} (K:AV→Hp→Option β) (h:Hp):Option β:=
K (.s (.bool true)) h
noncomputable def Z6R (P:Program) (T:Tab) (D:DTab) (N:Nat) {β:Type} (xn:AV→AV→AV→AV→Hp→Option β) (x0:Hp→Option β) (xr:AV→Hp→Option β) (v0:AV) (v1:AV) (v12:AV) (v13:AV) (h:Hp):Option β:=
arithK .lss v13 v12 fun x5=>
condK x5 (
iaK 2 v0 v13 fun x6=>
ldK 2 true x6 h fun x7=>
iaK 2 v1 v13 fun x8=>
ldK 2 true x8 h fun x9=>
eqK P true 36 x7 x9 h fun x10=>
condK x10 (
xr (.s (.bool false)) h) (
arithK .add v13 (.s (.int .i64 1)) fun x11=>
xn v0 v1 v12 x11 h)) (
x0 h)
noncomputable def Z3H (P:Program) (T:Tab) (D:DTab) (N:Nat) {β:Type} (x0:Hp→Option β) (xr:AV→Hp→Option β):Nat→AV→AV→AV→AV→Hp→Option β
 | 0=>fun _ _ _ _ _=>none
 | n+1=>fun v0 v1 v12 v13 h=>Z6R P T D N (Z3H P T D N x0 xr n) x0 xr v0 v1 v12 v13 h
noncomputable def Z5k (P:Program) (T:Tab) (D:DTab) (N:Nat) {β:Type} (K:AV→Hp→Option β) (a0:AV) (a1:AV) (h:Hp):Option β:=
lenK a0 fun x1=>
lenK a1 fun x2=>
eqK P true 3 x1 x2 h fun x3=>
condK x3 (
K (.s (.bool false)) h) (
lenK a0 fun x4=>
Z3H P T D N (fun h=>Z9a P T D N K h) (fun w13_4 h=>K w13_4 h) N a0 a1 x4 (.s (.int .i64 0)) h)
theorem ZlX (P:Program) (T:Tab) (D:DTab) (N:Nat) {β:Type} (xn:AV→AV→AV→AV→Hp→Option β) (x0:Hp→Option β) (xr:AV→Hp→Option β) (xd:Nat→St→Option β) (xq:St→Option β) (t:Tm) (h:Hp):Z3G P T D N t h (fun (e:Ex) (s:St)=>e.on (xn (s.1 0) (s.1 1) (s.1 12) (s.1 13) s.2) (fun i=>(bif i==0 then x0 s.2 else (xd i s))) (xr (s.1 4) s.2))=Z6R P T D N xn x0 xr (t 0) (t 1) (t 12) (t 13) h:=by kernel_rfl
theorem ZlY (P:Program) (T:Tab) (D:DTab) (N:Nat) {β:Type} (A:Ex→St→Option β) (x0:Hp→Option β) (xr:AV→Hp→Option β) (q0:∀s,A (.exit 0) s=x0 s.2) (qr:∀s,A .ret s=xr (s.1 4) s.2):∀(n:Nat) (s:St),iterK (fun s k=>Z3G P T D N s.1 s.2 k) n s A=Z3H P T D N x0 xr n (s.1 0) (s.1 1) (s.1 12) (s.1 13) s.2:=by
 intro n
 induction n with
 | zero=>intro s;rfl
 | succ n ih=>
  intro s
  have hk:(fun (e:Ex) (s':St)=>Ex.on e (iterK (fun s k=>Z3G P T D N s.1 s.2 k) n s' A) (fun i=>A (.exit i) s') (A .ret s'))=(fun (e:Ex) (s:St)=>e.on ((Z3H P T D N x0 xr n) (s.1 0) (s.1 1) (s.1 12) (s.1 13) s.2) (fun i=>(bif i==0 then x0 s.2 else (A (.exit i) s))) (xr (s.1 4) s.2)):=by
   funext e s'
   cases e with
   | normal=>exact ih s'
   | ret=>exact qr s'
   | exit i=>
    by_cases r0:i=0
    ·subst r0;exact q0 s'
    simp only [Ex.on,beq_false_of_ne r0,cond_false]
  show Z3G P T D N s.1 s.2 (fun (e:Ex) (s':St)=>Ex.on e (iterK (fun s k=>Z3G P T D N s.1 s.2 k) n s' A) (fun i=>A (.exit i) s') (A .ret s'))=_
  rw [hk]
  exact ZlX P T D N (Z3H P T D N x0 xr n) x0 xr (fun i s=>A (.exit i) s) (fun s=>A .ret s) s.1 s.2
theorem ZlZ (P:Program) (T:Tab) (D:DTab) (N:Nat) {β:Type} (K:AV→Hp→Option β) (a0:AV) (a1:AV) (h:Hp):ZfF P T D N K a0 a1 h=Z5k P T D N K a0 a1 h:=by
 have eL2:(fun s:St=>iterK (fun s k=>Z3G P T D N s.1 s.2 k) N s (Z99 P T D N K))=(fun s:St=>Z3H P T D N (fun h=>Z9a P T D N K h) (fun w13_4 h=>K w13_4 h) N (s.1 0) (s.1 1) (s.1 12) (s.1 13) s.2):=funext fun s=>ZlY P T D N (Z99 P T D N K) (fun h=>Z9a P T D N K h) (fun w13_4 h=>K w13_4 h) (fun s=>rfl) (fun s=>rfl) N s
 show ZfE P T D N (fun s=>iterK (fun s k=>Z3G P T D N s.1 s.2 k) N s (Z99 P T D N K)) K a0 a1 h=_
 rw [eL2]
 kernel_rfl
theorem Zm0 (T:Tab) (D:DTab) (N:Nat) {β:Type} (K:AV→Hp→Option β) (a0:AV) (a1:AV) (h:Hp):runK Try.prog T D N [0,1,4,5,10,12,13,14,24] Try.f46 K [a0,a1] h=ZfF Try.prog T D N K a0 a1 h:=by kernel_rfl
theorem Zm1 (T:Tab) (D:DTab) (N:Nat) {β:Type} (K:AV→Hp→Option β) (a0:AV) (a1:AV) (h:Hp):runK Try.prog T D N [0,1,4,5,10,12,13,14,24] Try.f46 K [a0,a1] h=Z5k Try.prog T D N K a0 a1 h:=(Zm0 T D N K a0 a1 h).trans (ZlZ Try.prog T D N K a0 a1 h)
noncomputable def Z9b (P:Program) (T:Tab) (D:DTab) (N:Nat) {β:Type} (K:AV→Hp→Option β) (a0:AV) (h:Hp):Option β:=
arithK .geq a0 (.s (.int .i64 1)) fun x1=>
grpK true x1 h (fun k2=>
arithK .leq a0 (.s (.int .i64 99)) fun x3=>
k2 x3 h) fun x4 h5=>
K x4 h5
theorem Zm2 (T:Tab) (D:DTab) (N:Nat) {β:Type} (K:AV→Hp→Option β) (a0:AV) (h:Hp):runK Try.prog T D N [0,2] Try.f47 K [a0] h=Z9b Try.prog T D N K a0 h:=by kernel_rfl
noncomputable def ZfG (P:Program) (T:Tab) (D:DTab) (N:Nat) {β:Type} (K:AV→Hp→Option β) (t:Tm) (h:Hp):Option β:=
K (.tup [(.s (.int .i64 (-1))),(.s (.int .i64 0))]) h
noncomputable def Z3I (P:Program) (T:Tab) (D:DTab) (N:Nat) {β:Type} (t:Tm) (h:Hp) (k:Ex→St→Option β):Option β:=
arithK .lss (t 13) (t 12) fun x6=>
condK x6 (
iaK 10 (t 11) (t 13) fun x7=>
ldK 10 true x7 h fun x8=>
effK (boxE 10 (.agg [.s (.int .i64 0), .s (.int .i64 0), .s (.int .i64 0), .s (.int .i64 0), .s (.int .i64 0), .s (.int .i64 0), .s (.int .i64 0), .s (.int .i64 0), .s (.int .i64 0), .s (.int .i64 0)]) (List.length h)) h fun x9 h10=>
effK (stE 10 x9 x8 h10) h10 fun x11 h12=>
faK 0 x9 fun x13=>
ldK 1 false x13 h12 fun x14=>
arithK .lss x14 (.s (.int .i64 1)) fun x15=>
grpK false x15 h12 (fun k16=>
faK 0 x9 fun x17=>
ldK 1 false x17 h12 fun x18=>
arithK .gtr x18 (.s (.int .i64 99)) fun x19=>
k16 x19 h12) fun x20 h21=>
grpK false x20 h21 (fun k22=>
faK 1 x9 fun x23=>
ldK 1 false x23 h21 fun x24=>
arithK .lss x24 (.s (.int .i64 1)) fun x25=>
k22 x25 h21) fun x26 h27=>
grpK false x26 h27 (fun k28=>
faK 1 x9 fun x29=>
ldK 1 false x29 h27 fun x30=>
arithK .gtr x30 (.s (.int .i64 99)) fun x31=>
k28 x31 h27) fun x32 h33=>
grpK false x32 h33 (fun k34=>
faK 2 x9 fun x35=>
ldK 1 false x35 h33 fun x36=>
arithK .lss x36 (.s (.int .i64 1)) fun x37=>
k34 x37 h33) fun x38 h39=>
grpK false x38 h39 (fun k40=>
faK 2 x9 fun x41=>
ldK 1 false x41 h39 fun x42=>
arithK .gtr x42 (.s (.int .i64 1073741824)) fun x43=>
k40 x43 h39) fun x44 h45=>
condK x44 (
k .ret ((upd (upd (upd (upd (upd (upd t 14 x6) 6 x9) 5 (t 13)) 18 x44) 2 (t 13)) 3 (.s (.int .i64 2))),h45)) (
faK 0 x9 fun x46=>
ldK 1 false x46 h45 fun x47=>
faK 1 x9 fun x48=>
ldK 1 false x48 h45 fun x49=>
eqK P false 3 x47 x49 h45 fun x50=>
condK x50 (
k .ret ((upd (upd (upd (upd (upd (upd (upd t 14 x6) 6 x9) 5 (t 13)) 18 x44) 48 x50) 2 (t 13)) 3 (.s (.int .i64 10))),h45)) (
faK 3 x9 fun x51=>
ldK 7 true x51 h45 fun x52=>
callK (T 76) [x52] h45 fun x53 h54=>
eqK P true 32 x53 (.s (.int .i64 0)) h54 fun x55=>
condK x55 (
k .ret ((upd (upd (upd (upd (upd (upd (upd (upd t 14 x6) 6 x9) 5 (t 13)) 18 x44) 48 x50) 55 x55) 2 (t 13)) 3 (.s (.int .i64 1))),h54)) (
faK 0 x9 fun x56=>
ldK 1 false x56 h54 fun x57=>
faK 2 x9 fun x58=>
ldK 1 false x58 h54 fun x59=>
buildK [.s (.int .i64 0), .s (.int .i64 0)] [(some (0,1),x57),(some (1,1),x59)] fun x60=>
lookK P 116 (.s (.bool false)) false (t 4) x60 h54 fun x61=>
condK x61 (
k .ret ((upd (upd (upd (upd (upd (upd (upd (upd (upd t 14 x6) 6 x9) 5 (t 13)) 18 x44) 48 x50) 55 x55) 61 x61) 2 (t 13)) 3 (.s (.int .i64 6))),h54)) (
faK 0 x9 fun x62=>
ldK 1 false x62 h54 fun x63=>
faK 2 x9 fun x64=>
ldK 1 false x64 h54 fun x65=>
buildK [.s (.int .i64 0), .s (.int .i64 0)] [(some (0,1),x63),(some (1,1),x65)] fun x66=>
effK (mupE P 116 (t 4) x66 (.s (.bool true)) h54) h54 fun x67 h68=>
arithK .add (t 13) (.s (.int .i64 1)) fun x69=>
k .normal ((upd (upd (upd (upd (upd (upd (upd (upd t 14 x6) 6 x9) 5 (t 13)) 18 x44) 48 x50) 55 x55) 61 x61) 13 x69),h68)))))) (
k (.exit 0) ((upd t 14 x6),h))
noncomputable def Z9c (P:Program) (T:Tab) (D:DTab) (N:Nat) {β:Type} (K:AV→Hp→Option β) (e:Ex) (s:St):Option β:=
 e.on ((ZfG P T D N K s.1 s.2))
 (fun i=>bif i==0 then ((ZfG P T D N K s.1 s.2)) else (none))
 (K (.tup [(s.1 2),(s.1 3)]) s.2)
noncomputable def ZfH (P:Program) (T:Tab) (D:DTab) (N:Nat) {β:Type} (cL2:St→Option β) (K:AV→Hp→Option β) (a0:AV) (h:Hp) :  Option β:=
lenK a0 fun x1=>
arithK .gtr x1 (.s (.int .i64 64)) fun x2=>
condK x2 (
K (.tup [(.s (.int .i64 (-1))),(.s (.int .i64 8))]) h) (
effK (some (.mp (List.length h),EN (.map []))) h fun x3 h4=>
lenK a0 fun x5=>
cL2 ((upd (upd (upd (upd (upd (upd (upd (tm0 [a0]) 2 (.s (.int .i64 0))) 3 (.s (.int .i64 0))) 9 x2) 4 x3) 11 a0) 12 x5) 13 (.s (.int .i64 0))),h4))
noncomputable def ZfI (P:Program) (T:Tab) (D:DTab) (N:Nat) {β:Type} (K:AV→Hp→Option β) (a0:AV) (h:Hp):Option β:=ZfH P T D N (fun s=>iterK (fun s k=>Z3I P T D N s.1 s.2 k) N s (Z9c P T D N K)) K a0 h
noncomputable def ZcB (P:Program) (T:Tab) (D:DTab) (N:Nat) {β:Type} (K:AV→Hp→Option β) (h:Hp):Option β:=
K (.tup [(.s (.int .i64 (-1))),(.s (.int .i64 0))]) h
noncomputable def Z6S (P:Program) (T:Tab) (D:DTab) (N:Nat) {β:Type} (xn:AV→AV→AV→AV→Hp→Option β) (x0:Hp→Option β) (xr:AV→AV→Hp→Option β) (v4:AV) (v11:AV) (v12:AV) (v13:AV) (h:Hp):Option β:=
arithK .lss v13 v12 fun x6=>
condK x6 (
iaK 10 v11 v13 fun x7=>
ldK 10 true x7 h fun x8=>
effK (boxE 10 (.agg [.s (.int .i64 0), .s (.int .i64 0), .s (.int .i64 0), .s (.int .i64 0), .s (.int .i64 0), .s (.int .i64 0), .s (.int .i64 0), .s (.int .i64 0), .s (.int .i64 0), .s (.int .i64 0)]) (List.length h)) h fun x9 h10=>
effK (stE 10 x9 x8 h10) h10 fun x11 h12=>
faK 0 x9 fun x13=>
ldK 1 false x13 h12 fun x14=>
arithK .lss x14 (.s (.int .i64 1)) fun x15=>
grpK false x15 h12 (fun k16=>
faK 0 x9 fun x17=>
ldK 1 false x17 h12 fun x18=>
arithK .gtr x18 (.s (.int .i64 99)) fun x19=>
k16 x19 h12) fun x20 h21=>
grpK false x20 h21 (fun k22=>
faK 1 x9 fun x23=>
ldK 1 false x23 h21 fun x24=>
arithK .lss x24 (.s (.int .i64 1)) fun x25=>
k22 x25 h21) fun x26 h27=>
grpK false x26 h27 (fun k28=>
faK 1 x9 fun x29=>
ldK 1 false x29 h27 fun x30=>
arithK .gtr x30 (.s (.int .i64 99)) fun x31=>
k28 x31 h27) fun x32 h33=>
grpK false x32 h33 (fun k34=>
faK 2 x9 fun x35=>
ldK 1 false x35 h33 fun x36=>
arithK .lss x36 (.s (.int .i64 1)) fun x37=>
k34 x37 h33) fun x38 h39=>
grpK false x38 h39 (fun k40=>
faK 2 x9 fun x41=>
ldK 1 false x41 h39 fun x42=>
arithK .gtr x42 (.s (.int .i64 1073741824)) fun x43=>
k40 x43 h39) fun x44 h45=>
condK x44 (
xr v13 (.s (.int .i64 2)) h45) (
faK 0 x9 fun x46=>
ldK 1 false x46 h45 fun x47=>
faK 1 x9 fun x48=>
ldK 1 false x48 h45 fun x49=>
eqK P false 3 x47 x49 h45 fun x50=>
condK x50 (
xr v13 (.s (.int .i64 10)) h45) (
faK 3 x9 fun x51=>
ldK 7 true x51 h45 fun x52=>
callK (T 76) [x52] h45 fun x53 h54=>
eqK P true 32 x53 (.s (.int .i64 0)) h54 fun x55=>
condK x55 (
xr v13 (.s (.int .i64 1)) h54) (
faK 0 x9 fun x56=>
ldK 1 false x56 h54 fun x57=>
faK 2 x9 fun x58=>
ldK 1 false x58 h54 fun x59=>
buildK [.s (.int .i64 0), .s (.int .i64 0)] [(some (0,1),x57),(some (1,1),x59)] fun x60=>
lookK P 116 (.s (.bool false)) false v4 x60 h54 fun x61=>
condK x61 (
xr v13 (.s (.int .i64 6)) h54) (
faK 0 x9 fun x62=>
ldK 1 false x62 h54 fun x63=>
faK 2 x9 fun x64=>
ldK 1 false x64 h54 fun x65=>
buildK [.s (.int .i64 0), .s (.int .i64 0)] [(some (0,1),x63),(some (1,1),x65)] fun x66=>
effK (mupE P 116 v4 x66 (.s (.bool true)) h54) h54 fun x67 h68=>
arithK .add v13 (.s (.int .i64 1)) fun x69=>
xn v4 v11 v12 x69 h68))))) (
x0 h)
noncomputable def Z3J (P:Program) (T:Tab) (D:DTab) (N:Nat) {β:Type} (x0:Hp→Option β) (xr:AV→AV→Hp→Option β):Nat→AV→AV→AV→AV→Hp→Option β
 | 0=>fun _ _ _ _ _=>none
 | n+1=>fun v4 v11 v12 v13 h=>Z6S P T D N (Z3J P T D N x0 xr n) x0 xr v4 v11 v12 v13 h
noncomputable def Z6T (P:Program) (T:Tab) (D:DTab) (N:Nat) {β:Type} (K:AV→Hp→Option β) (a0:AV) (h:Hp):Option β:=
lenK a0 fun x1=>
arithK .gtr x1 (.s (.int .i64 64)) fun x2=>
condK x2 (
K (.tup [(.s (.int .i64 (-1))),(.s (.int .i64 8))]) h) (
effK (some (.mp (List.length h),EN (.map []))) h fun x3 h4=>
lenK a0 fun x5=>
Z3J P T D N (fun h=>ZcB P T D N K h) (fun w71_2 w71_3 h=>K (.tup [w71_2,w71_3]) h) N x3 a0 x5 (.s (.int .i64 0)) h4)
theorem Zm3 (P:Program) (T:Tab) (D:DTab) (N:Nat) {β:Type} (xn:AV→AV→AV→AV→Hp→Option β) (x0:Hp→Option β) (xr:AV→AV→Hp→Option β) (xd:Nat→St→Option β) (xq:St→Option β) (t:Tm) (h:Hp):Z3I P T D N t h (fun (e:Ex) (s:St)=>e.on (xn (s.1 4) (s.1 11) (s.1 12) (s.1 13) s.2) (fun i=>(bif i==0 then x0 s.2 else (xd i s))) (xr (s.1 2) (s.1 3) s.2))=Z6S P T D N xn x0 xr (t 4) (t 11) (t 12) (t 13) h:=by kernel_rfl
theorem Zm4 (P:Program) (T:Tab) (D:DTab) (N:Nat) {β:Type} (A:Ex→St→Option β) (x0:Hp→Option β) (xr:AV→AV→Hp→Option β) (q0:∀s,A (.exit 0) s=x0 s.2) (qr:∀s,A .ret s=xr (s.1 2) (s.1 3) s.2):∀(n:Nat) (s:St),iterK (fun s k=>Z3I P T D N s.1 s.2 k) n s A=Z3J P T D N x0 xr n (s.1 4) (s.1 11) (s.1 12) (s.1 13) s.2:=by
 intro n
 induction n with
 | zero=>intro s;rfl
 | succ n ih=>
  intro s
  have hk:(fun (e:Ex) (s':St)=>Ex.on e (iterK (fun s k=>Z3I P T D N s.1 s.2 k) n s' A) (fun i=>A (.exit i) s') (A .ret s'))=(fun (e:Ex) (s:St)=>e.on ((Z3J P T D N x0 xr n) (s.1 4) (s.1 11) (s.1 12) (s.1 13) s.2) (fun i=>(bif i==0 then x0 s.2 else (A (.exit i) s))) (xr (s.1 2) (s.1 3) s.2)):=by
   funext e s'
   cases e with
   | normal=>exact ih s'
   | ret=>exact qr s'
   | exit i=>
    by_cases r0:i=0
    ·subst r0;exact q0 s'
    simp only [Ex.on,beq_false_of_ne r0,cond_false]
  show Z3I P T D N s.1 s.2 (fun (e:Ex) (s':St)=>Ex.on e (iterK (fun s k=>Z3I P T D N s.1 s.2 k) n s' A) (fun i=>A (.exit i) s') (A .ret s'))=_
  rw [hk]
  exact Zm3 P T D N (Z3J P T D N x0 xr n) x0 xr (fun i s=>A (.exit i) s) (fun s=>A .ret s) s.1 s.2
theorem Zm5 (P:Program) (T:Tab) (D:DTab) (N:Nat) {β:Type} (K:AV→Hp→Option β) (a0:AV) (h:Hp):ZfI P T D N K a0 h=Z6T P T D N K a0 h:=by
 have eL2:(fun s:St=>iterK (fun s k=>Z3I P T D N s.1 s.2 k) N s (Z9c P T D N K))=(fun s:St=>Z3J P T D N (fun h=>ZcB P T D N K h) (fun w71_2 w71_3 h=>K (.tup [w71_2,w71_3]) h) N (s.1 4) (s.1 11) (s.1 12) (s.1 13) s.2):=funext fun s=>Zm4 P T D N (Z9c P T D N K) (fun h=>ZcB P T D N K h) (fun w71_2 w71_3 h=>K (.tup [w71_2,w71_3]) h) (fun s=>rfl) (fun s=>rfl) N s
 show ZfH P T D N (fun s=>iterK (fun s k=>Z3I P T D N s.1 s.2 k) N s (Z9c P T D N K)) K a0 h=_
 rw [eL2]
 kernel_rfl
theorem Zm6 (T:Tab) (D:DTab) (N:Nat) {β:Type} (K:AV→Hp→Option β) (a0:AV) (h:Hp):runK Try.prog T D N [0,2,3,4,5,6,9,11,12,13,14,18,48,55,61] Try.f49 K [a0] h=ZfI Try.prog T D N K a0 h:=by kernel_rfl
theorem Zm7 (T:Tab) (D:DTab) (N:Nat) {β:Type} (K:AV→Hp→Option β) (a0:AV) (h:Hp):runK Try.prog T D N [0,2,3,4,5,6,9,11,12,13,14,18,48,55,61] Try.f49 K [a0] h=Z6T Try.prog T D N K a0 h:=(Zm6 T D N K a0 h).trans (Zm5 Try.prog T D N K a0 h)
noncomputable def Z3K (P:Program) (T:Tab) (D:DTab) (N:Nat) {β:Type} (K:AV→Hp→Option β) (a0:AV) (h:Hp):Option β:=
eqK P false 22 a0 (.s (.slice none 0 0)) h fun x1=>
condK x1 (
K (.s (.slice none 0 0)) h) (
effK (bsE 2 [.s (.int .i64 0), .s (.int .i64 0)] 0 [] (List.length h)) h fun x2 h3=>
effK (appE 2 16 x2 a0 h3 (List.length h3)) h3 fun x4 h5=>
K x4 h5)
theorem Zm8 (T:Tab) (D:DTab) (N:Nat) {β:Type} (K:AV→Hp→Option β) (a0:AV) (h:Hp):runK Try.prog T D N [0,2,4] Try.f50 K [a0] h=Z3K Try.prog T D N K a0 h:=by kernel_rfl
noncomputable def Z4y (P:Program) (T:Tab) (D:DTab) (N:Nat) {β:Type} (K:AV→Hp→Option β) (a0:AV) (h:Hp):Option β:=
eqK P false 23 a0 (.s (.slice none 0 0)) h fun x1=>
condK x1 (
K (.s (.slice none 0 0)) h) (
effK (bsE 7 [.s (.int .i64 0), .s (.int .i64 0), .s (.int .i64 0), .s (.int .i64 0), .s (.int .i64 0), .s (.int .i64 0), .s (.int .i64 0)] 0 [] (List.length h)) h fun x2 h3=>
effK (appE 7 56 x2 a0 h3 (List.length h3)) h3 fun x4 h5=>
K x4 h5)
theorem Zm9 (T:Tab) (D:DTab) (N:Nat) {β:Type} (K:AV→Hp→Option β) (a0:AV) (h:Hp):runK Try.prog T D N [0,2,4] Try.f51 K [a0] h=Z4y Try.prog T D N K a0 h:=by kernel_rfl
noncomputable def Z6U (P:Program) (T:Tab) (D:DTab) (N:Nat) {β:Type} (K:AV→Hp→Option β) (a0:AV) (a1:AV) (a2:AV) (h:Hp):Option β:=
effK (boxE 2 a1 (List.length h)) h fun x1 h2=>
ldK 2 true x1 h2 fun x3=>
callK (T 78) [a0,x3,a2] h2 fun x4 h5=>
exK x4 0 fun x6=>
exK x4 1 fun x7=>
effD (callE (D 50) [a0] h5 (List.length h5)) h5 fun x8 h9 e10=>
ldK 2 true x1 h9 fun x11=>
effD (bsE 2 [.s (.int .i64 0), .s (.int .i64 0)] 1 [(0,x11)] (List.length h9)) h9 fun x12 h13 e14=>
effD (callE (D 79) [x8,x6,x12] h13 (List.length h13)) h13 fun x15 h16 e17=>
bif disjAll [(1,3),(1,4)] [([],[]),e10,([],[]),((idsOf x1),[]),e14,e17,([],[])] then (
K x15 h16) else none
theorem Zma (T:Tab) (D:DTab) (N:Nat) {β:Type} (K:AV→Hp→Option β) (a0:AV) (a1:AV) (a2:AV) (h:Hp):runK Try.prog T D N [0,1,2,4,6,7] Try.f52 K [a0,a1,a2] h=Z6U Try.prog T D N K a0 a1 a2 h:=by kernel_rfl
noncomputable def Z9d (P:Program) (T:Tab) (D:DTab) (N:Nat) {β:Type} (K:AV→Hp→Option β) (a0:AV) (a1:AV) (h:Hp):Option β:=
effK (boxE 2 a0 (List.length h)) h fun x1 h2=>
effK (boxE 2 a1 (List.length h2)) h2 fun x3 h4=>
faK 0 x1 fun x5=>
ldK 1 false x5 h4 fun x6=>
faK 0 x3 fun x7=>
ldK 1 false x7 h4 fun x8=>
effD (callE (D 81) [x6,x8] h4 (List.length h4)) h4 fun x9 h10 e11=>
faK 1 x1 fun x12=>
ldK 1 false x12 h10 fun x13=>
faK 1 x3 fun x14=>
ldK 1 false x14 h10 fun x15=>
effD (callE (D 81) [x13,x15] h10 (List.length h10)) h10 fun x16 h17 e18=>
effD (bsE 1 [.s (.int .i64 0)] 2 [(0,x9),(1,x16)] (List.length h17)) h17 fun x19 h20 e21=>
effD (callE (D 80) [x19] h20 (List.length h20)) h20 fun x22 h23 e24=>
bif disjAll [(4,6),(4,8)] [([],[]),((idsOf x5),[]),([],[]),((idsOf x7),[]),e11,([],[]),((idsOf x12),[]),([],[]),((idsOf x14),[]),e18,e21,e24,([],[])] then (
K x22 h23) else none
theorem Zmb (T:Tab) (D:DTab) (N:Nat) {β:Type} (K:AV→Hp→Option β) (a0:AV) (a1:AV) (h:Hp):runK Try.prog T D N [0,1,2,3,4] Try.f53 K [a0,a1] h=Z9d Try.prog T D N K a0 a1 h:=by kernel_rfl
noncomputable def Z3L (P:Program) (T:Tab) (D:DTab) (N:Nat) {β:Type} (K:AV→Hp→Option β) (a0:AV) (h:Hp):Option β:=
lenK a0 fun x1=>
arithK .gtr x1 (.s (.int .i64 64)) fun x2=>
condK x2 (
K (.tup [(.s (.slice none 0 0)),(.s (.int .i64 8))]) h) (
callK (T 24) [a0,(.fn 82 [])] h fun x3 h4=>
condK x3 (
K (.tup [(.s (.slice none 0 0)),(.s (.int .i64 1))]) h4) (
callK (T 51) [a0] h4 fun x5 h6=>
callK (T 83) [x5,(.fn 84 [])] h6 fun x7 h8=>
callK (T 85) [x5] h8 fun x9 h10=>
K (.tup [x9,(.s (.int .i64 0))]) h10))
theorem Zmc (T:Tab) (D:DTab) (N:Nat) {β:Type} (K:AV→Hp→Option β) (a0:AV) (h:Hp):runK Try.prog T D N [0,2,3,4,7,9] Try.f54 K [a0] h=Z3L Try.prog T D N K a0 h:=by kernel_rfl
noncomputable def ZfJ (P:Program) (T:Tab) (D:DTab) (N:Nat) {β:Type} (K:AV→Hp→Option β) (t:Tm) (h:Hp):Option β:=
K (.s (.bool true)) h
noncomputable def Z3M (P:Program) (T:Tab) (D:DTab) (N:Nat) {β:Type} (t:Tm) (h:Hp) (k:Ex→St→Option β):Option β:=
arithK .lss (t 13) (t 12) fun x5=>
condK x5 (
iaK 7 (t 0) (t 13) fun x6=>
ldK 7 true x6 h fun x7=>
iaK 7 (t 1) (t 13) fun x8=>
ldK 7 true x8 h fun x9=>
eqK P true 27 x7 x9 h fun x10=>
condK x10 (
k .ret ((upd (upd (upd (upd t 14 x5) 5 (t 13)) 24 x10) 4 (.s (.bool false))),h)) (
arithK .add (t 13) (.s (.int .i64 1)) fun x11=>
k .normal ((upd (upd (upd (upd t 14 x5) 5 (t 13)) 24 x10) 13 x11),h))) (
k (.exit 0) ((upd t 14 x5),h))
noncomputable def Z9e (P:Program) (T:Tab) (D:DTab) (N:Nat) {β:Type} (K:AV→Hp→Option β) (e:Ex) (s:St):Option β:=
 e.on ((ZfJ P T D N K s.1 s.2))
 (fun i=>bif i==0 then ((ZfJ P T D N K s.1 s.2)) else (none))
 (K (s.1 4) s.2)
noncomputable def ZfK (P:Program) (T:Tab) (D:DTab) (N:Nat) {β:Type} (cL2:St→Option β) (K:AV→Hp→Option β) (a0:AV) (a1:AV) (h:Hp) :  Option β:=
lenK a0 fun x1=>
lenK a1 fun x2=>
eqK P true 3 x1 x2 h fun x3=>
condK x3 (
K (.s (.bool false)) h) (
lenK a0 fun x4=>
cL2 ((upd (upd (upd (upd (tm0 [a0,a1]) 4 (.s (.bool false))) 10 x3) 12 x4) 13 (.s (.int .i64 0))),h))
noncomputable def ZfL (P:Program) (T:Tab) (D:DTab) (N:Nat) {β:Type} (K:AV→Hp→Option β) (a0:AV) (a1:AV) (h:Hp):Option β:=ZfK P T D N (fun s=>iterK (fun s k=>Z3M P T D N s.1 s.2 k) N s (Z9e P T D N K)) K a0 a1 h
noncomputable def Z9f (P:Program) (T:Tab) (D:DTab) (N:Nat) {β:Type} (K:AV→Hp→Option β) (h:Hp):Option β:=
K (.s (.bool true)) h
noncomputable def Z6V (P:Program) (T:Tab) (D:DTab) (N:Nat) {β:Type} (xn:AV→AV→AV→AV→Hp→Option β) (x0:Hp→Option β) (xr:AV→Hp→Option β) (v0:AV) (v1:AV) (v12:AV) (v13:AV) (h:Hp):Option β:=
arithK .lss v13 v12 fun x5=>
condK x5 (
iaK 7 v0 v13 fun x6=>
ldK 7 true x6 h fun x7=>
iaK 7 v1 v13 fun x8=>
ldK 7 true x8 h fun x9=>
eqK P true 27 x7 x9 h fun x10=>
condK x10 (
xr (.s (.bool false)) h) (
arithK .add v13 (.s (.int .i64 1)) fun x11=>
xn v0 v1 v12 x11 h)) (
x0 h)
noncomputable def Z3N (P:Program) (T:Tab) (D:DTab) (N:Nat) {β:Type} (x0:Hp→Option β) (xr:AV→Hp→Option β):Nat→AV→AV→AV→AV→Hp→Option β
 | 0=>fun _ _ _ _ _=>none
 | n+1=>fun v0 v1 v12 v13 h=>Z6V P T D N (Z3N P T D N x0 xr n) x0 xr v0 v1 v12 v13 h
noncomputable def Z5l (P:Program) (T:Tab) (D:DTab) (N:Nat) {β:Type} (K:AV→Hp→Option β) (a0:AV) (a1:AV) (h:Hp):Option β:=
lenK a0 fun x1=>
lenK a1 fun x2=>
eqK P true 3 x1 x2 h fun x3=>
condK x3 (
K (.s (.bool false)) h) (
lenK a0 fun x4=>
Z3N P T D N (fun h=>Z9f P T D N K h) (fun w13_4 h=>K w13_4 h) N a0 a1 x4 (.s (.int .i64 0)) h)
theorem Zmd (P:Program) (T:Tab) (D:DTab) (N:Nat) {β:Type} (xn:AV→AV→AV→AV→Hp→Option β) (x0:Hp→Option β) (xr:AV→Hp→Option β) (xd:Nat→St→Option β) (xq:St→Option β) (t:Tm) (h:Hp):Z3M P T D N t h (fun (e:Ex) (s:St)=>e.on (xn (s.1 0) (s.1 1) (s.1 12) (s.1 13) s.2) (fun i=>(bif i==0 then x0 s.2 else (xd i s))) (xr (s.1 4) s.2))=Z6V P T D N xn x0 xr (t 0) (t 1) (t 12) (t 13) h:=by kernel_rfl
theorem Zme (P:Program) (T:Tab) (D:DTab) (N:Nat) {β:Type} (A:Ex→St→Option β) (x0:Hp→Option β) (xr:AV→Hp→Option β) (q0:∀s,A (.exit 0) s=x0 s.2) (qr:∀s,A .ret s=xr (s.1 4) s.2):∀(n:Nat) (s:St),iterK (fun s k=>Z3M P T D N s.1 s.2 k) n s A=Z3N P T D N x0 xr n (s.1 0) (s.1 1) (s.1 12) (s.1 13) s.2:=by
 intro n
 induction n with
 | zero=>intro s;rfl
 | succ n ih=>
  intro s
  have hk:(fun (e:Ex) (s':St)=>Ex.on e (iterK (fun s k=>Z3M P T D N s.1 s.2 k) n s' A) (fun i=>A (.exit i) s') (A .ret s'))=(fun (e:Ex) (s:St)=>e.on ((Z3N P T D N x0 xr n) (s.1 0) (s.1 1) (s.1 12) (s.1 13) s.2) (fun i=>(bif i==0 then x0 s.2 else (A (.exit i) s))) (xr (s.1 4) s.2)):=by
   funext e s'
   cases e with
   | normal=>exact ih s'
   | ret=>exact qr s'
   | exit i=>
    by_cases r0:i=0
    ·subst r0;exact q0 s'
    simp only [Ex.on,beq_false_of_ne r0,cond_false]
  show Z3M P T D N s.1 s.2 (fun (e:Ex) (s':St)=>Ex.on e (iterK (fun s k=>Z3M P T D N s.1 s.2 k) n s' A) (fun i=>A (.exit i) s') (A .ret s'))=_
  rw [hk]
  exact Zmd P T D N (Z3N P T D N x0 xr n) x0 xr (fun i s=>A (.exit i) s) (fun s=>A .ret s) s.1 s.2
theorem Zmf (P:Program) (T:Tab) (D:DTab) (N:Nat) {β:Type} (K:AV→Hp→Option β) (a0:AV) (a1:AV) (h:Hp):ZfL P T D N K a0 a1 h=Z5l P T D N K a0 a1 h:=by
 have eL2:(fun s:St=>iterK (fun s k=>Z3M P T D N s.1 s.2 k) N s (Z9e P T D N K))=(fun s:St=>Z3N P T D N (fun h=>Z9f P T D N K h) (fun w13_4 h=>K w13_4 h) N (s.1 0) (s.1 1) (s.1 12) (s.1 13) s.2):=funext fun s=>Zme P T D N (Z9e P T D N K) (fun h=>Z9f P T D N K h) (fun w13_4 h=>K w13_4 h) (fun s=>rfl) (fun s=>rfl) N s
 show ZfK P T D N (fun s=>iterK (fun s k=>Z3M P T D N s.1 s.2 k) N s (Z9e P T D N K)) K a0 a1 h=_
 rw [eL2]
 kernel_rfl
theorem Zmg (T:Tab) (D:DTab) (N:Nat) {β:Type} (K:AV→Hp→Option β) (a0:AV) (a1:AV) (h:Hp):runK Try.prog T D N [0,1,4,5,10,12,13,14,24] Try.f58 K [a0,a1] h=ZfL Try.prog T D N K a0 a1 h:=by kernel_rfl
theorem Zmh (T:Tab) (D:DTab) (N:Nat) {β:Type} (K:AV→Hp→Option β) (a0:AV) (a1:AV) (h:Hp):runK Try.prog T D N [0,1,4,5,10,12,13,14,24] Try.f58 K [a0,a1] h=Z5l Try.prog T D N K a0 a1 h:=(Zmg T D N K a0 a1 h).trans (Zmf Try.prog T D N K a0 a1 h)
noncomputable def ZfM (P:Program) (T:Tab) (D:DTab) (N:Nat) {β:Type} (K:AV→Hp→Option β) (t:Tm) (h:Hp):Option β:=
K (.s (.int .i64 (-1))) h
noncomputable def Z3O (P:Program) (T:Tab) (D:DTab) (N:Nat) {β:Type} (t:Tm) (h:Hp) (k:Ex→St→Option β):Option β:=
arithK .lss (t 8) (t 7) fun x4=>
condK x4 (
ldK 2 true (t 3) h fun x5=>
iaK 2 (t 0) (t 8) fun x6=>
ldK 2 true x6 h fun x7=>
eqK P false 36 x5 x7 h fun x8=>
condK x8 (
k .ret ((upd (upd (upd (upd t 9 x4) 5 (t 8)) 16 x8) 4 (t 8)),h)) (
arithK .add (t 8) (.s (.int .i64 1)) fun x9=>
k .normal ((upd (upd (upd (upd t 9 x4) 5 (t 8)) 16 x8) 8 x9),h))) (
k (.exit 0) ((upd t 9 x4),h))
noncomputable def Z9g (P:Program) (T:Tab) (D:DTab) (N:Nat) {β:Type} (K:AV→Hp→Option β) (e:Ex) (s:St):Option β:=
 e.on ((ZfM P T D N K s.1 s.2))
 (fun i=>bif i==0 then ((ZfM P T D N K s.1 s.2)) else (none))
 (K (s.1 4) s.2)
noncomputable def ZfN (P:Program) (T:Tab) (D:DTab) (N:Nat) {β:Type} (cL2:St→Option β) (K:AV→Hp→Option β) (a0:AV) (a1:AV) (h:Hp) :  Option β:=
effK (boxE 2 a1 (List.length h)) h fun x1 h2=>
lenK a0 fun x3=>
cL2 ((upd (upd (upd (upd (tm0 [a0,a1]) 3 x1) 4 (.s (.int .i64 0))) 7 x3) 8 (.s (.int .i64 0))),h2)
noncomputable def ZfO (P:Program) (T:Tab) (D:DTab) (N:Nat) {β:Type} (K:AV→Hp→Option β) (a0:AV) (a1:AV) (h:Hp):Option β:=ZfN P T D N (fun s=>iterK (fun s k=>Z3O P T D N s.1 s.2 k) N s (Z9g P T D N K)) K a0 a1 h
noncomputable def Z9h (P:Program) (T:Tab) (D:DTab) (N:Nat) {β:Type} (K:AV→Hp→Option β) (h:Hp):Option β:=
K (.s (.int .i64 (-1))) h
noncomputable def Z9i (P:Program) (T:Tab) (D:DTab) (N:Nat) {β:Type} (xn:AV→AV→AV→AV→Hp→Option β) (x0:Hp→Option β) (xr:AV→Hp→Option β) (v0:AV) (v3:AV) (v7:AV) (v8:AV) (h:Hp):Option β:=
arithK .lss v8 v7 fun x4=>
condK x4 (
ldK 2 true v3 h fun x5=>
iaK 2 v0 v8 fun x6=>
ldK 2 true x6 h fun x7=>
eqK P false 36 x5 x7 h fun x8=>
condK x8 (
xr v8 h) (
arithK .add v8 (.s (.int .i64 1)) fun x9=>
xn v0 v3 v7 x9 h)) (
x0 h)
noncomputable def Z3P (P:Program) (T:Tab) (D:DTab) (N:Nat) {β:Type} (x0:Hp→Option β) (xr:AV→Hp→Option β):Nat→AV→AV→AV→AV→Hp→Option β
 | 0=>fun _ _ _ _ _=>none
 | n+1=>fun v0 v3 v7 v8 h=>Z9i P T D N (Z3P P T D N x0 xr n) x0 xr v0 v3 v7 v8 h
noncomputable def Z6W (P:Program) (T:Tab) (D:DTab) (N:Nat) {β:Type} (K:AV→Hp→Option β) (a0:AV) (a1:AV) (h:Hp):Option β:=
effK (boxE 2 a1 (List.length h)) h fun x1 h2=>
lenK a0 fun x3=>
Z3P P T D N (fun h=>Z9h P T D N K h) (fun w11_4 h=>K w11_4 h) N a0 x1 x3 (.s (.int .i64 0)) h2
theorem Zmi (P:Program) (T:Tab) (D:DTab) (N:Nat) {β:Type} (xn:AV→AV→AV→AV→Hp→Option β) (x0:Hp→Option β) (xr:AV→Hp→Option β) (xd:Nat→St→Option β) (xq:St→Option β) (t:Tm) (h:Hp):Z3O P T D N t h (fun (e:Ex) (s:St)=>e.on (xn (s.1 0) (s.1 3) (s.1 7) (s.1 8) s.2) (fun i=>(bif i==0 then x0 s.2 else (xd i s))) (xr (s.1 4) s.2))=Z9i P T D N xn x0 xr (t 0) (t 3) (t 7) (t 8) h:=by kernel_rfl
theorem Zmj (P:Program) (T:Tab) (D:DTab) (N:Nat) {β:Type} (A:Ex→St→Option β) (x0:Hp→Option β) (xr:AV→Hp→Option β) (q0:∀s,A (.exit 0) s=x0 s.2) (qr:∀s,A .ret s=xr (s.1 4) s.2):∀(n:Nat) (s:St),iterK (fun s k=>Z3O P T D N s.1 s.2 k) n s A=Z3P P T D N x0 xr n (s.1 0) (s.1 3) (s.1 7) (s.1 8) s.2:=by
 intro n
 induction n with
 | zero=>intro s;rfl
 | succ n ih=>
  intro s
  have hk:(fun (e:Ex) (s':St)=>Ex.on e (iterK (fun s k=>Z3O P T D N s.1 s.2 k) n s' A) (fun i=>A (.exit i) s') (A .ret s'))=(fun (e:Ex) (s:St)=>e.on ((Z3P P T D N x0 xr n) (s.1 0) (s.1 3) (s.1 7) (s.1 8) s.2) (fun i=>(bif i==0 then x0 s.2 else (A (.exit i) s))) (xr (s.1 4) s.2)):=by
   funext e s'
   cases e with
   | normal=>exact ih s'
   | ret=>exact qr s'
   | exit i=>
    by_cases r0:i=0
    ·subst r0;exact q0 s'
    simp only [Ex.on,beq_false_of_ne r0,cond_false]
  show Z3O P T D N s.1 s.2 (fun (e:Ex) (s':St)=>Ex.on e (iterK (fun s k=>Z3O P T D N s.1 s.2 k) n s' A) (fun i=>A (.exit i) s') (A .ret s'))=_
  rw [hk]
  exact Zmi P T D N (Z3P P T D N x0 xr n) x0 xr (fun i s=>A (.exit i) s) (fun s=>A .ret s) s.1 s.2
theorem Zmk (P:Program) (T:Tab) (D:DTab) (N:Nat) {β:Type} (K:AV→Hp→Option β) (a0:AV) (a1:AV) (h:Hp):ZfO P T D N K a0 a1 h=Z6W P T D N K a0 a1 h:=by
 have eL2:(fun s:St=>iterK (fun s k=>Z3O P T D N s.1 s.2 k) N s (Z9g P T D N K))=(fun s:St=>Z3P P T D N (fun h=>Z9h P T D N K h) (fun w11_4 h=>K w11_4 h) N (s.1 0) (s.1 3) (s.1 7) (s.1 8) s.2):=funext fun s=>Zmj P T D N (Z9g P T D N K) (fun h=>Z9h P T D N K h) (fun w11_4 h=>K w11_4 h) (fun s=>rfl) (fun s=>rfl) N s
 show ZfN P T D N (fun s=>iterK (fun s k=>Z3O P T D N s.1 s.2 k) N s (Z9g P T D N K)) K a0 a1 h=_
 rw [eL2]
 kernel_rfl
theorem Zml (T:Tab) (D:DTab) (N:Nat) {β:Type} (K:AV→Hp→Option β) (a0:AV) (a1:AV) (h:Hp):runK Try.prog T D N [0,1,3,4,5,7,8,9,16] Try.f60 K [a0,a1] h=ZfO Try.prog T D N K a0 a1 h:=by kernel_rfl
theorem Zmm (T:Tab) (D:DTab) (N:Nat) {β:Type} (K:AV→Hp→Option β) (a0:AV) (a1:AV) (h:Hp):runK Try.prog T D N [0,1,3,4,5,7,8,9,16] Try.f60 K [a0,a1] h=Z6W Try.prog T D N K a0 a1 h:=(Zml T D N K a0 a1 h).trans (Zmk Try.prog T D N K a0 a1 h)
noncomputable def ZfP (P:Program) (T:Tab) (D:DTab) (N:Nat) {β:Type} (K:AV→Hp→Option β) (t:Tm) (h:Hp):Option β:=
K (.s (.int .i64 (-1))) h
noncomputable def Z3Q (P:Program) (T:Tab) (D:DTab) (N:Nat) {β:Type} (t:Tm) (h:Hp) (k:Ex→St→Option β):Option β:=
arithK .lss (t 8) (t 7) fun x4=>
condK x4 (
ldK 7 true (t 3) h fun x5=>
iaK 7 (t 0) (t 8) fun x6=>
ldK 7 true x6 h fun x7=>
eqK P false 27 x5 x7 h fun x8=>
condK x8 (
k .ret ((upd (upd (upd (upd t 9 x4) 5 (t 8)) 16 x8) 4 (t 8)),h)) (
arithK .add (t 8) (.s (.int .i64 1)) fun x9=>
k .normal ((upd (upd (upd (upd t 9 x4) 5 (t 8)) 16 x8) 8 x9),h))) (
k (.exit 0) ((upd t 9 x4),h))
noncomputable def Z9j (P:Program) (T:Tab) (D:DTab) (N:Nat) {β:Type} (K:AV→Hp→Option β) (e:Ex) (s:St):Option β:=
 e.on ((ZfP P T D N K s.1 s.2))
 (fun i=>bif i==0 then ((ZfP P T D N K s.1 s.2)) else (none))
 (K (s.1 4) s.2)
noncomputable def ZfQ (P:Program) (T:Tab) (D:DTab) (N:Nat) {β:Type} (cL2:St→Option β) (K:AV→Hp→Option β) (a0:AV) (a1:AV) (h:Hp) :  Option β:=
effK (boxE 7 a1 (List.length h)) h fun x1 h2=>
lenK a0 fun x3=>
cL2 ((upd (upd (upd (upd (tm0 [a0,a1]) 3 x1) 4 (.s (.int .i64 0))) 7 x3) 8 (.s (.int .i64 0))),h2)
noncomputable def ZfR (P:Program) (T:Tab) (D:DTab) (N:Nat) {β:Type} (K:AV→Hp→Option β) (a0:AV) (a1:AV) (h:Hp):Option β:=ZfQ P T D N (fun s=>iterK (fun s k=>Z3Q P T D N s.1 s.2 k) N s (Z9j P T D N K)) K a0 a1 h
noncomputable def Z9k (P:Program) (T:Tab) (D:DTab) (N:Nat) {β:Type} (K:AV→Hp→Option β) (h:Hp):Option β:=
K (.s (.int .i64 (-1))) h
noncomputable def Z9l (P:Program) (T:Tab) (D:DTab) (N:Nat) {β:Type} (xn:AV→AV→AV→AV→Hp→Option β) (x0:Hp→Option β) (xr:AV→Hp→Option β) (v0:AV) (v3:AV) (v7:AV) (v8:AV) (h:Hp):Option β:=
arithK .lss v8 v7 fun x4=>
condK x4 (
ldK 7 true v3 h fun x5=>
iaK 7 v0 v8 fun x6=>
ldK 7 true x6 h fun x7=>
eqK P false 27 x5 x7 h fun x8=>
condK x8 (
xr v8 h) (
arithK .add v8 (.s (.int .i64 1)) fun x9=>
xn v0 v3 v7 x9 h)) (
x0 h)
noncomputable def Z3R (P:Program) (T:Tab) (D:DTab) (N:Nat) {β:Type} (x0:Hp→Option β) (xr:AV→Hp→Option β):Nat→AV→AV→AV→AV→Hp→Option β
 | 0=>fun _ _ _ _ _=>none
 | n+1=>fun v0 v3 v7 v8 h=>Z9l P T D N (Z3R P T D N x0 xr n) x0 xr v0 v3 v7 v8 h
noncomputable def Z6X (P:Program) (T:Tab) (D:DTab) (N:Nat) {β:Type} (K:AV→Hp→Option β) (a0:AV) (a1:AV) (h:Hp):Option β:=
effK (boxE 7 a1 (List.length h)) h fun x1 h2=>
lenK a0 fun x3=>
Z3R P T D N (fun h=>Z9k P T D N K h) (fun w11_4 h=>K w11_4 h) N a0 x1 x3 (.s (.int .i64 0)) h2
theorem Zmn (P:Program) (T:Tab) (D:DTab) (N:Nat) {β:Type} (xn:AV→AV→AV→AV→Hp→Option β) (x0:Hp→Option β) (xr:AV→Hp→Option β) (xd:Nat→St→Option β) (xq:St→Option β) (t:Tm) (h:Hp):Z3Q P T D N t h (fun (e:Ex) (s:St)=>e.on (xn (s.1 0) (s.1 3) (s.1 7) (s.1 8) s.2) (fun i=>(bif i==0 then x0 s.2 else (xd i s))) (xr (s.1 4) s.2))=Z9l P T D N xn x0 xr (t 0) (t 3) (t 7) (t 8) h:=by kernel_rfl
theorem Zmo (P:Program) (T:Tab) (D:DTab) (N:Nat) {β:Type} (A:Ex→St→Option β) (x0:Hp→Option β) (xr:AV→Hp→Option β) (q0:∀s,A (.exit 0) s=x0 s.2) (qr:∀s,A .ret s=xr (s.1 4) s.2):∀(n:Nat) (s:St),iterK (fun s k=>Z3Q P T D N s.1 s.2 k) n s A=Z3R P T D N x0 xr n (s.1 0) (s.1 3) (s.1 7) (s.1 8) s.2:=by
 intro n
 induction n with
 | zero=>intro s;rfl
 | succ n ih=>
  intro s
  have hk:(fun (e:Ex) (s':St)=>Ex.on e (iterK (fun s k=>Z3Q P T D N s.1 s.2 k) n s' A) (fun i=>A (.exit i) s') (A .ret s'))=(fun (e:Ex) (s:St)=>e.on ((Z3R P T D N x0 xr n) (s.1 0) (s.1 3) (s.1 7) (s.1 8) s.2) (fun i=>(bif i==0 then x0 s.2 else (A (.exit i) s))) (xr (s.1 4) s.2)):=by
   funext e s'
   cases e with
   | normal=>exact ih s'
   | ret=>exact qr s'
   | exit i=>
    by_cases r0:i=0
    ·subst r0;exact q0 s'
    simp only [Ex.on,beq_false_of_ne r0,cond_false]
  show Z3Q P T D N s.1 s.2 (fun (e:Ex) (s':St)=>Ex.on e (iterK (fun s k=>Z3Q P T D N s.1 s.2 k) n s' A) (fun i=>A (.exit i) s') (A .ret s'))=_
  rw [hk]
  exact Zmn P T D N (Z3R P T D N x0 xr n) x0 xr (fun i s=>A (.exit i) s) (fun s=>A .ret s) s.1 s.2
theorem Zmp (P:Program) (T:Tab) (D:DTab) (N:Nat) {β:Type} (K:AV→Hp→Option β) (a0:AV) (a1:AV) (h:Hp):ZfR P T D N K a0 a1 h=Z6X P T D N K a0 a1 h:=by
 have eL2:(fun s:St=>iterK (fun s k=>Z3Q P T D N s.1 s.2 k) N s (Z9j P T D N K))=(fun s:St=>Z3R P T D N (fun h=>Z9k P T D N K h) (fun w11_4 h=>K w11_4 h) N (s.1 0) (s.1 3) (s.1 7) (s.1 8) s.2):=funext fun s=>Zmo P T D N (Z9j P T D N K) (fun h=>Z9k P T D N K h) (fun w11_4 h=>K w11_4 h) (fun s=>rfl) (fun s=>rfl) N s
 show ZfQ P T D N (fun s=>iterK (fun s k=>Z3Q P T D N s.1 s.2 k) N s (Z9j P T D N K)) K a0 a1 h=_
 rw [eL2]
 kernel_rfl
theorem Zmq (T:Tab) (D:DTab) (N:Nat) {β:Type} (K:AV→Hp→Option β) (a0:AV) (a1:AV) (h:Hp):runK Try.prog T D N [0,1,3,4,5,7,8,9,16] Try.f61 K [a0,a1] h=ZfR Try.prog T D N K a0 a1 h:=by kernel_rfl
theorem Zmr (T:Tab) (D:DTab) (N:Nat) {β:Type} (K:AV→Hp→Option β) (a0:AV) (a1:AV) (h:Hp):runK Try.prog T D N [0,1,3,4,5,7,8,9,16] Try.f61 K [a0,a1] h=Z6X Try.prog T D N K a0 a1 h:=(Zmq T D N K a0 a1 h).trans (Zmp Try.prog T D N K a0 a1 h)
noncomputable def ZfS (P:Program) (T:Tab) (D:DTab) (N:Nat) {β:Type} (K:AV→Hp→Option β) (t:Tm) (h:Hp):Option β:=
K (.s (.int .i64 (-1))) h
noncomputable def Z3S (P:Program) (T:Tab) (D:DTab) (N:Nat) {β:Type} (t:Tm) (h:Hp) (k:Ex→St→Option β):Option β:=
arithK .lss (t 8) (t 7) fun x2=>
condK x2 (
iaK 7 (t 0) (t 8) fun x3=>
ldK 7 true x3 h fun x4=>
callVK T (t 1) [x4] h fun x5 h6=>
condK x5 (
k .ret ((upd (upd (upd (upd t 9 x2) 5 (t 8)) 16 x5) 4 (t 8)),h6)) (
arithK .add (t 8) (.s (.int .i64 1)) fun x7=>
k .normal ((upd (upd (upd (upd t 9 x2) 5 (t 8)) 16 x5) 8 x7),h6))) (
k (.exit 0) ((upd t 9 x2),h))
noncomputable def Z9m (P:Program) (T:Tab) (D:DTab) (N:Nat) {β:Type} (K:AV→Hp→Option β) (e:Ex) (s:St):Option β:=
 e.on ((ZfS P T D N K s.1 s.2))
 (fun i=>bif i==0 then ((ZfS P T D N K s.1 s.2)) else (none))
 (K (s.1 4) s.2)
noncomputable def ZfT (P:Program) (T:Tab) (D:DTab) (N:Nat) {β:Type} (cL2:St→Option β) (K:AV→Hp→Option β) (a0:AV) (a1:AV) (h:Hp) :  Option β:=
lenK a0 fun x1=>
cL2 ((upd (upd (upd (tm0 [a0,a1]) 4 (.s (.int .i64 0))) 7 x1) 8 (.s (.int .i64 0))),h)
noncomputable def ZfU (P:Program) (T:Tab) (D:DTab) (N:Nat) {β:Type} (K:AV→Hp→Option β) (a0:AV) (a1:AV) (h:Hp):Option β:=ZfT P T D N (fun s=>iterK (fun s k=>Z3S P T D N s.1 s.2 k) N s (Z9m P T D N K)) K a0 a1 h
noncomputable def Z6Y (P:Program) (T:Tab) (D:DTab) (N:Nat) {β:Type} (K:AV→Hp→Option β) (h:Hp):Option β:=
K (.s (.int .i64 (-1))) h
noncomputable def Z5m (P:Program) (T:Tab) (D:DTab) (N:Nat) {β:Type} (xn:AV→AV→AV→AV→Hp→Option β) (x0:Hp→Option β) (xr:AV→Hp→Option β) (v0:AV) (v1:AV) (v7:AV) (v8:AV) (h:Hp):Option β:=
arithK .lss v8 v7 fun x2=>
condK x2 (
iaK 7 v0 v8 fun x3=>
ldK 7 true x3 h fun x4=>
callVK T v1 [x4] h fun x5 h6=>
condK x5 (
xr v8 h6) (
arithK .add v8 (.s (.int .i64 1)) fun x7=>
xn v0 v1 v7 x7 h6)) (
x0 h)
noncomputable def Z24 (P:Program) (T:Tab) (D:DTab) (N:Nat) {β:Type} (x0:Hp→Option β) (xr:AV→Hp→Option β):Nat→AV→AV→AV→AV→Hp→Option β
 | 0=>fun _ _ _ _ _=>none
 | n+1=>fun v0 v1 v7 v8 h=>Z5m P T D N (Z24 P T D N x0 xr n) x0 xr v0 v1 v7 v8 h
noncomputable def Z25 (P:Program) (T:Tab) (D:DTab) (N:Nat) {β:Type} (K:AV→Hp→Option β) (a0:AV) (a1:AV) (h:Hp):Option β:=
lenK a0 fun x1=>
Z24 P T D N (fun h=>Z6Y P T D N K h) (fun w9_4 h=>K w9_4 h) N a0 a1 x1 (.s (.int .i64 0)) h
theorem Zms (P:Program) (T:Tab) (D:DTab) (N:Nat) {β:Type} (xn:AV→AV→AV→AV→Hp→Option β) (x0:Hp→Option β) (xr:AV→Hp→Option β) (xd:Nat→St→Option β) (xq:St→Option β) (t:Tm) (h:Hp):Z3S P T D N t h (fun (e:Ex) (s:St)=>e.on (xn (s.1 0) (s.1 1) (s.1 7) (s.1 8) s.2) (fun i=>(bif i==0 then x0 s.2 else (xd i s))) (xr (s.1 4) s.2))=Z5m P T D N xn x0 xr (t 0) (t 1) (t 7) (t 8) h:=by kernel_rfl
theorem Zmt (P:Program) (T:Tab) (D:DTab) (N:Nat) {β:Type} (A:Ex→St→Option β) (x0:Hp→Option β) (xr:AV→Hp→Option β) (q0:∀s,A (.exit 0) s=x0 s.2) (qr:∀s,A .ret s=xr (s.1 4) s.2):∀(n:Nat) (s:St),iterK (fun s k=>Z3S P T D N s.1 s.2 k) n s A=Z24 P T D N x0 xr n (s.1 0) (s.1 1) (s.1 7) (s.1 8) s.2:=by
 intro n
 induction n with
 | zero=>intro s;rfl
 | succ n ih=>
  intro s
  have hk:(fun (e:Ex) (s':St)=>Ex.on e (iterK (fun s k=>Z3S P T D N s.1 s.2 k) n s' A) (fun i=>A (.exit i) s') (A .ret s'))=(fun (e:Ex) (s:St)=>e.on ((Z24 P T D N x0 xr n) (s.1 0) (s.1 1) (s.1 7) (s.1 8) s.2) (fun i=>(bif i==0 then x0 s.2 else (A (.exit i) s))) (xr (s.1 4) s.2)):=by
   funext e s'
   cases e with
   | normal=>exact ih s'
   | ret=>exact qr s'
   | exit i=>
    by_cases r0:i=0
    ·subst r0;exact q0 s'
    simp only [Ex.on,beq_false_of_ne r0,cond_false]
  show Z3S P T D N s.1 s.2 (fun (e:Ex) (s':St)=>Ex.on e (iterK (fun s k=>Z3S P T D N s.1 s.2 k) n s' A) (fun i=>A (.exit i) s') (A .ret s'))=_
  rw [hk]
  exact Zms P T D N (Z24 P T D N x0 xr n) x0 xr (fun i s=>A (.exit i) s) (fun s=>A .ret s) s.1 s.2
theorem Zmu (P:Program) (T:Tab) (D:DTab) (N:Nat) {β:Type} (K:AV→Hp→Option β) (a0:AV) (a1:AV) (h:Hp):ZfU P T D N K a0 a1 h=Z25 P T D N K a0 a1 h:=by
 have eL2:(fun s:St=>iterK (fun s k=>Z3S P T D N s.1 s.2 k) N s (Z9m P T D N K))=(fun s:St=>Z24 P T D N (fun h=>Z6Y P T D N K h) (fun w9_4 h=>K w9_4 h) N (s.1 0) (s.1 1) (s.1 7) (s.1 8) s.2):=funext fun s=>Zmt P T D N (Z9m P T D N K) (fun h=>Z6Y P T D N K h) (fun w9_4 h=>K w9_4 h) (fun s=>rfl) (fun s=>rfl) N s
 show ZfT P T D N (fun s=>iterK (fun s k=>Z3S P T D N s.1 s.2 k) N s (Z9m P T D N K)) K a0 a1 h=_
 rw [eL2]
 kernel_rfl
theorem Zmv (T:Tab) (D:DTab) (N:Nat) {β:Type} (K:AV→Hp→Option β) (a0:AV) (a1:AV) (h:Hp):runK Try.prog T D N [0,1,4,5,7,8,9,16] Try.f62 K [a0,a1] h=ZfU Try.prog T D N K a0 a1 h:=by kernel_rfl
theorem ZfV (T:Tab) (D:DTab) (N:Nat) {β:Type} (K:AV→Hp→Option β) (a0:AV) (a1:AV) (h:Hp):runK Try.prog T D N [0,1,4,5,7,8,9,16] Try.f62 K [a0,a1] h=Z25 Try.prog T D N K a0 a1 h:=(Zmv T D N K a0 a1 h).trans (Zmu Try.prog T D N K a0 a1 h)
noncomputable def ZfW (P:Program) (T:Tab) (D:DTab) (N:Nat) {β:Type} (K:AV→Hp→Option β) (t:Tm) (h:Hp):Option β:=
K (.s (.int .i64 0)) h
noncomputable def Z3T (P:Program) (T:Tab) (D:DTab) (N:Nat) {β:Type} (t:Tm) (h:Hp) (k:Ex→St→Option β):Option β:=
arithK .lss (t 30) (t 29) fun x27=>
condK x27 (
iaK 10 (t 28) (t 30) fun x28=>
ldK 10 true x28 h fun x29=>
effK (boxE 10 (.agg [.s (.int .i64 0), .s (.int .i64 0), .s (.int .i64 0), .s (.int .i64 0), .s (.int .i64 0), .s (.int .i64 0), .s (.int .i64 0), .s (.int .i64 0), .s (.int .i64 0), .s (.int .i64 0)]) (List.length h)) h fun x30 h31=>
effK (stE 10 x30 x29 h31) h31 fun x32 h33=>
ldK 10 true x30 h33 fun x34=>
effK (bsE 10 [.s (.int .i64 0), .s (.int .i64 0), .s (.int .i64 0), .s (.int .i64 0), .s (.int .i64 0), .s (.int .i64 0), .s (.int .i64 0), .s (.int .i64 0), .s (.int .i64 0), .s (.int .i64 0)] 1 [(0,x34)] (List.length h33)) h33 fun x35 h36=>
callK (T 49) [x35] h36 fun x37 h38=>
exK x37 0 fun x39=>
exK x37 1 fun x40=>
eqK P true 32 x40 (.s (.int .i64 0)) h38 fun x41=>
condK x41 (
k .ret ((upd (upd (upd (upd (upd (upd t 31 x27) 4 x30) 3 (t 30)) 6 x40) 41 x41) 2 x40),h38)) (
faK 0 x30 fun x42=>
ldK 1 false x42 h38 fun x43=>
faK 0 (t 1) fun x44=>
ldK 1 false x44 h38 fun x45=>
eqK P true 3 x43 x45 h38 fun x46=>
condK x46 (
k .ret ((upd (upd (upd (upd (upd (upd (upd t 31 x27) 4 x30) 3 (t 30)) 6 x40) 41 x41) 45 x46) 2 (.s (.int .i64 10))),h38)) (
arithK .gtr (t 30) (.s (.int .i64 0)) fun x47=>
grpK true x47 h38 (fun k48=>
faK 2 x30 fun x49=>
ldK 1 false x49 h38 fun x50=>
faK 2 (t 1) fun x51=>
ldK 1 false x51 h38 fun x52=>
arithK .sub (t 30) (.s (.int .i64 1)) fun x53=>
iaK 10 x52 x53 fun x54=>
faK 2 x54 fun x55=>
ldK 1 false x55 h38 fun x56=>
arithK .leq x50 x56 fun x57=>
k48 x57 h38) fun x58 h59=>
grpK false x58 h59 (fun k60=>
faK 2 x30 fun x61=>
ldK 1 false x61 h59 fun x62=>
faK 1 (t 1) fun x63=>
ldK 1 false x63 h59 fun x64=>
arithK .geq x62 x64 fun x65=>
k60 x65 h59) fun x66 h67=>
condK x66 (
k .ret ((upd (upd (upd (upd (upd (upd (upd (upd t 31 x27) 4 x30) 3 (t 30)) 6 x40) 41 x41) 45 x46) 51 x66) 2 (.s (.int .i64 5))),h67)) (
arithK .add (t 30) (.s (.int .i64 1)) fun x68=>
k .normal ((upd (upd (upd (upd (upd (upd (upd (upd t 31 x27) 4 x30) 3 (t 30)) 6 x40) 41 x41) 45 x46) 51 x66) 30 x68),h67))))) (
k (.exit 1) ((upd t 31 x27),h))
noncomputable def Z9n (P:Program) (T:Tab) (D:DTab) (N:Nat) {β:Type} (K:AV→Hp→Option β) (e:Ex) (s:St):Option β:=
 e.on ((ZfW P T D N K s.1 s.2))
 (fun i=>bif i==1 then ((ZfW P T D N K s.1 s.2)) else (none))
 (K (s.1 2) s.2)
noncomputable def ZfX (P:Program) (T:Tab) (D:DTab) (N:Nat) {β:Type} (cL2:St→Option β) (K:AV→Hp→Option β) (a0:AV) (h:Hp) :  Option β:=
effK (boxE 3 a0 (List.length h)) h fun x1 h2=>
faK 0 x1 fun x3=>
ldK 1 false x3 h2 fun x4=>
callK (T 75) [x4] h2 fun x5 h6=>
notK x5 fun x7=>
grpK false x7 h6 (fun k8=>
faK 1 x1 fun x9=>
ldK 1 false x9 h6 fun x10=>
arithK .lss x10 (.s (.int .i64 1)) fun x11=>
k8 x11 h6) fun x12 h13=>
grpK false x12 h13 (fun k14=>
faK 1 x1 fun x15=>
ldK 1 false x15 h13 fun x16=>
arithK .gtr x16 (.s (.int .i64 1073741825)) fun x17=>
k14 x17 h13) fun x18 h19=>
condK x18 (
K (.s (.int .i64 2)) h19) (
faK 2 x1 fun x20=>
ldK 1 false x20 h19 fun x21=>
lenK x21 fun x22=>
arithK .gtr x22 (.s (.int .i64 64)) fun x23=>
condK x23 (
K (.s (.int .i64 8)) h19) (
faK 2 x1 fun x24=>
ldK 1 false x24 h19 fun x25=>
lenK x25 fun x26=>
cL2 ((upd (upd (upd (upd (upd (upd (upd (tm0 [a0]) 1 x1) 2 (.s (.int .i64 0))) 7 x18) 22 x23) 28 x25) 29 x26) 30 (.s (.int .i64 0))),h19)))
noncomputable def ZfY (P:Program) (T:Tab) (D:DTab) (N:Nat) {β:Type} (K:AV→Hp→Option β) (a0:AV) (h:Hp):Option β:=ZfX P T D N (fun s=>iterK (fun s k=>Z3T P T D N s.1 s.2 k) N s (Z9n P T D N K)) K a0 h
noncomputable def ZcC (P:Program) (T:Tab) (D:DTab) (N:Nat) {β:Type} (K:AV→Hp→Option β) (h:Hp):Option β:=
K (.s (.int .i64 0)) h
noncomputable def Z6Z (P:Program) (T:Tab) (D:DTab) (N:Nat) {β:Type} (xn:AV→AV→AV→AV→Hp→Option β) (x1:Hp→Option β) (xr:AV→Hp→Option β) (v1:AV) (v28:AV) (v29:AV) (v30:AV) (h:Hp):Option β:=
arithK .lss v30 v29 fun x27=>
condK x27 (
iaK 10 v28 v30 fun x28=>
ldK 10 true x28 h fun x29=>
effK (boxE 10 (.agg [.s (.int .i64 0), .s (.int .i64 0), .s (.int .i64 0), .s (.int .i64 0), .s (.int .i64 0), .s (.int .i64 0), .s (.int .i64 0), .s (.int .i64 0), .s (.int .i64 0), .s (.int .i64 0)]) (List.length h)) h fun x30 h31=>
effK (stE 10 x30 x29 h31) h31 fun x32 h33=>
ldK 10 true x30 h33 fun x34=>
effK (bsE 10 [.s (.int .i64 0), .s (.int .i64 0), .s (.int .i64 0), .s (.int .i64 0), .s (.int .i64 0), .s (.int .i64 0), .s (.int .i64 0), .s (.int .i64 0), .s (.int .i64 0), .s (.int .i64 0)] 1 [(0,x34)] (List.length h33)) h33 fun x35 h36=>
callK (T 49) [x35] h36 fun x37 h38=>
exK x37 0 fun x39=>
exK x37 1 fun x40=>
eqK P true 32 x40 (.s (.int .i64 0)) h38 fun x41=>
condK x41 (
xr x40 h38) (
faK 0 x30 fun x42=>
ldK 1 false x42 h38 fun x43=>
faK 0 v1 fun x44=>
ldK 1 false x44 h38 fun x45=>
eqK P true 3 x43 x45 h38 fun x46=>
condK x46 (
xr (.s (.int .i64 10)) h38) (
arithK .gtr v30 (.s (.int .i64 0)) fun x47=>
grpK true x47 h38 (fun k48=>
faK 2 x30 fun x49=>
ldK 1 false x49 h38 fun x50=>
faK 2 v1 fun x51=>
ldK 1 false x51 h38 fun x52=>
arithK .sub v30 (.s (.int .i64 1)) fun x53=>
iaK 10 x52 x53 fun x54=>
faK 2 x54 fun x55=>
ldK 1 false x55 h38 fun x56=>
arithK .leq x50 x56 fun x57=>
k48 x57 h38) fun x58 h59=>
grpK false x58 h59 (fun k60=>
faK 2 x30 fun x61=>
ldK 1 false x61 h59 fun x62=>
faK 1 v1 fun x63=>
ldK 1 false x63 h59 fun x64=>
arithK .geq x62 x64 fun x65=>
k60 x65 h59) fun x66 h67=>
condK x66 (
xr (.s (.int .i64 5)) h67) (
arithK .add v30 (.s (.int .i64 1)) fun x68=>
xn v1 v28 v29 x68 h67)))) (
x1 h)
noncomputable def Z3U (P:Program) (T:Tab) (D:DTab) (N:Nat) {β:Type} (x1:Hp→Option β) (xr:AV→Hp→Option β):Nat→AV→AV→AV→AV→Hp→Option β
 | 0=>fun _ _ _ _ _=>none
 | n+1=>fun v1 v28 v29 v30 h=>Z6Z P T D N (Z3U P T D N x1 xr n) x1 xr v1 v28 v29 v30 h
noncomputable def Z70 (P:Program) (T:Tab) (D:DTab) (N:Nat) {β:Type} (K:AV→Hp→Option β) (a0:AV) (h:Hp):Option β:=
effK (boxE 3 a0 (List.length h)) h fun x1 h2=>
faK 0 x1 fun x3=>
ldK 1 false x3 h2 fun x4=>
callK (T 75) [x4] h2 fun x5 h6=>
notK x5 fun x7=>
grpK false x7 h6 (fun k8=>
faK 1 x1 fun x9=>
ldK 1 false x9 h6 fun x10=>
arithK .lss x10 (.s (.int .i64 1)) fun x11=>
k8 x11 h6) fun x12 h13=>
grpK false x12 h13 (fun k14=>
faK 1 x1 fun x15=>
ldK 1 false x15 h13 fun x16=>
arithK .gtr x16 (.s (.int .i64 1073741825)) fun x17=>
k14 x17 h13) fun x18 h19=>
condK x18 (
K (.s (.int .i64 2)) h19) (
faK 2 x1 fun x20=>
ldK 1 false x20 h19 fun x21=>
lenK x21 fun x22=>
arithK .gtr x22 (.s (.int .i64 64)) fun x23=>
condK x23 (
K (.s (.int .i64 8)) h19) (
faK 2 x1 fun x24=>
ldK 1 false x24 h19 fun x25=>
lenK x25 fun x26=>
Z3U P T D N (fun h=>ZcC P T D N K h) (fun w70_2 h=>K w70_2 h) N x1 x25 x26 (.s (.int .i64 0)) h19))
theorem Zmw (P:Program) (T:Tab) (D:DTab) (N:Nat) {β:Type} (xn:AV→AV→AV→AV→Hp→Option β) (x1:Hp→Option β) (xr:AV→Hp→Option β) (xd:Nat→St→Option β) (xq:St→Option β) (t:Tm) (h:Hp):Z3T P T D N t h (fun (e:Ex) (s:St)=>e.on (xn (s.1 1) (s.1 28) (s.1 29) (s.1 30) s.2) (fun i=>(bif i==1 then x1 s.2 else (xd i s))) (xr (s.1 2) s.2))=Z6Z P T D N xn x1 xr (t 1) (t 28) (t 29) (t 30) h:=by kernel_rfl
theorem Zmx (P:Program) (T:Tab) (D:DTab) (N:Nat) {β:Type} (A:Ex→St→Option β) (x1:Hp→Option β) (xr:AV→Hp→Option β) (q1:∀s,A (.exit 1) s=x1 s.2) (qr:∀s,A .ret s=xr (s.1 2) s.2):∀(n:Nat) (s:St),iterK (fun s k=>Z3T P T D N s.1 s.2 k) n s A=Z3U P T D N x1 xr n (s.1 1) (s.1 28) (s.1 29) (s.1 30) s.2:=by
 intro n
 induction n with
 | zero=>intro s;rfl
 | succ n ih=>
  intro s
  have hk:(fun (e:Ex) (s':St)=>Ex.on e (iterK (fun s k=>Z3T P T D N s.1 s.2 k) n s' A) (fun i=>A (.exit i) s') (A .ret s'))=(fun (e:Ex) (s:St)=>e.on ((Z3U P T D N x1 xr n) (s.1 1) (s.1 28) (s.1 29) (s.1 30) s.2) (fun i=>(bif i==1 then x1 s.2 else (A (.exit i) s))) (xr (s.1 2) s.2)):=by
   funext e s'
   cases e with
   | normal=>exact ih s'
   | ret=>exact qr s'
   | exit i=>
    by_cases r1:i=1
    ·subst r1;exact q1 s'
    simp only [Ex.on,beq_false_of_ne r1,cond_false]
  show Z3T P T D N s.1 s.2 (fun (e:Ex) (s':St)=>Ex.on e (iterK (fun s k=>Z3T P T D N s.1 s.2 k) n s' A) (fun i=>A (.exit i) s') (A .ret s'))=_
  rw [hk]
  exact Zmw P T D N (Z3U P T D N x1 xr n) x1 xr (fun i s=>A (.exit i) s) (fun s=>A .ret s) s.1 s.2
theorem Zmy (P:Program) (T:Tab) (D:DTab) (N:Nat) {β:Type} (K:AV→Hp→Option β) (a0:AV) (h:Hp):ZfY P T D N K a0 h=Z70 P T D N K a0 h:=by
 have eL2:(fun s:St=>iterK (fun s k=>Z3T P T D N s.1 s.2 k) N s (Z9n P T D N K))=(fun s:St=>Z3U P T D N (fun h=>ZcC P T D N K h) (fun w70_2 h=>K w70_2 h) N (s.1 1) (s.1 28) (s.1 29) (s.1 30) s.2):=funext fun s=>Zmx P T D N (Z9n P T D N K) (fun h=>ZcC P T D N K h) (fun w70_2 h=>K w70_2 h) (fun s=>rfl) (fun s=>rfl) N s
 show ZfX P T D N (fun s=>iterK (fun s k=>Z3T P T D N s.1 s.2 k) N s (Z9n P T D N K)) K a0 h=_
 rw [eL2]
 kernel_rfl
theorem Zmz (T:Tab) (D:DTab) (N:Nat) {β:Type} (K:AV→Hp→Option β) (a0:AV) (h:Hp):runK Try.prog T D N [0,1,2,3,4,6,7,22,28,29,30,31,41,45,51] Try.f64 K [a0] h=ZfY Try.prog T D N K a0 h:=by kernel_rfl
theorem ZmA (T:Tab) (D:DTab) (N:Nat) {β:Type} (K:AV→Hp→Option β) (a0:AV) (h:Hp):runK Try.prog T D N [0,1,2,3,4,6,7,22,28,29,30,31,41,45,51] Try.f64 K [a0] h=Z70 Try.prog T D N K a0 h:=(Zmz T D N K a0 h).trans (Zmy Try.prog T D N K a0 h)
noncomputable def Z5n (P:Program) (T:Tab) (D:DTab) (N:Nat) {β:Type} (K:AV→Hp→Option β) (a0:AV) (a1:AV) (h:Hp):Option β:=
effK (boxE 3 a0 (List.length h)) h fun x1 h2=>
effK (boxE 1 a1 (List.length h2)) h2 fun x3 h4=>
ldK 3 true x1 h4 fun x5=>
callK (T 64) [x5] h4 fun x6 h7=>
eqK P true 32 x6 (.s (.int .i64 0)) h7 fun x8=>
condK x8 (
K (.tup [(.s (.slice none 0 0)),(.s (.int .i64 1))]) h7) (
ldK 1 false x3 h7 fun x9=>
callK (T 75) [x9] h7 fun x10 h11=>
notK x10 fun x12=>
condK x12 (
K (.tup [(.s (.slice none 0 0)),(.s (.int .i64 2))]) h11) (
faK 2 x1 fun x13=>
ldK 1 false x13 h11 fun x14=>
callK (T 66) [x14] h11 fun x15 h16=>
callK (T 89) [x15,(.fn 90 [x3])] h16 fun x17 h18=>
K (.tup [x17,(.s (.int .i64 0))]) h18))
theorem ZmB (T:Tab) (D:DTab) (N:Nat) {β:Type} (K:AV→Hp→Option β) (a0:AV) (a1:AV) (h:Hp):runK Try.prog T D N [0,1,2,3,4,5,6,10] Try.f65 K [a0,a1] h=Z5n Try.prog T D N K a0 a1 h:=by kernel_rfl
noncomputable def Z3V (P:Program) (T:Tab) (D:DTab) (N:Nat) {β:Type} (K:AV→Hp→Option β) (a0:AV) (h:Hp):Option β:=
eqK P false 47 a0 (.s (.slice none 0 0)) h fun x1=>
condK x1 (
K (.s (.slice none 0 0)) h) (
effK (bsE 10 [.s (.int .i64 0), .s (.int .i64 0), .s (.int .i64 0), .s (.int .i64 0), .s (.int .i64 0), .s (.int .i64 0), .s (.int .i64 0), .s (.int .i64 0), .s (.int .i64 0), .s (.int .i64 0)] 0 [] (List.length h)) h fun x2 h3=>
effK (appE 10 80 x2 a0 h3 (List.length h3)) h3 fun x4 h5=>
K x4 h5)
theorem ZmC (T:Tab) (D:DTab) (N:Nat) {β:Type} (K:AV→Hp→Option β) (a0:AV) (h:Hp):runK Try.prog T D N [0,2,4] Try.f66 K [a0] h=Z3V Try.prog T D N K a0 h:=by kernel_rfl
noncomputable def ZcD (P:Program) (T:Tab) (D:DTab) (N:Nat) {β:Type} (K:AV→Hp→Option β) (a0:AV) (a1:AV) (h:Hp):Option β:=
effK (boxE 1 a0 (List.length h)) h fun x1 h2=>
effK (boxE 1 a1 (List.length h2)) h2 fun x3 h4=>
K (.fn 91 [x1,x3]) h4
theorem ZmD (T:Tab) (D:DTab) (N:Nat) {β:Type} (K:AV→Hp→Option β) (a0:AV) (a1:AV) (h:Hp):runK Try.prog T D N [0,1,2,3,4] Try.f67 K [a0,a1] h=ZcD Try.prog T D N K a0 a1 h:=by kernel_rfl
noncomputable def Z5o (P:Program) (T:Tab) (D:DTab) (N:Nat) {β:Type} (K:AV→Hp→Option β) (v4:AV) (v6:AV) (h:Hp):Option β:=
ldK 3 true v6 h fun x51=>
effK (stE 3 v4 x51 h) h fun x52 h53=>
ldK 3 true v4 h53 fun r54=>
K (.tup [r54,(.s (.int .i64 0))]) h53
noncomputable def Z3h (P:Program) (T:Tab) (D:DTab) (N:Nat) {β:Type} (K:AV→Hp→Option β) (a0:AV) (a1:AV) (h:Hp):Option β:=
effK (boxE 3 a0 (List.length h)) h fun x1 h2=>
effK (boxE 2 a1 (List.length h2)) h2 fun x3 h4=>
effK (boxE 3 (.agg [.s (.int .i64 0), .s (.int .i64 0), .s (.slice none 0 0)]) (List.length h4)) h4 fun x5 h6=>
ldK 3 true x1 h6 fun x7=>
callK (T 64) [x7] h6 fun x8 h9=>
eqK P true 32 x8 (.s (.int .i64 0)) h9 fun x10=>
condK x10 (
buildK [.s (.int .i64 0), .s (.int .i64 0), .s (.slice none 0 0)] [] fun x11=>
effK (stE 3 x5 x11 h9) h9 fun x12 h13=>
ldK 3 true x5 h13 fun r14=>
K (.tup [r14,(.s (.int .i64 1))]) h13) (
faK 0 x3 fun x15=>
ldK 1 false x15 h9 fun x16=>
faK 0 x1 fun x17=>
ldK 1 false x17 h9 fun x18=>
eqK P true 3 x16 x18 h9 fun x19=>
condK x19 (
buildK [.s (.int .i64 0), .s (.int .i64 0), .s (.slice none 0 0)] [] fun x20=>
effK (stE 3 x5 x20 h9) h9 fun x21 h22=>
ldK 3 true x5 h22 fun r23=>
K (.tup [r23,(.s (.int .i64 10))]) h22) (
faK 1 x3 fun x24=>
ldK 1 false x24 h9 fun x25=>
arithK .lss x25 (.s (.int .i64 1)) fun x26=>
grpK false x26 h9 (fun k27=>
faK 1 x3 fun x28=>
ldK 1 false x28 h9 fun x29=>
faK 1 x1 fun x30=>
ldK 1 false x30 h9 fun x31=>
arithK .geq x29 x31 fun x32=>
k27 x32 h9) fun x33 h34=>
condK x33 (
buildK [.s (.int .i64 0), .s (.int .i64 0), .s (.slice none 0 0)] [] fun x35=>
effK (stE 3 x5 x35 h34) h34 fun x36 h37=>
ldK 3 true x5 h37 fun r38=>
K (.tup [r38,(.s (.int .i64 2))]) h37) (
ldK 3 true x1 h34 fun x39=>
callK (T 77) [x39] h34 fun x40 h41=>
effK (boxE 3 (.agg [.s (.int .i64 0), .s (.int .i64 0), .s (.slice none 0 0)]) (List.length h41)) h41 fun x42 h43=>
effK (stE 3 x42 x40 h43) h43 fun x44 h45=>
faK 2 x42 fun x46=>
ldK 1 false x46 h45 fun x47=>
lenK x47 fun x48=>
callK (T 92) [x48,(.fn 93 [x42,x3])] h45 fun x49 h50=>
faK 2 x42 fun x55=>
ldK 1 false x55 h50 fun x56=>
lenK x56 fun x57=>
arithK .lss x49 x57 fun x58=>
grpK true x58 h50 (fun k59=>
faK 2 x42 fun x60=>
ldK 1 false x60 h50 fun x61=>
iaK 10 x61 x49 fun x62=>
faK 2 x62 fun x63=>
ldK 1 false x63 h50 fun x64=>
faK 1 x3 fun x65=>
ldK 1 false x65 h50 fun x66=>
eqK P false 3 x64 x66 h50 fun x67=>
k59 x67 h50) fun x68 h69=>
condK x68 (
faK 2 x42 fun x70=>
ldK 1 false x70 h69 fun x71=>
arithK .add x49 (.s (.int .i64 1)) fun x72=>
callK (T 94) [x71,x49,x72] h69 fun x73 h74=>
faK 2 x42 fun x75=>
effK (stE 1 x75 x73 h74) h74 fun x76 h77=>
Z5o P T D N K x5 x42 h77) (
Z5o P T D N K x5 x42 h69))))
theorem ZmE (T:Tab) (D:DTab) (N:Nat) {β:Type} (K:AV→Hp→Option β) (a0:AV) (a1:AV) (h:Hp):runK Try.prog T D N [0,1,2,3,4,5,6,7,8,13,20,54] Try.f68 K [a0,a1] h=Z3h Try.prog T D N K a0 a1 h:=by kernel_rfl
noncomputable def ZfZ (P:Program) (T:Tab) (D:DTab) (N:Nat) {β:Type} (K:AV→Hp→Option β) (t:Tm) (h:Hp):Option β:=
K (.s (.int .i64 (-1))) h
noncomputable def Z3W (P:Program) (T:Tab) (D:DTab) (N:Nat) {β:Type} (t:Tm) (h:Hp) (k:Ex→St→Option β):Option β:=
arithK .lss (t 8) (t 7) fun x4=>
condK x4 (
ldK 10 true (t 3) h fun x5=>
iaK 10 (t 0) (t 8) fun x6=>
ldK 10 true x6 h fun x7=>
eqK P false 29 x5 x7 h fun x8=>
condK x8 (
k .ret ((upd (upd (upd (upd t 9 x4) 5 (t 8)) 16 x8) 4 (t 8)),h)) (
arithK .add (t 8) (.s (.int .i64 1)) fun x9=>
k .normal ((upd (upd (upd (upd t 9 x4) 5 (t 8)) 16 x8) 8 x9),h))) (
k (.exit 0) ((upd t 9 x4),h))
noncomputable def Z9o (P:Program) (T:Tab) (D:DTab) (N:Nat) {β:Type} (K:AV→Hp→Option β) (e:Ex) (s:St):Option β:=
 e.on ((ZfZ P T D N K s.1 s.2))
 (fun i=>bif i==0 then ((ZfZ P T D N K s.1 s.2)) else (none))
 (K (s.1 4) s.2)
noncomputable def Zg0 (P:Program) (T:Tab) (D:DTab) (N:Nat) {β:Type} (cL2:St→Option β) (K:AV→Hp→Option β) (a0:AV) (a1:AV) (h:Hp) :  Option β:=
effK (boxE 10 a1 (List.length h)) h fun x1 h2=>
lenK a0 fun x3=>
cL2 ((upd (upd (upd (upd (tm0 [a0,a1]) 3 x1) 4 (.s (.int .i64 0))) 7 x3) 8 (.s (.int .i64 0))),h2)
noncomputable def Zg1 (P:Program) (T:Tab) (D:DTab) (N:Nat) {β:Type} (K:AV→Hp→Option β) (a0:AV) (a1:AV) (h:Hp):Option β:=Zg0 P T D N (fun s=>iterK (fun s k=>Z3W P T D N s.1 s.2 k) N s (Z9o P T D N K)) K a0 a1 h
noncomputable def Z9p (P:Program) (T:Tab) (D:DTab) (N:Nat) {β:Type} (K:AV→Hp→Option β) (h:Hp):Option β:=
K (.s (.int .i64 (-1))) h
noncomputable def Z9q (P:Program) (T:Tab) (D:DTab) (N:Nat) {β:Type} (xn:AV→AV→AV→AV→Hp→Option β) (x0:Hp→Option β) (xr:AV→Hp→Option β) (v0:AV) (v3:AV) (v7:AV) (v8:AV) (h:Hp):Option β:=
arithK .lss v8 v7 fun x4=>
condK x4 (
ldK 10 true v3 h fun x5=>
iaK 10 v0 v8 fun x6=>
ldK 10 true x6 h fun x7=>
eqK P false 29 x5 x7 h fun x8=>
condK x8 (
xr v8 h) (
arithK .add v8 (.s (.int .i64 1)) fun x9=>
xn v0 v3 v7 x9 h)) (
x0 h)
noncomputable def Z3X (P:Program) (T:Tab) (D:DTab) (N:Nat) {β:Type} (x0:Hp→Option β) (xr:AV→Hp→Option β):Nat→AV→AV→AV→AV→Hp→Option β
 | 0=>fun _ _ _ _ _=>none
 | n+1=>fun v0 v3 v7 v8 h=>Z9q P T D N (Z3X P T D N x0 xr n) x0 xr v0 v3 v7 v8 h
noncomputable def Z71 (P:Program) (T:Tab) (D:DTab) (N:Nat) {β:Type} (K:AV→Hp→Option β) (a0:AV) (a1:AV) (h:Hp):Option β:=
effK (boxE 10 a1 (List.length h)) h fun x1 h2=>
lenK a0 fun x3=>
Z3X P T D N (fun h=>Z9p P T D N K h) (fun w11_4 h=>K w11_4 h) N a0 x1 x3 (.s (.int .i64 0)) h2
theorem ZmF (P:Program) (T:Tab) (D:DTab) (N:Nat) {β:Type} (xn:AV→AV→AV→AV→Hp→Option β) (x0:Hp→Option β) (xr:AV→Hp→Option β) (xd:Nat→St→Option β) (xq:St→Option β) (t:Tm) (h:Hp):Z3W P T D N t h (fun (e:Ex) (s:St)=>e.on (xn (s.1 0) (s.1 3) (s.1 7) (s.1 8) s.2) (fun i=>(bif i==0 then x0 s.2 else (xd i s))) (xr (s.1 4) s.2))=Z9q P T D N xn x0 xr (t 0) (t 3) (t 7) (t 8) h:=by kernel_rfl
theorem ZmG (P:Program) (T:Tab) (D:DTab) (N:Nat) {β:Type} (A:Ex→St→Option β) (x0:Hp→Option β) (xr:AV→Hp→Option β) (q0:∀s,A (.exit 0) s=x0 s.2) (qr:∀s,A .ret s=xr (s.1 4) s.2):∀(n:Nat) (s:St),iterK (fun s k=>Z3W P T D N s.1 s.2 k) n s A=Z3X P T D N x0 xr n (s.1 0) (s.1 3) (s.1 7) (s.1 8) s.2:=by
 intro n
 induction n with
 | zero=>intro s;rfl
 | succ n ih=>
  intro s
  have hk:(fun (e:Ex) (s':St)=>Ex.on e (iterK (fun s k=>Z3W P T D N s.1 s.2 k) n s' A) (fun i=>A (.exit i) s') (A .ret s'))=(fun (e:Ex) (s:St)=>e.on ((Z3X P T D N x0 xr n) (s.1 0) (s.1 3) (s.1 7) (s.1 8) s.2) (fun i=>(bif i==0 then x0 s.2 else (A (.exit i) s))) (xr (s.1 4) s.2)):=by
   funext e s'
   cases e with
   | normal=>exact ih s'
   | ret=>exact qr s'
   | exit i=>
    by_cases r0:i=0
    ·subst r0;exact q0 s'
    simp only [Ex.on,beq_false_of_ne r0,cond_false]
  show Z3W P T D N s.1 s.2 (fun (e:Ex) (s':St)=>Ex.on e (iterK (fun s k=>Z3W P T D N s.1 s.2 k) n s' A) (fun i=>A (.exit i) s') (A .ret s'))=_
  rw [hk]
  exact ZmF P T D N (Z3X P T D N x0 xr n) x0 xr (fun i s=>A (.exit i) s) (fun s=>A .ret s) s.1 s.2
theorem ZmH (P:Program) (T:Tab) (D:DTab) (N:Nat) {β:Type} (K:AV→Hp→Option β) (a0:AV) (a1:AV) (h:Hp):Zg1 P T D N K a0 a1 h=Z71 P T D N K a0 a1 h:=by
 have eL2:(fun s:St=>iterK (fun s k=>Z3W P T D N s.1 s.2 k) N s (Z9o P T D N K))=(fun s:St=>Z3X P T D N (fun h=>Z9p P T D N K h) (fun w11_4 h=>K w11_4 h) N (s.1 0) (s.1 3) (s.1 7) (s.1 8) s.2):=funext fun s=>ZmG P T D N (Z9o P T D N K) (fun h=>Z9p P T D N K h) (fun w11_4 h=>K w11_4 h) (fun s=>rfl) (fun s=>rfl) N s
 show Zg0 P T D N (fun s=>iterK (fun s k=>Z3W P T D N s.1 s.2 k) N s (Z9o P T D N K)) K a0 a1 h=_
 rw [eL2]
 kernel_rfl
theorem ZmI (T:Tab) (D:DTab) (N:Nat) {β:Type} (K:AV→Hp→Option β) (a0:AV) (a1:AV) (h:Hp):runK Try.prog T D N [0,1,3,4,5,7,8,9,16] Try.f69 K [a0,a1] h=Zg1 Try.prog T D N K a0 a1 h:=by kernel_rfl
theorem ZmJ (T:Tab) (D:DTab) (N:Nat) {β:Type} (K:AV→Hp→Option β) (a0:AV) (a1:AV) (h:Hp):runK Try.prog T D N [0,1,3,4,5,7,8,9,16] Try.f69 K [a0,a1] h=Z71 Try.prog T D N K a0 a1 h:=(ZmI T D N K a0 a1 h).trans (ZmH Try.prog T D N K a0 a1 h)
noncomputable def Zg2 (P:Program) (T:Tab) (D:DTab) (N:Nat) {β:Type} (K:AV→Hp→Option β) (t:Tm) (h:Hp):Option β:=
K (.s (.int .i64 (-1))) h
noncomputable def Z3Y (P:Program) (T:Tab) (D:DTab) (N:Nat) {β:Type} (t:Tm) (h:Hp) (k:Ex→St→Option β):Option β:=
arithK .lss (t 8) (t 7) fun x2=>
condK x2 (
iaK 10 (t 0) (t 8) fun x3=>
ldK 10 true x3 h fun x4=>
callVK T (t 1) [x4] h fun x5 h6=>
condK x5 (
k .ret ((upd (upd (upd (upd t 9 x2) 5 (t 8)) 16 x5) 4 (t 8)),h6)) (
arithK .add (t 8) (.s (.int .i64 1)) fun x7=>
k .normal ((upd (upd (upd (upd t 9 x2) 5 (t 8)) 16 x5) 8 x7),h6))) (
k (.exit 0) ((upd t 9 x2),h))
noncomputable def Z9r (P:Program) (T:Tab) (D:DTab) (N:Nat) {β:Type} (K:AV→Hp→Option β) (e:Ex) (s:St):Option β:=
 e.on ((Zg2 P T D N K s.1 s.2))
 (fun i=>bif i==0 then ((Zg2 P T D N K s.1 s.2)) else (none))
 (K (s.1 4) s.2)
noncomputable def Zg3 (P:Program) (T:Tab) (D:DTab) (N:Nat) {β:Type} (cL2:St→Option β) (K:AV→Hp→Option β) (a0:AV) (a1:AV) (h:Hp) :  Option β:=
lenK a0 fun x1=>
cL2 ((upd (upd (upd (tm0 [a0,a1]) 4 (.s (.int .i64 0))) 7 x1) 8 (.s (.int .i64 0))),h)
noncomputable def Zg4 (P:Program) (T:Tab) (D:DTab) (N:Nat) {β:Type} (K:AV→Hp→Option β) (a0:AV) (a1:AV) (h:Hp):Option β:=Zg3 P T D N (fun s=>iterK (fun s k=>Z3Y P T D N s.1 s.2 k) N s (Z9r P T D N K)) K a0 a1 h
noncomputable def Z9s (P:Program) (T:Tab) (D:DTab) (N:Nat) {β:Type} (K:AV→Hp→Option β) (h:Hp):Option β:=
K (.s (.int .i64 (-1))) h
noncomputable def Z9t (P:Program) (T:Tab) (D:DTab) (N:Nat) {β:Type} (xn:AV→AV→AV→AV→Hp→Option β) (x0:Hp→Option β) (xr:AV→Hp→Option β) (v0:AV) (v1:AV) (v7:AV) (v8:AV) (h:Hp):Option β:=
arithK .lss v8 v7 fun x2=>
condK x2 (
iaK 10 v0 v8 fun x3=>
ldK 10 true x3 h fun x4=>
callVK T v1 [x4] h fun x5 h6=>
condK x5 (
xr v8 h6) (
arithK .add v8 (.s (.int .i64 1)) fun x7=>
xn v0 v1 v7 x7 h6)) (
x0 h)
noncomputable def Z3Z (P:Program) (T:Tab) (D:DTab) (N:Nat) {β:Type} (x0:Hp→Option β) (xr:AV→Hp→Option β):Nat→AV→AV→AV→AV→Hp→Option β
 | 0=>fun _ _ _ _ _=>none
 | n+1=>fun v0 v1 v7 v8 h=>Z9t P T D N (Z3Z P T D N x0 xr n) x0 xr v0 v1 v7 v8 h
noncomputable def Z40 (P:Program) (T:Tab) (D:DTab) (N:Nat) {β:Type} (K:AV→Hp→Option β) (a0:AV) (a1:AV) (h:Hp):Option β:=
lenK a0 fun x1=>
Z3Z P T D N (fun h=>Z9s P T D N K h) (fun w9_4 h=>K w9_4 h) N a0 a1 x1 (.s (.int .i64 0)) h
theorem ZmK (P:Program) (T:Tab) (D:DTab) (N:Nat) {β:Type} (xn:AV→AV→AV→AV→Hp→Option β) (x0:Hp→Option β) (xr:AV→Hp→Option β) (xd:Nat→St→Option β) (xq:St→Option β) (t:Tm) (h:Hp):Z3Y P T D N t h (fun (e:Ex) (s:St)=>e.on (xn (s.1 0) (s.1 1) (s.1 7) (s.1 8) s.2) (fun i=>(bif i==0 then x0 s.2 else (xd i s))) (xr (s.1 4) s.2))=Z9t P T D N xn x0 xr (t 0) (t 1) (t 7) (t 8) h:=by kernel_rfl
theorem ZmL (P:Program) (T:Tab) (D:DTab) (N:Nat) {β:Type} (A:Ex→St→Option β) (x0:Hp→Option β) (xr:AV→Hp→Option β) (q0:∀s,A (.exit 0) s=x0 s.2) (qr:∀s,A .ret s=xr (s.1 4) s.2):∀(n:Nat) (s:St),iterK (fun s k=>Z3Y P T D N s.1 s.2 k) n s A=Z3Z P T D N x0 xr n (s.1 0) (s.1 1) (s.1 7) (s.1 8) s.2:=by
 intro n
 induction n with
 | zero=>intro s;rfl
 | succ n ih=>
  intro s
  have hk:(fun (e:Ex) (s':St)=>Ex.on e (iterK (fun s k=>Z3Y P T D N s.1 s.2 k) n s' A) (fun i=>A (.exit i) s') (A .ret s'))=(fun (e:Ex) (s:St)=>e.on ((Z3Z P T D N x0 xr n) (s.1 0) (s.1 1) (s.1 7) (s.1 8) s.2) (fun i=>(bif i==0 then x0 s.2 else (A (.exit i) s))) (xr (s.1 4) s.2)):=by
   funext e s'
   cases e with
   | normal=>exact ih s'
   | ret=>exact qr s'
   | exit i=>
    by_cases r0:i=0
    ·subst r0;exact q0 s'
    simp only [Ex.on,beq_false_of_ne r0,cond_false]
  show Z3Y P T D N s.1 s.2 (fun (e:Ex) (s':St)=>Ex.on e (iterK (fun s k=>Z3Y P T D N s.1 s.2 k) n s' A) (fun i=>A (.exit i) s') (A .ret s'))=_
  rw [hk]
  exact ZmK P T D N (Z3Z P T D N x0 xr n) x0 xr (fun i s=>A (.exit i) s) (fun s=>A .ret s) s.1 s.2
theorem ZmM (P:Program) (T:Tab) (D:DTab) (N:Nat) {β:Type} (K:AV→Hp→Option β) (a0:AV) (a1:AV) (h:Hp):Zg4 P T D N K a0 a1 h=Z40 P T D N K a0 a1 h:=by
 have eL2:(fun s:St=>iterK (fun s k=>Z3Y P T D N s.1 s.2 k) N s (Z9r P T D N K))=(fun s:St=>Z3Z P T D N (fun h=>Z9s P T D N K h) (fun w9_4 h=>K w9_4 h) N (s.1 0) (s.1 1) (s.1 7) (s.1 8) s.2):=funext fun s=>ZmL P T D N (Z9r P T D N K) (fun h=>Z9s P T D N K h) (fun w9_4 h=>K w9_4 h) (fun s=>rfl) (fun s=>rfl) N s
 show Zg3 P T D N (fun s=>iterK (fun s k=>Z3Y P T D N s.1 s.2 k) N s (Z9r P T D N K)) K a0 a1 h=_
 rw [eL2]
 kernel_rfl
theorem ZmN (T:Tab) (D:DTab) (N:Nat) {β:Type} (K:AV→Hp→Option β) (a0:AV) (a1:AV) (h:Hp):runK Try.prog T D N [0,1,4,5,7,8,9,16] Try.f70 K [a0,a1] h=Zg4 Try.prog T D N K a0 a1 h:=by kernel_rfl
theorem Zg5 (T:Tab) (D:DTab) (N:Nat) {β:Type} (K:AV→Hp→Option β) (a0:AV) (a1:AV) (h:Hp):runK Try.prog T D N [0,1,4,5,7,8,9,16] Try.f70 K [a0,a1] h=Z40 Try.prog T D N K a0 a1 h:=(ZmN T D N K a0 a1 h).trans (ZmM Try.prog T D N K a0 a1 h)
noncomputable def Zg6 (P:Program) (T:Tab) (D:DTab) (N:Nat) {β:Type} (K:AV→Hp→Option β) (t:Tm) (h:Hp):Option β:=
K (.tup [(t 6),(.s (.int .i64 0))]) h
noncomputable def ZmO (P:Program) (T:Tab) (D:DTab) (N:Nat) {β:Type} (k:Ex→St→Option β) (t:Tm) (h:Hp):Option β:=
arithK .add (t 19) (.s (.int .i64 1)) fun x8=>
k .normal ((upd t 19 x8),h)
noncomputable def Zg7 (P:Program) (T:Tab) (D:DTab) (N:Nat) {β:Type} (k:Ex→St→Option β) (t:Tm) (h:Hp):Option β:=
(ZmO P T D N k t h)
noncomputable def Z41 (P:Program) (T:Tab) (D:DTab) (N:Nat) {β:Type} (t:Tm) (h:Hp) (k:Ex→St→Option β):Option β:=
arithK .lss (t 19) (t 18) fun x7=>
condK x7 (
iaK 7 (t 17) (t 19) fun x9=>
ldK 7 true x9 h fun x10=>
effK (boxE 7 (.agg [.s (.int .i64 0), .s (.int .i64 0), .s (.int .i64 0), .s (.int .i64 0), .s (.int .i64 0), .s (.int .i64 0), .s (.int .i64 0)]) (List.length h)) h fun x11 h12=>
effK (stE 7 x11 x10 h12) h12 fun x13 h14=>
eqK P false 3 (t 19) (.s (.int .i64 0)) h14 fun x15=>
grpK false x15 h14 (fun k16=>
faK 0 x11 fun x17=>
ldK 1 false x17 h14 fun x18=>
arithK .sub (t 19) (.s (.int .i64 1)) fun x19=>
iaK 7 (t 4) x19 fun x20=>
faK 0 x20 fun x21=>
ldK 1 false x21 h14 fun x22=>
eqK P true 3 x18 x22 h14 fun x23=>
k16 x23 h14) fun x24 h25=>
condK x24 (
faK 0 x11 fun x26=>
ldK 1 false x26 h25 fun x27=>
callK (T 95) [(t 4),x27] h25 fun x28 h29=>
effK (bsE 7 [.s (.int .i64 0), .s (.int .i64 0), .s (.int .i64 0), .s (.int .i64 0), .s (.int .i64 0), .s (.int .i64 0), .s (.int .i64 0)] 1 [(0,x28)] (List.length h29)) h29 fun x30 h31=>
effK (appE 7 56 (t 6) x30 h31 (List.length h31)) h31 fun x32 h33=>
(Zg7 P T D N k (upd (upd (upd (upd (upd t 20 x7) 8 x11) 7 (t 19)) 36 x24) 6 x32) h33)) (
(Zg7 P T D N k (upd (upd (upd (upd t 20 x7) 8 x11) 7 (t 19)) 36 x24) h25))) (
k (.exit 0) ((upd t 20 x7),h))
noncomputable def Z9u (P:Program) (T:Tab) (D:DTab) (N:Nat) {β:Type} (K:AV→Hp→Option β) (e:Ex) (s:St):Option β:=
 e.on ((Zg6 P T D N K s.1 s.2))
 (fun i=>bif i==0 then ((Zg6 P T D N K s.1 s.2)) else (none))
 (K (.tup [(s.1 2),(s.1 3)]) s.2)
noncomputable def Zg8 (P:Program) (T:Tab) (D:DTab) (N:Nat) {β:Type} (cL2:St→Option β) (K:AV→Hp→Option β) (a0:AV) (h:Hp) :  Option β:=
callK (T 54) [a0] h fun x1 h2=>
exK x1 0 fun x3=>
exK x1 1 fun x4=>
eqK P true 32 x4 (.s (.int .i64 0)) h2 fun x5=>
condK x5 (
K (.tup [(.s (.slice none 0 0)),x4]) h2) (
lenK x3 fun x6=>
cL2 ((upd (upd (upd (upd (upd (upd (upd (upd (upd (tm0 [a0]) 2 (.s (.slice none 0 0))) 3 (.s (.int .i64 0))) 4 x3) 5 x4) 15 x5) 6 (.s (.slice none 0 0))) 17 x3) 18 x6) 19 (.s (.int .i64 0))),h2))
noncomputable def Zg9 (P:Program) (T:Tab) (D:DTab) (N:Nat) {β:Type} (K:AV→Hp→Option β) (a0:AV) (h:Hp):Option β:=Zg8 P T D N (fun s=>iterK (fun s k=>Z41 P T D N s.1 s.2 k) N s (Z9u P T D N K)) K a0 h
noncomputable def Z72 (P:Program) (T:Tab) (D:DTab) (N:Nat) {β:Type} (K:AV→Hp→Option β) (v6:AV) (h:Hp):Option β:=
K (.tup [v6,(.s (.int .i64 0))]) h
noncomputable def ZcE (P:Program) (T:Tab) (D:DTab) (N:Nat) {β:Type} (xn:AV→AV→AV→AV→AV→Hp→Option β) (x0:AV→Hp→Option β) (v4:AV) (v6:AV) (v17:AV) (v18:AV) (v19:AV) (h:Hp):Option β:=
arithK .add v19 (.s (.int .i64 1)) fun x8=>
xn v4 v6 v17 v18 x8 h
noncomputable def Z9v (P:Program) (T:Tab) (D:DTab) (N:Nat) {β:Type} (xn:AV→AV→AV→AV→AV→Hp→Option β) (x0:AV→Hp→Option β) (v4:AV) (v6:AV) (v17:AV) (v18:AV) (v19:AV) (h:Hp):Option β:=
ZcE P T D N xn x0 v4 v6 v17 v18 v19 h
noncomputable def Z73 (P:Program) (T:Tab) (D:DTab) (N:Nat) {β:Type} (xn:AV→AV→AV→AV→AV→Hp→Option β) (x0:AV→Hp→Option β) (v4:AV) (v6:AV) (v17:AV) (v18:AV) (v19:AV) (h:Hp):Option β:=
arithK .lss v19 v18 fun x7=>
condK x7 (
iaK 7 v17 v19 fun x9=>
ldK 7 true x9 h fun x10=>
effK (boxE 7 (.agg [.s (.int .i64 0), .s (.int .i64 0), .s (.int .i64 0), .s (.int .i64 0), .s (.int .i64 0), .s (.int .i64 0), .s (.int .i64 0)]) (List.length h)) h fun x11 h12=>
effK (stE 7 x11 x10 h12) h12 fun x13 h14=>
eqK P false 3 v19 (.s (.int .i64 0)) h14 fun x15=>
grpK false x15 h14 (fun k16=>
faK 0 x11 fun x17=>
ldK 1 false x17 h14 fun x18=>
arithK .sub v19 (.s (.int .i64 1)) fun x19=>
iaK 7 v4 x19 fun x20=>
faK 0 x20 fun x21=>
ldK 1 false x21 h14 fun x22=>
eqK P true 3 x18 x22 h14 fun x23=>
k16 x23 h14) fun x24 h25=>
condK x24 (
faK 0 x11 fun x26=>
ldK 1 false x26 h25 fun x27=>
callK (T 95) [v4,x27] h25 fun x28 h29=>
effK (bsE 7 [.s (.int .i64 0), .s (.int .i64 0), .s (.int .i64 0), .s (.int .i64 0), .s (.int .i64 0), .s (.int .i64 0), .s (.int .i64 0)] 1 [(0,x28)] (List.length h29)) h29 fun x30 h31=>
effK (appE 7 56 v6 x30 h31 (List.length h31)) h31 fun x32 h33=>
Z9v P T D N xn x0 v4 x32 v17 v18 v19 h33) (
Z9v P T D N xn x0 v4 v6 v17 v18 v19 h25)) (
x0 v6 h)
noncomputable def Z42 (P:Program) (T:Tab) (D:DTab) (N:Nat) {β:Type} (x0:AV→Hp→Option β):Nat→AV→AV→AV→AV→AV→Hp→Option β
 | 0=>fun _ _ _ _ _ _=>none
 | n+1=>fun v4 v6 v17 v18 v19 h=>Z73 P T D N (Z42 P T D N x0 n) x0 v4 v6 v17 v18 v19 h
noncomputable def Z4z (P:Program) (T:Tab) (D:DTab) (N:Nat) {β:Type} (K:AV→Hp→Option β) (a0:AV) (h:Hp):Option β:=
callK (T 54) [a0] h fun x1 h2=>
exK x1 0 fun x3=>
exK x1 1 fun x4=>
eqK P true 32 x4 (.s (.int .i64 0)) h2 fun x5=>
condK x5 (
K (.tup [(.s (.slice none 0 0)),x4]) h2) (
lenK x3 fun x6=>
Z42 P T D N (fun w34_6 h=>Z72 P T D N K w34_6 h) N x3 (.s (.slice none 0 0)) x3 x6 (.s (.int .i64 0)) h2)
theorem ZmP (P:Program) (T:Tab) (D:DTab) (N:Nat) {β:Type} (xn:AV→AV→AV→AV→AV→Hp→Option β) (x0:AV→Hp→Option β) (xd:Nat→St→Option β) (xq:St→Option β) (t:Tm) (h:Hp):Z41 P T D N t h (fun (e:Ex) (s:St)=>e.on (xn (s.1 4) (s.1 6) (s.1 17) (s.1 18) (s.1 19) s.2) (fun i=>(bif i==0 then x0 (s.1 6) s.2 else (xd i s))) (xq s))=Z73 P T D N xn x0 (t 4) (t 6) (t 17) (t 18) (t 19) h:=by kernel_rfl
theorem ZmQ (P:Program) (T:Tab) (D:DTab) (N:Nat) {β:Type} (A:Ex→St→Option β) (x0:AV→Hp→Option β) (q0:∀s,A (.exit 0) s=x0 (s.1 6) s.2):∀(n:Nat) (s:St),iterK (fun s k=>Z41 P T D N s.1 s.2 k) n s A=Z42 P T D N x0 n (s.1 4) (s.1 6) (s.1 17) (s.1 18) (s.1 19) s.2:=by
 intro n
 induction n with
 | zero=>intro s;rfl
 | succ n ih=>
  intro s
  have hk:(fun (e:Ex) (s':St)=>Ex.on e (iterK (fun s k=>Z41 P T D N s.1 s.2 k) n s' A) (fun i=>A (.exit i) s') (A .ret s'))=(fun (e:Ex) (s:St)=>e.on ((Z42 P T D N x0 n) (s.1 4) (s.1 6) (s.1 17) (s.1 18) (s.1 19) s.2) (fun i=>(bif i==0 then x0 (s.1 6) s.2 else (A (.exit i) s))) (A .ret s)):=by
   funext e s'
   cases e with
   | normal=>exact ih s'
   | ret=>exact rfl
   | exit i=>
    by_cases r0:i=0
    ·subst r0;exact q0 s'
    simp only [Ex.on,beq_false_of_ne r0,cond_false]
  show Z41 P T D N s.1 s.2 (fun (e:Ex) (s':St)=>Ex.on e (iterK (fun s k=>Z41 P T D N s.1 s.2 k) n s' A) (fun i=>A (.exit i) s') (A .ret s'))=_
  rw [hk]
  exact ZmP P T D N (Z42 P T D N x0 n) x0 (fun i s=>A (.exit i) s) (fun s=>A .ret s) s.1 s.2
theorem ZmR (P:Program) (T:Tab) (D:DTab) (N:Nat) {β:Type} (K:AV→Hp→Option β) (a0:AV) (h:Hp):Zg9 P T D N K a0 h=Z4z P T D N K a0 h:=by
 have eL2:(fun s:St=>iterK (fun s k=>Z41 P T D N s.1 s.2 k) N s (Z9u P T D N K))=(fun s:St=>Z42 P T D N (fun w34_6 h=>Z72 P T D N K w34_6 h) N (s.1 4) (s.1 6) (s.1 17) (s.1 18) (s.1 19) s.2):=funext fun s=>ZmQ P T D N (Z9u P T D N K) (fun w34_6 h=>Z72 P T D N K w34_6 h) (fun s=>rfl) N s
 show Zg8 P T D N (fun s=>iterK (fun s k=>Z41 P T D N s.1 s.2 k) N s (Z9u P T D N K)) K a0 h=_
 rw [eL2]
 kernel_rfl
theorem ZmS (T:Tab) (D:DTab) (N:Nat) {β:Type} (K:AV→Hp→Option β) (a0:AV) (h:Hp):runK Try.prog T D N [0,2,3,4,5,6,7,8,15,17,18,19,20,36] Try.f72 K [a0] h=Zg9 Try.prog T D N K a0 h:=by kernel_rfl
theorem ZmT (T:Tab) (D:DTab) (N:Nat) {β:Type} (K:AV→Hp→Option β) (a0:AV) (h:Hp):runK Try.prog T D N [0,2,3,4,5,6,7,8,15,17,18,19,20,36] Try.f72 K [a0] h=Z4z Try.prog T D N K a0 h:=(ZmS T D N K a0 h).trans (ZmR Try.prog T D N K a0 h)
noncomputable def Zga (P:Program) (T:Tab) (D:DTab) (N:Nat) {β:Type} (K:AV→Hp→Option β) (t:Tm) (h:Hp):Option β:=
K (.s (.int .i64 (-1))) h
noncomputable def Z43 (P:Program) (T:Tab) (D:DTab) (N:Nat) {β:Type} (t:Tm) (h:Hp) (k:Ex→St→Option β):Option β:=
arithK .lss (t 8) (t 7) fun x2=>
condK x2 (
iaK 7 (t 0) (t 8) fun x3=>
ldK 7 true x3 h fun x4=>
callVK T (t 1) [x4] h fun x5 h6=>
condK x5 (
k .ret ((upd (upd (upd (upd t 9 x2) 5 (t 8)) 16 x5) 4 (t 8)),h6)) (
arithK .add (t 8) (.s (.int .i64 1)) fun x7=>
k .normal ((upd (upd (upd (upd t 9 x2) 5 (t 8)) 16 x5) 8 x7),h6))) (
k (.exit 0) ((upd t 9 x2),h))
noncomputable def Z9w (P:Program) (T:Tab) (D:DTab) (N:Nat) {β:Type} (K:AV→Hp→Option β) (e:Ex) (s:St):Option β:=
 e.on ((Zga P T D N K s.1 s.2))
 (fun i=>bif i==0 then ((Zga P T D N K s.1 s.2)) else (none))
 (K (s.1 4) s.2)
noncomputable def Zgb (P:Program) (T:Tab) (D:DTab) (N:Nat) {β:Type} (cL2:St→Option β) (K:AV→Hp→Option β) (a0:AV) (a1:AV) (h:Hp) :  Option β:=
lenK a0 fun x1=>
cL2 ((upd (upd (upd (tm0 [a0,a1]) 4 (.s (.int .i64 0))) 7 x1) 8 (.s (.int .i64 0))),h)
noncomputable def Zgc (P:Program) (T:Tab) (D:DTab) (N:Nat) {β:Type} (K:AV→Hp→Option β) (a0:AV) (a1:AV) (h:Hp):Option β:=Zgb P T D N (fun s=>iterK (fun s k=>Z43 P T D N s.1 s.2 k) N s (Z9w P T D N K)) K a0 a1 h
noncomputable def Z9x (P:Program) (T:Tab) (D:DTab) (N:Nat) {β:Type} (K:AV→Hp→Option β) (h:Hp):Option β:=
K (.s (.int .i64 (-1))) h
noncomputable def Z9y (P:Program) (T:Tab) (D:DTab) (N:Nat) {β:Type} (xn:AV→AV→AV→AV→Hp→Option β) (x0:Hp→Option β) (xr:AV→Hp→Option β) (v0:AV) (v1:AV) (v7:AV) (v8:AV) (h:Hp):Option β:=
arithK .lss v8 v7 fun x2=>
condK x2 (
iaK 7 v0 v8 fun x3=>
ldK 7 true x3 h fun x4=>
callVK T v1 [x4] h fun x5 h6=>
condK x5 (
xr v8 h6) (
arithK .add v8 (.s (.int .i64 1)) fun x7=>
xn v0 v1 v7 x7 h6)) (
x0 h)
noncomputable def Z44 (P:Program) (T:Tab) (D:DTab) (N:Nat) {β:Type} (x0:Hp→Option β) (xr:AV→Hp→Option β):Nat→AV→AV→AV→AV→Hp→Option β
 | 0=>fun _ _ _ _ _=>none
 | n+1=>fun v0 v1 v7 v8 h=>Z9y P T D N (Z44 P T D N x0 xr n) x0 xr v0 v1 v7 v8 h
noncomputable def Z5p (P:Program) (T:Tab) (D:DTab) (N:Nat) {β:Type} (K:AV→Hp→Option β) (a0:AV) (a1:AV) (h:Hp):Option β:=
lenK a0 fun x1=>
Z44 P T D N (fun h=>Z9x P T D N K h) (fun w9_4 h=>K w9_4 h) N a0 a1 x1 (.s (.int .i64 0)) h
theorem ZmU (P:Program) (T:Tab) (D:DTab) (N:Nat) {β:Type} (xn:AV→AV→AV→AV→Hp→Option β) (x0:Hp→Option β) (xr:AV→Hp→Option β) (xd:Nat→St→Option β) (xq:St→Option β) (t:Tm) (h:Hp):Z43 P T D N t h (fun (e:Ex) (s:St)=>e.on (xn (s.1 0) (s.1 1) (s.1 7) (s.1 8) s.2) (fun i=>(bif i==0 then x0 s.2 else (xd i s))) (xr (s.1 4) s.2))=Z9y P T D N xn x0 xr (t 0) (t 1) (t 7) (t 8) h:=by kernel_rfl
theorem ZmV (P:Program) (T:Tab) (D:DTab) (N:Nat) {β:Type} (A:Ex→St→Option β) (x0:Hp→Option β) (xr:AV→Hp→Option β) (q0:∀s,A (.exit 0) s=x0 s.2) (qr:∀s,A .ret s=xr (s.1 4) s.2):∀(n:Nat) (s:St),iterK (fun s k=>Z43 P T D N s.1 s.2 k) n s A=Z44 P T D N x0 xr n (s.1 0) (s.1 1) (s.1 7) (s.1 8) s.2:=by
 intro n
 induction n with
 | zero=>intro s;rfl
 | succ n ih=>
  intro s
  have hk:(fun (e:Ex) (s':St)=>Ex.on e (iterK (fun s k=>Z43 P T D N s.1 s.2 k) n s' A) (fun i=>A (.exit i) s') (A .ret s'))=(fun (e:Ex) (s:St)=>e.on ((Z44 P T D N x0 xr n) (s.1 0) (s.1 1) (s.1 7) (s.1 8) s.2) (fun i=>(bif i==0 then x0 s.2 else (A (.exit i) s))) (xr (s.1 4) s.2)):=by
   funext e s'
   cases e with
   | normal=>exact ih s'
   | ret=>exact qr s'
   | exit i=>
    by_cases r0:i=0
    ·subst r0;exact q0 s'
    simp only [Ex.on,beq_false_of_ne r0,cond_false]
  show Z43 P T D N s.1 s.2 (fun (e:Ex) (s':St)=>Ex.on e (iterK (fun s k=>Z43 P T D N s.1 s.2 k) n s' A) (fun i=>A (.exit i) s') (A .ret s'))=_
  rw [hk]
  exact ZmU P T D N (Z44 P T D N x0 xr n) x0 xr (fun i s=>A (.exit i) s) (fun s=>A .ret s) s.1 s.2
theorem ZmW (P:Program) (T:Tab) (D:DTab) (N:Nat) {β:Type} (K:AV→Hp→Option β) (a0:AV) (a1:AV) (h:Hp):Zgc P T D N K a0 a1 h=Z5p P T D N K a0 a1 h:=by
 have eL2:(fun s:St=>iterK (fun s k=>Z43 P T D N s.1 s.2 k) N s (Z9w P T D N K))=(fun s:St=>Z44 P T D N (fun h=>Z9x P T D N K h) (fun w9_4 h=>K w9_4 h) N (s.1 0) (s.1 1) (s.1 7) (s.1 8) s.2):=funext fun s=>ZmV P T D N (Z9w P T D N K) (fun h=>Z9x P T D N K h) (fun w9_4 h=>K w9_4 h) (fun s=>rfl) (fun s=>rfl) N s
 show Zgb P T D N (fun s=>iterK (fun s k=>Z43 P T D N s.1 s.2 k) N s (Z9w P T D N K)) K a0 a1 h=_
 rw [eL2]
 kernel_rfl
theorem ZmX (T:Tab) (D:DTab) (N:Nat) {β:Type} (K:AV→Hp→Option β) (a0:AV) (a1:AV) (h:Hp):runK Try.prog T D N [0,1,4,5,7,8,9,16] Try.f73 K [a0,a1] h=Zgc Try.prog T D N K a0 a1 h:=by kernel_rfl
theorem ZmY (T:Tab) (D:DTab) (N:Nat) {β:Type} (K:AV→Hp→Option β) (a0:AV) (a1:AV) (h:Hp):runK Try.prog T D N [0,1,4,5,7,8,9,16] Try.f73 K [a0,a1] h=Z5p Try.prog T D N K a0 a1 h:=(ZmX T D N K a0 a1 h).trans (ZmW Try.prog T D N K a0 a1 h)
noncomputable def Z9z (P:Program) (T:Tab) (D:DTab) (N:Nat) {β:Type} (K:AV→Hp→Option β) (a0:AV) (a1:AV) (h:Hp):Option β:=
effK (boxE 7 a0 (List.length h)) h fun x1 h2=>
effK (boxE 7 a1 (List.length h2)) h2 fun x3 h4=>
faK 1 x1 fun x5=>
ldK 1 false x5 h4 fun x6=>
faK 1 x3 fun x7=>
ldK 1 false x7 h4 fun x8=>
buildK [.s (.int .i64 0), .s (.int .i64 0)] [(some (0,1),x6),(some (1,1),x8)] fun x9=>
effK (boxE 2 (.agg [.s (.int .i64 0), .s (.int .i64 0)]) (List.length h4)) h4 fun x10 h11=>
effK (stE 2 x10 x9 h11) h11 fun x12 h13=>
faK 1 x1 fun x14=>
ldK 1 false x14 h13 fun x15=>
eqK P false 3 x15 (.s (.int .i64 1)) h13 fun x16=>
condK x16 (
faK 1 x3 fun x17=>
ldK 1 false x17 h13 fun x18=>
arithK .geq x18 (.s (.int .i64 1)) fun x19=>
grpK true x19 h13 (fun k20=>
faK 1 x3 fun x21=>
ldK 1 false x21 h13 fun x22=>
arithK .leq x22 (.s (.int .i64 4)) fun x23=>
k20 x23 h13) fun x24 h25=>
K x24 h25) (
ldK 2 true x10 h13 fun x26=>
buildK [.s (.int .i64 0), .s (.int .i64 0)] [(some (0,1),(.s (.int .i64 3))),(some (1,1),(.s (.int .i64 3)))] fun x27=>
eqK P false 131 x26 x27 h13 fun x28=>
condK x28 (
K (.s (.bool true)) h13) (
ldK 2 true x10 h13 fun x29=>
buildK [.s (.int .i64 0), .s (.int .i64 0)] [(some (0,1),(.s (.int .i64 3))),(some (1,1),(.s (.int .i64 4)))] fun x30=>
eqK P false 131 x29 x30 h13 fun x31=>
condK x31 (
faK 5 x3 fun x32=>
ldK 1 false x32 h13 fun x33=>
eqK P false 3 x33 (.s (.int .i64 0)) h13 fun x34=>
K x34 h13) (
ldK 2 true x10 h13 fun x35=>
buildK [.s (.int .i64 0), .s (.int .i64 0)] [(some (0,1),(.s (.int .i64 2))),(some (1,1),(.s (.int .i64 2)))] fun x36=>
eqK P false 131 x35 x36 h13 fun x37=>
grpK false x37 h13 (fun k38=>
ldK 2 true x10 h13 fun x39=>
buildK [.s (.int .i64 0), .s (.int .i64 0)] [(some (0,1),(.s (.int .i64 2))),(some (1,1),(.s (.int .i64 4)))] fun x40=>
eqK P false 131 x39 x40 h13 fun x41=>
k38 x41 h13) fun x42 h43=>
grpK false x42 h43 (fun k44=>
ldK 2 true x10 h43 fun x45=>
buildK [.s (.int .i64 0), .s (.int .i64 0)] [(some (0,1),(.s (.int .i64 4))),(some (1,1),(.s (.int .i64 4)))] fun x46=>
eqK P false 131 x45 x46 h43 fun x47=>
k44 x47 h43) fun x48 h49=>
condK x48 (
faK 5 x1 fun x50=>
ldK 1 false x50 h49 fun x51=>
faK 5 x3 fun x52=>
ldK 1 false x52 h49 fun x53=>
eqK P false 3 x51 x53 h49 fun x54=>
K x54 h49) (
K (.s (.bool false)) h49))))
theorem ZmZ (T:Tab) (D:DTab) (N:Nat) {β:Type} (K:AV→Hp→Option β) (a0:AV) (a1:AV) (h:Hp):runK Try.prog T D N [0,1,2,3,4,5,11,23,27,34] Try.f74 K [a0,a1] h=Z9z Try.prog T D N K a0 a1 h:=by kernel_rfl
noncomputable def Z9A (P:Program) (T:Tab) (D:DTab) (N:Nat) {β:Type} (K:AV→Hp→Option β) (a0:AV) (h:Hp):Option β:=
arithK .geq a0 (.s (.int .i64 1)) fun x1=>
grpK true x1 h (fun k2=>
arithK .leq a0 (.s (.int .i64 99)) fun x3=>
k2 x3 h) fun x4 h5=>
K x4 h5
theorem Zn0 (T:Tab) (D:DTab) (N:Nat) {β:Type} (K:AV→Hp→Option β) (a0:AV) (h:Hp):runK Try.prog T D N [0,2] Try.f75 K [a0] h=Z9A Try.prog T D N K a0 h:=by kernel_rfl
noncomputable def Z74 (P:Program) (T:Tab) (D:DTab) (N:Nat) {β:Type} (K:AV→Hp→Option β) (v1:AV) (v3:AV) (v4:AV) (h:Hp):Option β:=
notK v4 fun x47=>
grpK false x47 h (fun k48=>
ldK 7 true v1 h fun x49=>
ldK 7 true v3 h fun x50=>
eqK P true 27 x49 x50 h fun x51=>
k48 x51 h) fun x52 h53=>
condK x52 (
K (.s (.int .i64 1)) h53) (
K (.s (.int .i64 0)) h53)
noncomputable def Z45 (P:Program) (T:Tab) (D:DTab) (N:Nat) {β:Type} (K:AV→Hp→Option β) (v1:AV) (v3:AV) (v4:AV) (h:Hp):Option β:=
Z74 P T D N K v1 v3 v4 h
noncomputable def Z9B (P:Program) (T:Tab) (D:DTab) (N:Nat) {β:Type} (K:AV→Hp→Option β) (a0:AV) (h:Hp):Option β:=
effK (boxE 7 a0 (List.length h)) h fun x1 h2=>
faK 0 x1 fun x3=>
ldK 1 false x3 h2 fun x4=>
arithK .lss x4 (.s (.int .i64 1)) fun x5=>
grpK false x5 h2 (fun k6=>
faK 0 x1 fun x7=>
ldK 1 false x7 h2 fun x8=>
arithK .gtr x8 (.s (.int .i64 1073741824)) fun x9=>
k6 x9 h2) fun x10 h11=>
grpK false x10 h11 (fun k12=>
faK 1 x1 fun x13=>
ldK 1 false x13 h11 fun x14=>
arithK .lss x14 (.s (.int .i64 1)) fun x15=>
k12 x15 h11) fun x16 h17=>
grpK false x16 h17 (fun k18=>
faK 1 x1 fun x19=>
ldK 1 false x19 h17 fun x20=>
arithK .gtr x20 (.s (.int .i64 5)) fun x21=>
k18 x21 h17) fun x22 h23=>
grpK false x22 h23 (fun k24=>
faK 3 x1 fun x25=>
ldK 1 false x25 h23 fun x26=>
arithK .lss x26 (.s (.int .i64 0)) fun x27=>
k24 x27 h23) fun x28 h29=>
grpK false x28 h29 (fun k30=>
faK 3 x1 fun x31=>
ldK 1 false x31 h29 fun x32=>
arithK .gtr x32 (.s (.int .i64 100000)) fun x33=>
k30 x33 h29) fun x34 h35=>
condK x34 (
K (.s (.int .i64 2)) h35) (
faK 0 x1 fun x36=>
ldK 1 false x36 h35 fun x37=>
faK 1 x1 fun x38=>
ldK 1 false x38 h35 fun x39=>
faK 3 x1 fun x40=>
ldK 1 false x40 h35 fun x41=>
buildK [.s (.int .i64 0), .s (.int .i64 0), .s (.int .i64 0), .s (.int .i64 0), .s (.int .i64 0), .s (.int .i64 0), .s (.int .i64 0)] [(some (0,1),x37),(some (1,1),x39),(some (3,1),x41)] fun x42=>
effK (boxE 7 (.agg [.s (.int .i64 0), .s (.int .i64 0), .s (.int .i64 0), .s (.int .i64 0), .s (.int .i64 0), .s (.int .i64 0), .s (.int .i64 0)]) (List.length h35)) h35 fun x43 h44=>
effK (stE 7 x43 x42 h44) h44 fun x45 h46=>
faK 1 x1 fun x54=>
ldK 1 false x54 h46 fun x55=>
eqK P false 3 x55 (.s (.int .i64 1)) h46 fun x56=>
condK x56 (
faK 4 x1 fun x57=>
ldK 1 false x57 h46 fun x58=>
faK 5 x1 fun x59=>
ldK 1 false x59 h46 fun x60=>
faK 6 x1 fun x61=>
ldK 1 false x61 h46 fun x62=>
faK 4 x43 fun x63=>
effD (stE 1 x63 x58 h46) h46 fun x64 h65 e66=>
faK 5 x43 fun x67=>
effD (stE 1 x67 x60 h65) h65 fun x68 h69 e70=>
faK 6 x43 fun x71=>
effD (stE 1 x71 x62 h69) h69 fun x72 h73 e74=>
bif disjAll [(3,7),(5,7),(5,9)] [([],[]),((idsOf x57),[]),([],[]),((idsOf x59),[]),([],[]),((idsOf x61),[]),([],[]),e66,([],[]),e70,([],[]),e74] then (
faK 4 x1 fun x75=>
ldK 1 false x75 h73 fun x76=>
callK (T 96) [x76] h73 fun x77 h78=>
grpK true x77 h78 (fun k79=>
faK 5 x1 fun x80=>
ldK 1 false x80 h78 fun x81=>
callK (T 96) [x81] h78 fun x82 h83=>
k79 x82 h83) fun x84 h85=>
grpK true x84 h85 (fun k86=>
faK 4 x1 fun x87=>
ldK 1 false x87 h85 fun x88=>
faK 5 x1 fun x89=>
ldK 1 false x89 h85 fun x90=>
eqK P true 3 x88 x90 h85 fun x91=>
k86 x91 h85) fun x92 h93=>
grpK true x92 h93 (fun k94=>
faK 6 x1 fun x95=>
ldK 1 false x95 h93 fun x96=>
arithK .geq x96 (.s (.int .i64 1)) fun x97=>
k94 x97 h93) fun x98 h99=>
grpK true x98 h99 (fun k100=>
faK 6 x1 fun x101=>
ldK 1 false x101 h99 fun x102=>
arithK .leq x102 (.s (.int .i64 10737418240000)) fun x103=>
k100 x103 h99) fun x104 h105=>
Z45 P T D N K x1 x43 x104 h105) else none) (
eqK P false 3 x55 (.s (.int .i64 2)) h46 fun x106=>
condK x106 (
faK 2 x1 fun x107=>
ldK 1 false x107 h46 fun x108=>
faK 5 x1 fun x109=>
ldK 1 false x109 h46 fun x110=>
faK 2 x43 fun x111=>
effD (stE 1 x111 x108 h46) h46 fun x112 h113 e114=>
faK 5 x43 fun x115=>
effD (stE 1 x115 x110 h113) h113 fun x116 h117 e118=>
bif disjAll [(3,5)] [([],[]),((idsOf x107),[]),([],[]),((idsOf x109),[]),([],[]),e114,([],[]),e118] then (
faK 2 x1 fun x119=>
ldK 1 false x119 h117 fun x120=>
arithK .geq x120 (.s (.int .i64 1)) fun x121=>
grpK true x121 h117 (fun k122=>
faK 2 x1 fun x123=>
ldK 1 false x123 h117 fun x124=>
arithK .leq x124 (.s (.int .i64 64)) fun x125=>
k122 x125 h117) fun x126 h127=>
grpK true x126 h127 (fun k128=>
faK 5 x1 fun x129=>
ldK 1 false x129 h127 fun x130=>
callK (T 96) [x130] h127 fun x131 h132=>
k128 x131 h132) fun x133 h134=>
Z45 P T D N K x1 x43 x133 h134) else none) (
eqK P false 3 x55 (.s (.int .i64 3)) h46 fun x135=>
condK x135 (
faK 6 x1 fun x136=>
ldK 1 false x136 h46 fun x137=>
faK 6 x43 fun x138=>
effK (stE 1 x138 x137 h46) h46 fun x139 h140=>
faK 6 x1 fun x141=>
ldK 1 false x141 h140 fun x142=>
arithK .geq x142 (.s (.int .i64 0)) fun x143=>
grpK true x143 h140 (fun k144=>
faK 6 x1 fun x145=>
ldK 1 false x145 h140 fun x146=>
arithK .leq x146 (.s (.int .i64 10737418240000)) fun x147=>
k144 x147 h140) fun x148 h149=>
Z45 P T D N K x1 x43 x148 h149) (
Z45 P T D N K x1 x43 (.s (.bool true)) h46))))
theorem Zn1 (T:Tab) (D:DTab) (N:Nat) {β:Type} (K:AV→Hp→Option β) (a0:AV) (h:Hp):runK Try.prog T D N [0,1,2,3,4,32,41,42,78,99,118] Try.f76 K [a0] h=Z9B Try.prog T D N K a0 h:=by kernel_rfl
noncomputable def Z75 (P:Program) (T:Tab) (D:DTab) (N:Nat) {β:Type} (K:AV→Hp→Option β) (a0:AV) (h:Hp):Option β:=
effK (boxE 3 a0 (List.length h)) h fun x1 h2=>
effK (boxE 3 (.agg [.s (.int .i64 0), .s (.int .i64 0), .s (.slice none 0 0)]) (List.length h2)) h2 fun x3 h4=>
faK 2 x1 fun x5=>
ldK 1 false x5 h4 fun x6=>
callK (T 66) [x6] h4 fun x7 h8=>
faK 2 x1 fun x9=>
effK (stE 1 x9 x7 h8) h8 fun x10 h11=>
ldK 3 true x1 h11 fun x12=>
effK (stE 3 x3 x12 h11) h11 fun x13 h14=>
ldK 3 true x3 h14 fun r15=>
K r15 h14
theorem Zn2 (T:Tab) (D:DTab) (N:Nat) {β:Type} (K:AV→Hp→Option β) (a0:AV) (h:Hp):runK Try.prog T D N [0,1,2] Try.f77 K [a0] h=Z75 Try.prog T D N K a0 h:=by kernel_rfl
noncomputable def Zgd (P:Program) (T:Tab) (D:DTab) (N:Nat) {β:Type} (K:AV→Hp→Option β) (t:Tm) (h:Hp):Option β:=
arithK .lss (t 9) (t 8) fun x4=>
grpK true x4 h (fun k5=>
iaK 2 (t 0) (t 9) fun x6=>
ldK 2 true x6 h fun x7=>
ldK 2 true (t 4) h fun x8=>
callVK T (t 2) [x7,x8] h fun x9 h10=>
eqK P false 3 x9 (.s (.int .i64 0)) h10 fun x11=>
k5 x11 h10) fun x12 h13=>
K (.tup [(t 9),x12]) h13
noncomputable def Zge (P:Program) (T:Tab) (D:DTab) (N:Nat) {β:Type} (k:Ex→St→Option β) (t:Tm) (h:Hp):Option β:=
k .normal (t,h)
noncomputable def Z46 (P:Program) (T:Tab) (D:DTab) (N:Nat) {β:Type} (t:Tm) (h:Hp) (k:Ex→St→Option β):Option β:=
arithK .lss (t 9) (t 10) fun x14=>
condK x14 (
arithK .add (t 9) (t 10) fun x15=>
convK P 3 132 x15 fun x16=>
reckK P .shr 132 x16 (.s (.int .u64 1)) fun x17=>
convK P 132 3 x17 fun x18=>
iaK 2 (t 0) x18 fun x19=>
ldK 2 true x19 h fun x20=>
ldK 2 true (t 4) h fun x21=>
callVK T (t 2) [x20,x21] h fun x22 h23=>
arithK .lss x22 (.s (.int .i64 0)) fun x24=>
condK x24 (
arithK .add x18 (.s (.int .i64 1)) fun x25=>
(Zge P T D N k (upd (upd (upd (upd t 17 x14) 11 x18) 31 x24) 9 x25) h23)) (
(Zge P T D N k (upd (upd (upd (upd t 17 x14) 11 x18) 31 x24) 10 x18) h23))) (
k (.exit 0) ((upd t 17 x14),h))
noncomputable def Z9C (P:Program) (T:Tab) (D:DTab) (N:Nat) {β:Type} (K:AV→Hp→Option β) (e:Ex) (s:St):Option β:=
 e.on ((Zgd P T D N K s.1 s.2))
 (fun i=>bif i==0 then ((Zgd P T D N K s.1 s.2)) else (none))
 (K (.tup [(s.1 6),(s.1 7)]) s.2)
noncomputable def Zgf (P:Program) (T:Tab) (D:DTab) (N:Nat) {β:Type} (cL2:St→Option β) (K:AV→Hp→Option β) (a0:AV) (a1:AV) (a2:AV) (h:Hp) :  Option β:=
effK (boxE 2 a1 (List.length h)) h fun x1 h2=>
lenK a0 fun x3=>
cL2 ((upd (upd (upd (upd (upd (upd (tm0 [a0,a1,a2]) 4 x1) 6 (.s (.int .i64 0))) 7 (.s (.bool false))) 8 x3) 9 (.s (.int .i64 0))) 10 x3),h2)
noncomputable def Zgg (P:Program) (T:Tab) (D:DTab) (N:Nat) {β:Type} (K:AV→Hp→Option β) (a0:AV) (a1:AV) (a2:AV) (h:Hp):Option β:=Zgf P T D N (fun s=>iterK (fun s k=>Z46 P T D N s.1 s.2 k) N s (Z9C P T D N K)) K a0 a1 a2 h
noncomputable def Z5q (P:Program) (T:Tab) (D:DTab) (N:Nat) {β:Type} (K:AV→Hp→Option β) (v0:AV) (v2:AV) (v4:AV) (v8:AV) (v9:AV) (h:Hp):Option β:=
arithK .lss v9 v8 fun x4=>
grpK true x4 h (fun k5=>
iaK 2 v0 v9 fun x6=>
ldK 2 true x6 h fun x7=>
ldK 2 true v4 h fun x8=>
callVK T v2 [x7,x8] h fun x9 h10=>
eqK P false 3 x9 (.s (.int .i64 0)) h10 fun x11=>
k5 x11 h10) fun x12 h13=>
K (.tup [v9,x12]) h13
noncomputable def ZcF (P:Program) (T:Tab) (D:DTab) (N:Nat) {β:Type} (xn:AV→AV→AV→AV→AV→AV→Hp→Option β) (x0:AV→AV→AV→AV→AV→Hp→Option β) (v0:AV) (v2:AV) (v4:AV) (v8:AV) (v9:AV) (v10:AV) (h:Hp):Option β:=
xn v0 v2 v4 v8 v9 v10 h
noncomputable def Z76 (P:Program) (T:Tab) (D:DTab) (N:Nat) {β:Type} (xn:AV→AV→AV→AV→AV→AV→Hp→Option β) (x0:AV→AV→AV→AV→AV→Hp→Option β) (v0:AV) (v2:AV) (v4:AV) (v8:AV) (v9:AV) (v10:AV) (h:Hp):Option β:=
arithK .lss v9 v10 fun x14=>
condK x14 (
arithK .add v9 v10 fun x15=>
convK P 3 132 x15 fun x16=>
reckK P .shr 132 x16 (.s (.int .u64 1)) fun x17=>
convK P 132 3 x17 fun x18=>
iaK 2 v0 x18 fun x19=>
ldK 2 true x19 h fun x20=>
ldK 2 true v4 h fun x21=>
callVK T v2 [x20,x21] h fun x22 h23=>
arithK .lss x22 (.s (.int .i64 0)) fun x24=>
condK x24 (
arithK .add x18 (.s (.int .i64 1)) fun x25=>
ZcF P T D N xn x0 v0 v2 v4 v8 x25 v10 h23) (
ZcF P T D N xn x0 v0 v2 v4 v8 v9 x18 h23)) (
x0 v0 v2 v4 v8 v9 h)
noncomputable def Z47 (P:Program) (T:Tab) (D:DTab) (N:Nat) {β:Type} (x0:AV→AV→AV→AV→AV→Hp→Option β):Nat→AV→AV→AV→AV→AV→AV→Hp→Option β
 | 0=>fun _ _ _ _ _ _ _=>none
 | n+1=>fun v0 v2 v4 v8 v9 v10 h=>Z76 P T D N (Z47 P T D N x0 n) x0 v0 v2 v4 v8 v9 v10 h
noncomputable def Z5r (P:Program) (T:Tab) (D:DTab) (N:Nat) {β:Type} (K:AV→Hp→Option β) (a0:AV) (a1:AV) (a2:AV) (h:Hp):Option β:=
effK (boxE 2 a1 (List.length h)) h fun x1 h2=>
lenK a0 fun x3=>
Z47 P T D N (fun w26_0 w26_2 w26_4 w26_8 w26_9 h=>Z5q P T D N K w26_0 w26_2 w26_4 w26_8 w26_9 h) N a0 a2 x1 x3 (.s (.int .i64 0)) x3 h2
theorem Zn3 (P:Program) (T:Tab) (D:DTab) (N:Nat) {β:Type} (xn:AV→AV→AV→AV→AV→AV→Hp→Option β) (x0:AV→AV→AV→AV→AV→Hp→Option β) (xd:Nat→St→Option β) (xq:St→Option β) (t:Tm) (h:Hp):Z46 P T D N t h (fun (e:Ex) (s:St)=>e.on (xn (s.1 0) (s.1 2) (s.1 4) (s.1 8) (s.1 9) (s.1 10) s.2) (fun i=>(bif i==0 then x0 (s.1 0) (s.1 2) (s.1 4) (s.1 8) (s.1 9) s.2 else (xd i s))) (xq s))=Z76 P T D N xn x0 (t 0) (t 2) (t 4) (t 8) (t 9) (t 10) h:=by kernel_rfl
theorem Zn4 (P:Program) (T:Tab) (D:DTab) (N:Nat) {β:Type} (A:Ex→St→Option β) (x0:AV→AV→AV→AV→AV→Hp→Option β) (q0:∀s,A (.exit 0) s=x0 (s.1 0) (s.1 2) (s.1 4) (s.1 8) (s.1 9) s.2):∀(n:Nat) (s:St),iterK (fun s k=>Z46 P T D N s.1 s.2 k) n s A=Z47 P T D N x0 n (s.1 0) (s.1 2) (s.1 4) (s.1 8) (s.1 9) (s.1 10) s.2:=by
 intro n
 induction n with
 | zero=>intro s;rfl
 | succ n ih=>
  intro s
  have hk:(fun (e:Ex) (s':St)=>Ex.on e (iterK (fun s k=>Z46 P T D N s.1 s.2 k) n s' A) (fun i=>A (.exit i) s') (A .ret s'))=(fun (e:Ex) (s:St)=>e.on ((Z47 P T D N x0 n) (s.1 0) (s.1 2) (s.1 4) (s.1 8) (s.1 9) (s.1 10) s.2) (fun i=>(bif i==0 then x0 (s.1 0) (s.1 2) (s.1 4) (s.1 8) (s.1 9) s.2 else (A (.exit i) s))) (A .ret s)):=by
   funext e s'
   cases e with
   | normal=>exact ih s'
   | ret=>exact rfl
   | exit i=>
    by_cases r0:i=0
    ·subst r0;exact q0 s'
    simp only [Ex.on,beq_false_of_ne r0,cond_false]
  show Z46 P T D N s.1 s.2 (fun (e:Ex) (s':St)=>Ex.on e (iterK (fun s k=>Z46 P T D N s.1 s.2 k) n s' A) (fun i=>A (.exit i) s') (A .ret s'))=_
  rw [hk]
  exact Zn3 P T D N (Z47 P T D N x0 n) x0 (fun i s=>A (.exit i) s) (fun s=>A .ret s) s.1 s.2
theorem Zn5 (P:Program) (T:Tab) (D:DTab) (N:Nat) {β:Type} (K:AV→Hp→Option β) (a0:AV) (a1:AV) (a2:AV) (h:Hp):Zgg P T D N K a0 a1 a2 h=Z5r P T D N K a0 a1 a2 h:=by
 have eL2:(fun s:St=>iterK (fun s k=>Z46 P T D N s.1 s.2 k) N s (Z9C P T D N K))=(fun s:St=>Z47 P T D N (fun w26_0 w26_2 w26_4 w26_8 w26_9 h=>Z5q P T D N K w26_0 w26_2 w26_4 w26_8 w26_9 h) N (s.1 0) (s.1 2) (s.1 4) (s.1 8) (s.1 9) (s.1 10) s.2):=funext fun s=>Zn4 P T D N (Z9C P T D N K) (fun w26_0 w26_2 w26_4 w26_8 w26_9 h=>Z5q P T D N K w26_0 w26_2 w26_4 w26_8 w26_9 h) (fun s=>rfl) N s
 show Zgf P T D N (fun s=>iterK (fun s k=>Z46 P T D N s.1 s.2 k) N s (Z9C P T D N K)) K a0 a1 a2 h=_
 rw [eL2]
 kernel_rfl
theorem Zn6 (T:Tab) (D:DTab) (N:Nat) {β:Type} (K:AV→Hp→Option β) (a0:AV) (a1:AV) (a2:AV) (h:Hp):runK Try.prog T D N [0,1,2,4,6,7,8,9,10,11,17,31] Try.f78 K [a0,a1,a2] h=Zgg Try.prog T D N K a0 a1 a2 h:=by kernel_rfl
theorem Zn7 (T:Tab) (D:DTab) (N:Nat) {β:Type} (K:AV→Hp→Option β) (a0:AV) (a1:AV) (a2:AV) (h:Hp):runK Try.prog T D N [0,1,2,4,6,7,8,9,10,11,17,31] Try.f78 K [a0,a1,a2] h=Z5r Try.prog T D N K a0 a1 a2 h:=(Zn6 T D N K a0 a1 a2 h).trans (Zn5 Try.prog T D N K a0 a1 a2 h)
noncomputable def Zgh (P:Program) (T:Tab) (D:DTab) (N:Nat) {β:Type} (K:AV→Hp→Option β) (t:Tm) (h:Hp):Option β:=
K (t 3) h
noncomputable def Z48 (P:Program) (T:Tab) (D:DTab) (N:Nat) {β:Type} (t:Tm) (h:Hp) (k:Ex→St→Option β):Option β:=
arithK .lss (t 8) (t 7) fun x2=>
condK x2 (
iaK 1 (t 6) (t 8) fun x3=>
ldK 1 false x3 h fun x4=>
eqK P true 3 x4 (t 3) h fun x5=>
condK x5 (
k .ret ((upd (upd (upd (upd t 9 x2) 5 x4) 14 x5) 2 x4),h)) (
arithK .add (t 8) (.s (.int .i64 1)) fun x6=>
k .normal ((upd (upd (upd (upd t 9 x2) 5 x4) 14 x5) 8 x6),h))) (
k (.exit 0) ((upd t 9 x2),h))
noncomputable def Z9D (P:Program) (T:Tab) (D:DTab) (N:Nat) {β:Type} (K:AV→Hp→Option β) (e:Ex) (s:St):Option β:=
 e.on ((Zgh P T D N K s.1 s.2))
 (fun i=>bif i==0 then ((Zgh P T D N K s.1 s.2)) else (none))
 (K (s.1 2) s.2)
noncomputable def Zgi (P:Program) (T:Tab) (D:DTab) (N:Nat) {β:Type} (cL2:St→Option β) (K:AV→Hp→Option β) (a0:AV) (h:Hp) :  Option β:=
lenK a0 fun x1=>
cL2 ((upd (upd (upd (upd (upd (tm0 [a0]) 2 (.s (.int .i64 0))) 3 (.s (.int .i64 0))) 6 a0) 7 x1) 8 (.s (.int .i64 0))),h)
noncomputable def Zgj (P:Program) (T:Tab) (D:DTab) (N:Nat) {β:Type} (K:AV→Hp→Option β) (a0:AV) (h:Hp):Option β:=Zgi P T D N (fun s=>iterK (fun s k=>Z48 P T D N s.1 s.2 k) N s (Z9D P T D N K)) K a0 h
noncomputable def Z9E (P:Program) (T:Tab) (D:DTab) (N:Nat) {β:Type} (K:AV→Hp→Option β) (v3:AV) (h:Hp):Option β:=
K v3 h
noncomputable def Z5s (P:Program) (T:Tab) (D:DTab) (N:Nat) {β:Type} (xn:AV→AV→AV→AV→Hp→Option β) (x0:AV→Hp→Option β) (xr:AV→Hp→Option β) (v3:AV) (v6:AV) (v7:AV) (v8:AV) (h:Hp):Option β:=
arithK .lss v8 v7 fun x2=>
condK x2 (
iaK 1 v6 v8 fun x3=>
ldK 1 false x3 h fun x4=>
eqK P true 3 x4 v3 h fun x5=>
condK x5 (
xr x4 h) (
arithK .add v8 (.s (.int .i64 1)) fun x6=>
xn v3 v6 v7 x6 h)) (
x0 v3 h)
noncomputable def Z49 (P:Program) (T:Tab) (D:DTab) (N:Nat) {β:Type} (x0:AV→Hp→Option β) (xr:AV→Hp→Option β):Nat→AV→AV→AV→AV→Hp→Option β
 | 0=>fun _ _ _ _ _=>none
 | n+1=>fun v3 v6 v7 v8 h=>Z5s P T D N (Z49 P T D N x0 xr n) x0 xr v3 v6 v7 v8 h
noncomputable def Z77 (P:Program) (T:Tab) (D:DTab) (N:Nat) {β:Type} (K:AV→Hp→Option β) (a0:AV) (h:Hp):Option β:=
lenK a0 fun x1=>
Z49 P T D N (fun w7_3 h=>Z9E P T D N K w7_3 h) (fun w8_2 h=>K w8_2 h) N (.s (.int .i64 0)) a0 x1 (.s (.int .i64 0)) h
theorem Zn8 (P:Program) (T:Tab) (D:DTab) (N:Nat) {β:Type} (xn:AV→AV→AV→AV→Hp→Option β) (x0:AV→Hp→Option β) (xr:AV→Hp→Option β) (xd:Nat→St→Option β) (xq:St→Option β) (t:Tm) (h:Hp):Z48 P T D N t h (fun (e:Ex) (s:St)=>e.on (xn (s.1 3) (s.1 6) (s.1 7) (s.1 8) s.2) (fun i=>(bif i==0 then x0 (s.1 3) s.2 else (xd i s))) (xr (s.1 2) s.2))=Z5s P T D N xn x0 xr (t 3) (t 6) (t 7) (t 8) h:=by kernel_rfl
theorem Zn9 (P:Program) (T:Tab) (D:DTab) (N:Nat) {β:Type} (A:Ex→St→Option β) (x0:AV→Hp→Option β) (xr:AV→Hp→Option β) (q0:∀s,A (.exit 0) s=x0 (s.1 3) s.2) (qr:∀s,A .ret s=xr (s.1 2) s.2):∀(n:Nat) (s:St),iterK (fun s k=>Z48 P T D N s.1 s.2 k) n s A=Z49 P T D N x0 xr n (s.1 3) (s.1 6) (s.1 7) (s.1 8) s.2:=by
 intro n
 induction n with
 | zero=>intro s;rfl
 | succ n ih=>
  intro s
  have hk:(fun (e:Ex) (s':St)=>Ex.on e (iterK (fun s k=>Z48 P T D N s.1 s.2 k) n s' A) (fun i=>A (.exit i) s') (A .ret s'))=(fun (e:Ex) (s:St)=>e.on ((Z49 P T D N x0 xr n) (s.1 3) (s.1 6) (s.1 7) (s.1 8) s.2) (fun i=>(bif i==0 then x0 (s.1 3) s.2 else (A (.exit i) s))) (xr (s.1 2) s.2)):=by
   funext e s'
   cases e with
   | normal=>exact ih s'
   | ret=>exact qr s'
   | exit i=>
    by_cases r0:i=0
    ·subst r0;exact q0 s'
    simp only [Ex.on,beq_false_of_ne r0,cond_false]
  show Z48 P T D N s.1 s.2 (fun (e:Ex) (s':St)=>Ex.on e (iterK (fun s k=>Z48 P T D N s.1 s.2 k) n s' A) (fun i=>A (.exit i) s') (A .ret s'))=_
  rw [hk]
  exact Zn8 P T D N (Z49 P T D N x0 xr n) x0 xr (fun i s=>A (.exit i) s) (fun s=>A .ret s) s.1 s.2
theorem Zna (P:Program) (T:Tab) (D:DTab) (N:Nat) {β:Type} (K:AV→Hp→Option β) (a0:AV) (h:Hp):Zgj P T D N K a0 h=Z77 P T D N K a0 h:=by
 have eL2:(fun s:St=>iterK (fun s k=>Z48 P T D N s.1 s.2 k) N s (Z9D P T D N K))=(fun s:St=>Z49 P T D N (fun w7_3 h=>Z9E P T D N K w7_3 h) (fun w8_2 h=>K w8_2 h) N (s.1 3) (s.1 6) (s.1 7) (s.1 8) s.2):=funext fun s=>Zn9 P T D N (Z9D P T D N K) (fun w7_3 h=>Z9E P T D N K w7_3 h) (fun w8_2 h=>K w8_2 h) (fun s=>rfl) (fun s=>rfl) N s
 show Zgi P T D N (fun s=>iterK (fun s k=>Z48 P T D N s.1 s.2 k) N s (Z9D P T D N K)) K a0 h=_
 rw [eL2]
 kernel_rfl
theorem Znb (T:Tab) (D:DTab) (N:Nat) {β:Type} (K:AV→Hp→Option β) (a0:AV) (h:Hp):runK Try.prog T D N [0,2,3,5,6,7,8,9,14] Try.f80 K [a0] h=Zgj Try.prog T D N K a0 h:=by kernel_rfl
theorem Znc (T:Tab) (D:DTab) (N:Nat) {β:Type} (K:AV→Hp→Option β) (a0:AV) (h:Hp):runK Try.prog T D N [0,2,3,5,6,7,8,9,14] Try.f80 K [a0] h=Z77 Try.prog T D N K a0 h:=(Znb T D N K a0 h).trans (Zna Try.prog T D N K a0 h)
noncomputable def Z78 (P:Program) (T:Tab) (D:DTab) (N:Nat) {β:Type} (K:AV→Hp→Option β) (a0:AV) (a1:AV) (h:Hp):Option β:=
callK (T 99) [a0] h fun x1 h2=>
callK (T 99) [a1] h2 fun x3 h4=>
condK x1 (
condK x3 (
K (.s (.int .i64 0)) h4) (
K (.s (.int .i64 (-1))) h4)) (
condK x3 (
K (.s (.int .i64 1)) h4) (
arithK .lss a0 a1 fun x5=>
condK x5 (
K (.s (.int .i64 (-1))) h4) (
arithK .gtr a0 a1 fun x6=>
condK x6 (
K (.s (.int .i64 1)) h4) (
K (.s (.int .i64 0)) h4))))
theorem Znd (T:Tab) (D:DTab) (N:Nat) {β:Type} (K:AV→Hp→Option β) (a0:AV) (a1:AV) (h:Hp):runK Try.prog T D N [0,1,4,5,6,11,12,13,16,19] Try.f81 K [a0,a1] h=Z78 Try.prog T D N K a0 a1 h:=by kernel_rfl
noncomputable def Z9F (P:Program) (T:Tab) (D:DTab) (N:Nat) {β:Type} (K:AV→Hp→Option β) (a0:AV) (h:Hp):Option β:=
effK (boxE 7 a0 (List.length h)) h fun x1 h2=>
ldK 7 true x1 h2 fun x3=>
callK (T 76) [x3] h2 fun x4 h5=>
eqK P true 32 x4 (.s (.int .i64 0)) h5 fun x6=>
K x6 h5
theorem Zne (T:Tab) (D:DTab) (N:Nat) {β:Type} (K:AV→Hp→Option β) (a0:AV) (h:Hp):runK Try.prog T D N [0,1,2] Try.f82 K [a0] h=Z9F Try.prog T D N K a0 h:=by kernel_rfl
noncomputable def Z9G (P:Program) (T:Tab) (D:DTab) (N:Nat) {β:Type} (K:AV→Hp→Option β) (a0:AV) (a1:AV) (h:Hp):Option β:=
effK (boxE 7 a0 (List.length h)) h fun x1 h2=>
effK (boxE 7 a1 (List.length h2)) h2 fun x3 h4=>
faK 0 x1 fun x5=>
ldK 1 false x5 h4 fun x6=>
faK 0 x3 fun x7=>
ldK 1 false x7 h4 fun x8=>
effD (callE (D 81) [x6,x8] h4 (List.length h4)) h4 fun x9 h10 e11=>
faK 1 x1 fun x12=>
ldK 1 false x12 h10 fun x13=>
faK 1 x3 fun x14=>
ldK 1 false x14 h10 fun x15=>
effD (callE (D 81) [x13,x15] h10 (List.length h10)) h10 fun x16 h17 e18=>
faK 2 x1 fun x19=>
ldK 1 false x19 h17 fun x20=>
faK 2 x3 fun x21=>
ldK 1 false x21 h17 fun x22=>
effD (callE (D 81) [x20,x22] h17 (List.length h17)) h17 fun x23 h24 e25=>
faK 3 x1 fun x26=>
ldK 1 false x26 h24 fun x27=>
faK 3 x3 fun x28=>
ldK 1 false x28 h24 fun x29=>
effD (callE (D 81) [x27,x29] h24 (List.length h24)) h24 fun x30 h31 e32=>
faK 4 x1 fun x33=>
ldK 1 false x33 h31 fun x34=>
faK 4 x3 fun x35=>
ldK 1 false x35 h31 fun x36=>
effD (callE (D 81) [x34,x36] h31 (List.length h31)) h31 fun x37 h38 e39=>
faK 5 x1 fun x40=>
ldK 1 false x40 h38 fun x41=>
faK 5 x3 fun x42=>
ldK 1 false x42 h38 fun x43=>
effD (callE (D 81) [x41,x43] h38 (List.length h38)) h38 fun x44 h45 e46=>
faK 6 x1 fun x47=>
ldK 1 false x47 h45 fun x48=>
faK 6 x3 fun x49=>
ldK 1 false x49 h45 fun x50=>
effD (callE (D 81) [x48,x50] h45 (List.length h45)) h45 fun x51 h52 e53=>
effD (bsE 1 [.s (.int .i64 0)] 7 [(0,x9),(1,x16),(2,x23),(3,x30),(4,x37),(5,x44),(6,x51)] (List.length h52)) h52 fun x54 h55 e56=>
effD (callE (D 80) [x54] h55 (List.length h55)) h55 fun x57 h58 e59=>
bif disjAll [(4,6),(4,8),(4,11),(9,11),(4,13),(9,13),(4,16),(9,16),(14,16),(4,18),(9,18),(14,18),(4,21),(9,21),(14,21),(19,21),(4,23),(9,23),(14,23),(19,23),(4,26),(9,26),(14,26),(19,26),(24,26),(4,28),(9,28),(14,28),(19,28),(24,28),(4,31),(9,31),(14,31),(19,31),(24,31),(29,31),(4,33),(9,33),(14,33),(19,33),(24,33),(29,33)] [([],[]),((idsOf x5),[]),([],[]),((idsOf x7),[]),e11,([],[]),((idsOf x12),[]),([],[]),((idsOf x14),[]),e18,([],[]),((idsOf x19),[]),([],[]),((idsOf x21),[]),e25,([],[]),((idsOf x26),[]),([],[]),((idsOf x28),[]),e32,([],[]),((idsOf x33),[]),([],[]),((idsOf x35),[]),e39,([],[]),((idsOf x40),[]),([],[]),((idsOf x42),[]),e46,([],[]),((idsOf x47),[]),([],[]),((idsOf x49),[]),e53,e56,e59,([],[])] then (
K x57 h58) else none
theorem Znf (T:Tab) (D:DTab) (N:Nat) {β:Type} (K:AV→Hp→Option β) (a0:AV) (a1:AV) (h:Hp):runK Try.prog T D N [0,1,2,3,4] Try.f84 K [a0,a1] h=Z9G Try.prog T D N K a0 a1 h:=by kernel_rfl
noncomputable def Zgk (P:Program) (T:Tab) (D:DTab) (N:Nat) {β:Type} (K:AV→Hp→Option β) (t:Tm) (h:Hp):Option β:=
K (t 0) h
noncomputable def Z79 (P:Program) (T:Tab) (D:DTab) (N:Nat) {β:Type} (k:Ex→St→Option β) (t:Tm) (h:Hp):Option β:=
arithK .add (t 3) (.s (.int .i64 1)) fun x5=>
k .normal ((upd t 3 x5),h)
noncomputable def Zgl (P:Program) (T:Tab) (D:DTab) (N:Nat) {β:Type} (k:Ex→St→Option β) (t:Tm) (h:Hp):Option β:=
sliceK 7 (t 0) (some (t 3)) none none fun x13=>
effK (clrE 7 [.s (.int .i64 0), .s (.int .i64 0), .s (.int .i64 0), .s (.int .i64 0), .s (.int .i64 0), .s (.int .i64 0), .s (.int .i64 0)] x13 h) h fun x14 h15=>
sliceK 7 (t 0) none (some (t 3)) none fun x16=>
k .ret ((upd t 2 x16),h15)
noncomputable def Zng (P:Program) (T:Tab) (D:DTab) (N:Nat) {β:Type} (k:Ex→St→Option β) (t:Tm) (h:Hp):Option β:=
arithK .add (t 5) (.s (.int .i64 1)) fun x19=>
k .normal ((upd t 5 x19),h)
noncomputable def Zgm (P:Program) (T:Tab) (D:DTab) (N:Nat) {β:Type} (k:Ex→St→Option β) (t:Tm) (h:Hp):Option β:=
(Zng P T D N k t h)
noncomputable def Z4a (P:Program) (T:Tab) (D:DTab) (N:Nat) {β:Type} (t:Tm) (h:Hp) (k:Ex→St→Option β):Option β:=
lenK (t 4) fun x17=>
arithK .lss (t 5) x17 fun x18=>
condK x18 (
iaK 7 (t 4) (t 5) fun x20=>
ldK 7 true x20 h fun x21=>
arithK .sub (t 5) (.s (.int .i64 1)) fun x22=>
iaK 7 (t 4) x22 fun x23=>
ldK 7 true x23 h fun x24=>
eqK P true 27 x21 x24 h fun x25=>
condK x25 (
iaK 7 (t 4) (t 5) fun x26=>
ldK 7 true x26 h fun x27=>
iaK 7 (t 0) (t 3) fun x28=>
effK (stE 7 x28 x27 h) h fun x29 h30=>
arithK .add (t 3) (.s (.int .i64 1)) fun x31=>
(Zgm P T D N k (upd (upd (upd t 32 x18) 44 x25) 3 x31) h30)) (
(Zgm P T D N k (upd (upd t 32 x18) 44 x25) h))) (
k (.exit 2) ((upd t 32 x18),h))
noncomputable def Z9H (P:Program) (T:Tab) (D:DTab) (N:Nat) {β:Type} (k:Ex→St→Option β) (e:Ex) (s:St):Option β:=
 e.on ((Zgl P T D N k s.1 s.2))
 (fun i=>bif i==2 then ((Zgl P T D N k s.1 s.2)) else (bif i==1 then ((Z79 P T D N k s.1 s.2)) else (k (.exit i) (s.1,s.2))))
 (k .ret (s.1,s.2))
noncomputable def Zgn (P:Program) (T:Tab) (D:DTab) (N:Nat) {β:Type} (cL5:St→Option β) (cj3:St→Option β) (t:Tm) (h:Hp) (k:Ex→St→Option β) :  Option β:=
lenK (t 0) fun x3=>
arithK .lss (t 3) x3 fun x4=>
condK x4 (
iaK 7 (t 0) (t 3) fun x6=>
ldK 7 true x6 h fun x7=>
arithK .sub (t 3) (.s (.int .i64 1)) fun x8=>
iaK 7 (t 0) x8 fun x9=>
ldK 7 true x9 h fun x10=>
eqK P false 27 x7 x10 h fun x11=>
condK x11 (
sliceK 7 (t 0) (some (t 3)) none none fun x12=>
cL5 ((upd (upd (upd (upd t 13 x4) 25 x11) 4 x12) 5 (.s (.int .i64 1))),h)) (
cj3 ((upd (upd t 13 x4) 25 x11),h))) (
k (.exit 0) ((upd t 13 x4),h))
noncomputable def Z4b (P:Program) (T:Tab) (D:DTab) (N:Nat) {β:Type} (t:Tm) (h:Hp) (k:Ex→St→Option β):Option β:=Zgn P T D N (fun s=>iterK (fun s k=>Z4a P T D N s.1 s.2 k) N s (Z9H P T D N k)) (fun s=>(Z79 P T D N k s.1 s.2)) t h k
noncomputable def Z9I (P:Program) (T:Tab) (D:DTab) (N:Nat) {β:Type} (K:AV→Hp→Option β) (e:Ex) (s:St):Option β:=
 e.on ((Zgk P T D N K s.1 s.2))
 (fun i=>bif i==0 then ((Zgk P T D N K s.1 s.2)) else (none))
 (K (s.1 2) s.2)
noncomputable def Zgo (P:Program) (T:Tab) (D:DTab) (N:Nat) {β:Type} (cL2:St→Option β) (K:AV→Hp→Option β) (a0:AV) (h:Hp) :  Option β:=
lenK a0 fun x1=>
arithK .lss x1 (.s (.int .i64 2)) fun x2=>
condK x2 (
K a0 h) (
cL2 ((upd (upd (upd (tm0 [a0]) 2 (.s (.slice none 0 0))) 8 x2) 3 (.s (.int .i64 1))),h))
noncomputable def Zgp (P:Program) (T:Tab) (D:DTab) (N:Nat) {β:Type} (K:AV→Hp→Option β) (a0:AV) (h:Hp):Option β:=Zgo P T D N (fun s=>iterK (fun s k=>Z4b P T D N s.1 s.2 k) N s (Z9I P T D N K)) K a0 h
noncomputable def Z9J (P:Program) (T:Tab) (D:DTab) (N:Nat) {β:Type} (K:AV→Hp→Option β) (v0:AV) (h:Hp):Option β:=
K v0 h
noncomputable def Z9K (P:Program) (T:Tab) (D:DTab) (N:Nat) {β:Type} (xn:AV→AV→Hp→Option β) (x0:AV→Hp→Option β) (xr:AV→Hp→Option β) (v0:AV) (v3:AV) (h:Hp):Option β:=
arithK .add v3 (.s (.int .i64 1)) fun x5=>
xn v0 x5 h
noncomputable def Z5t (P:Program) (T:Tab) (D:DTab) (N:Nat) {β:Type} (xn:AV→AV→Hp→Option β) (x0:AV→Hp→Option β) (xr:AV→Hp→Option β) (v0:AV) (v3:AV) (h:Hp):Option β:=
sliceK 7 v0 (some v3) none none fun x13=>
effK (clrE 7 [.s (.int .i64 0), .s (.int .i64 0), .s (.int .i64 0), .s (.int .i64 0), .s (.int .i64 0), .s (.int .i64 0), .s (.int .i64 0)] x13 h) h fun x14 h15=>
sliceK 7 v0 none (some v3) none fun x16=>
xr x16 h15
end Go.AM
