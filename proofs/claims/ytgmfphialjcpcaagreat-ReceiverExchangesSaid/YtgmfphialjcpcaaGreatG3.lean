import Derived.Test.YtgmfphialjcpcaaGreatG2
import Derived.Test.YtgmfphialjcpcaaGreatProg
set_option linter.unusedSectionVars false
set_option linter.unusedVariables false
set_option linter.unusedSimpArgs false
set_option linter.constructorNameAsVariable false
set_option maxRecDepth 100000
noncomputable section
namespace Go.AM
open Go.RowKit
variable {P:Program} {μ μ':Mu} {h h':Hp} {w w':World} {ks:List Nat} {np:Nat}
noncomputable def trimT(ks:List Nat)(np:Nat)(t:Tm):Tm:=λi=>match ks.contains i||decide (i<np) with | true=>t i | false => .u
noncomputable def bindT(t:Tm):List Nat→List AV→Tm
 | p::ps,a::asl=>bindT (upd t p a) ps asl
 | _,_=>t
noncomputable def okRound(ks:List Nat)(np m:Nat)(ps:List Nat)(n:Nat)(asg body:Code):Bool:=
 Nat.beq ps.length n&&(ps.all λp=>ks.contains p&&decide (p<m))&&codeOk ks np m asg&&codeOk ks np m body&&noRange asg&&noRange body
noncomputable def endK(L m:Nat)(ps:Array Tmp)(asg body:Code)(ts:Tm)(e:Ex)(s:St):Option (AV × Hp):=
 e.on (some (.s (.bool true),s.2.set L (.loop m ps asg body ts .ready none)))
  (λi=>some (.s (.bool false),s.2.set L (.loop m ps asg body ts .done (some (.exit i)))))
  (some (.s (.bool false),s.2.set L (.loop m ps asg body ts .done (some .ret))))
noncomputable def beginX{β:Type}(L m:Nat)(ps:Array Tmp)(asg body:Code)(ts:Tm)(h:Hp)(k:Qb β):Option β:=
 match h[L]? with
 | some (.loop _ _ _ _ _ .ready pend)=>k (h.set L (.loop m ps asg body ts .busy pend))
 | _=>none
noncomputable def beginK(P:Program)(T:Tab)(D:DTab)(N:Nat)(ks:List Nat)(L m:Nat)(ps:Array Tmp)(asg body:Code)(ts:Tm)(e:Ex)(s:St):Option (AV × Hp):=
 e.on (beginX L m ps asg body ts s.2 λh=>execK P T D N ks body (s.1,h) (endK L m ps asg body ts)) (λ_=>none) none
noncomputable def roundF(P:Program)(T:Tab)(D:DTab)(N:Nat)(ks:List Nat)(np L m:Nat)(ps:Array Tmp)(asg body:Code)(ts:Tm)(args:List AV)(h:Hp):Option (AV × Hp):=
 execK P T D N ks asg (bindT (trimT ks np ts) ps.toList args,h) (beginK P T D N ks L m ps asg body ts)
noncomputable def yieldF(P:Program)(T:Tab)(D:DTab)(N:Nat)(ks:List Nat)(np:Nat):Fun:=λargs h=>
 match args with
 | .s (.map (some 0)) :: .yl L::asl=>
  match h[L]? with
  | some (.loop m ps asg body ts .ready pend)=>match okRound ks np m ps.toList asl.length asg body with
   | true=>roundF P T D N ks np L m ps asg body ts asl h
   | false=>none
  | _=>none
 | _=>none
theorem Zpj{T:Tab}{D:DTab}{N L m:Nat}{ps:Array Tmp}{asg body:Code}{ts:Tm}{pend:Option Code}{asl:List AV}(hL:h[L]? = some (.loop m ps asg body ts .ready pend))(hok:okRound ks np m ps.toList asl.length asg body=true):
  yieldF P T D N ks np (ymark :: .yl L::asl) h=roundF P T D N ks np L m ps asg body ts asl h:=by
 unfold yieldF;simp[hL,hok]
theorem Zpk{m n:Nat}(hm:m≤n){d:Option Nat}(h:dstOk ks np m d=true):dstOk ks np n d=true:=by
 cases d with
 | none=>rfl
 | some d=>
  simp only[dstOk,Bool.and_eq_true,decide_eq_true_eq] at h ⊢
  exact ⟨by omega,h.2⟩
theorem Z2Z{m n:Nat}(hm:m≤n):∀(c:Code),codeOk ks np m c=true→codeOk ks np n c=true
 | .region _ ops _,h=>by
  simp only[codeOk,List.all_eq_true] at h ⊢
  exact λo ho=>Zpk hm (h o ho)
 | .seq a b,h=>by simp only[codeOk,Bool.and_eq_true] at h ⊢;exact ⟨Z2Z hm a h.1,Z2Z hm b h.2⟩
 | .cond _ a b,h=>by simp only[codeOk,Bool.and_eq_true] at h ⊢;exact ⟨Z2Z hm a h.1,Z2Z hm b h.2⟩
 | .block _ c,h=>by simp only[codeOk] at h ⊢;exact Z2Z hm c h
 | .loop c,h=>by simp only[codeOk] at h ⊢;exact Z2Z hm c h
 | .scope c,h=>by simp only[codeOk] at h ⊢;exact Z2Z hm c h
 | .rangeFunc _ _ a c,h=>by simp only[codeOk,Bool.and_eq_true] at h ⊢;exact ⟨Z2Z hm a h.1,Z2Z hm c h.2⟩
 | .skip,_=>rfl
 | .label _,_=>rfl
 | .exit _,_=>rfl
 | .ret,_=>rfl
 | .goto _,_=>rfl
 | .refuse _,_=>rfl
theorem Ziu{nt:Nat}:∀(ps:List Nat)(asl:List AV)(cas:List Value)(t:Tm)(tmps:Array Value),VRs μ h asl cas→ps.length=asl.length→tmps.size=nt→(∀p ∈ ps,ks.contains p=true∧p<nt)→
  (∀i,VR μ h (t i) (tmps.getD i undef))→(∀i,ks.contains i=false→np≤i→t i = .u)→
  ∃tm:Array Value,(ps.zip cas).foldl (λtmps (p:Nat × Value)=>tmps.setIfInBounds p.1 p.2) tmps=tm∧Fit ks np nt [] μ h (bindT t ps asl) { tmps:=tm,defers:=[] }
 | [],asl,cas,t,tmps,hv,hl,hs,hp,ht,hlow=>by
  refine ⟨tmps,by simp,hs,rfl,λi => ?_,λi _=>rfl, ?_⟩
  ·rw[Z5J];simpa [bindT,Act.eval] using ht i
  ·simpa [bindT] using hlow
 | p::ps,[],cas,t,tmps,hv,hl,hs,hp,ht,hlow=>by simp at hl
 | p::ps,a::asl,cas,t,tmps,hv,hl,hs,hp,ht,hlow=>by
  simp only[VRs] at hv;obtain ⟨v,vs,rfl,h1,h2⟩:=hv
  have hpp:=hp p (by simp)
  simp only[List.zip_cons_cons,List.foldl_cons,bindT];refine Ziu ps asl vs (upd t p a) _ h2 (by simpa using hl) (by simpa using hs) (λq hq=>hp q (by simp[hq])) (λi => ?_) (λi hi hn => ?_)
  ·have:=Zas { tmps,defers:=[] } p v (by rw[hs];exact hpp.2) i
   simp only[Act.put,Act.eval] at this;rw[this];simp only[upd]
   split
   ·exact h1
   ·exact ht i
  ·simp only[upd]
   rw[if_neg (by rintro rfl;rw[hpp.1] at hi;cases hi)]
   exact hlow i hi hn
theorem Zpl{T:Tab}{D:DTab}(TS:TSound P T)(DS:DSound P D)(hm:P.follows .mixedOrders=true)(N:Nat):YSound P (yieldF P T D N ks np):=by
 intro args h v h' hk
 unfold yieldF at hk;split at hk<;>try (simp at hk;done)
 rename_i L asl;refine ⟨L,asl,rfl,λμ w cas blk n R hcas hmu => ?_⟩
 split at hk<;>try (simp at hk;done)
 rename_i m ps asg body ts pend hL;split at hk<;>try (simp at hk;done)
 rename_i hok;simp only[okRound,Bool.and_eq_true,List.all_eq_true,decide_eq_true_eq] at hok
 obtain ⟨⟨⟨⟨⟨hlen,hps⟩,hc1⟩,hc2⟩,hn1⟩,hn2⟩:=hok;have hlen:=Nat.eq_of_beq_eq_true hlen;obtain ⟨blk',r,hmu',hh,r1,r2,r3,r4,r5,r6,r7⟩:=R.obj _ _ hL;rw[hmu] at hmu';injection hmu' with e;subst e
 have hsz:cas.size=r.params.size:=by
  rw[r3, ← Array.length_toList, ← hcas.length, ← hlen,Array.length_toList]
 obtain ⟨tm,e1,hF⟩:=Ziu (ks:=ks) (np:=np) ps.toList asl cas.toList (trimT ks np ts) r.tmps hcas hlen rfl (λp hp=>⟨(hps p hp).1,Nat.lt_of_lt_of_le (hps p hp).2 r6⟩) (λi=>by
  unfold trimT;split
  ·exact r7 i
  ·simp[VR]) (λi hi hn=>by
  unfold trimT
  split
  ·rename_i q
   rw[hi] at q;simp at q
   omega
  ·rfl)
 have e2:(r.params.zip cas).foldl (λtmps (p:Nat × Value)=>tmps.setIfInBounds p.1 p.2) r.tmps=tm:=by
  rw[← e1,r3, ← Array.foldl_toList,Array.toList_zip]
 refine ⟨r.fn,tm,r.assign,r.body, ?_, ?_⟩
 ·have:=run_yield (P:=P) hh hsz
  rw[← e2];exact this
 ·refine roundIn_of_wpIn (F:=Fence.wide) trivial ?_
  unfold roundF at hk;rw[r4]
  refine Z2X (ρ:=some blk) (b0:=0) (nt:=r.tmps.size) TS DS hm asg (Z2Z r6 asg hc1) (.inr hn1) [] _ h _ _ _ w μ _ hk hF ⟨[],rfl,List.nodup_nil,λr hr=>by cases hr⟩ (Nat.zero_le _) R ?_
  intro e t1 h1 a1 w1 μ1 ds1 q1 q2 qm q3;cases e with
  | exit i=>simp[beginK,Ex.on] at q1
  | ret=>simp[beginK,Ex.on] at q1
  | normal=>
   simp only[beginK,Ex.on,beginX] at q1;split at q1<;>try (simp at q1;done)
   rename_i m' ps' asg' body' ts' pend' hL1
   obtain ⟨st2,pend2,hL2,hm2⟩:=q3.evo.obj L _ hL;have hs:=hL2.symm.trans hL1;simp only[Option.some.injEq,AObj.loop.injEq] at hs;obtain ⟨g1,g2,g3,g4,g5,g6,g7⟩:=hs;rw[g6,g7] at hL2;obtain ⟨blk2,rr,k1,k2,k3,k4,k5,k6,k7,k8,k9,S4⟩:=Step.setLoop q3.rel hL2 .busy pend';rw[Mu.set_self] at S4;rw[hm2,hmu] at k1;injection k1 with e;subst e;have hb:=run_beginRound (P:=P) k2 k3;rw[← k4] at S4 q1;refine ⟨_,hb, ?_⟩;rw[r5];have Sb:=q3.trans S4;refine Z2X (ρ:=some blk) (b0:=0) (nt:=r.tmps.size) TS DS hm body (Z2Z r6 body hc2) (.inr hn2) ds1 _ _ _ _ _ _ μ1 _ q1 (q2.evo S4.evo) (qm.evo S4.evo.imm) (Nat.zero_le _) S4.rel ?_
   intro e t3 h3 a3 w3 μ3 ds3 p1 p2 pm p3
   have hL3':(h1.set L (AObj.loop m ps asg body ts .busy rr.pending))[L]? = some (.loop m ps asg body ts .busy rr.pending):=by
    rw[List.getElem?_set_self];exact (List.getElem?_eq_some_iff.1 hL2).1
   obtain ⟨st3,pend3,hL3,hm3⟩:=p3.evo.obj L _ hL3'
   have fin:∀(jump:Option Code)(st':LoopState)(b:Bool),st'=(if jump.isNone then .ready else .done)→b=jump.isNone→some (AV.s (.bool b),h3.set L (.loop m ps asg body ts st' jump))=some (v,h')→
     ∃v' w',(Instr.endRound blk jump).run P w3 = .ok v' w'∧∃cv μ',Ending.returned v' = .returned cv∧Step μ h w μ' h' w'∧VR μ' h' v cv:=by
    intro jump st' b e1 e2 e3
    simp only[Option.some.injEq,Prod.mk.injEq] at e3;obtain ⟨rfl,rfl⟩:=e3
    obtain ⟨blk3,r3',j1,j2,j3,j4,j5,j6,j7,j8,j9,S5⟩:=Step.setLoop p3.rel hL3 st' jump;rw[Mu.set_self] at S5;rw[hm3,hm2,hmu] at j1;injection j1 with e;subst e;have he:=run_endRound (P:=P) jump j2;rw[← e1] at he;refine ⟨_,_,he,_,μ3,rfl,Sb.trans (p3.trans S5), ?_⟩;simp only[VR];exact ⟨rfl,by rw[e2]⟩
   cases e with
   | normal=>exact fin none .ready true rfl rfl p1
   | exit i=>exact fin (some (.exit i)) .done false rfl rfl p1
   | ret=>exact fin (some .ret) .done false rfl rfl p1
end Go.AM


namespace Go.AM
open Go.Proofs
variable(P:Program)(T:Tab)(D:DTab)(N:Nat){β:Type}
theorem Z0O{β:Type}{B:St→(Ex→St→Option β)→Option β}{A A':Ex→St→Option β}{g:Nat→St→Option β}(hA:∀e s,A e s=A' e s)(h0:∀s,g 0 s=none)(hs:∀n s,B s (λe s'=>Ex.on e (g n s') (λi=>A' (.exit i) s') (A' .ret s'))=g (n+1) s):∀n s,iterK B n s A=g n s:=by
 obtain rfl:A=A':=funext λe=>funext λs=>hA e s
 intro n;induction n with
 | zero=>intro s;exact (h0 s).symm
 | succ n ih=>
  intro s;rw[← hs n s]
  show B s (λe s'=>Ex.on e (iterK B n s' A) (λi=>A (.exit i) s') (A .ret s'))=_
  congr 1
  funext e s'
  rw[ih s']
theorem exs1{β:Type}{A:Ex→St→Option β}{i:Nat}{x r:St→Option β}(q:∀s,A (.exit i) s=x s)(qr:∀s,A .ret s=r s):∀e s,A e s=Ex.on e (A .normal s) (λj=>bif j==i then x s else A (.exit j) s) (r s):=by
 intro e s;cases e with
 | normal=>rfl
 | ret=>exact qr s
 | exit k=>
  by_cases e:k=i
  ·subst e;rw[q s];simp[Ex.on]
  ·simp[Ex.on,beq_false_of_ne e]
theorem un_3:Tryz.prog.underlying 3=some (.int .i64):=by kernel_rfl
theorem Z5P:Tryz.prog.underlying 114=some (.int .u64):=by kernel_rfl
@[simp] theorem ZDH{β:Type}(n:Int)(k:K β):convK Tryz.prog 3 114 (.s (.int .i64 n)) k=k (.s (.int .u64 (IntKind.u64.wrap n))):=Z5O un_3 Z5P k
@[simp] theorem ZDI{β:Type}(n:Int)(k:K β):convK Tryz.prog 114 3 (.s (.int .u64 n)) k=k (.s (.int .i64 (IntKind.i64.wrap n))):=Z5O Z5P un_3 k
@[simp] theorem el_22:elemOf Tryz.prog 22=some 52:=by kernel_rfl
@[simp] theorem ZDJ{β:Type}(h:Hp)(k:K β):eqK Tryz.prog false 22 nilS nilS h k=k (.s (.bool true)):=by kernel_rfl
@[simp] theorem ZDK{β:Type}(h:Hp)(k:K β):eqK Tryz.prog true 22 nilS nilS h k=k (.s (.bool false)):=by kernel_rfl
@[simp] theorem el_25:elemOf Tryz.prog 25=some 60:=by kernel_rfl
@[simp] theorem ZDL{β:Type}(h:Hp)(k:K β):eqK Tryz.prog false 25 nilS nilS h k=k (.s (.bool true)):=by kernel_rfl
@[simp] theorem ZDM{β:Type}(h:Hp)(k:K β):eqK Tryz.prog true 25 nilS nilS h k=k (.s (.bool false)):=by kernel_rfl
@[simp] theorem el_26:elemOf Tryz.prog 26=some 50:=by kernel_rfl
@[simp] theorem ZDN{β:Type}(h:Hp)(k:K β):eqK Tryz.prog false 26 nilS nilS h k=k (.s (.bool true)):=by kernel_rfl
@[simp] theorem ZDO{β:Type}(h:Hp)(k:K β):eqK Tryz.prog true 26 nilS nilS h k=k (.s (.bool false)):=by kernel_rfl
@[simp] theorem Z7x{β:Type}(neq:Bool)(a0:Int)(a1:Int)(a2:Int)(a3:Int)(a4:Int)(a5:Int)(a6:Int)(b0:Int)(b1:Int)(b2:Int)(b3:Int)(b4:Int)(b5:Int)(b6:Int)(h:Hp)(k:K β):eqK Tryz.prog neq 50 (.agg [.s (.int .i64 a0),.s (.int .i64 a1),.s (.int .i64 a2),.s (.int .i64 a3),.s (.int .i64 a4),.s (.int .i64 a5),.s (.int .i64 a6)]) (.agg [.s (.int .i64 b0),.s (.int .i64 b1),.s (.int .i64 b2),.s (.int .i64 b3),.s (.int .i64 b4),.s (.int .i64 b5),.s (.int .i64 b6)]) h k=k (.s (.bool (xor neq ((a0==b0)&&((a1==b1)&&((a2==b2)&&((a3==b3)&&((a4==b4)&&((a5==b5)&&((a6==b6)&&(true))))))))))):=by
 have e1:Tryz.prog.eqGuardType Tryz.prog.depth 50=false:=by kernel_rfl
 have e2:aggT Tryz.prog 50=true:=by kernel_rfl
 have e3:eqFlat Tryz.prog 8 50 [.s (.int .i64 a0),.s (.int .i64 a1),.s (.int .i64 a2),.s (.int .i64 a3),.s (.int .i64 a4),.s (.int .i64 a5),.s (.int .i64 a6)] [.s (.int .i64 b0),.s (.int .i64 b1),.s (.int .i64 b2),.s (.int .i64 b3),.s (.int .i64 b4),.s (.int .i64 b5),.s (.int .i64 b6)]=some ((a0==b0)&&((a1==b1)&&((a2==b2)&&((a3==b3)&&((a4==b4)&&((a5==b5)&&((a6==b6)&&(true)))))))):=by kernel_rfl
 simp only[eqK,e1,e2,e3]
@[simp] theorem Zpm{β:Type}(neq:Bool)(a0:Int)(a1:Int)(a2:Int)(a3:Int)(a4:Int)(a5:Int)(a6:Int)(a7:Int)(a8:Int)(a9:Int)(b0:Int)(b1:Int)(b2:Int)(b3:Int)(b4:Int)(b5:Int)(b6:Int)(b7:Int)(b8:Int)(b9:Int)(h:Hp)(k:K β):eqK Tryz.prog neq 52 (.agg [.s (.int .i64 a0),.s (.int .i64 a1),.s (.int .i64 a2),.s (.int .i64 a3),.s (.int .i64 a4),.s (.int .i64 a5),.s (.int .i64 a6),.s (.int .i64 a7),.s (.int .i64 a8),.s (.int .i64 a9)]) (.agg [.s (.int .i64 b0),.s (.int .i64 b1),.s (.int .i64 b2),.s (.int .i64 b3),.s (.int .i64 b4),.s (.int .i64 b5),.s (.int .i64 b6),.s (.int .i64 b7),.s (.int .i64 b8),.s (.int .i64 b9)]) h k=k (.s (.bool (xor neq ((a0==b0)&&((a1==b1)&&((a2==b2)&&(((a3==b3)&&((a4==b4)&&((a5==b5)&&((a6==b6)&&((a7==b7)&&((a8==b8)&&((a9==b9)&&(true))))))))&&(true)))))))):=by
 have e1:Tryz.prog.eqGuardType Tryz.prog.depth 52=false:=by kernel_rfl
 have e2:aggT Tryz.prog 52=true:=by kernel_rfl
 have e3:eqFlat Tryz.prog 8 52 [.s (.int .i64 a0),.s (.int .i64 a1),.s (.int .i64 a2),.s (.int .i64 a3),.s (.int .i64 a4),.s (.int .i64 a5),.s (.int .i64 a6),.s (.int .i64 a7),.s (.int .i64 a8),.s (.int .i64 a9)] [.s (.int .i64 b0),.s (.int .i64 b1),.s (.int .i64 b2),.s (.int .i64 b3),.s (.int .i64 b4),.s (.int .i64 b5),.s (.int .i64 b6),.s (.int .i64 b7),.s (.int .i64 b8),.s (.int .i64 b9)]=some ((a0==b0)&&((a1==b1)&&((a2==b2)&&(((a3==b3)&&((a4==b4)&&((a5==b5)&&((a6==b6)&&((a7==b7)&&((a8==b8)&&((a9==b9)&&(true))))))))&&(true))))):=by kernel_rfl
 simp only[eqK,e1,e2,e3]
@[simp] theorem Zpn{β:Type}(neq:Bool)(a0:Int)(a1:Int)(b0:Int)(b1:Int)(h:Hp)(k:K β):eqK Tryz.prog neq 60 (.agg [.s (.int .i64 a0),.s (.int .i64 a1)]) (.agg [.s (.int .i64 b0),.s (.int .i64 b1)]) h k=k (.s (.bool (xor neq ((a0==b0)&&((a1==b1)&&(true)))))):=by
 have e1:Tryz.prog.eqGuardType Tryz.prog.depth 60=false:=by kernel_rfl
 have e2:aggT Tryz.prog 60=true:=by kernel_rfl
 have e3:eqFlat Tryz.prog 8 60 [.s (.int .i64 a0),.s (.int .i64 a1)] [.s (.int .i64 b0),.s (.int .i64 b1)]=some ((a0==b0)&&((a1==b1)&&(true))):=by kernel_rfl
 simp only[eqK,e1,e2,e3]
@[simp] theorem Zpo{β:Type}(neq:Bool)(a0:Int)(a1:Int)(a2:Int)(a3:Int)(a4:Int)(a5:Int)(a6:Int)(b0:Int)(b1:Int)(b2:Int)(b3:Int)(b4:Int)(b5:Int)(b6:Int)(h:Hp)(k:K β):eqK Tryz.prog neq 78 (.agg [.s (.int .i64 a0),.s (.int .i64 a1),.s (.int .i64 a2),.s (.int .i64 a3),.s (.int .i64 a4),.s (.int .i64 a5),.s (.int .i64 a6)]) (.agg [.s (.int .i64 b0),.s (.int .i64 b1),.s (.int .i64 b2),.s (.int .i64 b3),.s (.int .i64 b4),.s (.int .i64 b5),.s (.int .i64 b6)]) h k=k (.s (.bool (xor neq ((a0==b0)&&((a1==b1)&&((a2==b2)&&((a3==b3)&&((a4==b4)&&((a5==b5)&&((a6==b6)&&(true))))))))))):=by
 have e1:Tryz.prog.eqGuardType Tryz.prog.depth 78=false:=by kernel_rfl
 have e2:aggT Tryz.prog 78=true:=by kernel_rfl
 have e3:eqFlat Tryz.prog 8 78 [.s (.int .i64 a0),.s (.int .i64 a1),.s (.int .i64 a2),.s (.int .i64 a3),.s (.int .i64 a4),.s (.int .i64 a5),.s (.int .i64 a6)] [.s (.int .i64 b0),.s (.int .i64 b1),.s (.int .i64 b2),.s (.int .i64 b3),.s (.int .i64 b4),.s (.int .i64 b5),.s (.int .i64 b6)]=some ((a0==b0)&&((a1==b1)&&((a2==b2)&&((a3==b3)&&((a4==b4)&&((a5==b5)&&((a6==b6)&&(true)))))))):=by kernel_rfl
 simp only[eqK,e1,e2,e3]
noncomputable def ZaL(P:Program)(T:Tab)(D:DTab)(N:Nat){β:Type}(K:Kb β)(a0 a1 a2:AV)(h:Hp):Option β:=
effK (boxE 3 a0 (List.length h)) h λn h2=>
effK (boxE 3 a1 (List.length h2)) h2 λg h4=>
effK (boxE 2 a2 (List.length h4)) h4 λo h6=>
callK (T 4) [] h6 λx7 h8=>
notK x7 λx9=>
condK x9 (
K (.s (.bool false)) h8) (
ldK 3 true n h8 λc0=>
callK (T 5) [c0] h8 λc1 i=>
notK c1 λc2=>
grpK false c2 i (λc3=>
ldK 3 true g i λc4=>
callK (T 6) [c4] i λc5 c6=>
notK c5 λc7=>
c3 c7 c6) λc8 a=>
condK c8 (
K (.s (.bool true)) a) (
ldK 3 true n a λc9=>
effD (callE (D 8) [c9] a (List.length a)) a λd0 e d1=>
ldK 3 true g e λd2=>
effD (callE (D 9) [d2] e (List.length e)) e λd3 b d4=>
faK 0 o λp=>
ldK 1 false p b λd5=>
faK 1 o λq=>
ldK 1 false q b λd6=>
effD (callE (D 7) [d0,d3,d5,d6] b (List.length b)) b λj r d7=>
exK j 0 λd8=>
exK j 1 λd9=>
exK j 2 λe0=>
effD (boxE 3 (.agg [I 0, I 0, nilS]) (List.length r)) r λt u e1=>
effD (boxE 3 (.agg [I 0, nilS, nilS]) (List.length u)) u λv w e2=>
effD (stE 3 t d8 w) w λi0 x e3=>
effD (stE 3 v d9 x) x λi1 c e4=>
bif disjAll [(1,2),(1,5),(3,5),(1,7),(3,7),(0,13),(1,13),(2,13),(3,13),(5,13),(7,13),(8,13),(0,14),(1,14),(2,14),(3,14),(5,14),(7,14),(8,14),(13,14)] [((idsOf n),[]),d1,((idsOf g),[]),d4,([],[]),((idsOf p),[]),([],[]),((idsOf q),[]),d7,([],[]),([],[]),([],[]),([],[]),e1,e2,e3,e4,([],[])] then (
ldK 3 true n c λe5=>
ldK 3 true g c λe6=>
faK 0 o λe7=>
ldK 1 false e7 c λe8=>
faK 1 o λe9=>
ldK 1 false e9 c λf0=>
callK (T 10) [e5,e6,e8,f0] c λk y=>
exK k 0 λf1=>
exK k 1 λf2=>
exK k 2 λf3=>
effK (boxE 3 (.agg [I 0, I 0, nilS]) (List.length y)) y λz a3=>
effK (boxE 3 (.agg [I 0, nilS, nilS]) (List.length a3)) a3 λa4 a5=>
effK (stE 3 z f1 a5) a5 λi2 a6=>
effK (stE 3 a4 f2 a6) a6 λi3 a7=>
ldK 3 true g a7 λf4=>
callK (T 9) [f4] a7 λf5 f6=>
callK (T 11) [f5] f6 λa8 a9=>
exK a8 0 λf7=>
exK a8 1 λf8=>
ldK 3 true g a9 λf9=>
callK (T 12) [f9] a9 λb0 l=>
exK b0 0 λg0=>
exK b0 1 λg1=>
ldK 3 true t l λg2=>
ldK 3 true z l λg3=>
callK (T 13) [g2,g3] l λg4 f=>
grpK true g4 f (λg5=>
ldK 3 true v f λg6=>
ldK 3 true a4 f λg7=>
callK (T 14) [g6,g7] f λg8 g9=>
g5 g8 g9) λh0 m=>
grpK true h0 m (λh1=>
eqK P false 35 e0 f3 m λh2=>
h1 h2 m) λh3 b1=>
grpK true h3 b1 (λh4=>
callK (T 15) [f7,g0] b1 λh5 h6=>
h4 h5 h6) λb3 d=>
grpK true b3 d (λb4=>
eqK P false 35 f8 g1 d λb5=>
b4 b5 d) λb6 b7=>
K b6 b7) else none))
theorem Zpp(K:Kb β)(a0 a1 a2:AV)(h:Hp):runK Tryz.prog T D N [0,1,2,3,4,5,6,7,8,9,10,11,12,13,14,15,16,18,26] Tryz.f3 K [a0,a1,a2] h=ZaL Tryz.prog T D N K a0 a1 a2 h:=by kernel_rfl
noncomputable def ZaM(P:Program)(T:Tab)(D:DTab)(N:Nat){β:Type}(K:Kb β)(h:Hp):Option β:=
callK (T 16) [(I 1)] h λx1 h2=>
exK x1 0 λx3=>
exK x1 1 λx4=>
effK (boxE 3 (.agg [I 0, I 0, nilS]) (List.length h2)) h2 λd h6=>
effK (stE 3 d x3 h6) h6 λx7 w=>
ldK 3 true d w λx9=>
effD (callE (D 18) [(I 1)] w (List.length w)) w λe9 m f0=>
effD (callE (D 17) [x9,(I 2),e9] m (List.length m)) m λn x f1=>
exK n 0 λf2=>
exK n 1 λf3=>
exK n 2 λf4=>
effD (boxE 10 (.agg zz10) (List.length x)) x λf5 y f6=>
effD (stE 3 d f2 y) y λk0 z f7=>
effD (stE 10 f5 f3 z) z λk1 j f8=>
bif disjAll [(0,1),(0,7),(1,7),(2,7)] [((idsOf d),[]),f0,f1,([],[]),([],[]),([],[]),([],[]),f6,f7,f8,([],[])] then (
ldK 3 true d j λf9=>
effD (callE (D 18) [(I 2)] j (List.length j)) j λg0 o g1=>
effD (callE (D 17) [f9,(I 2),g0] o (List.length o)) o λp a0 g2=>
exK p 0 λg3=>
exK p 1 λg4=>
exK p 2 λg5=>
effD (boxE 10 (.agg zz10) (List.length a0)) a0 λg6 a1 g7=>
effD (stE 3 d g3 a1) a1 λk2 a2 g8=>
effD (stE 10 g6 g4 a2) a2 λk3 g9 h0=>
bif disjAll [(0,1),(0,7),(1,7),(2,7)] [((idsOf d),[]),g1,g2,([],[]),([],[]),([],[]),([],[]),g7,g8,h0,([],[])] then (
callK (T 19) [(I 2)] g9 λa3 a4=>
exK a3 0 λh1=>
exK a3 1 λh2=>
effK (boxE 3 (.agg [I 0, nilS, nilS]) (List.length a4)) a4 λa5 a6=>
effK (stE 3 a5 h1 a6) a6 λk4 e=>
arithK .add x4 f4 λh3=>
arithK .add h3 g5 λh4=>
arithK .add h4 h2 λh5=>
eqK P true 35 h5 (I 0) e λh6=>
condK h6 (
K (.s (.bool false)) e) (
ldK 3 true d e λh7=>
ldK 3 true a5 e λh8=>
callK (T 7) [h7,h8,(.s (.int .u64 3)),(.s (.int .u64 2))] e λq a7=>
exK q 0 λh9=>
exK q 1 λi0=>
exK q 2 λi1=>
effK (boxE 3 (.agg [I 0, I 0, nilS]) (List.length a7)) a7 λr a8=>
effK (boxE 3 (.agg [I 0, nilS, nilS]) (List.length a8)) a8 λf a9=>
effK (stE 3 r h9 a9) a9 λk5 b0=>
effK (stE 3 f i0 b0) b0 λk6 t=>
ldK 3 true r t λi2=>
ldK 3 true f t λi3=>
callK (T 7) [i2,i3,(.s (.int .u64 1)),(.s (.int .u64 1))] t λu b1=>
exK u 0 λi4=>
exK u 1 λi5=>
exK u 2 λi6=>
effK (boxE 3 (.agg [I 0, I 0, nilS]) (List.length b1)) b1 λb2 b3=>
effK (boxE 3 (.agg [I 0, nilS, nilS]) (List.length b3)) b3 λk b4=>
effK (stE 3 b2 i4 b4) b4 λk7 b5=>
effK (stE 3 k i5 b5) b5 λk8 a=>
faK 2 r λi7=>
ldK 1 false i7 a λi8=>
lenK i8 λi9=>
eqK P false 3 i9 (I 1) a λj0=>
grpK true j0 a (λj1=>
faK 2 f λj2=>
ldK 1 false j2 a λj3=>
lenK j3 λj4=>
eqK P false 3 j4 (I 2) a λj5=>
j1 j5 a) λj6 l=>
grpK true j6 l (λb6=>
faK 2 b2 λb7=>
ldK 1 false b7 l λb8=>
lenK b8 λb9=>
eqK P false 3 b9 (I 0) l λc0=>
b6 c0 l) λc1 b=>
grpK true c1 b (λc2=>
ldK 3 true f b λc3=>
ldK 3 true k b λc4=>
callK (T 20) [c3,c4] b λc5 c6=>
c2 c5 c6) λc7 c=>
grpK true c7 c (λc8=>
faK 1 f λc9=>
ldK 1 false c9 c λd0=>
faK 1 k λd1=>
ldK 1 false d1 c λd2=>
callK (T 21) [d0,d2] c λd3 d4=>
c8 d3 d4) λd5 g=>
grpK true d5 g (λd6=>
ldK 3 true k g λd7=>
callK (T 22) [d7] g λd8 v=>
eqK P false 35 d8 (I 0) v λd9=>
d6 d9 v) λe0 i=>
grpK true e0 i (λe1=>
arithK .add i1 i6 λe2=>
eqK P false 35 e2 (I 0) i λe3=>
e1 e3 i) λe4 e5=>
K e4 e5)) else none) else none
theorem Zpq(K:Kb β)(h:Hp):runK Tryz.prog T D N [0,1,2,4,6,7,8,9,10,11,12,13,14,44] Tryz.f4 K [] h=ZaM Tryz.prog T D N K  h:=by kernel_rfl
noncomputable def ZaN(P:Program)(T:Tab)(D:DTab)(N:Nat){β:Type}(K:Kb β)(a0:AV)(h:Hp):Option β:=
effK (boxE 3 a0 (List.length h)) h λb a=>
faK 2 b λg=>
ldK 1 false g a λi=>
lenK i λj=>
arithK .leq j (I 14) λk=>
grpK false k a (λl=>
faK 2 b λm=>
ldK 1 false m a λn=>
lenK n λc=>
eqK P false 3 c (I 65) a λd=>
l d a) λe f=>
K e f
theorem Zpr(K:Kb β)(a0:AV)(h:Hp):runK Tryz.prog T D N [0,1,2] Tryz.f5 K [a0] h=ZaN Tryz.prog T D N K a0 h:=by kernel_rfl
noncomputable def ZaO(P:Program)(T:Tab)(D:DTab)(N:Nat){β:Type}(K:Kb β)(a0:AV)(h:Hp):Option β:=
effK (boxE 3 a0 (List.length h)) h λc b=>
faK 1 c λv=>
ldK 1 false v b λw=>
lenK w λx=>
arithK .leq x (I 20) λy=>
grpK false y b (λz=>
faK 1 c λx8=>
ldK 1 false x8 b λx9=>
lenK x9 λd=>
eqK P false 3 d (I 257) b λe=>
z e b) λf a=>
grpK true f a (λg=>
faK 2 c λi=>
ldK 1 false i a λj=>
lenK j λk=>
arithK .leq k (I 20) λl=>
grpK false l a (λm=>
faK 2 c λn=>
ldK 1 false n a λo=>
lenK o λp=>
eqK P false 3 p (I 65) a λq=>
m q a) λr s=>
g r s) λt u=>
K t u
theorem Zps(K:Kb β)(a0:AV)(h:Hp):runK Tryz.prog T D N [0,1,2] Tryz.f6 K [a0] h=ZaO Tryz.prog T D N K a0 h:=by kernel_rfl
noncomputable def Z30:Array Tmp:=(rangeOf Tryz.f7 0).1
noncomputable def Z2O:Code:=(rangeOf Tryz.f7 0).2.1
noncomputable def Z2P:Code:=(rangeOf Tryz.f7 0).2.2
noncomputable def Z31:Nat:=needR Z2O Z2P
noncomputable def Z5Q(P:Program)(T:Tab)(D:DTab)(N:Nat){β:Type}(K:Kb β)(l m b c d:AV)(h:Hp):Option β:=
ldK 3 true c h λn=>
ldK 3 true d h λo=>
effD (stE 3 l n h) h λr e p=>
effD (stE 3 m o e) e λs f q=>
effD (stE 1 b (I 0) f) f λt a g=>
bif disjAll [(1,2)] [((idsOf c),[]),((idsOf d),[]),p,q,g] then (
ldK 3 true l a λi=>
ldK 3 true m a λj=>
ldK 1 false b a λk=>
K (.tup [i,j,k]) a) else none
noncomputable def ZaP(P:Program)(T:Tab)(D:DTab)(N:Nat){β:Type}(xn:Qb β)(xr:Qb β)(h:Hp):Option β:=
xn h
noncomputable def Zfi(P:Program)(T:Tab)(D:DTab)(N:Nat){β:Type}(L:Nat)(ts:Tm)(xn:Qb β)(xr:Qb β)(v7 v8 v9 b3 t u b4 b5:AV)(h:Hp):Option β:=
effK (boxE 10 (.agg zz10) (List.length h)) h λe f=>
effK (stE 10 e b5 f) f λb9 v=>
beginX L (Z31) (Z30) (Z2O) (Z2P) ts v λd=>
ldK 3 true u d λw=>
ldK 10 true e d λx=>
callK (T 29) [w,x] d λc g=>
exK c 0 λy=>
exK c 1 λz=>
exK c 2 λc0=>
exK c 3 λi=>
effK (boxE 3 (.agg [I 0, nilS, nilS]) (List.length g)) g λj k=>
effK (boxE 2 (.agg zz2) (List.length k)) k λl m=>
effK (stE 3 j y m) m λc1 n=>
effK (stE 2 l z n) n λc2 a=>
eqK P true 35 i (I 0) a λa0=>
condK a0 (
buildK [I 0, I 0, nilS] [] λa1=>
buildK [I 0, nilS, nilS] [] λa2=>
effK (stE 3 v8 a1 a) a λc3 o=>
effK (stE 3 v9 a2 o) o λc4 p=>
effK (stE 1 b3 i p) p λc5 a3=>
xr a3) (
ldK 3 true j a λa4=>
effK (stE 3 u a4 a) a λc6 b=>
ldK 1 false v7 b λa5=>
reckK P .shr 29 a5 b4 λa6=>
reckK P .and 29 a6 (.s (.int .u64 1)) λa7=>
eqK P false 29 a7 (.s (.int .u64 1)) b λa8=>
condK a8 (
ldK 3 true t b λa9=>
ldK 2 true l b λb0=>
callK (T 30) [a9,b0] b λq r=>
exK q 0 λb1=>
exK q 1 λc7=>
effK (stE 3 t b1 r) r λc8 b2=>
ZaP P T D N xn xr b2) (
ZaP P T D N xn xr b))
theorem Zpt(T:Tab)(D:DTab)(N L:Nat)(v7 v8 v9 v10 v13 v14 v64 v65:AV)(h:Hp):roundF Tryz.prog T D N [0,1,2,3,4,5,7,8,9,10,11,13,14,15,16,17,18,20,21,32,63,64,65,75,84] 4 L (Z31) (Z30) (Z2O) (Z2P) (envT [(7,v7),(8,v8),(9,v9),(10,v10),(13,v13),(14,v14)]) [v64,v65] h=Zfi Tryz.prog T D N L (envT [(7,v7),(8,v8),(9,v9),(10,v10),(13,v13),(14,v14)]) (λh=>some (.s (.bool true),h.set L (.loop (Z31) (Z30) (Z2O) (Z2P) (envT [(7,v7),(8,v8),(9,v9),(10,v10),(13,v13),(14,v14)]) .ready none))) (λh=>some (.s (.bool false),h.set L (.loop (Z31) (Z30) (Z2O) (Z2P) (envT [(7,v7),(8,v8),(9,v9),(10,v10),(13,v13),(14,v14)]) .done (some .ret)))) v7 v8 v9 v10 v13 v14 v64 v65 h:=by kernel_rfl
noncomputable def Z3S(P:Program)(T:Tab)(D:DTab)(N:Nat){β:Type}(K:Kb β)(a0 a1 a2 a3:AV)(h:Hp):Option β:=
effK (boxE 3 a0 (List.length h)) h λo h2=>
effK (boxE 3 a1 (List.length h2)) h2 λn h4=>
effK (boxE 1 a3 (List.length h4)) h4 λx5 h6=>
effK (boxE 3 (.agg [I 0, I 0, nilS]) (List.length h6)) h6 λd h8=>
effK (boxE 3 (.agg [I 0, nilS, nilS]) (List.length h8)) h8 λe q=>
effK (boxE 1 (I 0) (List.length q)) q λc r=>
ldK 3 true o r λb7=>
callK (T 23) [b7] r λb8 i=>
eqK P true 35 b8 (I 0) i λb9=>
grpK false b9 i (λc0=>
ldK 3 true n i λc1=>
callK (T 22) [c1] i λc2 s=>
eqK P true 35 c2 (I 0) s λc3=>
c0 c3 s) λc4 a=>
condK c4 (
buildK [I 0, I 0, nilS] [] λc5=>
buildK [I 0, nilS, nilS] [] λc6=>
effK (stE 3 d c5 a) a λg3 t=>
effK (stE 3 e c6 t) t λg4 u=>
effK (stE 1 c (I 1) u) u λg5 j=>
ldK 3 true d j λc7=>
ldK 3 true e j λc8=>
ldK 1 false c j λc9=>
K (.tup [c7,c8,c9]) j) (
faK 0 o λd0=>
ldK 1 false d0 a λd1=>
faK 0 n λd2=>
ldK 1 false d2 a λd3=>
eqK P false 3 d1 d3 a λd4=>
condK d4 (
buildK [I 0, I 0, nilS] [] λd5=>
buildK [I 0, nilS, nilS] [] λd6=>
effK (stE 3 d d5 a) a λg6 v=>
effK (stE 3 e d6 v) v λg7 w=>
effK (stE 1 c (I 10) w) w λg8 k=>
ldK 3 true d k λd7=>
ldK 3 true e k λd8=>
ldK 1 false c k λd9=>
K (.tup [d7,d8,d9]) k) (
ldK 3 true o a λe0=>
faK 0 n λe1=>
ldK 1 false e1 a λe2=>
callK (T 24) [e0,e2] a λx p=>
exK x 0 λe3=>
exK x 1 λg9=>
ldK 3 true o p λe4=>
effK (boxE 3 (.agg [I 0, I 0, nilS]) (List.length p)) p λf y=>
effK (stE 3 f e4 y) y λh0 z=>
faK 2 o λe5=>
ldK 1 false e5 z λe6=>
callK (T 25) [e6] z λe7 a4=>
faK 2 f λe8=>
effK (stE 1 e8 e7 a4) a4 λh1 g=>
faK 0 n λa5=>
ldK 1 false a5 g λe9=>
faK 1 n λa6=>
ldK 1 false a6 g λf0=>
effD (callE (D 26) [f0] g (List.length g)) g λf1 l f2=>
faK 2 n λa7=>
ldK 1 false a7 l λf3=>
effD (callE (D 27) [f3] l (List.length l)) l λf4 a8 f5=>
buildK [I 0, nilS, nilS] [(some (0,1),e9),(some (1,1),f1),(some (2,1),f4)] λf6=>
effD (boxE 3 (.agg [I 0, nilS, nilS]) (List.length a8)) a8 λm a9 f7=>
effD (stE 3 m f6 a9) a9 λh2 f8 f9=>
bif disjAll [(1,4),(4,6),(1,7),(1,9),(3,9),(4,9),(6,9),(7,9)] [([],[]),((idsOf a5),[]),([],[]),((idsOf a6),[]),f2,([],[]),((idsOf a7),[]),f5,([],[]),f7,f9] then (
callK (T 28) [e3,a2] f8 λg0 g1=>
rangeX T g0 (Z31) (Z30) (Z2O) (Z2P) (envT [(7,x5),(8,d),(9,e),(10,c),(13,f),(14,m)]) g1 λpd b=>
jumpC pd (
Z5Q P T D N K d e c f m b) (λi151=>bif i151==1 then (Z5Q P T D N K d e c f m b) else (none)) (
ldK 3 true d b λb0=>
ldK 3 true e b λb1=>
ldK 1 false c b λb2=>
K (.tup [b0,b1,b2]) b)) else none))
theorem Zpu(K:Kb β)(a0 a1 a2 a3:AV)(h:Hp):runK Tryz.prog T D N [0,1,2,3,4,5,7,8,9,10,11,13,14,15,16,17,18,20,21,32,63,64,65,75,84] Tryz.f7 K [a0,a1,a2,a3] h=Z3S Tryz.prog T D N K a0 a1 a2 a3 h:=by kernel_rfl
noncomputable def ZaQ(P:Program)(T:Tab)(D:DTab)(N:Nat){β:Type}(K:Kb β)(a0:AV)(h:Hp):Option β:=
effK (boxE 3 a0 (List.length h)) h λe f=>
effK (boxE 3 (.agg [I 0, I 0, nilS]) (List.length f)) f λg i=>
effK (bsE 10 zz10 0 [] (List.length i)) i λm b=>
faK 2 e λn=>
ldK 1 false n b λo=>
effK (appE 10 80 m o b (List.length b)) b λp c=>
faK 2 e λj=>
effK (stE 1 j p c) c λq a=>
ldK 3 true e a λk=>
effK (stE 3 g k a) a λr d=>
ldK 3 true g d λl=>
K l d
theorem Zpv(K:Kb β)(a0:AV)(h:Hp):runK Tryz.prog T D N [0,1,2] Tryz.f8 K [a0] h=ZaQ Tryz.prog T D N K a0 h:=by kernel_rfl
noncomputable def Z5R(P:Program)(T:Tab)(D:DTab)(N:Nat){β:Type}(K:Kb β)(a0:AV)(h:Hp):Option β:=
effK (boxE 3 a0 (List.length h)) h λi k=>
effK (boxE 3 (.agg [I 0, nilS, nilS]) (List.length k)) k λl j=>
faK 0 i λm=>
ldK 1 false m j λy=>
effD (bsE 2 zz2 0 [] (List.length j)) j λz b e9=>
faK 1 i λc=>
ldK 1 false c b λn=>
effD (appE 2 16 z n b (List.length b)) b λo d p=>
effD (bsE 7 zz7 0 [] (List.length d)) d λq a r=>
faK 2 i λe=>
ldK 1 false e a λs=>
effD (appE 7 56 q s a (List.length a)) a λt f u=>
buildK [I 0, nilS, nilS] [(some (0,1),y),(some (1,1),o),(some (2,1),t)] λv=>
effD (stE 3 l v f) f λa2 g w=>
bif disjAll [(1,2),(2,4),(1,5),(1,6),(2,6),(4,6),(5,6),(2,8),(5,8),(6,8),(1,9)] [([],[]),((idsOf m),[]),e9,([],[]),((idsOf c),[]),p,r,([],[]),((idsOf e),[]),u,([],[]),w] then (
ldK 3 true l g λx=>
K x g) else none
theorem Zpw(K:Kb β)(a0:AV)(h:Hp):runK Tryz.prog T D N [0,1,2] Tryz.f9 K [a0] h=Z5R Tryz.prog T D N K a0 h:=by kernel_rfl
noncomputable def Ziv(P:Program)(T:Tab)(D:DTab)(N:Nat){β:Type}(K:Kb β)(t:Tm)(h:Hp):Option β:=
ldK 3 true (t 11) h λc=>
ldK 3 true (t 12) h λd=>
effD (stE 3 (t 8) c h) h λj b e=>
effD (stE 3 (t 9) d b) b λk a f=>
bif disjAll [(1,2)] [((idsOf (t 11)),[]),((idsOf (t 12)),[]),e,f,([],[])] then (
ldK 3 true (t 8) a λg=>
ldK 3 true (t 9) a λi=>
K (.tup [g,i,(I 0)]) a) else none
noncomputable def Zpx(P:Program)(T:Tab)(D:DTab)(N:Nat){β:Type}(k:Ex→St→Option β)(t:Tm)(h:Hp):Option β:=
arithK .add (t 15) (I 1) λa=>
k .normal ((upd t 15 a),h)
noncomputable def Zfj(P:Program)(T:Tab)(D:DTab)(N:Nat){β:Type}(k:Ex→St→Option β)(t:Tm)(h:Hp):Option β:=
(Zpx P T D N k t h)
noncomputable def Z7y(P:Program)(T:Tab)(D:DTab)(N:Nat){β:Type}(t:Tm)(h:Hp)(k:Ex→St→Option β):Option β:=
lenK (t 13) λa8=>
arithK .lss (t 15) a8 λc=>
condK c (
reckK P .shr 29 (t 2) (t 15) λa9=>
reckK P .and 29 a9 (.s (.int .u64 1)) λb0=>
eqK P false 29 b0 (.s (.int .u64 0)) h λe=>
condK e (
(Zfj P T D N k (upd (upd t 51 c) 58 e) h)) (
ldK 3 true (t 12) h λb1=>
iaK 10 (t 13) (t 15) λq=>
ldK 10 true q h λb2=>
effD (callE (D 34) [b1,b2] h (List.length h)) h λl r b3=>
exK l 0 λb4=>
exK l 1 λb5=>
exK l 2 λc5=>
exK l 3 λf=>
effD (boxE 3 (.agg [I 0, nilS, nilS]) (List.length r)) r λg u b6=>
effD (boxE 2 (.agg zz2) (List.length u)) u λi v b7=>
effD (stE 3 g b4 v) v λb8 m w=>
effD (stE 2 i b5 m) m λb9 a x=>
bif disjAll [(0,11),(4,11),(5,11),(0,12),(4,12),(5,12),(11,12)] [((idsOf (t 12)),[]),([],[]),([],[]),([],[]),((idsOf q),[]),b3,([],[]),([],[]),([],[]),([],[]),([],[]),b6,b7,w,x,([],[]),([],[])] then (
eqK P true 35 f (I 0) a λd=>
condK d (
buildK [I 0, I 0, nilS] [] λy=>
buildK [I 0, nilS, nilS] [] λz=>
effK (stE 3 (t 8) y a) a λc0 n=>
effK (stE 3 (t 9) z n) n λc1 a0=>
k .ret ((upd (upd (upd (upd (upd (upd (upd t 51 c) 58 e) 16 g) 17 i) 19 f) 71 d) 10 f),a0)) (
ldK 3 true g a λa1=>
effK (stE 3 (t 12) a1 a) a λc2 b=>
reckK P .shr 29 (t 3) (t 15) λa2=>
reckK P .and 29 a2 (.s (.int .u64 1)) λa3=>
eqK P false 29 a3 (.s (.int .u64 1)) b λj=>
condK j (
ldK 3 true (t 11) b λa4=>
ldK 2 true i b λa5=>
callK (T 35) [a4,a5] b λo p=>
exK o 0 λa6=>
exK o 1 λc3=>
effK (stE 3 (t 11) a6 p) p λc4 a7=>
(Zfj P T D N k (upd (upd (upd (upd (upd (upd (upd t 51 c) 58 e) 16 g) 17 i) 19 f) 71 d) 80 j) a7)) (
(Zfj P T D N k (upd (upd (upd (upd (upd (upd (upd t 51 c) 58 e) 16 g) 17 i) 19 f) 71 d) 80 j) b)))) else none)) (
k (.exit 0) ((upd t 51 c),h))
noncomputable def ZaR(P:Program)(T:Tab)(D:DTab)(N:Nat){β:Type}(K:Kb β)(e:Ex)(s:St):Option β:=
 e.on ((Ziv P T D N K s.1 s.2))
 (λi=>bif i==0 then ((Ziv P T D N K s.1 s.2)) else (none))
 (ldK 3 true (s.1 8) s.2 λa=>
ldK 3 true (s.1 9) s.2 λb=>
K (.tup [a,b,(s.1 10)]) s.2)
noncomputable def Ziw(P:Program)(T:Tab)(D:DTab)(N:Nat){β:Type}(cL2:St→Option β)(K:Kb β)(a0 a1 a2 a3:AV)(h:Hp) :  Option β:=
effK (boxE 3 a0 (List.length h)) h λd x=>
effK (boxE 3 a1 (List.length x)) x λe y=>
effK (boxE 3 (.agg [I 0, I 0, nilS]) (List.length y)) y λf z=>
effK (boxE 3 (.agg [I 0, nilS, nilS]) (List.length z)) z λg h8=>
ldK 3 true d h8 λx9=>
callK (T 31) [x9] h8 λa5 b=>
eqK P true 35 a5 (I 0) b λa6=>
grpK false a6 b (λa7=>
ldK 3 true e b λa8=>
callK (T 32) [a8] b λa9 l=>
eqK P true 35 a9 (I 0) l λb0=>
a7 b0 l) λm a=>
condK m (
buildK [I 0, I 0, nilS] [] λb1=>
buildK [I 0, nilS, nilS] [] λb2=>
effK (stE 3 f b1 a) a λd9 n=>
effK (stE 3 g b2 n) n λe0 i=>
ldK 3 true f i λb3=>
ldK 3 true g i λb4=>
K (.tup [b3,b4,(I 1)]) i) (
faK 0 d λb5=>
ldK 1 false b5 a λb6=>
faK 0 e λb7=>
ldK 1 false b7 a λb8=>
eqK P false 3 b6 b8 a λo=>
condK o (
buildK [I 0, I 0, nilS] [] λb9=>
buildK [I 0, nilS, nilS] [] λc0=>
effK (stE 3 f b9 a) a λe1 p=>
effK (stE 3 g c0 p) p λe2 j=>
ldK 3 true f j λc1=>
ldK 3 true g j λc2=>
K (.tup [c1,c2,(I 10)]) j) (
ldK 3 true d a λc3=>
effD (callE (D 8) [c3] a (List.length a)) a λc4 c c5=>
ldK 3 true e c λc6=>
effD (callE (D 9) [c6] c (List.length c)) c λc7 q c8=>
effD (boxE 3 (.agg [I 0, I 0, nilS]) (List.length q)) q λr s c9=>
effD (boxE 3 (.agg [I 0, nilS, nilS]) (List.length s)) s λt u d0=>
effD (stE 3 r c4 u) u λe3 v d1=>
effD (stE 3 t c7 v) v λe4 k d2=>
bif disjAll [(1,2),(0,4),(1,4),(2,4),(3,4),(0,5),(1,5),(2,5),(3,5),(4,5)] [((idsOf d),[]),c5,((idsOf e),[]),c8,c9,d0,d1,d2] then (
ldK 3 true d k λd3=>
faK 0 e λd4=>
ldK 1 false d4 k λd5=>
callK (T 33) [d3,d5] k λw d6=>
exK w 0 λd7=>
exK w 1 λe5=>
cL2 ((upd (upd (upd (upd (upd (upd (upd (upd (upd (upd (upd (tm0 [a0,a1,a2,a3]) 4 d) 5 e) 8 f) 9 g) 10 (I 0)) 27 m) 34 o) 11 r) 12 t) 13 d7) 15 (I 0)),d6)) else none))
noncomputable def Zix(P:Program)(T:Tab)(D:DTab)(N:Nat){β:Type}(K:Kb β)(a0 a1 a2 a3:AV)(h:Hp):Option β:=Ziw P T D N (λs=>iterK (λs k=>Z7y P T D N s.1 s.2 k) N s (ZaR P T D N K)) K a0 a1 a2 a3 h
noncomputable def Z7z(P:Program)(T:Tab)(D:DTab)(N:Nat){β:Type}(K:Kb β)(e f b c:AV)(h:Hp):Option β:=
ldK 3 true b h λg=>
ldK 3 true c h λi=>
effD (stE 3 e g h) h λn d j=>
effD (stE 3 f i d) d λo a k=>
bif disjAll [(1,2)] [((idsOf b),[]),((idsOf c),[]),j,k,([],[])] then (
ldK 3 true e a λl=>
ldK 3 true f a λm=>
K (.tup [l,m,(I 0)]) a) else none
noncomputable def Ziy(P:Program)(T:Tab)(D:DTab)(N:Nat){β:Type}(xn:AV→AV→AV→AV→AV→AV→AV→Kb β)(k:AV→AV→AV→Kb β)(xr:AV→AV→Kb β)(f g i j a b c d:AV)(h:Hp):Option β:=
arithK .add d (I 1) λe=>
xn f g i j a b c e h
noncomputable def Z7A(P:Program)(T:Tab)(D:DTab)(N:Nat){β:Type}(xn:AV→AV→AV→AV→AV→AV→AV→Kb β)(e:AV→AV→AV→Kb β)(xr:AV→AV→Kb β)(f g i j a b c d:AV)(h:Hp):Option β:=
Ziy P T D N xn e xr f g i j a b c d h
noncomputable def Z5S(P:Program)(T:Tab)(D:DTab)(N:Nat){β:Type}(xn:AV→AV→AV→AV→AV→AV→AV→Kb β)(o:AV→AV→AV→Kb β)(xr:AV→AV→Kb β)(p q i j e b f c:AV)(h:Hp):Option β:=
lenK f λb3=>
arithK .lss c b3 λb4=>
condK b4 (
reckK P .shr 29 p c λb5=>
reckK P .and 29 b5 (.s (.int .u64 1)) λb6=>
eqK P false 29 b6 (.s (.int .u64 0)) h λb7=>
condK b7 (
Z7A P T D N xn o xr p q i j e b f c h) (
ldK 3 true b h λb8=>
iaK 10 f c λr=>
ldK 10 true r h λb9=>
effD (callE (D 34) [b8,b9] h (List.length h)) h λg t c0=>
exK g 0 λc1=>
exK g 1 λc2=>
exK g 2 λd2=>
exK g 3 λu=>
effD (boxE 3 (.agg [I 0, nilS, nilS]) (List.length t)) t λv w c3=>
effD (boxE 2 (.agg zz2) (List.length w)) w λx y c4=>
effD (stE 3 v c1 y) y λc5 k z=>
effD (stE 2 x c2 k) k λc6 a a0=>
bif disjAll [(0,11),(4,11),(5,11),(0,12),(4,12),(5,12),(11,12)] [((idsOf b),[]),([],[]),([],[]),([],[]),((idsOf r),[]),c0,([],[]),([],[]),([],[]),([],[]),([],[]),c3,c4,z,a0,([],[]),([],[])] then (
eqK P true 35 u (I 0) a λa1=>
condK a1 (
buildK [I 0, I 0, nilS] [] λa2=>
buildK [I 0, nilS, nilS] [] λa3=>
effK (stE 3 i a2 a) a λc7 l=>
effK (stE 3 j a3 l) l λc8 a4=>
xr i j u a4) (
ldK 3 true v a λa5=>
effK (stE 3 b a5 a) a λc9 d=>
reckK P .shr 29 q c λa6=>
reckK P .and 29 a6 (.s (.int .u64 1)) λa7=>
eqK P false 29 a7 (.s (.int .u64 1)) d λa8=>
condK a8 (
ldK 3 true e d λa9=>
ldK 2 true x d λb0=>
callK (T 35) [a9,b0] d λm n=>
exK m 0 λb1=>
exK m 1 λd0=>
effK (stE 3 e b1 n) n λd1 b2=>
Z7A P T D N xn o xr p q i j e b f c b2) (
Z7A P T D N xn o xr p q i j e b f c d))) else none)) (
o i j e b h)
noncomputable def Z3c(P:Program)(T:Tab)(D:DTab)(N:Nat){β:Type}(a:AV→AV→AV→Kb β)(xr:AV→AV→Kb β):Nat→AV→AV→AV→AV→AV→AV→AV→Kb β
 | 0=>λ_ _ _ _ _ _ _ _ _=>none
 | n+1=>λf g i j b c d e h=>Z5S P T D N (Z3c P T D N a xr n) a xr f g i j b c d e h
noncomputable def Z3T(P:Program)(T:Tab)(D:DTab)(N:Nat){β:Type}(K:Kb β)(a0 a1 a2 a3:AV)(h:Hp):Option β:=
effK (boxE 3 a0 (List.length h)) h λg h2=>
effK (boxE 3 a1 (List.length h2)) h2 λi h4=>
effK (boxE 3 (.agg [I 0, I 0, nilS]) (List.length h4)) h4 λj h6=>
effK (boxE 3 (.agg [I 0, nilS, nilS]) (List.length h6)) h6 λk h8=>
ldK 3 true g h8 λx9=>
callK (T 31) [x9] h8 λb2 b=>
eqK P true 35 b2 (I 0) b λb3=>
grpK false b3 b (λb4=>
ldK 3 true i b λb5=>
callK (T 32) [b5] b λb6 s=>
eqK P true 35 b6 (I 0) s λb7=>
b4 b7 s) λb8 a=>
condK b8 (
buildK [I 0, I 0, nilS] [] λb9=>
buildK [I 0, nilS, nilS] [] λc0=>
effK (stE 3 j b9 a) a λe8 t=>
effK (stE 3 k c0 t) t λe9 l=>
ldK 3 true j l λc1=>
ldK 3 true k l λc2=>
K (.tup [c1,c2,(I 1)]) l) (
faK 0 g λc3=>
ldK 1 false c3 a λc4=>
faK 0 i λc5=>
ldK 1 false c5 a λc6=>
eqK P false 3 c4 c6 a λc7=>
condK c7 (
buildK [I 0, I 0, nilS] [] λc8=>
buildK [I 0, nilS, nilS] [] λc9=>
effK (stE 3 j c8 a) a λf0 u=>
effK (stE 3 k c9 u) u λf1 m=>
ldK 3 true j m λd0=>
ldK 3 true k m λd1=>
K (.tup [d0,d1,(I 10)]) m) (
ldK 3 true g a λd2=>
effD (callE (D 8) [d2] a (List.length a)) a λd3 c d4=>
ldK 3 true i c λd5=>
effD (callE (D 9) [d5] c (List.length c)) c λd6 v d7=>
effD (boxE 3 (.agg [I 0, I 0, nilS]) (List.length v)) v λw x d8=>
effD (boxE 3 (.agg [I 0, nilS, nilS]) (List.length x)) x λy z d9=>
effD (stE 3 w d3 z) z λf2 a4 e0=>
effD (stE 3 y d6 a4) a4 λf3 n e1=>
bif disjAll [(1,2),(0,4),(1,4),(2,4),(3,4),(0,5),(1,5),(2,5),(3,5),(4,5)] [((idsOf g),[]),d4,((idsOf i),[]),d7,d8,d9,e0,e1] then (
ldK 3 true g n λe2=>
faK 0 i λe3=>
ldK 1 false e3 n λe4=>
callK (T 33) [e2,e4] n λa5 e5=>
exK a5 0 λe6=>
exK a5 1 λf4=>
Z3c P T D N (λo p d e h=>Z7z P T D N K o p d e h) (λq r f h=>ldK 3 true q h λa6=>
ldK 3 true r h λa7=>
K (.tup [a6,a7,f]) h) N a2 a3 j k w y e6 (I 0) e5) else none))
theorem Zpy(xn:AV→AV→AV→AV→AV→AV→AV→Kb β)(x0:AV→AV→AV→Kb β)(xr:AV→AV→Kb β)(xd:Nat→St→Option β)(xq:St→Option β)(t:Tm)(h:Hp):Z7y P T D N t h (λ(e:Ex)(s:St)=>e.on (xn (s.1 2) (s.1 3) (s.1 8) (s.1 9) (s.1 11) (s.1 12) (s.1 13) (s.1 15) s.2) (λi=>(bif i==0 then x0 (s.1 8) (s.1 9) (s.1 11) (s.1 12) s.2 else (xd i s))) (xr (s.1 8) (s.1 9) (s.1 10) s.2))=Z5S P T D N xn x0 xr (t 2) (t 3) (t 8) (t 9) (t 11) (t 12) (t 13) (t 15) h:=by kernel_rfl
theorem Zpz(A:Ex→St→Option β)(x0:AV→AV→AV→Kb β)(xr:AV→AV→Kb β)(q0:∀s,A (.exit 0) s=x0 (s.1 8) (s.1 9) (s.1 11) (s.1 12) s.2)(qr:∀s,A .ret s=xr (s.1 8) (s.1 9) (s.1 10) s.2):∀(n:Nat)(s:St),iterK (λs k=>Z7y P T D N s.1 s.2 k) n s A=Z3c P T D N x0 xr n (s.1 2) (s.1 3) (s.1 8) (s.1 9) (s.1 11) (s.1 12) (s.1 13) (s.1 15) s.2:=
 Z0O (exs1 q0 qr) (λs=>rfl) λn s=>Zpy P T D N (Z3c P T D N x0 xr n) x0 xr (λi s=>A (.exit i) s) (λs=>A .ret s) s.1 s.2
theorem ZpA(K:Kb β)(a0 a1 a2 a3:AV)(h:Hp):Zix P T D N K a0 a1 a2 a3 h=Z3T P T D N K a0 a1 a2 a3 h:=by
 have eL2:(λs:St=>iterK (λs k=>Z7y P T D N s.1 s.2 k) N s (ZaR P T D N K))=(λs:St=>Z3c P T D N (λw127_8 w127_9 w127_11 w127_12 h=>Z7z P T D N K w127_8 w127_9 w127_11 w127_12 h) (λw128_8 w128_9 w128_10 h=>ldK 3 true w128_8 h λr129=>
ldK 3 true w128_9 h λr130=>
K (.tup [r129,r130,w128_10]) h) N (s.1 2) (s.1 3) (s.1 8) (s.1 9) (s.1 11) (s.1 12) (s.1 13) (s.1 15) s.2):=funext λs=>Zpz P T D N (ZaR P T D N K) (λw127_8 w127_9 w127_11 w127_12 h=>Z7z P T D N K w127_8 w127_9 w127_11 w127_12 h) (λw128_8 w128_9 w128_10 h=>ldK 3 true w128_8 h λr129=>
ldK 3 true w128_9 h λr130=>
K (.tup [r129,r130,w128_10]) h) (λs=>rfl) (λs=>rfl) N s
 show Ziw P T D N (λs=>iterK (λs k=>Z7y P T D N s.1 s.2 k) N s (ZaR P T D N K)) K a0 a1 a2 a3 h=_
 rw[eL2]
 kernel_rfl
theorem ZpB(K:Kb β)(a0 a1 a2 a3:AV)(h:Hp):runK Tryz.prog T D N [0,1,2,3,4,5,8,9,10,11,12,13,15,16,17,19,27,34,51,58,71,80] Tryz.f10 K [a0,a1,a2,a3] h=Z3T Tryz.prog T D N K a0 a1 a2 a3 h:=Eq.trans (b:=Zix Tryz.prog T D N K a0 a1 a2 a3 h) (by kernel_rfl) (ZpA Tryz.prog T D N K a0 a1 a2 a3 h)
noncomputable def Z7B(P:Program)(T:Tab)(D:DTab)(N:Nat){β:Type}(K:Kb β)(a0:AV)(h:Hp):Option β:=
effK (boxE 3 a0 (List.length h)) h λb c=>
ldK 3 true b c λi=>
callK (T 22) [i] c λj a=>
eqK P true 35 j (I 0) a λk=>
condK k (
K (.tup [nilS,(I 1)]) a) (
faK 2 b λl=>
ldK 1 false l a λm=>
callK (T 36) [m] a λd e=>
exK d 0 λf=>
exK d 1 λg=>
K (.tup [f,g]) e)
theorem ZpC(K:Kb β)(a0:AV)(h:Hp):runK Tryz.prog T D N [0,1,2,3,6] Tryz.f11 K [a0] h=Z7B Tryz.prog T D N K a0 h:=by kernel_rfl
noncomputable def Z7C(P:Program)(T:Tab)(D:DTab)(N:Nat){β:Type}(K:Kb β)(a0:AV)(h:Hp):Option β:=
effK (boxE 3 a0 (List.length h)) h λb c=>
ldK 3 true b c λi=>
callK (T 32) [i] c λj a=>
eqK P true 35 j (I 0) a λk=>
condK k (
K (.tup [nilS,(I 1)]) a) (
faK 2 b λl=>
ldK 1 false l a λm=>
callK (T 37) [m] a λd e=>
exK d 0 λf=>
exK d 1 λg=>
K (.tup [f,g]) e)
theorem ZpD(K:Kb β)(a0:AV)(h:Hp):runK Tryz.prog T D N [0,1,2,3,6] Tryz.f12 K [a0] h=Z7C Tryz.prog T D N K a0 h:=by kernel_rfl
noncomputable def ZaS(P:Program)(T:Tab)(D:DTab)(N:Nat){β:Type}(K:Kb β)(a0 a1:AV)(h:Hp):Option β:=
effK (boxE 3 a0 (List.length h)) h λc e=>
effK (boxE 3 a1 (List.length e)) e λd a=>
faK 0 c λw=>
ldK 1 false w a λx=>
faK 0 d λy=>
ldK 1 false y a λz=>
eqK P false 3 x z a λx9=>
grpK true x9 a (λf=>
faK 1 c λg=>
ldK 1 false g a λi=>
faK 1 d λj=>
ldK 1 false j a λk=>
eqK P false 3 i k a λl=>
f l a) λm b=>
grpK true m b (λn=>
faK 2 c λo=>
ldK 1 false o b λp=>
faK 2 d λq=>
ldK 1 false q b λr=>
callK (T 38) [p,r] b λs t=>
n s t) λu v=>
K u v
theorem ZpE(K:Kb β)(a0 a1:AV)(h:Hp):runK Tryz.prog T D N [0,1,2,3,4] Tryz.f13 K [a0,a1] h=ZaS Tryz.prog T D N K a0 a1 h:=by kernel_rfl
noncomputable def Ziz(P:Program)(T:Tab)(D:DTab)(N:Nat){β:Type}(K:Kb β)(t:Tm)(h:Hp):Option β:=
faK 2 (t 2) λa=>
ldK 1 false a h λb=>
faK 2 (t 3) λc=>
ldK 1 false c h λd=>
callK (T 39) [b,d] h λe f=>
K e f
noncomputable def Z7D(P:Program)(T:Tab)(D:DTab)(N:Nat){β:Type}(t:Tm)(h:Hp)(k:Ex→St→Option β):Option β:=
faK 1 (t 2) λc=>
ldK 1 false c h λd=>
lenK d λe=>
arithK .lss (t 5) e λa=>
condK a (
faK 1 (t 2) λf=>
ldK 1 false f h λg=>
iaK 2 g (t 5) λi=>
ldK 2 true i h λj=>
faK 1 (t 3) λl=>
ldK 1 false l h λm=>
iaK 2 m (t 5) λn=>
ldK 2 true n h λo=>
eqK P true 60 j o h λb=>
condK b (
k .ret ((upd (upd (upd t 24 a) 37 b) 4 (.s (.bool false))),h)) (
arithK .add (t 5) (I 1) λp=>
k .normal ((upd (upd (upd t 24 a) 37 b) 5 p),h))) (
k (.exit 0) ((upd t 24 a),h))
noncomputable def ZaT(P:Program)(T:Tab)(D:DTab)(N:Nat){β:Type}(K:Kb β)(e:Ex)(s:St):Option β:=
 e.on ((Ziz P T D N K s.1 s.2))
 (λi=>bif i==0 then ((Ziz P T D N K s.1 s.2)) else (none))
 (K (s.1 4) s.2)
noncomputable def ZiA(P:Program)(T:Tab)(D:DTab)(N:Nat){β:Type}(cL2:St→Option β)(K:Kb β)(a0 a1:AV)(h:Hp) :  Option β:=
effK (boxE 3 a0 (List.length h)) h λd f=>
effK (boxE 3 a1 (List.length f)) f λe a=>
faK 0 d λp=>
ldK 1 false p a λq=>
faK 0 e λr=>
ldK 1 false r a λt=>
eqK P true 3 q t a λu=>
grpK false u a (λg=>
faK 1 d λi=>
ldK 1 false i a λj=>
lenK j λk=>
faK 1 e λl=>
ldK 1 false l a λm=>
lenK m λn=>
eqK P true 3 k n a λo=>
g o a) λb c=>
condK b (
K (.s (.bool false)) c) (
cL2 ((upd (upd (upd (upd (upd (tm0 [a0,a1]) 2 d) 3 e) 4 (.s (.bool false))) 19 b) 5 (I 0)),c))
noncomputable def ZiB(P:Program)(T:Tab)(D:DTab)(N:Nat){β:Type}(K:Kb β)(a0 a1:AV)(h:Hp):Option β:=ZiA P T D N (λs=>iterK (λs k=>Z7D P T D N s.1 s.2 k) N s (ZaT P T D N K)) K a0 a1 h
noncomputable def ZaU(P:Program)(T:Tab)(D:DTab)(N:Nat){β:Type}(K:Kb β)(g i:AV)(h:Hp):Option β:=
faK 2 g λa=>
ldK 1 false a h λb=>
faK 2 i λc=>
ldK 1 false c h λd=>
callK (T 39) [b,d] h λe f=>
K e f
noncomputable def Z7E(P:Program)(T:Tab)(D:DTab)(N:Nat){β:Type}(xn:AV→AV→Kb β)(t:AV→Kb β)(xr:Kb β)(a c b:AV)(h:Hp):Option β:=
faK 1 a λd=>
ldK 1 false d h λe=>
lenK e λf=>
arithK .lss b f λg=>
condK g (
faK 1 a λi=>
ldK 1 false i h λj=>
iaK 2 j b λk=>
ldK 2 true k h λl=>
faK 1 c λm=>
ldK 1 false m h λn=>
iaK 2 n b λo=>
ldK 2 true o h λp=>
eqK P true 60 l p h λq=>
condK q (
xr (.s (.bool false)) h) (
arithK .add b (I 1) λr=>
xn a c r h)) (
t a c h)
noncomputable def Z4w(P:Program)(T:Tab)(D:DTab)(N:Nat){β:Type}(a:AV→Kb β)(xr:Kb β):Nat→AV→AV→Kb β
 | 0=>λ_ _ _ _=>none
 | n+1=>λb c d h=>Z7E P T D N (Z4w P T D N a xr n) a xr b c d h
noncomputable def Z7F(P:Program)(T:Tab)(D:DTab)(N:Nat){β:Type}(K:Kb β)(a0 a1:AV)(h:Hp):Option β:=
effK (boxE 3 a0 (List.length h)) h λf i=>
effK (boxE 3 a1 (List.length i)) i λg a=>
faK 0 f λt=>
ldK 1 false t a λu=>
faK 0 g λv=>
ldK 1 false v a λw=>
eqK P true 3 u w a λx=>
grpK false x a (λj=>
faK 1 f λk=>
ldK 1 false k a λl=>
lenK l λm=>
faK 1 g λn=>
ldK 1 false n a λo=>
lenK o λp=>
eqK P true 3 m p a λq=>
j q a) λr e=>
condK r (
K (.s (.bool false)) e) (
Z4w P T D N (λb c h=>ZaU P T D N K b c h) (λd h=>K d h) N f g (I 0) e)
theorem ZpF(xn:AV→AV→Kb β)(x0:AV→Kb β)(xr:Kb β)(xd:Nat→St→Option β)(xq:St→Option β)(t:Tm)(h:Hp):Z7D P T D N t h (λ(e:Ex)(s:St)=>e.on (xn (s.1 2) (s.1 3) (s.1 5) s.2) (λi=>(bif i==0 then x0 (s.1 2) (s.1 3) s.2 else (xd i s))) (xr (s.1 4) s.2))=Z7E P T D N xn x0 xr (t 2) (t 3) (t 5) h:=by kernel_rfl
theorem ZpG(A:Ex→St→Option β)(x0:AV→Kb β)(xr:Kb β)(q0:∀s,A (.exit 0) s=x0 (s.1 2) (s.1 3) s.2)(qr:∀s,A .ret s=xr (s.1 4) s.2):∀(n:Nat)(s:St),iterK (λs k=>Z7D P T D N s.1 s.2 k) n s A=Z4w P T D N x0 xr n (s.1 2) (s.1 3) (s.1 5) s.2:=
 Z0O (exs1 q0 qr) (λs=>rfl) λn s=>ZpF P T D N (Z4w P T D N x0 xr n) x0 xr (λi s=>A (.exit i) s) (λs=>A .ret s) s.1 s.2
theorem ZpH(K:Kb β)(a0 a1:AV)(h:Hp):ZiB P T D N K a0 a1 h=Z7F P T D N K a0 a1 h:=by
 have eL2:(λs:St=>iterK (λs k=>Z7D P T D N s.1 s.2 k) N s (ZaT P T D N K))=(λs:St=>Z4w P T D N (λw40_2 w40_3 h=>ZaU P T D N K w40_2 w40_3 h) (λw41_4 h=>K w41_4 h) N (s.1 2) (s.1 3) (s.1 5) s.2):=funext λs=>ZpG P T D N (ZaT P T D N K) (λw40_2 w40_3 h=>ZaU P T D N K w40_2 w40_3 h) (λw41_4 h=>K w41_4 h) (λs=>rfl) (λs=>rfl) N s
 show ZiA P T D N (λs=>iterK (λs k=>Z7D P T D N s.1 s.2 k) N s (ZaT P T D N K)) K a0 a1 h=_
 rw[eL2]
 kernel_rfl
theorem ZpI(K:Kb β)(a0 a1:AV)(h:Hp):runK Tryz.prog T D N [0,1,2,3,4,5,19,24,37] Tryz.f14 K [a0,a1] h=Z7F Tryz.prog T D N K a0 a1 h:=Eq.trans (b:=ZiB Tryz.prog T D N K a0 a1 h) (by kernel_rfl) (ZpH Tryz.prog T D N K a0 a1 h)
noncomputable def ZiC(P:Program)(T:Tab)(D:DTab)(N:Nat){β:Type}(K:Kb β)(t:Tm)(h:Hp):Option β:=
K (.s (.bool true)) h
noncomputable def Z7G(P:Program)(T:Tab)(D:DTab)(N:Nat){β:Type}(t:Tm)(h:Hp)(k:Ex→St→Option β):Option β:=
lenK (t 0) λd=>
arithK .lss (t 5) d λb=>
condK b (
iaK 7 (t 0) (t 5) λe=>
ldK 7 true e h λf=>
iaK 7 (t 1) (t 5) λg=>
ldK 7 true g h λi=>
eqK P true 78 f i h λa=>
condK a (
k .ret ((upd (upd (upd t 14 b) 25 a) 4 (.s (.bool false))),h)) (
arithK .add (t 5) (I 1) λc=>
k .normal ((upd (upd (upd t 14 b) 25 a) 5 c),h))) (
k (.exit 0) ((upd t 14 b),h))
noncomputable def ZaV(P:Program)(T:Tab)(D:DTab)(N:Nat){β:Type}(K:Kb β)(e:Ex)(s:St):Option β:=
 e.on ((ZiC P T D N K s.1 s.2))
 (λi=>bif i==0 then ((ZiC P T D N K s.1 s.2)) else (none))
 (K (s.1 4) s.2)
noncomputable def ZiD(P:Program)(T:Tab)(D:DTab)(N:Nat){β:Type}(cL2:St→Option β)(K:Kb β)(a0 a1:AV)(h:Hp) :  Option β:=
lenK a0 λb=>
lenK a1 λc=>
eqK P true 3 b c h λa=>
condK a (
K (.s (.bool false)) h) (
cL2 ((upd (upd (upd (tm0 [a0,a1]) 4 (.s (.bool false))) 10 a) 5 (I 0)),h))
noncomputable def ZiE(P:Program)(T:Tab)(D:DTab)(N:Nat){β:Type}(K:Kb β)(a0 a1:AV)(h:Hp):Option β:=ZiD P T D N (λs=>iterK (λs k=>Z7G P T D N s.1 s.2 k) N s (ZaV P T D N K)) K a0 a1 h
noncomputable def ZaW(P:Program)(T:Tab)(D:DTab)(N:Nat){β:Type}(K:Kb β)(h:Hp):Option β:=
K (.s (.bool true)) h
noncomputable def Z7H(P:Program)(T:Tab)(D:DTab)(N:Nat){β:Type}(xn:AV→AV→Kb β)(f:Qb β)(xr:Kb β)(b c a:AV)(h:Hp):Option β:=
lenK b λg=>
arithK .lss a g λi=>
condK i (
iaK 7 b a λj=>
ldK 7 true j h λk=>
iaK 7 c a λl=>
ldK 7 true l h λm=>
eqK P true 78 k m h λd=>
condK d (
xr (.s (.bool false)) h) (
arithK .add a (I 1) λe=>
xn b c e h)) (
f h)
noncomputable def Z4x(P:Program)(T:Tab)(D:DTab)(N:Nat){β:Type}(a:Qb β)(xr:Kb β):Nat→AV→AV→Kb β
 | 0=>λ_ _ _ _=>none
 | n+1=>λb c d h=>Z7H P T D N (Z4x P T D N a xr n) a xr b c d h
noncomputable def Z5T(P:Program)(T:Tab)(D:DTab)(N:Nat){β:Type}(K:Kb β)(a0 a1:AV)(h:Hp):Option β:=
lenK a0 λb=>
lenK a1 λc=>
eqK P true 3 b c h λd=>
condK d (
K (.s (.bool false)) h) (
Z4x P T D N (λh=>ZaW P T D N K h) (λa h=>K a h) N a0 a1 (I 0) h)
theorem ZpJ(xn:AV→AV→Kb β)(x0:Qb β)(xr:Kb β)(xd:Nat→St→Option β)(xq:St→Option β)(t:Tm)(h:Hp):Z7G P T D N t h (λ(e:Ex)(s:St)=>e.on (xn (s.1 0) (s.1 1) (s.1 5) s.2) (λi=>(bif i==0 then x0 s.2 else (xd i s))) (xr (s.1 4) s.2))=Z7H P T D N xn x0 xr (t 0) (t 1) (t 5) h:=by kernel_rfl
theorem ZpK(A:Ex→St→Option β)(x0:Qb β)(xr:Kb β)(q0:∀s,A (.exit 0) s=x0 s.2)(qr:∀s,A .ret s=xr (s.1 4) s.2):∀(n:Nat)(s:St),iterK (λs k=>Z7G P T D N s.1 s.2 k) n s A=Z4x P T D N x0 xr n (s.1 0) (s.1 1) (s.1 5) s.2:=
 Z0O (exs1 q0 qr) (λs=>rfl) λn s=>ZpJ P T D N (Z4x P T D N x0 xr n) x0 xr (λi s=>A (.exit i) s) (λs=>A .ret s) s.1 s.2
theorem ZpL(K:Kb β)(a0 a1:AV)(h:Hp):ZiE P T D N K a0 a1 h=Z5T P T D N K a0 a1 h:=by
 have eL2:(λs:St=>iterK (λs k=>Z7G P T D N s.1 s.2 k) N s (ZaV P T D N K))=(λs:St=>Z4x P T D N (λh=>ZaW P T D N K h) (λw13_4 h=>K w13_4 h) N (s.1 0) (s.1 1) (s.1 5) s.2):=funext λs=>ZpK P T D N (ZaV P T D N K) (λh=>ZaW P T D N K h) (λw13_4 h=>K w13_4 h) (λs=>rfl) (λs=>rfl) N s
 show ZiD P T D N (λs=>iterK (λs k=>Z7G P T D N s.1 s.2 k) N s (ZaV P T D N K)) K a0 a1 h=_
 rw[eL2]
 kernel_rfl
theorem ZpM(K:Kb β)(a0 a1:AV)(h:Hp):runK Tryz.prog T D N [0,1,4,5,10,14,25] Tryz.f15 K [a0,a1] h=Z5T Tryz.prog T D N K a0 a1 h:=Eq.trans (b:=ZiE Tryz.prog T D N K a0 a1 h) (by kernel_rfl) (ZpL Tryz.prog T D N K a0 a1 h)
noncomputable def Z7I(P:Program)(T:Tab)(D:DTab)(N:Nat){β:Type}(K:Kb β)(a0:AV)(h:Hp):Option β:=
effK (boxE 3 (.agg [I 0, I 0, nilS]) (List.length h)) h λa g=>
callK (T 40) [a0] g λi b=>
notK i λj=>
condK j (
buildK [I 0, I 0, nilS] [] λk=>
effK (stE 3 a k b) b λn d=>
ldK 3 true a d λl=>
K (.tup [l,(I 2)]) d) (
buildK [I 0, I 0, nilS] [(some (0,1),a0),(some (1,1),(I 1))] λe=>
effK (stE 3 a e b) b λm c=>
ldK 3 true a c λf=>
K (.tup [f,(I 0)]) c)
theorem ZpN(K:Kb β)(a0:AV)(h:Hp):runK Tryz.prog T D N [0,2,3,6] Tryz.f16 K [a0] h=Z7I Tryz.prog T D N K a0 h:=by kernel_rfl
noncomputable def ZiF(P:Program)(T:Tab)(D:DTab)(N:Nat){β:Type}(K:Kb β)(v1 k v l m w:AV)(h:Hp):Option β:=
eqK P true 35 w (I 0) h λx9=>
condK x9 (
buildK [I 0, I 0, nilS] [] λx=>
buildK zz10 [] λy=>
effK (stE 3 l x h) h λd0 n=>
effK (stE 10 m y n) n λd1 f=>
ldK 3 true l f λz=>
ldK 10 true m f λa0=>
K (.tup [z,a0,w]) f) (
ldK 3 true k h λa1=>
effD (callE (D 42) [a1] h (List.length h)) h λa2 b a3=>
faK 0 k λo=>
ldK 1 false o b λa4=>
faK 1 k λp=>
ldK 1 false p b λa5=>
ldK 7 true v b λa6=>
buildK zz10 [(some (0,1),a4),(some (1,1),v1),(some (2,1),a5),(some (3,7),a6)] λa7=>
effD (boxE 3 (.agg [I 0, I 0, nilS]) (List.length b)) b λa q a8=>
effD (boxE 10 (.agg zz10) (List.length q)) q λc r a9=>
effD (stE 3 a a2 r) r λd2 s b0=>
effD (stE 10 c a7 s) s λd3 d b1=>
bif disjAll [(1,3),(1,6),(1,7),(0,9),(1,9),(3,9),(6,9),(7,9),(0,10),(1,10),(3,10),(6,10),(7,10),(9,10),(3,11),(6,11),(7,11)] [((idsOf k),[]),a3,([],[]),((idsOf o),[]),([],[]),([],[]),((idsOf p),[]),((idsOf v),[]),([],[]),a8,a9,b0,b1] then (
faK 2 a λb2=>
ldK 1 false b2 d λb3=>
ldK 10 true c d λb4=>
effK (bsE 10 zz10 1 [(0,b4)] (List.length d)) d λb5 g=>
effK (appE 10 80 b3 b5 g (List.length g)) g λb6 t=>
faK 2 a λb7=>
effK (stE 1 b7 b6 t) t λd4 i=>
faK 1 a λb8=>
ldK 1 false b8 i λb9=>
arithK .add b9 (I 1) λc0=>
faK 1 a λc1=>
effK (stE 1 c1 c0 i) i λd5 e=>
ldK 3 true a e λc2=>
ldK 10 true c e λc3=>
effD (stE 3 l c2 e) e λd6 u c4=>
effD (stE 10 m c3 u) u λd7 j c5=>
bif disjAll [(1,2)] [((idsOf a),[]),((idsOf c),[]),c4,c5,([],[])] then (
ldK 3 true l j λc6=>
ldK 10 true m j λc7=>
K (.tup [c6,c7,(I 0)]) j) else none) else none)
noncomputable def Z3U(P:Program)(T:Tab)(D:DTab)(N:Nat){β:Type}(K:Kb β)(a b c d e f:AV)(h:Hp):Option β:=
ZiF P T D N K a b c d e f h
noncomputable def ZaX(P:Program)(T:Tab)(D:DTab)(N:Nat){β:Type}(K:Kb β)(a0 a1 a2:AV)(h:Hp):Option β:=
effK (boxE 3 a0 (List.length h)) h λb i=>
effK (boxE 7 a2 (List.length i)) i λd j=>
effK (boxE 3 (.agg [I 0, I 0, nilS]) (List.length j)) j λe k=>
effK (boxE 10 (.agg zz10) (List.length k)) k λf l=>
ldK 3 true b l λm=>
callK (T 23) [m] l λn g=>
eqK P true 35 n (I 0) g λo=>
condK o (
Z3U P T D N K a1 b d e f (I 1) g) (
callK (T 40) [a1] g λp c=>
notK p λq=>
condK q (
Z3U P T D N K a1 b d e f (I 2) c) (
faK 0 b λr=>
ldK 1 false r c λs=>
eqK P false 3 a1 s c λt=>
condK t (
Z3U P T D N K a1 b d e f (I 10) c) (
ldK 7 true d c λu=>
callK (T 41) [u] c λv a=>
eqK P true 35 v (I 0) a λw=>
condK w (
Z3U P T D N K a1 b d e f (I 11) a) (
faK 2 b λx=>
ldK 1 false x a λy=>
lenK y λz=>
eqK P false 3 z (I 64) a λa3=>
condK a3 (
Z3U P T D N K a1 b d e f (I 12) a) (
faK 1 b λa4=>
ldK 1 false a4 a λa5=>
arithK .gtr a5 (I 1073741824) λa6=>
condK a6 (
Z3U P T D N K a1 b d e f (I 15) a) (
Z3U P T D N K a1 b d e f (I 0) a))))))
theorem ZpO(K:Kb β)(a0 a1 a2:AV)(h:Hp):runK Tryz.prog T D N [0,1,2,3,5,6,7,8,9,10,11,12,16,20,25,29,34,39] Tryz.f17 K [a0,a1,a2] h=ZaX Tryz.prog T D N K a0 a1 a2 h:=by kernel_rfl
noncomputable def ZaY(P:Program)(T:Tab)(D:DTab)(N:Nat){β:Type}(K:Kb β)(a0:AV)(h:Hp):Option β:=
effK (boxE 7 (.agg zz7) (List.length h)) h λa b=>
buildK zz7 [(some (0,1),a0),(some (1,1),(I 1)),(some (4,1),(I 1)),(some (5,1),(I 2)),(some (6,1),(I 10))] λd=>
effK (stE 7 a d b) b λf c=>
ldK 7 true a c λe=>
K e c
theorem ZpP(K:Kb β)(a0:AV)(h:Hp):runK Tryz.prog T D N [0,2] Tryz.f18 K [a0] h=ZaY Tryz.prog T D N K a0 h:=by kernel_rfl
noncomputable def Z7J(P:Program)(T:Tab)(D:DTab)(N:Nat){β:Type}(K:Kb β)(a0:AV)(h:Hp):Option β:=
effK (boxE 3 (.agg [I 0, nilS, nilS]) (List.length h)) h λa g=>
callK (T 43) [a0] g λi b=>
notK i λj=>
condK j (
buildK [I 0, nilS, nilS] [] λk=>
effK (stE 3 a k b) b λn d=>
ldK 3 true a d λl=>
K (.tup [l,(I 2)]) d) (
buildK [I 0, nilS, nilS] [(some (0,1),a0)] λe=>
effK (stE 3 a e b) b λm c=>
ldK 3 true a c λf=>
K (.tup [f,(I 0)]) c)
theorem ZpQ(K:Kb β)(a0:AV)(h:Hp):runK Tryz.prog T D N [0,2,3,6] Tryz.f19 K [a0] h=Z7J Tryz.prog T D N K a0 h:=by kernel_rfl
noncomputable def ZaZ(P:Program)(T:Tab)(D:DTab)(N:Nat){β:Type}(K:Kb β)(a0 a1:AV)(h:Hp):Option β:=
effK (boxE 3 a0 (List.length h)) h λd e=>
effK (boxE 3 a1 (List.length e)) e λf g=>
ldK 3 true d g λv=>
callK (T 22) [v] g λw b=>
eqK P false 35 w (I 0) b λx=>
grpK true x b (λy=>
ldK 3 true f b λi=>
callK (T 22) [i] b λj c=>
eqK P false 35 j (I 0) c λk=>
y k c) λl a=>
grpK true l a (λm=>
faK 2 d λn=>
ldK 1 false n a λo=>
faK 2 f λp=>
ldK 1 false p a λq=>
callK (T 44) [o,q] a λr s=>
m r s) λt u=>
K t u
theorem ZpR(K:Kb β)(a0 a1:AV)(h:Hp):runK Tryz.prog T D N [0,1,2,3,4] Tryz.f20 K [a0,a1] h=ZaZ Tryz.prog T D N K a0 a1 h:=by kernel_rfl
noncomputable def ZiG(P:Program)(T:Tab)(D:DTab)(N:Nat){β:Type}(K:Kb β)(t:Tm)(h:Hp):Option β:=
K (.s (.bool true)) h
noncomputable def Z7K(P:Program)(T:Tab)(D:DTab)(N:Nat){β:Type}(t:Tm)(h:Hp)(k:Ex→St→Option β):Option β:=
arithK .lss (t 13) (t 12) λb=>
condK b (
iaK 2 (t 0) (t 13) λd=>
ldK 2 true d h λe=>
iaK 2 (t 1) (t 13) λf=>
ldK 2 true f h λg=>
eqK P true 60 e g h λa=>
condK a (
k .ret ((upd (upd (upd (upd t 14 b) 5 (t 13)) 24 a) 4 (.s (.bool false))),h)) (
arithK .add (t 13) (I 1) λc=>
k .normal ((upd (upd (upd (upd t 14 b) 5 (t 13)) 24 a) 13 c),h))) (
k (.exit 0) ((upd t 14 b),h))
noncomputable def Zb0(P:Program)(T:Tab)(D:DTab)(N:Nat){β:Type}(K:Kb β)(e:Ex)(s:St):Option β:=
 e.on ((ZiG P T D N K s.1 s.2))
 (λi=>bif i==0 then ((ZiG P T D N K s.1 s.2)) else (none))
 (K (s.1 4) s.2)
noncomputable def ZiH(P:Program)(T:Tab)(D:DTab)(N:Nat){β:Type}(cL2:St→Option β)(K:Kb β)(a0 a1:AV)(h:Hp) :  Option β:=
lenK a0 λb=>
lenK a1 λc=>
eqK P true 3 b c h λa=>
condK a (
K (.s (.bool false)) h) (
lenK a0 λd=>
cL2 ((upd (upd (upd (upd (tm0 [a0,a1]) 4 (.s (.bool false))) 10 a) 12 d) 13 (I 0)),h))
noncomputable def ZiI(P:Program)(T:Tab)(D:DTab)(N:Nat){β:Type}(K:Kb β)(a0 a1:AV)(h:Hp):Option β:=ZiH P T D N (λs=>iterK (λs k=>Z7K P T D N s.1 s.2 k) N s (Zb0 P T D N K)) K a0 a1 h
noncomputable def Zb1(P:Program)(T:Tab)(D:DTab)(N:Nat){β:Type}(K:Kb β)(h:Hp):Option β:=
K (.s (.bool true)) h
noncomputable def Z7L(P:Program)(T:Tab)(D:DTab)(N:Nat){β:Type}(xn:AV→AV→AV→Kb β)(g:Qb β)(xr:Kb β)(c d b a:AV)(h:Hp):Option β:=
arithK .lss a b λi=>
condK i (
iaK 2 c a λj=>
ldK 2 true j h λk=>
iaK 2 d a λl=>
ldK 2 true l h λm=>
eqK P true 60 k m h λe=>
condK e (
xr (.s (.bool false)) h) (
arithK .add a (I 1) λf=>
xn c d b f h)) (
g h)
noncomputable def Z4y(P:Program)(T:Tab)(D:DTab)(N:Nat){β:Type}(a:Qb β)(xr:Kb β):Nat→AV→AV→AV→Kb β
 | 0=>λ_ _ _ _ _=>none
 | n+1=>λd e b c h=>Z7L P T D N (Z4y P T D N a xr n) a xr d e b c h
noncomputable def Z5U(P:Program)(T:Tab)(D:DTab)(N:Nat){β:Type}(K:Kb β)(a0 a1:AV)(h:Hp):Option β:=
lenK a0 λb=>
lenK a1 λc=>
eqK P true 3 b c h λd=>
condK d (
K (.s (.bool false)) h) (
lenK a0 λe=>
Z4y P T D N (λh=>Zb1 P T D N K h) (λa h=>K a h) N a0 a1 e (I 0) h)
theorem ZpS(xn:AV→AV→AV→Kb β)(x0:Qb β)(xr:Kb β)(xd:Nat→St→Option β)(xq:St→Option β)(t:Tm)(h:Hp):Z7K P T D N t h (λ(e:Ex)(s:St)=>e.on (xn (s.1 0) (s.1 1) (s.1 12) (s.1 13) s.2) (λi=>(bif i==0 then x0 s.2 else (xd i s))) (xr (s.1 4) s.2))=Z7L P T D N xn x0 xr (t 0) (t 1) (t 12) (t 13) h:=by kernel_rfl
theorem ZpT(A:Ex→St→Option β)(x0:Qb β)(xr:Kb β)(q0:∀s,A (.exit 0) s=x0 s.2)(qr:∀s,A .ret s=xr (s.1 4) s.2):∀(n:Nat)(s:St),iterK (λs k=>Z7K P T D N s.1 s.2 k) n s A=Z4y P T D N x0 xr n (s.1 0) (s.1 1) (s.1 12) (s.1 13) s.2:=
 Z0O (exs1 q0 qr) (λs=>rfl) λn s=>ZpS P T D N (Z4y P T D N x0 xr n) x0 xr (λi s=>A (.exit i) s) (λs=>A .ret s) s.1 s.2
theorem ZpU(K:Kb β)(a0 a1:AV)(h:Hp):ZiI P T D N K a0 a1 h=Z5U P T D N K a0 a1 h:=by
 have eL2:(λs:St=>iterK (λs k=>Z7K P T D N s.1 s.2 k) N s (Zb0 P T D N K))=(λs:St=>Z4y P T D N (λh=>Zb1 P T D N K h) (λw13_4 h=>K w13_4 h) N (s.1 0) (s.1 1) (s.1 12) (s.1 13) s.2):=funext λs=>ZpT P T D N (Zb0 P T D N K) (λh=>Zb1 P T D N K h) (λw13_4 h=>K w13_4 h) (λs=>rfl) (λs=>rfl) N s
 show ZiH P T D N (λs=>iterK (λs k=>Z7K P T D N s.1 s.2 k) N s (Zb0 P T D N K)) K a0 a1 h=_
 rw[eL2]
 kernel_rfl
theorem ZpV(K:Kb β)(a0 a1:AV)(h:Hp):runK Tryz.prog T D N [0,1,4,5,10,12,13,14,24] Tryz.f21 K [a0,a1] h=Z5U Tryz.prog T D N K a0 a1 h:=Eq.trans (b:=ZiI Tryz.prog T D N K a0 a1 h) (by kernel_rfl) (ZpU Tryz.prog T D N K a0 a1 h)
noncomputable def ZiJ(P:Program)(T:Tab)(D:DTab)(N:Nat){β:Type}(K:Kb β)(t:Tm)(h:Hp):Option β:=
faK 2 (t 1) λd=>
ldK 1 false d h λe=>
callK (T 46) [e] h λc b=>
exK c 0 λf=>
exK c 1 λg=>
eqK P true 35 g (I 0) b λi=>
grpK false i b (λj=>
faK 2 (t 1) λk=>
ldK 1 false k b λl=>
callK (T 44) [f,l] b λm n=>
notK m λo=>
j o n) λp a=>
condK p (
K (I 1) a) (
faK 2 (t 1) λq=>
ldK 1 false q a λr=>
lenK r λs=>
faK 1 (t 1) λu=>
ldK 1 false u a λv=>
lenK v λw=>
arithK .gtr s w λx=>
condK x (
K (I 10) a) (
K (I 0) a))
noncomputable def Z7M(P:Program)(T:Tab)(D:DTab)(N:Nat){β:Type}(t:Tm)(h:Hp)(k:Ex→St→Option β):Option β:=
arithK .lss (t 26) (t 25) λc=>
condK c (
iaK 2 (t 24) (t 26) λn=>
ldK 2 true n h λo=>
effK (boxE 2 (.agg zz2) (List.length h)) h λa j=>
effK (stE 2 a o j) j λb9 l=>
faK 0 a λp=>
ldK 1 false p l λq=>
callK (T 43) [q] l λr f=>
notK r λs=>
grpK false s f (λu=>
faK 1 a λv=>
ldK 1 false v f λw=>
arithK .lss w (I 1) λx=>
u x f) λy g=>
grpK false y g (λz=>
faK 1 a λa0=>
ldK 1 false a0 g λa1=>
arithK .gtr a1 (I 1073741824) λa2=>
z a2 g) λd b=>
condK d (
k .ret ((upd (upd (upd (upd (upd t 27 c) 4 a) 3 (t 26)) 31 d) 2 (I 2)),b)) (
faK 0 a λa3=>
ldK 1 false a3 b λa4=>
faK 0 (t 1) λa5=>
ldK 1 false a5 b λa6=>
eqK P false 3 a4 a6 b λe=>
condK e (
k .ret ((upd (upd (upd (upd (upd (upd t 27 c) 4 a) 3 (t 26)) 31 d) 46 e) 2 (I 10)),b)) (
arithK .gtr (t 26) (I 0) λa7=>
grpK true a7 b (λa8=>
faK 1 (t 1) λa9=>
ldK 1 false a9 b λb0=>
arithK .sub (t 26) (I 1) λb1=>
iaK 2 b0 b1 λb2=>
ldK 2 true b2 b λb3=>
ldK 2 true a b λb4=>
callK (T 45) [b3,b4] b λb5 b6=>
arithK .geq b5 (I 0) λb7=>
a8 b7 b6) λi m=>
condK i (
k .ret ((upd (upd (upd (upd (upd (upd (upd t 27 c) 4 a) 3 (t 26)) 31 d) 46 e) 52 i) 2 (I 5)),m)) (
arithK .add (t 26) (I 1) λb8=>
k .normal ((upd (upd (upd (upd (upd (upd (upd t 27 c) 4 a) 3 (t 26)) 31 d) 46 e) 52 i) 26 b8),m))))) (
k (.exit 1) ((upd t 27 c),h))
noncomputable def Zb2(P:Program)(T:Tab)(D:DTab)(N:Nat){β:Type}(K:Kb β)(e:Ex)(s:St):Option β:=
 e.on ((ZiJ P T D N K s.1 s.2))
 (λi=>bif i==1 then ((ZiJ P T D N K s.1 s.2)) else (none))
 (K (s.1 2) s.2)
noncomputable def ZiK(P:Program)(T:Tab)(D:DTab)(N:Nat){β:Type}(cL2:St→Option β)(K:Kb β)(a0:AV)(h:Hp) :  Option β:=
effK (boxE 3 a0 (List.length h)) h λa f=>
faK 0 a λr=>
ldK 1 false r f λs=>
callK (T 43) [s] f λt b=>
notK t λg=>
condK g (
K (I 2) b) (
faK 1 a λu=>
ldK 1 false u b λv=>
lenK v λi=>
arithK .gtr i (I 256) λj=>
grpK false j b (λk=>
faK 2 a λl=>
ldK 1 false l b λm=>
lenK m λn=>
arithK .gtr n (I 64) λo=>
k o b) λd c=>
condK d (
K (I 8) c) (
faK 1 a λp=>
ldK 1 false p c λe=>
lenK e λq=>
cL2 ((upd (upd (upd (upd (upd (upd (upd (tm0 [a0]) 1 a) 2 (I 0)) 7 g) 12 d) 24 e) 25 q) 26 (I 0)),c)))
noncomputable def ZiL(P:Program)(T:Tab)(D:DTab)(N:Nat){β:Type}(K:Kb β)(a0:AV)(h:Hp):Option β:=ZiK P T D N (λs=>iterK (λs k=>Z7M P T D N s.1 s.2 k) N s (Zb2 P T D N K)) K a0 h
noncomputable def Zb3(P:Program)(T:Tab)(D:DTab)(N:Nat){β:Type}(K:Kb β)(c:AV)(h:Hp):Option β:=
faK 2 c λe=>
ldK 1 false e h λf=>
callK (T 46) [f] h λd b=>
exK d 0 λg=>
exK d 1 λi=>
eqK P true 35 i (I 0) b λj=>
grpK false j b (λk=>
faK 2 c λl=>
ldK 1 false l b λm=>
callK (T 44) [g,m] b λn o=>
notK n λp=>
k p o) λq a=>
condK q (
K (I 1) a) (
faK 2 c λr=>
ldK 1 false r a λs=>
lenK s λt=>
faK 1 c λu=>
ldK 1 false u a λv=>
lenK v λw=>
arithK .gtr t w λx=>
condK x (
K (I 10) a) (
K (I 0) a))
noncomputable def Z7N(P:Program)(T:Tab)(D:DTab)(N:Nat){β:Type}(xn:AV→AV→AV→Kb β)(x1:Kb β)(xr:Kb β)(f g i c:AV)(h:Hp):Option β:=
arithK .lss c i λm=>
condK m (
iaK 2 g c λn=>
ldK 2 true n h λo=>
effK (boxE 2 (.agg zz2) (List.length h)) h λb j=>
effK (stE 2 b o j) j λc2 k=>
faK 0 b λp=>
ldK 1 false p k λq=>
callK (T 43) [q] k λr d=>
notK r λs=>
grpK false s d (λt=>
faK 1 b λu=>
ldK 1 false u d λv=>
arithK .lss v (I 1) λw=>
t w d) λx e=>
grpK false x e (λy=>
faK 1 b λz=>
ldK 1 false z e λa0=>
arithK .gtr a0 (I 1073741824) λa1=>
y a1 e) λa2 a=>
condK a2 (
xr (I 2) a) (
faK 0 b λa3=>
ldK 1 false a3 a λa4=>
faK 0 f λa5=>
ldK 1 false a5 a λa6=>
eqK P false 3 a4 a6 a λa7=>
condK a7 (
xr (I 10) a) (
arithK .gtr c (I 0) λa8=>
grpK true a8 a (λa9=>
faK 1 f λb0=>
ldK 1 false b0 a λb1=>
arithK .sub c (I 1) λb2=>
iaK 2 b1 b2 λb3=>
ldK 2 true b3 a λb4=>
ldK 2 true b a λb5=>
callK (T 45) [b4,b5] a λb6 b7=>
arithK .geq b6 (I 0) λb8=>
a9 b8 b7) λb9 l=>
condK b9 (
xr (I 5) l) (
arithK .add c (I 1) λc0=>
xn f g i c0 l)))) (
x1 f h)
noncomputable def Z4z(P:Program)(T:Tab)(D:DTab)(N:Nat){β:Type}(a:Kb β)(xr:Kb β):Nat→AV→AV→AV→Kb β
 | 0=>λ_ _ _ _ _=>none
 | n+1=>λe b c d h=>Z7N P T D N (Z4z P T D N a xr n) a xr e b c d h
noncomputable def Z7O(P:Program)(T:Tab)(D:DTab)(N:Nat){β:Type}(K:Kb β)(a0:AV)(h:Hp):Option β:=
effK (boxE 3 a0 (List.length h)) h λa g=>
faK 0 a λs=>
ldK 1 false s g λt=>
callK (T 43) [t] g λu b=>
notK u λv=>
condK v (
K (I 2) b) (
faK 1 a λw=>
ldK 1 false w b λx=>
lenK x λi=>
arithK .gtr i (I 256) λj=>
grpK false j b (λk=>
faK 2 a λl=>
ldK 1 false l b λm=>
lenK m λn=>
arithK .gtr n (I 64) λo=>
k o b) λp c=>
condK p (
K (I 8) c) (
faK 1 a λq=>
ldK 1 false q c λf=>
lenK f λr=>
Z4z P T D N (λd h=>Zb3 P T D N K d h) (λe h=>K e h) N a f r (I 0) c))
theorem ZpW(xn:AV→AV→AV→Kb β)(x1:Kb β)(xr:Kb β)(xd:Nat→St→Option β)(xq:St→Option β)(t:Tm)(h:Hp):Z7M P T D N t h (λ(e:Ex)(s:St)=>e.on (xn (s.1 1) (s.1 24) (s.1 25) (s.1 26) s.2) (λi=>(bif i==1 then x1 (s.1 1) s.2 else (xd i s))) (xr (s.1 2) s.2))=Z7N P T D N xn x1 xr (t 1) (t 24) (t 25) (t 26) h:=by kernel_rfl
theorem ZpX(A:Ex→St→Option β)(x1:Kb β)(xr:Kb β)(q1:∀s,A (.exit 1) s=x1 (s.1 1) s.2)(qr:∀s,A .ret s=xr (s.1 2) s.2):∀(n:Nat)(s:St),iterK (λs k=>Z7M P T D N s.1 s.2 k) n s A=Z4z P T D N x1 xr n (s.1 1) (s.1 24) (s.1 25) (s.1 26) s.2:=
 Z0O (exs1 q1 qr) (λs=>rfl) λn s=>ZpW P T D N (Z4z P T D N x1 xr n) x1 xr (λi s=>A (.exit i) s) (λs=>A .ret s) s.1 s.2
theorem ZpY(K:Kb β)(a0:AV)(h:Hp):ZiL P T D N K a0 h=Z7O P T D N K a0 h:=by
 have eL2:(λs:St=>iterK (λs k=>Z7M P T D N s.1 s.2 k) N s (Zb2 P T D N K))=(λs:St=>Z4z P T D N (λw87_1 h=>Zb3 P T D N K w87_1 h) (λw88_2 h=>K w88_2 h) N (s.1 1) (s.1 24) (s.1 25) (s.1 26) s.2):=funext λs=>ZpX P T D N (Zb2 P T D N K) (λw87_1 h=>Zb3 P T D N K w87_1 h) (λw88_2 h=>K w88_2 h) (λs=>rfl) (λs=>rfl) N s
 show ZiK P T D N (λs=>iterK (λs k=>Z7M P T D N s.1 s.2 k) N s (Zb2 P T D N K)) K a0 h=_
 rw[eL2]
 kernel_rfl
theorem ZpZ(K:Kb β)(a0:AV)(h:Hp):runK Tryz.prog T D N [0,1,2,3,4,5,6,7,12,24,25,26,27,31,46,52,73,83] Tryz.f22 K [a0] h=Z7O Tryz.prog T D N K a0 h:=Eq.trans (b:=ZiL Tryz.prog T D N K a0 h) (by kernel_rfl) (ZpY Tryz.prog T D N K a0 h)
noncomputable def ZiM(P:Program)(T:Tab)(D:DTab)(N:Nat){β:Type}(K:Kb β)(t:Tm)(h:Hp):Option β:=
K (I 0) h
noncomputable def Z7P(P:Program)(T:Tab)(D:DTab)(N:Nat){β:Type}(t:Tm)(h:Hp)(k:Ex→St→Option β):Option β:=
arithK .lss (t 30) (t 29) λc=>
condK c (
iaK 10 (t 28) (t 30) λo=>
ldK 10 true o h λp=>
effK (boxE 10 (.agg zz10) (List.length h)) h λb l=>
effK (stE 10 b p l) l λb7 i=>
ldK 10 true b i λq=>
effK (bsE 10 zz10 1 [(0,q)] (List.length i)) i λr s=>
callK (T 47) [r] s λm a=>
exK m 0 λb8=>
exK m 1 λd=>
eqK P true 35 d (I 0) a λe=>
condK e (
k .ret ((upd (upd (upd (upd (upd (upd t 31 c) 4 b) 3 (t 30)) 6 d) 41 e) 2 d),a)) (
faK 0 b λu=>
ldK 1 false u a λv=>
faK 0 (t 1) λw=>
ldK 1 false w a λx=>
eqK P true 3 v x a λf=>
condK f (
k .ret ((upd (upd (upd (upd (upd (upd (upd t 31 c) 4 b) 3 (t 30)) 6 d) 41 e) 45 f) 2 (I 10)),a)) (
arithK .gtr (t 30) (I 0) λy=>
grpK true y a (λz=>
faK 2 b λa0=>
ldK 1 false a0 a λa1=>
faK 2 (t 1) λa2=>
ldK 1 false a2 a λa3=>
arithK .sub (t 30) (I 1) λa4=>
iaK 10 a3 a4 λa5=>
faK 2 a5 λa6=>
ldK 1 false a6 a λa7=>
arithK .leq a1 a7 λa8=>
z a8 a) λa9 g=>
grpK false a9 g (λb0=>
faK 2 b λb1=>
ldK 1 false b1 g λb2=>
faK 1 (t 1) λb3=>
ldK 1 false b3 g λb4=>
arithK .geq b2 b4 λb5=>
b0 b5 g) λj n=>
condK j (
k .ret ((upd (upd (upd (upd (upd (upd (upd (upd t 31 c) 4 b) 3 (t 30)) 6 d) 41 e) 45 f) 51 j) 2 (I 5)),n)) (
arithK .add (t 30) (I 1) λb6=>
k .normal ((upd (upd (upd (upd (upd (upd (upd (upd t 31 c) 4 b) 3 (t 30)) 6 d) 41 e) 45 f) 51 j) 30 b6),n))))) (
k (.exit 1) ((upd t 31 c),h))
noncomputable def Zb4(P:Program)(T:Tab)(D:DTab)(N:Nat){β:Type}(K:Kb β)(e:Ex)(s:St):Option β:=
 e.on ((ZiM P T D N K s.1 s.2))
 (λi=>bif i==1 then ((ZiM P T D N K s.1 s.2)) else (none))
 (K (s.1 2) s.2)
noncomputable def ZiN(P:Program)(T:Tab)(D:DTab)(N:Nat){β:Type}(cL2:St→Option β)(K:Kb β)(a0:AV)(h:Hp) :  Option β:=
effK (boxE 3 a0 (List.length h)) h λb i=>
faK 0 b λv=>
ldK 1 false v i λw=>
callK (T 40) [w] i λx g=>
notK x λy=>
grpK false y g (λz=>
faK 1 b λx9=>
ldK 1 false x9 g λj=>
arithK .lss j (I 1) λk=>
z k g) λl c=>
grpK false l c (λm=>
faK 1 b λn=>
ldK 1 false n c λo=>
arithK .gtr o (I 1073741825) λp=>
m p c) λd a=>
condK d (
K (I 2) a) (
faK 2 b λq=>
ldK 1 false q a λr=>
lenK r λs=>
arithK .gtr s (I 64) λe=>
condK e (
K (I 8) a) (
faK 2 b λt=>
ldK 1 false t a λf=>
lenK f λu=>
cL2 ((upd (upd (upd (upd (upd (upd (upd (tm0 [a0]) 1 b) 2 (I 0)) 7 d) 22 e) 28 f) 29 u) 30 (I 0)),a)))
noncomputable def ZiO(P:Program)(T:Tab)(D:DTab)(N:Nat){β:Type}(K:Kb β)(a0:AV)(h:Hp):Option β:=ZiN P T D N (λs=>iterK (λs k=>Z7P P T D N s.1 s.2 k) N s (Zb4 P T D N K)) K a0 h
noncomputable def Zfk(P:Program)(T:Tab)(D:DTab)(N:Nat){β:Type}(K:Kb β)(h:Hp):Option β:=
K (I 0) h
noncomputable def Z7Q(P:Program)(T:Tab)(D:DTab)(N:Nat){β:Type}(xn:AV→AV→AV→Kb β)(x1:Qb β)(xr:Kb β)(f g i b:AV)(h:Hp):Option β:=
arithK .lss b i λn=>
condK n (
iaK 10 g b λo=>
ldK 10 true o h λp=>
effK (boxE 10 (.agg zz10) (List.length h)) h λc j=>
effK (stE 10 c p j) j λc0 e=>
ldK 10 true c e λq=>
effK (bsE 10 zz10 1 [(0,q)] (List.length e)) e λr s=>
callK (T 47) [r] s λk a=>
exK k 0 λc1=>
exK k 1 λl=>
eqK P true 35 l (I 0) a λt=>
condK t (
xr l a) (
faK 0 c λu=>
ldK 1 false u a λv=>
faK 0 f λw=>
ldK 1 false w a λx=>
eqK P true 3 v x a λy=>
condK y (
xr (I 10) a) (
arithK .gtr b (I 0) λz=>
grpK true z a (λa0=>
faK 2 c λa1=>
ldK 1 false a1 a λa2=>
faK 2 f λa3=>
ldK 1 false a3 a λa4=>
arithK .sub b (I 1) λa5=>
iaK 10 a4 a5 λa6=>
faK 2 a6 λa7=>
ldK 1 false a7 a λa8=>
arithK .leq a2 a8 λa9=>
a0 a9 a) λb0 d=>
grpK false b0 d (λb1=>
faK 2 c λb2=>
ldK 1 false b2 d λb3=>
faK 1 f λb4=>
ldK 1 false b4 d λb5=>
arithK .geq b3 b5 λb6=>
b1 b6 d) λb7 m=>
condK b7 (
xr (I 5) m) (
arithK .add b (I 1) λb8=>
xn f g i b8 m)))) (
x1 h)
noncomputable def Z4A(P:Program)(T:Tab)(D:DTab)(N:Nat){β:Type}(a:Qb β)(xr:Kb β):Nat→AV→AV→AV→Kb β
 | 0=>λ_ _ _ _ _=>none
 | n+1=>λe b c d h=>Z7Q P T D N (Z4A P T D N a xr n) a xr e b c d h
noncomputable def Z7R(P:Program)(T:Tab)(D:DTab)(N:Nat){β:Type}(K:Kb β)(a0:AV)(h:Hp):Option β:=
effK (boxE 3 a0 (List.length h)) h λb g=>
faK 0 b λw=>
ldK 1 false w g λx=>
callK (T 40) [x] g λy f=>
notK y λz=>
grpK false z f (λk8=>
faK 1 b λx9=>
ldK 1 false x9 f λi=>
arithK .lss i (I 1) λj=>
k8 j f) λk c=>
grpK false k c (λl=>
faK 1 b λm=>
ldK 1 false m c λn=>
arithK .gtr n (I 1073741825) λo=>
l o c) λp a=>
condK p (
K (I 2) a) (
faK 2 b λq=>
ldK 1 false q a λr=>
lenK r λs=>
arithK .gtr s (I 64) λt=>
condK t (
K (I 8) a) (
faK 2 b λu=>
ldK 1 false u a λe=>
lenK e λv=>
Z4A P T D N (λh=>Zfk P T D N K h) (λd h=>K d h) N b e v (I 0) a))
theorem Zq0(xn:AV→AV→AV→Kb β)(x1:Qb β)(xr:Kb β)(xd:Nat→St→Option β)(xq:St→Option β)(t:Tm)(h:Hp):Z7P P T D N t h (λ(e:Ex)(s:St)=>e.on (xn (s.1 1) (s.1 28) (s.1 29) (s.1 30) s.2) (λi=>(bif i==1 then x1 s.2 else (xd i s))) (xr (s.1 2) s.2))=Z7Q P T D N xn x1 xr (t 1) (t 28) (t 29) (t 30) h:=by kernel_rfl
theorem Zq1(A:Ex→St→Option β)(x1:Qb β)(xr:Kb β)(q1:∀s,A (.exit 1) s=x1 s.2)(qr:∀s,A .ret s=xr (s.1 2) s.2):∀(n:Nat)(s:St),iterK (λs k=>Z7P P T D N s.1 s.2 k) n s A=Z4A P T D N x1 xr n (s.1 1) (s.1 28) (s.1 29) (s.1 30) s.2:=
 Z0O (exs1 q1 qr) (λs=>rfl) λn s=>Zq0 P T D N (Z4A P T D N x1 xr n) x1 xr (λi s=>A (.exit i) s) (λs=>A .ret s) s.1 s.2
theorem Zq2(K:Kb β)(a0:AV)(h:Hp):ZiO P T D N K a0 h=Z7R P T D N K a0 h:=by
 have eL2:(λs:St=>iterK (λs k=>Z7P P T D N s.1 s.2 k) N s (Zb4 P T D N K))=(λs:St=>Z4A P T D N (λh=>Zfk P T D N K h) (λw70_2 h=>K w70_2 h) N (s.1 1) (s.1 28) (s.1 29) (s.1 30) s.2):=funext λs=>Zq1 P T D N (Zb4 P T D N K) (λh=>Zfk P T D N K h) (λw70_2 h=>K w70_2 h) (λs=>rfl) (λs=>rfl) N s
 show ZiN P T D N (λs=>iterK (λs k=>Z7P P T D N s.1 s.2 k) N s (Zb4 P T D N K)) K a0 h=_
 rw[eL2]
 kernel_rfl
theorem Zq3(K:Kb β)(a0:AV)(h:Hp):runK Tryz.prog T D N [0,1,2,3,4,6,7,22,28,29,30,31,41,45,51] Tryz.f23 K [a0] h=Z7R Tryz.prog T D N K a0 h:=Eq.trans (b:=ZiO Tryz.prog T D N K a0 h) (by kernel_rfl) (Zq2 Tryz.prog T D N K a0 h)
noncomputable def Z5V(P:Program)(T:Tab)(D:DTab)(N:Nat){β:Type}(K:Kb β)(a0 a1:AV)(h:Hp):Option β:=
effK (boxE 3 a0 (List.length h)) h λc d=>
effK (boxE 1 a1 (List.length d)) d λe f=>
ldK 3 true c f λp=>
callK (T 23) [p] f λq b=>
eqK P true 35 q (I 0) b λr=>
condK r (
K (.tup [nilS,(I 1)]) b) (
ldK 1 false e b λs=>
callK (T 40) [s] b λg a=>
notK g λi=>
condK i (
K (.tup [nilS,(I 2)]) a) (
faK 2 c λj=>
ldK 1 false j a λk=>
callK (T 25) [k] a λl m=>
callK (T 48) [l,(.fn 49 [e])] m λn o=>
K (.tup [n,(I 0)]) o))
theorem Zq4(K:Kb β)(a0 a1:AV)(h:Hp):runK Tryz.prog T D N [0,1,2,3,4,5,6,10] Tryz.f24 K [a0,a1] h=Z5V Tryz.prog T D N K a0 a1 h:=by kernel_rfl
noncomputable def Z3V(P:Program)(T:Tab)(D:DTab)(N:Nat){β:Type}(K:Kb β)(a0:AV)(h:Hp):Option β:=
eqK P false 22 a0 nilS h λb=>
condK b (
K nilS h) (
effK (bsE 10 zz10 0 [] (List.length h)) h λc a=>
effK (appE 10 80 c a0 a (List.length a)) a λd e=>
K d e)
theorem Zq5(K:Kb β)(a0:AV)(h:Hp):runK Tryz.prog T D N [0,2,4] Tryz.f25 K [a0] h=Z3V Tryz.prog T D N K a0 h:=by kernel_rfl
noncomputable def Z3W(P:Program)(T:Tab)(D:DTab)(N:Nat){β:Type}(K:Kb β)(a0:AV)(h:Hp):Option β:=
eqK P false 25 a0 nilS h λb=>
condK b (
K nilS h) (
effK (bsE 2 zz2 0 [] (List.length h)) h λc a=>
effK (appE 2 16 c a0 a (List.length a)) a λd e=>
K d e)
theorem Zq6(K:Kb β)(a0:AV)(h:Hp):runK Tryz.prog T D N [0,2,4] Tryz.f26 K [a0] h=Z3W Tryz.prog T D N K a0 h:=by kernel_rfl
noncomputable def Z4B(P:Program)(T:Tab)(D:DTab)(N:Nat){β:Type}(K:Kb β)(a0:AV)(h:Hp):Option β:=
eqK P false 26 a0 nilS h λb=>
condK b (
K nilS h) (
effK (bsE 7 zz7 0 [] (List.length h)) h λc a=>
effK (appE 7 56 c a0 a (List.length a)) a λd e=>
K d e)
theorem Zq7(K:Kb β)(a0:AV)(h:Hp):runK Tryz.prog T D N [0,2,4] Tryz.f27 K [a0] h=Z4B Tryz.prog T D N K a0 h:=by kernel_rfl
noncomputable def Zfl(P:Program)(T:Tab)(D:DTab)(N:Nat){β:Type}(K:Kb β)(a0 a1:AV)(h:Hp):Option β:=
effK (boxE 1 a0 (List.length h)) h λb a=>
effK (boxE 1 a1 (List.length a)) a λc d=>
K (.fn 50 [b,c]) d
theorem Zq8(K:Kb β)(a0 a1:AV)(h:Hp):runK Tryz.prog T D N [0,1,2,3,4] Tryz.f28 K [a0,a1] h=Zfl Tryz.prog T D N K a0 a1 h:=by kernel_rfl
noncomputable def Zb5(P:Program)(T:Tab)(D:DTab)(N:Nat){β:Type}(K:Kb β)(k l m c:AV)(h:Hp):Option β:=
ldK 3 true c h λd=>
ldK 2 true m h λe=>
effD (stE 3 k d h) h λn b f=>
effD (stE 2 l e b) b λo a g=>
bif disjAll [(1,2)] [((idsOf c),[]),((idsOf m),[]),f,g,([],[]),([],[])] then (
ldK 3 true k a λi=>
ldK 2 true l a λj=>
K (.tup [i,j,(.s (.bool true)),(I 0)]) a) else none
noncomputable def Z3d(P:Program)(T:Tab)(D:DTab)(N:Nat){β:Type}(K:Kb β)(a0 a1:AV)(h:Hp):Option β:=
effK (boxE 3 a0 (List.length h)) h λl h2=>
effK (boxE 10 a1 (List.length h2)) h2 λq h4=>
effK (boxE 3 (.agg [I 0, nilS, nilS]) (List.length h4)) h4 λe h6=>
effK (boxE 2 (.agg zz2) (List.length h6)) h6 λf h8=>
buildK [I 0, nilS, nilS] [] λx9=>
faK 0 q λa5=>
ldK 1 false a5 h8 λg4=>
faK 2 q λa6=>
ldK 1 false a6 h8 λg5=>
buildK zz2 [(some (0,1),g4),(some (1,1),g5)] λg6=>
effD (boxE 3 (.agg [I 0, nilS, nilS]) (List.length h8)) h8 λm a7 g7=>
effD (boxE 2 (.agg zz2) (List.length a7)) a7 λg a8 g8=>
effD (stE 3 m x9 a8) a8 λl9 a9 g9=>
effD (stE 2 g g6 a9) a9 λm0 b0 h0=>
bif disjAll [(2,6),(4,6),(2,7),(4,7),(6,7),(2,8),(4,8)] [([],[]),([],[]),((idsOf a5),[]),([],[]),((idsOf a6),[]),([],[]),g7,g8,g9,h0] then (
ldK 3 true l b0 λh1=>
callK (T 22) [h1] b0 λh2 i=>
eqK P true 35 h2 (I 0) i λh3=>
condK h3 (
ldK 3 true m i λh4=>
buildK zz2 [] λh5=>
effK (stE 3 e h4 i) i λm1 b1=>
effK (stE 2 f h5 b1) b1 λm2 r=>
ldK 3 true e r λh6=>
ldK 2 true f r λh7=>
K (.tup [h6,h7,(.s (.bool false)),(I 1)]) r) (
ldK 10 true q i λh8=>
effK (bsE 10 zz10 1 [(0,h8)] (List.length i)) i λh9 i0=>
callK (T 47) [h9] i0 λb2 a=>
exK b2 0 λm3=>
exK b2 1 λb3=>
eqK P true 35 b3 (I 0) a λi1=>
condK i1 (
ldK 3 true m a λi2=>
buildK zz2 [] λi3=>
effK (stE 3 e i2 a) a λm4 b4=>
effK (stE 2 f i3 b4) b4 λm5 t=>
ldK 3 true e t λi4=>
ldK 2 true f t λi5=>
K (.tup [i4,i5,(.s (.bool false)),b3]) t) (
faK 1 q λi6=>
ldK 1 false i6 a λi7=>
faK 0 l λi8=>
ldK 1 false i8 a λi9=>
eqK P true 3 i7 i9 a λj0=>
condK j0 (
ldK 3 true m a λj1=>
buildK zz2 [] λj2=>
effK (stE 3 e j1 a) a λm6 b5=>
effK (stE 2 f j2 b5) b5 λm7 u=>
ldK 3 true e u λj3=>
ldK 2 true f u λj4=>
K (.tup [j3,j4,(.s (.bool false)),(I 19)]) u) (
faK 0 l λb6=>
ldK 1 false b6 a λj5=>
faK 1 l λb7=>
ldK 1 false b7 a λj6=>
effD (callE (D 26) [j6] a (List.length a)) a λj7 p j8=>
faK 2 l λb8=>
ldK 1 false b8 p λj9=>
effD (callE (D 27) [j9] p (List.length p)) p λk0 b9 k1=>
buildK [I 0, nilS, nilS] [(some (0,1),j5),(some (1,1),j7),(some (2,1),k0)] λk2=>
effD (boxE 3 (.agg [I 0, nilS, nilS]) (List.length b9)) b9 λd c0 k3=>
effD (stE 3 d k2 c0) c0 λm8 v k4=>
bif disjAll [(1,4),(4,6),(1,7),(1,9),(3,9),(4,9),(6,9),(7,9)] [([],[]),((idsOf b6),[]),([],[]),((idsOf b7),[]),j8,([],[]),((idsOf b8),[]),k1,([],[]),k3,k4] then (
faK 1 l λk5=>
ldK 1 false k5 v λk6=>
ldK 2 true g v λk7=>
callK (T 51) [k6,k7] v λk8 j=>
condK k8 (
ldK 3 true d j λk9=>
ldK 2 true g j λl0=>
effD (stE 3 e k9 j) j λm9 c1 l1=>
effD (stE 2 f l0 c1) c1 λn0 w l2=>
bif disjAll [(1,2)] [((idsOf d),[]),((idsOf g),[]),l1,l2,([],[]),([],[])] then (
ldK 3 true e w λc2=>
ldK 2 true f w λc3=>
K (.tup [c2,c3,(.s (.bool false)),(I 0)]) w) else none) (
faK 2 l λc4=>
ldK 1 false c4 j λc5=>
faK 3 q λc6=>
ldK 7 true c6 j λc7=>
callK (T 52) [c5,c7] j λc8 b=>
notK c8 λx=>
faK 1 l λc9=>
ldK 1 false c9 b λd0=>
lenK d0 λd1=>
eqK P false 3 d1 (I 256) b λd2=>
grpK false d2 b (λd3=>
grpK true x b (λd4=>
faK 2 l λd5=>
ldK 1 false d5 b λd6=>
lenK d6 λd7=>
eqK P false 3 d7 (I 64) b λd8=>
d4 d8 b) λd9 e0=>
d3 d9 e0) λe1 c=>
condK e1 (
ldK 3 true m c λe2=>
buildK zz2 [] λe3=>
effK (stE 3 e e2 c) c λl4 y=>
effK (stE 2 f e3 y) y λl5 n=>
ldK 3 true e n λe4=>
ldK 2 true f n λe5=>
K (.tup [e4,e5,(.s (.bool false)),(I 12)]) n) (
faK 1 l λe6=>
ldK 1 false e6 c λe7=>
ldK 2 true g c λe8=>
callK (T 53) [e7,e8,(.fn 45 [])] c λe9 z=>
faK 1 d λf0=>
effK (stE 1 f0 e9 z) z λl6 k=>
condK x (
faK 2 d λf1=>
ldK 1 false f1 k λf2=>
faK 3 q λf3=>
ldK 7 true f3 k λf4=>
effK (bsE 7 zz7 1 [(0,f4)] (List.length k)) k λf5 o=>
effK (appE 7 56 f2 f5 o (List.length o)) o λf6 f7=>
callK (T 46) [f6] f7 λa2 a3=>
exK a2 0 λf8=>
exK a2 1 λl7=>
faK 2 d λf9=>
effK (stE 1 f9 f8 a3) a3 λl8 g0=>
Zb5 P T D N K e f g d g0) (
Zb5 P T D N K e f g d k)))) else none)))) else none
theorem Zq9(K:Kb β)(a0 a1:AV)(h:Hp):runK Tryz.prog T D N [0,1,2,3,4,5,6,7,8,9,11,12,13,22,32,40,55,76,84] Tryz.f29 K [a0,a1] h=Z3d Tryz.prog T D N K a0 a1 h:=by kernel_rfl
noncomputable def Z5W(P:Program)(T:Tab)(D:DTab)(N:Nat){β:Type}(K:Kb β)(b e:AV)(h:Hp):Option β:=
ldK 3 true e h λc=>
effK (stE 3 b c h) h λf a=>
ldK 3 true b a λd=>
K (.tup [d,(I 0)]) a
noncomputable def Z3t(P:Program)(T:Tab)(D:DTab)(N:Nat){β:Type}(K:Kb β)(a0 a1:AV)(h:Hp):Option β:=
effK (boxE 3 a0 (List.length h)) h λj r=>
effK (boxE 2 a1 (List.length r)) r λg s=>
effK (boxE 3 (.agg [I 0, I 0, nilS]) (List.length s)) s λd t=>
ldK 3 true j t λx7=>
callK (T 23) [x7] t λx8 b=>
eqK P true 35 x8 (I 0) b λu=>
condK u (
buildK [I 0, I 0, nilS] [] λv=>
effK (stE 3 d v b) b λe5 k=>
ldK 3 true d k λw=>
K (.tup [w,(I 1)]) k) (
faK 0 g λx=>
ldK 1 false x b λy=>
faK 0 j λz=>
ldK 1 false z b λa2=>
eqK P true 3 y a2 b λa3=>
condK a3 (
buildK [I 0, I 0, nilS] [] λa4=>
effK (stE 3 d a4 b) b λe6 l=>
ldK 3 true d l λa5=>
K (.tup [a5,(I 10)]) l) (
faK 1 g λa6=>
ldK 1 false a6 b λa7=>
arithK .lss a7 (I 1) λa8=>
grpK false a8 b (λa9=>
faK 1 g λb0=>
ldK 1 false b0 b λb1=>
faK 1 j λb2=>
ldK 1 false b2 b λb3=>
arithK .geq b1 b3 λb4=>
a9 b4 b) λb5 e=>
condK b5 (
buildK [I 0, I 0, nilS] [] λb6=>
effK (stE 3 d b6 e) e λe7 m=>
ldK 3 true d m λb7=>
K (.tup [b7,(I 2)]) m) (
ldK 3 true j e λb8=>
callK (T 42) [b8] e λb9 n=>
effK (boxE 3 (.agg [I 0, I 0, nilS]) (List.length n)) n λa o=>
effK (stE 3 a b9 o) o λe8 p=>
faK 2 a λc0=>
ldK 1 false c0 p λc1=>
lenK c1 λc2=>
callK (T 54) [c2,(.fn 55 [a,g])] p λf c=>
faK 2 a λc3=>
ldK 1 false c3 c λc4=>
lenK c4 λc5=>
arithK .lss f c5 λc6=>
grpK true c6 c (λc7=>
faK 2 a λc8=>
ldK 1 false c8 c λc9=>
iaK 10 c9 f λd0=>
faK 2 d0 λd1=>
ldK 1 false d1 c λd2=>
faK 1 g λd3=>
ldK 1 false d3 c λd4=>
eqK P false 3 d2 d4 c λd5=>
c7 d5 c) λd6 i=>
condK d6 (
faK 2 a λd7=>
ldK 1 false d7 i λd8=>
arithK .add f (I 1) λd9=>
callK (T 56) [d8,f,d9] i λe0 q=>
faK 2 a λe1=>
effK (stE 1 e1 e0 q) q λe9 e2=>
Z5W P T D N K d a e2) (
Z5W P T D N K d a i))))
theorem Zqa(K:Kb β)(a0 a1:AV)(h:Hp):runK Tryz.prog T D N [0,1,2,3,4,5,6,7,8,13,20,54] Tryz.f30 K [a0,a1] h=Z3t Tryz.prog T D N K a0 a1 h:=by kernel_rfl
noncomputable def ZiP(P:Program)(T:Tab)(D:DTab)(N:Nat){β:Type}(K:Kb β)(t:Tm)(h:Hp):Option β:=
K (I 0) h
noncomputable def Z7S(P:Program)(T:Tab)(D:DTab)(N:Nat){β:Type}(t:Tm)(h:Hp)(k:Ex→St→Option β):Option β:=
faK 2 (t 1) λn=>
ldK 1 false n h λo=>
lenK o λp=>
arithK .lss (t 3) p λc=>
condK c (
faK 2 (t 1) λq=>
ldK 1 false q h λr=>
iaK 10 r (t 3) λs=>
ldK 10 true s h λu=>
effK (boxE 10 (.agg zz10) (List.length h)) h λb j=>
effK (stE 10 b u j) j λb9 l=>
ldK 10 true b l λv=>
callK (T 58) [v] l λd a=>
eqK P true 35 d (I 0) a λe=>
condK e (
k .ret ((upd (upd (upd (upd (upd t 28 c) 4 b) 5 d) 39 e) 2 d),a)) (
faK 0 b λw=>
ldK 1 false w a λx=>
faK 0 (t 1) λy=>
ldK 1 false y a λz=>
eqK P true 3 x z a λf=>
condK f (
k .ret ((upd (upd (upd (upd (upd (upd t 28 c) 4 b) 5 d) 39 e) 45 f) 2 (I 10)),a)) (
arithK .gtr (t 3) (I 0) λa0=>
grpK true a0 a (λa1=>
faK 2 (t 1) λa2=>
ldK 1 false a2 a λa3=>
arithK .sub (t 3) (I 1) λa4=>
iaK 10 a3 a4 λa5=>
faK 2 a5 λa6=>
ldK 1 false a6 a λa7=>
faK 2 b λa8=>
ldK 1 false a8 a λa9=>
arithK .geq a7 a9 λb0=>
a1 b0 a) λb1 g=>
grpK false b1 g (λb2=>
faK 2 b λb3=>
ldK 1 false b3 g λb4=>
faK 1 (t 1) λb5=>
ldK 1 false b5 g λb6=>
arithK .geq b4 b6 λb7=>
b2 b7 g) λi m=>
condK i (
k .ret ((upd (upd (upd (upd (upd (upd (upd t 28 c) 4 b) 5 d) 39 e) 45 f) 66 i) 2 (I 5)),m)) (
arithK .add (t 3) (I 1) λb8=>
k .normal ((upd (upd (upd (upd (upd (upd (upd t 28 c) 4 b) 5 d) 39 e) 45 f) 66 i) 3 b8),m))))) (
k (.exit 0) ((upd t 28 c),h))
noncomputable def Zb6(P:Program)(T:Tab)(D:DTab)(N:Nat){β:Type}(K:Kb β)(e:Ex)(s:St):Option β:=
 e.on ((ZiP P T D N K s.1 s.2))
 (λi=>bif i==0 then ((ZiP P T D N K s.1 s.2)) else (none))
 (K (s.1 2) s.2)
noncomputable def ZiQ(P:Program)(T:Tab)(D:DTab)(N:Nat){β:Type}(cL2:St→Option β)(K:Kb β)(a0:AV)(h:Hp) :  Option β:=
effK (boxE 3 a0 (List.length h)) h λb g=>
faK 0 b λs=>
ldK 1 false s g λt=>
callK (T 57) [t] g λu f=>
notK u λv=>
grpK false v f (λw=>
faK 1 b λx=>
ldK 1 false x f λi=>
arithK .lss i (I 1) λj=>
w j f) λk c=>
grpK false k c (λl=>
faK 1 b λm=>
ldK 1 false m c λn=>
arithK .gtr n (I 1073741825) λo=>
l o c) λd a=>
condK d (
K (I 2) a) (
faK 2 b λp=>
ldK 1 false p a λq=>
lenK q λr=>
arithK .gtr r (I 64) λe=>
condK e (
K (I 8) a) (
cL2 ((upd (upd (upd (upd (upd (tm0 [a0]) 1 b) 2 (I 0)) 19 d) 23 e) 3 (I 0)),a)))
noncomputable def ZiR(P:Program)(T:Tab)(D:DTab)(N:Nat){β:Type}(K:Kb β)(a0:AV)(h:Hp):Option β:=ZiQ P T D N (λs=>iterK (λs k=>Z7S P T D N s.1 s.2 k) N s (Zb6 P T D N K)) K a0 h
noncomputable def Zfm(P:Program)(T:Tab)(D:DTab)(N:Nat){β:Type}(K:Kb β)(h:Hp):Option β:=
K (I 0) h
noncomputable def Z7T(P:Program)(T:Tab)(D:DTab)(N:Nat){β:Type}(xn:AV→Kb β)(x0:Qb β)(xr:Kb β)(d e:AV)(h:Hp):Option β:=
faK 2 d λk=>
ldK 1 false k h λl=>
lenK l λm=>
arithK .lss e m λn=>
condK n (
faK 2 d λo=>
ldK 1 false o h λp=>
iaK 10 p e λq=>
ldK 10 true q h λr=>
effK (boxE 10 (.agg zz10) (List.length h)) h λb f=>
effK (stE 10 b r f) f λc0 g=>
ldK 10 true b g λs=>
callK (T 58) [s] g λi a=>
eqK P true 35 i (I 0) a λt=>
condK t (
xr i a) (
faK 0 b λu=>
ldK 1 false u a λv=>
faK 0 d λw=>
ldK 1 false w a λx=>
eqK P true 3 v x a λy=>
condK y (
xr (I 10) a) (
arithK .gtr e (I 0) λz=>
grpK true z a (λa0=>
faK 2 d λa1=>
ldK 1 false a1 a λa2=>
arithK .sub e (I 1) λa3=>
iaK 10 a2 a3 λa4=>
faK 2 a4 λa5=>
ldK 1 false a5 a λa6=>
faK 2 b λa7=>
ldK 1 false a7 a λa8=>
arithK .geq a6 a8 λa9=>
a0 a9 a) λb0 c=>
grpK false b0 c (λb1=>
faK 2 b λb2=>
ldK 1 false b2 c λb3=>
faK 1 d λb4=>
ldK 1 false b4 c λb5=>
arithK .geq b3 b5 λb6=>
b1 b6 c) λb7 j=>
condK b7 (
xr (I 5) j) (
arithK .add e (I 1) λb8=>
xn d b8 j)))) (
x0 h)
noncomputable def Z4C(P:Program)(T:Tab)(D:DTab)(N:Nat){β:Type}(a:Qb β)(xr:Kb β):Nat→AV→Kb β
 | 0=>λ_ _ _=>none
 | n+1=>λb c h=>Z7T P T D N (Z4C P T D N a xr n) a xr b c h
noncomputable def Z7U(P:Program)(T:Tab)(D:DTab)(N:Nat){β:Type}(K:Kb β)(a0:AV)(h:Hp):Option β:=
effK (boxE 3 a0 (List.length h)) h λb f=>
faK 0 b λt=>
ldK 1 false t f λu=>
callK (T 57) [u] f λv e=>
notK v λw=>
grpK false w e (λx=>
faK 1 b λy=>
ldK 1 false y e λg=>
arithK .lss g (I 1) λi=>
x i e) λj c=>
grpK false j c (λk=>
faK 1 b λl=>
ldK 1 false l c λm=>
arithK .gtr m (I 1073741825) λn=>
k n c) λo a=>
condK o (
K (I 2) a) (
faK 2 b λp=>
ldK 1 false p a λq=>
lenK q λr=>
arithK .gtr r (I 64) λs=>
condK s (
K (I 8) a) (
Z4C P T D N (λh=>Zfm P T D N K h) (λd h=>K d h) N b (I 0) a))
theorem Zqb(xn:AV→Kb β)(x0:Qb β)(xr:Kb β)(xd:Nat→St→Option β)(xq:St→Option β)(t:Tm)(h:Hp):Z7S P T D N t h (λ(e:Ex)(s:St)=>e.on (xn (s.1 1) (s.1 3) s.2) (λi=>(bif i==0 then x0 s.2 else (xd i s))) (xr (s.1 2) s.2))=Z7T P T D N xn x0 xr (t 1) (t 3) h:=by kernel_rfl
theorem Zqc(A:Ex→St→Option β)(x0:Qb β)(xr:Kb β)(q0:∀s,A (.exit 0) s=x0 s.2)(qr:∀s,A .ret s=xr (s.1 2) s.2):∀(n:Nat)(s:St),iterK (λs k=>Z7S P T D N s.1 s.2 k) n s A=Z4C P T D N x0 xr n (s.1 1) (s.1 3) s.2:=
 Z0O (exs1 q0 qr) (λs=>rfl) λn s=>Zqb P T D N (Z4C P T D N x0 xr n) x0 xr (λi s=>A (.exit i) s) (λs=>A .ret s) s.1 s.2
theorem Zqd(K:Kb β)(a0:AV)(h:Hp):ZiR P T D N K a0 h=Z7U P T D N K a0 h:=by
 have eL2:(λs:St=>iterK (λs k=>Z7S P T D N s.1 s.2 k) N s (Zb6 P T D N K))=(λs:St=>Z4C P T D N (λh=>Zfm P T D N K h) (λw68_2 h=>K w68_2 h) N (s.1 1) (s.1 3) s.2):=funext λs=>Zqc P T D N (Zb6 P T D N K) (λh=>Zfm P T D N K h) (λw68_2 h=>K w68_2 h) (λs=>rfl) (λs=>rfl) N s
 show ZiQ P T D N (λs=>iterK (λs k=>Z7S P T D N s.1 s.2 k) N s (Zb6 P T D N K)) K a0 h=_
 rw[eL2]
 kernel_rfl
theorem Zqe(K:Kb β)(a0:AV)(h:Hp):runK Tryz.prog T D N [0,1,2,3,4,5,19,23,28,39,45,66] Tryz.f31 K [a0] h=Z7U Tryz.prog T D N K a0 h:=Eq.trans (b:=ZiR Tryz.prog T D N K a0 h) (by kernel_rfl) (Zqd Tryz.prog T D N K a0 h)
noncomputable def ZiS(P:Program)(T:Tab)(D:DTab)(N:Nat){β:Type}(K:Kb β)(t:Tm)(h:Hp):Option β:=
faK 2 (t 1) λd=>
ldK 1 false d h λe=>
callK (T 60) [e] h λc b=>
exK c 0 λf=>
exK c 1 λg=>
eqK P true 35 g (I 0) b λi=>
grpK false i b (λj=>
faK 2 (t 1) λk=>
ldK 1 false k b λl=>
callK (T 39) [f,l] b λm n=>
notK m λo=>
j o n) λp a=>
condK p (
K (I 1) a) (
faK 2 (t 1) λq=>
ldK 1 false q a λr=>
lenK r λs=>
faK 1 (t 1) λu=>
ldK 1 false u a λv=>
lenK v λw=>
arithK .gtr s w λx=>
condK x (
K (I 10) a) (
K (I 0) a))
noncomputable def Z7V(P:Program)(T:Tab)(D:DTab)(N:Nat){β:Type}(t:Tm)(h:Hp)(k:Ex→St→Option β):Option β:=
faK 1 (t 1) λn=>
ldK 1 false n h λo=>
lenK o λp=>
arithK .lss (t 3) p λc=>
condK c (
faK 1 (t 1) λq=>
ldK 1 false q h λr=>
iaK 2 r (t 3) λs=>
ldK 2 true s h λu=>
effK (boxE 2 (.agg zz2) (List.length h)) h λa j=>
effK (stE 2 a u j) j λc4 l=>
faK 0 a λv=>
ldK 1 false v l λw=>
callK (T 57) [w] l λx f=>
notK x λy=>
grpK false y f (λz=>
faK 1 a λa0=>
ldK 1 false a0 f λa1=>
arithK .lss a1 (I 1) λa2=>
z a2 f) λa3 g=>
grpK false a3 g (λa4=>
faK 1 a λa5=>
ldK 1 false a5 g λa6=>
arithK .gtr a6 (I 1073741824) λa7=>
a4 a7 g) λd b=>
condK d (
k .ret ((upd (upd (upd (upd t 25 c) 4 a) 46 d) 2 (I 2)),b)) (
faK 0 a λa8=>
ldK 1 false a8 b λa9=>
faK 0 (t 1) λb0=>
ldK 1 false b0 b λb1=>
eqK P false 3 a9 b1 b λe=>
condK e (
k .ret ((upd (upd (upd (upd (upd t 25 c) 4 a) 46 d) 51 e) 2 (I 10)),b)) (
arithK .gtr (t 3) (I 0) λb2=>
grpK true b2 b (λb3=>
ldK 2 true a b λb4=>
faK 1 (t 1) λb5=>
ldK 1 false b5 b λb6=>
arithK .sub (t 3) (I 1) λb7=>
iaK 2 b6 b7 λb8=>
ldK 2 true b8 b λb9=>
callK (T 59) [b4,b9] b λc0 c1=>
notK c0 λc2=>
b3 c2 c1) λi m=>
condK i (
k .ret ((upd (upd (upd (upd (upd (upd t 25 c) 4 a) 46 d) 51 e) 64 i) 2 (I 5)),m)) (
arithK .add (t 3) (I 1) λc3=>
k .normal ((upd (upd (upd (upd (upd (upd t 25 c) 4 a) 46 d) 51 e) 64 i) 3 c3),m))))) (
k (.exit 0) ((upd t 25 c),h))
noncomputable def Zb7(P:Program)(T:Tab)(D:DTab)(N:Nat){β:Type}(K:Kb β)(e:Ex)(s:St):Option β:=
 e.on ((ZiS P T D N K s.1 s.2))
 (λi=>bif i==0 then ((ZiS P T D N K s.1 s.2)) else (none))
 (K (s.1 2) s.2)
noncomputable def ZiT(P:Program)(T:Tab)(D:DTab)(N:Nat){β:Type}(cL2:St→Option β)(K:Kb β)(a0:AV)(h:Hp) :  Option β:=
effK (boxE 3 a0 (List.length h)) h λb e=>
faK 0 b λo=>
ldK 1 false o e λp=>
callK (T 57) [p] e λq a=>
notK q λf=>
condK f (
K (I 2) a) (
faK 1 b λr=>
ldK 1 false r a λs=>
lenK s λg=>
arithK .gtr g (I 256) λi=>
grpK false i a (λj=>
faK 2 b λk=>
ldK 1 false k a λl=>
lenK l λm=>
arithK .gtr m (I 64) λn=>
j n a) λc d=>
condK c (
K (I 8) d) (
cL2 ((upd (upd (upd (upd (upd (tm0 [a0]) 1 b) 2 (I 0)) 10 f) 20 c) 3 (I 0)),d)))
noncomputable def ZiU(P:Program)(T:Tab)(D:DTab)(N:Nat){β:Type}(K:Kb β)(a0:AV)(h:Hp):Option β:=ZiT P T D N (λs=>iterK (λs k=>Z7V P T D N s.1 s.2 k) N s (Zb7 P T D N K)) K a0 h
noncomputable def Zb8(P:Program)(T:Tab)(D:DTab)(N:Nat){β:Type}(K:Kb β)(c:AV)(h:Hp):Option β:=
faK 2 c λe=>
ldK 1 false e h λf=>
callK (T 60) [f] h λd b=>
exK d 0 λg=>
exK d 1 λi=>
eqK P true 35 i (I 0) b λj=>
grpK false j b (λk=>
faK 2 c λl=>
ldK 1 false l b λm=>
callK (T 39) [g,m] b λn o=>
notK n λp=>
k p o) λq a=>
condK q (
K (I 1) a) (
faK 2 c λr=>
ldK 1 false r a λs=>
lenK s λt=>
faK 1 c λu=>
ldK 1 false u a λv=>
lenK v λw=>
arithK .gtr t w λx=>
condK x (
K (I 10) a) (
K (I 0) a))
noncomputable def Z7W(P:Program)(T:Tab)(D:DTab)(N:Nat){β:Type}(xn:AV→Kb β)(x0:Kb β)(xr:Kb β)(c d:AV)(h:Hp):Option β:=
faK 1 c λk=>
ldK 1 false k h λl=>
lenK l λm=>
arithK .lss d m λn=>
condK n (
faK 1 c λo=>
ldK 1 false o h λp=>
iaK 2 p d λq=>
ldK 2 true q h λr=>
effK (boxE 2 (.agg zz2) (List.length h)) h λb g=>
effK (stE 2 b r g) g λc5 i=>
faK 0 b λs=>
ldK 1 false s i λt=>
callK (T 57) [t] i λu e=>
notK u λv=>
grpK false v e (λw=>
faK 1 b λx=>
ldK 1 false x e λy=>
arithK .lss y (I 1) λz=>
w z e) λa0 f=>
grpK false a0 f (λa1=>
faK 1 b λa2=>
ldK 1 false a2 f λa3=>
arithK .gtr a3 (I 1073741824) λa4=>
a1 a4 f) λa5 a=>
condK a5 (
xr (I 2) a) (
faK 0 b λa6=>
ldK 1 false a6 a λa7=>
faK 0 c λa8=>
ldK 1 false a8 a λa9=>
eqK P false 3 a7 a9 a λb0=>
condK b0 (
xr (I 10) a) (
arithK .gtr d (I 0) λb1=>
grpK true b1 a (λb2=>
ldK 2 true b a λb3=>
faK 1 c λb4=>
ldK 1 false b4 a λb5=>
arithK .sub d (I 1) λb6=>
iaK 2 b5 b6 λb7=>
ldK 2 true b7 a λb8=>
callK (T 59) [b3,b8] a λb9 c0=>
notK b9 λc1=>
b2 c1 c0) λc2 j=>
condK c2 (
xr (I 5) j) (
arithK .add d (I 1) λc3=>
xn c c3 j)))) (
x0 c h)
noncomputable def Z4D(P:Program)(T:Tab)(D:DTab)(N:Nat){β:Type}(a:Kb β)(xr:Kb β):Nat→AV→Kb β
 | 0=>λ_ _ _=>none
 | n+1=>λb c h=>Z7W P T D N (Z4D P T D N a xr n) a xr b c h
noncomputable def Z7X(P:Program)(T:Tab)(D:DTab)(N:Nat){β:Type}(K:Kb β)(a0:AV)(h:Hp):Option β:=
effK (boxE 3 a0 (List.length h)) h λb f=>
faK 0 b λp=>
ldK 1 false p f λq=>
callK (T 57) [q] f λr a=>
notK r λs=>
condK s (
K (I 2) a) (
faK 1 b λt=>
ldK 1 false t a λu=>
lenK u λg=>
arithK .gtr g (I 256) λi=>
grpK false i a (λj=>
faK 2 b λk=>
ldK 1 false k a λl=>
lenK l λm=>
arithK .gtr m (I 64) λn=>
j n a) λo e=>
condK o (
K (I 8) e) (
Z4D P T D N (λc h=>Zb8 P T D N K c h) (λd h=>K d h) N b (I 0) e))
theorem Zqf(xn:AV→Kb β)(x0:Kb β)(xr:Kb β)(xd:Nat→St→Option β)(xq:St→Option β)(t:Tm)(h:Hp):Z7V P T D N t h (λ(e:Ex)(s:St)=>e.on (xn (s.1 1) (s.1 3) s.2) (λi=>(bif i==0 then x0 (s.1 1) s.2 else (xd i s))) (xr (s.1 2) s.2))=Z7W P T D N xn x0 xr (t 1) (t 3) h:=by kernel_rfl
theorem Zqg(A:Ex→St→Option β)(x0:Kb β)(xr:Kb β)(q0:∀s,A (.exit 0) s=x0 (s.1 1) s.2)(qr:∀s,A .ret s=xr (s.1 2) s.2):∀(n:Nat)(s:St),iterK (λs k=>Z7V P T D N s.1 s.2 k) n s A=Z4D P T D N x0 xr n (s.1 1) (s.1 3) s.2:=
 Z0O (exs1 q0 qr) (λs=>rfl) λn s=>Zqf P T D N (Z4D P T D N x0 xr n) x0 xr (λi s=>A (.exit i) s) (λs=>A .ret s) s.1 s.2
theorem Zqh(K:Kb β)(a0:AV)(h:Hp):ZiU P T D N K a0 h=Z7X P T D N K a0 h:=by
 have eL2:(λs:St=>iterK (λs k=>Z7V P T D N s.1 s.2 k) N s (Zb7 P T D N K))=(λs:St=>Z4D P T D N (λw89_1 h=>Zb8 P T D N K w89_1 h) (λw90_2 h=>K w90_2 h) N (s.1 1) (s.1 3) s.2):=funext λs=>Zqg P T D N (Zb7 P T D N K) (λw89_1 h=>Zb8 P T D N K w89_1 h) (λw90_2 h=>K w90_2 h) (λs=>rfl) (λs=>rfl) N s
 show ZiT P T D N (λs=>iterK (λs k=>Z7V P T D N s.1 s.2 k) N s (Zb7 P T D N K)) K a0 h=_
 rw[eL2]
 kernel_rfl
theorem Zqi(K:Kb β)(a0:AV)(h:Hp):runK Tryz.prog T D N [0,1,2,3,4,5,6,10,20,25,46,51,64,79,86] Tryz.f32 K [a0] h=Z7X Tryz.prog T D N K a0 h:=Eq.trans (b:=ZiU Tryz.prog T D N K a0 h) (by kernel_rfl) (Zqh Tryz.prog T D N K a0 h)
noncomputable def ZiV(P:Program)(T:Tab)(D:DTab)(N:Nat){β:Type}(K:Kb β)(t:Tm)(h:Hp):Option β:=
K (.tup [(t 6),(I 0)]) h
noncomputable def Zqj(P:Program)(T:Tab)(D:DTab)(N:Nat){β:Type}(k:Ex→St→Option β)(t:Tm)(h:Hp):Option β:=
arithK .add (t 7) (I 1) λa=>
k .normal ((upd t 7 a),h)
noncomputable def ZiW(P:Program)(T:Tab)(D:DTab)(N:Nat){β:Type}(k:Ex→St→Option β)(t:Tm)(h:Hp):Option β:=
(Zqj P T D N k t h)
noncomputable def Z7Y(P:Program)(T:Tab)(D:DTab)(N:Nat){β:Type}(t:Tm)(h:Hp)(k:Ex→St→Option β):Option β:=
faK 2 (t 2) λd=>
ldK 1 false d h λe=>
lenK e λf=>
arithK .lss (t 7) f λa=>
condK a (
faK 2 (t 2) λg=>
ldK 1 false g h λi=>
iaK 10 i (t 7) λj=>
faK 1 j λl=>
ldK 1 false l h λm=>
eqK P false 3 m (t 1) h λb=>
condK b (
faK 2 (t 2) λn=>
ldK 1 false n h λo=>
iaK 10 o (t 7) λp=>
ldK 10 true p h λq=>
effK (bsE 10 zz10 1 [(0,q)] (List.length h)) h λr c=>
effK (appE 10 80 (t 6) r c (List.length c)) c λs u=>
(ZiW P T D N k (upd (upd (upd t 19 a) 29 b) 6 s) u)) (
(ZiW P T D N k (upd (upd t 19 a) 29 b) h))) (
k (.exit 0) ((upd t 19 a),h))
noncomputable def Zb9(P:Program)(T:Tab)(D:DTab)(N:Nat){β:Type}(K:Kb β)(e:Ex)(s:St):Option β:=
 e.on ((ZiV P T D N K s.1 s.2))
 (λi=>bif i==0 then ((ZiV P T D N K s.1 s.2)) else (none))
 (K (.tup [(s.1 4),(s.1 5)]) s.2)
noncomputable def ZiX(P:Program)(T:Tab)(D:DTab)(N:Nat){β:Type}(cL2:St→Option β)(K:Kb β)(a0 a1:AV)(h:Hp) :  Option β:=
effK (boxE 3 a0 (List.length h)) h λc d=>
ldK 3 true c d λj=>
callK (T 31) [j] d λk a=>
eqK P true 35 k (I 0) a λe=>
condK e (
K (.tup [nilS,(I 1)]) a) (
callK (T 57) [a1] a λl b=>
notK l λf=>
condK f (
K (.tup [nilS,(I 2)]) b) (
effK (bsE 10 zz10 0 [] (List.length b)) b λg i=>
cL2 ((upd (upd (upd (upd (upd (upd (upd (tm0 [a0,a1]) 2 c) 4 nilS) 5 (I 0)) 10 e) 13 f) 6 g) 7 (I 0)),i)))
noncomputable def ZiY(P:Program)(T:Tab)(D:DTab)(N:Nat){β:Type}(K:Kb β)(a0 a1:AV)(h:Hp):Option β:=ZiX P T D N (λs=>iterK (λs k=>Z7Y P T D N s.1 s.2 k) N s (Zb9 P T D N K)) K a0 a1 h
noncomputable def Zba(P:Program)(T:Tab)(D:DTab)(N:Nat){β:Type}(K:Kb β)(a:AV)(h:Hp):Option β:=
K (.tup [a,(I 0)]) h
noncomputable def Zfn(P:Program)(T:Tab)(D:DTab)(N:Nat){β:Type}(xn:AV→AV→AV→Kb β)(f:Kb β)(b c d e:AV)(h:Hp):Option β:=
arithK .add e (I 1) λa=>
xn b c d a h
noncomputable def Zbb(P:Program)(T:Tab)(D:DTab)(N:Nat){β:Type}(xn:AV→AV→AV→Kb β)(a:Kb β)(b c d e:AV)(h:Hp):Option β:=
Zfn P T D N xn a b c d e h
noncomputable def Z7Z(P:Program)(T:Tab)(D:DTab)(N:Nat){β:Type}(xn:AV→AV→AV→Kb β)(d:Kb β)(e a f b:AV)(h:Hp):Option β:=
faK 2 a λg=>
ldK 1 false g h λi=>
lenK i λj=>
arithK .lss b j λk=>
condK k (
faK 2 a λl=>
ldK 1 false l h λm=>
iaK 10 m b λn=>
faK 1 n λo=>
ldK 1 false o h λp=>
eqK P false 3 p e h λq=>
condK q (
faK 2 a λr=>
ldK 1 false r h λs=>
iaK 10 s b λt=>
ldK 10 true t h λu=>
effK (bsE 10 zz10 1 [(0,u)] (List.length h)) h λv c=>
effK (appE 10 80 f v c (List.length c)) c λw x=>
Zbb P T D N xn d e a w b x) (
Zbb P T D N xn d e a f b h)) (
d f h)
noncomputable def Z4E(P:Program)(T:Tab)(D:DTab)(N:Nat){β:Type}(a:Kb β):Nat→AV→AV→AV→Kb β
 | 0=>λ_ _ _ _ _=>none
 | n+1=>λb c d e h=>Z7Z P T D N (Z4E P T D N a n) a b c d e h
noncomputable def Z4F(P:Program)(T:Tab)(D:DTab)(N:Nat){β:Type}(K:Kb β)(a0 a1:AV)(h:Hp):Option β:=
effK (boxE 3 a0 (List.length h)) h λd e=>
ldK 3 true d e λi=>
callK (T 31) [i] e λj b=>
eqK P true 35 j (I 0) b λk=>
condK k (
K (.tup [nilS,(I 1)]) b) (
callK (T 57) [a1] b λl c=>
notK l λm=>
condK m (
K (.tup [nilS,(I 2)]) c) (
effK (bsE 10 zz10 0 [] (List.length c)) c λf g=>
Z4E P T D N (λa h=>Zba P T D N K a h) N a1 d f (I 0) g))
theorem Zqk(xn:AV→AV→AV→Kb β)(x0:Kb β)(xd:Nat→St→Option β)(xq:St→Option β)(t:Tm)(h:Hp):Z7Y P T D N t h (λ(e:Ex)(s:St)=>e.on (xn (s.1 1) (s.1 2) (s.1 6) (s.1 7) s.2) (λi=>(bif i==0 then x0 (s.1 6) s.2 else (xd i s))) (xq s))=Z7Z P T D N xn x0 (t 1) (t 2) (t 6) (t 7) h:=by kernel_rfl
theorem Zql(A:Ex→St→Option β)(x0:Kb β)(q0:∀s,A (.exit 0) s=x0 (s.1 6) s.2):∀(n:Nat)(s:St),iterK (λs k=>Z7Y P T D N s.1 s.2 k) n s A=Z4E P T D N x0 n (s.1 1) (s.1 2) (s.1 6) (s.1 7) s.2:=
 Z0O (exs1 q0 (λs=>rfl)) (λs=>rfl) λn s=>Zqk P T D N (Z4E P T D N x0 n) x0 (λi s=>A (.exit i) s) (λs=>A .ret s) s.1 s.2
theorem Zqm(K:Kb β)(a0 a1:AV)(h:Hp):ZiY P T D N K a0 a1 h=Z4F P T D N K a0 a1 h:=by
 have eL2:(λs:St=>iterK (λs k=>Z7Y P T D N s.1 s.2 k) N s (Zb9 P T D N K))=(λs:St=>Z4E P T D N (λw31_6 h=>Zba P T D N K w31_6 h) N (s.1 1) (s.1 2) (s.1 6) (s.1 7) s.2):=funext λs=>Zql P T D N (Zb9 P T D N K) (λw31_6 h=>Zba P T D N K w31_6 h) (λs=>rfl) N s
 show ZiX P T D N (λs=>iterK (λs k=>Z7Y P T D N s.1 s.2 k) N s (Zb9 P T D N K)) K a0 a1 h=_
 rw[eL2]
 kernel_rfl
theorem Zqn(K:Kb β)(a0 a1:AV)(h:Hp):runK Tryz.prog T D N [0,1,2,4,5,6,7,10,13,19,29] Tryz.f33 K [a0,a1] h=Z4F Tryz.prog T D N K a0 a1 h:=Eq.trans (b:=ZiY Tryz.prog T D N K a0 a1 h) (by kernel_rfl) (Zqm Tryz.prog T D N K a0 a1 h)
noncomputable def ZiZ(P:Program)(T:Tab)(D:DTab)(N:Nat){β:Type}(K:Kb β)(t:Tm)(h:Hp):Option β:=
ldK 3 true (t 10) h λi=>
ldK 2 true (t 9) h λc=>
effD (stE 3 (t 4) i h) h λj b d=>
effD (stE 2 (t 5) c b) b λk a e=>
bif disjAll [(1,2)] [((idsOf (t 10)),[]),((idsOf (t 9)),[]),d,e,([],[]),([],[])] then (
ldK 3 true (t 4) a λf=>
ldK 2 true (t 5) a λg=>
K (.tup [f,g,(.s (.bool true)),(I 0)]) a) else none
noncomputable def Z80(P:Program)(T:Tab)(D:DTab)(N:Nat){β:Type}(t:Tm)(h:Hp)(k:Ex→St→Option β):Option β:=
arithK .gtr (t 14) (I 0) λl=>
grpK true l h (λm=>
faK 1 (t 10) λn=>
ldK 1 false n h λo=>
arithK .sub (t 14) (I 1) λp=>
iaK 2 o p λq=>
ldK 2 true q h λr=>
faK 1 (t 10) λs=>
ldK 1 false s h λu=>
iaK 2 u (t 14) λv=>
ldK 2 true v h λw=>
callK (T 59) [r,w] h λx y=>
m x y) λb a=>
condK b (
faK 1 (t 10) λc=>
ldK 1 false c a λz=>
arithK .sub (t 14) (I 1) λa0=>
faK 1 (t 10) λd=>
ldK 1 false d a λa1=>
faK 1 (t 10) λe=>
ldK 1 false e a λa2=>
iaK 2 a2 (t 14) λf=>
ldK 2 true f a λa3=>
faK 1 (t 10) λg=>
ldK 1 false g a λa4=>
arithK .sub (t 14) (I 1) λa5=>
iaK 2 a4 a5 λi=>
ldK 2 true i a λa6=>
iaK 2 z a0 λa7=>
effD (stE 2 a7 a3 a) a λb3 j a8=>
iaK 2 a1 (t 14) λa9=>
effD (stE 2 a9 a6 j) j λb4 b0 b1=>
bif disjAll [(5,19)] [([],[]),((idsOf c),[]),([],[]),([],[]),([],[]),((idsOf d),[]),([],[]),([],[]),((idsOf e),[]),([],[]),([],[]),((idsOf f),[]),([],[]),((idsOf g),[]),([],[]),([],[]),([],[]),((idsOf i),[]),([],[]),a8,([],[]),b1] then (
arithK .sub (t 14) (I 1) λb2=>
k .normal ((upd (upd t 129 b) 14 b2),b0)) else none) (
k (.exit 4) ((upd t 129 b),a))
noncomputable def Zbc(P:Program)(T:Tab)(D:DTab)(N:Nat){β:Type}(K:Kb β)(e:Ex)(s:St):Option β:=
 e.on ((ZiZ P T D N K s.1 s.2))
 (λi=>bif i==4 then ((ZiZ P T D N K s.1 s.2)) else (none))
 (ldK 3 true (s.1 4) s.2 λa=>
ldK 2 true (s.1 5) s.2 λb=>
K (.tup [a,b,(s.1 6),(s.1 7)]) s.2)
noncomputable def Zj0(P:Program)(T:Tab)(D:DTab)(N:Nat){β:Type}(cL5:St→Option β)(K:Kb β)(t:Tm)(h:Hp) :  Option β:=
faK 1 (t 10) λd=>
ldK 1 false d h λe=>
ldK 2 true (t 9) h λf=>
effK (bsE 2 zz2 1 [(0,f)] (List.length h)) h λg a=>
effK (appE 2 16 e g a (List.length a)) a λi b=>
faK 1 (t 10) λj=>
effK (stE 1 j i b) b λo c=>
faK 1 (t 10) λk=>
ldK 1 false k c λl=>
lenK l λm=>
arithK .sub m (I 1) λn=>
cL5 ((upd t 14 n),c)
noncomputable def Zbd(P:Program)(T:Tab)(D:DTab)(N:Nat){β:Type}(K:Kb β)(t:Tm)(h:Hp):Option β:=Zj0 P T D N (λs=>iterK (λs k=>Z80 P T D N s.1 s.2 k) N s (Zbc P T D N K)) K t h
noncomputable def Zj1(P:Program)(T:Tab)(D:DTab)(N:Nat){β:Type}(cj3:St→Option β)(K:Kb β)(t:Tm)(h:Hp) :  Option β:=
faK 1 (t 2) λv=>
ldK 1 false v h λw=>
lenK w λx=>
eqK P false 3 x (I 256) h λy=>
grpK false y h (λz=>
notK (t 12) λa0=>
grpK true a0 h (λa1=>
faK 2 (t 2) λa2=>
ldK 1 false a2 h λa3=>
lenK a3 λa4=>
eqK P false 3 a4 (I 64) h λa5=>
a1 a5 h) λa6 a7=>
z a6 a7) λd a=>
condK d (
buildK [I 0, nilS, nilS] [] λa8=>
buildK zz2 [] λa9=>
effK (stE 3 (t 4) a8 a) a λb4 i=>
effK (stE 2 (t 5) a9 i) i λb5 e=>
ldK 3 true (t 4) e λb0=>
ldK 2 true (t 5) e λb1=>
K (.tup [b0,b1,(.s (.bool false)),(I 12)]) e) (
notK (t 12) λb=>
condK b (
faK 2 (t 10) λj=>
ldK 1 false j a λk=>
faK 3 (t 3) λl=>
ldK 7 true l a λm=>
effK (bsE 7 zz7 1 [(0,m)] (List.length a)) a λn c=>
effK (appE 7 56 k n c (List.length c)) c λo p=>
callK (T 60) [o] p λf g=>
exK f 0 λq=>
exK f 1 λb2=>
faK 2 (t 10) λr=>
effK (stE 1 r q g) g λb3 u=>
cj3 ((upd (upd t 88 d) 92 b),u)) (
cj3 ((upd (upd t 88 d) 92 b),a)))
noncomputable def Zfo(P:Program)(T:Tab)(D:DTab)(N:Nat){β:Type}(K:Kb β)(t:Tm)(h:Hp):Option β:=Zj1 P T D N (λs=>(Zbd P T D N K s.1 s.2)) K t h
noncomputable def Z81(P:Program)(T:Tab)(D:DTab)(N:Nat){β:Type}(t:Tm)(h:Hp)(k:Ex→St→Option β):Option β:=
faK 2 (t 2) λb=>
ldK 1 false b h λc=>
lenK c λd=>
arithK .lss (t 13) d λa=>
condK a (
grpK false (t 12) h (λe=>
faK 2 (t 2) λf=>
ldK 1 false f h λg=>
iaK 7 g (t 13) λi=>
ldK 7 true i h λj=>
faK 3 (t 3) λl=>
ldK 7 true l h λm=>
eqK P false 50 j m h λn=>
e n h) λo p=>
arithK .add (t 13) (I 1) λq=>
k .normal ((upd (upd (upd t 61 a) 12 o) 13 q),p)) (
k (.exit 2) ((upd t 61 a),h))
noncomputable def Zbe(P:Program)(T:Tab)(D:DTab)(N:Nat){β:Type}(K:Kb β)(e:Ex)(s:St):Option β:=
 e.on ((Zfo P T D N K s.1 s.2))
 (λi=>bif i==2 then ((Zfo P T D N K s.1 s.2)) else (none))
 (ldK 3 true (s.1 4) s.2 λa=>
ldK 2 true (s.1 5) s.2 λb=>
K (.tup [a,b,(s.1 6),(s.1 7)]) s.2)
noncomputable def Zj2(P:Program)(T:Tab)(D:DTab)(N:Nat){β:Type}(cL6:St→Option β)(K:Kb β)(t:Tm)(h:Hp) :  Option β:=
cL6 ((upd (upd t 12 (.s (.bool false))) 13 (I 0)),h)
noncomputable def Zfp(P:Program)(T:Tab)(D:DTab)(N:Nat){β:Type}(K:Kb β)(t:Tm)(h:Hp):Option β:=Zj2 P T D N (λs=>iterK (λs k=>Z81 P T D N s.1 s.2 k) N s (Zbe P T D N K)) K t h
noncomputable def Z82(P:Program)(T:Tab)(D:DTab)(N:Nat){β:Type}(t:Tm)(h:Hp)(k:Ex→St→Option β):Option β:=
faK 1 (t 2) λd=>
ldK 1 false d h λe=>
lenK e λf=>
arithK .lss (t 11) f λa=>
condK a (
faK 1 (t 2) λg=>
ldK 1 false g h λi=>
iaK 2 i (t 11) λj=>
ldK 2 true j h λl=>
ldK 2 true (t 9) h λm=>
eqK P false 60 l m h λb=>
condK b (
ldK 3 true (t 10) h λn=>
ldK 2 true (t 9) h λo=>
effD (stE 3 (t 4) n h) h λv c p=>
effD (stE 2 (t 5) o c) c λw q r=>
bif disjAll [(1,2)] [((idsOf (t 10)),[]),((idsOf (t 9)),[]),p,r,([],[]),([],[])] then (
k .ret ((upd (upd (upd (upd t 45 a) 54 b) 6 (.s (.bool false))) 7 (I 0)),q)) else none) (
arithK .add (t 11) (I 1) λu=>
k .normal ((upd (upd (upd t 45 a) 54 b) 11 u),h))) (
k (.exit 0) ((upd t 45 a),h))
noncomputable def Zbf(P:Program)(T:Tab)(D:DTab)(N:Nat){β:Type}(K:Kb β)(e:Ex)(s:St):Option β:=
 e.on ((Zfp P T D N K s.1 s.2))
 (λi=>bif i==0 then ((Zfp P T D N K s.1 s.2)) else (none))
 (ldK 3 true (s.1 4) s.2 λa=>
ldK 2 true (s.1 5) s.2 λb=>
K (.tup [a,b,(s.1 6),(s.1 7)]) s.2)
noncomputable def Zj3(P:Program)(T:Tab)(D:DTab)(N:Nat){β:Type}(cL7:St→Option β)(K:Kb β)(a0 a1:AV)(h:Hp) :  Option β:=
effK (boxE 3 a0 (List.length h)) h λk y=>
effK (boxE 10 a1 (List.length y)) y λe z=>
effK (boxE 3 (.agg [I 0, nilS, nilS]) (List.length z)) z λc h6=>
effK (boxE 2 (.agg zz2) (List.length h6)) h6 λd h8=>
ldK 3 true k h8 λx9=>
callK (T 32) [x9] h8 λa4 b=>
eqK P true 35 a4 (I 0) b λl=>
condK l (
buildK [I 0, nilS, nilS] [] λa5=>
buildK zz2 [] λa6=>
effK (stE 3 c a5 b) b λd1 m=>
effK (stE 2 d a6 m) m λd2 f=>
ldK 3 true c f λa7=>
ldK 2 true d f λa8=>
K (.tup [a7,a8,(.s (.bool false)),(I 1)]) f) (
ldK 10 true e b λa9=>
callK (T 58) [a9] b λg a=>
eqK P true 35 g (I 0) a λn=>
condK n (
buildK [I 0, nilS, nilS] [] λb0=>
buildK zz2 [] λb1=>
effK (stE 3 c b0 a) a λd3 o=>
effK (stE 2 d b1 o) o λd4 i=>
ldK 3 true c i λb2=>
ldK 2 true d i λb3=>
K (.tup [b2,b3,(.s (.bool false)),g]) i) (
faK 1 e λb4=>
ldK 1 false b4 a λb5=>
faK 0 k λb6=>
ldK 1 false b6 a λb7=>
eqK P true 3 b5 b7 a λp=>
condK p (
buildK [I 0, nilS, nilS] [] λb8=>
buildK zz2 [] λb9=>
effK (stE 3 c b8 a) a λd5 q=>
effK (stE 2 d b9 q) q λd6 j=>
ldK 3 true c j λc0=>
ldK 2 true d j λc1=>
K (.tup [c0,c1,(.s (.bool false)),(I 19)]) j) (
faK 0 e λc2=>
ldK 1 false c2 a λc3=>
faK 2 e λc4=>
ldK 1 false c4 a λc5=>
buildK zz2 [(some (0,1),c3),(some (1,1),c5)] λc6=>
effK (boxE 2 (.agg zz2) (List.length a)) a λr t=>
effK (stE 2 r c6 t) t λd7 u=>
ldK 3 true k u λc7=>
callK (T 9) [c7] u λc8 v=>
effK (boxE 3 (.agg [I 0, nilS, nilS]) (List.length v)) v λw x=>
effK (stE 3 w c8 x) x λd8 c9=>
cL7 ((upd (upd (upd (upd (upd (upd (upd (upd (upd (upd (upd (upd (upd (tm0 [a0,a1]) 2 k) 3 e) 4 c) 5 d) 6 (.s (.bool false))) 7 (I 0)) 17 l) 8 g) 23 n) 31 p) 9 r) 10 w) 11 (I 0)),c9))))
noncomputable def Zj4(P:Program)(T:Tab)(D:DTab)(N:Nat){β:Type}(K:Kb β)(a0 a1:AV)(h:Hp):Option β:=Zj3 P T D N (λs=>iterK (λs k=>Z82 P T D N s.1 s.2 k) N s (Zbf P T D N K)) K a0 a1 h
noncomputable def Z83(P:Program)(T:Tab)(D:DTab)(N:Nat){β:Type}(K:Kb β)(j k l c:AV)(h:Hp):Option β:=
ldK 3 true c h λm=>
ldK 2 true l h λd=>
effD (stE 3 j m h) h λn b e=>
effD (stE 2 k d b) b λo a f=>
bif disjAll [(1,2)] [((idsOf c),[]),((idsOf l),[]),e,f,([],[]),([],[])] then (
ldK 3 true j a λg=>
ldK 2 true k a λi=>
K (.tup [g,i,(.s (.bool true)),(I 0)]) a) else none
noncomputable def Z84(P:Program)(T:Tab)(D:DTab)(N:Nat){β:Type}(xn:AV→AV→AV→AV→Kb β)(x4:AV→AV→AV→Kb β)(v4 v5 v9 b c:AV)(h:Hp):Option β:=
arithK .gtr c (I 0) λl=>
grpK true l h (λm=>
faK 1 b λn=>
ldK 1 false n h λo=>
arithK .sub c (I 1) λp=>
iaK 2 o p λq=>
ldK 2 true q h λr=>
faK 1 b λs=>
ldK 1 false s h λt=>
iaK 2 t c λu=>
ldK 2 true u h λv=>
callK (T 59) [r,v] h λw x=>
m w x) λy a=>
condK y (
faK 1 b λd=>
ldK 1 false d a λz=>
arithK .sub c (I 1) λa0=>
faK 1 b λe=>
ldK 1 false e a λa1=>
faK 1 b λf=>
ldK 1 false f a λa2=>
iaK 2 a2 c λg=>
ldK 2 true g a λa3=>
faK 1 b λi=>
ldK 1 false i a λa4=>
arithK .sub c (I 1) λa5=>
iaK 2 a4 a5 λj=>
ldK 2 true j a λa6=>
iaK 2 z a0 λa7=>
effD (stE 2 a7 a3 a) a λb7 k a8=>
iaK 2 a1 c λa9=>
effD (stE 2 a9 a6 k) k λb8 b0 b1=>
bif disjAll [(5,19)] [([],[]),((idsOf d),[]),([],[]),([],[]),([],[]),((idsOf e),[]),([],[]),([],[]),((idsOf f),[]),([],[]),([],[]),((idsOf g),[]),([],[]),((idsOf i),[]),([],[]),([],[]),([],[]),((idsOf j),[]),([],[]),a8,([],[]),b1] then (
arithK .sub c (I 1) λb2=>
xn v4 v5 v9 b b2 b0) else none) (
x4 v4 v5 v9 b a)
noncomputable def Z4G(P:Program)(T:Tab)(D:DTab)(N:Nat){β:Type}(a:AV→AV→AV→Kb β):Nat→AV→AV→AV→AV→Kb β
 | 0=>λ_ _ _ _ _ _=>none
 | n+1=>λd e f b c h=>Z84 P T D N (Z4G P T D N a n) a d e f b c h
noncomputable def Z4H(P:Program)(T:Tab)(D:DTab)(N:Nat){β:Type}(K:Kb β)(u v j a:AV)(h:Hp):Option β:=
faK 1 a λk=>
ldK 1 false k h λl=>
ldK 2 true j h λm=>
effK (bsE 2 zz2 1 [(0,m)] (List.length h)) h λn c=>
effK (appE 2 16 l n c (List.length c)) c λo g=>
faK 1 a λp=>
effK (stE 1 p o g) g λw i=>
faK 1 a λq=>
ldK 1 false q i λr=>
lenK r λs=>
arithK .sub s (I 1) λt=>
Z4G P T D N (λd e f b h=>Z83 P T D N K d e f b h) N u v j a t i
noncomputable def Z3e(P:Program)(T:Tab)(D:DTab)(N:Nat){β:Type}(K:Kb β)(x v3 g i y c j:AV)(h:Hp):Option β:=
faK 1 x λz=>
ldK 1 false z h λa0=>
lenK a0 λa1=>
eqK P false 3 a1 (I 256) h λa2=>
grpK false a2 h (λa3=>
notK j λa4=>
grpK true a4 h (λa5=>
faK 2 x λa6=>
ldK 1 false a6 h λa7=>
lenK a7 λa8=>
eqK P false 3 a8 (I 64) h λa9=>
a5 a9 h) λb0 b1=>
a3 b0 b1) λb2 a=>
condK b2 (
buildK [I 0, nilS, nilS] [] λb3=>
buildK zz2 [] λb4=>
effK (stE 3 g b3 a) a λc0 k=>
effK (stE 2 i b4 k) k λc1 d=>
ldK 3 true g d λb5=>
ldK 2 true i d λb6=>
K (.tup [b5,b6,(.s (.bool false)),(I 12)]) d) (
notK j λl=>
condK l (
faK 2 c λm=>
ldK 1 false m a λn=>
faK 3 v3 λo=>
ldK 7 true o a λp=>
effK (bsE 7 zz7 1 [(0,p)] (List.length a)) a λq b=>
effK (appE 7 56 n q b (List.length b)) b λr t=>
callK (T 60) [r] t λe f=>
exK e 0 λu=>
exK e 1 λb8=>
faK 2 c λv=>
effK (stE 1 v u f) f λb9 w=>
Z4H P T D N K g i y c w) (
Z4H P T D N K g i y c a))
noncomputable def Z85(P:Program)(T:Tab)(D:DTab)(N:Nat){β:Type}(xn:AV→AV→AV→AV→AV→AV→AV→Kb β)(y:AV→AV→AV→AV→AV→AV→Kb β)(b e v w x c d a:AV)(h:Hp):Option β:=
faK 2 b λf=>
ldK 1 false f h λg=>
lenK g λi=>
arithK .lss a i λj=>
condK j (
grpK false d h (λk=>
faK 2 b λl=>
ldK 1 false l h λm=>
iaK 7 m a λn=>
ldK 7 true n h λo=>
faK 3 e λp=>
ldK 7 true p h λq=>
eqK P false 50 o q h λr=>
k r h) λs t=>
arithK .add a (I 1) λu=>
xn b e v w x c s u t) (
y b e v w x c d h)
noncomputable def Z4I(P:Program)(T:Tab)(D:DTab)(N:Nat){β:Type}(a:AV→AV→AV→AV→AV→AV→Kb β):Nat→AV→AV→AV→AV→AV→AV→AV→Kb β
 | 0=>λ_ _ _ _ _ _ _ _ _=>none
 | n+1=>λe f g i j b c d h=>Z85 P T D N (Z4I P T D N a n) a e f g i j b c d h
noncomputable def Z5X(P:Program)(T:Tab)(D:DTab)(N:Nat){β:Type}(K:Kb β)(j k l m n i:AV)(h:Hp):Option β:=
Z4I P T D N (λc d e f g a b h=>Z3e P T D N K c d e f g a b h) N j k l m n i (.s (.bool false)) (I 0) h
noncomputable def Z86(P:Program)(T:Tab)(D:DTab)(N:Nat){β:Type}(xn:AV→AV→AV→AV→AV→AV→Kb β)(x0:AV→AV→AV→AV→AV→Kb β)(xr:AV→AV→AV→Kb β)(e z f g b a c:AV)(h:Hp):Option β:=
faK 1 e λi=>
ldK 1 false i h λj=>
lenK j λk=>
arithK .lss c k λl=>
condK l (
faK 1 e λm=>
ldK 1 false m h λn=>
iaK 2 n c λo=>
ldK 2 true o h λp=>
ldK 2 true b h λq=>
eqK P false 60 p q h λr=>
condK r (
ldK 3 true a h λt=>
ldK 2 true b h λu=>
effD (stE 3 f t h) h λa1 d v=>
effD (stE 2 g u d) d λa2 w x=>
bif disjAll [(1,2)] [((idsOf a),[]),((idsOf b),[]),v,x,([],[]),([],[])] then (
xr f g (.s (.bool false)) (I 0) w) else none) (
arithK .add c (I 1) λy=>
xn e z f g b a y h)) (
x0 e z f g b a h)
noncomputable def Z4J(P:Program)(T:Tab)(D:DTab)(N:Nat){β:Type}(a:AV→AV→AV→AV→AV→Kb β)(xr:AV→AV→AV→Kb β):Nat→AV→AV→AV→AV→AV→AV→Kb β
 | 0=>λ_ _ _ _ _ _ _ _=>none
 | n+1=>λd e f g i b c h=>Z86 P T D N (Z4J P T D N a xr n) a xr d e f g i b c h
noncomputable def Z3X(P:Program)(T:Tab)(D:DTab)(N:Nat){β:Type}(K:Kb β)(a0 a1:AV)(h:Hp):Option β:=
effK (boxE 3 a0 (List.length h)) h λu h2=>
effK (boxE 10 a1 (List.length h2)) h2 λf h4=>
effK (boxE 3 (.agg [I 0, nilS, nilS]) (List.length h4)) h4 λc h6=>
effK (boxE 2 (.agg zz2) (List.length h6)) h6 λd h8=>
ldK 3 true u h8 λx9=>
callK (T 32) [x9] h8 λb3 b=>
eqK P true 35 b3 (I 0) b λb4=>
condK b4 (
buildK [I 0, nilS, nilS] [] λb5=>
buildK zz2 [] λb6=>
effK (stE 3 c b5 b) b λe3 v=>
effK (stE 2 d b6 v) v λe4 g=>
ldK 3 true c g λb7=>
ldK 2 true d g λb8=>
K (.tup [b7,b8,(.s (.bool false)),(I 1)]) g) (
ldK 10 true f b λb9=>
callK (T 58) [b9] b λw a=>
eqK P true 35 w (I 0) a λc0=>
condK c0 (
buildK [I 0, nilS, nilS] [] λc1=>
buildK zz2 [] λc2=>
effK (stE 3 c c1 a) a λe5 x=>
effK (stE 2 d c2 x) x λe6 i=>
ldK 3 true c i λc3=>
ldK 2 true d i λc4=>
K (.tup [c3,c4,(.s (.bool false)),w]) i) (
faK 1 f λc5=>
ldK 1 false c5 a λc6=>
faK 0 u λc7=>
ldK 1 false c7 a λc8=>
eqK P true 3 c6 c8 a λc9=>
condK c9 (
buildK [I 0, nilS, nilS] [] λd0=>
buildK zz2 [] λd1=>
effK (stE 3 c d0 a) a λe7 y=>
effK (stE 2 d d1 y) y λe8 j=>
ldK 3 true c j λd2=>
ldK 2 true d j λd3=>
K (.tup [d2,d3,(.s (.bool false)),(I 19)]) j) (
faK 0 f λd4=>
ldK 1 false d4 a λd5=>
faK 2 f λd6=>
ldK 1 false d6 a λd7=>
buildK zz2 [(some (0,1),d5),(some (1,1),d7)] λd8=>
effK (boxE 2 (.agg zz2) (List.length a)) a λz a2=>
effK (stE 2 z d8 a2) a2 λe9 a3=>
ldK 3 true u a3 λd9=>
callK (T 9) [d9] a3 λe0 a4=>
effK (boxE 3 (.agg [I 0, nilS, nilS]) (List.length a4)) a4 λa5 a6=>
effK (stE 3 a5 e0 a6) a6 λf0 e1=>
Z4J P T D N (λk l m n o e h=>Z5X P T D N K k l m n o e h) (λp q r t h=>ldK 3 true p h λa7=>
ldK 2 true q h λa8=>
K (.tup [a7,a8,r,t]) h) N u f c d z a5 (I 0) e1)))
theorem Zqo(xn:AV→AV→AV→AV→Kb β)(x4:AV→AV→AV→Kb β)(xd:Nat→St→Option β)(xq:St→Option β)(t:Tm)(h:Hp):Z80 P T D N t h (λ(e:Ex)(s:St)=>e.on (xn (s.1 4) (s.1 5) (s.1 9) (s.1 10) (s.1 14) s.2) (λi=>(bif i==4 then x4 (s.1 4) (s.1 5) (s.1 9) (s.1 10) s.2 else (xd i s))) (xq s))=Z84 P T D N xn x4 (t 4) (t 5) (t 9) (t 10) (t 14) h:=by kernel_rfl
theorem Zqp(A:Ex→St→Option β)(x4:AV→AV→AV→Kb β)(q4:∀s,A (.exit 4) s=x4 (s.1 4) (s.1 5) (s.1 9) (s.1 10) s.2):∀(n:Nat)(s:St),iterK (λs k=>Z80 P T D N s.1 s.2 k) n s A=Z4G P T D N x4 n (s.1 4) (s.1 5) (s.1 9) (s.1 10) (s.1 14) s.2:=
 Z0O (exs1 q4 (λs=>rfl)) (λs=>rfl) λn s=>Zqo P T D N (Z4G P T D N x4 n) x4 (λi s=>A (.exit i) s) (λs=>A .ret s) s.1 s.2
theorem Zqq(K:Kb β)(t:Tm)(h:Hp):Zbd P T D N K t h=Z4H P T D N K (t 4) (t 5) (t 9) (t 10) h:=by
 have eL5:(λs:St=>iterK (λs k=>Z80 P T D N s.1 s.2 k) N s (Zbc P T D N K))=(λs:St=>Z4G P T D N (λw147_4 w147_5 w147_9 w147_10 h=>Z83 P T D N K w147_4 w147_5 w147_9 w147_10 h) N (s.1 4) (s.1 5) (s.1 9) (s.1 10) (s.1 14) s.2):=funext λs=>Zqp P T D N (Zbc P T D N K) (λw147_4 w147_5 w147_9 w147_10 h=>Z83 P T D N K w147_4 w147_5 w147_9 w147_10 h) (λs=>rfl) N s
 show Zj0 P T D N (λs=>iterK (λs k=>Z80 P T D N s.1 s.2 k) N s (Zbc P T D N K)) K t h=_
 rw[eL5]
 kernel_rfl
theorem Zqr(K:Kb β)(t:Tm)(h:Hp):Zfo P T D N K t h=Z3e P T D N K (t 2) (t 3) (t 4) (t 5) (t 9) (t 10) (t 12) h:=by
 have ej3:(λs:St=>Zbd P T D N K s.1 s.2)=(λs:St=>Z4H P T D N K (s.1 4) (s.1 5) (s.1 9) (s.1 10) s.2):=funext λs=>Zqq P T D N K s.1 s.2
 show Zj1 P T D N (λs=>Zbd P T D N K s.1 s.2) K t h=_
 rw[ej3]
 kernel_rfl
theorem Zqs(xn:AV→AV→AV→AV→AV→AV→AV→Kb β)(x2:AV→AV→AV→AV→AV→AV→Kb β)(xd:Nat→St→Option β)(xq:St→Option β)(t:Tm)(h:Hp):Z81 P T D N t h (λ(e:Ex)(s:St)=>e.on (xn (s.1 2) (s.1 3) (s.1 4) (s.1 5) (s.1 9) (s.1 10) (s.1 12) (s.1 13) s.2) (λi=>(bif i==2 then x2 (s.1 2) (s.1 3) (s.1 4) (s.1 5) (s.1 9) (s.1 10) (s.1 12) s.2 else (xd i s))) (xq s))=Z85 P T D N xn x2 (t 2) (t 3) (t 4) (t 5) (t 9) (t 10) (t 12) (t 13) h:=by kernel_rfl
theorem Zqt(A:Ex→St→Option β)(x2:AV→AV→AV→AV→AV→AV→Kb β)(q2:∀s,A (.exit 2) s=x2 (s.1 2) (s.1 3) (s.1 4) (s.1 5) (s.1 9) (s.1 10) (s.1 12) s.2):∀(n:Nat)(s:St),iterK (λs k=>Z81 P T D N s.1 s.2 k) n s A=Z4I P T D N x2 n (s.1 2) (s.1 3) (s.1 4) (s.1 5) (s.1 9) (s.1 10) (s.1 12) (s.1 13) s.2:=
 Z0O (exs1 q2 (λs=>rfl)) (λs=>rfl) λn s=>Zqs P T D N (Z4I P T D N x2 n) x2 (λi s=>A (.exit i) s) (λs=>A .ret s) s.1 s.2
theorem Zqu(K:Kb β)(t:Tm)(h:Hp):Zfp P T D N K t h=Z5X P T D N K (t 2) (t 3) (t 4) (t 5) (t 9) (t 10) h:=by
 have eL6:(λs:St=>iterK (λs k=>Z81 P T D N s.1 s.2 k) N s (Zbe P T D N K))=(λs:St=>Z4I P T D N (λw179_2 w179_3 w179_4 w179_5 w179_9 w179_10 w179_12 h=>Z3e P T D N K w179_2 w179_3 w179_4 w179_5 w179_9 w179_10 w179_12 h) N (s.1 2) (s.1 3) (s.1 4) (s.1 5) (s.1 9) (s.1 10) (s.1 12) (s.1 13) s.2):=funext λs=>Zqt P T D N (Zbe P T D N K) (λw179_2 w179_3 w179_4 w179_5 w179_9 w179_10 w179_12 h=>Z3e P T D N K w179_2 w179_3 w179_4 w179_5 w179_9 w179_10 w179_12 h) (λs=>Zqr P T D N K s.1 s.2) N s
 show Zj2 P T D N (λs=>iterK (λs k=>Z81 P T D N s.1 s.2 k) N s (Zbe P T D N K)) K t h=_
 rw[eL6]
 kernel_rfl
theorem Zqv(xn:AV→AV→AV→AV→AV→AV→Kb β)(x0:AV→AV→AV→AV→AV→Kb β)(xr:AV→AV→AV→Kb β)(xd:Nat→St→Option β)(xq:St→Option β)(t:Tm)(h:Hp):Z82 P T D N t h (λ(e:Ex)(s:St)=>e.on (xn (s.1 2) (s.1 3) (s.1 4) (s.1 5) (s.1 9) (s.1 10) (s.1 11) s.2) (λi=>(bif i==0 then x0 (s.1 2) (s.1 3) (s.1 4) (s.1 5) (s.1 9) (s.1 10) s.2 else (xd i s))) (xr (s.1 4) (s.1 5) (s.1 6) (s.1 7) s.2))=Z86 P T D N xn x0 xr (t 2) (t 3) (t 4) (t 5) (t 9) (t 10) (t 11) h:=by kernel_rfl
theorem Zqw(A:Ex→St→Option β)(x0:AV→AV→AV→AV→AV→Kb β)(xr:AV→AV→AV→Kb β)(q0:∀s,A (.exit 0) s=x0 (s.1 2) (s.1 3) (s.1 4) (s.1 5) (s.1 9) (s.1 10) s.2)(qr:∀s,A .ret s=xr (s.1 4) (s.1 5) (s.1 6) (s.1 7) s.2):∀(n:Nat)(s:St),iterK (λs k=>Z82 P T D N s.1 s.2 k) n s A=Z4J P T D N x0 xr n (s.1 2) (s.1 3) (s.1 4) (s.1 5) (s.1 9) (s.1 10) (s.1 11) s.2:=
 Z0O (exs1 q0 qr) (λs=>rfl) λn s=>Zqv P T D N (Z4J P T D N x0 xr n) x0 xr (λi s=>A (.exit i) s) (λs=>A .ret s) s.1 s.2
theorem Zqx(K:Kb β)(a0 a1:AV)(h:Hp):Zj4 P T D N K a0 a1 h=Z3X P T D N K a0 a1 h:=by
 have eL7:(λs:St=>iterK (λs k=>Z82 P T D N s.1 s.2 k) N s (Zbf P T D N K))=(λs:St=>Z4J P T D N (λw199_2 w199_3 w199_4 w199_5 w199_9 w199_10 h=>Z5X P T D N K w199_2 w199_3 w199_4 w199_5 w199_9 w199_10 h) (λw200_4 w200_5 w200_6 w200_7 h=>ldK 3 true w200_4 h λr201=>
ldK 2 true w200_5 h λr202=>
K (.tup [r201,r202,w200_6,w200_7]) h) N (s.1 2) (s.1 3) (s.1 4) (s.1 5) (s.1 9) (s.1 10) (s.1 11) s.2):=funext λs=>Zqw P T D N (Zbf P T D N K) (λw199_2 w199_3 w199_4 w199_5 w199_9 w199_10 h=>Z5X P T D N K w199_2 w199_3 w199_4 w199_5 w199_9 w199_10 h) (λw200_4 w200_5 w200_6 w200_7 h=>ldK 3 true w200_4 h λr201=>
ldK 2 true w200_5 h λr202=>
K (.tup [r201,r202,w200_6,w200_7]) h) (λs=>Zqu P T D N K s.1 s.2) (λs=>rfl) N s
 show Zj3 P T D N (λs=>iterK (λs k=>Z82 P T D N s.1 s.2 k) N s (Zbf P T D N K)) K a0 a1 h=_
 rw[eL7]
 kernel_rfl
theorem Zqy(K:Kb β)(a0 a1:AV)(h:Hp):runK Tryz.prog T D N [0,1,2,3,4,5,6,7,8,9,10,11,12,13,14,17,23,31,45,54,61,88,92,129] Tryz.f34 K [a0,a1] h=Z3X Tryz.prog T D N K a0 a1 h:=Eq.trans (b:=Zj4 Tryz.prog T D N K a0 a1 h) (by kernel_rfl) (Zqx Tryz.prog T D N K a0 a1 h)
noncomputable def Zj5(P:Program)(T:Tab)(D:DTab)(N:Nat){β:Type}(K:Kb β)(t:Tm)(h:Hp):Option β:=
ldK 3 true (t 6) h λb=>
effK (stE 3 (t 4) b h) h λd a=>
ldK 3 true (t 4) a λc=>
K (.tup [c,(I 0)]) a
noncomputable def Zqz(P:Program)(T:Tab)(D:DTab)(N:Nat){β:Type}(k:Ex→St→Option β)(t:Tm)(h:Hp):Option β:=
arithK .add (t 7) (I 1) λa=>
k .normal ((upd t 7 a),h)
noncomputable def Zj6(P:Program)(T:Tab)(D:DTab)(N:Nat){β:Type}(k:Ex→St→Option β)(t:Tm)(h:Hp):Option β:=
(Zqz P T D N k t h)
noncomputable def Z87(P:Program)(T:Tab)(D:DTab)(N:Nat){β:Type}(t:Tm)(h:Hp)(k:Ex→St→Option β):Option β:=
faK 2 (t 2) λi=>
ldK 1 false i h λj=>
lenK j λl=>
arithK .lss (t 7) l λa=>
condK a (
faK 2 (t 2) λm=>
ldK 1 false m h λn=>
iaK 10 n (t 7) λo=>
faK 2 o λp=>
ldK 1 false p h λq=>
faK 1 (t 3) λr=>
ldK 1 false r h λs=>
eqK P true 3 q s h λb=>
condK b (
faK 2 (t 6) λd=>
ldK 1 false d h λu=>
faK 2 (t 2) λe=>
ldK 1 false e h λv=>
iaK 10 v (t 7) λf=>
ldK 10 true f h λw=>
effD (bsE 10 zz10 1 [(0,w)] (List.length h)) h λx c y=>
effD (appE 10 80 u x c (List.length c)) c λz g a0=>
faK 2 (t 6) λa1=>
effD (stE 1 a1 z g) g λa4 a2 a3=>
bif disjAll [(1,7)] [([],[]),((idsOf d),[]),([],[]),((idsOf e),[]),([],[]),([],[]),((idsOf f),[]),y,a0,([],[]),a3] then (
(Zj6 P T D N k (upd (upd t 38 a) 49 b) a2)) else none) (
(Zj6 P T D N k (upd (upd t 38 a) 49 b) h))) (
k (.exit 0) ((upd t 38 a),h))
noncomputable def Zbg(P:Program)(T:Tab)(D:DTab)(N:Nat){β:Type}(K:Kb β)(e:Ex)(s:St):Option β:=
 e.on ((Zj5 P T D N K s.1 s.2))
 (λi=>bif i==0 then ((Zj5 P T D N K s.1 s.2)) else (none))
 (ldK 3 true (s.1 4) s.2 λa=>
K (.tup [a,(s.1 5)]) s.2)
noncomputable def Zj7(P:Program)(T:Tab)(D:DTab)(N:Nat){β:Type}(cL2:St→Option β)(K:Kb β)(a0 a1:AV)(h:Hp) :  Option β:=
effK (boxE 3 a0 (List.length h)) h λd o=>
effK (boxE 2 a1 (List.length o)) o λe p=>
effK (boxE 3 (.agg [I 0, I 0, nilS]) (List.length p)) p λc q=>
ldK 3 true d q λx7=>
callK (T 31) [x7] q λx8 a=>
eqK P true 35 x8 (I 0) a λf=>
condK f (
buildK [I 0, I 0, nilS] [] λr=>
effK (stE 3 c r a) a λc0 g=>
ldK 3 true c g λs=>
K (.tup [s,(I 1)]) g) (
faK 0 e λt=>
ldK 1 false t a λu=>
faK 0 d λv=>
ldK 1 false v a λw=>
eqK P true 3 u w a λi=>
condK i (
buildK [I 0, I 0, nilS] [] λx=>
effK (stE 3 c x a) a λc1 j=>
ldK 3 true c j λy=>
K (.tup [y,(I 10)]) j) (
faK 1 e λz=>
ldK 1 false z a λa2=>
arithK .lss a2 (I 1) λa3=>
grpK false a3 a (λa4=>
faK 1 e λa5=>
ldK 1 false a5 a λa6=>
faK 1 d λa7=>
ldK 1 false a7 a λa8=>
arithK .geq a6 a8 λa9=>
a4 a9 a) λk b=>
condK k (
buildK [I 0, I 0, nilS] [] λb0=>
effK (stE 3 c b0 b) b λc2 l=>
ldK 3 true c l λb1=>
K (.tup [b1,(I 2)]) l) (
faK 0 d λb2=>
ldK 1 false b2 b λb3=>
faK 1 d λb4=>
ldK 1 false b4 b λb5=>
buildK [I 0, I 0, nilS] [(some (0,1),b3),(some (1,1),b5)] λb6=>
effK (boxE 3 (.agg [I 0, I 0, nilS]) (List.length b)) b λm n=>
effK (stE 3 m b6 n) n λc3 b7=>
cL2 ((upd (upd (upd (upd (upd (upd (upd (upd (upd (tm0 [a0,a1]) 2 d) 3 e) 4 c) 5 (I 0)) 10 f) 16 i) 27 k) 6 m) 7 (I 0)),b7))))
noncomputable def Zj8(P:Program)(T:Tab)(D:DTab)(N:Nat){β:Type}(K:Kb β)(a0 a1:AV)(h:Hp):Option β:=Zj7 P T D N (λs=>iterK (λs k=>Z87 P T D N s.1 s.2 k) N s (Zbg P T D N K)) K a0 a1 h
noncomputable def Zbh(P:Program)(T:Tab)(D:DTab)(N:Nat){β:Type}(K:Kb β)(b e:AV)(h:Hp):Option β:=
ldK 3 true e h λc=>
effK (stE 3 b c h) h λf a=>
ldK 3 true b a λd=>
K (.tup [d,(I 0)]) a
noncomputable def Zfq(P:Program)(T:Tab)(D:DTab)(N:Nat){β:Type}(xn:AV→AV→AV→AV→Kb β)(g:AV→Kb β)(b c d e f:AV)(h:Hp):Option β:=
arithK .add f (I 1) λa=>
xn b c d e a h
noncomputable def Zbi(P:Program)(T:Tab)(D:DTab)(N:Nat){β:Type}(xn:AV→AV→AV→AV→Kb β)(a:AV→Kb β)(b c d e f:AV)(h:Hp):Option β:=
Zfq P T D N xn a b c d e f h
noncomputable def Z88(P:Program)(T:Tab)(D:DTab)(N:Nat){β:Type}(xn:AV→AV→AV→AV→Kb β)(j:AV→Kb β)(a k l b c:AV)(h:Hp):Option β:=
faK 2 a λm=>
ldK 1 false m h λn=>
lenK n λo=>
arithK .lss c o λp=>
condK p (
faK 2 a λq=>
ldK 1 false q h λr=>
iaK 10 r c λs=>
faK 2 s λt=>
ldK 1 false t h λu=>
faK 1 k λv=>
ldK 1 false v h λw=>
eqK P true 3 u w h λx=>
condK x (
faK 2 b λe=>
ldK 1 false e h λy=>
faK 2 a λf=>
ldK 1 false f h λz=>
iaK 10 z c λg=>
ldK 10 true g h λa0=>
effD (bsE 10 zz10 1 [(0,a0)] (List.length h)) h λa1 d a2=>
effD (appE 10 80 y a1 d (List.length d)) d λa3 i a4=>
faK 2 b λa5=>
effD (stE 1 a5 a3 i) i λa8 a6 a7=>
bif disjAll [(1,7)] [([],[]),((idsOf e),[]),([],[]),((idsOf f),[]),([],[]),([],[]),((idsOf g),[]),a2,a4,([],[]),a7] then (
Zbi P T D N xn j a k l b c a6) else none) (
Zbi P T D N xn j a k l b c h)) (
j l b h)
noncomputable def Z4K(P:Program)(T:Tab)(D:DTab)(N:Nat){β:Type}(a:AV→Kb β):Nat→AV→AV→AV→AV→Kb β
 | 0=>λ_ _ _ _ _ _=>none
 | n+1=>λb c d e f h=>Z88 P T D N (Z4K P T D N a n) a b c d e f h
noncomputable def Z3Y(P:Program)(T:Tab)(D:DTab)(N:Nat){β:Type}(K:Kb β)(a0 a1:AV)(h:Hp):Option β:=
effK (boxE 3 a0 (List.length h)) h λd n=>
effK (boxE 2 a1 (List.length n)) n λe o=>
effK (boxE 3 (.agg [I 0, I 0, nilS]) (List.length o)) o λc p=>
ldK 3 true d p λx7=>
callK (T 31) [x7] p λx8 a=>
eqK P true 35 x8 (I 0) a λq=>
condK q (
buildK [I 0, I 0, nilS] [] λr=>
effK (stE 3 c r a) a λc2 i=>
ldK 3 true c i λs=>
K (.tup [s,(I 1)]) i) (
faK 0 e λt=>
ldK 1 false t a λu=>
faK 0 d λv=>
ldK 1 false v a λw=>
eqK P true 3 u w a λx=>
condK x (
buildK [I 0, I 0, nilS] [] λy=>
effK (stE 3 c y a) a λc3 j=>
ldK 3 true c j λz=>
K (.tup [z,(I 10)]) j) (
faK 1 e λa2=>
ldK 1 false a2 a λa3=>
arithK .lss a3 (I 1) λa4=>
grpK false a4 a (λa5=>
faK 1 e λa6=>
ldK 1 false a6 a λa7=>
faK 1 d λa8=>
ldK 1 false a8 a λa9=>
arithK .geq a7 a9 λb0=>
a5 b0 a) λb1 b=>
condK b1 (
buildK [I 0, I 0, nilS] [] λb2=>
effK (stE 3 c b2 b) b λc4 k=>
ldK 3 true c k λb3=>
K (.tup [b3,(I 2)]) k) (
faK 0 d λb4=>
ldK 1 false b4 b λb5=>
faK 1 d λb6=>
ldK 1 false b6 b λb7=>
buildK [I 0, I 0, nilS] [(some (0,1),b5),(some (1,1),b7)] λb8=>
effK (boxE 3 (.agg [I 0, I 0, nilS]) (List.length b)) b λl m=>
effK (stE 3 l b8 m) m λc5 b9=>
Z4K P T D N (λf g h=>Zbh P T D N K f g h) N d e c l (I 0) b9)))
theorem ZqA(xn:AV→AV→AV→AV→Kb β)(x0:AV→Kb β)(xd:Nat→St→Option β)(xq:St→Option β)(t:Tm)(h:Hp):Z87 P T D N t h (λ(e:Ex)(s:St)=>e.on (xn (s.1 2) (s.1 3) (s.1 4) (s.1 6) (s.1 7) s.2) (λi=>(bif i==0 then x0 (s.1 4) (s.1 6) s.2 else (xd i s))) (xq s))=Z88 P T D N xn x0 (t 2) (t 3) (t 4) (t 6) (t 7) h:=by kernel_rfl
theorem ZqB(A:Ex→St→Option β)(x0:AV→Kb β)(q0:∀s,A (.exit 0) s=x0 (s.1 4) (s.1 6) s.2):∀(n:Nat)(s:St),iterK (λs k=>Z87 P T D N s.1 s.2 k) n s A=Z4K P T D N x0 n (s.1 2) (s.1 3) (s.1 4) (s.1 6) (s.1 7) s.2:=
 Z0O (exs1 q0 (λs=>rfl)) (λs=>rfl) λn s=>ZqA P T D N (Z4K P T D N x0 n) x0 (λi s=>A (.exit i) s) (λs=>A .ret s) s.1 s.2
theorem ZqC(K:Kb β)(a0 a1:AV)(h:Hp):Zj8 P T D N K a0 a1 h=Z3Y P T D N K a0 a1 h:=by
 have eL2:(λs:St=>iterK (λs k=>Z87 P T D N s.1 s.2 k) N s (Zbg P T D N K))=(λs:St=>Z4K P T D N (λw81_4 w81_6 h=>Zbh P T D N K w81_4 w81_6 h) N (s.1 2) (s.1 3) (s.1 4) (s.1 6) (s.1 7) s.2):=funext λs=>ZqB P T D N (Zbg P T D N K) (λw81_4 w81_6 h=>Zbh P T D N K w81_4 w81_6 h) (λs=>rfl) N s
 show Zj7 P T D N (λs=>iterK (λs k=>Z87 P T D N s.1 s.2 k) N s (Zbg P T D N K)) K a0 a1 h=_
 rw[eL2]
 kernel_rfl
theorem ZqD(K:Kb β)(a0 a1:AV)(h:Hp):runK Tryz.prog T D N [0,1,2,3,4,5,6,7,10,16,27,38,49] Tryz.f35 K [a0,a1] h=Z3Y Tryz.prog T D N K a0 a1 h:=Eq.trans (b:=Zj8 Tryz.prog T D N K a0 a1 h) (by kernel_rfl) (ZqC Tryz.prog T D N K a0 a1 h)
noncomputable def Zj9(P:Program)(T:Tab)(D:DTab)(N:Nat){β:Type}(K:Kb β)(t:Tm)(h:Hp):Option β:=
K (.tup [(t 6),(I 0)]) h
noncomputable def ZqE(P:Program)(T:Tab)(D:DTab)(N:Nat){β:Type}(k:Ex→St→Option β)(t:Tm)(h:Hp):Option β:=
arithK .add (t 19) (I 1) λa=>
k .normal ((upd t 19 a),h)
noncomputable def Zja(P:Program)(T:Tab)(D:DTab)(N:Nat){β:Type}(k:Ex→St→Option β)(t:Tm)(h:Hp):Option β:=
(ZqE P T D N k t h)
noncomputable def Z89(P:Program)(T:Tab)(D:DTab)(N:Nat){β:Type}(t:Tm)(h:Hp)(k:Ex→St→Option β):Option β:=
arithK .lss (t 19) (t 18) λf=>
condK f (
iaK 7 (t 17) (t 19) λx9=>
ldK 7 true x9 h λj=>
effK (boxE 7 (.agg zz7) (List.length h)) h λb g=>
effK (stE 7 b j g) g λa2 a=>
eqK P false 3 (t 19) (I 0) a λl=>
grpK false l a (λm=>
faK 0 b λn=>
ldK 1 false n a λo=>
arithK .sub (t 19) (I 1) λp=>
iaK 7 (t 4) p λq=>
faK 0 q λr=>
ldK 1 false r a λs=>
eqK P true 3 o s a λu=>
m u a) λc d=>
condK c (
faK 0 b λv=>
ldK 1 false v d λw=>
callK (T 61) [(t 4),w] d λx i=>
effK (bsE 7 zz7 1 [(0,x)] (List.length i)) i λy e=>
effK (appE 7 56 (t 6) y e (List.length e)) e λz a0=>
(Zja P T D N k (upd (upd (upd (upd (upd t 20 f) 8 b) 7 (t 19)) 36 c) 6 z) a0)) (
(Zja P T D N k (upd (upd (upd (upd t 20 f) 8 b) 7 (t 19)) 36 c) d))) (
k (.exit 0) ((upd t 20 f),h))
noncomputable def Zbj(P:Program)(T:Tab)(D:DTab)(N:Nat){β:Type}(K:Kb β)(e:Ex)(s:St):Option β:=
 e.on ((Zj9 P T D N K s.1 s.2))
 (λi=>bif i==0 then ((Zj9 P T D N K s.1 s.2)) else (none))
 (K (.tup [(s.1 2),(s.1 3)]) s.2)
noncomputable def Zjb(P:Program)(T:Tab)(D:DTab)(N:Nat){β:Type}(cL2:St→Option β)(K:Kb β)(a0:AV)(h:Hp) :  Option β:=
callK (T 46) [a0] h λd a=>
exK d 0 λb=>
exK d 1 λc=>
eqK P true 35 c (I 0) a λe=>
condK e (
K (.tup [nilS,c]) a) (
lenK b λf=>
cL2 ((upd (upd (upd (upd (upd (upd (upd (upd (upd (tm0 [a0]) 2 nilS) 3 (I 0)) 4 b) 5 c) 15 e) 6 nilS) 17 b) 18 f) 19 (I 0)),a))
noncomputable def Zjc(P:Program)(T:Tab)(D:DTab)(N:Nat){β:Type}(K:Kb β)(a0:AV)(h:Hp):Option β:=Zjb P T D N (λs=>iterK (λs k=>Z89 P T D N s.1 s.2 k) N s (Zbj P T D N K)) K a0 h
noncomputable def Z8a(P:Program)(T:Tab)(D:DTab)(N:Nat){β:Type}(K:Kb β)(a:AV)(h:Hp):Option β:=
K (.tup [a,(I 0)]) h
noncomputable def Zfr(P:Program)(T:Tab)(D:DTab)(N:Nat){β:Type}(xn:AV→AV→AV→AV→Kb β)(g:Kb β)(d e a b c:AV)(h:Hp):Option β:=
arithK .add c (I 1) λf=>
xn d e a b f h
noncomputable def Zbk(P:Program)(T:Tab)(D:DTab)(N:Nat){β:Type}(xn:AV→AV→AV→AV→Kb β)(d:Kb β)(e f a b c:AV)(h:Hp):Option β:=
Zfr P T D N xn d e f a b c h
noncomputable def Z8b(P:Program)(T:Tab)(D:DTab)(N:Nat){β:Type}(xn:AV→AV→AV→AV→Kb β)(l:Kb β)(i m c d a:AV)(h:Hp):Option β:=
arithK .lss a d λx7=>
condK x7 (
iaK 7 c a λx9=>
ldK 7 true x9 h λn=>
effK (boxE 7 (.agg zz7) (List.length h)) h λe j=>
effK (stE 7 e n j) j λa6 b=>
eqK P false 3 a (I 0) b λo=>
grpK false o b (λp=>
faK 0 e λq=>
ldK 1 false q b λr=>
arithK .sub a (I 1) λs=>
iaK 7 i s λt=>
faK 0 t λu=>
ldK 1 false u b λv=>
eqK P true 3 r v b λw=>
p w b) λx f=>
condK x (
faK 0 e λy=>
ldK 1 false y f λz=>
callK (T 61) [i,z] f λa0 k=>
effK (bsE 7 zz7 1 [(0,a0)] (List.length k)) k λa1 g=>
effK (appE 7 56 m a1 g (List.length g)) g λa2 a3=>
Zbk P T D N xn l i a2 c d a a3) (
Zbk P T D N xn l i m c d a f)) (
l m h)
noncomputable def Z4L(P:Program)(T:Tab)(D:DTab)(N:Nat){β:Type}(a:Kb β):Nat→AV→AV→AV→AV→Kb β
 | 0=>λ_ _ _ _ _ _=>none
 | n+1=>λe f b c d h=>Z8b P T D N (Z4L P T D N a n) a e f b c d h
noncomputable def Z4M(P:Program)(T:Tab)(D:DTab)(N:Nat){β:Type}(K:Kb β)(a0:AV)(h:Hp):Option β:=
callK (T 46) [a0] h λd b=>
exK d 0 λc=>
exK d 1 λe=>
eqK P true 35 e (I 0) b λf=>
condK f (
K (.tup [nilS,e]) b) (
lenK c λg=>
Z4L P T D N (λa h=>Z8a P T D N K a h) N c nilS c g (I 0) b)
theorem ZqF(xn:AV→AV→AV→AV→Kb β)(x0:Kb β)(xd:Nat→St→Option β)(xq:St→Option β)(t:Tm)(h:Hp):Z89 P T D N t h (λ(e:Ex)(s:St)=>e.on (xn (s.1 4) (s.1 6) (s.1 17) (s.1 18) (s.1 19) s.2) (λi=>(bif i==0 then x0 (s.1 6) s.2 else (xd i s))) (xq s))=Z8b P T D N xn x0 (t 4) (t 6) (t 17) (t 18) (t 19) h:=by kernel_rfl
theorem ZqG(A:Ex→St→Option β)(x0:Kb β)(q0:∀s,A (.exit 0) s=x0 (s.1 6) s.2):∀(n:Nat)(s:St),iterK (λs k=>Z89 P T D N s.1 s.2 k) n s A=Z4L P T D N x0 n (s.1 4) (s.1 6) (s.1 17) (s.1 18) (s.1 19) s.2:=
 Z0O (exs1 q0 (λs=>rfl)) (λs=>rfl) λn s=>ZqF P T D N (Z4L P T D N x0 n) x0 (λi s=>A (.exit i) s) (λs=>A .ret s) s.1 s.2
theorem ZqH(K:Kb β)(a0:AV)(h:Hp):Zjc P T D N K a0 h=Z4M P T D N K a0 h:=by
 have eL2:(λs:St=>iterK (λs k=>Z89 P T D N s.1 s.2 k) N s (Zbj P T D N K))=(λs:St=>Z4L P T D N (λw34_6 h=>Z8a P T D N K w34_6 h) N (s.1 4) (s.1 6) (s.1 17) (s.1 18) (s.1 19) s.2):=funext λs=>ZqG P T D N (Zbj P T D N K) (λw34_6 h=>Z8a P T D N K w34_6 h) (λs=>rfl) N s
 show Zjb P T D N (λs=>iterK (λs k=>Z89 P T D N s.1 s.2 k) N s (Zbj P T D N K)) K a0 h=_
 rw[eL2]
 kernel_rfl
theorem ZqI(K:Kb β)(a0:AV)(h:Hp):runK Tryz.prog T D N [0,2,3,4,5,6,7,8,15,17,18,19,20,36] Tryz.f36 K [a0] h=Z4M Tryz.prog T D N K a0 h:=Eq.trans (b:=Zjc Tryz.prog T D N K a0 h) (by kernel_rfl) (ZqH Tryz.prog T D N K a0 h)
noncomputable def Z8c(P:Program)(T:Tab)(D:DTab)(N:Nat){β:Type}(K:Kb β)(a0:AV)(h:Hp):Option β:=
callK (T 62) [a0] h λb a=>
eqK P true 35 b (I 0) a λc=>
condK c (
K (.tup [nilS,b]) a) (
callK (T 63) [a0] a λd e=>
K (.tup [d,(I 0)]) e)
theorem ZqJ(K:Kb β)(a0:AV)(h:Hp):runK Tryz.prog T D N [0,2,3,4,8] Tryz.f37 K [a0] h=Z8c Tryz.prog T D N K a0 h:=by kernel_rfl
noncomputable def Zjd(P:Program)(T:Tab)(D:DTab)(N:Nat){β:Type}(K:Kb β)(t:Tm)(h:Hp):Option β:=
K (.s (.bool true)) h
noncomputable def Z8d(P:Program)(T:Tab)(D:DTab)(N:Nat){β:Type}(t:Tm)(h:Hp)(k:Ex→St→Option β):Option β:=
lenK (t 0) λd=>
arithK .lss (t 5) d λb=>
condK b (
iaK 10 (t 0) (t 5) λe=>
ldK 10 true e h λf=>
iaK 10 (t 1) (t 5) λg=>
ldK 10 true g h λi=>
eqK P true 52 f i h λa=>
condK a (
k .ret ((upd (upd (upd t 14 b) 25 a) 4 (.s (.bool false))),h)) (
arithK .add (t 5) (I 1) λc=>
k .normal ((upd (upd (upd t 14 b) 25 a) 5 c),h))) (
k (.exit 0) ((upd t 14 b),h))
noncomputable def Zbl(P:Program)(T:Tab)(D:DTab)(N:Nat){β:Type}(K:Kb β)(e:Ex)(s:St):Option β:=
 e.on ((Zjd P T D N K s.1 s.2))
 (λi=>bif i==0 then ((Zjd P T D N K s.1 s.2)) else (none))
 (K (s.1 4) s.2)
noncomputable def Zje(P:Program)(T:Tab)(D:DTab)(N:Nat){β:Type}(cL2:St→Option β)(K:Kb β)(a0 a1:AV)(h:Hp) :  Option β:=
lenK a0 λb=>
lenK a1 λc=>
eqK P true 3 b c h λa=>
condK a (
K (.s (.bool false)) h) (
cL2 ((upd (upd (upd (tm0 [a0,a1]) 4 (.s (.bool false))) 10 a) 5 (I 0)),h))
noncomputable def Zjf(P:Program)(T:Tab)(D:DTab)(N:Nat){β:Type}(K:Kb β)(a0 a1:AV)(h:Hp):Option β:=Zje P T D N (λs=>iterK (λs k=>Z8d P T D N s.1 s.2 k) N s (Zbl P T D N K)) K a0 a1 h
noncomputable def Zbm(P:Program)(T:Tab)(D:DTab)(N:Nat){β:Type}(K:Kb β)(h:Hp):Option β:=
K (.s (.bool true)) h
noncomputable def Z8e(P:Program)(T:Tab)(D:DTab)(N:Nat){β:Type}(xn:AV→AV→Kb β)(f:Qb β)(xr:Kb β)(b c a:AV)(h:Hp):Option β:=
lenK b λg=>
arithK .lss a g λi=>
condK i (
iaK 10 b a λj=>
ldK 10 true j h λk=>
iaK 10 c a λl=>
ldK 10 true l h λm=>
eqK P true 52 k m h λd=>
condK d (
xr (.s (.bool false)) h) (
arithK .add a (I 1) λe=>
xn b c e h)) (
f h)
noncomputable def Z4N(P:Program)(T:Tab)(D:DTab)(N:Nat){β:Type}(a:Qb β)(xr:Kb β):Nat→AV→AV→Kb β
 | 0=>λ_ _ _ _=>none
 | n+1=>λb c d h=>Z8e P T D N (Z4N P T D N a xr n) a xr b c d h
noncomputable def Z5Y(P:Program)(T:Tab)(D:DTab)(N:Nat){β:Type}(K:Kb β)(a0 a1:AV)(h:Hp):Option β:=
lenK a0 λb=>
lenK a1 λc=>
eqK P true 3 b c h λd=>
condK d (
K (.s (.bool false)) h) (
Z4N P T D N (λh=>Zbm P T D N K h) (λa h=>K a h) N a0 a1 (I 0) h)
theorem ZqK(xn:AV→AV→Kb β)(x0:Qb β)(xr:Kb β)(xd:Nat→St→Option β)(xq:St→Option β)(t:Tm)(h:Hp):Z8d P T D N t h (λ(e:Ex)(s:St)=>e.on (xn (s.1 0) (s.1 1) (s.1 5) s.2) (λi=>(bif i==0 then x0 s.2 else (xd i s))) (xr (s.1 4) s.2))=Z8e P T D N xn x0 xr (t 0) (t 1) (t 5) h:=by kernel_rfl
theorem ZqL(A:Ex→St→Option β)(x0:Qb β)(xr:Kb β)(q0:∀s,A (.exit 0) s=x0 s.2)(qr:∀s,A .ret s=xr (s.1 4) s.2):∀(n:Nat)(s:St),iterK (λs k=>Z8d P T D N s.1 s.2 k) n s A=Z4N P T D N x0 xr n (s.1 0) (s.1 1) (s.1 5) s.2:=
 Z0O (exs1 q0 qr) (λs=>rfl) λn s=>ZqK P T D N (Z4N P T D N x0 xr n) x0 xr (λi s=>A (.exit i) s) (λs=>A .ret s) s.1 s.2
theorem ZqM(K:Kb β)(a0 a1:AV)(h:Hp):Zjf P T D N K a0 a1 h=Z5Y P T D N K a0 a1 h:=by
 have eL2:(λs:St=>iterK (λs k=>Z8d P T D N s.1 s.2 k) N s (Zbl P T D N K))=(λs:St=>Z4N P T D N (λh=>Zbm P T D N K h) (λw13_4 h=>K w13_4 h) N (s.1 0) (s.1 1) (s.1 5) s.2):=funext λs=>ZqL P T D N (Zbl P T D N K) (λh=>Zbm P T D N K h) (λw13_4 h=>K w13_4 h) (λs=>rfl) (λs=>rfl) N s
 show Zje P T D N (λs=>iterK (λs k=>Z8d P T D N s.1 s.2 k) N s (Zbl P T D N K)) K a0 a1 h=_
 rw[eL2]
 kernel_rfl
theorem ZqN(K:Kb β)(a0 a1:AV)(h:Hp):runK Tryz.prog T D N [0,1,4,5,10,14,25] Tryz.f38 K [a0,a1] h=Z5Y Tryz.prog T D N K a0 a1 h:=Eq.trans (b:=Zjf Tryz.prog T D N K a0 a1 h) (by kernel_rfl) (ZqM Tryz.prog T D N K a0 a1 h)
noncomputable def Zjg(P:Program)(T:Tab)(D:DTab)(N:Nat){β:Type}(K:Kb β)(t:Tm)(h:Hp):Option β:=
K (.s (.bool true)) h
noncomputable def Z8f(P:Program)(T:Tab)(D:DTab)(N:Nat){β:Type}(t:Tm)(h:Hp)(k:Ex→St→Option β):Option β:=
lenK (t 0) λd=>
arithK .lss (t 5) d λb=>
condK b (
iaK 7 (t 0) (t 5) λe=>
ldK 7 true e h λf=>
iaK 7 (t 1) (t 5) λg=>
ldK 7 true g h λi=>
eqK P true 50 f i h λa=>
condK a (
k .ret ((upd (upd (upd t 14 b) 25 a) 4 (.s (.bool false))),h)) (
arithK .add (t 5) (I 1) λc=>
k .normal ((upd (upd (upd t 14 b) 25 a) 5 c),h))) (
k (.exit 0) ((upd t 14 b),h))
noncomputable def Zbn(P:Program)(T:Tab)(D:DTab)(N:Nat){β:Type}(K:Kb β)(e:Ex)(s:St):Option β:=
 e.on ((Zjg P T D N K s.1 s.2))
 (λi=>bif i==0 then ((Zjg P T D N K s.1 s.2)) else (none))
 (K (s.1 4) s.2)
noncomputable def Zjh(P:Program)(T:Tab)(D:DTab)(N:Nat){β:Type}(cL2:St→Option β)(K:Kb β)(a0 a1:AV)(h:Hp) :  Option β:=
lenK a0 λb=>
lenK a1 λc=>
eqK P true 3 b c h λa=>
condK a (
K (.s (.bool false)) h) (
cL2 ((upd (upd (upd (tm0 [a0,a1]) 4 (.s (.bool false))) 10 a) 5 (I 0)),h))
noncomputable def Zji(P:Program)(T:Tab)(D:DTab)(N:Nat){β:Type}(K:Kb β)(a0 a1:AV)(h:Hp):Option β:=Zjh P T D N (λs=>iterK (λs k=>Z8f P T D N s.1 s.2 k) N s (Zbn P T D N K)) K a0 a1 h
noncomputable def Zbo(P:Program)(T:Tab)(D:DTab)(N:Nat){β:Type}(K:Kb β)(h:Hp):Option β:=
K (.s (.bool true)) h
noncomputable def Z8g(P:Program)(T:Tab)(D:DTab)(N:Nat){β:Type}(xn:AV→AV→Kb β)(f:Qb β)(xr:Kb β)(b c a:AV)(h:Hp):Option β:=
lenK b λg=>
arithK .lss a g λi=>
condK i (
iaK 7 b a λj=>
ldK 7 true j h λk=>
iaK 7 c a λl=>
ldK 7 true l h λm=>
eqK P true 50 k m h λd=>
condK d (
xr (.s (.bool false)) h) (
arithK .add a (I 1) λe=>
xn b c e h)) (
f h)
noncomputable def Z4O(P:Program)(T:Tab)(D:DTab)(N:Nat){β:Type}(a:Qb β)(xr:Kb β):Nat→AV→AV→Kb β
 | 0=>λ_ _ _ _=>none
 | n+1=>λb c d h=>Z8g P T D N (Z4O P T D N a xr n) a xr b c d h
noncomputable def Z5Z(P:Program)(T:Tab)(D:DTab)(N:Nat){β:Type}(K:Kb β)(a0 a1:AV)(h:Hp):Option β:=
lenK a0 λb=>
lenK a1 λc=>
eqK P true 3 b c h λd=>
condK d (
K (.s (.bool false)) h) (
Z4O P T D N (λh=>Zbo P T D N K h) (λa h=>K a h) N a0 a1 (I 0) h)
theorem ZqO(xn:AV→AV→Kb β)(x0:Qb β)(xr:Kb β)(xd:Nat→St→Option β)(xq:St→Option β)(t:Tm)(h:Hp):Z8f P T D N t h (λ(e:Ex)(s:St)=>e.on (xn (s.1 0) (s.1 1) (s.1 5) s.2) (λi=>(bif i==0 then x0 s.2 else (xd i s))) (xr (s.1 4) s.2))=Z8g P T D N xn x0 xr (t 0) (t 1) (t 5) h:=by kernel_rfl
theorem ZqP(A:Ex→St→Option β)(x0:Qb β)(xr:Kb β)(q0:∀s,A (.exit 0) s=x0 s.2)(qr:∀s,A .ret s=xr (s.1 4) s.2):∀(n:Nat)(s:St),iterK (λs k=>Z8f P T D N s.1 s.2 k) n s A=Z4O P T D N x0 xr n (s.1 0) (s.1 1) (s.1 5) s.2:=
 Z0O (exs1 q0 qr) (λs=>rfl) λn s=>ZqO P T D N (Z4O P T D N x0 xr n) x0 xr (λi s=>A (.exit i) s) (λs=>A .ret s) s.1 s.2
theorem ZqQ(K:Kb β)(a0 a1:AV)(h:Hp):Zji P T D N K a0 a1 h=Z5Z P T D N K a0 a1 h:=by
 have eL2:(λs:St=>iterK (λs k=>Z8f P T D N s.1 s.2 k) N s (Zbn P T D N K))=(λs:St=>Z4O P T D N (λh=>Zbo P T D N K h) (λw13_4 h=>K w13_4 h) N (s.1 0) (s.1 1) (s.1 5) s.2):=funext λs=>ZqP P T D N (Zbn P T D N K) (λh=>Zbo P T D N K h) (λw13_4 h=>K w13_4 h) (λs=>rfl) (λs=>rfl) N s
 show Zjh P T D N (λs=>iterK (λs k=>Z8f P T D N s.1 s.2 k) N s (Zbn P T D N K)) K a0 a1 h=_
 rw[eL2]
 kernel_rfl
theorem ZqR(K:Kb β)(a0 a1:AV)(h:Hp):runK Tryz.prog T D N [0,1,4,5,10,14,25] Tryz.f39 K [a0,a1] h=Z5Z Tryz.prog T D N K a0 a1 h:=Eq.trans (b:=Zji Tryz.prog T D N K a0 a1 h) (by kernel_rfl) (ZqQ Tryz.prog T D N K a0 a1 h)
noncomputable def Zbp(P:Program)(T:Tab)(D:DTab)(N:Nat){β:Type}(K:Kb β)(a0:AV)(h:Hp):Option β:=
arithK .geq a0 (I 1) λa=>
grpK true a h (λb=>
arithK .leq a0 (I 99) λc=>
b c h) λd e=>
K d e
theorem ZqS(K:Kb β)(a0:AV)(h:Hp):runK Tryz.prog T D N [0,2] Tryz.f40 K [a0] h=Zbp Tryz.prog T D N K a0 h:=by kernel_rfl
noncomputable def Z8h(P:Program)(T:Tab)(D:DTab)(N:Nat){β:Type}(K:Kb β)(i j k:AV)(h:Hp):Option β:=
notK k λb=>
grpK false b h (λc=>
ldK 7 true i h λd=>
ldK 7 true j h λe=>
eqK P true 50 d e h λf=>
c f h) λg a=>
condK g (
K (I 1) a) (
K (I 0) a)
noncomputable def Z3Z(P:Program)(T:Tab)(D:DTab)(N:Nat){β:Type}(K:Kb β)(a b c:AV)(h:Hp):Option β:=
Z8h P T D N K a b c h
noncomputable def Zbq(P:Program)(T:Tab)(D:DTab)(N:Nat){β:Type}(K:Kb β)(a0:AV)(h:Hp):Option β:=
effK (boxE 7 a0 (List.length h)) h λa v=>
faK 0 a λx3=>
ldK 1 false x3 v λx4=>
arithK .lss x4 (I 1) λx5=>
grpK false x5 v (λk6=>
faK 0 a λx7=>
ldK 1 false x7 v λx8=>
arithK .gtr x8 (I 1073741824) λx9=>
k6 x9 v) λe5 j=>
grpK false e5 j (λe6=>
faK 1 a λe7=>
ldK 1 false e7 j λe8=>
arithK .lss e8 (I 1) λe9=>
e6 e9 j) λf0 k=>
grpK false f0 k (λf1=>
faK 1 a λf2=>
ldK 1 false f2 k λf3=>
arithK .gtr f3 (I 5) λf4=>
f1 f4 k) λf5 l=>
grpK false f5 l (λf6=>
faK 3 a λf7=>
ldK 1 false f7 l λf8=>
arithK .lss f8 (I 0) λf9=>
f6 f9 l) λg0 m=>
grpK false g0 m (λg1=>
faK 3 a λg2=>
ldK 1 false g2 m λg3=>
arithK .gtr g3 (I 100000) λg4=>
g1 g4 m) λg5 d=>
condK g5 (
K (I 2) d) (
faK 0 a λg6=>
ldK 1 false g6 d λg7=>
faK 1 a λg8=>
ldK 1 false g8 d λg9=>
faK 3 a λh0=>
ldK 1 false h0 d λh1=>
buildK zz7 [(some (0,1),g7),(some (1,1),g9),(some (3,1),h1)] λh2=>
effK (boxE 7 (.agg zz7) (List.length d)) d λc w=>
effK (stE 7 c h2 w) w λl5 b=>
faK 1 a λh3=>
ldK 1 false h3 b λn=>
eqK P false 3 n (I 1) b λh4=>
condK h4 (
faK 4 a λx=>
ldK 1 false x b λh5=>
faK 5 a λy=>
ldK 1 false y b λh6=>
faK 6 a λz=>
ldK 1 false z b λh7=>
faK 4 c λh8=>
effD (stE 1 h8 h5 b) b λl6 a1 h9=>
faK 5 c λi0=>
effD (stE 1 i0 h6 a1) a1 λl7 a2 i1=>
faK 6 c λi2=>
effD (stE 1 i2 h7 a2) a2 λl8 a3 i3=>
bif disjAll [(3,7),(5,7),(5,9)] [([],[]),((idsOf x),[]),([],[]),((idsOf y),[]),([],[]),((idsOf z),[]),([],[]),h9,([],[]),i1,([],[]),i3] then (
faK 4 a λi4=>
ldK 1 false i4 a3 λi5=>
callK (T 64) [i5] a3 λi6 o=>
grpK true i6 o (λi7=>
faK 5 a λi8=>
ldK 1 false i8 o λi9=>
callK (T 64) [i9] o λj0 j1=>
i7 j0 j1) λj2 g=>
grpK true j2 g (λj3=>
faK 4 a λj4=>
ldK 1 false j4 g λj5=>
faK 5 a λj6=>
ldK 1 false j6 g λj7=>
eqK P true 3 j5 j7 g λj8=>
j3 j8 g) λj9 p=>
grpK true j9 p (λk0=>
faK 6 a λk1=>
ldK 1 false k1 p λk2=>
arithK .geq k2 (I 1) λk3=>
k0 k3 p) λk4 q=>
grpK true k4 q (λa4=>
faK 6 a λa5=>
ldK 1 false a5 q λa6=>
arithK .leq a6 (I 10737418240000) λa7=>
a4 a7 q) λa8 a9=>
Z3Z P T D N K a c a8 a9) else none) (
eqK P false 3 n (I 2) b λb0=>
condK b0 (
faK 2 a λr=>
ldK 1 false r b λb1=>
faK 5 a λt=>
ldK 1 false t b λb2=>
faK 2 c λb3=>
effD (stE 1 b3 b1 b) b λl2 u b4=>
faK 5 c λb5=>
effD (stE 1 b5 b2 u) u λl3 e b6=>
bif disjAll [(3,5)] [([],[]),((idsOf r),[]),([],[]),((idsOf t),[]),([],[]),b4,([],[]),b6] then (
faK 2 a λb7=>
ldK 1 false b7 e λb8=>
arithK .geq b8 (I 1) λb9=>
grpK true b9 e (λc0=>
faK 2 a λc1=>
ldK 1 false c1 e λc2=>
arithK .leq c2 (I 64) λc3=>
c0 c3 e) λc4 i=>
grpK true c4 i (λc5=>
faK 5 a λc6=>
ldK 1 false c6 i λc7=>
callK (T 64) [c7] i λc8 c9=>
c5 c8 c9) λd0 d1=>
Z3Z P T D N K a c d0 d1) else none) (
eqK P false 3 n (I 3) b λd2=>
condK d2 (
faK 6 a λd3=>
ldK 1 false d3 b λd4=>
faK 6 c λd5=>
effK (stE 1 d5 d4 b) b λl4 f=>
faK 6 a λd6=>
ldK 1 false d6 f λd7=>
arithK .geq d7 (I 0) λd8=>
grpK true d8 f (λd9=>
faK 6 a λe0=>
ldK 1 false e0 f λe1=>
arithK .leq e1 (I 10737418240000) λe2=>
d9 e2 f) λe3 e4=>
Z3Z P T D N K a c e3 e4) (
Z3Z P T D N K a c (.s (.bool true)) b))))
theorem ZqT(K:Kb β)(a0:AV)(h:Hp):runK Tryz.prog T D N [0,1,2,3,4,32,41,42,78,99,118] Tryz.f41 K [a0] h=Zbq Tryz.prog T D N K a0 h:=by kernel_rfl
noncomputable def Z8i(P:Program)(T:Tab)(D:DTab)(N:Nat){β:Type}(K:Kb β)(a0:AV)(h:Hp):Option β:=
effK (boxE 3 a0 (List.length h)) h λc d=>
effK (boxE 3 (.agg [I 0, I 0, nilS]) (List.length d)) d λe f=>
faK 2 c λk=>
ldK 1 false k f λl=>
callK (T 25) [l] f λm g=>
faK 2 c λn=>
effK (stE 1 n m g) g λo a=>
ldK 3 true c a λi=>
effK (stE 3 e i a) a λp b=>
ldK 3 true e b λj=>
K j b
theorem ZqU(K:Kb β)(a0:AV)(h:Hp):runK Tryz.prog T D N [0,1,2] Tryz.f42 K [a0] h=Z8i Tryz.prog T D N K a0 h:=by kernel_rfl
noncomputable def Zbr(P:Program)(T:Tab)(D:DTab)(N:Nat){β:Type}(K:Kb β)(a0:AV)(h:Hp):Option β:=
arithK .geq a0 (I 1) λa=>
grpK true a h (λb=>
arithK .leq a0 (I 99) λc=>
b c h) λd e=>
K d e
theorem ZqV(K:Kb β)(a0:AV)(h:Hp):runK Tryz.prog T D N [0,2] Tryz.f43 K [a0] h=Zbr Tryz.prog T D N K a0 h:=by kernel_rfl
noncomputable def Zjj(P:Program)(T:Tab)(D:DTab)(N:Nat){β:Type}(K:Kb β)(t:Tm)(h:Hp):Option β:=
K (.s (.bool true)) h
noncomputable def Z8j(P:Program)(T:Tab)(D:DTab)(N:Nat){β:Type}(t:Tm)(h:Hp)(k:Ex→St→Option β):Option β:=
arithK .lss (t 13) (t 12) λb=>
condK b (
iaK 7 (t 0) (t 13) λd=>
ldK 7 true d h λe=>
iaK 7 (t 1) (t 13) λf=>
ldK 7 true f h λg=>
eqK P true 50 e g h λa=>
condK a (
k .ret ((upd (upd (upd (upd t 14 b) 5 (t 13)) 24 a) 4 (.s (.bool false))),h)) (
arithK .add (t 13) (I 1) λc=>
k .normal ((upd (upd (upd (upd t 14 b) 5 (t 13)) 24 a) 13 c),h))) (
k (.exit 0) ((upd t 14 b),h))
noncomputable def Zbs(P:Program)(T:Tab)(D:DTab)(N:Nat){β:Type}(K:Kb β)(e:Ex)(s:St):Option β:=
 e.on ((Zjj P T D N K s.1 s.2))
 (λi=>bif i==0 then ((Zjj P T D N K s.1 s.2)) else (none))
 (K (s.1 4) s.2)
noncomputable def Zjk(P:Program)(T:Tab)(D:DTab)(N:Nat){β:Type}(cL2:St→Option β)(K:Kb β)(a0 a1:AV)(h:Hp) :  Option β:=
lenK a0 λb=>
lenK a1 λc=>
eqK P true 3 b c h λa=>
condK a (
K (.s (.bool false)) h) (
lenK a0 λd=>
cL2 ((upd (upd (upd (upd (tm0 [a0,a1]) 4 (.s (.bool false))) 10 a) 12 d) 13 (I 0)),h))
noncomputable def Zjl(P:Program)(T:Tab)(D:DTab)(N:Nat){β:Type}(K:Kb β)(a0 a1:AV)(h:Hp):Option β:=Zjk P T D N (λs=>iterK (λs k=>Z8j P T D N s.1 s.2 k) N s (Zbs P T D N K)) K a0 a1 h
noncomputable def Zbt(P:Program)(T:Tab)(D:DTab)(N:Nat){β:Type}(K:Kb β)(h:Hp):Option β:=
K (.s (.bool true)) h
noncomputable def Z8k(P:Program)(T:Tab)(D:DTab)(N:Nat){β:Type}(xn:AV→AV→AV→Kb β)(g:Qb β)(xr:Kb β)(c d b a:AV)(h:Hp):Option β:=
arithK .lss a b λi=>
condK i (
iaK 7 c a λj=>
ldK 7 true j h λk=>
iaK 7 d a λl=>
ldK 7 true l h λm=>
eqK P true 50 k m h λe=>
condK e (
xr (.s (.bool false)) h) (
arithK .add a (I 1) λf=>
xn c d b f h)) (
g h)
noncomputable def Z4P(P:Program)(T:Tab)(D:DTab)(N:Nat){β:Type}(a:Qb β)(xr:Kb β):Nat→AV→AV→AV→Kb β
 | 0=>λ_ _ _ _ _=>none
 | n+1=>λd e b c h=>Z8k P T D N (Z4P P T D N a xr n) a xr d e b c h
noncomputable def Z60(P:Program)(T:Tab)(D:DTab)(N:Nat){β:Type}(K:Kb β)(a0 a1:AV)(h:Hp):Option β:=
lenK a0 λb=>
lenK a1 λc=>
eqK P true 3 b c h λd=>
condK d (
K (.s (.bool false)) h) (
lenK a0 λe=>
Z4P P T D N (λh=>Zbt P T D N K h) (λa h=>K a h) N a0 a1 e (I 0) h)
theorem ZqW(xn:AV→AV→AV→Kb β)(x0:Qb β)(xr:Kb β)(xd:Nat→St→Option β)(xq:St→Option β)(t:Tm)(h:Hp):Z8j P T D N t h (λ(e:Ex)(s:St)=>e.on (xn (s.1 0) (s.1 1) (s.1 12) (s.1 13) s.2) (λi=>(bif i==0 then x0 s.2 else (xd i s))) (xr (s.1 4) s.2))=Z8k P T D N xn x0 xr (t 0) (t 1) (t 12) (t 13) h:=by kernel_rfl
theorem ZqX(A:Ex→St→Option β)(x0:Qb β)(xr:Kb β)(q0:∀s,A (.exit 0) s=x0 s.2)(qr:∀s,A .ret s=xr (s.1 4) s.2):∀(n:Nat)(s:St),iterK (λs k=>Z8j P T D N s.1 s.2 k) n s A=Z4P P T D N x0 xr n (s.1 0) (s.1 1) (s.1 12) (s.1 13) s.2:=
 Z0O (exs1 q0 qr) (λs=>rfl) λn s=>ZqW P T D N (Z4P P T D N x0 xr n) x0 xr (λi s=>A (.exit i) s) (λs=>A .ret s) s.1 s.2
theorem ZqY(K:Kb β)(a0 a1:AV)(h:Hp):Zjl P T D N K a0 a1 h=Z60 P T D N K a0 a1 h:=by
 have eL2:(λs:St=>iterK (λs k=>Z8j P T D N s.1 s.2 k) N s (Zbs P T D N K))=(λs:St=>Z4P P T D N (λh=>Zbt P T D N K h) (λw13_4 h=>K w13_4 h) N (s.1 0) (s.1 1) (s.1 12) (s.1 13) s.2):=funext λs=>ZqX P T D N (Zbs P T D N K) (λh=>Zbt P T D N K h) (λw13_4 h=>K w13_4 h) (λs=>rfl) (λs=>rfl) N s
 show Zjk P T D N (λs=>iterK (λs k=>Z8j P T D N s.1 s.2 k) N s (Zbs P T D N K)) K a0 a1 h=_
 rw[eL2]
 kernel_rfl
theorem ZqZ(K:Kb β)(a0 a1:AV)(h:Hp):runK Tryz.prog T D N [0,1,4,5,10,12,13,14,24] Tryz.f44 K [a0,a1] h=Z60 Tryz.prog T D N K a0 a1 h:=Eq.trans (b:=Zjl Tryz.prog T D N K a0 a1 h) (by kernel_rfl) (ZqY Tryz.prog T D N K a0 a1 h)
noncomputable def Zbu(P:Program)(T:Tab)(D:DTab)(N:Nat){β:Type}(K:Kb β)(a0 a1:AV)(h:Hp):Option β:=
effK (boxE 2 a0 (List.length h)) h λg i=>
effK (boxE 2 a1 (List.length i)) i λj b=>
faK 0 g λk=>
ldK 1 false k b λw=>
faK 0 j λl=>
ldK 1 false l b λx=>
effD (callE (D 66) [w,x] b (List.length b)) b λy a m=>
faK 1 g λd=>
ldK 1 false d a λn=>
faK 1 j λe=>
ldK 1 false e a λo=>
effD (callE (D 66) [n,o] a (List.length a)) a λp f q=>
effD (bsE 1 [I 0] 2 [(0,y),(1,p)] (List.length f)) f λr c s=>
effD (callE (D 65) [r] c (List.length c)) c λt u v=>
bif disjAll [(4,6),(4,8)] [([],[]),((idsOf k),[]),([],[]),((idsOf l),[]),m,([],[]),((idsOf d),[]),([],[]),((idsOf e),[]),q,s,v,([],[])] then (
K t u) else none
theorem Zr0(K:Kb β)(a0 a1:AV)(h:Hp):runK Tryz.prog T D N [0,1,2,3,4] Tryz.f45 K [a0,a1] h=Zbu Tryz.prog T D N K a0 a1 h:=by kernel_rfl
noncomputable def Z40(P:Program)(T:Tab)(D:DTab)(N:Nat){β:Type}(K:Kb β)(a0:AV)(h:Hp):Option β:=
lenK a0 λd=>
arithK .gtr d (I 64) λe=>
condK e (
K (.tup [nilS,(I 8)]) h) (
callK (T 67) [a0,(.fn 68 [])] h λf a=>
condK f (
K (.tup [nilS,(I 1)]) a) (
callK (T 27) [a0] a λb g=>
callK (T 69) [b,(.fn 70 [])] g λk i=>
callK (T 71) [b] i λj c=>
K (.tup [j,(I 0)]) c))
theorem Zr1(K:Kb β)(a0:AV)(h:Hp):runK Tryz.prog T D N [0,2,3,4,7,9] Tryz.f46 K [a0] h=Z40 Tryz.prog T D N K a0 h:=by kernel_rfl
end Go.AM
end
