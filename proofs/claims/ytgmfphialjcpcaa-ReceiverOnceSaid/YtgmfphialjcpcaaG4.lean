import Derived.Test.YtgmfphialjcpcaaG3
import Derived.Shelf.RegionOpenPlain
import Derived.WalkKit
import Derived.Lib.Walk
import Derived.Lib.SliceRun
import Derived.Lib.JoinLaws
import Derived.Lib.AppendZerosOnto
import Derived.Lib.Overlaps
import Derived.Laws.Externs
import Derived.Laws.IdiomCopy
import Derived.Laws.NewBlocks
import Derived.Laws.CopyRow
import Derived.Test.YtgmfphialjcpcaaProg
import Derived.Shelf.SlSortCmp.NoneTotal
set_option linter.unusedSectionVars false
set_option linter.unusedVariables false
set_option linter.unusedSimpArgs false
set_option linter.constructorNameAsVariable false
namespace Go.AM
open Go.RowKit
set_option linter.unusedVariables false
set_option linter.unusedSimpArgs false
variable {P:Program} {μ μ':Mu} {h h':Hp} {w w':World}
structure InsWalk (P:Program) (f:FuncId) (k by_:Nat) (t el:TypeId):Prop where
 goes:Goes P f
 ht:P.underlying t=some (.slice el)
 hs:szOf P el=some k
 hb:bytesOf P el=some by_
 hz:∃z,zeroAV P el=some z∧(cellsOf z).length=k∧(cellsOf z).all okC=true
 big:∀m,m * by_≤140737488355328→m≤maxLen
 shift:∀(b n c i vb m vc:Nat) (cur:Array Value) (T:TypeId) (vs:List Value) (w:World),i<n→0<m→n+m≤c→c≤9223372036854775807→vb≠b→w.heap[b]? = some (.cells cur T (0,0))→c * k≤cur.size→(∀v ∈ cur.toList.take (n * k),v.oneCell'=true)→
  vs.length=m * k→(∀j v,vs[j]? = some v→w.cell? ⟨vb,j,none⟩=some v)→(∀v ∈ vs,v.oneCell'=true)→∀(tA tB:TypeId) (kA kB:Nat),w.shape? vb=some (tA,kA)→w.shape? b=some (tB,kB)→kB≠0→w.frozen? ⟨vb,0,none⟩=false→w.frozen? ⟨vb,kA,none⟩=false→
  Calls P f #[.slice (some ⟨b,0,none⟩) n c, .int .i64 i, .slice (some ⟨vb,0,none⟩) m vc] w fun e w'=>
   e = .returned (.slice (some ⟨b,0,none⟩) (n+m) c)∧w'=w.drew.setRow b (cur.toList.take (i * k)++vs++(cur.toList.drop (i * k)).take ((n-i) * k)++cur.toList.drop ((n+m) * k)).toArray
 grow:∀(b n c i vb m vc:Nat) (cur:Array Value) (T:TypeId) (vs:List Value) (w:World),i<n→0<m→n≤c→c<n+m→(n+m) * by_≤140737488355328→w.heap[b]? = some (.cells cur T (0,0))→n * k≤cur.size→(∀v ∈ cur.toList.take (n * k),v.oneCell'=true)→
  vs.length=m * k→(∀j v,vs[j]? = some v→w.cell? ⟨vb,j,none⟩=some v)→(∀v ∈ vs,v.oneCell'=true)→
  Calls P f #[.slice (some ⟨b,0,none⟩) n c, .int .i64 i, .slice (some ⟨vb,0,none⟩) m vc] w fun e w'=>
   ∃(G:Nat) (R:Array Value),n+m≤G∧G≤maxLen∧R.size=G * k∧R.toList.take ((n+m) * k)=cur.toList.take (i * k)++vs++(cur.toList.drop (i * k)).take ((n-i) * k)∧e = .returned (.slice (some ⟨w.heap.size,0,none⟩) (n+m) G)∧w'=w.drew.drew.alloc (.cells R el)
 fin:∀(A B:Option Addr) (n c m vc:Nat) (u:Value) (w W':World),0<m→n≤c→(A=none→c=0)→(∀ty,(Builtin.append_ #[t,t] ty #[.slice A n c, .slice B m vc]).run P w = .ok u W')→
  Calls P f #[.slice A n c, .int .i64 n, .slice B m vc] w fun e w'=>e = .returned u∧w'=W'
def insF (k by_:Nat):Fun:=fun args h=>
 match args with
 | [s, .s (.int .i64 i), .sl sx idx off m fr full]=>
  match readSl h (.sl sx idx off m fr full),h[idx]? with
  | some news,some (.arr _ _ true _)=>
   if news.length=m∧0<m∧news.all (fun e=>e.length==k)=true∧off=0 then
    match s with
    | .s (.slice none 0 0)=>if i=0∧m * by_≤140737488355328 then some (.sl k h.length 0 m m false,h++[.arr k news true false]) else none
    | .sl sz id soff len sfr sfull=>
     match h[id]? with
     | some (.arr sz' es own nil)=>
      if sz=k∧sz'=k∧soff=0∧own=true∧sfull=false∧len=sfr∧es.length=len∧id≠idx∧(len+m) * by_≤140737488355328∧0≤i∧i≤len then
       some (.sl k id 0 (len+m) (len+m) false,h.set id (.arr k (es.take i.toNat++news++es.drop i.toNat) true false))
      else none
     | _=>none
    | _=>none
   else none
  | _,_=>none
 | _=>none
theorem Zl5 {sx idx off m fr:Nat} {full:Bool} {news:List (List AV)} {l:List AObj} (hk:readSl h (.sl sx idx off m fr full)=some news):readSl (h++l) (.sl sx idx off m fr full)=some news:=by
 unfold readSl at hk ⊢
 dsimp only at hk ⊢
 split at hk<;>try (simp at hk;done)
 rename_i ho
 rw [List.getElem?_append_left (List.getElem?_eq_some_iff.1 ho).1,ho]
 exact hk
theorem Zl6 {k:Nat} {es:List (List AV)} (hS:Sized k es) (i:Nat) (hi:i≤es.length):(es.take i).flatten=es.flatten.take (i * k)∧(es.drop i).flatten=es.flatten.drop (i * k):=by
 have q1:Sized k (es.take i):=fun e he=>hS e (List.mem_of_mem_take he)
 have q2:=Z0U q1
 have q3:(es.take i).length=i:=by simp;omega
 rw [q3] at q2
 have q4:es.flatten=(es.take i).flatten++(es.drop i).flatten:=by rw [← List.flatten_append,List.take_append_drop]
 constructor
 ·rw [q4, ← q2,List.take_left]
 ·rw [q4, ← q2,List.drop_left]
theorem ZeB {f:FuncId} {n0 by_:Nat} {t el:TypeId} (W:InsWalk P f (n0+1) by_ t el):CSound P f (insF (n0+1) by_):=by
 intro args h v h' hk μ w cargs R hargs
 refine ⟨W.goes, ?_⟩
 unfold insF at hk
 split at hk<;>try (simp at hk;done)
 rename_i s i sx idx off m fr full
 split at hk<;>try (simp at hk;done)
 rename_i news szx esx nilx hread hox
 split at hk<;>try (simp at hk;done)
 rename_i hcond
 obtain ⟨hnl,hm0,hall,rfl⟩:=hcond
 simp only [VRs] at hargs
 obtain ⟨v1,vs1,hq1,hv1,v2,vs2,rfl,hv2,v3,vs3,rfl,hv3,rfl⟩:=hargs
 have hcargs:cargs = #[v1,v2,v3]:=by apply Array.ext';simpa using hq1
 subst hcargs
 have e2:v2 = .int .i64 i:=by simp only [VR] at hv2;exact hv2.2
 subst e2
 have hRd:=Z5R (P:=P) R hv3 hread hall
 have hS:=hRd.sized
 obtain ⟨A3,c3,rfl,hcell⟩:=hRd.val
 have hne:news≠[]:=by intro e;rw [e] at hnl;simp at hnl;omega
 obtain ⟨ad,vs,rfl,hvs,hvl,hone,hat⟩:=hcell hne
 rw [hnl] at hvl
 have hv3':=hv3
 simp only [VR] at hv3'
 obtain ⟨A',c',hsl',hlc', -, -,es',own',nil',ho', -,hq'⟩:=hv3'
 rw [hox] at ho'
 injection ho' with ho'
 injection ho' with e1 e2 e3 e4
 subst e1 e2 e3 e4
 injection hsl' with e5 e6 e7
 subst e5 e7
 -- where the new elements lie
 have hx:∃(vb cap:Nat) (cur:Array Value) (T:TypeId),μ idx = .real vb 0 cap∧ad=⟨vb,0,none⟩∧w.heap[vb]? = some (.cells cur T (0,0)):=by
  have hread':=hread
  unfold readSl at hread'
  simp only [hox] at hread'
  split at hread'<;>try (simp at hread';done)
  rename_i hc
  have hsl:=hq' hc.1.symm
  unfold SlOk at hsl
  split at hsl
  ·rename_i blk o cap hmu
   obtain ⟨a,ha,hcap,hne'⟩:=hsl
   obtain ⟨cur,T,hbk,hcur,rfl, -⟩:=ORel.own_flat (R.obj _ _ hox) hmu
   have:=hne' (by omega)
   injection ha with ha
   subst ha
   exact ⟨blk,cap,cur,T,hmu,by simpa using this,hbk⟩
  ·obtain ⟨-,hc0, -⟩:=hsl
   omega
 obtain ⟨vb,capx,curx,Tx,hmux,rfl,hbx⟩:=hx
 have hat':∀j u,vs[j]? = some u→w.cell? ⟨vb,j,none⟩=some u:=fun j u hu=>by
  have:=hat j u hu
  rwa [Addr.add_lit,Nat.zero_add] at this
 obtain ⟨z,hz1,hz2,hz3⟩:=W.hz
 split at hk
 ·-- into nil
  split at hk<;>try (simp at hk;done)
  rename_i hcc
  obtain ⟨rfl,hbig⟩:=hcc
  simp only [Option.some.injEq,Prod.mk.injEq] at hk
  obtain ⟨rfl,rfl⟩:=hk
  have e1:v1 = .slice none 0 0:=by simp only [VR] at hv1;exact hv1.2
  subst e1
  have S0:=Step.pad R 1
  have hap:appE (n0+1) by_ (.s (.slice none 0 0)) (.sl szx idx 0 m fr full) (h++List.replicate 1 .dead) h.length=some (.sl (n0+1) h.length 0 m m false,⟨[],[.arr (n0+1) news true false],idsOf (.sl szx idx 0 m fr full)⟩):=by
   unfold appE
   rw [Zl5 hread]
   simp only [hnl]
   rw [if_neg (by omega),if_pos ⟨hbig,hall⟩]
  obtain ⟨w2,u,μ2,hrun,S2,hu⟩:=Z5S (ty:=t) S0.rel W.ht W.hs W.hb hz1 hz2 hz3 W.big (VR.evo S0.evo _ _ hv1) (VR.evo S0.evo _ _ hv3) hap (fun _=>by simp)
  have hrun':∀ty,(Builtin.append_ #[t,t] ty #[.slice none 0 0, .slice (some ⟨vb,0,none⟩) news.length c3]).run P w = .ok u w2:=fun ty=>by
   obtain ⟨w2',u',μ2',hr', -⟩:=Z5S (ty:=ty) S0.rel W.ht W.hs W.hb hz1 hz2 hz3 W.big (VR.evo S0.evo _ _ hv1) (VR.evo S0.evo _ _ hv3) hap (fun _=>by simp)
   have:(Builtin.append_ #[t,t] ty #[.slice none 0 0, .slice (some ⟨vb,0,none⟩) news.length c3]).run P w=(Builtin.append_ #[t,t] t #[.slice none 0 0, .slice (some ⟨vb,0,none⟩) news.length c3]).run P w:=rfl
   rw [this];exact hrun
  have key:=W.fin none (some ⟨vb,0,none⟩) 0 0 news.length c3 u w w2 (by omega) (Nat.le_refl _) (fun _=>rfl) hrun'
  refine key.mono ?_
  rintro e w' ⟨rfl,rfl⟩
  have ea:=Zaw (h:=h) (e:=⟨[],[.arr (n0+1) news true false],idsOf (.sl szx idx 0 m fr full)⟩) (by simp) 0
  simp only [List.length_singleton,Nat.add_zero,List.replicate_zero,List.append_nil] at ea
  rw [ea] at S2 hu
  have e9:ap h ⟨[],[.arr (n0+1) news true false],idsOf (.sl szx idx 0 m fr full)⟩=h++[.arr (n0+1) news true false]:=rfl
  rw [e9] at S2 hu
  exact ⟨u,μ2,rfl,S0.trans S2,hu⟩
 ·rename_i sz id soff len sfr sfull
  split at hk<;>try (simp at hk;done)
  rename_i sz' es own nil ho
  split at hk<;>try (simp at hk;done)
  rename_i hcc
  obtain ⟨rfl,rfl,rfl,rfl,rfl,rfl,hel,hid,hbig,hi0,hin⟩:=hcc
  simp only [Option.some.injEq,Prod.mk.injEq] at hk
  obtain ⟨rfl,rfl⟩:=hk
  obtain ⟨j,rfl⟩:∃j:Nat,i=(j:Int):=⟨i.toNat,by omega⟩
  have hjn:j≤len:=by omega
  rw [Int.toNat_natCast]
  have hlt:id<h.length:=(List.getElem?_eq_some_iff.1 ho).1
  have hv1':=hv1
  simp only [VR] at hv1'
  obtain ⟨A0,c0,rfl,hlc,hA0,hfull,es2,own2,nil2,ho2, -,hq⟩:=hv1'
  rw [ho] at ho2
  injection ho2 with ho2
  injection ho2 with e1 e2 e3 e4
  subst e2 e3 e4
  have hsl:=hq hel.symm
  have hO:=R.obj _ _ ho
  have hSe:=hO.1
  have hlen':(es.take j++news++es.drop j).length=len+m:=by simp;omega
  rcases Nat.lt_or_ge j len with hj | hj
  ·-- ahead of an element
   unfold SlOk at hsl
   split at hsl
   ·rename_i blk o cap hmu
    obtain ⟨a',rfl,hcap,hne'⟩:=hsl
    obtain ⟨cur,T,hbk,hcur,rfl,hlec,hcapm,h1,hr⟩:=ORel.own_flat hO hmu
    have ha':=hne' (by omega)
    rw [Nat.zero_mul,Nat.add_zero] at ha'
    subst ha'
    rw [Nat.zero_add] at hcap
    have hvb:vb≠blk:=fun e=>hid (R.sep id idx _ _ blk 0 cap 0 capx ho hox rfl rfl hmu (by rw [hmux,e]))
    have hcm:c0 * (n0+1)≤cur.size:=by rw [hcur];exact Nat.mul_le_mul_right _ hcap
    have hnm:len * (n0+1)≤cur.size:=Nat.le_trans (Nat.mul_le_mul_right _ hlc) hcm
    rw [hel] at h1 hr
    -- the cells of the elements
    have hflat:VRs μ h (es.take j++news++es.drop j).flatten (cur.toList.take (j * (n0+1))++vs++(cur.toList.drop (j * (n0+1))).take ((len-j) * (n0+1))):=by
     obtain ⟨f1,f2⟩:=Zl6 hSe j (by omega)
     rw [List.flatten_append,List.flatten_append,f1,f2]
     have m1:j * (n0+1)≤len * (n0+1):=Nat.mul_le_mul_right _ hjn
     have t1:=VRs.take (j * (n0+1)) hr
     have t2:=VRs.drop (j * (n0+1)) hr
     rw [List.take_take,Nat.min_eq_left m1] at t1
     rw [List.drop_take, ← Nat.sub_mul] at t2
     exact VRs.append (VRs.append t1 hvs) t2
    have hone':∀v ∈ cur.toList.take (j * (n0+1))++vs++(cur.toList.drop (j * (n0+1))).take ((len-j) * (n0+1)),v.oneCell'=true:=fun v hv=>by
     have m1:j * (n0+1)≤len * (n0+1):=Nat.mul_le_mul_right _ hjn
     rcases List.mem_append.1 hv with hv | hv
     ·rcases List.mem_append.1 hv with hv | hv
      ·refine h1 v ?_
       rw [← Nat.min_eq_left m1, ← List.take_take] at hv
       exact List.mem_of_mem_take hv
      ·exact hone v hv
     ·refine h1 v ?_
      rw [Nat.sub_mul, ← List.drop_take] at hv
      exact List.mem_of_mem_drop hv
    have hSall:Sized (n0+1) (es.take j++news++es.drop j):=Sized.append (Sized.append (fun e he=>hSe e (List.mem_of_mem_take he)) hS) (fun e he=>hSe e (List.mem_of_mem_drop he))
    have hml:len+m≤maxLen:=W.big _ hbig
    by_cases hroom:len+m≤c0
    ·have hmm:(len+m) * (n0+1)≤cur.size:=Nat.le_trans (Nat.mul_le_mul_right _ hroom) hcm
     have key:=W.shift blk len c0 j vb m c3 cur T vs w hj hm0 hroom (by unfold maxLen at hcapm;omega) hvb hbk hcm h1 hvl hat' hone Tx T curx.size cur.size (by simp [World.shape?,hbx]) (by simp [World.shape?,hbk]) (by
      have:0<len * (n0+1):=Nat.mul_pos (by omega) (by omega)
      omega) (by simp [World.frozen?,hbx]) (by simp [World.frozen?,hbx])
     rw [← hnl] at key
     refine key.mono ?_
     rintro e w' ⟨rfl,rfl⟩
     obtain ⟨row,hrow⟩:∃row:Array Value,row=(cur.toList.take (j * (n0+1))++vs++(cur.toList.drop (j * (n0+1))).take ((len-j) * (n0+1))++cur.toList.drop ((len+m) * (n0+1))).toArray:=⟨_,rfl⟩
     rw [hnl, ← hrow]
     have hl3:(cur.toList.take (j * (n0+1))++vs++(cur.toList.drop (j * (n0+1))).take ((len-j) * (n0+1))).length=(len+m) * (n0+1):=by
      rw [← hflat.length,Z0U hSall,hlen']
     have htk:row.toList.take ((es.take j++news++es.drop j).length * (n0+1))=cur.toList.take (j * (n0+1))++vs++(cur.toList.drop (j * (n0+1))).take ((len-j) * (n0+1)):=by
      rw [hlen',hrow, ← hl3]
      exact List.take_left
     have hrs:row.size=cur.size:=by
      rw [hrow,List.size_toArray,List.length_append,hl3,List.length_drop,Array.length_toList]
      omega
     have S1:=Step.drew R
     have hbk1:w.drew.heap[blk]? = some (.cells cur T (0,0)):=hbk
     have hset:(w.drew.setRow blk row).heap[blk]? = some (.cells row T (0,0)):=setRow_heap w.drew blk cur row T (0,0) hbk1
     refine ⟨_,μ.set id (μ id),rfl,S1.trans (Step.upd S1.rel (loc:=μ id) ho ⟨_,false,rfl,by rw [hlen'];omega,fun _=>rfl⟩ ?_ ?_ rfl ?_), ?_⟩
     ·exact ⟨rfl,rfl,rfl,Nat.le_refl _,by simp,fun k _ hk=>setRow_other w.drew blk k _ (fun e=>hk ⟨rfl,0,cap,by rw [e];exact hmu⟩)⟩
     ·intro b x c e
      exact .inr ⟨rfl,x,c,e⟩
     ·intro hE
      refine ORel.own_arr (cur:=row) (T:=T) (cap:=cap) (blk:=blk) (by simp [hmu]) hSall (by rw [hlen'];omega) hcapm hset (by rw [hrs];exact hcur) ?_ ?_
      ·rw [htk];exact hone'
      ·rw [htk];exact VRs.evo hE _ _ hflat
     ·simp only [VR]
      refine ⟨_,_,rfl,by omega,fun _=>rfl, .room (by omega),_,true,false,by simp [hlt];rfl,by rw [← List.append_assoc,hlen'];exact Nat.le_refl _,fun _ => ?_⟩
      simp only [Mu.set_loc,if_true,hmu,SlOk]
      exact ⟨_,rfl,by omega,fun _=>by simp⟩
    ·have key:=W.grow blk len c0 j vb m c3 cur T vs w hj hm0 hlc (by omega) hbig hbk hnm h1 hvl hat' hone
     rw [← hnl] at key
     refine key.mono ?_
     rintro e w' ⟨G,row,hG1,hG2,hG3,hG4,rfl,rfl⟩
     rw [hnl] at hG1 hG4 ⊢
     have htk:row.toList.take ((es.take j++news++es.drop j).length * (n0+1))=cur.toList.take (j * (n0+1))++vs++(cur.toList.drop (j * (n0+1))).take ((len-j) * (n0+1)):=by
      rw [hlen'];exact hG4
     have S1:=(Step.drew R).trans (Step.drew (Step.drew R).rel)
     refine ⟨_,μ.set id (.real w.heap.size 0 G),rfl,S1.trans (Step.upd S1.rel (loc := .real w.heap.size 0 G) ho ⟨_,false,rfl,by rw [hlen'];omega,fun h=>by rw [hlen'] at h;omega⟩ (Frame.alloc _ _ _) ?_ rfl ?_), ?_⟩
     ·intro b x c e;injection e with e1 e2 e3;subst e1;exact .inl (Nat.le_refl _)
     ·intro hE
      refine ORel.own_arr (cur:=row) (T:=el) (cap:=G) (blk:=w.heap.size) (by simp) hSall (by rw [hlen'];exact hG1) hG2 (heap_alloc_new w.drew.drew _) hG3 ?_ ?_
      ·rw [htk];exact hone'
      ·rw [htk];exact VRs.evo hE _ _ hflat
     ·simp only [VR]
      refine ⟨_,_,rfl,hG1,fun _=>rfl, .room (by omega),_,true,false,by simp [hlt];rfl,by rw [← List.append_assoc,hlen'];exact Nat.le_refl _,fun _ => ?_⟩
      simp only [Mu.set_loc,if_true,SlOk]
      exact ⟨_,rfl,by omega,fun _=>by simp⟩
   ·obtain ⟨-,hc0, -⟩:=hsl
    omega
  ·-- behind all
   have hjl:j=len:=by omega
   subst hjl
   have hap:appE (n0+1) by_ (.sl (n0+1) id 0 j j false) (.sl szx idx 0 m fr full) h h.length=some (.sl (n0+1) id 0 (j+m) (j+m) false,⟨[(id, .arr (n0+1) (es++news) true false)],[],id::idsOf (.sl szx idx 0 m fr full)⟩):=by
    unfold appE
    rw [hread]
    simp only [ho,hnl]
    rw [if_pos (by simpa using ⟨hel,hbig,by simpa using hall⟩),if_neg (by simp),if_pos (by simp)]
    have:(m==0)=false:=by simp;omega
    rw [this,Bool.and_false]
   obtain ⟨w2,u,μ2,hrun,S2,hu⟩:=Z5S (ty:=t) R W.ht W.hs W.hb hz1 hz2 hz3 W.big hv1 hv3 hap (fun h=>absurd rfl h)
   have hrun':∀ty,(Builtin.append_ #[t,t] ty #[.slice A0 j c0, .slice (some ⟨vb,0,none⟩) news.length c3]).run P w = .ok u w2:=fun ty=>by
    have:(Builtin.append_ #[t,t] ty #[.slice A0 j c0, .slice (some ⟨vb,0,none⟩) news.length c3]).run P w=(Builtin.append_ #[t,t] t #[.slice A0 j c0, .slice (some ⟨vb,0,none⟩) news.length c3]).run P w:=rfl
    rw [this];exact hrun
   have key:=W.fin A0 (some ⟨vb,0,none⟩) j c0 news.length c3 u w w2 (by omega) hlc (fun e=>by
    rcases Nat.eq_zero_or_pos c0 with h0 | h0
    ·exact h0
    ·have:=hA0 h0;rw [e] at this;cases this) hrun'
   refine key.mono ?_
   rintro e w' ⟨rfl,rfl⟩
   have ea:apAt h h.length ⟨[(id, .arr (n0+1) (es++news) true false)],[],id::idsOf (.sl szx idx 0 m fr full)⟩=h.set id (.arr (n0+1) (es.take j++news++es.drop j) true false):=by
    rw [List.take_of_length_le (by omega),List.drop_of_length_le (by omega),List.append_nil]
    rfl
   rw [ea] at S2 hu
   exact ⟨u,μ2,rfl,S2,hu⟩
 ·simp at hk
end Go.AM


namespace Go.AM
open Go.RowKit
set_option linter.unusedVariables false
set_option linter.unusedSimpArgs false
variable {P:Program} {μ μ':Mu} {h h':Hp} {w w':World}
def insE (k by_:Nat):DFun:=fun args h base=>
 match args with
 | [s, .s (.int .i64 i), .sl sx idx off m fr full]=>
  match readSl h (.sl sx idx off m fr full),h[idx]? with
  | some news,some (.arr _ _ true _)=>
   if news.length=m∧0<m∧news.all (fun e=>e.length==k)=true∧off=0 then
    match s with
    | .s (.slice none 0 0)=>if i=0∧m * by_≤140737488355328 then some (.sl k base 0 m m false,⟨[],[.arr k news true false],[idx]⟩) else none
    | .sl sz id soff len sfr sfull=>
     match h[id]? with
     | some (.arr sz' es own nil)=>
      if sz=k∧sz'=k∧soff=0∧own=true∧sfull=false∧len=sfr∧es.length=len∧id≠idx∧(len+m) * by_≤140737488355328∧0≤i∧i≤len then
       some (.sl k id 0 (len+m) (len+m) false,⟨[(id, .arr k (es.take i.toNat++news++es.drop i.toNat) true false)],[],[id,idx]⟩)
      else none
     | _=>none
    | _=>none
   else none
  | _,_=>none
 | _=>none
theorem ZeC {H:Hp} {sx idx off m fr:Nat} {full:Bool} (hs:∀x,h[idx]? = some x→H[idx]? = some x) {news:List (List AV)} (hk:readSl h (.sl sx idx off m fr full)=some news):readSl H (.sl sx idx off m fr full)=some news:=by
 unfold readSl at hk ⊢
 dsimp only at hk ⊢
 split at hk<;>try (simp at hk;done)
 rename_i ho
 rw [hs _ ho]
 exact hk
theorem Zl7 (k by_:Nat):DLoc (insE k by_):=by
 refine ⟨fun args h base v e hk H hag => ?_,fun args h base v e hk p hp => ?_⟩
 ·unfold insE at hk
  split at hk<;>try (simp at hk;done)
  rename_i s i sx idx off m fr full
  split at hk<;>try (simp at hk;done)
  rename_i news szx esx nilx hread hox
  split at hk<;>try (simp at hk;done)
  rename_i hcond
  split at hk
  ·split at hk<;>try (simp at hk;done)
   rename_i hcc
   simp only [Option.some.injEq,Prod.mk.injEq] at hk
   obtain ⟨rfl,rfl⟩:=hk
   have hg:∀x,h[idx]? = some x→H[idx]? = some x:=hag idx (by simp)
   unfold insE
   simp only [ZeC hg hread,hg _ hox]
   rw [if_pos hcond,if_pos hcc]
  ·rename_i sz id soff len sfr sfull
   split at hk<;>try (simp at hk;done)
   rename_i sz' es own nil ho
   split at hk<;>try (simp at hk;done)
   rename_i hcc
   simp only [Option.some.injEq,Prod.mk.injEq] at hk
   obtain ⟨rfl,rfl⟩:=hk
   have hg:∀x,h[idx]? = some x→H[idx]? = some x:=hag idx (by simp)
   have hg2:∀x,h[id]? = some x→H[id]? = some x:=hag id (by simp)
   unfold insE
   simp only [ZeC hg hread,hg _ hox]
   rw [if_pos hcond]
   simp only [hg2 _ ho]
   rw [if_pos hcc]
  ·simp at hk
 ·unfold insE at hk
  split at hk<;>try (simp at hk;done)
  rename_i s i sx idx off m fr full
  split at hk<;>try (simp at hk;done)
  rename_i news szx esx nilx hread hox
  split at hk<;>try (simp at hk;done)
  rename_i hcond
  split at hk
  ·split at hk<;>try (simp at hk;done)
   simp only [Option.some.injEq,Prod.mk.injEq] at hk
   obtain ⟨rfl,rfl⟩:=hk
   simp at hp
  ·rename_i sz id soff len sfr sfull
   split at hk<;>try (simp at hk;done)
   rename_i sz' es own nil ho
   split at hk<;>try (simp at hk;done)
   rename_i hcc
   simp only [Option.some.injEq,Prod.mk.injEq] at hk
   obtain ⟨rfl,rfl⟩:=hk
   simp only [List.mem_singleton] at hp
   subst hp
   exact ⟨_,ho,by simp⟩
  ·simp at hk
theorem Zl8 {f:FuncId} {n0 by_:Nat} {t el:TypeId} (W:InsWalk P f (n0+1) by_ t el):DCalls P f (insE (n0+1) by_):=by
 intro args h base v e hk hd μ w cargs R hargs
 unfold insE at hk
 split at hk<;>try (simp at hk;done)
 rename_i s i sx idx off m fr full
 split at hk<;>try (simp at hk;done)
 rename_i news szx esx nilx hread hox
 split at hk<;>try (simp at hk;done)
 rename_i hcond
 split at hk
 ·split at hk<;>try (simp at hk;done)
  rename_i hcc
  simp only [Option.some.injEq,Prod.mk.injEq] at hk
  obtain ⟨rfl,rfl⟩:=hk
  refine ⟨W.goes, ?_⟩
  obtain ⟨hnl,hm0,hall,rfl⟩:=hcond
  obtain ⟨rfl,hbig⟩:=hcc
  simp only [VRs] at hargs
  obtain ⟨v1,vs1,hq1,hv1,v2,vs2,rfl,hv2,v3,vs3,rfl,hv3,rfl⟩:=hargs
  have hcargs:cargs = #[v1,v2,v3]:=by apply Array.ext';simpa using hq1
  subst hcargs
  have e2:v2 = .int .i64 0:=by simp only [VR] at hv2;exact hv2.2
  subst e2
  have e1:v1 = .slice none 0 0:=by simp only [VR] at hv1;exact hv1.2
  subst e1
  have hRd:=Z5R (P:=P) R hv3 hread hall
  obtain ⟨A3,c3,rfl,hcell⟩:=hRd.val
  obtain ⟨z,hz1,hz2,hz3⟩:=W.hz
  have hdead:h[base]? = some .dead:=by have:=hd 0 (by simp);simpa using this
  have hap:appE (n0+1) by_ (.s (.slice none 0 0)) (.sl sx idx 0 m fr full) h base=some (.sl (n0+1) base 0 m m false,⟨[],[.arr (n0+1) news true false],idsOf (.sl sx idx 0 m fr full)⟩):=by
   unfold appE
   rw [hread]
   simp only [hnl]
   rw [if_neg (by omega),if_pos ⟨hbig,hall⟩]
  obtain ⟨w2,u,μ2,hrun,S2,hu⟩:=Z5S (ty:=t) R W.ht W.hs W.hb hz1 hz2 hz3 W.big hv1 hv3 hap (fun _=>hdead)
  have hrun':∀ty,(Builtin.append_ #[t,t] ty #[.slice none 0 0, .slice A3 news.length c3]).run P w = .ok u w2:=fun ty=>by
   have:(Builtin.append_ #[t,t] ty #[.slice none 0 0, .slice A3 news.length c3]).run P w=(Builtin.append_ #[t,t] t #[.slice none 0 0, .slice A3 news.length c3]).run P w:=rfl
   rw [this];exact hrun
  have key:=W.fin none A3 0 0 news.length c3 u w w2 (by omega) (Nat.le_refl _) (fun _=>rfl) hrun'
  refine key.mono ?_
  rintro e w' ⟨rfl,rfl⟩
  exact ⟨u,μ2,rfl,S2,hu⟩
 ·rename_i sz id soff len sfr sfull
  split at hk<;>try (simp at hk;done)
  rename_i sz' es own nil ho
  split at hk<;>try (simp at hk;done)
  rename_i hcc
  simp only [Option.some.injEq,Prod.mk.injEq] at hk
  obtain ⟨rfl,rfl⟩:=hk
  have hF:insF (n0+1) by_ [.sl sz id soff len sfr sfull, .s (.int .i64 i), .sl sx idx off m fr full] h=some (.sl (n0+1) id 0 (len+m) (len+m) false,h.set id (.arr (n0+1) (es.take i.toNat++news++es.drop i.toNat) true false)):=by
   unfold insF
   simp only [hread,hox]
   rw [if_pos hcond]
   simp only [ho]
   rw [if_pos hcc]
  exact ZeB W _ _ _ _ hF μ w cargs R hargs
 ·simp at hk
theorem DSound.ins {D:DTab} (DS:DSound P D) {f:Nat} {n0 by_:Nat} {t el:TypeId} (W:InsWalk P f (n0+1) by_ t el):DSound P (updD D f (insE (n0+1) by_)):=DS.upd (Zl7 _ _) (Zl8 W)
theorem Zl9 {α:Type} {f:α→List AV} {k by_ id idx:Nat} {full nil:Bool} {W:List α} {x:α} {h:Hp} {nilx:Bool} {i:Nat} (hid:h[id]? = some (.arr k (W.map f) true nil)) (hx:h[idx]? = some (.arr k [f x] true nilx)) (hne:id≠idx) (hf:∀x,(f x).length=k) (hi:i≤W.length) (hb:(W.length+1) * by_≤140737488355328) (base:Nat):
  insE k by_ [.sl k id 0 W.length W.length false, .s (.int .i64 (i:Int)), .sl k idx 0 1 1 full] h base=some (.sl k id 0 (W.length+1) (W.length+1) false,⟨[(id, .arr k ((W.take i++[x]++W.drop i).map f) true false)],[],[id,idx]⟩):=by
 have hr:readSl h (.sl k idx 0 1 1 full)=some [f x]:=by
  unfold readSl
  simp [hx]
 unfold insE
 simp only [hr,hx]
 rw [if_pos (by simp [hf])]
 simp only [hid,List.length_map]
 rw [if_pos ⟨trivial,trivial,trivial,trivial,trivial,trivial,trivial,hne,hb,by omega,by omega⟩]
 rw [Int.toNat_natCast,List.map_append,List.map_append,List.map_take,List.map_drop]
 rfl
theorem Zla {α:Type} {f:α→List AV} {k by_ idx:Nat} {full:Bool} {x:α} {h:Hp} {nilx:Bool} (hx:h[idx]? = some (.arr k [f x] true nilx)) (hf:∀x,(f x).length=k) (hb:by_≤140737488355328) (base:Nat):
  insE k by_ [.s (.slice none 0 0), .s (.int .i64 0), .sl k idx 0 1 1 full] h base=some (.sl k base 0 1 1 false,⟨[],[.arr k [f x] true false],[idx]⟩):=by
 have hr:readSl h (.sl k idx 0 1 1 full)=some [f x]:=by
  unfold readSl
  simp [hx]
 unfold insE
 simp only [hr,hx]
 rw [if_pos (by simp [hf]),if_pos ⟨trivial,by omega⟩]
end Go.AM


namespace Go.AM
open Go.RowKit Go.Lib
set_option linter.unusedVariables false
set_option linter.unusedSimpArgs false
section
variable {P:Program}
theorem Zba (w:World) {ops:Array Oper} {rest:List Oper} {o:Oper} {a:Act} {Q:Exit→Act→World→Prop} (hgd:o.guard=none) (d s:Operand) (t t':TypeId)
  (ho:o.op = .call { callee := .builtin .copy,args := #[d,s],argTypes := #[t,t'] }) (v u:Value) (hd:a.eval d=v) (hs:a.eval s=u) {v':Value} {w':World}
  (hr:(Builtin.copy_ #[t,t'] o.type #[v,u]).run P w = .ok v' w') (h:wpList P ops Q rest (a.put o.dst v') w'):wpList P ops Q (o::rest) a w:=
 wpList_plain hgd fun _ hK=>by
  unfold Oper.wp execOp
  simp only [ho,resolve,invoke,builtin,Sem.run_bind,Sem.run_pure,Result.andThen_ok,List.map_toArray,List.map_cons,List.map_nil,hd,hs,hr]
  exact hK _ _ h
theorem ZeD {ops:Array Oper} {o:Oper} {a:Act} {w:World} {K:Act→World→Prop} {Q:Exit→Act→World→Prop} {E:Prop}
  (hg:o.guard=none) (d x:Operand) (dT sT:TypeId) (hop:o.op=Op.call { callee:=Callee.builtin Builtin.copy,args := #[d,x],argTypes := #[dT,sT] })
  (v u:Value) (hd:a.eval d=v) (hx:a.eval x=u) {v':Value} {w':World} (hr:(Builtin.copy_ #[dT,sT] o.type #[v,u]).run P w = .ok v' w') (hK:K (a.put o.dst v') w'):
  if Region.wanted o (yielded ops a.tmps)=true then Oper.wp P o a w K Q else E:=by
 have hw:Region.wanted o (yielded ops a.tmps)=true:=by simp [Region.wanted,hg]
 rw [if_pos hw]
 unfold Oper.wp
 simp [execOp,hop,resolve,invoke,builtin,hd,hx,hr,Result.andThen]
 exact hK
theorem Z8F (w:World) (dT sT ty elem:TypeId) (k g o dLen dCap:Nat) (a:Addr) (sLen sCap:Nat) (cur:Array Value) (t:TypeId) (cs:List Value)
  (hu:P.underlying dT=some (.slice elem)) (hs:(P.info? elem).map (·.size)=some k)
  (hg:w.heap[g]? = some (.cells cur t (0,0))) {n:Nat} (hn:Nat.min sLen dLen=n) (hl:cs.length=n * k)
  (hsrc:∀j v,cs[j]? = some v→w.cell? (a.add j)=some v) (hfit:o+cs.length≤cur.size) (h1:∀v ∈ cs,v.oneCell'=true):
  (Builtin.copy_ #[dT,sT] ty #[.slice (some ⟨g,o,none⟩) dLen dCap, .slice (some a) sLen sCap]).run P w =
   .ok (goInt n) (w.setRow g (cur.toList.take o++cs++cur.toList.drop (o+cs.length)).toArray):=by
 have hl':=run_loadCells_list (P:=P) w a cs hsrc
 rw [hl] at hl'
 have hst:=run_storeCells_at P g o t cs 0 cur w hg (by simpa using hfit) h1
 cases hq:P.info? elem with
 | none=>simp [hq] at hs
 | some i=>
  have hi:i.size=k:=by simpa [hq] using hs
  simp [Builtin.copy_,run_underlying hu,Builtin.lenOf,Builtin.firstCells,sizeOf,typeInfo,hq,hi,hn,hl',hst]
end
theorem Zlb {k i n m:Nat} {l cs vs:List Value} (hcl:cs.length=(n-i) * k) (hl:(n+m) * k≤l.length) (hin:i≤n):
  (l.take ((i+m) * k)++cs++l.drop ((i+m) * k+(n-i) * k)).take (i * k)++vs++(l.take ((i+m) * k)++cs++l.drop ((i+m) * k+(n-i) * k)).drop (i * k+m * k)=l.take (i * k)++vs++cs++l.drop ((n+m) * k):=by
 have e1:(i+m) * k=i * k+m * k:=Nat.add_mul ..
 have e2:(n+m) * k=(i+m) * k+(n-i) * k:=by rw [← Nat.add_mul];congr 1;omega
 have e3:(l.take ((i+m) * k)).length=(i+m) * k:=by rw [List.length_take];omega
 have h1:(l.take ((i+m) * k)++cs++l.drop ((i+m) * k+(n-i) * k)).take (i * k)=l.take (i * k):=by
  rw [List.append_assoc,List.take_append_of_le_length (by omega),List.take_take,Nat.min_eq_left (by omega)]
 have h2:(l.take ((i+m) * k)++cs++l.drop ((i+m) * k+(n-i) * k)).drop (i * k+m * k)=cs++l.drop ((i+m) * k+(n-i) * k):=by
  rw [← e1,List.append_assoc,List.drop_append_of_le_length (by omega),List.drop_of_length_le (by omega),List.nil_append]
 rw [h1,h2,e2,List.append_assoc,List.append_assoc,List.append_assoc]
theorem Zlc (w:World) (r r1 r2:Array Value) (T:TypeId):((w.alloc (.cells r T)).setRow w.heap.size r1).drew.setRow w.heap.size r2=w.drew.alloc (.cells r2 T):=by
 have h:∀(w:World) (r r1:Array Value),(w.alloc (.cells r T)).setRow w.heap.size r1=w.alloc (.cells r1 T):=fun w r r1=>by
  unfold World.setRow World.alloc
  congr 1
  apply Array.ext
  ·simp
  ·intro k h1 h2
   simp only [Array.getElem_modify,Array.getElem_push]
   split
   ·rename_i hk
    subst hk
    simp
   ·rename_i hk
    have hk2:k<w.heap.size:=by simp only [Array.size_push] at h2;omega
    rw [dif_pos hk2,dif_pos hk2]
 rw [h]
 exact h w.drew r1 r2
theorem Zld {k i n m:Nat} {l cs vs r z:List Value} (hr:r=l.take (i * k)++z) (hcl:cs.length=(n-i) * k) (hvl:vs.length=m * k) (hl:n * k≤l.length) (hz:(n+m-i) * k≤z.length) (hin:i≤n):
  ((r.take (i * k)++vs++r.drop (i * k+m * k)).take ((i+m) * k)++cs++(r.take (i * k)++vs++r.drop (i * k+m * k)).drop ((i+m) * k+(n-i) * k)).take ((n+m) * k)=l.take (i * k)++vs++cs ∧
   ((r.take (i * k)++vs++r.drop (i * k+m * k)).take ((i+m) * k)++cs++(r.take (i * k)++vs++r.drop (i * k+m * k)).drop ((i+m) * k+(n-i) * k)).length=r.length:=by
 have e1:(i+m) * k=i * k+m * k:=Nat.add_mul ..
 have e2:(n+m) * k=(i+m) * k+(n-i) * k:=by rw [← Nat.add_mul];congr 1;omega
 have e3:(n+m-i) * k=m * k+(n-i) * k:=by rw [← Nat.add_mul];congr 1;omega
 have e4:i * k≤n * k:=Nat.mul_le_mul_right _ hin
 have l1:(l.take (i * k)).length=i * k:=by rw [List.length_take];omega
 have hrl:r.length=i * k+z.length:=by rw [hr,List.length_append,l1]
 have h1:r.take (i * k)=l.take (i * k):=by
  rw [hr,List.take_append_of_le_length (by omega),List.take_take,Nat.min_self]
 have l2:(l.take (i * k)++vs).length=(i+m) * k:=by rw [List.length_append,l1,hvl,e1]
 rw [h1]
 have h2:(l.take (i * k)++vs++r.drop (i * k+m * k)).take ((i+m) * k)=l.take (i * k)++vs:=by
  rw [List.take_append_of_le_length (by omega),List.take_of_length_le (by omega)]
 rw [h2]
 constructor
 ·rw [List.take_append_of_le_length (by rw [List.length_append,l2,hcl];omega),List.take_of_length_le (by rw [List.length_append,l2,hcl];omega)]
 ·rw [List.length_append,List.length_append,l2,hcl,List.length_drop,List.length_append,l2,List.length_drop]
  omega
end Go.AM


namespace Go.AM
open Go.Proofs Go.RowKit Go.Lib
set_option linter.unusedVariables false
set_option linter.unusedSimpArgs false
set_option maxHeartbeats 4000000 in
set_option maxRecDepth 100000 in
theorem Zle (b n c i vb m vc:Nat) (cur:Array Value) (T:TypeId) (vs:List Value) (w:World) (hi:i<n) (hm:0<m) (hroom:n+m≤c) (hc63:c≤9223372036854775807) (hvb:vb≠b)
  (hbk:w.heap[b]? = some (.cells cur T (0,0))) (hcap:c * 2≤cur.size) (h1:∀v ∈ cur.toList.take (n * 2),v.oneCell'=true)
  (hvl:vs.length=m * 2) (hvs:∀j v,vs[j]? = some v→w.cell? ⟨vb,j,none⟩=some v) (h1v:∀v ∈ vs,v.oneCell'=true)
  (tA tB:TypeId) (kA kB:Nat) (hsa:w.shape? vb=some (tA,kA)) (hsb:w.shape? b=some (tB,kB)) (hkB:kB≠0) (hfa:w.frozen? ⟨vb,0,none⟩=false) (hfe:w.frozen? ⟨vb,kA,none⟩=false):
  Calls Try.prog 79 #[.slice (some ⟨b,0,none⟩) n c, .int .i64 i, .slice (some ⟨vb,0,none⟩) m vc] w fun e w'=>
   e = .returned (.slice (some ⟨b,0,none⟩) (n+m) c)∧w'=w.drew.setRow b (cur.toList.take (i * 2)++vs++(cur.toList.drop (i * 2)).take ((n-i) * 2)++cur.toList.drop ((n+m) * 2)).toArray:=by
 have u0:=run_underlying Try.underlying22;have u3:=run_underlying Try.underlying3;have u4:=run_underlying Try.underlying4
 have hz1:¬((m:Int)=0):=by omega
 have hz2:¬((i:Int)=(n:Int)):=by omega
 have hsz:(Try.prog.info? 36).map (·.size)=some 2:=by kernel_rfl
 have hov:∀lb cb,(callFunc 97 #[.slice (some ⟨vb,0,none⟩) m vc, .slice (some ⟨b,(i+m) * 2,none⟩) lb cb]).run Try.prog w = .ok (.value (.bool false)) w:=fun lb cb=>by
  rw [run_callFunc_extern Try.func97 (by kernel_rfl) (by kernel_rfl) (by kernel_rfl) (e:=Extern.SlicesOverlaps.overlaps #[22,22] #[4]) (by kernel_rfl),
   Lib.run_overlaps_apart w 22 4 36 Try.underlying22 2 Try.sizeOf36 ⟨vb,0,none⟩ ⟨b,(i+m) * 2,none⟩ m vc lb cb hvb tA tB kA kB hsa hsb hkB hfa hfe]
  rfl
 have mixed:Try.prog.follows .mixedOrders=true:=by kernel_rfl
 have hw1:IntKind.i64.wrap ((i:Int)+(m:Int))=(i:Int)+(m:Int):=by rw [IntKind.wrap_i64];omega
 have hb1:(0:Int)≤(i:Int)+(m:Int):=by omega
 have hin:i≤n:=by omega
 have htn:((i:Int)+(m:Int)).toNat=i+m:=by omega
 have hb2:¬(c=i+m):=by omega
 have hb3:(i:Int)≤(n:Int)+(m:Int):=by omega
 have hb4:¬(c=i):=by omega
 obtain ⟨cs,hcs⟩:∃cs,cs=(cur.toList.drop (i * 2)).take ((n-i) * 2):=⟨_,rfl⟩
 have hcl:cs.length=(n-i) * 2:=by rw [hcs,List.length_take,List.length_drop,Array.length_toList];omega
 have hcm:∀v ∈ cs,v.oneCell'=true:=fun v hv=>h1 v (by
  obtain ⟨j,hj⟩:=List.getElem?_of_mem hv
  rw [hcs,List.getElem?_take] at hj
  split at hj
  ·rw [List.getElem?_drop] at hj
   refine List.mem_of_getElem? (i:=i * 2+j) ?_
   rw [List.getElem?_take,if_pos (by omega)]
   exact hj
  ·cases hj)
 obtain ⟨row1,hr1⟩:∃row1,row1=(cur.toList.take ((i+m) * 2)++cs++cur.toList.drop ((i+m) * 2+cs.length)).toArray:=⟨_,rfl⟩
 have hrs1:row1.size=cur.size:=by rw [hr1];simp [hcl];omega
 have hcp1:∀ty dc sc,(Builtin.copy_ #[22,22] ty #[.slice (some ⟨b,(i+m) * 2,none⟩) (n+m-(i+m)) dc, .slice (some ⟨b,i * 2,none⟩) (n+m-i) sc]).run Try.prog w.drew = .ok (goInt ((n-i:Nat):Int)) (w.drew.setRow b row1):=fun ty dc sc=>by
  rw [hr1]
  refine Z8F (n:=n-i) w.drew 22 22 ty 36 2 b _ _ dc _ _ sc cur T cs Try.underlying22 hsz hbk (by simp only [Nat.min_def];split<;>omega) hcl (fun j v hj => ?_) (by rw [hcl];omega) hcm
  rw [hcs,List.getElem?_take] at hj
  split at hj
  ·rw [List.getElem?_drop] at hj
   rw [Addr.add_lit]
   rw [cell_of_row w.drew b _ cur T (0,0) hbk]
   simpa using hj
  ·cases hj
 have hh2:(w.drew.setRow b row1).heap[b]? = some (.cells row1 T (0,0)):=setRow_heap w.drew b cur row1 T (0,0) hbk
 obtain ⟨row2,hr2⟩:∃row2,row2=(row1.toList.take (i * 2)++vs++row1.toList.drop (i * 2+vs.length)).toArray:=⟨_,rfl⟩
 have hcp2:∀ty dc,(Builtin.copy_ #[22,22] ty #[.slice (some ⟨b,i * 2,none⟩) (n+m-i) dc, .slice (some ⟨vb,0,none⟩) m vc]).run Try.prog (w.drew.setRow b row1) = .ok (goInt m) (w.drew.setRow b row2):=fun ty dc=>by
  have:=Z8F (P:=Try.prog) (w.drew.setRow b row1) 22 22 ty 36 2 b (i * 2) (n+m-i) dc ⟨vb,0,none⟩ m vc row1 T vs Try.underlying22 hsz hh2 (n:=m) (by simp only [Nat.min_def];split<;>omega) hvl (fun j v hj=>by
   rw [Addr.add_lit,Nat.zero_add,Z1B (w:=w) (by rw [setRow_other w.drew b vb row1 hvb];rfl)]
   exact hvs j v hj) (by omega) h1v
  rw [this,setRow_setRow,hr2]
 have hfin:row2=(cur.toList.take (i * 2)++vs++(cur.toList.drop (i * 2)).take ((n-i) * 2)++cur.toList.drop ((n+m) * 2)).toArray:=by
  rw [hr2,hr1,hvl,hcl, ← hcs]
  exact congrArg List.toArray (Zlb (k:=2) (i:=i) (n:=n) (m:=m) hcl (by rw [Array.length_toList];omega) hin)
 rw [← hfin]
 clear hfin hr1 hr2 hcs hcl hcm hrs1 hh2
 go_enter Try.func79,Try.ntmps79
 go_wp2_with (simp only [hov])
 go_region_law_o (go_loud (refine ZeD rfl _ _ 22 22 rfl (.slice (some ⟨b,(i+m) * 2,none⟩) (n+m-(i+m)) (c-(i+m))) (.slice (some ⟨b,i * 2,none⟩) (n+m-i) (c-i)) (by simp [Act.eval,Act.put]) (by simp [Act.eval,Act.put]) (hcp1 3 (c-(i+m)) (c-i)) ?_))
 go_wp2_with (at_builtin;refine Zba _ rfl _ _ 22 22 rfl _ _ rfl rfl (hcp2 _ _) ?_)
 go_ret
 exact ⟨rfl,rfl⟩
set_option maxHeartbeats 4000000 in
set_option maxRecDepth 100000 in
theorem Zlf (b n c i vb m vc:Nat) (cur:Array Value) (T:TypeId) (vs:List Value) (w:World) (hi:i<n) (hm:0<m) (hnc:n≤c) (hroom:c<n+m) (hbig:(n+m) * 16≤140737488355328)
  (hbk:w.heap[b]? = some (.cells cur T (0,0))) (hcap:n * 2≤cur.size) (h1:∀v ∈ cur.toList.take (n * 2),v.oneCell'=true)
  (hvl:vs.length=m * 2) (hvs:∀j v,vs[j]? = some v→w.cell? ⟨vb,j,none⟩=some v) (h1v:∀v ∈ vs,v.oneCell'=true):
  Calls Try.prog 79 #[.slice (some ⟨b,0,none⟩) n c, .int .i64 i, .slice (some ⟨vb,0,none⟩) m vc] w fun e w'=>
   ∃(G:Nat) (R:Array Value),n+m≤G∧G≤maxLen∧R.size=G * 2∧R.toList.take ((n+m) * 2)=cur.toList.take (i * 2)++vs++(cur.toList.drop (i * 2)).take ((n-i) * 2)∧e = .returned (.slice (some ⟨w.heap.size,0,none⟩) (n+m) G)∧w'=w.drew.drew.alloc (.cells R 36):=by
 have u0:=run_underlying Try.underlying22;have u3:=run_underlying Try.underlying3;have u4:=run_underlying Try.underlying4
 have mixed:Try.prog.follows .mixedOrders=true:=by kernel_rfl
 obtain ⟨i0,hi0,hz0,hzs,hzb⟩:=info_parts (P:=Try.prog) (e:=36) (z := .agg #[.int .i64 0, .int .i64 0]) (size:=2) (bytes:=16) (by kernel_rfl)
 have hz1:¬((m:Int)=0):=by omega
 have hz2:¬((i:Int)=(n:Int)):=by omega
 have hz3:(c:Int)<(n:Int)+(m:Int):=by omega
 have hsz:(Try.prog.info? 36).map (·.size)=some 2:=by rw [hi0];simp [hzs]
 have hkk:(n:Int)+(m:Int)-(i:Int)=((n+m-i:Nat):Int):=by omega
 have hik:i+(n+m-i)=n+m:=by omega
 have hb8:b<w.heap.size:=(Array.getElem?_eq_some_iff.1 hbk).1
 have hvb:vb<w.heap.size:=by
  have h0:0<vs.length:=by omega
  exact block_lt_of_cell (hvs 0 _ (List.getElem?_eq_getElem h0))
 have hcl0:(cur.toList.take (i * 2)).length=i * 2:=by rw [List.length_take,Array.length_toList];omega
 have hold:(Builtin.firstCells i0.size i (.slice (some ⟨b,0,none⟩) i c)).run Try.prog w.drew = .ok (cur.toList.take (i * 2)).toArray w.drew:=by
  rw [hzs]
  exact run_firstCells_some w.drew 2 i ⟨b,0,none⟩ i c (cur.toList.take (i * 2)) hcl0 (fun j v hj=>by
   rw [Addr.add_lit,cell_of_row w.drew b _ cur T (0,0) hbk]
   rw [List.getElem?_take] at hj
   split at hj
   ·simpa using hj
   ·cases hj)
 obtain ⟨G,hG⟩:∃G,G=grownCap w (n+m) c 36:=⟨_,rfl⟩
 obtain ⟨zc,hzc⟩:∃zc:Array Value,zc=Value.cells (.agg #[.int .i64 0, .int .i64 0]):=⟨_,rfl⟩
 have hzc7:zc.size=2:=by rw [hzc];rfl
 obtain ⟨ROW,hROW⟩:∃ROW:Array Value,ROW=(cur.toList.take (i * 2)).toArray++Builtin.zeroCells zc (n+m-i)++Builtin.zeroCells zc (G-(n+m)):=⟨_,rfl⟩
 have hrz:∀ty,(Builtin.append_ #[22,3] ty #[.slice (some ⟨b,0,none⟩) i c, .int .i64 ((n:Int)+(m:Int)-(i:Int))]).run Try.prog w =
   .ok (.slice (some ⟨w.heap.size,0,none⟩) (n+m) G) (w.drew.alloc (.cells ROW 36)):=fun ty=>by
  have h:=Lib.run_append_grow_zeros w 22 3 ty 36 i0 _ .i64 .i64 Try.underlying22 Try.underlying3 hi0 hz0 (some ⟨b,0,none⟩) i c (cur.toList.take (i * 2)) hold (n+m-i) (by omega) (by omega) (by omega) (by omega) (by rw [hzb];omega) (by rw [hzb,hik];exact growslice_fits hroom hbig)
  rw [hik] at h
  rw [hkk,hROW,hG,hzc]
  exact h
 have hGn:n+m≤G:=by rw [hG];exact grownCap_ge w _ _ _
 have hGx:G≤maxLen:=by
  rw [hG];exact grownCap_le_maxLen w (n+m) c 36 (by unfold maxLen;omega)
 have hG63:G≤9223372036854775807:=by unfold maxLen at hGx;omega
 have hRs:ROW.size=G * 2:=by
  rw [hROW]
  simp only [Array.size_append,size_zeroCells,List.size_toArray,hcl0,hzc7]
  omega
 obtain ⟨cs,hcs⟩:∃cs,cs=(cur.toList.drop (i * 2)).take ((n-i) * 2):=⟨_,rfl⟩
 have hcl:cs.length=(n-i) * 2:=by rw [hcs,List.length_take,List.length_drop,Array.length_toList];omega
 have hcm:∀v ∈ cs,v.oneCell'=true:=fun v hv=>h1 v (by
  obtain ⟨j,hj⟩:=List.getElem?_of_mem hv
  rw [hcs,List.getElem?_take] at hj
  split at hj
  ·rw [List.getElem?_drop] at hj
   refine List.mem_of_getElem? (i:=i * 2+j) ?_
   rw [List.getElem?_take,if_pos (by omega)]
   exact hj
  ·cases hj)
 obtain ⟨r1,hr1⟩:∃r1,r1=(ROW.toList.take (i * 2)++vs++ROW.toList.drop (i * 2+vs.length)).toArray:=⟨_,rfl⟩
 have hrs1:r1.size=ROW.size:=by rw [hr1];simp;omega
 obtain ⟨r2,hr2⟩:∃r2,r2=(r1.toList.take ((i+m) * 2)++cs++r1.toList.drop ((i+m) * 2+cs.length)).toArray:=⟨_,rfl⟩
 obtain ⟨W1,hW1⟩:∃W1,W1=w.drew.alloc (.cells ROW 36):=⟨_,rfl⟩
 rw [← hW1] at hrz
 have hg1:W1.heap[w.heap.size]? = some (.cells ROW 36 (0,0)):=by rw [hW1];exact heap_alloc_new w.drew _
 have hO:∀k,k<w.heap.size→W1.heap[k]? = w.heap[k]? := fun k hk=>by
  rw [hW1]
  exact (Frame.alloc (S:=fun _=>False) w.drew _).block k hk (fun h=>h)
 have hcpA:∀ty dc,(Builtin.copy_ #[22,22] ty #[.slice (some ⟨w.heap.size,i * 2,none⟩) (n+m-i) dc, .slice (some ⟨vb,0,none⟩) m vc]).run Try.prog W1 = .ok (goInt m) (W1.setRow w.heap.size r1):=fun ty dc=>by
  rw [hr1]
  exact Z8F (P:=Try.prog) (n:=m) W1 22 22 ty 36 2 w.heap.size (i * 2) (n+m-i) dc ⟨vb,0,none⟩ m vc ROW 36 vs Try.underlying22 hsz hg1 (by simp only [Nat.min_def];split<;>omega) hvl (fun j v hj=>by
   rw [Addr.add_lit,Nat.zero_add,Z1B (hO vb hvb)]
   exact hvs j v hj) (by omega) h1v
 have hg2:(W1.setRow w.heap.size r1).heap[w.heap.size]? = some (.cells r1 36 (0,0)):=setRow_heap W1 _ ROW r1 36 (0,0) hg1
 have hcpB:∀ty dc sc,(Builtin.copy_ #[22,22] ty #[.slice (some ⟨w.heap.size,(i+m) * 2,none⟩) (n+m-(i+m)) dc, .slice (some ⟨b,i * 2,none⟩) (n-i) sc]).run Try.prog (W1.setRow w.heap.size r1).drew = .ok (goInt ((n-i:Nat):Int)) ((W1.setRow w.heap.size r1).drew.setRow w.heap.size r2):=fun ty dc sc=>by
  rw [hr2]
  exact Z8F (P:=Try.prog) (n:=n-i) (W1.setRow w.heap.size r1).drew 22 22 ty 36 2 w.heap.size _ _ dc _ _ sc r1 36 cs Try.underlying22 hsz hg2 (by simp only [Nat.min_def];split<;>omega) hcl (fun j v hj=>by
   rw [hcs,List.getElem?_take] at hj
   split at hj
   ·rw [List.getElem?_drop] at hj
    have hbb:(W1.setRow w.heap.size r1).drew.heap[b]? = some (.cells cur T (0,0)):=by
     show (W1.setRow w.heap.size r1).heap[b]? = _
     rw [setRow_other W1 _ b r1 (by omega),hO b hb8,hbk]
    rw [Addr.add_lit,cell_of_row _ b _ cur T (0,0) hbb]
    simpa using hj
   ·cases hj) (by omega) hcm
 have hGi:¬(G=i):=by omega
 have hGim:¬(G=i+m):=by omega
 have hci:¬(c=i):=by omega
 have hw1:IntKind.i64.wrap ((i:Int)+(m:Int))=(i:Int)+(m:Int):=by rw [IntKind.wrap_i64];omega
 have hb1:(0:Int)≤(i:Int)+(m:Int):=by omega
 have hin:i≤n:=by omega
 have htn:((i:Int)+(m:Int)).toNat=i+m:=by omega
 have hb3:(i:Int)≤(n:Int):=by omega
 obtain ⟨q1,q2⟩:=Zld (k:=2) (i:=i) (n:=n) (m:=m) (l:=cur.toList) (cs:=cs) (vs:=vs) (r:=ROW.toList) (z:=(Builtin.zeroCells zc (n+m-i)++Builtin.zeroCells zc (G-(n+m))).toList) (by rw [hROW];simp) hcl hvl (by rw [Array.length_toList];exact hcap) (by
  simp only [Array.toList_append,List.length_append,Array.length_toList,size_zeroCells,hzc7];omega) hin
 have hR1:r2.toList.take ((n+m) * 2)=cur.toList.take (i * 2)++vs++cs:=by rw [hr2,hr1,hvl,hcl];exact q1
 have hR2:r2.size=G * 2:=by
  have:r2.toList.length=ROW.toList.length:=by rw [hr2,hr1,hvl,hcl];exact q2
  simpa [hRs] using this
 have hend:(W1.setRow w.heap.size r1).drew.setRow w.heap.size r2=w.drew.drew.alloc (.cells r2 36):=by
  subst hW1
  exact Zlc w.drew ROW r1 r2 36
 refine Calls.mono (R:=fun e w'=>e = .returned (.slice (some ⟨w.heap.size,0,none⟩) (n+m) G)∧w'=(W1.setRow w.heap.size r1).drew.setRow w.heap.size r2) ?_ (fun e w' ⟨h1,h2⟩=>⟨G,r2,hGn,hGx,hR2,by rw [hR1,hcs],h1,h2.trans hend⟩)
 clear hkk hik hold hROW hG hend hW1 q1 q2 hR1 hR2 hr1 hr2 hcs hcl hcm hg1 hg2 hrs1 hRs hzc hzc7 hO hcl0 hbk
 go_enter Try.func79,Try.ntmps79
 go_wp2_with (first
  | (at_builtin;refine Lib.wpList_append_run _ rfl _ _ _ _ rfl _ _ rfl rfl _ _ (hrz _) ?_)
  | (at_builtin;refine Zba _ rfl _ _ 22 22 rfl _ _ rfl rfl (hcpA _ _) ?_)
  | (at_builtin;refine Zba _ rfl _ _ 22 22 rfl _ _ rfl rfl (hcpB _ _ _) ?_))
 go_region_law_o (go_loud (refine ZeD rfl _ _ 22 22 rfl (.slice (some ⟨w.heap.size,(i+m) * 2,none⟩) (n+m-(i+m)) (G-(i+m))) (.slice (some ⟨b,i * 2,none⟩) (n-i) (c-i)) (by simp [Act.eval,Act.put]) (by simp [Act.eval,Act.put]) (hcpB 3 (G-(i+m)) (c-i)) ?_))
 go_wp2
 go_ret
 exact ⟨rfl,rfl⟩
set_option maxHeartbeats 4000000 in
set_option maxRecDepth 100000 in
theorem Zlg (A B:Option Addr) (n c m vc:Nat) (u:Value) (w W':World) (hm:0<m) (hnc:n≤c) (hA:A=none→c=0)
  (hr:∀ty,(Builtin.append_ #[22,22] ty #[.slice A n c, .slice B m vc]).run Try.prog w = .ok u W'):
  Calls Try.prog 79 #[.slice A n c, .int .i64 n, .slice B m vc] w fun e w'=>e = .returned u∧w'=W':=by
 have u0:=run_underlying Try.underlying22;have u3:=run_underlying Try.underlying3;have u4:=run_underlying Try.underlying4
 have mixed:Try.prog.follows .mixedOrders=true:=by kernel_rfl
 have hz1:¬((m:Int)=0):=by omega
 go_enter Try.func79,Try.ntmps79
 cases A with
 | none=>
  have h0:=hA rfl
  subst h0
  have hn0:n=0:=by omega
  subst hn0
  go_wp2_with (at_builtin;refine Lib.wpList_append_run _ rfl _ _ _ _ rfl _ _ rfl rfl _ _ (hr _) ?_)
  go_ret
  exact ⟨rfl,rfl⟩
 | some a=>
  obtain ⟨ab,ao,asp⟩:=a
  go_wp2_with (at_builtin;refine Lib.wpList_append_run _ rfl _ _ _ _ rfl _ _ rfl rfl _ _ (hr _) ?_)
  all_goals (go_ret;exact ⟨rfl,rfl⟩)
theorem ZeE:InsWalk Try.prog 79 2 16 22 36:=⟨⟨Try.f79,Try.func79,by kernel_rfl,by kernel_rfl⟩,Try.underlying22,by kernel_rfl,by kernel_rfl,⟨.agg [.s (.int .i64 0), .s (.int .i64 0)],by kernel_rfl,by kernel_rfl,by kernel_rfl⟩,fun m hm=>by unfold maxLen;omega,Zle,Zlf,Zlg⟩
end Go.AM


namespace Go.AM
open Go.RowKit Go.Sort Go.Proofs
set_option linter.unusedVariables false
set_option linter.unusedSimpArgs false
variable {P:Program} {μ μ':Mu} {h h':Hp} {w w':World}
abbrev RowE (k:Nat) (ok:List Value→Bool):={ e:List Value // e.length=k∧(∀v ∈ e,gv v=true)∧ok e=true }
def encE (e:List Value):List AV:=e.map .s
def decE (k:Nat) (ok:List Value→Bool) (e:List AV):Option (List Value):=match e.mapM cellV with | some l=>if l.length=k∧ok l=true then some l else none | none=>none
def ltF (Fc:Fun) (x y:List Value):Bool:=match Fc [.agg (encE x), .agg (encE y)] [] with | some (.s (.int .i64 n),_)=>decide (n<0) | _=>false
def SortOk (k:Nat) (ok:List Value→Bool) (Fc:Fun):Prop:=∃cf:RowE k ok→RowE k ok→Int,(∀x y,Fc [.agg (encE x.1), .agg (encE y.1)] []=some (.s (.int .i64 (cf x y)),[]))∧SWO (ltOf cf)∧∀x y,ltOf cf x y=false→ltOf cf y x=false→x=y
open Classical in
noncomputable def sortF (k:Nat) (ok:List Value→Bool) (g:Nat) (Fc:Fun):Fun:=fun args h=>
 match args with
 | [.sl sz id off len fr _, .fn g' []]=>
  match h[id]? with
  | some (.arr sz' es own nil)=>
   if g'=g∧sz=k∧sz'=k∧es.length=fr∧own=true∧off+len≤es.length∧len<4611686018427387904∧SortOk k ok Fc then
    match ((es.drop off).take len).mapM (decE k ok) with
    | some l=>some (.tup [],h.set id (.arr k (es.take off++(l.mergeSort fun x y => !ltF Fc y x).map encE++es.drop (off+len)) true nil))
    | none=>none
   else none
  | _=>none
 | [.s (.slice none 0 0), .fn _ _]=>some (.tup [],h)
 | _=>none
theorem Zlh {a:AV} {v:Value} (h:cellV a=some v):a = .s v∧gv v=true:=by
 unfold cellV at h
 split at h<;>try (simp at h;done)
 split at h<;>try (simp at h;done)
 rename_i hg
 simp only [Option.some.injEq] at h
 subst h
 exact ⟨rfl,hg⟩
theorem ZeF:∀ {e:List AV} {l:List Value},e.mapM cellV=some l→e=encE l∧∀v ∈ l,gv v=true
 | [],l,h=>by simp at h;subst h;exact ⟨rfl,by simp⟩
 | a::e,l,h=>by
  simp only [List.mapM_cons,Option.pure_def,Option.bind_eq_bind,Option.bind_eq_some_iff,Option.some.injEq] at h
  obtain ⟨v,hv,l',hl,rfl⟩:=h
  obtain ⟨rfl,hg⟩:=Zlh hv
  obtain ⟨rfl,hgs⟩:=ZeF hl
  exact ⟨rfl,fun u hu=>(List.mem_cons.1 hu).elim (fun e=>e ▸ hg) (hgs u)⟩
theorem Zli {k:Nat} {ok:List Value→Bool} {e:List AV} {l:List Value} (h:decE k ok e=some l):e=encE l∧l.length=k∧(∀v ∈ l,gv v=true)∧ok l=true:=by
 unfold decE at h
 split at h<;>try (simp at h;done)
 rename_i l' hl
 split at h<;>try (simp at h;done)
 rename_i hk
 simp only [Option.some.injEq] at h
 subst h
 obtain ⟨h1,h2⟩:=ZeF hl
 exact ⟨h1,hk.1,h2,hk.2⟩
theorem ZeG {k:Nat} {ok:List Value→Bool}:∀ {es:List (List AV)} {l:List (List Value)},es.mapM (decE k ok)=some l→∃d:List (RowE k ok),l=d.map (·.1)∧es=d.map fun x=>encE x.1
 | [],l,h=>by simp at h;subst h;exact ⟨[],rfl,rfl⟩
 | e::es,l,h=>by
  simp only [List.mapM_cons,Option.pure_def,Option.bind_eq_bind,Option.bind_eq_some_iff,Option.some.injEq] at h
  obtain ⟨x,hx,l',hl,rfl⟩:=h
  obtain ⟨rfl,h1⟩:=Zli hx
  obtain ⟨d,rfl,rfl⟩:=ZeG hl
  exact ⟨⟨x,h1⟩::d,rfl,rfl⟩
theorem VRs.encE:∀ {e:List Value},(∀v ∈ e,gv v=true)→VRs μ h (encE e) e
 | [],_=>by simp [Go.AM.encE,VRs]
 | v::e,hg=>by
  simp only [Go.AM.encE,List.map_cons,VRs]
  exact ⟨v,e,rfl,by unfold VR;exact ⟨hg v (by simp),rfl⟩,VRs.encE fun u hu=>hg u (by simp [hu])⟩
theorem VRs.encE_eq:∀ {e vs:List Value},VRs μ h (Go.AM.encE e) vs→vs=e
 | [],vs,hv=>by simpa [Go.AM.encE,VRs] using hv
 | v::e,vs,hv=>by
  simp only [Go.AM.encE,List.map_cons,VRs] at hv
  obtain ⟨u,us,rfl,h1,h2⟩:=hv
  simp only [VR] at h1
  rw [h1.2,VRs.encE_eq h2]
theorem Zbb {k : Nat} : ∀ {l : List (List Value)}, (∀ e ∈ l, e.length = k) → l.flatten.length = l.length * k ∧ ∀ t, t < l.length * k → l.flatten[t]? = (l[t / k]!)[t % k]?
  | [], _ => ⟨by simp, fun t ht => by simp at ht⟩
  | e :: l, hl => by
    have he := hl e (by simp)
    obtain ⟨i1, i2⟩ := Zbb (l := l) fun x hx => hl x (by simp [hx])
    refine ⟨by simp [he, i1, Nat.add_mul]; omega, fun t ht => ?_⟩
    rw [List.flatten_cons]
    by_cases hk : t < k
    · rw [List.getElem?_append_left (by omega), Nat.div_eq_of_lt hk, Nat.mod_eq_of_lt hk]
      rfl
    · have hk0 : 0 < k := by rcases Nat.eq_zero_or_pos k with e0 | e0; · subst e0; simp at ht
                             · exact e0
      rw [List.getElem?_append_right (by omega), he, i2 (t - k) (by simp [Nat.add_mul] at ht; omega)]
      have h1 : t / k = (t - k) / k + 1 := by
        have := Nat.add_div_right (t - k) hk0
        rw [show t - k + k = t by omega] at this
        exact this
      have h2 : t % k = (t - k) % k := by
        have := Nat.add_mod_right (t - k) k
        rw [show t - k + k = t by omega] at this
        exact this
      rw [h1, h2]
      rfl
theorem ZeH {α : Type} [Inhabited α] (enc : α → List Value) (k : Nat) (hk : ∀ x, (enc x).length = k) (d : List α) : (flatK enc k d.toArray).toList = (d.map enc).flatten := by
  obtain ⟨h1, h2⟩ := Zbb (l := d.map enc) (k := k) (by simp [hk])
  apply List.ext_getElem?
  intro t
  by_cases ht : t < d.length * k
  · rw [h2 t (by simpa using ht)]
    have hk0 : 0 < k := by rcases Nat.eq_zero_or_pos k with e0 | e0; · subst e0; simp at ht
                           · exact e0
    have hd : t / k < d.length := (Nat.div_lt_iff_lt_mul hk0).2 ht
    have hm : t % k < k := Nat.mod_lt _ hk0
    have e1 : (d.map enc)[t / k]! = enc d[t / k] := by
      rw [getElem!_pos _ _ (by simpa using hd)]; simp
    rw [e1]
    have hm' : t % k < (enc d[t / k]).length := by rw [hk]; exact hm
    rw [List.getElem?_eq_getElem hm']
    unfold flatK
    simp only [List.size_toArray, Array.toList_map, Array.toList_range, List.getElem?_map, List.getElem?_range ht, Option.map_some]
    congr 1
    rw [getElem!_pos d.toArray _ (by simpa using hd)]
    simp only [List.getElem_toArray]
    rw [getElem!_pos (enc d[t / k]) (t % k) hm']
  · rw [List.getElem?_eq_none (by rw [Array.length_toList, size_flatK]; simpa using ht), List.getElem?_eq_none (by rw [h1, List.length_map]; omega)]
theorem Step.draws (R:Rel μ h w):∀n,Step μ h w μ h (Sort.ahead w n)
 | 0=>by rw [ahead_zero];exact Step.refl R
 | n+1=>by
  have S:=Step.draws R n
  rw [← ahead_drew]
  exact S.trans (Step.drew S.rel)
theorem Step.grown:∀ {w:World} {μ:Mu} (os:List Obj),Rel μ h w→∃μ',Step μ h w μ' h (grow w os.toArray)
 | w,μ,[],R=>by rw [grow_empty];exact ⟨μ,Step.refl R⟩
 | w,μ,o::os,R=>by
  obtain ⟨μ1,S1, -⟩:=Step.allocImm R o
  obtain ⟨μ2,S2⟩:=Step.grown os S1.rel
  refine ⟨μ2, ?_⟩
  have:grow w (o::os).toArray=grow (w.alloc o) os.toArray:=by
   rw [alloc_eq_grow,grow_grow];congr 1;simp
  rw [this]
  exact S1.trans S2
theorem Zlj {blk off k:Nat} {cur F row:Array Value} {T:TypeId} {fr:Nat × Nat} (hb:w.heap[blk]? = some (.cells cur T fr)) (hfit:off+F.size≤cur.size) (hrow:row=(cur.toList.take off++F.toList++cur.toList.drop (off+F.size)).toArray):putRow id w blk off F=w.setRow blk row:=by
 have hc:putCells id off F cur=row:=by
  subst hrow
  apply Array.ext_getElem?
  intro i
  unfold putCells
  simp only [Array.getElem?_mapIdx,List.getElem?_toArray]
  by_cases hi:i<cur.size
  ·rw [Array.getElem?_eq_getElem hi]
   simp only [Option.map_some,id]
   by_cases h1:off≤i∧i<off+F.size
   ·rw [if_pos h1,List.append_assoc,List.getElem?_append_right (by simp;omega),List.getElem?_append_left (by simp;omega)]
    simp only [List.length_take,Array.length_toList]
    rw [show i-min off cur.size=i-off by omega,Array.getElem?_toList,getElem!_pos F _ (by omega),Array.getElem?_eq_getElem (by omega)]
   ·rw [if_neg h1]
    by_cases h2:i<off
    ·rw [List.append_assoc,List.getElem?_append_left (by simp;omega),List.getElem?_take,if_pos h2,Array.getElem?_toList,Array.getElem?_eq_getElem hi]
    ·rw [List.getElem?_append_right (by simp;omega),List.getElem?_drop]
     simp only [List.length_append,List.length_take,Array.length_toList]
     rw [show off+F.size+(i-(min off cur.size+F.size))=i by omega,Array.getElem?_toList,Array.getElem?_eq_getElem hi]
  ·rw [Array.getElem?_eq_none (by omega),List.getElem?_eq_none (by simp;omega)]
   rfl
 unfold putRow
 rw [mapBlock_congr w blk _ (fun _=>row) fun c e f he=>by
  rw [hb] at he
  injection he with he
  injection he with e1
  subst e1
  exact hc]
 unfold mapBlock World.setRow
 congr 1
theorem Zlk {S:Nat→Prop} (F:Frame S w w') (hS:∀k,¬S k):∃q os,w'=grow (w.drewN q) os:=by
 refine ⟨w'.drawn-w.drawn,w'.heap.extract w.heap.size w'.heap.size, ?_⟩
 obtain ⟨f1,f2,f3,f4,f5,f6⟩:=F
 cases w with
 | mk hp tp dr os out=>
  cases w' with
  | mk hp' tp' dr' os' out'=>
   simp only [grow,World.drewN] at *
   subst f1 f2 f3
   congr 1
   ·apply Array.ext_getElem?
    intro i
    by_cases hi:i<hp.size
    ·rw [f6 i hi (hS i),Array.getElem?_append_left hi]
    ·rw [Array.getElem?_append_right (by omega),Array.getElem?_extract]
     split
     ·congr 1;omega
     ·rw [Array.getElem?_eq_none (by omega)]
   ·omega
theorem Zll {k g:Nat} {ok:List Value→Bool} {Fc:Fun} (hc:CSound P g Fc) {cf:RowE k ok→RowE k ok→Int} (hcf:∀x y,Fc [.agg (encE x.1), .agg (encE y.1)] []=some (.s (.int .i64 (cf x y)),[])) [Inhabited (RowE k ok)] (blk off size:Nat) (w:World):CmpLays P g #[] (fun x:RowE k ok=>x.1) k cf blk off size w:=by
 intro m os dk hs x y
 obtain ⟨W,hW⟩:∃W,W=sortWorldK (fun x:RowE k ok=>x.1) k w blk off m dk os:=⟨_,rfl⟩
 rw [← hW]
 have R:Rel { loc:=fun _ => .real 0 0 0,base:=W,imm:=fun _=>False } [] W:=Rel.nil fun k hk=>hk.elim
 obtain ⟨-,hcall⟩:=hc _ _ _ _ (hcf x y) _ W (#[.agg x.1.toArray, .agg y.1.toArray] ++ #[]) R (by
  simp only [VRs,VR]
  exact ⟨_,_,rfl,⟨_,rfl,VRs.encE x.2.2.1⟩,_,_,rfl,⟨_,rfl,VRs.encE y.2.2.1⟩,rfl⟩)
 refine hcall.mono ?_
 rintro e w' ⟨cv,μ2,rfl,S,hv⟩
 simp only [VR] at hv
 obtain ⟨-,rfl⟩:=hv
 exact ⟨rfl,Zlk S.frame fun k hk=>Own.nil hk⟩
theorem Zlm {ρ:Go.Shelf.Ren} {k g:Nat} {ok:List Value→Bool} {Fc:Fun} (L:SlLaysF0.n6 P ρ) (aE:∀w,(isAgg (ρ.t 24)).run P w = .ok true w) (zE:∀w,(Go.sizeOf (ρ.t 24)).run P w = .ok k w) (hgo:Goes P (ρ.f 6)) (hk0:0<k) (hc:CSound P g Fc) (hg:Goes P g):CSound P (ρ.f 6) (sortF k ok g Fc):=by
 intro args h v h' hk μ w cargs R hargs
 refine ⟨hgo, ?_⟩
 unfold sortF at hk
 split at hk<;>try (simp at hk;done)
 ·rename_i sz id off len fr full g'
  split at hk<;>try (simp at hk;done)
  rename_i sz' es own nil ho
  split at hk<;>try (simp at hk;done)
  rename_i hcond
  obtain ⟨rfl,rfl,rfl,hfr,rfl,hle,hlen,cf,hcf,hswo,hanti⟩:=hcond
  split at hk<;>try (simp at hk;done)
  rename_i l hl
  simp only [Option.some.injEq,Prod.mk.injEq] at hk
  obtain ⟨rfl,rfl⟩:=hk
  obtain ⟨d,rfl,hd⟩:=ZeG hl
  have hdl:d.length=len:=by
   have:=congrArg List.length hd
   rw [List.length_map,List.length_take,List.length_drop] at this
   omega
  have elt:∀x y:RowE sz' ok,ltF Fc x.1 y.1=ltOf cf x y:=fun x y=>by
   unfold ltF ltOf
   rw [hcf x y]
  have esort:(d.map (·.1)).mergeSort (fun x y => !ltF Fc y x)=(d.mergeSort fun x y => !ltOf cf y x).map (·.1):=by
   rw [List.map_mergeSort]
   intro a _ b _
   rw [elt]
  rw [esort,List.map_map]
  obtain ⟨d2,hd2⟩:∃d2,d2=d.mergeSort fun x y => !ltOf cf y x:=⟨_,rfl⟩
  have hd2l:d2.length=len:=by rw [hd2,List.length_mergeSort];exact hdl
  rw [← hd2]
  have e0:cargs.toList=cargs.toList:=rfl
  simp only [VRs] at hargs
  obtain ⟨v1,vs1,hq1,hv1,v2,vs2,rfl,hv2,rfl⟩:=hargs
  have hcargs:cargs = #[v1,v2]:=by apply Array.ext';simpa using hq1
  subst hcargs
  simp only [VR] at hv1 hv2
  obtain ⟨caps,rfl,hcaps⟩:=hv2
  have hcaps':caps = #[]:=by
   simp only [VRs] at hcaps
   apply Array.ext';simpa using hcaps
  subst hcaps'
  obtain ⟨A,c,rfl,hlc,hA, -,es2,own',nil',ho', -,hq⟩:=hv1
  rw [ho] at ho'
  injection ho' with ho'
  injection ho' with e1 e2 e3 e4
  subst e2 e3 e4
  have hsl:=hq hfr.symm
  by_cases h0:len=0
  ·subst h0
   have hd0:d2=[]:=List.eq_nil_of_length_eq_zero hd2l
   have e5:h.set id (.arr sz' (es.take off++d2.map ((encE ·) ∘ (·.1))++es.drop (off+0)) true nil)=h:=by
    rw [hd0]
    simp only [List.map_nil,List.append_nil,Nat.add_zero,List.take_append_drop]
    exact Z1c ho
   rw [e5]
   refine (AnyF.slices_SortFunc_none L A c _ w).mono ?_
   rintro e w' ⟨rfl,rfl⟩
   exact ⟨_,μ,rfl,Step.refl R,by simp [VR,VRs]⟩
  ·unfold SlOk at hsl
   split at hsl
   ·rename_i blk o cap hmu
    obtain ⟨a',rfl,hcap,hne⟩:=hsl
    have ha':=hne (by omega)
    have hO:=R.obj _ _ ho
    obtain ⟨cur,T,hbk,hcur,rfl,hlec,hcapm,h1,hr⟩:=ORel.own_flat hO hmu
    rw [Nat.zero_add] at ha'
    subst ha'
    obtain ⟨vs,g1,g2,g3,g4⟩:=Z5Q R ho hmu off len hle
    rw [Nat.zero_add] at g4
    haveI:Inhabited (RowE sz' ok):=⟨d[0]'(by omega)⟩
    have hlenE:∀x:RowE sz' ok,x.1.length=sz':=fun x=>x.2.1
    have hflat:((es.drop off).take len).flatten=encE (d.map (·.1)).flatten:=by
     rw [hd]
     unfold encE
     rw [List.map_flatten,List.map_map]
     rfl
    rw [hflat] at g1
    have hvs:=VRs.encE_eq g1
    subst hvs
    have hfk:=ZeH (fun x:RowE sz' ok=>x.1) sz' hlenE d
    have hH:HoldsK (fun x:RowE sz' ok=>x.1) sz' w blk (off * sz') d.toArray:=by
     intro j hj
     have hj2:j<(flatK (fun x:RowE sz' ok=>x.1) sz' d.toArray).toList.length:=by simpa using hj
     refine ⟨g4 j _ ?_, ?_⟩
     ·rw [← hfk,List.getElem?_eq_getElem hj2,getElem!_pos (flatK (fun x:RowE sz' ok=>x.1) sz' d.toArray) j hj]
      rfl
     ·simp only [World.frozen?,hbk]
      simp
    have hblk:blk<w.heap.size:=(Array.getElem?_eq_some_iff.1 hbk).1
    have key:=AnyQ.slices_SortFunc_total L sz' aE zE (fun x:RowE sz' ok=>x.1) hlenE (fun x v hv=>Zal (x.2.2.1 v hv)) cf hswo g' #[] blk (off * sz') c d.toArray w (fun a W=>hg.run a W) (Zll hc hcf blk (off * sz') _ w) hH hblk (by simp;omega) hanti
    have hds:d.toArray.size=len:=by simpa using hdl
    rw [hds] at key
    refine key.mono ?_
    rintro e w' ⟨rfl,n,os,rfl⟩
    simp only []
    rw [← hd2]
    have S1:=Step.draws R n
    have hS:Sized sz' (d2.map ((encE ·) ∘ (·.1))):=by
     intro y hy
     obtain ⟨x, -,rfl⟩:=List.mem_map.1 hy
     refine ⟨by simp [encE,hlenE],fun c hc => ?_⟩
     simp only [Function.comp,encE,List.mem_map] at hc
     obtain ⟨u,hu,rfl⟩:=hc
     exact x.2.2.1 u hu
    have hgv:∀v ∈ (d2.map (·.1)).flatten,gv v=true:=by
     intro v hv
     obtain ⟨l,hl,hvl⟩:=List.mem_flatten.1 hv
     obtain ⟨x, -,rfl⟩:=List.mem_map.1 hl
     exact x.2.2.1 v hvl
    have hfl2:(d2.map ((encE ·) ∘ (·.1))).flatten=encE (d2.map (·.1)).flatten:=by
     unfold encE
     rw [List.map_flatten,List.map_map]
    have hvr:VRs μ h (d2.map ((encE ·) ∘ (·.1))).flatten (d2.map (·.1)).flatten:=by rw [hfl2];exact VRs.encE hgv
    obtain ⟨cur',T',row,q1,q2,q3,q4⟩:=Zcj (P:=P) (off:=off) S1.rel ho hmu hS hvr (fun v hv=>Zal (hgv v hv)) (by simpa [hd2l] using hle)
    rw [List.length_map,hd2l] at q4
    have hfk2:=ZeH (fun x:RowE sz' ok=>x.1) sz' hlenE d2
    have hF:(flatK (fun x:RowE sz' ok=>x.1) sz' d2.toArray).size=(d2.map (·.1)).flatten.length:=by
     rw [← hfk2];simp
    have hcc:cur'=cur:=by
     have:(Sort.ahead w n).heap[blk]? = w.heap[blk]? := rfl
     rw [this,hbk] at q1
     injection q1 with q1
     injection q1 with q1
     exact q1.symm
    subst hcc
    have hput:putRowK (fun x:RowE sz' ok=>x.1) sz' (Sort.ahead w n) blk (off * sz') d2.toArray=(Sort.ahead w n).setRow blk row:=by
     unfold putRowK
     refine Zlj (k:=sz') q1 ?_ (by rw [q2,hF,hfk2])
     rw [hF,(Zbb (l:=d2.map (·.1)) (k:=sz') (fun e he=>by obtain ⟨x, -,rfl⟩:=List.mem_map.1 he;exact hlenE x)).1,List.length_map,hd2l,hcur, ← Nat.add_mul]
     exact Nat.le_trans (Nat.mul_le_mul_right _ hle) (Nat.mul_le_mul_right _ hlec)
    unfold sortWorldK
    rw [hput]
    obtain ⟨μ3,S3⟩:=Step.grown os.toList q4.rel
    exact ⟨_,μ3,rfl,(S1.trans q4).trans (by simpa using S3),by simp [VR,VRs]⟩
   ·rename_i A' hmu
    obtain ⟨rfl,rfl, -⟩:=hsl
    have hz:=(R.obj _ _ ho).2
    rw [hmu] at hz
    have:=hz.1
    subst this
    simp at hle
    omega
 ·rename_i f caps
  simp only [Option.some.injEq,Prod.mk.injEq] at hk
  obtain ⟨rfl,rfl⟩:=hk
  simp only [VRs] at hargs
  obtain ⟨v1,vs1,hq1,hv1,v2,vs2,rfl,hv2,rfl⟩:=hargs
  have hcargs:cargs = #[v1,v2]:=by apply Array.ext';simpa using hq1
  subst hcargs
  simp only [VR] at hv1
  obtain ⟨-,rfl⟩:=hv1
  refine (AnyF.slices_SortFunc_none L none 0 v2 w).mono ?_
  rintro e w' ⟨rfl,rfl⟩
  exact ⟨_,μ,rfl,Step.refl R,by simp [VR,VRs]⟩
theorem Zln {k g:Nat} {ok:List Value→Bool} {Fc:Fun} (hok:SortOk k ok Fc) {id off len fr:Nat} {full:Bool} {h:Hp} {es:List (List AV)} {nil:Bool} {l:List (List Value)} (ho:h[id]? = some (.arr k es true nil)) (hfr:es.length=fr) (hle:off+len≤es.length) (hlen:len<4611686018427387904) (hl:((es.drop off).take len).mapM (decE k ok)=some l):
  sortF k ok g Fc [.sl k id off len fr full, .fn g []] h=some (.tup [],h.set id (.arr k (es.take off++(l.mergeSort fun x y => !ltF Fc y x).map encE++es.drop (off+len)) true nil)):=by
 unfold sortF
 simp only [ho]
 rw [if_pos ⟨rfl,rfl,rfl,hfr,rfl,hle,hlen,hok⟩,hl]
end Go.AM
namespace Go.AM
open Go.RowKit Go.Sort Go.Proofs
def isI:Value→Bool
 | .int .i64 _=>true
 | _=>false
def okI (e:List Value):Bool:=e.all isI
def unI:Value→Int
 | .int _ n=>n
 | _=>0
def encZ (l:List Int):List AV:=l.map fun n => .s (.int .i64 n)
def valZ (l:List Int):List Value:=l.map fun n => .int .i64 n
theorem Z6z (l:List Int):encE (valZ l)=encZ l:=by simp [encE,valZ,encZ]
theorem Z6A:∀ {e:List Value},okI e=true→e=valZ (e.map unI)
 | [],_=>rfl
 | v::e,h=>by
  simp only [okI,List.all_cons,Bool.and_eq_true] at h
  have ih:=Z6A (e:=e) h.2
  cases v<;>simp [isI] at h
  rename_i kd n
  cases kd<;>simp at h
  simp only [List.map_cons,valZ,unI] at ih ⊢
  rw [← ih]
theorem Zlo (l:List Int):okI (valZ l)=true:=by simp [okI,valZ,isI]
def lexZ:List Int→List Int→Int
 | a::as_,b::bs=>if a<b then -1 else if b<a then 1 else lexZ as_ bs
 | _,_=>0
def ltZ (a b:List Int):Bool:=decide (lexZ a b<0)
theorem ZeI:∀a,lexZ a a=0
 | []=>rfl
 | a::l=>by simp [lexZ,ZeI l]
theorem Zbc (a b:Int) (l r:List Int):ltZ (a::l) (b::r)=(decide (a<b)||(decide (a=b)&&ltZ l r)):=by
 unfold ltZ
 simp only [lexZ]
 by_cases h1:a<b
 ·simp [h1]
 ·by_cases h2:b<a
  ·have:a≠b:=by omega
   simp [h1,h2,this]
  ·have:a=b:=by omega
   simp [this]
theorem ZeJ (a:List Int):ltZ a a=false:=by simp [ltZ,ZeI]
theorem Z6B:∀ {n:Nat} {a b c:List Int},a.length=n→b.length=n→c.length=n→ltZ a b=true→ltZ b c=true→ltZ a c=true
 | 0,a,b,c,ha,hb,hc,h1,h2=>by
  have:a=[]:=List.eq_nil_of_length_eq_zero ha
  subst this
  cases b<;>simp [ltZ,lexZ] at h1
 | n+1,[],b,c,ha,hb,hc,h1,h2=>by simp at ha
 | n+1,a::l,[],c,ha,hb,hc,h1,h2=>by simp at hb
 | n+1,a::l,b::r,[],ha,hb,hc,h1,h2=>by simp at hc
 | n+1,a::l,b::r,c::s,ha,hb,hc,h1,h2=>by
  rw [Zbc] at h1 h2 ⊢
  simp only [Bool.or_eq_true,Bool.and_eq_true,decide_eq_true_eq] at h1 h2 ⊢
  rcases h1 with h1 | ⟨h1,h1'⟩<;>rcases h2 with h2 | ⟨h2,h2'⟩
  ·exact .inl (by omega)
  ·exact .inl (by omega)
  ·exact .inl (by omega)
  ·exact .inr ⟨by omega,Z6B (n:=n) (by simpa using ha) (by simpa using hb) (by simpa using hc) h1' h2'⟩
theorem Z6C:∀ {n:Nat} {a b:List Int},a.length=n→b.length=n→ltZ a b=false→ltZ b a=false→a=b
 | 0,a,b,ha,hb,_,_=>by rw [List.eq_nil_of_length_eq_zero ha,List.eq_nil_of_length_eq_zero hb]
 | n+1,[],b,ha,hb,_,_=>by simp at ha
 | n+1,a::l,[],ha,hb,_,_=>by simp at hb
 | n+1,a::l,b::r,ha,hb,h1,h2=>by
  rw [Zbc] at h1 h2
  simp only [Bool.or_eq_false_iff,Bool.and_eq_false_iff,decide_eq_false_iff_not] at h1 h2
  have e:a=b:=by omega
  subst e
  rw [Z6C (n:=n) (a:=l) (b:=r) (by simpa using ha) (by simpa using hb) (by simpa using h1.2) (by simpa using h2.2)]
theorem Zlp {k:Nat} {Fc:Fun} (hf:∀x y:List Int,x.length=k→y.length=k→Fc [.agg (encZ x), .agg (encZ y)] []=some (.s (.int .i64 (lexZ x y)),[])):
  SortOk k okI Fc∧∀x y:List Int,x.length=k→y.length=k→ltF Fc (valZ x) (valZ y)=ltZ x y:=by
 constructor
 ·refine ⟨fun x y=>lexZ (x.1.map unI) (y.1.map unI),fun x y => ?_,⟨fun x => ?_,fun x y z h1 h2 => ?_,fun x y z h1 h2 => ?_⟩,fun x y h1 h2 => ?_⟩
  ·have:=hf (x.1.map unI) (y.1.map unI) (by simp [x.2.1]) (by simp [y.2.1])
   rw [← Z6z, ← Z6z, ← Z6A (e:=x.1) x.2.2.2, ← Z6A (e:=y.1) y.2.2.2] at this
   exact this
  ·show ltZ _ _=false
   exact ZeJ _
  ·exact Z6B (n:=k) (a:=x.1.map unI) (b:=y.1.map unI) (c:=z.1.map unI) (by simp [x.2.1]) (by simp [y.2.1]) (by simp [z.2.1]) h1 h2
  ·have hx:(x.1.map unI).length=k:=by simp [x.2.1]
   have hy:(y.1.map unI).length=k:=by simp [y.2.1]
   have hz:(z.1.map unI).length=k:=by simp [z.2.1]
   change ltZ (x.1.map unI) (y.1.map unI)=false at h1
   change ltZ (y.1.map unI) (z.1.map unI)=false at h2
   show ltZ (x.1.map unI) (z.1.map unI)=false
   cases h3:ltZ (x.1.map unI) (z.1.map unI) with
   | false=>rfl
   | true=>
    cases h4:ltZ (z.1.map unI) (y.1.map unI) with
    | true=>rw [Z6B hx hz hy h3 h4] at h1;cases h1
    | false=>
     have:=Z6C hy hz h2 h4
     rw [this] at h1
     rw [h1] at h3
     cases h3
  ·have:=Z6C (n:=k) (a:=x.1.map unI) (b:=y.1.map unI) (by simp [x.2.1]) (by simp [y.2.1]) h1 h2
   apply Subtype.ext
   exact (Z6A (e:=x.1) x.2.2.2).trans ((congrArg valZ this).trans (Z6A (e:=y.1) y.2.2.2).symm)
 ·intro x y hx hy
  unfold ltF ltZ
  rw [Z6z,Z6z,hf x y hx hy]
theorem Zlq {k:Nat} {l:List Int} (hl:l.length=k):decE k okI (encZ l)=some (valZ l):=by
 have h1:(encZ l).mapM cellV=some (valZ l):=by
  clear hl
  induction l with
  | nil=>rfl
  | cons n l ih=>
   simp only [encZ,valZ,List.map_cons,List.mapM_cons] at ih ⊢
   rw [ih]
   rfl
 unfold decE
 rw [h1]
 simp [valZ,hl]
 exact Zlo l
theorem ZeK {k:Nat}:∀ {l:List (List Int)},(∀x ∈ l,x.length=k)→(l.map encZ).mapM (decE k okI)=some (l.map valZ)
 | [],_=>rfl
 | x::l,h=>by
  simp only [List.map_cons,List.mapM_cons]
  rw [Zlq (h x (by simp)),ZeK fun y hy=>h y (by simp [hy])]
  rfl
theorem Zlr {k g:Nat} {Fc:Fun} (hf:∀x y:List Int,x.length=k→y.length=k→Fc [.agg (encZ x), .agg (encZ y)] []=some (.s (.int .i64 (lexZ x y)),[])) {id off len fr:Nat} {full:Bool} {h:Hp} {es:List (List AV)} {nil:Bool} {l:List (List Int)}
  (ho:h[id]? = some (.arr k es true nil)) (hfr:es.length=fr) (hle:off+len≤es.length) (hlen:len<4611686018427387904) (hs:∀x ∈ l,x.length=k) (hl:(es.drop off).take len=l.map encZ):
  sortF k okI g Fc [.sl k id off len fr full, .fn g []] h=some (.tup [],h.set id (.arr k (es.take off++(l.mergeSort fun x y => !ltZ y x).map encZ++es.drop (off+len)) true nil)):=by
 obtain ⟨h1,h2⟩:=Zlp hf
 rw [Zln (g:=g) (l:=l.map valZ) h1 ho hfr hle hlen (by rw [hl];exact ZeK hs)]
 have e:(l.map valZ).mergeSort (fun x y => !ltF Fc y x)=(l.mergeSort fun x y => !ltZ y x).map valZ:=by
  rw [List.map_mergeSort]
  intro a ha b hb
  rw [h2 b a (hs b hb) (hs a ha)]
 rw [e,List.map_map]
 have:encE ∘ valZ=encZ:=by funext x;exact Z6z x
 rw [this]
end Go.AM


namespace Go.Proofs
open Go.Shelf
def Try.sort83_ren:Go.Shelf.Ren:=⟨fun | 6=>83 | 15=>101 | 14=>100 | 28=>112 | 29=>113 | 20=>104 | 21=>105 | 22=>106 | 23=>107 | 24=>108 | 25=>109 | 26=>110 | 27=>111 | 46=>115 | 47=>116 | 48=>117 | 49=>118 | 50=>119 | 57=>120 | n=>n,fun | 22=>23 | 24=>27 | 25=>123 | 3=>3 | 39=>132 | 0=>0 | 53=>149 | 55=>55 | 4=>4 | 46=>143 | 45=>142 | 50=>117 | 5=>5 | 9=>9 | 66=>152 | 70=>156 | 76=>158 | 77=>159 | n=>n,fun | n=>n⟩
theorem Try.sort83:Go.Proofs.SlLaysF0.n6 Try.prog Try.sort83_ren:={
 mixed:=by kernel_rfl
 f6:=⟨Try.f83.name,by decide,Try.func83.trans (congrArg some (by kernel_rfl))⟩
 f14:=⟨Try.f100.name,by decide,Try.func100.trans (congrArg some (by kernel_rfl))⟩
 f15:=Try.func101.trans (congrArg some (by kernel_rfl))
 f20:=⟨Try.f104.name,by decide,Try.func104.trans (congrArg some (by kernel_rfl))⟩
 f21:=⟨Try.f105.name,by decide,Try.func105.trans (congrArg some (by kernel_rfl))⟩
 f22:=⟨Try.f106.name,by decide,Try.func106.trans (congrArg some (by kernel_rfl))⟩
 f23:=⟨Try.f107.name,by decide,Try.func107.trans (congrArg some (by kernel_rfl))⟩
 f24:=⟨Try.f108.name,by decide,Try.func108.trans (congrArg some (by kernel_rfl))⟩
 f25:=⟨Try.f109.name,by decide,Try.func109.trans (congrArg some (by kernel_rfl))⟩
 f26:=⟨Try.f110.name,by decide,Try.func110.trans (congrArg some (by kernel_rfl))⟩
 f27:=⟨Try.f111.name,by decide,Try.func111.trans (congrArg some (by kernel_rfl))⟩
 f28:=Try.func112.trans (congrArg some (by kernel_rfl))
 f29:=Try.func113.trans (congrArg some (by kernel_rfl))
 f46:=⟨Try.f115.name,by decide,Try.func115.trans (congrArg some (by kernel_rfl))⟩
 f47:=Try.func116.trans (congrArg some (by kernel_rfl))
 f48:=Try.func117.trans (congrArg some (by kernel_rfl))
 f49:=⟨Try.f118.name,by decide,Try.func118.trans (congrArg some (by kernel_rfl))⟩
 f50:=⟨Try.f119.name,by decide,Try.func119.trans (congrArg some (by kernel_rfl))⟩
 f57:=⟨Try.f120.name,by decide,Try.func120.trans (congrArg some (by kernel_rfl))⟩
 t0:=Try.underlying0
 a0:=Try.isAgg0
 z0:=Try.sizeOf0
 v0:=Try.zeroValue0
 t3:=Try.underlying3
 a3:=Try.isAgg3
 z3:=Try.sizeOf3
 v3:=Try.zeroValue3
 t4:=Try.underlying4
 a4:=Try.isAgg4
 z4:=Try.sizeOf4
 v4:=Try.zeroValue4
 t5:=Try.underlying5
 a5:=Try.isAgg5
 z5:=Try.sizeOf5
 v5:=Try.zeroValue5
 t9:=Try.underlying9
 a9:=Try.isAgg9
 z9:=Try.sizeOf9
 v9:=Try.zeroValue9
 t22:=Try.underlying23
 a22:=Try.isAgg23
 z22:=Try.sizeOf23
 v22:=Try.zeroValue23
 t25:=Try.underlying123
 a25:=Try.isAgg123
 z25:=Try.sizeOf123
 v25:=Try.zeroValue123
 t39:=Try.underlying132
 a39:=Try.isAgg132
 z39:=Try.sizeOf132
 v39:=Try.zeroValue132
 t45:=Try.underlying142
 a45:=Try.isAgg142
 z45:=Try.sizeOf142
 v45:=Try.zeroValue142
 t46:=Try.underlying143
 a46:=Try.isAgg143
 z46:=Try.sizeOf143
 v46:=Try.zeroValue143
 t50:=Try.underlying117
 a50:=Try.isAgg117
 z50:=Try.sizeOf117
 v50:=Try.zeroValue117
 t53:=Try.underlying149
 a53:=Try.isAgg149
 z53:=Try.sizeOf149
 v53:=Try.zeroValue149
 t55:=Try.underlying55
 a55:=Try.isAgg55
 z55:=Try.sizeOf55
 v55:=Try.zeroValue55
 t66:=Try.underlying152
 a66:=Try.isAgg152
 z66:=Try.sizeOf152
 v66:=Try.zeroValue152
 t70:=Try.underlying156
 a70:=Try.isAgg156
 z70:=Try.sizeOf156
 v70:=Try.zeroValue156
 t76:=Try.underlying158
 a76:=Try.isAgg158
 z76:=Try.sizeOf158
 v76:=Try.zeroValue158
 t77:=Try.underlying159
 a77:=Try.isAgg159
 z77:=Try.sizeOf159
 v77:=Try.zeroValue159 }
end Go.Proofs


namespace Go.AM
open Go.Proofs
set_option linter.unusedVariables false
set_option maxRecDepth 100000
theorem mixed:Try.prog.follows .mixedOrders=true:=by kernel_rfl
theorem NN_ex:∃n:Nat,1000000≤n∧n<4611686018427387904:=⟨1000000,by omega,by omega⟩
noncomputable def NN:Nat:=NN_ex.choose
theorem NN_ge:1000000≤NN:=NN_ex.choose_spec.1
theorem NN_lt:NN<4611686018427387904:=NN_ex.choose_spec.2
noncomputable def Z8G:DTab:=D0
theorem Zls:DSound Try.prog Z8G:=DSound.zero
noncomputable def Z8H:Tab:=T0
theorem Zlt:TSound Try.prog Z8H:=TSound.zero
noncomputable def Z8I:Fun:=runF Try.prog Z8H Z8G NN [0,2] Try.f47 1
theorem Zlu:CSound Try.prog 47 Z8I:=Z04 Zlt Zls mixed Try.func47 (by kernel_rfl) NN
theorem Zlv {β:Type} (K:AV→Hp→Option β) (a0:AV) (h:Hp):(Z8I [a0] h).bind (fun p=>K p.1 p.2)=Z80 Try.prog Z8H Z8G NN K a0 h:=by
 rw [← Zjq];exact Z05 rfl
noncomputable def Z4j:Fun:=closedX [.o] [.o] Z8I
theorem ZeL:CSound Try.prog 47 Z4j:=Z0c _ _ Zlu
theorem Zlw {a0:AV} {v:AV} (ha:plains [a0]=true) (hv:Z80 Try.prog Z8H Z8G NN (fun v g=>cvt false g v) a0 []=some v) (h:Hp):Z4j [a0] h=some (v,h):=by
 have e:(Z8I (nrms [.o] [a0]) []).bind (fun (p:AV × Hp)=>cvt false p.2 p.1)=some v:=(Zlv (fun v g=>cvt false g v) a0 []).trans hv
 exact (Z0e (shr:=[.o]) ha e h).trans (congrArg (fun x=>some (x,h)) (Z0J 1 v))
noncomputable def Z8J:DTab:=D0
theorem Zlx:DSound Try.prog Z8J:=DSound.zero
noncomputable def Z6D:Tab:=(updF T0 47 Z4j)
theorem Zly:TSound Try.prog Z6D:=(TSound.upd TSound.zero ZeL)
@[simp] theorem ZeM:Z6D 47=some Z4j:=rfl
noncomputable def Z8K:Fun:=runF Try.prog Z6D Z8J NN [0,2,3,6] Try.f11 1
theorem Zlz:CSound Try.prog 11 Z8K:=Z04 Zly Zlx mixed Try.func11 (by kernel_rfl) NN
theorem ZlA {β:Type} (K:AV→Hp→Option β) (a0:AV) (h:Hp):(Z8K [a0] h).bind (fun p=>K p.1 p.2)=Z67 Try.prog Z6D Z8J NN K a0 h:=by
 rw [← ZiY];exact Z05 rfl
noncomputable def Z51:Fun:=closedX [.o] [.a [none,some 2,some 7], .o] Z8K
theorem ZlB:CSound Try.prog 11 Z51:=Z0c _ _ Zlz
theorem ZeN {a0:AV} {v:AV} (ha:plains [a0]=true) (hv:Z67 Try.prog Z6D Z8J NN (fun v g=>cvt false g v) a0 []=some v) (h:Hp):Z51 [a0] h=some ((nrmR [.a [none,some 2,some 7], .o] v),h):=by
 have e:(Z8K (nrms [.o] [a0]) []).bind (fun (p:AV × Hp)=>cvt false p.2 p.1)=some v:=(ZlA (fun v g=>cvt false g v) a0 []).trans hv
 exact (Z0e (shr:=[.a [none,some 2,some 7], .o]) ha e h).trans (congrArg (fun x=>some (x,h)) rfl)
noncomputable def Z52:DTab:=D0
theorem ZlC:DSound Try.prog Z52:=DSound.zero
noncomputable def Z53:Tab:=T0
theorem ZlD:TSound Try.prog Z53:=TSound.zero
noncomputable def Z6E:Fun:=runF Try.prog Z53 Z52 NN [0,2,3,5,6,7,8,9,14] Try.f80 1
theorem ZlE:CSound Try.prog 80 Z6E:=Z04 ZlD ZlC mixed Try.func80 (by kernel_rfl) NN
theorem ZlF {β:Type} (K:AV→Hp→Option β) (a0:AV) (h:Hp):(Z6E [a0] h).bind (fun p=>K p.1 p.2)=Z6q Try.prog Z53 Z52 NN K a0 h:=by
 rw [← Zkp];exact Z05 rfl
noncomputable def Z2G:Fun:=closedX [.l 1] [.o] Z6E
theorem Z8L:CSound Try.prog 80 Z2G:=Z0c _ _ ZlE
noncomputable def Z4k:DFun:=closedXD [.l 1] [.o] Z6E
theorem ZeO:Ro Z2G Z4k:=Z1W _ _ _
theorem ZlG {a0:AV} {x0:AV} {h:Hp} {v:AV} (ha:cvts false h [x0]=some [a0]) (hv:∀st,Z6q Try.prog Z53 Z52 NN (fun v g=>cvt st g v) (nrm (.l 1) a0) []=some v):Z2G [x0] h=some (v,h):=by
 have e:∀st,(Z6E (nrms [.l 1] [a0]) []).bind (fun (p:AV × Hp)=>cvt st p.2 p.1)=some v:=fun st=>(ZlF (fun v g=>cvt st g v) (nrm (.l 1) a0) []).trans (hv st)
 exact (Zdt (shr:=[.o]) ha e).trans (congrArg (fun x=>some (x,h)) (Z0J 1 v))
noncomputable def Z8M:DTab:=D0
theorem ZlH:DSound Try.prog Z8M:=DSound.zero
noncomputable def Z8N:Tab:=T0
theorem ZlI:TSound Try.prog Z8N:=TSound.zero
noncomputable def Z8O:Fun:=runF Try.prog Z8N Z8M NN [0,2] Try.f99 1
theorem ZlJ:CSound Try.prog 99 Z8O:=Z04 ZlI ZlH mixed Try.func99 (by kernel_rfl) NN
theorem ZlK {β:Type} (K:AV→Hp→Option β) (a0:AV) (h:Hp):(Z8O [a0] h).bind (fun p=>K p.1 p.2)=Z8E Try.prog Z8N Z8M NN K a0 h:=by
 rw [← ZkW];exact Z05 rfl
noncomputable def Z6F:Fun:=closedX [.o] [.o] Z8O
theorem ZlL:CSound Try.prog 99 Z6F:=Z0c _ _ ZlJ
theorem ZlM {a0:AV} {v:AV} (ha:plains [a0]=true) (hv:Z8E Try.prog Z8N Z8M NN (fun v g=>cvt false g v) a0 []=some v) (h:Hp):Z6F [a0] h=some (v,h):=by
 have e:(Z8O (nrms [.o] [a0]) []).bind (fun (p:AV × Hp)=>cvt false p.2 p.1)=some v:=(ZlK (fun v g=>cvt false g v) a0 []).trans hv
 exact (Z0e (shr:=[.o]) ha e h).trans (congrArg (fun x=>some (x,h)) (Z0J 1 v))
noncomputable def Z8P:DTab:=D0
theorem ZlN:DSound Try.prog Z8P:=DSound.zero
noncomputable def Z6G:Tab:=(updF T0 99 Z6F)
theorem ZlO:TSound Try.prog Z6G:=(TSound.upd TSound.zero ZlL)
@[simp] theorem ZsP:Z6G 99=some Z6F:=rfl
noncomputable def Z6H:Fun:=runF Try.prog Z6G Z8P NN [0,1,4,5,6,11,12,13,16,19] Try.f81 2
theorem ZlP:CSound Try.prog 81 Z6H:=Z04 ZlO ZlN mixed Try.func81 (by kernel_rfl) NN
theorem ZlQ {β:Type} (K:AV→Hp→Option β) (a0:AV) (a1:AV) (h:Hp):(Z6H [a0,a1] h).bind (fun p=>K p.1 p.2)=Z6r Try.prog Z6G Z8P NN K a0 a1 h:=by
 rw [← Zkq];exact Z05 rfl
noncomputable def Z2H:Fun:=closedX [.o, .o] [.o] Z6H
theorem Z8Q:CSound Try.prog 81 Z2H:=Z0c _ _ ZlP
noncomputable def Z54:DFun:=closedXD [.o, .o] [.o] Z6H
theorem ZeP:Ro Z2H Z54:=Z1W _ _ _
theorem ZlR {a0:AV} {a1:AV} {v:AV} (ha:plains [a0,a1]=true) (hv:Z6r Try.prog Z6G Z8P NN (fun v g=>cvt false g v) a0 a1 []=some v) (h:Hp):Z2H [a0,a1] h=some (v,h):=by
 have e:(Z6H (nrms [.o, .o] [a0,a1]) []).bind (fun (p:AV × Hp)=>cvt false p.2 p.1)=some v:=(ZlQ (fun v g=>cvt false g v) a0 a1 []).trans hv
 exact (Z0e (shr:=[.o]) ha e h).trans (congrArg (fun x=>some (x,h)) (Z0J 1 v))
noncomputable def Z55:DTab:=(updD (updD D0 80 Z4k) 81 Z54)
theorem ZlS:DSound Try.prog Z55:=(DSound.ro (DSound.ro DSound.zero ZeO Z8L) ZeP Z8Q)
@[simp] theorem ZlT:Z55 80=some Z4k:=rfl
@[simp] theorem ZlU:Z55 81=some Z54:=rfl
noncomputable def Z56:Tab:=(updF (updF T0 80 Z2G) 81 Z2H)
theorem ZlV:TSound Try.prog Z56:=(TSound.upd (TSound.upd TSound.zero Z8L) Z8Q)
@[simp] theorem ZsQ:Z56 80=some Z2G:=rfl
@[simp] theorem ZsR:Z56 81=some Z2H:=rfl
noncomputable def Z8R:Fun:=runF Try.prog Z56 Z55 NN [0,1,2,3,4] Try.f53 2
theorem ZlW:CSound Try.prog 53 Z8R:=Z04 ZlV ZlS mixed Try.func53 (by kernel_rfl) NN
theorem ZlX {β:Type} (K:AV→Hp→Option β) (a0:AV) (a1:AV) (h:Hp):(Z8R [a0,a1] h).bind (fun p=>K p.1 p.2)=Z82 Try.prog Z56 Z55 NN K a0 a1 h:=by
 rw [← Zjz];exact Z05 rfl
noncomputable def Z1M:Fun:=closedX [.o, .o] [.o] Z8R
theorem Zbd:CSound Try.prog 53 Z1M:=Z0c _ _ ZlW
theorem ZlY {a0:AV} {a1:AV} {v:AV} (ha:plains [a0,a1]=true) (hv:Z82 Try.prog Z56 Z55 NN (fun v g=>cvt false g v) a0 a1 []=some v) (h:Hp):Z1M [a0,a1] h=some (v,h):=by
 have e:(Z8R (nrms [.o, .o] [a0,a1]) []).bind (fun (p:AV × Hp)=>cvt false p.2 p.1)=some v:=(ZlX (fun v g=>cvt false g v) a0 a1 []).trans hv
 exact (Z0e (shr:=[.o]) ha e h).trans (congrArg (fun x=>some (x,h)) (Z0J 1 v))
noncomputable def Z8S:DTab:=D0
theorem ZlZ:DSound Try.prog Z8S:=DSound.zero
noncomputable def Z8T:Tab:=T0
theorem Zm0:TSound Try.prog Z8T:=TSound.zero
noncomputable def Z8U:Fun:=runF Try.prog Z8T Z8S NN [0,2] Try.f96 1
theorem Zm1:CSound Try.prog 96 Z8U:=Z04 Zm0 ZlZ mixed Try.func96 (by kernel_rfl) NN
theorem Zm2 {β:Type} (K:AV→Hp→Option β) (a0:AV) (h:Hp):(Z8U [a0] h).bind (fun p=>K p.1 p.2)=Z8D Try.prog Z8T Z8S NN K a0 h:=by
 rw [← ZkV];exact Z05 rfl
noncomputable def Z6I:Fun:=closedX [.o] [.o] Z8U
theorem Zm3:CSound Try.prog 96 Z6I:=Z0c _ _ Zm1
theorem Zm4 {a0:AV} {v:AV} (ha:plains [a0]=true) (hv:Z8D Try.prog Z8T Z8S NN (fun v g=>cvt false g v) a0 []=some v) (h:Hp):Z6I [a0] h=some (v,h):=by
 have e:(Z8U (nrms [.o] [a0]) []).bind (fun (p:AV × Hp)=>cvt false p.2 p.1)=some v:=(Zm2 (fun v g=>cvt false g v) a0 []).trans hv
 exact (Z0e (shr:=[.o]) ha e h).trans (congrArg (fun x=>some (x,h)) (Z0J 1 v))
noncomputable def Z8V:DTab:=D0
theorem Zm5:DSound Try.prog Z8V:=DSound.zero
noncomputable def Z6J:Tab:=(updF T0 96 Z6I)
theorem Zm6:TSound Try.prog Z6J:=(TSound.upd TSound.zero Zm3)
@[simp] theorem Zbe:Z6J 96=some Z6I:=rfl
noncomputable def Z8W:Fun:=runF Try.prog Z6J Z8V NN [0,1,2,3,4,32,41,42,78,99,118] Try.f76 1
theorem Zm7:CSound Try.prog 76 Z8W:=Z04 Zm6 Zm5 mixed Try.func76 (by kernel_rfl) NN
theorem Zm8 {β:Type} (K:AV→Hp→Option β) (a0:AV) (h:Hp):(Z8W [a0] h).bind (fun p=>K p.1 p.2)=Z8l Try.prog Z6J Z8V NN K a0 h:=by
 rw [← Zke];exact Z05 rfl
noncomputable def Z1x:Fun:=closedX [.o] [.o] Z8W
theorem Zbf:CSound Try.prog 76 Z1x:=Z0c _ _ Zm7
theorem Zm9 {a0:AV} {v:AV} (ha:plains [a0]=true) (hv:Z8l Try.prog Z6J Z8V NN (fun v g=>cvt false g v) a0 []=some v) (h:Hp):Z1x [a0] h=some (v,h):=by
 have e:(Z8W (nrms [.o] [a0]) []).bind (fun (p:AV × Hp)=>cvt false p.2 p.1)=some v:=(Zm8 (fun v g=>cvt false g v) a0 []).trans hv
 exact (Z0e (shr:=[.o]) ha e h).trans (congrArg (fun x=>some (x,h)) (Z0J 1 v))
noncomputable def Z8X:DTab:=D0
theorem Zma:DSound Try.prog Z8X:=DSound.zero
noncomputable def Z6K:Tab:=(updF T0 76 Z1x)
theorem Zmb:TSound Try.prog Z6K:=(TSound.upd TSound.zero Zbf)
@[simp] theorem Zmc:Z6K 76=some Z1x:=rfl
noncomputable def Z8Y:Fun:=runF Try.prog Z6K Z8X NN [0,1,2] Try.f82 1
theorem Zmd:CSound Try.prog 82 Z8Y:=Z04 Zmb Zma mixed Try.func82 (by kernel_rfl) NN
theorem Zme {β:Type} (K:AV→Hp→Option β) (a0:AV) (h:Hp):(Z8Y [a0] h).bind (fun p=>K p.1 p.2)=Z8p Try.prog Z6K Z8X NN K a0 h:=by
 rw [← Zkr];exact Z05 rfl
noncomputable def Z4l:Fun:=closedX [.o] [.o] Z8Y
theorem ZeQ:CSound Try.prog 82 Z4l:=Z0c _ _ Zmd
theorem Zmf {a0:AV} {v:AV} (ha:plains [a0]=true) (hv:Z8p Try.prog Z6K Z8X NN (fun v g=>cvt false g v) a0 []=some v) (h:Hp):Z4l [a0] h=some (v,h):=by
 have e:(Z8Y (nrms [.o] [a0]) []).bind (fun (p:AV × Hp)=>cvt false p.2 p.1)=some v:=(Zme (fun v g=>cvt false g v) a0 []).trans hv
 exact (Z0e (shr:=[.o]) ha e h).trans (congrArg (fun x=>some (x,h)) (Z0J 1 v))
noncomputable def Z8Z:DTab:=D0
theorem Zmg:DSound Try.prog Z8Z:=DSound.zero
noncomputable def Z6L:Tab:=(updF T0 82 Z4l)
theorem Zmh:TSound Try.prog Z6L:=(TSound.upd TSound.zero ZeQ)
@[simp] theorem ZsS:Z6L 82=some Z4l:=rfl
noncomputable def Z90:Fun:=runF Try.prog Z6L Z8Z NN [0,1,4,5,7,8,9,16] Try.f62 2
theorem Zmi:CSound Try.prog 62 Z90:=Z04 Zmh Zmg mixed Try.func62 (by kernel_rfl) NN
theorem Zmj {β:Type} (K:AV→Hp→Option β) (a0:AV) (a1:AV) (h:Hp):(Z90 [a0,a1] h).bind (fun p=>K p.1 p.2)=Z2m Try.prog Z6L Z8Z NN K a0 a1 h:=by
 rw [← Ze2];exact Z05 rfl
noncomputable def Z6M:Fun:=closedX [.l 7, .o] [.o] Z90
theorem Zmk:CSound Try.prog 62 Z6M:=Z0c _ _ Zmi
theorem Zml {a0:AV} {a1:AV} {v:AV} (ha:plains [a0,a1]=true) (hv:Z2m Try.prog Z6L Z8Z NN (fun v g=>cvt false g v) (nrm (.l 7) a0) a1 []=some v) (h:Hp):Z6M [a0,a1] h=some (v,h):=by
 have e:(Z90 (nrms [.l 7, .o] [a0,a1]) []).bind (fun (p:AV × Hp)=>cvt false p.2 p.1)=some v:=(Zmj (fun v g=>cvt false g v) (nrm (.l 7) a0) a1 []).trans hv
 exact (Z0e (shr:=[.o]) ha e h).trans (congrArg (fun x=>some (x,h)) (Z0J 1 v))
noncomputable def Z91:DTab:=D0
theorem Zmm:DSound Try.prog Z91:=DSound.zero
noncomputable def Z6N:Tab:=(updF T0 62 Z6M)
theorem Zmn:TSound Try.prog Z6N:=(TSound.upd TSound.zero Zmk)
@[simp] theorem Zmo:Z6N 62=some Z6M:=rfl
noncomputable def Z92:Fun:=runF Try.prog Z6N Z91 NN [0,1,4] Try.f24 2
theorem Zmp:CSound Try.prog 24 Z92:=Z04 Zmn Zmm mixed Try.func24 (by kernel_rfl) NN
theorem Zmq {β:Type} (K:AV→Hp→Option β) (a0:AV) (a1:AV) (h:Hp):(Z92 [a0,a1] h).bind (fun p=>K p.1 p.2)=Z4f Try.prog Z6N Z91 NN K a0 a1 h:=by
 rw [← ZdF];exact Z05 rfl
noncomputable def Z6O:Fun:=closedX [.l 7, .o] [.o] Z92
theorem Zmr:CSound Try.prog 24 Z6O:=Z0c _ _ Zmp
theorem Zms {a0:AV} {a1:AV} {v:AV} (ha:plains [a0,a1]=true) (hv:Z4f Try.prog Z6N Z91 NN (fun v g=>cvt false g v) (nrm (.l 7) a0) a1 []=some v) (h:Hp):Z6O [a0,a1] h=some (v,h):=by
 have e:(Z92 (nrms [.l 7, .o] [a0,a1]) []).bind (fun (p:AV × Hp)=>cvt false p.2 p.1)=some v:=(Zmq (fun v g=>cvt false g v) (nrm (.l 7) a0) a1 []).trans hv
 exact (Z0e (shr:=[.o]) ha e h).trans (congrArg (fun x=>some (x,h)) (Z0J 1 v))
noncomputable def Z57:DTab:=D0
theorem Zmt:DSound Try.prog Z57:=DSound.zero
noncomputable def Z58:Tab:=T0
theorem Zmu:TSound Try.prog Z58:=TSound.zero
noncomputable def Z0Z:Fun:=runF Try.prog Z58 Z57 NN [0,2,4] Try.f51 1
theorem Z93:CSound Try.prog 51 Z0Z:=Z04 Zmu Zmt mixed Try.func51 (by kernel_rfl) NN
theorem Zbg {β:Type} (K:AV→Hp→Option β) (a0:AV) (h:Hp):(Z0Z [a0] h).bind (fun p=>K p.1 p.2)=Z4g Try.prog Z58 Z57 NN K a0 h:=by
 rw [← Zjx];exact Z05 rfl
theorem Zmv (a0:AV) (h:Hp):Z0Z [a0] h=Z4g Try.prog Z58 Z57 NN (fun v h=>some (v,h)) a0 h:=(Z0V _).symm.trans (Zbg (fun v h=>some (v,h)) a0 h)
noncomputable def Z4m:Fun:=closedX [.l 7] [.l 7] Z0Z
theorem ZeR:CSound Try.prog 51 Z4m:=Z0c _ _ Z93
noncomputable def Z94:DFun:=closedXD [.l 7] [.l 7] Z0Z
theorem Zmw:Ro Z4m Z94:=Z1W _ _ _
theorem Zmx {a0:AV} {v:AV} (ha:plains [a0]=true) (hv:Z4g Try.prog Z58 Z57 NN (fun v g=>cvt false g v) (nrm (.l 7) a0) []=some v) (h:Hp):Z4m [a0] h=some ((nrmR [.l 7] v),h):=by
 have e:(Z0Z (nrms [.l 7] [a0]) []).bind (fun (p:AV × Hp)=>cvt false p.2 p.1)=some v:=(Zbg (fun v g=>cvt false g v) (nrm (.l 7) a0) []).trans hv
 exact (Z0e (shr:=[.l 7]) ha e h).trans (congrArg (fun x=>some (x,h)) rfl)
noncomputable def Z59:DTab:=(updD (updD D0 80 Z4k) 81 Z54)
theorem Zmy:DSound Try.prog Z59:=(DSound.ro (DSound.ro DSound.zero ZeO Z8L) ZeP Z8Q)
@[simp] theorem Zmz:Z59 80=some Z4k:=rfl
@[simp] theorem ZmA:Z59 81=some Z54:=rfl
noncomputable def Z5a:Tab:=(updF (updF T0 80 Z2G) 81 Z2H)
theorem ZmB:TSound Try.prog Z5a:=(TSound.upd (TSound.upd TSound.zero Z8L) Z8Q)
@[simp] theorem ZsT:Z5a 80=some Z2G:=rfl
@[simp] theorem ZsU:Z5a 81=some Z2H:=rfl
noncomputable def Z95:Fun:=runF Try.prog Z5a Z59 NN [0,1,2,3,4] Try.f84 2
theorem ZmC:CSound Try.prog 84 Z95:=Z04 ZmB Zmy mixed Try.func84 (by kernel_rfl) NN
theorem ZmD {β:Type} (K:AV→Hp→Option β) (a0:AV) (a1:AV) (h:Hp):(Z95 [a0,a1] h).bind (fun p=>K p.1 p.2)=Z8q Try.prog Z5a Z59 NN K a0 a1 h:=by
 rw [← Zks];exact Z05 rfl
noncomputable def Z4n:Fun:=closedX [.o, .o] [.o] Z95
theorem ZeS:CSound Try.prog 84 Z4n:=Z0c _ _ ZmC
theorem ZmE {a0:AV} {a1:AV} {v:AV} (ha:plains [a0,a1]=true) (hv:Z8q Try.prog Z5a Z59 NN (fun v g=>cvt false g v) a0 a1 []=some v) (h:Hp):Z4n [a0,a1] h=some (v,h):=by
 have e:(Z95 (nrms [.o, .o] [a0,a1]) []).bind (fun (p:AV × Hp)=>cvt false p.2 p.1)=some v:=(ZmD (fun v g=>cvt false g v) a0 a1 []).trans hv
 exact (Z0e (shr:=[.o]) ha e h).trans (congrArg (fun x=>some (x,h)) (Z0J 1 v))
noncomputable def Z6P:Fun:=sortF 7 okI 84 Z4n
theorem ZmF:CSound Try.prog 83 Z6P:=Zlm (ρ:=Try.sort83_ren) Try.sort83 Try.isAgg27 Try.sizeOf27 ⟨Try.f83,Try.func83,by kernel_rfl,by kernel_rfl⟩ (by decide) ZeS ⟨Try.f84,Try.func84,by kernel_rfl,by kernel_rfl⟩
noncomputable def Z5b:DTab:=D0
theorem ZmG:DSound Try.prog Z5b:=DSound.zero
noncomputable def Z5c:Tab:=T0
theorem ZmH:TSound Try.prog Z5c:=TSound.zero
noncomputable def Z4o:Fun:=runF Try.prog Z5c Z5b NN [0,2,3,4,5,8,13,25,32,44] Try.f85 1
theorem ZmI:CSound Try.prog 85 Z4o:=Z04 ZmH ZmG mixed Try.func85 (by kernel_rfl) NN
theorem ZmJ {β:Type} (K:AV→Hp→Option β) (a0:AV) (h:Hp):(Z4o [a0] h).bind (fun p=>K p.1 p.2)=Z4i Try.prog Z5c Z5b NN K a0 h:=by
 rw [← ZkB];exact Z05 rfl
theorem ZeT (a0:AV) (h:Hp):Z4o [a0] h=Z4i Try.prog Z5c Z5b NN (fun v h=>some (v,h)) a0 h:=(Z0V _).symm.trans (ZmJ (fun v h=>some (v,h)) a0 h)
noncomputable def Z6Q:DTab:=D0
theorem ZmK:DSound Try.prog Z6Q:=DSound.zero
noncomputable def Z1r:Tab:=(updF (updF (updF (updF (updF (updF T0 24 Z6O) 51 Z0Z) 82 Z4l) 83 Z6P) 84 Z4n) 85 Z4o)
theorem ZmL:TSound Try.prog Z1r:=(TSound.upd (TSound.upd (TSound.upd (TSound.upd (TSound.upd (TSound.upd TSound.zero Zmr) Z93) ZeQ) ZmF) ZeS) ZmI)
@[simp] theorem ZeU:Z1r 24=some Z6O:=rfl
@[simp] theorem ZmM:Z1r 51=some Z0Z:=rfl
@[simp] theorem ZsV:Z1r 82=some Z4l:=rfl
@[simp] theorem ZmN:Z1r 83=some Z6P:=rfl
@[simp] theorem ZsW:Z1r 84=some Z4n:=rfl
@[simp] theorem ZmO:Z1r 85=some Z4o:=rfl
noncomputable def Z96:Fun:=runF Try.prog Z1r Z6Q NN [0,2,3,4,7,9] Try.f54 1
theorem ZmP:CSound Try.prog 54 Z96:=Z04 ZmL ZmK mixed Try.func54 (by kernel_rfl) NN
theorem ZmQ {β:Type} (K:AV→Hp→Option β) (a0:AV) (h:Hp):(Z96 [a0] h).bind (fun p=>K p.1 p.2)=Z4h Try.prog Z1r Z6Q NN K a0 h:=by
 rw [← ZjA];exact Z05 rfl
noncomputable def Z4p:Fun:=closedX [.l 7] [.l 7, .o] Z96
theorem ZeV:CSound Try.prog 54 Z4p:=Z0c _ _ ZmP
theorem ZmR {a0:AV} {x0:AV} {h:Hp} {v:AV} (ha:cvts false h [x0]=some [a0]) (hv:∀st,Z4h Try.prog Z1r Z6Q NN (fun v g=>cvt st g v) (nrm (.l 7) a0) []=some v):Z4p [x0] h=some ((nrmR [.l 7, .o] v),h):=by
 have e:∀st,(Z96 (nrms [.l 7] [a0]) []).bind (fun (p:AV × Hp)=>cvt st p.2 p.1)=some v:=fun st=>(ZmQ (fun v g=>cvt st g v) (nrm (.l 7) a0) []).trans (hv st)
 exact (Zdt (shr:=[.l 7, .o]) ha e).trans (congrArg (fun x=>some (x,h)) rfl)
noncomputable def Z5d:DTab:=D0
theorem ZmS:DSound Try.prog Z5d:=DSound.zero
noncomputable def Z5e:Tab:=T0
theorem ZmT:TSound Try.prog Z5e:=TSound.zero
noncomputable def Z97:Fun:=runF Try.prog Z5e Z5d NN [0,1,4,5,10,12,13,14,24] Try.f58 2
theorem ZmU:CSound Try.prog 58 Z97:=Z04 ZmT ZmS mixed Try.func58 (by kernel_rfl) NN
theorem ZmV {β:Type} (K:AV→Hp→Option β) (a0:AV) (a1:AV) (h:Hp):(Z97 [a0,a1] h).bind (fun p=>K p.1 p.2)=Z4R Try.prog Z5e Z5d NN K a0 a1 h:=by
 rw [← ZjF];exact Z05 rfl
noncomputable def Z4q:Fun:=closedX [.l 7, .l 7] [.o] Z97
theorem ZeW:CSound Try.prog 58 Z4q:=Z0c _ _ ZmU
theorem ZmW {a0:AV} {a1:AV} {v:AV} (ha:plains [a0,a1]=true) (hv:Z4R Try.prog Z5e Z5d NN (fun v g=>cvt false g v) (nrm (.l 7) a0) (nrm (.l 7) a1) []=some v) (h:Hp):Z4q [a0,a1] h=some (v,h):=by
 have e:(Z97 (nrms [.l 7, .l 7] [a0,a1]) []).bind (fun (p:AV × Hp)=>cvt false p.2 p.1)=some v:=(ZmV (fun v g=>cvt false g v) (nrm (.l 7) a0) (nrm (.l 7) a1) []).trans hv
 exact (Z0e (shr:=[.o]) ha e h).trans (congrArg (fun x=>some (x,h)) (Z0J 1 v))
noncomputable def Z4r:DTab:=D0
theorem ZmX:DSound Try.prog Z4r:=DSound.zero
noncomputable def Z1i:Tab:=(updF (updF (updF (updF T0 47 Z4j) 53 Z1M) 54 Z4p) 58 Z4q)
theorem ZmY:TSound Try.prog Z1i:=(TSound.upd (TSound.upd (TSound.upd (TSound.upd TSound.zero ZeL) Zbd) ZeV) ZeW)
@[simp] theorem ZeX:Z1i 47=some Z4j:=rfl
@[simp] theorem ZmZ:Z1i 53=some Z1M:=rfl
@[simp] theorem Zn0:Z1i 54=some Z4p:=rfl
@[simp] theorem Zn1:Z1i 58=some Z4q:=rfl
noncomputable def Z98:Fun:=runF Try.prog Z1i Z4r NN [0,1,2,3,4,5,6,7,12,24,25,26,27,31,46,52,73,83] Try.f16 1
theorem Zn2:CSound Try.prog 16 Z98:=Z04 ZmY ZmX mixed Try.func16 (by kernel_rfl) NN
theorem Zn3 {β:Type} (K:AV→Hp→Option β) (a0:AV) (h:Hp):(Z98 [a0] h).bind (fun p=>K p.1 p.2)=Z69 Try.prog Z1i Z4r NN K a0 h:=by
 rw [← Zj5];exact Z05 rfl
noncomputable def Z11:Fun:=closedX [.a [none,some 2,some 7]] [.o] Z98
theorem Z6R:CSound Try.prog 16 Z11:=Z0c _ _ Zn2
theorem Zn4 {a0:AV} {v:AV} (ha:plains [a0]=true) (hv:Z69 Try.prog Z1i Z4r NN (fun v g=>cvt false g v) (nrm (.a [none,some 2,some 7]) a0) []=some v) (h:Hp):Z11 [a0] h=some (v,h):=by
 have e:(Z98 (nrms [.a [none,some 2,some 7]] [a0]) []).bind (fun (p:AV × Hp)=>cvt false p.2 p.1)=some v:=(Zn3 (fun v g=>cvt false g v) (nrm (.a [none,some 2,some 7]) a0) []).trans hv
 exact (Z0e (shr:=[.o]) ha e h).trans (congrArg (fun x=>some (x,h)) (Z0J 1 v))
noncomputable def Z99:DTab:=D0
theorem Zn5:DSound Try.prog Z99:=DSound.zero
noncomputable def Z5f:Tab:=(updF (updF T0 16 Z11) 58 Z4q)
theorem Zn6:TSound Try.prog Z5f:=(TSound.upd (TSound.upd TSound.zero Z6R) ZeW)
@[simp] theorem Zn7:Z5f 16=some Z11:=rfl
@[simp] theorem Zn8:Z5f 58=some Z4q:=rfl
noncomputable def Z9a:Fun:=runF Try.prog Z5f Z99 NN [0,1,2,3,4] Try.f19 2
theorem Zn9:CSound Try.prog 19 Z9a:=Z04 Zn6 Zn5 mixed Try.func19 (by kernel_rfl) NN
theorem Zna {β:Type} (K:AV→Hp→Option β) (a0:AV) (a1:AV) (h:Hp):(Z9a [a0,a1] h).bind (fun p=>K p.1 p.2)=Z7Q Try.prog Z5f Z99 NN K a0 a1 h:=by
 rw [← Zjb];exact Z05 rfl
noncomputable def Z6S:Fun:=closedX [.a [none,some 2,some 7], .a [none,some 2,some 7]] [.o] Z9a
theorem Znb:CSound Try.prog 19 Z6S:=Z0c _ _ Zn9
theorem Znc {a0:AV} {a1:AV} {v:AV} (ha:plains [a0,a1]=true) (hv:Z7Q Try.prog Z5f Z99 NN (fun v g=>cvt false g v) (nrm (.a [none,some 2,some 7]) a0) (nrm (.a [none,some 2,some 7]) a1) []=some v) (h:Hp):Z6S [a0,a1] h=some (v,h):=by
 have e:(Z9a (nrms [.a [none,some 2,some 7], .a [none,some 2,some 7]] [a0,a1]) []).bind (fun (p:AV × Hp)=>cvt false p.2 p.1)=some v:=(Zna (fun v g=>cvt false g v) (nrm (.a [none,some 2,some 7]) a0) (nrm (.a [none,some 2,some 7]) a1) []).trans hv
 exact (Z0e (shr:=[.o]) ha e h).trans (congrArg (fun x=>some (x,h)) (Z0J 1 v))
noncomputable def Z5g:DTab:=D0
theorem Znd:DSound Try.prog Z5g:=DSound.zero
noncomputable def Z5h:Tab:=T0
theorem Zne:TSound Try.prog Z5h:=TSound.zero
noncomputable def Z9b:Fun:=runF Try.prog Z5h Z5g NN [0,1,3,4,5,7,8,9,16] Try.f60 2
theorem Znf:CSound Try.prog 60 Z9b:=Z04 Zne Znd mixed Try.func60 (by kernel_rfl) NN
theorem Zng {β:Type} (K:AV→Hp→Option β) (a0:AV) (a1:AV) (h:Hp):(Z9b [a0,a1] h).bind (fun p=>K p.1 p.2)=Z6j Try.prog Z5h Z5g NN K a0 a1 h:=by
 rw [← ZjP];exact Z05 rfl
noncomputable def Z6T:Fun:=closedX [.l 2, .o] [.o] Z9b
theorem Znh:CSound Try.prog 60 Z6T:=Z0c _ _ Znf
theorem Zni {a0:AV} {a1:AV} {v:AV} (ha:plains [a0,a1]=true) (hv:Z6j Try.prog Z5h Z5g NN (fun v g=>cvt false g v) (nrm (.l 2) a0) a1 []=some v) (h:Hp):Z6T [a0,a1] h=some (v,h):=by
 have e:(Z9b (nrms [.l 2, .o] [a0,a1]) []).bind (fun (p:AV × Hp)=>cvt false p.2 p.1)=some v:=(Zng (fun v g=>cvt false g v) (nrm (.l 2) a0) a1 []).trans hv
 exact (Z0e (shr:=[.o]) ha e h).trans (congrArg (fun x=>some (x,h)) (Z0J 1 v))
noncomputable def Z9c:DTab:=D0
theorem Znj:DSound Try.prog Z9c:=DSound.zero
noncomputable def Z6U:Tab:=(updF T0 60 Z6T)
theorem Znk:TSound Try.prog Z6U:=(TSound.upd TSound.zero Znh)
@[simp] theorem Znl:Z6U 60=some Z6T:=rfl
noncomputable def Z9d:Fun:=runF Try.prog Z6U Z9c NN [0,1,3,4] Try.f22 2
theorem Znm:CSound Try.prog 22 Z9d:=Z04 Znk Znj mixed Try.func22 (by kernel_rfl) NN
theorem Znn {β:Type} (K:AV→Hp→Option β) (a0:AV) (a1:AV) (h:Hp):(Z9d [a0,a1] h).bind (fun p=>K p.1 p.2)=Z7S Try.prog Z6U Z9c NN K a0 a1 h:=by
 rw [← Zjd];exact Z05 rfl
noncomputable def Z4s:Fun:=closedX [.l 2, .o] [.o] Z9d
theorem ZeY:CSound Try.prog 22 Z4s:=Z0c _ _ Znm
theorem Zno {a0:AV} {a1:AV} {v:AV} (ha:plains [a0,a1]=true) (hv:Z7S Try.prog Z6U Z9c NN (fun v g=>cvt false g v) (nrm (.l 2) a0) a1 []=some v) (h:Hp):Z4s [a0,a1] h=some (v,h):=by
 have e:(Z9d (nrms [.l 2, .o] [a0,a1]) []).bind (fun (p:AV × Hp)=>cvt false p.2 p.1)=some v:=(Znn (fun v g=>cvt false g v) (nrm (.l 2) a0) a1 []).trans hv
 exact (Z0e (shr:=[.o]) ha e h).trans (congrArg (fun x=>some (x,h)) (Z0J 1 v))
noncomputable def Z5i:DTab:=D0
theorem Znp:DSound Try.prog Z5i:=DSound.zero
noncomputable def Z5j:Tab:=T0
theorem Znq:TSound Try.prog Z5j:=TSound.zero
noncomputable def Z9e:Fun:=runF Try.prog Z5j Z5i NN [0,1,3,4,5,7,8,9,16] Try.f61 2
theorem Znr:CSound Try.prog 61 Z9e:=Z04 Znq Znp mixed Try.func61 (by kernel_rfl) NN
theorem Zns {β:Type} (K:AV→Hp→Option β) (a0:AV) (a1:AV) (h:Hp):(Z9e [a0,a1] h).bind (fun p=>K p.1 p.2)=Z6k Try.prog Z5j Z5i NN K a0 a1 h:=by
 rw [← ZjU];exact Z05 rfl
noncomputable def Z6V:Fun:=closedX [.l 7, .o] [.o] Z9e
theorem Znt:CSound Try.prog 61 Z6V:=Z0c _ _ Znr
theorem Znu {a0:AV} {a1:AV} {v:AV} (ha:plains [a0,a1]=true) (hv:Z6k Try.prog Z5j Z5i NN (fun v g=>cvt false g v) (nrm (.l 7) a0) a1 []=some v) (h:Hp):Z6V [a0,a1] h=some (v,h):=by
 have e:(Z9e (nrms [.l 7, .o] [a0,a1]) []).bind (fun (p:AV × Hp)=>cvt false p.2 p.1)=some v:=(Zns (fun v g=>cvt false g v) (nrm (.l 7) a0) a1 []).trans hv
 exact (Z0e (shr:=[.o]) ha e h).trans (congrArg (fun x=>some (x,h)) (Z0J 1 v))
noncomputable def Z9f:DTab:=D0
theorem Znv:DSound Try.prog Z9f:=DSound.zero
noncomputable def Z6W:Tab:=(updF T0 61 Z6V)
theorem Znw:TSound Try.prog Z6W:=(TSound.upd TSound.zero Znt)
@[simp] theorem Znx:Z6W 61=some Z6V:=rfl
noncomputable def Z9g:Fun:=runF Try.prog Z6W Z9f NN [0,1,3,4] Try.f23 2
theorem Zny:CSound Try.prog 23 Z9g:=Z04 Znw Znv mixed Try.func23 (by kernel_rfl) NN
theorem Znz {β:Type} (K:AV→Hp→Option β) (a0:AV) (a1:AV) (h:Hp):(Z9g [a0,a1] h).bind (fun p=>K p.1 p.2)=Z7T Try.prog Z6W Z9f NN K a0 a1 h:=by
 rw [← Zje];exact Z05 rfl
noncomputable def Z1y:Fun:=closedX [.l 7, .o] [.o] Z9g
theorem Zbh:CSound Try.prog 23 Z1y:=Z0c _ _ Zny
theorem ZnA {a0:AV} {a1:AV} {v:AV} (ha:plains [a0,a1]=true) (hv:Z7T Try.prog Z6W Z9f NN (fun v g=>cvt false g v) (nrm (.l 7) a0) a1 []=some v) (h:Hp):Z1y [a0,a1] h=some (v,h):=by
 have e:(Z9g (nrms [.l 7, .o] [a0,a1]) []).bind (fun (p:AV × Hp)=>cvt false p.2 p.1)=some v:=(Znz (fun v g=>cvt false g v) (nrm (.l 7) a0) a1 []).trans hv
 exact (Z0e (shr:=[.o]) ha e h).trans (congrArg (fun x=>some (x,h)) (Z0J 1 v))
noncomputable def Z9h:DTab:=D0
theorem ZnB:DSound Try.prog Z9h:=DSound.zero
noncomputable def Z6X:Tab:=(updF T0 76 Z1x)
theorem ZnC:TSound Try.prog Z6X:=(TSound.upd TSound.zero Zbf)
@[simp] theorem ZsX:Z6X 76=some Z1x:=rfl
noncomputable def Z9i:Fun:=runF Try.prog Z6X Z9h NN [0,2,3,4,5,6,9,11,12,13,14,18,48,55,61] Try.f49 1
theorem ZnD:CSound Try.prog 49 Z9i:=Z04 ZnC ZnB mixed Try.func49 (by kernel_rfl) NN
theorem ZnE {β:Type} (K:AV→Hp→Option β) (a0:AV) (h:Hp):(Z9i [a0] h).bind (fun p=>K p.1 p.2)=Z6f Try.prog Z6X Z9h NN K a0 h:=by
 rw [← Zjv];exact Z05 rfl
noncomputable def Z2I:Fun:=closedX [.l 10] [.o, .o] Z9i
theorem ZeZ:CSound Try.prog 49 Z2I:=Z0c _ _ ZnD
theorem ZnF {a0:AV} {v:AV} (ha:plains [a0]=true) (hv:Z6f Try.prog Z6X Z9h NN (fun v g=>cvt false g v) (nrm (.l 10) a0) []=some v) (h:Hp):Z2I [a0] h=some (v,h):=by
 have e:(Z9i (nrms [.l 10] [a0]) []).bind (fun (p:AV × Hp)=>cvt false p.2 p.1)=some v:=(ZnE (fun v g=>cvt false g v) (nrm (.l 10) a0) []).trans hv
 exact (Z0e (shr:=[.o, .o]) ha e h).trans (congrArg (fun x=>some (x,h)) (Z0J 2 v))
noncomputable def Z6Y:DTab:=D0
theorem ZnG:DSound Try.prog Z6Y:=DSound.zero
noncomputable def Z6Z:Tab:=T0
theorem ZnH:TSound Try.prog Z6Z:=TSound.zero
noncomputable def Z12:Fun:=runF Try.prog Z6Z Z6Y NN [0,2,4] Try.f50 1
theorem Zbi:CSound Try.prog 50 Z12:=Z04 ZnH ZnG mixed Try.func50 (by kernel_rfl) NN
theorem Zf0 {β:Type} (K:AV→Hp→Option β) (a0:AV) (h:Hp):(Z12 [a0] h).bind (fun p=>K p.1 p.2)=Z2b Try.prog Z6Z Z6Y NN K a0 h:=by
 rw [← Zjw];exact Z05 rfl
theorem ZnI (a0:AV) (h:Hp):Z12 [a0] h=Z2b Try.prog Z6Z Z6Y NN (fun v h=>some (v,h)) a0 h:=(Z0V _).symm.trans (Zf0 (fun v h=>some (v,h)) a0 h)
noncomputable def Z1N:Fun:=closedX [.l 2] [.l 2] Z12
theorem Z9j:CSound Try.prog 50 Z1N:=Z0c _ _ Zbi
noncomputable def Z4t:DFun:=closedXD [.l 2] [.l 2] Z12
theorem Zf1:Ro Z1N Z4t:=Z1W _ _ _
theorem ZnJ {a0:AV} {v:AV} (ha:plains [a0]=true) (hv:Z2b Try.prog Z6Z Z6Y NN (fun v g=>cvt false g v) (nrm (.l 2) a0) []=some v) (h:Hp):Z1N [a0] h=some ((nrmR [.l 2] v),h):=by
 have e:(Z12 (nrms [.l 2] [a0]) []).bind (fun (p:AV × Hp)=>cvt false p.2 p.1)=some v:=(Zf0 (fun v g=>cvt false g v) (nrm (.l 2) a0) []).trans hv
 exact (Z0e (shr:=[.l 2]) ha e h).trans (congrArg (fun x=>some (x,h)) rfl)
noncomputable def Z2J:DTab:=D0
theorem ZnK:DSound Try.prog Z2J:=DSound.zero
noncomputable def Z18:Tab:=(updF T0 53 Z1M)
theorem ZnL:TSound Try.prog Z18:=(TSound.upd TSound.zero Zbd)
@[simp] theorem Zf2:Z18 53=some Z1M:=rfl
noncomputable def Z9k:Fun:=runF Try.prog Z18 Z2J NN [0,1,2,4,6,7,8,9,10,11,17,31] Try.f78 3
theorem ZnM:CSound Try.prog 78 Z9k:=Z04 ZnL ZnK mixed Try.func78 (by kernel_rfl) NN
theorem ZnN {β:Type} (K:AV→Hp→Option β) (a0:AV) (a1:AV) (a2:AV) (h:Hp):(Z9k [a0,a1,a2] h).bind (fun p=>K p.1 p.2)=Z4X Try.prog Z18 Z2J NN K a0 a1 a2 h:=by
 rw [← Zkk];exact Z05 rfl
noncomputable def Z70:Fun:=closedX [.l 2, .o, .o] [.o, .o] Z9k
theorem ZnO:CSound Try.prog 78 Z70:=Z0c _ _ ZnM
theorem Zf3 {a0:AV} {a1:AV} {a2:AV} {v:AV} (ha:plains [a0,a1,a2]=true) (hv:Z4X Try.prog Z18 Z2J NN (fun v g=>cvt false g v) (nrm (.l 2) a0) a1 a2 []=some v) (h:Hp):Z70 [a0,a1,a2] h=some (v,h):=by
 have e:(Z9k (nrms [.l 2, .o, .o] [a0,a1,a2]) []).bind (fun (p:AV × Hp)=>cvt false p.2 p.1)=some v:=(ZnN (fun v g=>cvt false g v) (nrm (.l 2) a0) a1 a2 []).trans hv
 exact (Z0e (shr:=[.o, .o]) ha e h).trans (congrArg (fun x=>some (x,h)) (Z0J 2 v))
def Zf4:Fun:=insF 2 16
theorem ZnP:CSound Try.prog 79 Zf4:=ZeB ZeE
def Zbj:Fun:=Zf4
theorem ZnQ:CSound Try.prog 79 Zbj:=ZnP
noncomputable def Z5k:DTab:=(updD (updD D0 50 (newD Z12)) 79 (insE 2 16))
theorem ZnR:DSound Try.prog Z5k:=(DSound.ins (DSound.new DSound.zero Zbi) ZeE)
@[simp] theorem Zf5:Z5k 50=some (newD Z12):=rfl
@[simp] theorem Zf6:Z5k 79=some (insE 2 16):=rfl
noncomputable def Z4u:Tab:=(updF (updF (updF T0 50 Z12) 78 Z70) 79 Zbj)
theorem ZnS:TSound Try.prog Z4u:=(TSound.upd (TSound.upd (TSound.upd TSound.zero Zbi) ZnO) ZnQ)
@[simp] theorem ZsY:Z4u 50=some Z12:=rfl
@[simp] theorem Zf7:Z4u 78=some Z70:=rfl
@[simp] theorem ZsZ:Z4u 79=some Zbj:=rfl
noncomputable def Z9l:Fun:=runF Try.prog Z4u Z5k NN [0,1,2,4,6,7] Try.f52 3
theorem ZnT:CSound Try.prog 52 Z9l:=Z04 ZnS ZnR mixed Try.func52 (by kernel_rfl) NN
theorem ZnU {β:Type} (K:AV→Hp→Option β) (a0:AV) (a1:AV) (a2:AV) (h:Hp):(Z9l [a0,a1,a2] h).bind (fun p=>K p.1 p.2)=Z6g Try.prog Z4u Z5k NN K a0 a1 a2 h:=by
 rw [← Zjy];exact Z05 rfl
noncomputable def Z71:Fun:=closedX [.l 2, .o, .o] [.l 2] Z9l
theorem ZnV:CSound Try.prog 52 Z71:=Z0c _ _ ZnT
theorem ZnW {a0:AV} {a1:AV} {a2:AV} {v:AV} (ha:plains [a0,a1,a2]=true) (hv:Z6g Try.prog Z4u Z5k NN (fun v g=>cvt false g v) (nrm (.l 2) a0) a1 a2 []=some v) (h:Hp):Z71 [a0,a1,a2] h=some ((nrmR [.l 2] v),h):=by
 have e:(Z9l (nrms [.l 2, .o, .o] [a0,a1,a2]) []).bind (fun (p:AV × Hp)=>cvt false p.2 p.1)=some v:=(ZnU (fun v g=>cvt false g v) (nrm (.l 2) a0) a1 a2 []).trans hv
 exact (Z0e (shr:=[.l 2]) ha e h).trans (congrArg (fun x=>some (x,h)) rfl)
noncomputable def Z5l:DTab:=(updD (updD D0 50 Z4t) 51 (newD Z0Z))
theorem ZnX:DSound Try.prog Z5l:=(DSound.new (DSound.ro DSound.zero Zf1 Z9j) Z93)
@[simp] theorem Z9m:Z5l 50=some Z4t:=rfl
@[simp] theorem Z9n:Z5l 51=some (newD Z0Z):=rfl
noncomputable def Z19:Tab:=(updF (updF (updF (updF (updF (updF (updF (updF (updF T0 16 Z11) 22 Z4s) 23 Z1y) 49 Z2I) 50 Z1N) 51 Z0Z) 52 Z71) 53 Z1M) 54 Z4p)
theorem ZnY:TSound Try.prog Z19:=(TSound.upd (TSound.upd (TSound.upd (TSound.upd (TSound.upd (TSound.upd (TSound.upd (TSound.upd (TSound.upd TSound.zero Z6R) ZeY) Zbh) ZeZ) Z9j) Z93) ZnV) Zbd) ZeV)
@[simp] theorem Z4v:Z19 16=some Z11:=rfl
@[simp] theorem Z9o:Z19 22=some Z4s:=rfl
@[simp] theorem Zbk:Z19 23=some Z1y:=rfl
@[simp] theorem Z5m:Z19 49=some Z2I:=rfl
@[simp] theorem Zt0:Z19 50=some Z1N:=rfl
@[simp] theorem Zt1:Z19 51=some Z0Z:=rfl
@[simp] theorem Zf8:Z19 52=some Z71:=rfl
@[simp] theorem Zt2:Z19 53=some Z1M:=rfl
@[simp] theorem ZnZ:Z19 54=some Z4p:=rfl
noncomputable def Z72:Fun:=runF Try.prog Z19 Z5l NN [0,1,2,3,4,5,6,7,8,9,11,12,13,22,32,40,55,76,84] Try.f13 2
theorem Zo0:CSound Try.prog 13 Z72:=Z04 ZnY ZnX mixed Try.func13 (by kernel_rfl) NN
theorem Zo1 {β:Type} (K:AV→Hp→Option β) (a0:AV) (a1:AV) (h:Hp):(Z72 [a0,a1] h).bind (fun p=>K p.1 p.2)=Z1w Try.prog Z19 Z5l NN K a0 a1 h:=by
 rw [← ZiZ];exact Z05 rfl
noncomputable def Z1s:Fun:=closedX [.a [none,some 2,some 7], .o] [.a [none,some 2,some 7], .o, .o, .o] Z72
theorem Zbl:CSound Try.prog 13 Z1s:=Z0c _ _ Zo0
noncomputable def Zbm:DFun:=closedXD [.a [none,some 2,some 7], .o] [.a [none,some 2,some 7], .o, .o, .o] Z72
theorem Zo2:Ro Z1s Zbm:=Z1W _ _ _
theorem Z4w {a0:AV} {a1:AV} {v:AV} (ha:plains [a0,a1]=true) (hv:Z1w Try.prog Z19 Z5l NN (fun v g=>cvt false g v) (nrm (.a [none,some 2,some 7]) a0) a1 []=some v) (h:Hp):Z1s [a0,a1] h=some ((nrmR [.a [none,some 2,some 7], .o, .o, .o] v),h):=by
 have e:(Z72 (nrms [.a [none,some 2,some 7], .o] [a0,a1]) []).bind (fun (p:AV × Hp)=>cvt false p.2 p.1)=some v:=(Zo1 (fun v g=>cvt false g v) (nrm (.a [none,some 2,some 7]) a0) a1 []).trans hv
 exact (Z0e (shr:=[.a [none,some 2,some 7], .o, .o, .o]) ha e h).trans (congrArg (fun x=>some (x,h)) rfl)
noncomputable def Z9p:DTab:=D0
theorem Zo3:DSound Try.prog Z9p:=DSound.zero
noncomputable def Z9q:Tab:=T0
theorem Zo4:TSound Try.prog Z9q:=TSound.zero
noncomputable def Z9r:Fun:=runF Try.prog Z9q Z9p NN [0,2] Try.f75 1
theorem Zo5:CSound Try.prog 75 Z9r:=Z04 Zo4 Zo3 mixed Try.func75 (by kernel_rfl) NN
theorem Zo6 {β:Type} (K:AV→Hp→Option β) (a0:AV) (h:Hp):(Z9r [a0] h).bind (fun p=>K p.1 p.2)=Z8k Try.prog Z9q Z9p NN K a0 h:=by
 rw [← Zkd];exact Z05 rfl
noncomputable def Z1t:Fun:=closedX [.o] [.o] Z9r
theorem Z9s:CSound Try.prog 75 Z1t:=Z0c _ _ Zo5
theorem Zo7 {a0:AV} {v:AV} (ha:plains [a0]=true) (hv:Z8k Try.prog Z9q Z9p NN (fun v g=>cvt false g v) a0 []=some v) (h:Hp):Z1t [a0] h=some (v,h):=by
 have e:(Z9r (nrms [.o] [a0]) []).bind (fun (p:AV × Hp)=>cvt false p.2 p.1)=some v:=(Zo6 (fun v g=>cvt false g v) a0 []).trans hv
 exact (Z0e (shr:=[.o]) ha e h).trans (congrArg (fun x=>some (x,h)) (Z0J 1 v))
noncomputable def Z4x:DTab:=D0
theorem Zo8:DSound Try.prog Z4x:=DSound.zero
noncomputable def Z1O:Tab:=(updF (updF T0 49 Z2I) 75 Z1t)
theorem Zo9:TSound Try.prog Z1O:=(TSound.upd (TSound.upd TSound.zero ZeZ) Z9s)
@[simp] theorem Zoa:Z1O 49=some Z2I:=rfl
@[simp] theorem Zob:Z1O 75=some Z1t:=rfl
noncomputable def Z9t:Fun:=runF Try.prog Z1O Z4x NN [0,1,2,3,4,6,7,22,28,29,30,31,41,45,51] Try.f64 1
theorem Zoc:CSound Try.prog 64 Z9t:=Z04 Zo9 Zo8 mixed Try.func64 (by kernel_rfl) NN
theorem Zod {β:Type} (K:AV→Hp→Option β) (a0:AV) (h:Hp):(Z9t [a0] h).bind (fun p=>K p.1 p.2)=Z6m Try.prog Z1O Z4x NN K a0 h:=by
 rw [← Zk3];exact Z05 rfl
noncomputable def Z1j:Fun:=closedX [.a [none,none,some 10]] [.o] Z9t
theorem Z9u:CSound Try.prog 64 Z1j:=Z0c _ _ Zoc
theorem Zoe {a0:AV} {v:AV} (ha:plains [a0]=true) (hv:Z6m Try.prog Z1O Z4x NN (fun v g=>cvt false g v) (nrm (.a [none,none,some 10]) a0) []=some v) (h:Hp):Z1j [a0] h=some (v,h):=by
 have e:(Z9t (nrms [.a [none,none,some 10]] [a0]) []).bind (fun (p:AV × Hp)=>cvt false p.2 p.1)=some v:=(Zod (fun v g=>cvt false g v) (nrm (.a [none,none,some 10]) a0) []).trans hv
 exact (Z0e (shr:=[.o]) ha e h).trans (congrArg (fun x=>some (x,h)) (Z0J 1 v))
noncomputable def Z73:DTab:=D0
theorem Zof:DSound Try.prog Z73:=DSound.zero
noncomputable def Z74:Tab:=T0
theorem Zog:TSound Try.prog Z74:=TSound.zero
noncomputable def Z1k:Fun:=runF Try.prog Z74 Z73 NN [0,2,4] Try.f66 1
theorem Zbn:CSound Try.prog 66 Z1k:=Z04 Zog Zof mixed Try.func66 (by kernel_rfl) NN
theorem Zf9 {β:Type} (K:AV→Hp→Option β) (a0:AV) (h:Hp):(Z1k [a0] h).bind (fun p=>K p.1 p.2)=Z2p Try.prog Z74 Z73 NN K a0 h:=by
 rw [← Zk5];exact Z05 rfl
theorem Zoh (a0:AV) (h:Hp):Z1k [a0] h=Z2p Try.prog Z74 Z73 NN (fun v h=>some (v,h)) a0 h:=(Z0V _).symm.trans (Zf9 (fun v h=>some (v,h)) a0 h)
noncomputable def Z4y:Fun:=closedX [.l 10] [.l 10] Z1k
theorem Zoi:CSound Try.prog 66 Z4y:=Z0c _ _ Zbn
theorem Zoj {a0:AV} {v:AV} (ha:plains [a0]=true) (hv:Z2p Try.prog Z74 Z73 NN (fun v g=>cvt false g v) (nrm (.l 10) a0) []=some v) (h:Hp):Z4y [a0] h=some ((nrmR [.l 10] v),h):=by
 have e:(Z1k (nrms [.l 10] [a0]) []).bind (fun (p:AV × Hp)=>cvt false p.2 p.1)=some v:=(Zf9 (fun v g=>cvt false g v) (nrm (.l 10) a0) []).trans hv
 exact (Z0e (shr:=[.l 10]) ha e h).trans (congrArg (fun x=>some (x,h)) rfl)
noncomputable def Z9v:DTab:=D0
theorem Zok:DSound Try.prog Z9v:=DSound.zero
noncomputable def Z9w:Tab:=T0
theorem Zol:TSound Try.prog Z9w:=TSound.zero
noncomputable def Z9x:Fun:=runF Try.prog Z9w Z9v NN [0,1,2,3] Try.f90 2
theorem Zom:CSound Try.prog 90 Z9x:=Z04 Zol Zok mixed Try.func90 (by kernel_rfl) NN
theorem Zon {β:Type} (K:AV→Hp→Option β) (a0:AV) (a1:AV) (h:Hp):(Z9x [a0,a1] h).bind (fun p=>K p.1 p.2)=Z8x Try.prog Z9w Z9v NN K a0 a1 h:=by
 rw [← ZkI];exact Z05 rfl
noncomputable def Z1P:Fun:=quietT Z9x
theorem Zbo:CSound Try.prog 90 Z1P:=Z1X Zom
theorem Zoo {a0:AV} {a1:AV} {h:Hp} {g:List AObj} {v:AV} (hv:Z8x Try.prog Z9w Z9v NN (fun v h=>some (v,h)) a0 a1 h=some (v,h++g)) (hp:plain v=true):Z1P [a0,a1] h=some (v,h):=Z4c (F:=Z9x) (((Z0V _).symm.trans (Zon (fun v h=>some (v,h)) a0 a1 h)).trans hv) hp
noncomputable def Z9y:DTab:=D0
theorem Zop:DSound Try.prog Z9y:=DSound.zero
noncomputable def Z5n:Tab:=(updF T0 90 Z1P)
theorem Zoq:TSound Try.prog Z5n:=(TSound.upd TSound.zero Zbo)
@[simp] theorem Zor:Z5n 90=some Z1P:=rfl
noncomputable def Z9z:Fun:=runF Try.prog Z5n Z9y NN [0,1,4,5,7,8,9,16] Try.f70 2
theorem Zos:CSound Try.prog 70 Z9z:=Z04 Zoq Zop mixed Try.func70 (by kernel_rfl) NN
theorem Zot {β:Type} (K:AV→Hp→Option β) (a0:AV) (a1:AV) (h:Hp):(Z9z [a0,a1] h).bind (fun p=>K p.1 p.2)=Z4V Try.prog Z5n Z9y NN K a0 a1 h:=by
 rw [← Zkc];exact Z05 rfl
noncomputable def Z5o:Fun:=quietT Z9z
theorem Zou:CSound Try.prog 70 Z5o:=Z1X Zos
theorem Zfa {a0:AV} {a1:AV} {h:Hp} {g:List AObj} {v:AV} (hv:Z4V Try.prog Z5n Z9y NN (fun v h=>some (v,h)) a0 a1 h=some (v,h++g)) (hp:plain v=true):Z5o [a0,a1] h=some (v,h):=Z4c (F:=Z9z) (((Z0V _).symm.trans (Zot (fun v h=>some (v,h)) a0 a1 h)).trans hv) hp
noncomputable def Z75:DTab:=D0
theorem Zov:DSound Try.prog Z75:=DSound.zero
noncomputable def Z1Q:Tab:=(updF (updF T0 70 Z5o) 90 Z1P)
theorem Zow:TSound Try.prog Z1Q:=(TSound.upd (TSound.upd TSound.zero Zou) Zbo)
@[simp] theorem Zfb:Z1Q 70=some Z5o:=rfl
@[simp] theorem Zox:Z1Q 90=some Z1P:=rfl
noncomputable def Z5p:Fun:=runF Try.prog Z1Q Z75 NN [0,1,4,5,6,7,12,19,29] Try.f89 2
theorem Zoy:CSound Try.prog 89 Z5p:=Z04 Zow Zov mixed Try.func89 (by kernel_rfl) NN
theorem Zoz {β:Type} (K:AV→Hp→Option β) (a0:AV) (a1:AV) (h:Hp):(Z5p [a0,a1] h).bind (fun p=>K p.1 p.2)=Z2B Try.prog Z1Q Z75 NN K a0 a1 h:=by
 rw [← ZkH];exact Z05 rfl
theorem Zfc (a0:AV) (a1:AV) (h:Hp):Z5p [a0,a1] h=Z2B Try.prog Z1Q Z75 NN (fun v h=>some (v,h)) a0 a1 h:=(Z0V _).symm.trans (Zoz (fun v h=>some (v,h)) a0 a1 h)
noncomputable def Z9A:DTab:=D0
theorem ZoA:DSound Try.prog Z9A:=DSound.zero
noncomputable def Z1R:Tab:=(updF (updF (updF (updF (updF T0 64 Z1j) 66 Z1k) 75 Z1t) 89 Z5p) 90 Z1P)
theorem ZoB:TSound Try.prog Z1R:=(TSound.upd (TSound.upd (TSound.upd (TSound.upd (TSound.upd TSound.zero Z9u) Zbn) Z9s) Zoy) Zbo)
@[simp] theorem Zbp:Z1R 64=some Z1j:=rfl
@[simp] theorem ZoC:Z1R 66=some Z1k:=rfl
@[simp] theorem Zfd:Z1R 75=some Z1t:=rfl
@[simp] theorem ZoD:Z1R 89=some Z5p:=rfl
@[simp] theorem Zt3:Z1R 90=some Z1P:=rfl
noncomputable def Z9B:Fun:=runF Try.prog Z1R Z9A NN [0,1,2,3,4,5,6,10] Try.f65 2
theorem ZoE:CSound Try.prog 65 Z9B:=Z04 ZoB ZoA mixed Try.func65 (by kernel_rfl) NN
theorem ZoF {β:Type} (K:AV→Hp→Option β) (a0:AV) (a1:AV) (h:Hp):(Z9B [a0,a1] h).bind (fun p=>K p.1 p.2)=Z4T Try.prog Z1R Z9A NN K a0 a1 h:=by
 rw [← Zk4];exact Z05 rfl
noncomputable def Z5q:Fun:=closedX [.a [none,none,some 10], .o] [.l 10, .o] Z9B
theorem ZoG:CSound Try.prog 65 Z5q:=Z0c _ _ ZoE
theorem Zbq {a0:AV} {a1:AV} {v:AV} (ha:plains [a0,a1]=true) (hv:Z4T Try.prog Z1R Z9A NN (fun v g=>cvt false g v) (nrm (.a [none,none,some 10]) a0) a1 []=some v) (h:Hp):Z5q [a0,a1] h=some ((nrmR [.l 10, .o] v),h):=by
 have e:(Z9B (nrms [.a [none,none,some 10], .o] [a0,a1]) []).bind (fun (p:AV × Hp)=>cvt false p.2 p.1)=some v:=(ZoF (fun v g=>cvt false g v) (nrm (.a [none,none,some 10]) a0) a1 []).trans hv
 exact (Z0e (shr:=[.l 10, .o]) ha e h).trans (congrArg (fun x=>some (x,h)) rfl)
noncomputable def Zfe:DTab:=D0
theorem ZoH:DSound Try.prog Zfe:=DSound.zero
noncomputable def Zff:Tab:=T0
theorem ZoI:TSound Try.prog Zff:=TSound.zero
noncomputable def Zfg:Fun:=runF Try.prog Zff Zfe NN [0,1,2,4,5,6,7,8,9,24] Try.f91 3
theorem ZoJ:CSound Try.prog 91 Zfg:=Z04 ZoI ZoH mixed Try.func91 (by kernel_rfl) NN
noncomputable def Zbr:Fun:=quietT Zfg
theorem ZoK:CSound Try.prog 91 Zbr:=Z1X ZoJ
noncomputable def Z9C:DTab:=D0
theorem ZoL:DSound Try.prog Z9C:=DSound.zero
noncomputable def Z76:Tab:=(updF T0 91 Zbr)
theorem ZoM:TSound Try.prog Z76:=(TSound.upd TSound.zero ZoK)
@[simp] theorem Zt4:Z76 91=some Zbr:=rfl
noncomputable def Zbs:Fun:=runF Try.prog Z76 Z9C NN [0,1,2,3,4] Try.f67 2
theorem ZoN:CSound Try.prog 67 Zbs:=Z04 ZoM ZoL mixed Try.func67 (by kernel_rfl) NN
theorem ZoO {β:Type} (K:AV→Hp→Option β) (a0:AV) (a1:AV) (h:Hp):(Zbs [a0,a1] h).bind (fun p=>K p.1 p.2)=Zb0 Try.prog Z76 Z9C NN K a0 a1 h:=by
 rw [← Zk6];exact Z05 rfl
noncomputable def Z5r:Fun:=Zbs
theorem ZoP:CSound Try.prog 67 Z5r:=ZoN
theorem ZoQ (a0:AV) (a1:AV) (h:Hp):Z5r [a0,a1] h=Zb0 Try.prog Z76 Z9C NN (fun v h=>some (v,h)) a0 a1 h:=(Z0V _).symm.trans (ZoO (fun v h=>some (v,h)) a0 a1 h)
noncomputable def Z77:DTab:=D0
theorem ZoR:DSound Try.prog Z77:=DSound.zero
noncomputable def Z5s:Tab:=(updF T0 66 Z1k)
theorem ZoS:TSound Try.prog Z5s:=(TSound.upd TSound.zero Zbn)
@[simp] theorem ZoT:Z5s 66=some Z1k:=rfl
noncomputable def Z1a:Fun:=runF Try.prog Z5s Z77 NN [0,1,2] Try.f77 1
theorem Zbt:CSound Try.prog 77 Z1a:=Z04 ZoS ZoR mixed Try.func77 (by kernel_rfl) NN
theorem ZoU {β:Type} (K:AV→Hp→Option β) (a0:AV) (h:Hp):(Z1a [a0] h).bind (fun p=>K p.1 p.2)=Z6o Try.prog Z5s Z77 NN K a0 h:=by
 rw [← Zkf];exact Z05 rfl
theorem ZoV (a0:AV) (h:Hp):Z1a [a0] h=Z6o Try.prog Z5s Z77 NN (fun v h=>some (v,h)) a0 h:=(Z0V _).symm.trans (ZoU (fun v h=>some (v,h)) a0 h)
noncomputable def Z9D:DTab:=D0
theorem ZoW:DSound Try.prog Z9D:=DSound.zero
noncomputable def Z9E:Tab:=T0
theorem ZoX:TSound Try.prog Z9E:=TSound.zero
noncomputable def Z9F:Fun:=runF Try.prog Z9E Z9D NN [0,1,2,4] Try.f93 3
theorem ZoY:CSound Try.prog 93 Z9F:=Z04 ZoX ZoW mixed Try.func93 (by kernel_rfl) NN
theorem ZoZ {β:Type} (K:AV→Hp→Option β) (a0:AV) (a1:AV) (a2:AV) (h:Hp):(Z9F [a0,a1,a2] h).bind (fun p=>K p.1 p.2)=Z8B Try.prog Z9E Z9D NN K a0 a1 a2 h:=by
 rw [← ZkT];exact Z05 rfl
noncomputable def Z4z:Fun:=quietT Z9F
theorem Zfh:CSound Try.prog 93 Z4z:=Z1X ZoY
theorem Zp0 {a0:AV} {a1:AV} {a2:AV} {h:Hp} {g:List AObj} {v:AV} (hv:Z8B Try.prog Z9E Z9D NN (fun v h=>some (v,h)) a0 a1 a2 h=some (v,h++g)) (hp:plain v=true):Z4z [a0,a1,a2] h=some (v,h):=Z4c (F:=Z9F) (((Z0V _).symm.trans (ZoZ (fun v h=>some (v,h)) a0 a1 a2 h)).trans hv) hp
noncomputable def Z9G:DTab:=D0
theorem Zp1:DSound Try.prog Z9G:=DSound.zero
noncomputable def Z5t:Tab:=(updF T0 93 Z4z)
theorem Zp2:TSound Try.prog Z5t:=(TSound.upd TSound.zero Zfh)
@[simp] theorem Zp3:Z5t 93=some Z4z:=rfl
noncomputable def Z9H:Fun:=runF Try.prog Z5t Z9G NN [0,1,4,5,6,7,11,21] Try.f92 2
theorem Zp4:CSound Try.prog 92 Z9H:=Z04 Zp2 Zp1 mixed Try.func92 (by kernel_rfl) NN
theorem Zp5 {β:Type} (K:AV→Hp→Option β) (a0:AV) (a1:AV) (h:Hp):(Z9H [a0,a1] h).bind (fun p=>K p.1 p.2)=Z6y Try.prog Z5t Z9G NN K a0 a1 h:=by
 rw [← ZkS];exact Z05 rfl
noncomputable def Z78:Fun:=quietT Z9H
theorem Zp6:CSound Try.prog 92 Z78:=Z1X Zp4
theorem Zp7 {a0:AV} {a1:AV} {h:Hp} {g:List AObj} {v:AV} (hv:Z6y Try.prog Z5t Z9G NN (fun v h=>some (v,h)) a0 a1 h=some (v,h++g)) (hp:plain v=true):Z78 [a0,a1] h=some (v,h):=Z4c (F:=Z9H) (((Z0V _).symm.trans (Zp5 (fun v h=>some (v,h)) a0 a1 h)).trans hv) hp
noncomputable def Z9I:DTab:=D0
theorem Zp8:DSound Try.prog Z9I:=DSound.zero
noncomputable def Z9J:Tab:=T0
theorem Zp9:TSound Try.prog Z9J:=TSound.zero
noncomputable def Z5u:Fun:=runF Try.prog Z9J Z9I NN [0,1,2,6,7,16] Try.f94 3
theorem Zpa:CSound Try.prog 94 Z5u:=Z04 Zp9 Zp8 mixed Try.func94 (by kernel_rfl) NN
theorem Zpb {β:Type} (K:AV→Hp→Option β) (a0:AV) (a1:AV) (a2:AV) (h:Hp):(Z5u [a0,a1,a2] h).bind (fun p=>K p.1 p.2)=Z8C Try.prog Z9J Z9I NN K a0 a1 a2 h:=by
 rw [← ZkU];exact Z05 rfl
theorem Zpc (a0:AV) (a1:AV) (a2:AV) (h:Hp):Z5u [a0,a1,a2] h=Z8C Try.prog Z9J Z9I NN (fun v h=>some (v,h)) a0 a1 a2 h:=(Z0V _).symm.trans (Zpb (fun v h=>some (v,h)) a0 a1 a2 h)
noncomputable def Z79:DTab:=D0
theorem Zpd:DSound Try.prog Z79:=DSound.zero
noncomputable def Z1z:Tab:=(updF (updF (updF (updF (updF T0 64 Z1j) 77 Z1a) 92 Z78) 93 Z4z) 94 Z5u)
theorem Zpe:TSound Try.prog Z1z:=(TSound.upd (TSound.upd (TSound.upd (TSound.upd (TSound.upd TSound.zero Z9u) Zbt) Zp6) Zfh) Zpa)
@[simp] theorem Z5v:Z1z 64=some Z1j:=rfl
@[simp] theorem Zbu:Z1z 77=some Z1a:=rfl
@[simp] theorem Zbv:Z1z 92=some Z78:=rfl
@[simp] theorem Zt5:Z1z 93=some Z4z:=rfl
@[simp] theorem Zpf:Z1z 94=some Z5u:=rfl
noncomputable def Z9K:Fun:=runF Try.prog Z1z Z79 NN [0,1,2,3,4,5,6,7,8,13,20,54] Try.f68 2
theorem Zpg:CSound Try.prog 68 Z9K:=Z04 Zpe Zpd mixed Try.func68 (by kernel_rfl) NN
theorem Zph {β:Type} (K:AV→Hp→Option β) (a0:AV) (a1:AV) (h:Hp):(Z9K [a0,a1] h).bind (fun p=>K p.1 p.2)=Z1J Try.prog Z1z Z79 NN K a0 a1 h:=by
 rw [← Zk7];exact Z05 rfl
noncomputable def Z5w:Fun:=closedX [.a [none,none,some 10], .o] [.a [none,none,some 10], .o] Z9K
theorem Zpi:CSound Try.prog 68 Z5w:=Z0c _ _ Zpg
theorem Z5x {a0:AV} {a1:AV} {v:AV} (ha:plains [a0,a1]=true) (hv:Z1J Try.prog Z1z Z79 NN (fun v g=>cvt false g v) (nrm (.a [none,none,some 10]) a0) a1 []=some v) (h:Hp):Z5w [a0,a1] h=some ((nrmR [.a [none,none,some 10], .o] v),h):=by
 have e:(Z9K (nrms [.a [none,none,some 10], .o] [a0,a1]) []).bind (fun (p:AV × Hp)=>cvt false p.2 p.1)=some v:=(Zph (fun v g=>cvt false g v) (nrm (.a [none,none,some 10]) a0) a1 []).trans hv
 exact (Z0e (shr:=[.a [none,none,some 10], .o]) ha e h).trans (congrArg (fun x=>some (x,h)) rfl)
noncomputable def Z13:DTab:=(updD (updD D0 50 Z4t) 51 Z94)
theorem Zfi:DSound Try.prog Z13:=(DSound.ro (DSound.ro DSound.zero Zf1 Z9j) Zmw ZeR)
@[simp] theorem Zpj:Z13 50=some Z4t:=rfl
@[simp] theorem Zpk:Z13 51=some Z94:=rfl
noncomputable def Z14:Tab:=(updF (updF (updF (updF (updF (updF (updF (updF (updF T0 13 Z1s) 16 Z11) 50 Z1N) 51 Z4m) 64 Z1j) 65 Z5q) 66 Z4y) 67 Z5r) 68 Z5w)
theorem Zfj:TSound Try.prog Z14:=(TSound.upd (TSound.upd (TSound.upd (TSound.upd (TSound.upd (TSound.upd (TSound.upd (TSound.upd (TSound.upd TSound.zero Zbl) Z6R) Z9j) ZeR) Z9u) ZoG) Zoi) ZoP) Zpi)
@[simp] theorem Zpl:Z14 13=some Z1s:=rfl
@[simp] theorem Zt6:Z14 16=some Z11:=rfl
@[simp] theorem Zt7:Z14 50=some Z1N:=rfl
@[simp] theorem Zt8:Z14 51=some Z4m:=rfl
@[simp] theorem Zt9:Z14 64=some Z1j:=rfl
@[simp] theorem Zta:Z14 65=some Z5q:=rfl
@[simp] theorem Ztb:Z14 66=some Z4y:=rfl
@[simp] theorem Ztc:Z14 67=some Z5r:=rfl
@[simp] theorem Zpm:Z14 68=some Z5w:=rfl
noncomputable def Z5y:Fun:=yieldF Try.prog Z14 Z13 NN [0,1,2,3,4,5,7,8,9,10,11,13,14,15,16,17,18,20,21,32,63,64,65,75,84] 4
theorem Zpn:YSound Try.prog Z5y:=ZiU Zfj Zfi mixed NN
theorem Zpo {L:Nat} {h:Hp} {pend:Option Code} {v7:AV} {v8:AV} {v9:AV} {v10:AV} {v13:AV} {v14:AV} {v64:AV} {v65:AV} (hL:h[L]? = some (.loop (Z1p) (Z1o) (Z1g) (Z1h) (envT [(7,v7),(8,v8),(9,v9),(10,v10),(13,v13),(14,v14)]) .ready pend)):Z5y [ymark, .yl L,v64,v65] h=ZaX Try.prog Z14 Z13 NN L (envT [(7,v7),(8,v8),(9,v9),(10,v10),(13,v13),(14,v14)]) (fun h=>some (.s (.bool true),h.set L (.loop (Z1p) (Z1o) (Z1g) (Z1h) (envT [(7,v7),(8,v8),(9,v9),(10,v10),(13,v13),(14,v14)]) .ready none))) (fun h=>some (.s (.bool false),h.set L (.loop (Z1p) (Z1o) (Z1g) (Z1h) (envT [(7,v7),(8,v8),(9,v9),(10,v10),(13,v13),(14,v14)]) .done (some .ret)))) v7 v8 v9 v10 v13 v14 v64 v65 h:=(ZiS hL (by kernel_rfl)).trans (Zjg Z14 Z13 NN L v7 v8 v9 v10 v13 v14 v64 v65 h)
noncomputable def Z0N:Tab:=(updF T0 YB Z5y)
theorem Zpp:TSound Try.prog Z0N:=(TSound.updY TSound.zero Zpn)
@[simp] theorem Zfk:Z0N YB=some Z5y:=rfl
noncomputable def Z5z:Fun:=runF Try.prog Z0N D0 NN [0,1,2,4,5,6,7,8,9,24] Try.f91 3
theorem Zpq:CSound Try.prog 91 Z5z:=Z04 Zpp DSound.zero mixed Try.func91 (by kernel_rfl) NN
theorem Zpr {β:Type} (K:AV→Hp→Option β) (a0:AV) (a1:AV) (a2:AV) (h:Hp):(Z5z [a0,a1,a2] h).bind (fun p=>K p.1 p.2)=Z6w Try.prog Z0N D0 NN K a0 a1 a2 h:=by
 rw [← ZkN];exact Z05 rfl
theorem Zps (a0:AV) (a1:AV) (a2:AV) (h:Hp):Z5z [a0,a1,a2] h=Z6w Try.prog Z0N D0 NN (fun v h=>some (v,h)) a0 a1 a2 h:=(Z0V _).symm.trans (Zpr (fun v h=>some (v,h)) a0 a1 a2 h)
noncomputable def Z0Q:Tab:=(updF Z14 91 Z5z)
theorem Zpt:TSound Try.prog Z0Q:=(TSound.upd Zfj Zpq)
@[simp] theorem Ztd:Z0Q 13=some Z1s:=rfl
@[simp] theorem Zbw:Z0Q 16=some Z11:=rfl
@[simp] theorem Zte:Z0Q 50=some Z1N:=rfl
@[simp] theorem Ztf:Z0Q 51=some Z4m:=rfl
@[simp] theorem Zbx:Z0Q 64=some Z1j:=rfl
@[simp] theorem Zpu:Z0Q 65=some Z5q:=rfl
@[simp] theorem Zpv:Z0Q 66=some Z4y:=rfl
@[simp] theorem Zpw:Z0Q 67=some Z5r:=rfl
@[simp] theorem Ztg:Z0Q 68=some Z5w:=rfl
@[simp] theorem Zfl:Z0Q 91=some Z5z:=rfl
noncomputable def Z9L:Fun:=runF Try.prog Z0Q Z13 NN [0,1,2,3,4,5,7,8,9,10,11,13,14,15,16,17,18,20,21,32,63,64,65,75,84] Try.f30 4
theorem Zpx:CSound Try.prog 30 Z9L:=Z04 Zpt Zfi mixed Try.func30 (by kernel_rfl) NN
theorem Zpy {β:Type} (K:AV→Hp→Option β) (a0:AV) (a1:AV) (a2:AV) (a3:AV) (h:Hp):(Z9L [a0,a1,a2,a3] h).bind (fun p=>K p.1 p.2)=Z25 Try.prog Z0Q Z13 NN K a0 a1 a2 a3 h:=by
 rw [← Zjh];exact Z05 rfl
noncomputable def Z2K:Fun:=closedX [.a [none,none,some 10], .a [none,some 2,some 7], .o, .o] [.a [none,none,some 10], .a [none,some 2,some 7], .o] Z9L
theorem Zpz:CSound Try.prog 30 Z2K:=Z0c _ _ Zpx
theorem ZpA {a0:AV} {a1:AV} {a2:AV} {a3:AV} {v:AV} (ha:plains [a0,a1,a2,a3]=true) (hv:Z25 Try.prog Z0Q Z13 NN (fun v g=>cvt false g v) (nrm (.a [none,none,some 10]) a0) (nrm (.a [none,some 2,some 7]) a1) a2 a3 []=some v) (h:Hp):Z2K [a0,a1,a2,a3] h=some ((nrmR [.a [none,none,some 10], .a [none,some 2,some 7], .o] v),h):=by
 have e:(Z9L (nrms [.a [none,none,some 10], .a [none,some 2,some 7], .o, .o] [a0,a1,a2,a3]) []).bind (fun (p:AV × Hp)=>cvt false p.2 p.1)=some v:=(Zpy (fun v g=>cvt false g v) (nrm (.a [none,none,some 10]) a0) (nrm (.a [none,some 2,some 7]) a1) a2 a3 []).trans hv
 exact (Z0e (shr:=[.a [none,none,some 10], .a [none,some 2,some 7], .o]) ha e h).trans (congrArg (fun x=>some (x,h)) rfl)
noncomputable def Z9M:DTab:=D0
theorem ZpB:DSound Try.prog Z9M:=DSound.zero
noncomputable def Z7a:Tab:=(updF T0 75 Z1t)
theorem ZpC:TSound Try.prog Z7a:=(TSound.upd TSound.zero Z9s)
@[simp] theorem Zfm:Z7a 75=some Z1t:=rfl
noncomputable def Z9N:Fun:=runF Try.prog Z7a Z9M NN [0,2,3,6] Try.f43 1
theorem ZpD:CSound Try.prog 43 Z9N:=Z04 ZpC ZpB mixed Try.func43 (by kernel_rfl) NN
theorem ZpE {β:Type} (K:AV→Hp→Option β) (a0:AV) (h:Hp):(Z9N [a0] h).bind (fun p=>K p.1 p.2)=Z6c Try.prog Z7a Z9M NN K a0 h:=by
 rw [← Zji];exact Z05 rfl
noncomputable def Z5A:Fun:=closedX [.o] [.a [none,none,some 10], .o] Z9N
theorem ZpF:CSound Try.prog 43 Z5A:=Z0c _ _ ZpD
theorem Zfn {a0:AV} {v:AV} (ha:plains [a0]=true) (hv:Z6c Try.prog Z7a Z9M NN (fun v g=>cvt false g v) a0 []=some v) (h:Hp):Z5A [a0] h=some ((nrmR [.a [none,none,some 10], .o] v),h):=by
 have e:(Z9N (nrms [.o] [a0]) []).bind (fun (p:AV × Hp)=>cvt false p.2 p.1)=some v:=(ZpE (fun v g=>cvt false g v) a0 []).trans hv
 exact (Z0e (shr:=[.a [none,none,some 10], .o]) ha e h).trans (congrArg (fun x=>some (x,h)) rfl)
noncomputable def Z7b:DTab:=(updD D0 77 (newA Z1a))
theorem ZpG:DSound Try.prog Z7b:=(DSound.newA DSound.zero Zbt)
@[simp] theorem ZpH:Z7b 77=some (newA Z1a):=rfl
noncomputable def Z2L:Tab:=(updF (updF (updF (updF T0 64 Z1j) 75 Z1t) 76 Z1x) 77 Z1a)
theorem ZpI:TSound Try.prog Z2L:=(TSound.upd (TSound.upd (TSound.upd (TSound.upd TSound.zero Z9u) Z9s) Zbf) Zbt)
@[simp] theorem ZpJ:Z2L 64=some Z1j:=rfl
@[simp] theorem ZpK:Z2L 75=some Z1t:=rfl
@[simp] theorem ZpL:Z2L 76=some Z1x:=rfl
@[simp] theorem Zth:Z2L 77=some Z1a:=rfl
noncomputable def Z7c:Fun:=runF Try.prog Z2L Z7b NN [0,1,2,3,5,6,7,8,9,10,11,12,16,20,25,29,34,39] Try.f44 3
theorem ZpM:CSound Try.prog 44 Z7c:=Z04 ZpI ZpG mixed Try.func44 (by kernel_rfl) NN
theorem ZpN {β:Type} (K:AV→Hp→Option β) (a0:AV) (a1:AV) (a2:AV) (h:Hp):(Z7c [a0,a1,a2] h).bind (fun p=>K p.1 p.2)=Z7W Try.prog Z2L Z7b NN K a0 a1 a2 h:=by
 rw [← Zjj];exact Z05 rfl
noncomputable def Z1S:Fun:=closedX [.a [none,none,some 10], .o, .o] [.a [none,none,some 10], .o, .o] Z7c
theorem Zfo:CSound Try.prog 44 Z1S:=Z0c _ _ ZpM
noncomputable def Z9O:DFun:=closedXD [.a [none,none,some 10], .o, .o] [.a [none,none,some 10], .o, .o] Z7c
theorem ZpO:Ro Z1S Z9O:=Z1W _ _ _
theorem ZpP {a0:AV} {a1:AV} {a2:AV} {v:AV} (ha:plains [a0,a1,a2]=true) (hv:Z7W Try.prog Z2L Z7b NN (fun v g=>cvt false g v) (nrm (.a [none,none,some 10]) a0) a1 a2 []=some v) (h:Hp):Z1S [a0,a1,a2] h=some ((nrmR [.a [none,none,some 10], .o, .o] v),h):=by
 have e:(Z7c (nrms [.a [none,none,some 10], .o, .o] [a0,a1,a2]) []).bind (fun (p:AV × Hp)=>cvt false p.2 p.1)=some v:=(ZpN (fun v g=>cvt false g v) (nrm (.a [none,none,some 10]) a0) a1 a2 []).trans hv
 exact (Z0e (shr:=[.a [none,none,some 10], .o, .o]) ha e h).trans (congrArg (fun x=>some (x,h)) rfl)
noncomputable def Z9P:DTab:=D0
theorem ZpQ:DSound Try.prog Z9P:=DSound.zero
noncomputable def Z9Q:Tab:=T0
theorem ZpR:TSound Try.prog Z9Q:=TSound.zero
noncomputable def Z7d:Fun:=runF Try.prog Z9Q Z9P NN [0,2] Try.f45 1
theorem ZpS:CSound Try.prog 45 Z7d:=Z04 ZpR ZpQ mixed Try.func45 (by kernel_rfl) NN
theorem ZpT {β:Type} (K:AV→Hp→Option β) (a0:AV) (h:Hp):(Z7d [a0] h).bind (fun p=>K p.1 p.2)=Z7X Try.prog Z9Q Z9P NN K a0 h:=by
 rw [← Zjk];exact Z05 rfl
noncomputable def Z5B:Fun:=closedX [.o] [.o] Z7d
theorem Zfp:CSound Try.prog 45 Z5B:=Z0c _ _ ZpS
noncomputable def Z7e:DFun:=closedXD [.o] [.o] Z7d
theorem ZpU:Ro Z5B Z7e:=Z1W _ _ _
theorem ZpV {a0:AV} {v:AV} (ha:plains [a0]=true) (hv:Z7X Try.prog Z9Q Z9P NN (fun v g=>cvt false g v) a0 []=some v) (h:Hp):Z5B [a0] h=some (v,h):=by
 have e:(Z7d (nrms [.o] [a0]) []).bind (fun (p:AV × Hp)=>cvt false p.2 p.1)=some v:=(ZpT (fun v g=>cvt false g v) a0 []).trans hv
 exact (Z0e (shr:=[.o]) ha e h).trans (congrArg (fun x=>some (x,h)) (Z0J 1 v))
noncomputable def Z5C:DTab:=D0
theorem ZpW:DSound Try.prog Z5C:=DSound.zero
noncomputable def Z5D:Tab:=T0
theorem ZpX:TSound Try.prog Z5D:=TSound.zero
noncomputable def Z9R:Fun:=runF Try.prog Z5D Z5C NN [0,1,4,5,10,12,13,14,24] Try.f46 2
theorem ZpY:CSound Try.prog 46 Z9R:=Z04 ZpX ZpW mixed Try.func46 (by kernel_rfl) NN
theorem ZpZ {β:Type} (K:AV→Hp→Option β) (a0:AV) (a1:AV) (h:Hp):(Z9R [a0,a1] h).bind (fun p=>K p.1 p.2)=Z4Q Try.prog Z5D Z5C NN K a0 a1 h:=by
 rw [← Zjp];exact Z05 rfl
noncomputable def Z5E:Fun:=closedX [.l 2, .l 2] [.o] Z9R
theorem Zq0:CSound Try.prog 46 Z5E:=Z0c _ _ ZpY
theorem Zq1 {a0:AV} {a1:AV} {v:AV} (ha:plains [a0,a1]=true) (hv:Z4Q Try.prog Z5D Z5C NN (fun v g=>cvt false g v) (nrm (.l 2) a0) (nrm (.l 2) a1) []=some v) (h:Hp):Z5E [a0,a1] h=some (v,h):=by
 have e:(Z9R (nrms [.l 2, .l 2] [a0,a1]) []).bind (fun (p:AV × Hp)=>cvt false p.2 p.1)=some v:=(ZpZ (fun v g=>cvt false g v) (nrm (.l 2) a0) (nrm (.l 2) a1) []).trans hv
 exact (Z0e (shr:=[.o]) ha e h).trans (congrArg (fun x=>some (x,h)) (Z0J 1 v))
noncomputable def Z5F:DTab:=(updD (updD D0 44 Z9O) 45 Z7e)
theorem Zq2:DSound Try.prog Z5F:=(DSound.ro (DSound.ro DSound.zero ZpO Zfo) ZpU Zfp)
@[simp] theorem Zq3:Z5F 44=some Z9O:=rfl
@[simp] theorem Zq4:Z5F 45=some Z7e:=rfl
noncomputable def Z1l:Tab:=(updF (updF (updF (updF (updF (updF (updF (updF T0 11 Z51) 16 Z11) 19 Z6S) 30 Z2K) 43 Z5A) 44 Z1S) 45 Z5B) 46 Z5E)
theorem Zq5:TSound Try.prog Z1l:=(TSound.upd (TSound.upd (TSound.upd (TSound.upd (TSound.upd (TSound.upd (TSound.upd (TSound.upd TSound.zero ZlB) Z6R) Znb) Zpz) ZpF) Zfo) Zfp) Zq0)
@[simp] theorem Zq6:Z1l 11=some Z51:=rfl
@[simp] theorem Zq7:Z1l 16=some Z11:=rfl
@[simp] theorem Zq8:Z1l 19=some Z6S:=rfl
@[simp] theorem Zq9:Z1l 30=some Z2K:=rfl
@[simp] theorem Zqa:Z1l 43=some Z5A:=rfl
@[simp] theorem Zti:Z1l 44=some Z1S:=rfl
@[simp] theorem Ztj:Z1l 45=some Z5B:=rfl
@[simp] theorem Zqb:Z1l 46=some Z5E:=rfl
noncomputable def Z9S:Fun:=runF Try.prog Z1l Z5F NN [0,1,2,4,6,7,8,9,10,11,12,13,14,44] Try.f9 0
theorem Zqc:CSound Try.prog 9 Z9S:=Z04 Zq5 Zq2 mixed Try.func9 (by kernel_rfl) NN
theorem Zqd {β:Type} (K:AV→Hp→Option β) (h:Hp):(Z9S [] h).bind (fun p=>K p.1 p.2)=Z7K Try.prog Z1l Z5F NN K  h:=by
 rw [← ZiX];exact Z05 rfl
noncomputable def Z7f:Fun:=closedX [] [.o] Z9S
theorem Zqe:CSound Try.prog 9 Z7f:=Z0c _ _ Zqc
theorem Zqf {v:AV} (ha:plains []=true) (hv:Z7K Try.prog Z1l Z5F NN (fun v g=>cvt false g v)  []=some v) (h:Hp):Z7f [] h=some (v,h):=by
 have e:(Z9S (nrms [] []) []).bind (fun (p:AV × Hp)=>cvt false p.2 p.1)=some v:=(Zqd (fun v g=>cvt false g v)  []).trans hv
 exact (Z0e (shr:=[.o]) ha e h).trans (congrArg (fun x=>some (x,h)) (Z0J 1 v))
noncomputable def Z5G:DTab:=D0
theorem Zqg:DSound Try.prog Z5G:=DSound.zero
noncomputable def Z5H:Tab:=T0
theorem Zqh:TSound Try.prog Z5H:=TSound.zero
noncomputable def Z4A:Fun:=runF Try.prog Z5H Z5G NN [0,1,2] Try.f14 1
theorem Zqi:CSound Try.prog 14 Z4A:=Z04 Zqh Zqg mixed Try.func14 (by kernel_rfl) NN
theorem Zby {β:Type} (K:AV→Hp→Option β) (a0:AV) (h:Hp):(Z4A [a0] h).bind (fun p=>K p.1 p.2)=Z4O Try.prog Z5H Z5G NN K a0 h:=by
 rw [← Zj0];exact Z05 rfl
theorem Zqj (a0:AV) (h:Hp):Z4A [a0] h=Z4O Try.prog Z5H Z5G NN (fun v h=>some (v,h)) a0 h:=(Z0V _).symm.trans (Zby (fun v h=>some (v,h)) a0 h)
noncomputable def Z4B:Fun:=closedX [.a [none,some 2,some 7]] [.a [none,some 2,some 7]] Z4A
theorem Zfq:CSound Try.prog 14 Z4B:=Z0c _ _ Zqi
noncomputable def Zbz:DFun:=closedXD [.a [none,some 2,some 7]] [.a [none,some 2,some 7]] Z4A
theorem Zqk:Ro Z4B Zbz:=Z1W _ _ _
theorem Zql {a0:AV} {v:AV} (ha:plains [a0]=true) (hv:Z4O Try.prog Z5H Z5G NN (fun v g=>cvt false g v) (nrm (.a [none,some 2,some 7]) a0) []=some v) (h:Hp):Z4B [a0] h=some ((nrmR [.a [none,some 2,some 7]] v),h):=by
 have e:(Z4A (nrms [.a [none,some 2,some 7]] [a0]) []).bind (fun (p:AV × Hp)=>cvt false p.2 p.1)=some v:=(Zby (fun v g=>cvt false g v) (nrm (.a [none,some 2,some 7]) a0) []).trans hv
 exact (Z0e (shr:=[.a [none,some 2,some 7]]) ha e h).trans (congrArg (fun x=>some (x,h)) rfl)
noncomputable def Z5I:DTab:=D0
theorem Zqm:DSound Try.prog Z5I:=DSound.zero
noncomputable def Z5J:Tab:=T0
theorem Zqn:TSound Try.prog Z5J:=TSound.zero
noncomputable def Z9T:Fun:=runF Try.prog Z5J Z5I NN [0,1,4,5,10,14,25] Try.f59 2
theorem Zqo:CSound Try.prog 59 Z9T:=Z04 Zqn Zqm mixed Try.func59 (by kernel_rfl) NN
theorem Zqp {β:Type} (K:AV→Hp→Option β) (a0:AV) (a1:AV) (h:Hp):(Z9T [a0,a1] h).bind (fun p=>K p.1 p.2)=Z4S Try.prog Z5J Z5I NN K a0 a1 h:=by
 rw [← ZjK];exact Z05 rfl
noncomputable def Z5K:Fun:=closedX [.l 7, .l 7] [.o] Z9T
theorem Zqq:CSound Try.prog 59 Z5K:=Z0c _ _ Zqo
theorem Zqr {a0:AV} {a1:AV} {v:AV} (ha:plains [a0,a1]=true) (hv:Z4S Try.prog Z5J Z5I NN (fun v g=>cvt false g v) (nrm (.l 7) a0) (nrm (.l 7) a1) []=some v) (h:Hp):Z5K [a0,a1] h=some (v,h):=by
 have e:(Z9T (nrms [.l 7, .l 7] [a0,a1]) []).bind (fun (p:AV × Hp)=>cvt false p.2 p.1)=some v:=(Zqp (fun v g=>cvt false g v) (nrm (.l 7) a0) (nrm (.l 7) a1) []).trans hv
 exact (Z0e (shr:=[.o]) ha e h).trans (congrArg (fun x=>some (x,h)) (Z0J 1 v))
noncomputable def Z4C:DTab:=D0
theorem Zqs:DSound Try.prog Z4C:=DSound.zero
noncomputable def Z2M:Tab:=(updF T0 59 Z5K)
theorem Zqt:TSound Try.prog Z2M:=(TSound.upd TSound.zero Zqq)
@[simp] theorem Zqu:Z2M 59=some Z5K:=rfl
noncomputable def Z9U:Fun:=runF Try.prog Z2M Z4C NN [0,1,2,3,4,5,19,24,37] Try.f18 2
theorem Zqv:CSound Try.prog 18 Z9U:=Z04 Zqt Zqs mixed Try.func18 (by kernel_rfl) NN
theorem Zqw {β:Type} (K:AV→Hp→Option β) (a0:AV) (a1:AV) (h:Hp):(Z9U [a0,a1] h).bind (fun p=>K p.1 p.2)=Z6b Try.prog Z2M Z4C NN K a0 a1 h:=by
 rw [← Zja];exact Z05 rfl
noncomputable def Z7g:Fun:=closedX [.a [none,some 2,some 7], .a [none,some 2,some 7]] [.o] Z9U
theorem Zqx:CSound Try.prog 18 Z7g:=Z0c _ _ Zqv
theorem Zqy {a0:AV} {a1:AV} {v:AV} (ha:plains [a0,a1]=true) (hv:Z6b Try.prog Z2M Z4C NN (fun v g=>cvt false g v) (nrm (.a [none,some 2,some 7]) a0) (nrm (.a [none,some 2,some 7]) a1) []=some v) (h:Hp):Z7g [a0,a1] h=some (v,h):=by
 have e:(Z9U (nrms [.a [none,some 2,some 7], .a [none,some 2,some 7]] [a0,a1]) []).bind (fun (p:AV × Hp)=>cvt false p.2 p.1)=some v:=(Zqw (fun v g=>cvt false g v) (nrm (.a [none,some 2,some 7]) a0) (nrm (.a [none,some 2,some 7]) a1) []).trans hv
 exact (Z0e (shr:=[.o]) ha e h).trans (congrArg (fun x=>some (x,h)) (Z0J 1 v))
noncomputable def Z9V:DTab:=D0
theorem Zqz:DSound Try.prog Z9V:=DSound.zero
noncomputable def Z9W:Tab:=T0
theorem ZqA:TSound Try.prog Z9W:=TSound.zero
noncomputable def Z9X:Fun:=runF Try.prog Z9W Z9V NN [0,1,2] Try.f21 1
theorem ZqB:CSound Try.prog 21 Z9X:=Z04 ZqA Zqz mixed Try.func21 (by kernel_rfl) NN
theorem ZqC {β:Type} (K:AV→Hp→Option β) (a0:AV) (h:Hp):(Z9X [a0] h).bind (fun p=>K p.1 p.2)=Z7R Try.prog Z9W Z9V NN K a0 h:=by
 rw [← Zjc];exact Z05 rfl
noncomputable def Z7h:Fun:=closedX [.a [none,some 2,some 7]] [.o] Z9X
theorem ZqD:CSound Try.prog 21 Z7h:=Z0c _ _ ZqB
theorem ZqE {a0:AV} {v:AV} (ha:plains [a0]=true) (hv:Z7R Try.prog Z9W Z9V NN (fun v g=>cvt false g v) (nrm (.a [none,some 2,some 7]) a0) []=some v) (h:Hp):Z7h [a0] h=some (v,h):=by
 have e:(Z9X (nrms [.a [none,some 2,some 7]] [a0]) []).bind (fun (p:AV × Hp)=>cvt false p.2 p.1)=some v:=(ZqC (fun v g=>cvt false g v) (nrm (.a [none,some 2,some 7]) a0) []).trans hv
 exact (Z0e (shr:=[.o]) ha e h).trans (congrArg (fun x=>some (x,h)) (Z0J 1 v))
noncomputable def Z9Y:DTab:=D0
theorem ZqF:DSound Try.prog Z9Y:=DSound.zero
noncomputable def Z7i:Tab:=(updF T0 23 Z1y)
theorem ZqG:TSound Try.prog Z7i:=(TSound.upd TSound.zero Zbh)
@[simp] theorem ZqH:Z7i 23=some Z1y:=rfl
noncomputable def Z9Z:Fun:=runF Try.prog Z7i Z9Y NN [0,1,2,3] Try.f25 2
theorem ZqI:CSound Try.prog 25 Z9Z:=Z04 ZqG ZqF mixed Try.func25 (by kernel_rfl) NN
theorem ZqJ {β:Type} (K:AV→Hp→Option β) (a0:AV) (a1:AV) (h:Hp):(Z9Z [a0,a1] h).bind (fun p=>K p.1 p.2)=Z7U Try.prog Z7i Z9Y NN K a0 a1 h:=by
 rw [← Zjf];exact Z05 rfl
noncomputable def Z4D:Fun:=quietT Z9Z
theorem Zfr:CSound Try.prog 25 Z4D:=Z1X ZqI
theorem ZqK {a0:AV} {a1:AV} {h:Hp} {g:List AObj} {v:AV} (hv:Z7U Try.prog Z7i Z9Y NN (fun v h=>some (v,h)) a0 a1 h=some (v,h++g)) (hp:plain v=true):Z4D [a0,a1] h=some (v,h):=Z4c (F:=Z9Z) (((Z0V _).symm.trans (ZqJ (fun v h=>some (v,h)) a0 a1 h)).trans hv) hp
noncomputable def Z7j:DTab:=D0
theorem ZqL:DSound Try.prog Z7j:=DSound.zero
noncomputable def Z4E:Tab:=(updF T0 25 Z4D)
theorem ZqM:TSound Try.prog Z4E:=(TSound.upd TSound.zero Zfr)
@[simp] theorem ZqN:Z4E 25=some Z4D:=rfl
noncomputable def Za0:Fun:=runF Try.prog Z4E Z7j NN [0,1,4,5,7,8,9,16] Try.f62 2
theorem ZqO:CSound Try.prog 62 Za0:=Z04 ZqM ZqL mixed Try.func62 (by kernel_rfl) NN
theorem ZqP {β:Type} (K:AV→Hp→Option β) (a0:AV) (a1:AV) (h:Hp):(Za0 [a0,a1] h).bind (fun p=>K p.1 p.2)=Z2m Try.prog Z4E Z7j NN K a0 a1 h:=by
 rw [← Ze2];exact Z05 rfl
noncomputable def Z7k:Fun:=quietT Za0
theorem ZqQ:CSound Try.prog 62 Z7k:=Z1X ZqO
theorem ZqR {a0:AV} {a1:AV} {h:Hp} {g:List AObj} {v:AV} (hv:Z2m Try.prog Z4E Z7j NN (fun v h=>some (v,h)) a0 a1 h=some (v,h++g)) (hp:plain v=true):Z7k [a0,a1] h=some (v,h):=Z4c (F:=Za0) (((Z0V _).symm.trans (ZqP (fun v h=>some (v,h)) a0 a1 h)).trans hv) hp
noncomputable def Za1:DTab:=D0
theorem ZqS:DSound Try.prog Za1:=DSound.zero
noncomputable def Z7l:Tab:=(updF T0 62 Z7k)
theorem ZqT:TSound Try.prog Z7l:=(TSound.upd TSound.zero ZqQ)
@[simp] theorem ZqU:Z7l 62=some Z7k:=rfl
noncomputable def Za2:Fun:=runF Try.prog Z7l Za1 NN [0,1,4] Try.f24 2
theorem ZqV:CSound Try.prog 24 Za2:=Z04 ZqT ZqS mixed Try.func24 (by kernel_rfl) NN
theorem ZqW {β:Type} (K:AV→Hp→Option β) (a0:AV) (a1:AV) (h:Hp):(Za2 [a0,a1] h).bind (fun p=>K p.1 p.2)=Z4f Try.prog Z7l Za1 NN K a0 a1 h:=by
 rw [← ZdF];exact Z05 rfl
noncomputable def Z7m:Fun:=quietT Za2
theorem ZqX:CSound Try.prog 24 Z7m:=Z1X ZqV
theorem ZqY {a0:AV} {a1:AV} {h:Hp} {g:List AObj} {v:AV} (hv:Z4f Try.prog Z7l Za1 NN (fun v h=>some (v,h)) a0 a1 h=some (v,h++g)) (hp:plain v=true):Z7m [a0,a1] h=some (v,h):=Z4c (F:=Za2) (((Z0V _).symm.trans (ZqW (fun v h=>some (v,h)) a0 a1 h)).trans hv) hp
noncomputable def Z1A:DTab:=(updD (updD D0 13 Zbm) 14 Zbz)
theorem ZqZ:DSound Try.prog Z1A:=(DSound.ro (DSound.ro DSound.zero Zo2 Zbl) Zqk Zfq)
@[simp] theorem Ztk:Z1A 13=some Zbm:=rfl
@[simp] theorem Ztl:Z1A 14=some Zbz:=rfl
noncomputable def Z15:Tab:=(updF (updF (updF (updF (updF (updF (updF (updF (updF (updF T0 9 Z7f) 13 Z1s) 14 Z4B) 16 Z11) 18 Z7g) 21 Z7h) 22 Z4s) 23 Z1y) 24 Z7m) 25 Z4D)
theorem Zr0:TSound Try.prog Z15:=(TSound.upd (TSound.upd (TSound.upd (TSound.upd (TSound.upd (TSound.upd (TSound.upd (TSound.upd (TSound.upd (TSound.upd TSound.zero Zqe) Zbl) Zfq) Z6R) Zqx) ZqD) ZeY) Zbh) ZqX) Zfr)
@[simp] theorem Zr1:Z15 9=some Z7f:=rfl
@[simp] theorem Ztm:Z15 13=some Z1s:=rfl
@[simp] theorem Zr2:Z15 14=some Z4B:=rfl
@[simp] theorem Zr3:Z15 16=some Z11:=rfl
@[simp] theorem Zr4:Z15 18=some Z7g:=rfl
@[simp] theorem Zr5:Z15 21=some Z7h:=rfl
@[simp] theorem Zr6:Z15 22=some Z4s:=rfl
@[simp] theorem Zr7:Z15 23=some Z1y:=rfl
@[simp] theorem Zr8:Z15 24=some Z7m:=rfl
@[simp] theorem Ztn:Z15 25=some Z4D:=rfl
noncomputable def Za3:Fun:=runF Try.prog Z15 Z1A NN [0,1,2,3,4,5,6,7,8,9,10,11,12,14,17,28,92,94] Try.f5 2
theorem Zr9:CSound Try.prog 5 Za3:=Z04 Zr0 ZqZ mixed Try.func5 (by kernel_rfl) NN
theorem Zra {β:Type} (K:AV→Hp→Option β) (a0:AV) (a1:AV) (h:Hp):(Za3 [a0,a1] h).bind (fun p=>K p.1 p.2)=Z7J Try.prog Z15 Z1A NN K a0 a1 h:=by
 rw [← ZiW];exact Z05 rfl
noncomputable def ZbA:Fun:=closedX [.a [none,some 2,some 7], .o] [.o] Za3
theorem F_law43_ReceiverOnce_ok:CSound Try.prog 5 ZbA:=Z0c _ _ Zr9
theorem Zrb {a0:AV} {a1:AV} {v:AV} (ha:plains [a0,a1]=true) (hv:Z7J Try.prog Z15 Z1A NN (fun v g=>cvt false g v) (nrm (.a [none,some 2,some 7]) a0) a1 []=some v) (h:Hp):ZbA [a0,a1] h=some (v,h):=by
 have e:(Za3 (nrms [.a [none,some 2,some 7], .o] [a0,a1]) []).bind (fun (p:AV × Hp)=>cvt false p.2 p.1)=some v:=(Zra (fun v g=>cvt false g v) (nrm (.a [none,some 2,some 7]) a0) a1 []).trans hv
 exact (Z0e (shr:=[.o]) ha e h).trans (congrArg (fun x=>some (x,h)) (Z0J 1 v))
end Go.AM


namespace Go.AM
set_option linter.unusedVariables false
set_option linter.unusedSimpArgs false
set_option linter.constructorNameAsVariable false
set_option maxRecDepth 30000
variable {β:Type} {P:Program} {kt:TypeId} {kk:IntKind}
end Go.AM


namespace Go.AM
set_option linter.unusedVariables false
def idOf:AV→Option Nat
 | .sl _ id .. => some id
 | _=>none
@[simp] theorem Zto (sz id off len fr:Nat) (full:Bool):idOf (.sl sz id off len fr full)=some id:=rfl
@[simp] theorem Ztp:idOf nilS=none:=rfl
def Gro {α:Type} (sz:Nat) (f:α→List AV) (h:Hp) (v:AV) (l:List α):Prop:=(l=[]∧v=nilS)∨(l≠[]∧∃k,v = .sl sz k 0 l.length l.length false∧h[k]? = some (.arr sz (l.map f) true false))
section
variable {α β:Type} {sz:Nat} {f:α→List AV} {h h':Hp} {v:AV} {l:List α}
theorem Gro.nil:Gro sz f h nilS [] := .inl ⟨rfl,rfl⟩
theorem Gro.keep (O:Gro sz f h v l) (hk:∀k o,idOf v=some k→h[k]? = some o→h'[k]? = some o):Gro sz f h' v l:=by
 rcases O with O | ⟨h1,k,rfl,h2⟩
 ·exact .inl O
 ·exact .inr ⟨h1,k,rfl,hk k _ rfl h2⟩
theorem Gro.app (O:Gro sz f h v l) (x:List AObj):Gro sz f (h++x) v l:=O.keep fun k o _ hk=>Z0b hk
theorem Gro.lt (O:Gro sz f h v l) {k:Nat} (hk:idOf v=some k):k<h.length:=by
 rcases O with ⟨_,rfl⟩ | ⟨h1,j,rfl,h2⟩
 ·simp at hk
 ·simp at hk;subst hk;exact (List.getElem?_eq_some_iff.1 h2).1
theorem Gro.len (O:Gro sz f h v l) (k:K β):lenK v k=k (I l.length):=by
 rcases O with ⟨rfl,rfl⟩ | ⟨h1,j,rfl,h2⟩<;>simp
theorem Gro.cvts (O:Gro sz f h v l) (hf:∀x st,(f x).all (fun c=>bif st then isS c else plain c)=true):∃w,(∀st,Go.AM.cvt st h v=some w)∧nrm (.l sz) w = .lst sz l.isEmpty (l.map f):=by
 rcases O with ⟨rfl,rfl⟩ | ⟨h1,k,rfl,h2⟩
 ·exact ⟨nilS,fun st=>rfl,rfl⟩
 ·have he:l.isEmpty=false:=by simpa using h1
  refine ⟨.lst sz false (l.map f),fun st=>Z0X h2 (by simp) (by simp) (Z0T fun x=>hf x st), ?_⟩
  rw [he];rfl
theorem Gro.snoc (β:Type) (O:Gro sz f h v l) {by_ m:Nat} {z:α} {b:Bool} (hm:h[m]? = some (.arr sz [f z] true false)) (hv:idOf v≠some m) (hf:∀x ∈ z::l,(f x).length=sz) (hl:(l.length+1) * by_≤140737488355328):
  ∃v' h',(∀k:AV→Hp→Option β,effK (appE sz by_ v (.sl sz m 0 1 1 b) h h.length) h k=k v' h')∧Gro sz f h' v' (l++[z])∧h.length≤h'.length∧(∀j o,h[j]? = some o→idOf v≠some j→h'[j]? = some o)∧(idOf v'=idOf v∨idOf v'=some h.length):=by
 have hz:(f z).length=sz:=hf z (by simp)
 rcases O with ⟨rfl,rfl⟩ | ⟨h1,k,rfl,h2⟩
 ·have hb:by_≤140737488355328:=by simpa using hl
  refine ⟨.sl sz h.length 0 1 1 false,h++[.arr sz [f z] true false],fun k => ?_, .inr ⟨by simp,h.length,rfl,by simp⟩,by simp,fun j o hj _=>Z0b hj, .inr rfl⟩
  simp [appE,readSl,hm,hz,hb,effK,ap]
 ·have hkl:=(List.getElem?_eq_some_iff.1 h2).1
  refine ⟨.sl sz k 0 (l++[z]).length (l++[z]).length false,h.set k (.arr sz ((l++[z]).map f) true false),fun k' => ?_, .inr ⟨by simp,k,rfl,by simp [hkl]⟩,by simp,fun j o hj hn => ?_, .inl rfl⟩
  ·simp [appE,readSl,hm,h2,hz,hl,effK,ap]
  ·have hkj:k≠j:=by rintro rfl;exact hn rfl
   rw [List.getElem?_set_ne hkj];exact hj
end
theorem Zrc {shp shr:List Sh} {F:Fun} {h:Hp} {args as' asl:List AV} {v:AV} {h0:Hp} (ha:cvts false h args=some as') (hn:nrms shp as'=nrms shp asl) (hp:plains asl=true) (hF:closedX shp shr F asl h0=some (v,h0)) (hs:scal v=true):closedX shp shr F args h=some (v,h):=by
 unfold closedX at hF ⊢
 rw [Z1V hp] at hF
 rw [ha]
 dsimp only at hF ⊢
 rw [hn]
 split at hF<;>try (simp at hF;done)
 rename_i w g hR
 split at hF<;>try (simp at hF;done)
 rename_i w' hw
 simp only [Option.some.injEq,Prod.mk.injEq] at hF
 obtain ⟨rfl, -⟩:=hF
 rw [hp,Bool.not_true] at hw
 have hw2:∀st,cvt st g w=some w':=fun st=>by
  cases st with
  | false=>exact hw
  | true=>exact Zdl hw (Zin hs)
 rw [hw2]
end Go.AM


namespace Go.AM
set_option linter.unusedVariables false
variable {α β:Type} {sz:Nat} {enc:α→List AV} {h:Hp}
structure Part (enc:α→List AV) (h:Hp) (p:AV × List α):Prop where
 read:readSl h p.1=some (p.2.map enc)
 len:lenK p.1 some=some (I p.2.length)
theorem Part.lenK {p:AV × List α} (q:Part enc h p) (k:K β):Go.AM.lenK p.1 k=k (I p.2.length):=by rw [ZbV,q.len];rfl
theorem Part.app {p:AV × List α} (q:Part enc h p) (g:List AObj):Part enc (h++g) p:=⟨Zau q.read fun id _ o ho=>Z0b ho,q.len⟩
theorem Part.nil:Part enc h (nilS,[]):=⟨rfl,rfl⟩
theorem Part.lst (sz:Nat) (b:Bool) (l:List α):Part enc h (.lst sz b (l.map enc),l):=⟨rfl,by simp⟩
theorem Part.sl {sz id n:Nat} {b nl:Bool} {l:List α} (hid:h[id]? = some (.arr sz (l.map enc) true nl)) (hn:l.length=n):Part enc h (.sl sz id 0 n n b,l):=by
 subst hn
 have ht:(l.map enc).take l.length=l.map enc:=List.take_of_length_le (by simp)
 exact ⟨by simp [readSl,hid,ht],by simp⟩
def flat (ps:List (AV × List α)):List α:=ps.flatMap (·.2)
end Go.AM
namespace Go.AM
def notBehind {α:Type} (bef:α→α→Bool):Option α→α→Bool
 | some q,p => !bef q p
 | none,_=>false
@[simp] theorem Ztq {α:Type} (bef:α→α→Bool) (q p:α):notBehind bef (some q) p = !bef q p:=rfl
@[simp] theorem Ztr {α:Type} (bef:α→α→Bool) (p:α):notBehind bef none p=false:=rfl
end Go.AM


namespace Go.AM
set_option linter.unusedVariables false
set_option linter.unusedSimpArgs false
section
variable {β:Type}
def Grm {α:Type} (sz:Nat) (f:α→List AV) (h:Hp) (v:AV) (l:List α):Prop:=∃k b,v = .sl sz k 0 l.length l.length b∧h[k]? = some (.arr sz (l.map f) true false)∧(b=true→l=[])
theorem Grm.keep {α:Type} {sz:Nat} {f:α→List AV} {h h':Hp} {v:AV} {l:List α} (O:Grm sz f h v l) (hk:∀k o,idOf v=some k→h[k]? = some o→h'[k]? = some o):Grm sz f h' v l:=by
 obtain ⟨k,b,rfl,h2,h3⟩:=O
 exact ⟨k,b,rfl,hk k _ rfl h2,h3⟩
theorem Grm.app {α:Type} {sz:Nat} {f:α→List AV} {h:Hp} {v:AV} {l:List α} (O:Grm sz f h v l) (x:List AObj):Grm sz f (h++x) v l:=O.keep fun k o _ hk=>Z0b hk
theorem Grm.lt {α:Type} {sz:Nat} {f:α→List AV} {h:Hp} {v:AV} {l:List α} (O:Grm sz f h v l):∃k,idOf v=some k∧k<h.length:=by
 obtain ⟨k,b,rfl,h2,h3⟩:=O
 exact ⟨k,rfl,(List.getElem?_eq_some_iff.1 h2).1⟩
theorem Grm.cvt {α:Type} {sz:Nat} {f:α→List AV} {h:Hp} {v:AV} {l:List α} (O:Grm sz f h v l) (hf:∀x st,(f x).all (fun c=>bif st then isS c else plain c)=true) (st:Bool):Go.AM.cvt st h v=some (.lst sz false (l.map f)):=by
 obtain ⟨k,b,rfl,h2,h3⟩:=O
 exact Z0X h2 (by simp) (by simp) (Z0T fun x=>hf x st)
theorem Grm.len {α:Type} {sz:Nat} {f:α→List AV} {h:Hp} {v:AV} {l:List α} (O:Grm sz f h v l) (k:Go.AM.K β):lenK v k=k (I l.length):=by
 obtain ⟨j,b,rfl,h2,h3⟩:=O
 simp
end
end Go.AM


namespace Go.AM
structure Msg where
 mv:Int
 kind:Int
 num:Int
 day:Int
 frm:Int
 to:Int
 alc:Int
deriving DecidableEq
def encM (m:Msg):List AV:=[I m.mv,I m.kind,I m.num,I m.day,I m.frm,I m.to,I m.alc]
structure Docu where
 mv:Int
 stage:Int
 frm:Int
 to:Int
 sent:Int
 got:Int
 chg:Int
deriving DecidableEq
def encDo (d:Docu):List AV:=[I d.mv,I d.stage,I d.frm,I d.to,I d.sent,I d.got,I d.chg]
section
variable {β:Type}
theorem Z0H {r:R} {v:AV} {id:Nat} {o:AObj} {ft:List Nat} {h:Hp} (hr:r=some (v,⟨[(id,o)],[],ft⟩)) (k:AV→Hp→Option β):effK r h k=k v (h.set id o):=by subst hr;simp [effK,ap]
theorem Z08 {r:R} {v:AV} {id:Nat} {o:AObj} {ft:List Nat} {h:Hp} (hr:r=some (v,⟨[(id,o)],[],ft⟩)) (k:AV→Hp→Ent→Option β):effD r h k=k v (h.set id o) (ft,[id]):=by subst hr;simp [effD,ap,wrOf]
theorem Z2N {a b c d e f g:AV} {t:Hp} {w n:Bool} (k:K β):ldK 1 false (.ptr 0 0 0 1) (.arr 7 [[a,b,c,d,e,f,g]] w n::t) k=k a:=rfl
theorem Z2O {a b c d e f g:AV} {x:Int} {t:Hp} {n:Bool} (k:AV→Hp→Option β):effK (stE 1 (.ptr 0 0 0 1) (.s (.int .i64 x)) (.arr 7 [[a,b,c,d,e,f,g]] true n::t)) (.arr 7 [[a,b,c,d,e,f,g]] true n::t) k=k .u (.arr 7 [[(.s (.int .i64 x)),b,c,d,e,f,g]] true n::t):=Z0H rfl k
theorem Z2P {a b c d e f g:AV} {x:Int} {t:Hp} {n:Bool} (k:AV→Hp→Ent→Option β):effD (stE 1 (.ptr 0 0 0 1) (.s (.int .i64 x)) (.arr 7 [[a,b,c,d,e,f,g]] true n::t)) (.arr 7 [[a,b,c,d,e,f,g]] true n::t) k=k .u (.arr 7 [[(.s (.int .i64 x)),b,c,d,e,f,g]] true n::t) ([0],[0]):=Z08 rfl k
theorem Z2Q {a b c d e f g:AV} {t:Hp} {w n:Bool} (k:K β):ldK 1 false (.ptr 0 0 1 1) (.arr 7 [[a,b,c,d,e,f,g]] w n::t) k=k b:=rfl
theorem Z2R {a b c d e f g:AV} {x:Int} {t:Hp} {n:Bool} (k:AV→Hp→Option β):effK (stE 1 (.ptr 0 0 1 1) (.s (.int .i64 x)) (.arr 7 [[a,b,c,d,e,f,g]] true n::t)) (.arr 7 [[a,b,c,d,e,f,g]] true n::t) k=k .u (.arr 7 [[a,(.s (.int .i64 x)),c,d,e,f,g]] true n::t):=Z0H rfl k
theorem Z2S {a b c d e f g:AV} {x:Int} {t:Hp} {n:Bool} (k:AV→Hp→Ent→Option β):effD (stE 1 (.ptr 0 0 1 1) (.s (.int .i64 x)) (.arr 7 [[a,b,c,d,e,f,g]] true n::t)) (.arr 7 [[a,b,c,d,e,f,g]] true n::t) k=k .u (.arr 7 [[a,(.s (.int .i64 x)),c,d,e,f,g]] true n::t) ([0],[0]):=Z08 rfl k
theorem Z2T {a b c d e f g:AV} {t:Hp} {w n:Bool} (k:K β):ldK 1 false (.ptr 0 0 2 1) (.arr 7 [[a,b,c,d,e,f,g]] w n::t) k=k c:=rfl
theorem Z2U {a b c d e f g:AV} {x:Int} {t:Hp} {n:Bool} (k:AV→Hp→Option β):effK (stE 1 (.ptr 0 0 2 1) (.s (.int .i64 x)) (.arr 7 [[a,b,c,d,e,f,g]] true n::t)) (.arr 7 [[a,b,c,d,e,f,g]] true n::t) k=k .u (.arr 7 [[a,b,(.s (.int .i64 x)),d,e,f,g]] true n::t):=Z0H rfl k
theorem Z2V {a b c d e f g:AV} {x:Int} {t:Hp} {n:Bool} (k:AV→Hp→Ent→Option β):effD (stE 1 (.ptr 0 0 2 1) (.s (.int .i64 x)) (.arr 7 [[a,b,c,d,e,f,g]] true n::t)) (.arr 7 [[a,b,c,d,e,f,g]] true n::t) k=k .u (.arr 7 [[a,b,(.s (.int .i64 x)),d,e,f,g]] true n::t) ([0],[0]):=Z08 rfl k
theorem Z2W {a b c d e f g:AV} {t:Hp} {w n:Bool} (k:K β):ldK 1 false (.ptr 0 0 3 1) (.arr 7 [[a,b,c,d,e,f,g]] w n::t) k=k d:=rfl
theorem Z2X {a b c d e f g:AV} {x:Int} {t:Hp} {n:Bool} (k:AV→Hp→Option β):effK (stE 1 (.ptr 0 0 3 1) (.s (.int .i64 x)) (.arr 7 [[a,b,c,d,e,f,g]] true n::t)) (.arr 7 [[a,b,c,d,e,f,g]] true n::t) k=k .u (.arr 7 [[a,b,c,(.s (.int .i64 x)),e,f,g]] true n::t):=Z0H rfl k
theorem Z2Y {a b c d e f g:AV} {x:Int} {t:Hp} {n:Bool} (k:AV→Hp→Ent→Option β):effD (stE 1 (.ptr 0 0 3 1) (.s (.int .i64 x)) (.arr 7 [[a,b,c,d,e,f,g]] true n::t)) (.arr 7 [[a,b,c,d,e,f,g]] true n::t) k=k .u (.arr 7 [[a,b,c,(.s (.int .i64 x)),e,f,g]] true n::t) ([0],[0]):=Z08 rfl k
theorem Z2Z {a b c d e f g:AV} {t:Hp} {w n:Bool} (k:K β):ldK 1 false (.ptr 0 0 4 1) (.arr 7 [[a,b,c,d,e,f,g]] w n::t) k=k e:=rfl
theorem Z30 {a b c d e f g:AV} {x:Int} {t:Hp} {n:Bool} (k:AV→Hp→Option β):effK (stE 1 (.ptr 0 0 4 1) (.s (.int .i64 x)) (.arr 7 [[a,b,c,d,e,f,g]] true n::t)) (.arr 7 [[a,b,c,d,e,f,g]] true n::t) k=k .u (.arr 7 [[a,b,c,d,(.s (.int .i64 x)),f,g]] true n::t):=Z0H rfl k
theorem Z31 {a b c d e f g:AV} {x:Int} {t:Hp} {n:Bool} (k:AV→Hp→Ent→Option β):effD (stE 1 (.ptr 0 0 4 1) (.s (.int .i64 x)) (.arr 7 [[a,b,c,d,e,f,g]] true n::t)) (.arr 7 [[a,b,c,d,e,f,g]] true n::t) k=k .u (.arr 7 [[a,b,c,d,(.s (.int .i64 x)),f,g]] true n::t) ([0],[0]):=Z08 rfl k
theorem Z32 {a b c d e f g:AV} {t:Hp} {w n:Bool} (k:K β):ldK 1 false (.ptr 0 0 5 1) (.arr 7 [[a,b,c,d,e,f,g]] w n::t) k=k f:=rfl
theorem Z33 {a b c d e f g:AV} {x:Int} {t:Hp} {n:Bool} (k:AV→Hp→Option β):effK (stE 1 (.ptr 0 0 5 1) (.s (.int .i64 x)) (.arr 7 [[a,b,c,d,e,f,g]] true n::t)) (.arr 7 [[a,b,c,d,e,f,g]] true n::t) k=k .u (.arr 7 [[a,b,c,d,e,(.s (.int .i64 x)),g]] true n::t):=Z0H rfl k
theorem Z34 {a b c d e f g:AV} {x:Int} {t:Hp} {n:Bool} (k:AV→Hp→Ent→Option β):effD (stE 1 (.ptr 0 0 5 1) (.s (.int .i64 x)) (.arr 7 [[a,b,c,d,e,f,g]] true n::t)) (.arr 7 [[a,b,c,d,e,f,g]] true n::t) k=k .u (.arr 7 [[a,b,c,d,e,(.s (.int .i64 x)),g]] true n::t) ([0],[0]):=Z08 rfl k
theorem Z35 {a b c d e f g:AV} {t:Hp} {w n:Bool} (k:K β):ldK 1 false (.ptr 0 0 6 1) (.arr 7 [[a,b,c,d,e,f,g]] w n::t) k=k g:=rfl
theorem Z36 {a b c d e f g:AV} {x:Int} {t:Hp} {n:Bool} (k:AV→Hp→Option β):effK (stE 1 (.ptr 0 0 6 1) (.s (.int .i64 x)) (.arr 7 [[a,b,c,d,e,f,g]] true n::t)) (.arr 7 [[a,b,c,d,e,f,g]] true n::t) k=k .u (.arr 7 [[a,b,c,d,e,f,(.s (.int .i64 x))]] true n::t):=Z0H rfl k
theorem Z37 {a b c d e f g:AV} {x:Int} {t:Hp} {n:Bool} (k:AV→Hp→Ent→Option β):effD (stE 1 (.ptr 0 0 6 1) (.s (.int .i64 x)) (.arr 7 [[a,b,c,d,e,f,g]] true n::t)) (.arr 7 [[a,b,c,d,e,f,g]] true n::t) k=k .u (.arr 7 [[a,b,c,d,e,f,(.s (.int .i64 x))]] true n::t) ([0],[0]):=Z08 rfl k
theorem lw7_0 {a b c d e f g:AV} {t:Hp} {w n:Bool} (k:K β):ldK 7 true (.ptr 0 0 0 1) (.arr 7 [[a,b,c,d,e,f,g]] w n::t) k=k (.agg [a,b,c,d,e,f,g]):=rfl
theorem ew7_0 {a b c d e f g:AV} {x0 x1 x2 x3 x4 x5 x6:Int} {t:Hp} {n:Bool} (k:AV→Hp→Option β):effK (stE 7 (.ptr 0 0 0 1) (.agg [(.s (.int .i64 x0)),(.s (.int .i64 x1)),(.s (.int .i64 x2)),(.s (.int .i64 x3)),(.s (.int .i64 x4)),(.s (.int .i64 x5)),(.s (.int .i64 x6))]) (.arr 7 [[a,b,c,d,e,f,g]] true n::t)) (.arr 7 [[a,b,c,d,e,f,g]] true n::t) k=k .u (.arr 7 [[(.s (.int .i64 x0)),(.s (.int .i64 x1)),(.s (.int .i64 x2)),(.s (.int .i64 x3)),(.s (.int .i64 x4)),(.s (.int .i64 x5)),(.s (.int .i64 x6))]] true n::t):=Z0H rfl k
theorem bx7_0 {x0 x1 x2 x3 x4 x5 x6:Int} (k:AV→Hp→Option β):effK (boxE 7 (.agg [(.s (.int .i64 x0)),(.s (.int .i64 x1)),(.s (.int .i64 x2)),(.s (.int .i64 x3)),(.s (.int .i64 x4)),(.s (.int .i64 x5)),(.s (.int .i64 x6))]) ([]:Hp).length) [] k=k (.ptr 0 0 0 1) [.arr 7 [[(.s (.int .i64 x0)),(.s (.int .i64 x1)),(.s (.int .i64 x2)),(.s (.int .i64 x3)),(.s (.int .i64 x4)),(.s (.int .i64 x5)),(.s (.int .i64 x6))]] true false]:=rfl
theorem Z38 {o0:AObj} {a b c d e f g:AV} {t:Hp} {w n:Bool} (k:K β):ldK 1 false (.ptr 1 0 0 1) (o0 :: .arr 7 [[a,b,c,d,e,f,g]] w n::t) k=k a:=rfl
theorem Z39 {o0:AObj} {a b c d e f g:AV} {x:Int} {t:Hp} {n:Bool} (k:AV→Hp→Option β):effK (stE 1 (.ptr 1 0 0 1) (.s (.int .i64 x)) (o0 :: .arr 7 [[a,b,c,d,e,f,g]] true n::t)) (o0 :: .arr 7 [[a,b,c,d,e,f,g]] true n::t) k=k .u (o0 :: .arr 7 [[(.s (.int .i64 x)),b,c,d,e,f,g]] true n::t):=Z0H rfl k
theorem Z3a {o0:AObj} {a b c d e f g:AV} {x:Int} {t:Hp} {n:Bool} (k:AV→Hp→Ent→Option β):effD (stE 1 (.ptr 1 0 0 1) (.s (.int .i64 x)) (o0 :: .arr 7 [[a,b,c,d,e,f,g]] true n::t)) (o0 :: .arr 7 [[a,b,c,d,e,f,g]] true n::t) k=k .u (o0 :: .arr 7 [[(.s (.int .i64 x)),b,c,d,e,f,g]] true n::t) ([1],[1]):=Z08 rfl k
theorem Z3b {o0:AObj} {a b c d e f g:AV} {t:Hp} {w n:Bool} (k:K β):ldK 1 false (.ptr 1 0 1 1) (o0 :: .arr 7 [[a,b,c,d,e,f,g]] w n::t) k=k b:=rfl
theorem Z3c {o0:AObj} {a b c d e f g:AV} {x:Int} {t:Hp} {n:Bool} (k:AV→Hp→Option β):effK (stE 1 (.ptr 1 0 1 1) (.s (.int .i64 x)) (o0 :: .arr 7 [[a,b,c,d,e,f,g]] true n::t)) (o0 :: .arr 7 [[a,b,c,d,e,f,g]] true n::t) k=k .u (o0 :: .arr 7 [[a,(.s (.int .i64 x)),c,d,e,f,g]] true n::t):=Z0H rfl k
theorem Z3d {o0:AObj} {a b c d e f g:AV} {x:Int} {t:Hp} {n:Bool} (k:AV→Hp→Ent→Option β):effD (stE 1 (.ptr 1 0 1 1) (.s (.int .i64 x)) (o0 :: .arr 7 [[a,b,c,d,e,f,g]] true n::t)) (o0 :: .arr 7 [[a,b,c,d,e,f,g]] true n::t) k=k .u (o0 :: .arr 7 [[a,(.s (.int .i64 x)),c,d,e,f,g]] true n::t) ([1],[1]):=Z08 rfl k
theorem Z3e {o0:AObj} {a b c d e f g:AV} {t:Hp} {w n:Bool} (k:K β):ldK 1 false (.ptr 1 0 2 1) (o0 :: .arr 7 [[a,b,c,d,e,f,g]] w n::t) k=k c:=rfl
theorem Z3f {o0:AObj} {a b c d e f g:AV} {x:Int} {t:Hp} {n:Bool} (k:AV→Hp→Option β):effK (stE 1 (.ptr 1 0 2 1) (.s (.int .i64 x)) (o0 :: .arr 7 [[a,b,c,d,e,f,g]] true n::t)) (o0 :: .arr 7 [[a,b,c,d,e,f,g]] true n::t) k=k .u (o0 :: .arr 7 [[a,b,(.s (.int .i64 x)),d,e,f,g]] true n::t):=Z0H rfl k
theorem Z3g {o0:AObj} {a b c d e f g:AV} {x:Int} {t:Hp} {n:Bool} (k:AV→Hp→Ent→Option β):effD (stE 1 (.ptr 1 0 2 1) (.s (.int .i64 x)) (o0 :: .arr 7 [[a,b,c,d,e,f,g]] true n::t)) (o0 :: .arr 7 [[a,b,c,d,e,f,g]] true n::t) k=k .u (o0 :: .arr 7 [[a,b,(.s (.int .i64 x)),d,e,f,g]] true n::t) ([1],[1]):=Z08 rfl k
theorem Z3h {o0:AObj} {a b c d e f g:AV} {t:Hp} {w n:Bool} (k:K β):ldK 1 false (.ptr 1 0 3 1) (o0 :: .arr 7 [[a,b,c,d,e,f,g]] w n::t) k=k d:=rfl
theorem Z3i {o0:AObj} {a b c d e f g:AV} {x:Int} {t:Hp} {n:Bool} (k:AV→Hp→Option β):effK (stE 1 (.ptr 1 0 3 1) (.s (.int .i64 x)) (o0 :: .arr 7 [[a,b,c,d,e,f,g]] true n::t)) (o0 :: .arr 7 [[a,b,c,d,e,f,g]] true n::t) k=k .u (o0 :: .arr 7 [[a,b,c,(.s (.int .i64 x)),e,f,g]] true n::t):=Z0H rfl k
theorem Z3j {o0:AObj} {a b c d e f g:AV} {x:Int} {t:Hp} {n:Bool} (k:AV→Hp→Ent→Option β):effD (stE 1 (.ptr 1 0 3 1) (.s (.int .i64 x)) (o0 :: .arr 7 [[a,b,c,d,e,f,g]] true n::t)) (o0 :: .arr 7 [[a,b,c,d,e,f,g]] true n::t) k=k .u (o0 :: .arr 7 [[a,b,c,(.s (.int .i64 x)),e,f,g]] true n::t) ([1],[1]):=Z08 rfl k
theorem Z3k {o0:AObj} {a b c d e f g:AV} {t:Hp} {w n:Bool} (k:K β):ldK 1 false (.ptr 1 0 4 1) (o0 :: .arr 7 [[a,b,c,d,e,f,g]] w n::t) k=k e:=rfl
theorem Z3l {o0:AObj} {a b c d e f g:AV} {x:Int} {t:Hp} {n:Bool} (k:AV→Hp→Option β):effK (stE 1 (.ptr 1 0 4 1) (.s (.int .i64 x)) (o0 :: .arr 7 [[a,b,c,d,e,f,g]] true n::t)) (o0 :: .arr 7 [[a,b,c,d,e,f,g]] true n::t) k=k .u (o0 :: .arr 7 [[a,b,c,d,(.s (.int .i64 x)),f,g]] true n::t):=Z0H rfl k
theorem Z3m {o0:AObj} {a b c d e f g:AV} {x:Int} {t:Hp} {n:Bool} (k:AV→Hp→Ent→Option β):effD (stE 1 (.ptr 1 0 4 1) (.s (.int .i64 x)) (o0 :: .arr 7 [[a,b,c,d,e,f,g]] true n::t)) (o0 :: .arr 7 [[a,b,c,d,e,f,g]] true n::t) k=k .u (o0 :: .arr 7 [[a,b,c,d,(.s (.int .i64 x)),f,g]] true n::t) ([1],[1]):=Z08 rfl k
theorem Z3n {o0:AObj} {a b c d e f g:AV} {t:Hp} {w n:Bool} (k:K β):ldK 1 false (.ptr 1 0 5 1) (o0 :: .arr 7 [[a,b,c,d,e,f,g]] w n::t) k=k f:=rfl
theorem Z3o {o0:AObj} {a b c d e f g:AV} {x:Int} {t:Hp} {n:Bool} (k:AV→Hp→Option β):effK (stE 1 (.ptr 1 0 5 1) (.s (.int .i64 x)) (o0 :: .arr 7 [[a,b,c,d,e,f,g]] true n::t)) (o0 :: .arr 7 [[a,b,c,d,e,f,g]] true n::t) k=k .u (o0 :: .arr 7 [[a,b,c,d,e,(.s (.int .i64 x)),g]] true n::t):=Z0H rfl k
theorem Z3p {o0:AObj} {a b c d e f g:AV} {x:Int} {t:Hp} {n:Bool} (k:AV→Hp→Ent→Option β):effD (stE 1 (.ptr 1 0 5 1) (.s (.int .i64 x)) (o0 :: .arr 7 [[a,b,c,d,e,f,g]] true n::t)) (o0 :: .arr 7 [[a,b,c,d,e,f,g]] true n::t) k=k .u (o0 :: .arr 7 [[a,b,c,d,e,(.s (.int .i64 x)),g]] true n::t) ([1],[1]):=Z08 rfl k
theorem Z3q {o0:AObj} {a b c d e f g:AV} {t:Hp} {w n:Bool} (k:K β):ldK 1 false (.ptr 1 0 6 1) (o0 :: .arr 7 [[a,b,c,d,e,f,g]] w n::t) k=k g:=rfl
theorem Z3r {o0:AObj} {a b c d e f g:AV} {x:Int} {t:Hp} {n:Bool} (k:AV→Hp→Option β):effK (stE 1 (.ptr 1 0 6 1) (.s (.int .i64 x)) (o0 :: .arr 7 [[a,b,c,d,e,f,g]] true n::t)) (o0 :: .arr 7 [[a,b,c,d,e,f,g]] true n::t) k=k .u (o0 :: .arr 7 [[a,b,c,d,e,f,(.s (.int .i64 x))]] true n::t):=Z0H rfl k
theorem Z3s {o0:AObj} {a b c d e f g:AV} {x:Int} {t:Hp} {n:Bool} (k:AV→Hp→Ent→Option β):effD (stE 1 (.ptr 1 0 6 1) (.s (.int .i64 x)) (o0 :: .arr 7 [[a,b,c,d,e,f,g]] true n::t)) (o0 :: .arr 7 [[a,b,c,d,e,f,g]] true n::t) k=k .u (o0 :: .arr 7 [[a,b,c,d,e,f,(.s (.int .i64 x))]] true n::t) ([1],[1]):=Z08 rfl k
theorem lw7_1 {o0:AObj} {a b c d e f g:AV} {t:Hp} {w n:Bool} (k:K β):ldK 7 true (.ptr 1 0 0 1) (o0 :: .arr 7 [[a,b,c,d,e,f,g]] w n::t) k=k (.agg [a,b,c,d,e,f,g]):=rfl
theorem ew7_1 {o0:AObj} {a b c d e f g:AV} {x0 x1 x2 x3 x4 x5 x6:Int} {t:Hp} {n:Bool} (k:AV→Hp→Option β):effK (stE 7 (.ptr 1 0 0 1) (.agg [(.s (.int .i64 x0)),(.s (.int .i64 x1)),(.s (.int .i64 x2)),(.s (.int .i64 x3)),(.s (.int .i64 x4)),(.s (.int .i64 x5)),(.s (.int .i64 x6))]) (o0 :: .arr 7 [[a,b,c,d,e,f,g]] true n::t)) (o0 :: .arr 7 [[a,b,c,d,e,f,g]] true n::t) k=k .u (o0 :: .arr 7 [[(.s (.int .i64 x0)),(.s (.int .i64 x1)),(.s (.int .i64 x2)),(.s (.int .i64 x3)),(.s (.int .i64 x4)),(.s (.int .i64 x5)),(.s (.int .i64 x6))]] true n::t):=Z0H rfl k
theorem bx7_1 {o0:AObj} {x0 x1 x2 x3 x4 x5 x6:Int} (k:AV→Hp→Option β):effK (boxE 7 (.agg [(.s (.int .i64 x0)),(.s (.int .i64 x1)),(.s (.int .i64 x2)),(.s (.int .i64 x3)),(.s (.int .i64 x4)),(.s (.int .i64 x5)),(.s (.int .i64 x6))]) ([o0]:Hp).length) [o0] k=k (.ptr 1 0 0 1) [o0, .arr 7 [[(.s (.int .i64 x0)),(.s (.int .i64 x1)),(.s (.int .i64 x2)),(.s (.int .i64 x3)),(.s (.int .i64 x4)),(.s (.int .i64 x5)),(.s (.int .i64 x6))]] true false]:=rfl
theorem Z3t {o0:AObj} {o1:AObj} {a b c d e f g:AV} {t:Hp} {w n:Bool} (k:K β):ldK 1 false (.ptr 2 0 0 1) (o0::o1 :: .arr 7 [[a,b,c,d,e,f,g]] w n::t) k=k a:=rfl
theorem Z3u {o0:AObj} {o1:AObj} {a b c d e f g:AV} {x:Int} {t:Hp} {n:Bool} (k:AV→Hp→Option β):effK (stE 1 (.ptr 2 0 0 1) (.s (.int .i64 x)) (o0::o1 :: .arr 7 [[a,b,c,d,e,f,g]] true n::t)) (o0::o1 :: .arr 7 [[a,b,c,d,e,f,g]] true n::t) k=k .u (o0::o1 :: .arr 7 [[(.s (.int .i64 x)),b,c,d,e,f,g]] true n::t):=Z0H rfl k
theorem Z3v {o0:AObj} {o1:AObj} {a b c d e f g:AV} {x:Int} {t:Hp} {n:Bool} (k:AV→Hp→Ent→Option β):effD (stE 1 (.ptr 2 0 0 1) (.s (.int .i64 x)) (o0::o1 :: .arr 7 [[a,b,c,d,e,f,g]] true n::t)) (o0::o1 :: .arr 7 [[a,b,c,d,e,f,g]] true n::t) k=k .u (o0::o1 :: .arr 7 [[(.s (.int .i64 x)),b,c,d,e,f,g]] true n::t) ([2],[2]):=Z08 rfl k
theorem Z3w {o0:AObj} {o1:AObj} {a b c d e f g:AV} {t:Hp} {w n:Bool} (k:K β):ldK 1 false (.ptr 2 0 1 1) (o0::o1 :: .arr 7 [[a,b,c,d,e,f,g]] w n::t) k=k b:=rfl
theorem Z3x {o0:AObj} {o1:AObj} {a b c d e f g:AV} {x:Int} {t:Hp} {n:Bool} (k:AV→Hp→Option β):effK (stE 1 (.ptr 2 0 1 1) (.s (.int .i64 x)) (o0::o1 :: .arr 7 [[a,b,c,d,e,f,g]] true n::t)) (o0::o1 :: .arr 7 [[a,b,c,d,e,f,g]] true n::t) k=k .u (o0::o1 :: .arr 7 [[a,(.s (.int .i64 x)),c,d,e,f,g]] true n::t):=Z0H rfl k
theorem Z3y {o0:AObj} {o1:AObj} {a b c d e f g:AV} {x:Int} {t:Hp} {n:Bool} (k:AV→Hp→Ent→Option β):effD (stE 1 (.ptr 2 0 1 1) (.s (.int .i64 x)) (o0::o1 :: .arr 7 [[a,b,c,d,e,f,g]] true n::t)) (o0::o1 :: .arr 7 [[a,b,c,d,e,f,g]] true n::t) k=k .u (o0::o1 :: .arr 7 [[a,(.s (.int .i64 x)),c,d,e,f,g]] true n::t) ([2],[2]):=Z08 rfl k
theorem Z3z {o0:AObj} {o1:AObj} {a b c d e f g:AV} {t:Hp} {w n:Bool} (k:K β):ldK 1 false (.ptr 2 0 2 1) (o0::o1 :: .arr 7 [[a,b,c,d,e,f,g]] w n::t) k=k c:=rfl
theorem Z3A {o0:AObj} {o1:AObj} {a b c d e f g:AV} {x:Int} {t:Hp} {n:Bool} (k:AV→Hp→Option β):effK (stE 1 (.ptr 2 0 2 1) (.s (.int .i64 x)) (o0::o1 :: .arr 7 [[a,b,c,d,e,f,g]] true n::t)) (o0::o1 :: .arr 7 [[a,b,c,d,e,f,g]] true n::t) k=k .u (o0::o1 :: .arr 7 [[a,b,(.s (.int .i64 x)),d,e,f,g]] true n::t):=Z0H rfl k
theorem Z3B {o0:AObj} {o1:AObj} {a b c d e f g:AV} {x:Int} {t:Hp} {n:Bool} (k:AV→Hp→Ent→Option β):effD (stE 1 (.ptr 2 0 2 1) (.s (.int .i64 x)) (o0::o1 :: .arr 7 [[a,b,c,d,e,f,g]] true n::t)) (o0::o1 :: .arr 7 [[a,b,c,d,e,f,g]] true n::t) k=k .u (o0::o1 :: .arr 7 [[a,b,(.s (.int .i64 x)),d,e,f,g]] true n::t) ([2],[2]):=Z08 rfl k
theorem Z3C {o0:AObj} {o1:AObj} {a b c d e f g:AV} {t:Hp} {w n:Bool} (k:K β):ldK 1 false (.ptr 2 0 3 1) (o0::o1 :: .arr 7 [[a,b,c,d,e,f,g]] w n::t) k=k d:=rfl
theorem Z3D {o0:AObj} {o1:AObj} {a b c d e f g:AV} {x:Int} {t:Hp} {n:Bool} (k:AV→Hp→Option β):effK (stE 1 (.ptr 2 0 3 1) (.s (.int .i64 x)) (o0::o1 :: .arr 7 [[a,b,c,d,e,f,g]] true n::t)) (o0::o1 :: .arr 7 [[a,b,c,d,e,f,g]] true n::t) k=k .u (o0::o1 :: .arr 7 [[a,b,c,(.s (.int .i64 x)),e,f,g]] true n::t):=Z0H rfl k
theorem Z3E {o0:AObj} {o1:AObj} {a b c d e f g:AV} {x:Int} {t:Hp} {n:Bool} (k:AV→Hp→Ent→Option β):effD (stE 1 (.ptr 2 0 3 1) (.s (.int .i64 x)) (o0::o1 :: .arr 7 [[a,b,c,d,e,f,g]] true n::t)) (o0::o1 :: .arr 7 [[a,b,c,d,e,f,g]] true n::t) k=k .u (o0::o1 :: .arr 7 [[a,b,c,(.s (.int .i64 x)),e,f,g]] true n::t) ([2],[2]):=Z08 rfl k
theorem Z3F {o0:AObj} {o1:AObj} {a b c d e f g:AV} {t:Hp} {w n:Bool} (k:K β):ldK 1 false (.ptr 2 0 4 1) (o0::o1 :: .arr 7 [[a,b,c,d,e,f,g]] w n::t) k=k e:=rfl
theorem Z3G {o0:AObj} {o1:AObj} {a b c d e f g:AV} {x:Int} {t:Hp} {n:Bool} (k:AV→Hp→Option β):effK (stE 1 (.ptr 2 0 4 1) (.s (.int .i64 x)) (o0::o1 :: .arr 7 [[a,b,c,d,e,f,g]] true n::t)) (o0::o1 :: .arr 7 [[a,b,c,d,e,f,g]] true n::t) k=k .u (o0::o1 :: .arr 7 [[a,b,c,d,(.s (.int .i64 x)),f,g]] true n::t):=Z0H rfl k
theorem Z3H {o0:AObj} {o1:AObj} {a b c d e f g:AV} {x:Int} {t:Hp} {n:Bool} (k:AV→Hp→Ent→Option β):effD (stE 1 (.ptr 2 0 4 1) (.s (.int .i64 x)) (o0::o1 :: .arr 7 [[a,b,c,d,e,f,g]] true n::t)) (o0::o1 :: .arr 7 [[a,b,c,d,e,f,g]] true n::t) k=k .u (o0::o1 :: .arr 7 [[a,b,c,d,(.s (.int .i64 x)),f,g]] true n::t) ([2],[2]):=Z08 rfl k
theorem Z3I {o0:AObj} {o1:AObj} {a b c d e f g:AV} {t:Hp} {w n:Bool} (k:K β):ldK 1 false (.ptr 2 0 5 1) (o0::o1 :: .arr 7 [[a,b,c,d,e,f,g]] w n::t) k=k f:=rfl
theorem Z3J {o0:AObj} {o1:AObj} {a b c d e f g:AV} {x:Int} {t:Hp} {n:Bool} (k:AV→Hp→Option β):effK (stE 1 (.ptr 2 0 5 1) (.s (.int .i64 x)) (o0::o1 :: .arr 7 [[a,b,c,d,e,f,g]] true n::t)) (o0::o1 :: .arr 7 [[a,b,c,d,e,f,g]] true n::t) k=k .u (o0::o1 :: .arr 7 [[a,b,c,d,e,(.s (.int .i64 x)),g]] true n::t):=Z0H rfl k
theorem Z3K {o0:AObj} {o1:AObj} {a b c d e f g:AV} {x:Int} {t:Hp} {n:Bool} (k:AV→Hp→Ent→Option β):effD (stE 1 (.ptr 2 0 5 1) (.s (.int .i64 x)) (o0::o1 :: .arr 7 [[a,b,c,d,e,f,g]] true n::t)) (o0::o1 :: .arr 7 [[a,b,c,d,e,f,g]] true n::t) k=k .u (o0::o1 :: .arr 7 [[a,b,c,d,e,(.s (.int .i64 x)),g]] true n::t) ([2],[2]):=Z08 rfl k
theorem Z3L {o0:AObj} {o1:AObj} {a b c d e f g:AV} {t:Hp} {w n:Bool} (k:K β):ldK 1 false (.ptr 2 0 6 1) (o0::o1 :: .arr 7 [[a,b,c,d,e,f,g]] w n::t) k=k g:=rfl
theorem Z3M {o0:AObj} {o1:AObj} {a b c d e f g:AV} {x:Int} {t:Hp} {n:Bool} (k:AV→Hp→Option β):effK (stE 1 (.ptr 2 0 6 1) (.s (.int .i64 x)) (o0::o1 :: .arr 7 [[a,b,c,d,e,f,g]] true n::t)) (o0::o1 :: .arr 7 [[a,b,c,d,e,f,g]] true n::t) k=k .u (o0::o1 :: .arr 7 [[a,b,c,d,e,f,(.s (.int .i64 x))]] true n::t):=Z0H rfl k
theorem Z3N {o0:AObj} {o1:AObj} {a b c d e f g:AV} {x:Int} {t:Hp} {n:Bool} (k:AV→Hp→Ent→Option β):effD (stE 1 (.ptr 2 0 6 1) (.s (.int .i64 x)) (o0::o1 :: .arr 7 [[a,b,c,d,e,f,g]] true n::t)) (o0::o1 :: .arr 7 [[a,b,c,d,e,f,g]] true n::t) k=k .u (o0::o1 :: .arr 7 [[a,b,c,d,e,f,(.s (.int .i64 x))]] true n::t) ([2],[2]):=Z08 rfl k
theorem lw7_2 {o0:AObj} {o1:AObj} {a b c d e f g:AV} {t:Hp} {w n:Bool} (k:K β):ldK 7 true (.ptr 2 0 0 1) (o0::o1 :: .arr 7 [[a,b,c,d,e,f,g]] w n::t) k=k (.agg [a,b,c,d,e,f,g]):=rfl
theorem ew7_2 {o0:AObj} {o1:AObj} {a b c d e f g:AV} {x0 x1 x2 x3 x4 x5 x6:Int} {t:Hp} {n:Bool} (k:AV→Hp→Option β):effK (stE 7 (.ptr 2 0 0 1) (.agg [(.s (.int .i64 x0)),(.s (.int .i64 x1)),(.s (.int .i64 x2)),(.s (.int .i64 x3)),(.s (.int .i64 x4)),(.s (.int .i64 x5)),(.s (.int .i64 x6))]) (o0::o1 :: .arr 7 [[a,b,c,d,e,f,g]] true n::t)) (o0::o1 :: .arr 7 [[a,b,c,d,e,f,g]] true n::t) k=k .u (o0::o1 :: .arr 7 [[(.s (.int .i64 x0)),(.s (.int .i64 x1)),(.s (.int .i64 x2)),(.s (.int .i64 x3)),(.s (.int .i64 x4)),(.s (.int .i64 x5)),(.s (.int .i64 x6))]] true n::t):=Z0H rfl k
theorem bx7_2 {o0:AObj} {o1:AObj} {x0 x1 x2 x3 x4 x5 x6:Int} (k:AV→Hp→Option β):effK (boxE 7 (.agg [(.s (.int .i64 x0)),(.s (.int .i64 x1)),(.s (.int .i64 x2)),(.s (.int .i64 x3)),(.s (.int .i64 x4)),(.s (.int .i64 x5)),(.s (.int .i64 x6))]) ([o0,o1]:Hp).length) [o0,o1] k=k (.ptr 2 0 0 1) [o0,o1, .arr 7 [[(.s (.int .i64 x0)),(.s (.int .i64 x1)),(.s (.int .i64 x2)),(.s (.int .i64 x3)),(.s (.int .i64 x4)),(.s (.int .i64 x5)),(.s (.int .i64 x6))]] true false]:=rfl
theorem Z3O {o0:AObj} {o1:AObj} {o2:AObj} {a b c d e f g:AV} {t:Hp} {w n:Bool} (k:K β):ldK 1 false (.ptr 3 0 0 1) (o0::o1::o2 :: .arr 7 [[a,b,c,d,e,f,g]] w n::t) k=k a:=rfl
theorem Z3P {o0:AObj} {o1:AObj} {o2:AObj} {a b c d e f g:AV} {x:Int} {t:Hp} {n:Bool} (k:AV→Hp→Option β):effK (stE 1 (.ptr 3 0 0 1) (.s (.int .i64 x)) (o0::o1::o2 :: .arr 7 [[a,b,c,d,e,f,g]] true n::t)) (o0::o1::o2 :: .arr 7 [[a,b,c,d,e,f,g]] true n::t) k=k .u (o0::o1::o2 :: .arr 7 [[(.s (.int .i64 x)),b,c,d,e,f,g]] true n::t):=Z0H rfl k
theorem Z3Q {o0:AObj} {o1:AObj} {o2:AObj} {a b c d e f g:AV} {x:Int} {t:Hp} {n:Bool} (k:AV→Hp→Ent→Option β):effD (stE 1 (.ptr 3 0 0 1) (.s (.int .i64 x)) (o0::o1::o2 :: .arr 7 [[a,b,c,d,e,f,g]] true n::t)) (o0::o1::o2 :: .arr 7 [[a,b,c,d,e,f,g]] true n::t) k=k .u (o0::o1::o2 :: .arr 7 [[(.s (.int .i64 x)),b,c,d,e,f,g]] true n::t) ([3],[3]):=Z08 rfl k
theorem Z3R {o0:AObj} {o1:AObj} {o2:AObj} {a b c d e f g:AV} {t:Hp} {w n:Bool} (k:K β):ldK 1 false (.ptr 3 0 1 1) (o0::o1::o2 :: .arr 7 [[a,b,c,d,e,f,g]] w n::t) k=k b:=rfl
theorem Z3S {o0:AObj} {o1:AObj} {o2:AObj} {a b c d e f g:AV} {x:Int} {t:Hp} {n:Bool} (k:AV→Hp→Option β):effK (stE 1 (.ptr 3 0 1 1) (.s (.int .i64 x)) (o0::o1::o2 :: .arr 7 [[a,b,c,d,e,f,g]] true n::t)) (o0::o1::o2 :: .arr 7 [[a,b,c,d,e,f,g]] true n::t) k=k .u (o0::o1::o2 :: .arr 7 [[a,(.s (.int .i64 x)),c,d,e,f,g]] true n::t):=Z0H rfl k
theorem Z3T {o0:AObj} {o1:AObj} {o2:AObj} {a b c d e f g:AV} {x:Int} {t:Hp} {n:Bool} (k:AV→Hp→Ent→Option β):effD (stE 1 (.ptr 3 0 1 1) (.s (.int .i64 x)) (o0::o1::o2 :: .arr 7 [[a,b,c,d,e,f,g]] true n::t)) (o0::o1::o2 :: .arr 7 [[a,b,c,d,e,f,g]] true n::t) k=k .u (o0::o1::o2 :: .arr 7 [[a,(.s (.int .i64 x)),c,d,e,f,g]] true n::t) ([3],[3]):=Z08 rfl k
theorem Z3U {o0:AObj} {o1:AObj} {o2:AObj} {a b c d e f g:AV} {t:Hp} {w n:Bool} (k:K β):ldK 1 false (.ptr 3 0 2 1) (o0::o1::o2 :: .arr 7 [[a,b,c,d,e,f,g]] w n::t) k=k c:=rfl
theorem Z3V {o0:AObj} {o1:AObj} {o2:AObj} {a b c d e f g:AV} {x:Int} {t:Hp} {n:Bool} (k:AV→Hp→Option β):effK (stE 1 (.ptr 3 0 2 1) (.s (.int .i64 x)) (o0::o1::o2 :: .arr 7 [[a,b,c,d,e,f,g]] true n::t)) (o0::o1::o2 :: .arr 7 [[a,b,c,d,e,f,g]] true n::t) k=k .u (o0::o1::o2 :: .arr 7 [[a,b,(.s (.int .i64 x)),d,e,f,g]] true n::t):=Z0H rfl k
theorem Z3W {o0:AObj} {o1:AObj} {o2:AObj} {a b c d e f g:AV} {x:Int} {t:Hp} {n:Bool} (k:AV→Hp→Ent→Option β):effD (stE 1 (.ptr 3 0 2 1) (.s (.int .i64 x)) (o0::o1::o2 :: .arr 7 [[a,b,c,d,e,f,g]] true n::t)) (o0::o1::o2 :: .arr 7 [[a,b,c,d,e,f,g]] true n::t) k=k .u (o0::o1::o2 :: .arr 7 [[a,b,(.s (.int .i64 x)),d,e,f,g]] true n::t) ([3],[3]):=Z08 rfl k
theorem Z3X {o0:AObj} {o1:AObj} {o2:AObj} {a b c d e f g:AV} {t:Hp} {w n:Bool} (k:K β):ldK 1 false (.ptr 3 0 3 1) (o0::o1::o2 :: .arr 7 [[a,b,c,d,e,f,g]] w n::t) k=k d:=rfl
theorem Z3Y {o0:AObj} {o1:AObj} {o2:AObj} {a b c d e f g:AV} {x:Int} {t:Hp} {n:Bool} (k:AV→Hp→Option β):effK (stE 1 (.ptr 3 0 3 1) (.s (.int .i64 x)) (o0::o1::o2 :: .arr 7 [[a,b,c,d,e,f,g]] true n::t)) (o0::o1::o2 :: .arr 7 [[a,b,c,d,e,f,g]] true n::t) k=k .u (o0::o1::o2 :: .arr 7 [[a,b,c,(.s (.int .i64 x)),e,f,g]] true n::t):=Z0H rfl k
theorem Z3Z {o0:AObj} {o1:AObj} {o2:AObj} {a b c d e f g:AV} {x:Int} {t:Hp} {n:Bool} (k:AV→Hp→Ent→Option β):effD (stE 1 (.ptr 3 0 3 1) (.s (.int .i64 x)) (o0::o1::o2 :: .arr 7 [[a,b,c,d,e,f,g]] true n::t)) (o0::o1::o2 :: .arr 7 [[a,b,c,d,e,f,g]] true n::t) k=k .u (o0::o1::o2 :: .arr 7 [[a,b,c,(.s (.int .i64 x)),e,f,g]] true n::t) ([3],[3]):=Z08 rfl k
theorem Z40 {o0:AObj} {o1:AObj} {o2:AObj} {a b c d e f g:AV} {t:Hp} {w n:Bool} (k:K β):ldK 1 false (.ptr 3 0 4 1) (o0::o1::o2 :: .arr 7 [[a,b,c,d,e,f,g]] w n::t) k=k e:=rfl
theorem Z41 {o0:AObj} {o1:AObj} {o2:AObj} {a b c d e f g:AV} {x:Int} {t:Hp} {n:Bool} (k:AV→Hp→Option β):effK (stE 1 (.ptr 3 0 4 1) (.s (.int .i64 x)) (o0::o1::o2 :: .arr 7 [[a,b,c,d,e,f,g]] true n::t)) (o0::o1::o2 :: .arr 7 [[a,b,c,d,e,f,g]] true n::t) k=k .u (o0::o1::o2 :: .arr 7 [[a,b,c,d,(.s (.int .i64 x)),f,g]] true n::t):=Z0H rfl k
theorem Z42 {o0:AObj} {o1:AObj} {o2:AObj} {a b c d e f g:AV} {x:Int} {t:Hp} {n:Bool} (k:AV→Hp→Ent→Option β):effD (stE 1 (.ptr 3 0 4 1) (.s (.int .i64 x)) (o0::o1::o2 :: .arr 7 [[a,b,c,d,e,f,g]] true n::t)) (o0::o1::o2 :: .arr 7 [[a,b,c,d,e,f,g]] true n::t) k=k .u (o0::o1::o2 :: .arr 7 [[a,b,c,d,(.s (.int .i64 x)),f,g]] true n::t) ([3],[3]):=Z08 rfl k
theorem Z43 {o0:AObj} {o1:AObj} {o2:AObj} {a b c d e f g:AV} {t:Hp} {w n:Bool} (k:K β):ldK 1 false (.ptr 3 0 5 1) (o0::o1::o2 :: .arr 7 [[a,b,c,d,e,f,g]] w n::t) k=k f:=rfl
theorem Z44 {o0:AObj} {o1:AObj} {o2:AObj} {a b c d e f g:AV} {x:Int} {t:Hp} {n:Bool} (k:AV→Hp→Option β):effK (stE 1 (.ptr 3 0 5 1) (.s (.int .i64 x)) (o0::o1::o2 :: .arr 7 [[a,b,c,d,e,f,g]] true n::t)) (o0::o1::o2 :: .arr 7 [[a,b,c,d,e,f,g]] true n::t) k=k .u (o0::o1::o2 :: .arr 7 [[a,b,c,d,e,(.s (.int .i64 x)),g]] true n::t):=Z0H rfl k
theorem Z45 {o0:AObj} {o1:AObj} {o2:AObj} {a b c d e f g:AV} {x:Int} {t:Hp} {n:Bool} (k:AV→Hp→Ent→Option β):effD (stE 1 (.ptr 3 0 5 1) (.s (.int .i64 x)) (o0::o1::o2 :: .arr 7 [[a,b,c,d,e,f,g]] true n::t)) (o0::o1::o2 :: .arr 7 [[a,b,c,d,e,f,g]] true n::t) k=k .u (o0::o1::o2 :: .arr 7 [[a,b,c,d,e,(.s (.int .i64 x)),g]] true n::t) ([3],[3]):=Z08 rfl k
theorem Z46 {o0:AObj} {o1:AObj} {o2:AObj} {a b c d e f g:AV} {t:Hp} {w n:Bool} (k:K β):ldK 1 false (.ptr 3 0 6 1) (o0::o1::o2 :: .arr 7 [[a,b,c,d,e,f,g]] w n::t) k=k g:=rfl
theorem Z47 {o0:AObj} {o1:AObj} {o2:AObj} {a b c d e f g:AV} {x:Int} {t:Hp} {n:Bool} (k:AV→Hp→Option β):effK (stE 1 (.ptr 3 0 6 1) (.s (.int .i64 x)) (o0::o1::o2 :: .arr 7 [[a,b,c,d,e,f,g]] true n::t)) (o0::o1::o2 :: .arr 7 [[a,b,c,d,e,f,g]] true n::t) k=k .u (o0::o1::o2 :: .arr 7 [[a,b,c,d,e,f,(.s (.int .i64 x))]] true n::t):=Z0H rfl k
theorem Z48 {o0:AObj} {o1:AObj} {o2:AObj} {a b c d e f g:AV} {x:Int} {t:Hp} {n:Bool} (k:AV→Hp→Ent→Option β):effD (stE 1 (.ptr 3 0 6 1) (.s (.int .i64 x)) (o0::o1::o2 :: .arr 7 [[a,b,c,d,e,f,g]] true n::t)) (o0::o1::o2 :: .arr 7 [[a,b,c,d,e,f,g]] true n::t) k=k .u (o0::o1::o2 :: .arr 7 [[a,b,c,d,e,f,(.s (.int .i64 x))]] true n::t) ([3],[3]):=Z08 rfl k
theorem lw7_3 {o0:AObj} {o1:AObj} {o2:AObj} {a b c d e f g:AV} {t:Hp} {w n:Bool} (k:K β):ldK 7 true (.ptr 3 0 0 1) (o0::o1::o2 :: .arr 7 [[a,b,c,d,e,f,g]] w n::t) k=k (.agg [a,b,c,d,e,f,g]):=rfl
theorem ew7_3 {o0:AObj} {o1:AObj} {o2:AObj} {a b c d e f g:AV} {x0 x1 x2 x3 x4 x5 x6:Int} {t:Hp} {n:Bool} (k:AV→Hp→Option β):effK (stE 7 (.ptr 3 0 0 1) (.agg [(.s (.int .i64 x0)),(.s (.int .i64 x1)),(.s (.int .i64 x2)),(.s (.int .i64 x3)),(.s (.int .i64 x4)),(.s (.int .i64 x5)),(.s (.int .i64 x6))]) (o0::o1::o2 :: .arr 7 [[a,b,c,d,e,f,g]] true n::t)) (o0::o1::o2 :: .arr 7 [[a,b,c,d,e,f,g]] true n::t) k=k .u (o0::o1::o2 :: .arr 7 [[(.s (.int .i64 x0)),(.s (.int .i64 x1)),(.s (.int .i64 x2)),(.s (.int .i64 x3)),(.s (.int .i64 x4)),(.s (.int .i64 x5)),(.s (.int .i64 x6))]] true n::t):=Z0H rfl k
theorem bx7_3 {o0:AObj} {o1:AObj} {o2:AObj} {x0 x1 x2 x3 x4 x5 x6:Int} (k:AV→Hp→Option β):effK (boxE 7 (.agg [(.s (.int .i64 x0)),(.s (.int .i64 x1)),(.s (.int .i64 x2)),(.s (.int .i64 x3)),(.s (.int .i64 x4)),(.s (.int .i64 x5)),(.s (.int .i64 x6))]) ([o0,o1,o2]:Hp).length) [o0,o1,o2] k=k (.ptr 3 0 0 1) [o0,o1,o2, .arr 7 [[(.s (.int .i64 x0)),(.s (.int .i64 x1)),(.s (.int .i64 x2)),(.s (.int .i64 x3)),(.s (.int .i64 x4)),(.s (.int .i64 x5)),(.s (.int .i64 x6))]] true false]:=rfl
end
abbrev SLm (b:Bool) (l:List Msg):AV := .lst 7 (b&&l.isEmpty) (l.map encM)
end Go.AM


namespace Go.AM
set_option linter.unusedVariables false
variable {β:Type}
theorem Z0f {op:BinOp} {x:AV} {y:AV} {k:K β} {x':AV} {y':AV} (e_x:x=x') (e_y:y=y'):arithK op x y k=arithK op x' y' k:=by subst e_x e_y;rfl
theorem Z0g {P:Program} {neq:Bool} {ty:TypeId} {x:AV} {y:AV} {h:Hp} {k:K β} {x':AV} {y':AV} {h':Hp} (e_x:x=x') (e_y:y=y') (e_h:h=h'):eqK P neq ty x y h k=eqK P neq ty x' y' h' k:=by subst e_x e_y e_h;rfl
theorem Z0h {x:AV} {k:K β} {x':AV} (e_x:x=x'):notK x k=notK x' k:=by subst e_x;rfl
theorem Z0i {P:Program} {a:TypeId} {b:TypeId} {x:AV} {k:K β} {x':AV} (e_x:x=x'):convK P a b x k=convK P a b x' k:=by subst e_x;rfl
theorem Z0j {c:AV} {a:AV} {b:AV} {k:K β} {c':AV} {a':AV} {b':AV} (e_c:c=c') (e_a:a=a') (e_b:b=b'):pickK c a b k=pickK c' a' b' k:=by subst e_c e_a e_b;rfl
theorem Z0k {z:List AV} {parts:List (Option (Nat × Nat) × AV)} {k:K β} {z':List AV} (e_z:z=z'):buildK z parts k=buildK z' parts k:=by subst e_z;rfl
theorem Z0l {n:Nat} {agg:Bool} {p:AV} {h:Hp} {k:K β} {p':AV} {h':Hp} (e_p:p=p') (e_h:h=h'):ldK n agg p h k=ldK n agg p' h' k:=by subst e_p e_h;rfl
theorem Z0m {x:AV} {k:K β} {x':AV} (e_x:x=x'):nilK x k=nilK x' k:=by subst e_x;rfl
theorem Z0n {n:Nat} {x:AV} {lo:Option AV} {hi:Option AV} {mx:Option AV} {k:K β} {x':AV} (e_x:x=x'):sliceK n x lo hi mx k=sliceK n x' lo hi mx k:=by subst e_x;rfl
theorem Z0o {off:Nat} {p:AV} {k:K β} {p':AV} (e_p:p=p'):faK off p k=faK off p' k:=by subst e_p;rfl
theorem Z0p {n:Nat} {agg:Bool} {off:Nat} {x:AV} {k:K β} {x':AV} (e_x:x=x'):fldK n agg off x k=fldK n agg off x' k:=by subst e_x;rfl
theorem Z0q {n:Nat} {x:AV} {i:AV} {k:K β} {x':AV} {i':AV} (e_x:x=x') (e_i:i=i'):iaK n x i k=iaK n x' i' k:=by subst e_x e_i;rfl
theorem Z0r {n:Nat} {len:Nat} {x:AV} {i:AV} {k:K β} {x':AV} {i':AV} (e_x:x=x') (e_i:i=i'):iaA n len x i k=iaA n len x' i' k:=by subst e_x e_i;rfl
theorem Z0s {P:Program} {kt:TypeId} {z:AV} {ok:Bool} {m:AV} {kk:AV} {h:Hp} {k:K β} {z':AV} {m':AV} {kk':AV} {h':Hp} (e_z:z=z') (e_m:m=m') (e_kk:kk=kk') (e_h:h=h'):lookK P kt z ok m kk h k=lookK P kt z' ok m' kk' h' k:=by subst e_z e_m e_kk e_h;rfl
theorem Z0t {x:AV} {k:K β} {x':AV} (e_x:x=x'):capK x k=capK x' k:=by subst e_x;rfl
theorem Z0u {x:AV} {i:Nat} {k:K β} {x':AV} (e_x:x=x'):exK x i k=exK x' i k:=by subst e_x;rfl
theorem Z0v {x:AV} {k:K β} {x':AV} (e_x:x=x'):lenK x k=lenK x' k:=by subst e_x;rfl
theorem Z0w {x:AV} {y:AV} {k:K β} {x':AV} {y':AV} (e_x:x=x') (e_y:y=y'):minK x y k=minK x' y' k:=by subst e_x e_y;rfl
theorem Z0x {x:AV} {y:AV} {k:K β} {x':AV} {y':AV} (e_x:x=x') (e_y:y=y'):maxK x y k=maxK x' y' k:=by subst e_x e_y;rfl
theorem Z0y {r:R} {h:Hp} {k:AV→Hp→Option β} {r':R} {h':Hp} (e_r:r=r') (e_h:h=h'):effK r h k=effK r' h' k:=by subst e_r e_h;rfl
theorem Z0z {F:Option Fun} {args:List AV} {h:Hp} {k:AV→Hp→Option β} {F':Option Fun} {args':List AV} {h':Hp} (e_F:F=F') (e_args:args=args') (e_h:h=h'):callK F args h k=callK F' args' h' k:=by subst e_F e_args e_h;rfl
theorem Z0A {T:Tab} {f:AV} {args:List AV} {h:Hp} {k:AV→Hp→Option β} {T':Tab} {f':AV} {args':List AV} {h':Hp} (e_T:T=T') (e_f:f=f') (e_args:args=args') (e_h:h=h'):callVK T f args h k=callVK T' f' args' h' k:=by subst e_T e_f e_args e_h;rfl
theorem Z0B {r:R} {h:Hp} {k:AV→Hp→Ent→Option β} {r':R} {h':Hp} (e_r:r=r') (e_h:h=h'):effD r h k=effD r' h' k:=by subst e_r e_h;rfl
theorem Z0C {g:Option Bool} {h:Hp} {run:(AV→Hp→Ent→Option β)→Option β} {k:AV→Hp→Ent→Option β} {g':Option Bool} {h':Hp} (e_g:g=g') (e_h:h=h'):gopD g h run k=gopD g' h' run k:=by subst e_g e_h;rfl
theorem Z0D {want:Bool} {x:AV} {h:Hp} {run:(AV→Hp→Option β)→Option β} {k:AV→Hp→Option β} {x':AV} {h':Hp} {run':(AV→Hp→Option β)→Option β} (e_x:x=x') (e_h:h=h') (e_run:∀K,run K=run' K):grpK want x h run k=grpK want x' h' run' k:=by
 have:run=run':=funext e_run
 subst e_x e_h this;rfl
theorem Z0E {c:AV} {a:Option β} {b:Option β} {c':AV} (e_c:c=c'):condK c a b=condK c' a b:=by subst e_c;rfl
theorem Z0F {α:Type} {c c':Bool} {a b:α} (e:c=c'):cond c a b=cond c' a b:=by subst e;rfl
end Go.AM


namespace Go.AM
open Go.Proofs
set_option linter.unusedVariables false
set_option linter.unusedSimpArgs false
set_option linter.constructorNameAsVariable false
set_option maxRecDepth 20000
attribute [local congr] Z0f Z0g Z0h Z0i Z0j Z0k Z0l Z0m Z0n Z0o Z0p Z0q Z0r Z0s Z0t Z0u Z0v Z0w Z0x Z0y Z0z Z0A Z0B Z0C Z0D Z0E Z0F
def isNode (n:Int):Bool:=decide (1≤n)&&decide (n≤99)
def formM (m:Msg):Bool:=
 if m.kind=1 then m.num==0&&isNode m.frm&&isNode m.to&&m.frm != m.to&&decide (1≤m.alc)&&decide (m.alc≤10737418240000)
 else if m.kind=2 then decide (1≤m.num)&&decide (m.num≤64)&&m.frm==0&&isNode m.to&&m.alc==0
 else if m.kind=3 then m.num==0&&m.frm==0&&m.to==0&&decide (0≤m.alc)&&decide (m.alc≤10737418240000)
 else m.num==0&&m.frm==0&&m.to==0&&m.alc==0
def rangeM (m:Msg):Bool:=decide (m.mv<1)||decide (1073741824<m.mv)||decide (m.kind<1)||decide (5<m.kind)||decide (m.day<0)||decide (100000<m.day)
def checkM (m:Msg):Int:=if rangeM m=true then 2 else if formM m=true then 0 else 1
theorem Zfs (n:Int) (h:Hp):Z6I [I n] h=some (B (isNode n),h):=Zm4 rfl (by simp [Z8D,isNode]) h
theorem ZbB (m:Msg) (h:Hp):Z1x [.agg (encM m)] h=some (I (checkM m),h):=by
 refine Zm9 (by simp [encM]) ?_ h
 obtain ⟨mv,kind,num,day,frm,to,alc⟩:=m
 obtain ⟨r,hr⟩:∃r,rangeM ⟨mv,kind,num,day,frm,to,alc⟩=r:=⟨_,rfl⟩
 have hr':=hr
 simp only [rangeM] at hr'
 simp only [checkM,hr]
 have b0:∀k:Go.AM.K AV,buildK [I 0,I 0,I 0,I 0,I 0,I 0,I 0] [(some (0,1),I mv),(some (1,1),I kind),(some (3,1),I day)] k=k (.agg [I mv,I kind,I 0,I day,I 0,I 0,I 0]):=fun k=>rfl
 simp only [Z8l,encM,encDo,Z09,Z1H,Nat.zero_add,Nat.add_zero,Nat.reduceAdd,Z2N,Z2O,Z2P,Z2Q,Z2R,Z2S,Z2T,Z2U,Z2V,Z2W,Z2X,Z2Y,Z2Z,Z30,Z31,Z32,Z33,Z34,Z35,Z36,Z37,lw7_0,ew7_0,bx7_0,Z38,Z39,Z3a,Z3b,Z3c,Z3d,Z3e,Z3f,Z3g,Z3h,Z3i,Z3j,Z3k,Z3l,Z3m,Z3n,Z3o,Z3p,Z3q,Z3r,Z3s,lw7_1,ew7_1,bx7_1,Z3t,Z3u,Z3v,Z3w,Z3x,Z3y,Z3z,Z3A,Z3B,Z3C,Z3D,Z3E,Z3F,Z3G,Z3H,Z3I,Z3J,Z3K,Z3L,Z3M,Z3N,lw7_2,ew7_2,bx7_2,Z3O,Z3P,Z3Q,Z3R,Z3S,Z3T,Z3U,Z3V,Z3W,Z3X,Z3Y,Z3Z,Z40,Z41,Z42,Z43,Z44,Z45,Z46,Z47,Z48,lw7_3,ew7_3,bx7_3,Z1I,Z07,Z16,Z0L,Z0R,Z0M,Z0W,Z01,Z06,Z0I,Bool.false_xor,Bool.true_xor,Z03,Z1F,Z0a,Z0Y,Z1G,List.length_map,hr',b0]
 have n1:=Zfs frm
 have n2:=Zfs to
 clear hr hr'
 cases r with
 | true=>rfl
 | false=>
  by_cases k1:kind=1
  ·subst k1
   simp only [if_true,Bool.false_eq_true,if_false,beq_self_eq_true,Zbe,Z03,Z2s,Z6n,n1,n2,encM,encDo,Z09,Z1H,Nat.zero_add,Nat.add_zero,Nat.reduceAdd,Z2N,Z2O,Z2P,Z2Q,Z2R,Z2S,Z2T,Z2U,Z2V,Z2W,Z2X,Z2Y,Z2Z,Z30,Z31,Z32,Z33,Z34,Z35,Z36,Z37,lw7_0,ew7_0,bx7_0,Z38,Z39,Z3a,Z3b,Z3c,Z3d,Z3e,Z3f,Z3g,Z3h,Z3i,Z3j,Z3k,Z3l,Z3m,Z3n,Z3o,Z3p,Z3q,Z3r,Z3s,lw7_1,ew7_1,bx7_1,Z3t,Z3u,Z3v,Z3w,Z3x,Z3y,Z3z,Z3A,Z3B,Z3C,Z3D,Z3E,Z3F,Z3G,Z3H,Z3I,Z3J,Z3K,Z3L,Z3M,Z3N,lw7_2,ew7_2,bx7_2,Z3O,Z3P,Z3Q,Z3R,Z3S,Z3T,Z3U,Z3V,Z3W,Z3X,Z3Y,Z3Z,Z40,Z41,Z42,Z43,Z44,Z45,Z46,Z47,Z48,lw7_3,ew7_3,bx7_3,Z1I,Z07,Z16,Z0L,Z0R,Z0M,Z0W,Z01,Z06,Z0I,Bool.false_xor,Bool.true_xor,Z03,Z1F,Z0a,Z0Y,Z1G,List.length_map,formM,show (disjAll [(3,7),(5,7),(5,9)] [([],[]),(idsOf (AV.ptr 0 0 4 1),[]),([],[]),(idsOf (AV.ptr 0 0 5 1),[]),([],[]),(idsOf (AV.ptr 0 0 6 1),[]),([],[]),([1],[1]),([],[]),([1],[1]),([],[]),([1],[1])])=true from rfl,cond_true,Z66]
   clear n1 n2 b0
   by_cases h1:num=0
   ·subst h1
    simp only [beq_self_eq_true,Bool.true_and,Bool.and_self,Bool.not_true,Bool.or_false,show (frm != to) = !(frm==to) from rfl]
    generalize (isNode frm&&isNode to && !(frm==to)&&decide (1≤alc)&&decide (alc≤10737418240000))=e
    cases e<;>rfl
   ·simp [h1]
  by_cases k2:kind=2
  ·subst k2
   simp only [if_true,Bool.false_eq_true,if_false,beq_self_eq_true,Zbe,Z03,Z2s,Z6n,n1,n2,encM,encDo,Z09,Z1H,Nat.zero_add,Nat.add_zero,Nat.reduceAdd,Z2N,Z2O,Z2P,Z2Q,Z2R,Z2S,Z2T,Z2U,Z2V,Z2W,Z2X,Z2Y,Z2Z,Z30,Z31,Z32,Z33,Z34,Z35,Z36,Z37,lw7_0,ew7_0,bx7_0,Z38,Z39,Z3a,Z3b,Z3c,Z3d,Z3e,Z3f,Z3g,Z3h,Z3i,Z3j,Z3k,Z3l,Z3m,Z3n,Z3o,Z3p,Z3q,Z3r,Z3s,lw7_1,ew7_1,bx7_1,Z3t,Z3u,Z3v,Z3w,Z3x,Z3y,Z3z,Z3A,Z3B,Z3C,Z3D,Z3E,Z3F,Z3G,Z3H,Z3I,Z3J,Z3K,Z3L,Z3M,Z3N,lw7_2,ew7_2,bx7_2,Z3O,Z3P,Z3Q,Z3R,Z3S,Z3T,Z3U,Z3V,Z3W,Z3X,Z3Y,Z3Z,Z40,Z41,Z42,Z43,Z44,Z45,Z46,Z47,Z48,lw7_3,ew7_3,bx7_3,Z1I,Z07,Z16,Z0L,Z0R,Z0M,Z0W,Z01,Z06,Z0I,Bool.false_xor,Bool.true_xor,Z03,Z1F,Z0a,Z0Y,Z1G,List.length_map,formM,show (disjAll [(3,5)] [([],[]),(idsOf (AV.ptr 0 0 2 1),[]),([],[]),(idsOf (AV.ptr 0 0 5 1),[]),([],[]),([1],[1]),([],[]),([1],[1])])=true from rfl,cond_true,Z66,show ((2:Int)==1)=false from rfl,show ¬((2:Int)=1) by decide]
   clear n1 n2 b0
   by_cases h1:frm=0
   ·by_cases h2:alc=0
    ·subst h1 h2
     simp only [beq_self_eq_true,Bool.true_and,Bool.and_true,Bool.not_true,Bool.or_false]
     generalize (decide (1≤num)&&decide (num≤64)&&isNode to)=e
     cases e<;>rfl
    ·simp [h1,h2]
   ·simp [h1]
  by_cases k3:kind=3
  ·subst k3
   simp only [if_true,Bool.false_eq_true,if_false,beq_self_eq_true,Zbe,Z03,Z2s,Z6n,n1,n2,encM,encDo,Z09,Z1H,Nat.zero_add,Nat.add_zero,Nat.reduceAdd,Z2N,Z2O,Z2P,Z2Q,Z2R,Z2S,Z2T,Z2U,Z2V,Z2W,Z2X,Z2Y,Z2Z,Z30,Z31,Z32,Z33,Z34,Z35,Z36,Z37,lw7_0,ew7_0,bx7_0,Z38,Z39,Z3a,Z3b,Z3c,Z3d,Z3e,Z3f,Z3g,Z3h,Z3i,Z3j,Z3k,Z3l,Z3m,Z3n,Z3o,Z3p,Z3q,Z3r,Z3s,lw7_1,ew7_1,bx7_1,Z3t,Z3u,Z3v,Z3w,Z3x,Z3y,Z3z,Z3A,Z3B,Z3C,Z3D,Z3E,Z3F,Z3G,Z3H,Z3I,Z3J,Z3K,Z3L,Z3M,Z3N,lw7_2,ew7_2,bx7_2,Z3O,Z3P,Z3Q,Z3R,Z3S,Z3T,Z3U,Z3V,Z3W,Z3X,Z3Y,Z3Z,Z40,Z41,Z42,Z43,Z44,Z45,Z46,Z47,Z48,lw7_3,ew7_3,bx7_3,Z1I,Z07,Z16,Z0L,Z0R,Z0M,Z0W,Z01,Z06,Z0I,Bool.false_xor,Bool.true_xor,Z03,Z1F,Z0a,Z0Y,Z1G,List.length_map,formM,Z66,show ((3:Int)==1)=false from rfl,show ((3:Int)==2)=false from rfl,show ¬((3:Int)=1) by decide,show ¬((3:Int)=2) by decide]
   clear n1 n2 b0
   generalize hE:(decide (0≤alc)&&decide (alc≤10737418240000))=e
   have hA:∀x:Bool,(x&&decide (0≤alc)&&decide (alc≤10737418240000))=(x&&e):=fun x=>by rw [Bool.and_assoc,hE]
   rw [hA]
   by_cases h1:num=0<;>by_cases h2:frm=0<;>by_cases h3:to=0<;>simp [h1,h2,h3]<;>cases e<;>simp
  ·have e1:(kind==1)=false:=by simpa using k1
   have e2:(kind==2)=false:=by simpa using k2
   have e3:(kind==3)=false:=by simpa using k3
   simp only [if_true,Bool.false_eq_true,if_false,beq_self_eq_true,Z2s,Z6n,encM,encDo,Z09,Z1H,Nat.zero_add,Nat.add_zero,Nat.reduceAdd,Z2N,Z2O,Z2P,Z2Q,Z2R,Z2S,Z2T,Z2U,Z2V,Z2W,Z2X,Z2Y,Z2Z,Z30,Z31,Z32,Z33,Z34,Z35,Z36,Z37,lw7_0,ew7_0,bx7_0,Z38,Z39,Z3a,Z3b,Z3c,Z3d,Z3e,Z3f,Z3g,Z3h,Z3i,Z3j,Z3k,Z3l,Z3m,Z3n,Z3o,Z3p,Z3q,Z3r,Z3s,lw7_1,ew7_1,bx7_1,Z3t,Z3u,Z3v,Z3w,Z3x,Z3y,Z3z,Z3A,Z3B,Z3C,Z3D,Z3E,Z3F,Z3G,Z3H,Z3I,Z3J,Z3K,Z3L,Z3M,Z3N,lw7_2,ew7_2,bx7_2,Z3O,Z3P,Z3Q,Z3R,Z3S,Z3T,Z3U,Z3V,Z3W,Z3X,Z3Y,Z3Z,Z40,Z41,Z42,Z43,Z44,Z45,Z46,Z47,Z48,lw7_3,ew7_3,bx7_3,Z1I,Z07,Z16,Z0L,Z0R,Z0M,Z0W,Z01,Z06,Z0I,Bool.false_xor,Bool.true_xor,Z03,Z1F,Z0a,Z0Y,Z1G,List.length_map,formM,Z66,e1,e2,e3,k1,k2,k3]
   clear n1 n2 b0
   by_cases h1:num=0<;>by_cases h2:frm=0<;>by_cases h3:to=0<;>by_cases h4:alc=0<;>simp [h1,h2,h3,h4]
def cellsM (m:Msg):List Int:=[m.mv,m.kind,m.num,m.day,m.frm,m.to,m.alc]
def cmpZ (a b:Int):Int:=if a<b then -1 else if b<a then 1 else 0
theorem Zrd (a:Int) (h:Hp):Z6F [I a] h=some (B false,h):=ZlM rfl (by simp [Z8E]) h
theorem Zre (a b:Int) (h:Hp):Z2H [I a,I b] h=some (I (cmpZ a b),h):=by
 refine ZlR rfl ?_ h
 have n1:=Zrd
 by_cases h1:a<b
 ·simp [Z6r,n1,h1,cmpZ]
 ·by_cases h2:b<a<;>simp [Z6r,n1,h1,h2,cmpZ]
theorem Zft (a b:Int) (h:Hp) (base:Nat):Z54 [I a,I b] h base=some (I (cmpZ a b),EF []):=(Z1v (Zre a b h) base).trans (by simp [idss,ids])
def orZ:List Int→Int
 | []=>0
 | a::l=>if a≠0 then a else orZ l
theorem Or_L2 {T:Tab} {D:DTab} {N:Nat} {x0:AV→Hp→Option AV} {xr:AV→Hp→Option AV} {h:Hp} (l:List Int) (b:Bool) (hx:∀z,x0 (I z) h=xr (I z) h) (hl:l.length<1000):∀(n:Nat) (pre post:List Int),l=pre++post→post.length<n→
  Z2w Try.prog T D N x0 xr n (I 0) (.lst 1 b (l.map fun z=>[I z])) (I l.length) (I pre.length) h=xr (I (orZ post)) h:=by
 intro n
 induction n with
 | zero=>intro pre post _ h2;omega
 | succ n ih=>
  intro pre post hc hn
  show Z4Y Try.prog T D N (Z2w Try.prog T D N x0 xr n) x0 xr _ _ _ _ h=_
  cases post with
  | nil=>
   have:l=pre:=by simpa using hc
   subst this
   simp only [Z4Y,encM,encDo,Z09,Z1H,Nat.zero_add,Nat.add_zero,Nat.reduceAdd,Z2N,Z2O,Z2P,Z2Q,Z2R,Z2S,Z2T,Z2U,Z2V,Z2W,Z2X,Z2Y,Z2Z,Z30,Z31,Z32,Z33,Z34,Z35,Z36,Z37,lw7_0,ew7_0,bx7_0,Z38,Z39,Z3a,Z3b,Z3c,Z3d,Z3e,Z3f,Z3g,Z3h,Z3i,Z3j,Z3k,Z3l,Z3m,Z3n,Z3o,Z3p,Z3q,Z3r,Z3s,lw7_1,ew7_1,bx7_1,Z3t,Z3u,Z3v,Z3w,Z3x,Z3y,Z3z,Z3A,Z3B,Z3C,Z3D,Z3E,Z3F,Z3G,Z3H,Z3I,Z3J,Z3K,Z3L,Z3M,Z3N,lw7_2,ew7_2,bx7_2,Z3O,Z3P,Z3Q,Z3R,Z3S,Z3T,Z3U,Z3V,Z3W,Z3X,Z3Y,Z3Z,Z40,Z41,Z42,Z43,Z44,Z45,Z46,Z47,Z48,lw7_3,ew7_3,bx7_3,Z1I,Z07,Z16,Z0L,Z0R,Z0M,Z0W,Z01,Z06,Z0I,Bool.false_xor,Bool.true_xor,Z03,Z1F,Z0a,Z0Y,Z1G,List.length_map]
   simp [orZ,hx]
  | cons c post=>
   have hi:pre.length<l.length:=by rw [hc];simp
   have hci:l[pre.length]? = some c:=by rw [hc];simp
   have hlt:((pre.length:Int)<(l.length:Int)):=by omega
   have hw:IntKind.i64.wrap ((pre.length:Int)+1)=(((pre++[c]).length:Nat):Int):=by rw [wrap64 (by omega) (by omega)];simp
   have ic:∀k:Go.AM.K AV,iaK 1 (.lst 1 b (l.map fun z=>[I z])) (I pre.length) k=k (.ep [I c] 0):=fun k=>Z0S pre.length rfl hci k
   have step:=ih (pre++[c]) post (by simpa using hc) (by simpa using hn)
   by_cases h0:c=0
   ·simp [Z4Y,hlt,ic,h0,hw,orZ] at step ⊢
    exact step
   ·simp [Z4Y,hlt,ic,h0,orZ]
theorem ZbC:∀ {n:Nat} {a b:List Int},a.length=n→b.length=n→orZ (List.zipWith cmpZ a b)=lexZ a b
 | 0,a,b,ha,hb=>by rw [List.eq_nil_of_length_eq_zero ha,List.eq_nil_of_length_eq_zero hb];rfl
 | n+1,[],b,ha,hb=>by simp at ha
 | n+1,a::l,[],ha,hb=>by simp at hb
 | n+1,a::l,b::r,ha,hb=>by
  have ih:=ZbC (n:=n) (a:=l) (b:=r) (by simpa using ha) (by simpa using hb)
  simp only [List.zipWith_cons_cons,orZ,lexZ,ih,cmpZ]
  by_cases h1:a<b
  ·simp [h1]
  ·by_cases h2:b<a<;>simp [h1,h2]
end Go.AM


namespace Go.AM
open Go.Proofs
set_option linter.unusedVariables false
set_option linter.unusedSimpArgs false
set_option linter.constructorNameAsVariable false
set_option maxRecDepth 20000
attribute [local congr] Z0f Z0g Z0h Z0i Z0j Z0k Z0l Z0m Z0n Z0o Z0p Z0q Z0r Z0s Z0t Z0u Z0v Z0w Z0x Z0y Z0z Z0A Z0B Z0C Z0D Z0E Z0F
theorem Z49 {β:Type} (v:AV) (ft:List Nat) (h:Hp) (k:AV→Hp→Ent→Option β):effD (some (v,EF ft)) h k=k v h (ft,[]):=by simp [effD,ap,wrOf]
theorem Zfu {β:Type} (v:AV) (o:AObj) (h:Hp) (k:AV→Hp→Ent→Option β):effD (some (v,EN o)) h k=k v (h++[o]) ([],[h.length]):=by simp [effD,ap,wrOf]
theorem Zfv (c:List Int) (hl:c.length<1000) {h:Hp} {id n:Nat} {b:Bool} (hid:h[id]? = some (.arr 1 (c.map fun z=>[I z]) true false)) (hn:c.length=n):Z2G [.sl 1 id 0 n n b] h=some (I (orZ c),h):=by
 subst hn
 refine (ZlG (a0 := .lst 1 false (c.map fun z=>[I z])) ?_ fun st => ?_)
 ·rw [Z1e,Z0X hid (by simp) (by simp) (Z0T fun x=>rfl),Z1d]
 ·have:=Or_L2 (T:=Z53) (D:=Z52) (N:=NN) (x0:=fun w7_3 h=>Z8o Try.prog Z53 Z52 NN (fun v g=>cvt st g v) w7_3 h) (xr:=fun w8_2 h=>cvt st h w8_2) (h:=[]) c false (fun z=>rfl) hl NN [] c rfl (by have:=NN_ge;omega)
  simp only [nrm,nrmC,Z6q,Z0a,List.length_map]
  exact this.trans rfl
theorem Zrf (a b:Msg) (h:Hp):Z4n [.agg (encM a), .agg (encM b)] h=some (I (lexZ (cellsM a) (cellsM b)),h):=by
 refine ZmE (by simp [encM]) ?_ h
 obtain ⟨a0,a1,a2,a3,a4,a5,a6⟩:=a
 obtain ⟨b0,b1,b2,b3,b4,b5,b6⟩:=b
 have g:=Zft
 have bs:∀(c0 c1 c2 c3 c4 c5 c6:Int),bsE 1 [.s (.int .i64 0)] 7 [(0,I c0),(1,I c1),(2,I c2),(3,I c3),(4,I c4),(5,I c5),(6,I c6)] ([AObj.arr 7 [[I a0,I a1,I a2,I a3,I a4,I a5,I a6]] true false, .arr 7 [[I b0,I b1,I b2,I b3,I b4,I b5,I b6]] true false]:Hp).length=some (.sl 1 2 0 7 7 true,EN (.arr 1 [[I c0],[I c1],[I c2],[I c3],[I c4],[I c5],[I c6]] true false)):=fun _ _ _ _ _ _ _=>rfl
 have go:∀(c0 c1 c2 c3 c4 c5 c6:Int) (o0 o1:AObj) (base:Nat),Z4k [.sl 1 2 0 7 7 true] [o0,o1, .arr 1 [[I c0],[I c1],[I c2],[I c3],[I c4],[I c5],[I c6]] true false] base=some (I (orZ [c0,c1,c2,c3,c4,c5,c6]),EF [2]):=fun c0 c1 c2 c3 c4 c5 c6 o0 o1 base=>
  (Z1v (Zfv [c0,c1,c2,c3,c4,c5,c6] (by simp) rfl rfl) base).trans rfl
 simp -implicitDefEqProofs only [Z8q,encM,encDo,Z09,Z1H,Nat.zero_add,Nat.add_zero,Nat.reduceAdd,Z2N,Z2O,Z2P,Z2Q,Z2R,Z2S,Z2T,Z2U,Z2V,Z2W,Z2X,Z2Y,Z2Z,Z30,Z31,Z32,Z33,Z34,Z35,Z36,Z37,lw7_0,ew7_0,bx7_0,Z38,Z39,Z3a,Z3b,Z3c,Z3d,Z3e,Z3f,Z3g,Z3h,Z3i,Z3j,Z3k,Z3l,Z3m,Z3n,Z3o,Z3p,Z3q,Z3r,Z3s,lw7_1,ew7_1,bx7_1,Z3t,Z3u,Z3v,Z3w,Z3x,Z3y,Z3z,Z3A,Z3B,Z3C,Z3D,Z3E,Z3F,Z3G,Z3H,Z3I,Z3J,Z3K,Z3L,Z3M,Z3N,lw7_2,ew7_2,bx7_2,Z3O,Z3P,Z3Q,Z3R,Z3S,Z3T,Z3U,Z3V,Z3W,Z3X,Z3Y,Z3Z,Z40,Z41,Z42,Z43,Z44,Z45,Z46,Z47,Z48,lw7_3,ew7_3,bx7_3,Z1I,Z07,Z16,Z0L,Z0R,Z0M,Z0W,Z01,Z06,Z0I,Bool.false_xor,Bool.true_xor,Z03,Z1F,Z0a,Z0Y,Z1G,List.length_map,ZmA,Zmz,Z1f,g,Z49,bs,Zfu,List.cons_append,List.nil_append,go]
 have:=ZbC (n:=7) (a:=[a0,a1,a2,a3,a4,a5,a6]) (b:=[b0,b1,b2,b3,b4,b5,b6]) rfl rfl
 simp only [List.zipWith_cons_cons,List.zipWith_nil_left] at this
 rw [this]
 rfl
theorem Z4a (x y:Msg) (n:Bool) (h:Hp) {β:Type} (k:Go.AM.K β):eqK Try.prog n 27 (.agg (encM x)) (.agg (encM y)) h k=k (B (xor n (x==y))):=by
 obtain ⟨a0,a1,a2,a3,a4,a5,a6⟩:=x
 obtain ⟨b0,b1,b2,b3,b4,b5,b6⟩:=y
 have:((⟨a0,a1,a2,a3,a4,a5,a6⟩:Msg)==⟨b0,b1,b2,b3,b4,b5,b6⟩)=((a0==b0)&&((a1==b1)&&((a2==b2)&&((a3==b3)&&((a4==b4)&&((a5==b5)&&((a6==b6)&&true))))))):=by
  rw [Bool.eq_iff_iff];simp
 simp only [encM,Z66,this]
end Go.AM

