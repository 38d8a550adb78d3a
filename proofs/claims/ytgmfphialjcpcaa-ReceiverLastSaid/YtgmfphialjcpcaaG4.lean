import Derived.Test.YtgmfphialjcpcaaG3
import Derived.Shelf.RegionOpenPlain
import Derived.WalkKit
import Derived.Lib.Walk
import Derived.Lib.SliceRun
import Derived.Lib.JoinLaws
import Derived.Lib.AppendZerosOnto
import Derived.Lib.Overlaps
import Derived.Laws.Externs
import Derived.Laws.IdiomCopy
import Derived.Laws.NewBlocks
import Derived.Laws.CopyRow
import Derived.Test.YtgmfphialjcpcaaProg
import Derived.Shelf.SlSortCmp.NoneTotal
set_option linter.unusedSectionVars false
set_option linter.unusedVariables false
set_option linter.unusedSimpArgs false
set_option linter.constructorNameAsVariable false
namespace Go.AM
open Go.RowKit
set_option linter.unusedVariables false
set_option linter.unusedSimpArgs false
set_option linter.constructorNameAsVariable false
variable {P:Program} {μ μ':Mu} {h h' h1:Hp} {w w':World}
theorem ZeY {μ:Mu} {h:Hp}:∀ {asl bs:List AV} {vs:List Value},VRs μ h (asl++bs) vs→∃v1 v2,vs=v1++v2∧VRs μ h asl v1∧VRs μ h bs v2
 | [],bs,vs,hv=>⟨[],vs,rfl,by simp [VRs],hv⟩
 | a::asl,bs,vs,hv=>by
  simp only [List.cons_append,VRs] at hv
  obtain ⟨v,vs',rfl,h1,h2⟩:=hv
  obtain ⟨v1,v2,rfl,h3,h4⟩:=ZeY h2
  exact ⟨v::v1,v2,rfl,by simp only [VRs];exact ⟨v,v1,rfl,h1,h3⟩,h4⟩
def NewsA (F:Fun) (args:List AV) (x:List AV × Nat × List (List AV) × Nat × Nat × Bool):Prop:=
 plains x.1=true∧(∀e ∈ x.2.2.1,∀c ∈ e,plain c=true)∧∀H:Hp,∃g k,F args H=some (.agg (x.1++[.sl x.2.1 (H.length+k) 0 x.2.2.2.1 x.2.2.2.2.1 x.2.2.2.2.2]),H++g)∧g[k]? = some (.arr x.2.1 x.2.2.1 true false)
def Plains (F:Fun) (args:List AV) (v:AV):Prop:=plain v=true∧∀H:Hp,∃g,F args H=some (v,H++g)
open Classical in
noncomputable def newA (F:Fun):DFun:=fun args h base=>
 if hx:∃x,NewsA F args x then some (.agg (hx.choose.1++[.sl hx.choose.2.1 base 0 hx.choose.2.2.2.1 hx.choose.2.2.2.2.1 hx.choose.2.2.2.2.2]),⟨[],[.arr hx.choose.2.1 hx.choose.2.2.1 true false],[]⟩)
 else if hy:∃v,Plains F args v then some (hy.choose,⟨[],[],[]⟩) else none
theorem NewsA.unique {F:Fun} {args:List AV} {x y:List AV × Nat × List (List AV) × Nat × Nat × Bool} (h1:NewsA F args x) (h2:NewsA F args y):x=y:=by
 obtain ⟨g1,k1,e1,q1⟩:=h1.2.2 []
 obtain ⟨g2,k2,e2,q2⟩:=h2.2.2 []
 rw [e1] at e2
 injection e2 with e2
 injection e2 with e2 e3
 injection e2 with e2
 obtain ⟨x1,x2,x3,x4,x5,x6⟩:=x
 obtain ⟨y1,y2,y3,y4,y5,y6⟩:=y
 dsimp only at e2 q1 q2
 have hl:x1.length=y1.length:=by have:=congrArg List.length e2;simpa using this
 obtain ⟨a0,a1⟩:=List.append_inj e2 hl
 injection a1 with a1
 injection a1 with b1 b2 b3 b4 b5 b6
 simp only [List.nil_append,List.length_nil,Nat.zero_add] at b2 e3
 subst a0 b1 b2 b4 b5 b6 e3
 rw [q1] at q2
 injection q2 with q2
 injection q2 with _ c2
 rw [c2]
theorem ZeZ {F:Fun} {args:List AV} {x:List AV × Nat × List (List AV) × Nat × Nat × Bool} (hw:NewsA F args x) (h:Hp) (base:Nat):newA F args h base=some (.agg (x.1++[.sl x.2.1 base 0 x.2.2.2.1 x.2.2.2.2.1 x.2.2.2.2.2]),⟨[],[.arr x.2.1 x.2.2.1 true false],[]⟩):=by
 have hx:∃x,NewsA F args x:=⟨x,hw⟩
 unfold newA
 rw [dif_pos hx,NewsA.unique hx.choose_spec hw]
theorem ZlN {xs:List AV} {a:AV} (h:plains (xs++[a])=true):plain a=true:=by
 induction xs with
 | nil=>simpa [plains] using h
 | cons x xs ih=>
  simp only [List.cons_append,plains,Bool.and_eq_true] at h
  exact ih h.2
theorem Zf0 {F:Fun} {args:List AV} {v:AV} (hw:Plains F args v) (h:Hp) (base:Nat):newA F args h base=some (v,⟨[],[],[]⟩):=by
 have hx:¬ ∃x,NewsA F args x:=by
  rintro ⟨x,hx⟩
  obtain ⟨g,k,e, -⟩:=hx.2.2 []
  obtain ⟨g',e'⟩:=hw.2 []
  rw [e'] at e
  injection e with e
  injection e with e
  have:=hw.1
  rw [e] at this
  simp only [plain] at this
  have:=ZlN this
  simp [plain] at this
 have hy:∃v,Plains F args v:=⟨v,hw⟩
 unfold newA
 rw [dif_neg hx,dif_pos hy]
 obtain ⟨g1,e1⟩:=hy.choose_spec.2 []
 obtain ⟨g2,e2⟩:=hw.2 []
 rw [e1] at e2
 injection e2 with e2
 injection e2 with e2
 rw [e2]
theorem Zby {F:Fun} {args:List AV} {h:Hp} {base:Nat} {v:AV} {e:Eff} (hk:newA F args h base=some (v,e)):(∃x,NewsA F args x∧v = .agg (x.1++[.sl x.2.1 base 0 x.2.2.2.1 x.2.2.2.2.1 x.2.2.2.2.2])∧e=⟨[],[.arr x.2.1 x.2.2.1 true false],[]⟩)∨(Plains F args v∧e=⟨[],[],[]⟩):=by
 unfold newA at hk
 split at hk
 ·rename_i hx
  simp only [Option.some.injEq,Prod.mk.injEq] at hk
  exact .inl ⟨_,hx.choose_spec,hk.1.symm,hk.2.symm⟩
 ·split at hk
  ·rename_i hn
   simp only [Option.some.injEq,Prod.mk.injEq] at hk
   obtain ⟨rfl,rfl⟩:=hk
   exact .inr ⟨hn.choose_spec,rfl⟩
  ·simp at hk
theorem ZlO (F:Fun):DLoc (newA F):=by
 refine ⟨fun args h base v e hk H hag => ?_,fun args h base v e hk p hp => ?_⟩
 ·rcases Zby hk with ⟨x,hw,rfl,rfl⟩ | ⟨hn,rfl⟩
  ·exact ZeZ hw _ _
  ·exact Zf0 hn _ _
 ·rcases Zby hk with ⟨x,hw,rfl,rfl⟩ | ⟨hn,rfl⟩<;>simp at hp
theorem ZlP {F:Fun} {f:FuncId} (hc:CSound P f F):DCalls P f (newA F):=by
 intro args h base v e hk hd μ w cargs R hargs
 rcases Zby hk with ⟨x,hw,rfl,rfl⟩ | ⟨hn,rfl⟩
 ·obtain ⟨g,k,hF,hg⟩:=hw.2.2 h
  obtain ⟨hgo,hcall⟩:=hc _ _ _ _ hF μ w cargs R hargs
  refine ⟨hgo,Calls.mono hcall ?_⟩
  rintro en w' ⟨cv,μ',rfl,hst,hv⟩
  have hdead:h[base]? = some .dead:=by have:=hd 0 (by simp);simpa using this
  simp only [VR] at hv
  obtain ⟨vs,rfl,hvs⟩:=hv
  obtain ⟨v1,v2,hq,hv1,hv2⟩:=ZeY hvs
  simp only [VRs] at hv2
  obtain ⟨c,vs',rfl,hsl,rfl⟩:=hv2
  obtain ⟨ν,h1,h2,h3⟩:=Step.move R hst hdead hg hw.2.1 hsl
  refine ⟨_,ν,rfl,by simpa [apAt] using h1, ?_⟩
  simp only [VR]
  refine ⟨vs,rfl, ?_⟩
  rw [hq]
  have hx:apAt h base ⟨[],[.arr x.2.1 x.2.2.1 true false],[]⟩=h.set base (.arr x.2.1 x.2.2.1 true false):=by simp [apAt]
  rw [hx]
  exact VRs.append (Z4L h3 hw.1 hv1) (by simp only [VRs];exact ⟨c,[],rfl,h2,rfl⟩)
 ·obtain ⟨g,hF⟩:=hn.2 h
  obtain ⟨hgo,hcall⟩:=hc _ _ _ _ hF μ w cargs R hargs
  refine ⟨hgo, ?_⟩
  have he:apAt h base ⟨[],[],[]⟩=h:=by simp [apAt]
  rw [he]
  exact Zb5 R hn.1 hcall
theorem DSound.newA {D:DTab} (DS:DSound P D) {f:Nat} {F:Fun} (hc:CSound P f F):DSound P (updD D f (Go.AM.newA F)):=DS.upd (ZlO F) (ZlP hc)
end Go.AM


namespace Go.AM
open Go.RowKit
open Classical in
set_option linter.unusedVariables false
variable {P:Program} {μ μ':Mu} {h h':Hp} {w w':World} {β:Type} {ks:List Nat} {np nt:Nat} {ds:List Deferred} {ρ:Option Nat}
end Go.AM


namespace Go.AM
open Go.RowKit
set_option linter.unusedVariables false
set_option linter.unusedSimpArgs false
variable {P:Program} {μ μ':Mu} {h h':Hp} {w w':World}
structure InsWalk (P:Program) (f:FuncId) (k by_:Nat) (t el:TypeId):Prop where
 goes:Goes P f
 ht:P.underlying t=some (.slice el)
 hs:szOf P el=some k
 hb:bytesOf P el=some by_
 hz:∃z,zeroAV P el=some z∧(cellsOf z).length=k∧(cellsOf z).all okC=true
 big:∀m,m * by_≤140737488355328→m≤maxLen
 shift:∀(b n c i vb m vc:Nat) (cur:Array Value) (T:TypeId) (vs:List Value) (w:World),i<n→0<m→n+m≤c→c≤9223372036854775807→vb≠b→w.heap[b]? = some (.cells cur T (0,0))→c * k≤cur.size→(∀v ∈ cur.toList.take (n * k),v.oneCell'=true)→
  vs.length=m * k→(∀j v,vs[j]? = some v→w.cell? ⟨vb,j,none⟩=some v)→(∀v ∈ vs,v.oneCell'=true)→∀(tA tB:TypeId) (kA kB:Nat),w.shape? vb=some (tA,kA)→w.shape? b=some (tB,kB)→kB≠0→w.frozen? ⟨vb,0,none⟩=false→w.frozen? ⟨vb,kA,none⟩=false→
  Calls P f #[.slice (some ⟨b,0,none⟩) n c, .int .i64 i, .slice (some ⟨vb,0,none⟩) m vc] w fun e w'=>
   e = .returned (.slice (some ⟨b,0,none⟩) (n+m) c)∧w'=w.drew.setRow b (cur.toList.take (i * k)++vs++(cur.toList.drop (i * k)).take ((n-i) * k)++cur.toList.drop ((n+m) * k)).toArray
 grow:∀(b n c i vb m vc:Nat) (cur:Array Value) (T:TypeId) (vs:List Value) (w:World),i<n→0<m→n≤c→c<n+m→(n+m) * by_≤140737488355328→w.heap[b]? = some (.cells cur T (0,0))→n * k≤cur.size→(∀v ∈ cur.toList.take (n * k),v.oneCell'=true)→
  vs.length=m * k→(∀j v,vs[j]? = some v→w.cell? ⟨vb,j,none⟩=some v)→(∀v ∈ vs,v.oneCell'=true)→
  Calls P f #[.slice (some ⟨b,0,none⟩) n c, .int .i64 i, .slice (some ⟨vb,0,none⟩) m vc] w fun e w'=>
   ∃(G:Nat) (R:Array Value),n+m≤G∧G≤maxLen∧R.size=G * k∧R.toList.take ((n+m) * k)=cur.toList.take (i * k)++vs++(cur.toList.drop (i * k)).take ((n-i) * k)∧e = .returned (.slice (some ⟨w.heap.size,0,none⟩) (n+m) G)∧w'=w.drew.drew.alloc (.cells R el)
 fin:∀(A B:Option Addr) (n c m vc:Nat) (u:Value) (w W':World),0<m→n≤c→(A=none→c=0)→(∀ty,(Builtin.append_ #[t,t] ty #[.slice A n c, .slice B m vc]).run P w = .ok u W')→
  Calls P f #[.slice A n c, .int .i64 n, .slice B m vc] w fun e w'=>e = .returned u∧w'=W'
def insF (k by_:Nat):Fun:=fun args h=>
 match args with
 | [s, .s (.int .i64 i), .sl sx idx off m fr full]=>
  match readSl h (.sl sx idx off m fr full),h[idx]? with
  | some news,some (.arr _ _ true _)=>
   if news.length=m∧0<m∧news.all (fun e=>e.length==k)=true∧off=0 then
    match s with
    | .s (.slice none 0 0)=>if i=0∧m * by_≤140737488355328 then some (.sl k h.length 0 m m false,h++[.arr k news true false]) else none
    | .sl sz id soff len sfr sfull=>
     match h[id]? with
     | some (.arr sz' es own nil)=>
      if sz=k∧sz'=k∧soff=0∧own=true∧sfull=false∧len=sfr∧es.length=len∧id≠idx∧(len+m) * by_≤140737488355328∧0≤i∧i≤len then
       some (.sl k id 0 (len+m) (len+m) false,h.set id (.arr k (es.take i.toNat++news++es.drop i.toNat) true false))
      else none
     | _=>none
    | _=>none
   else none
  | _,_=>none
 | _=>none
theorem ZlQ {sx idx off m fr:Nat} {full:Bool} {news:List (List AV)} {l:List AObj} (hk:readSl h (.sl sx idx off m fr full)=some news):readSl (h++l) (.sl sx idx off m fr full)=some news:=by
 unfold readSl at hk ⊢
 dsimp only at hk ⊢
 split at hk<;>try (simp at hk;done)
 rename_i ho
 rw [List.getElem?_append_left (List.getElem?_eq_some_iff.1 ho).1,ho]
 exact hk
theorem ZlR {k:Nat} {es:List (List AV)} (hS:Sized k es) (i:Nat) (hi:i≤es.length):(es.take i).flatten=es.flatten.take (i * k)∧(es.drop i).flatten=es.flatten.drop (i * k):=by
 have q1:Sized k (es.take i):=fun e he=>hS e (List.mem_of_mem_take he)
 have q2:=Z0X q1
 have q3:(es.take i).length=i:=by simp;omega
 rw [q3] at q2
 have q4:es.flatten=(es.take i).flatten++(es.drop i).flatten:=by rw [← List.flatten_append,List.take_append_drop]
 constructor
 ·rw [q4, ← q2,List.take_left]
 ·rw [q4, ← q2,List.drop_left]
theorem Zf1 {f:FuncId} {n0 by_:Nat} {t el:TypeId} (W:InsWalk P f (n0+1) by_ t el):CSound P f (insF (n0+1) by_):=by
 intro args h v h' hk μ w cargs R hargs
 refine ⟨W.goes, ?_⟩
 unfold insF at hk
 split at hk<;>try (simp at hk;done)
 rename_i s i sx idx off m fr full
 split at hk<;>try (simp at hk;done)
 rename_i news szx esx nilx hread hox
 split at hk<;>try (simp at hk;done)
 rename_i hcond
 obtain ⟨hnl,hm0,hall,rfl⟩:=hcond
 simp only [VRs] at hargs
 obtain ⟨v1,vs1,hq1,hv1,v2,vs2,rfl,hv2,v3,vs3,rfl,hv3,rfl⟩:=hargs
 have hcargs:cargs = #[v1,v2,v3]:=by apply Array.ext';simpa using hq1
 subst hcargs
 have e2:v2 = .int .i64 i:=by simp only [VR] at hv2;exact hv2.2
 subst e2
 have hRd:=Z5Z (P:=P) R hv3 hread hall
 have hS:=hRd.sized
 obtain ⟨A3,c3,rfl,hcell⟩:=hRd.val
 have hne:news≠[]:=by intro e;rw [e] at hnl;simp at hnl;omega
 obtain ⟨ad,vs,rfl,hvs,hvl,hone,hat⟩:=hcell hne
 rw [hnl] at hvl
 have hv3':=hv3
 simp only [VR] at hv3'
 obtain ⟨A',c',hsl',hlc', -, -,es',own',nil',ho', -,hq'⟩:=hv3'
 rw [hox] at ho'
 injection ho' with ho'
 injection ho' with e1 e2 e3 e4
 subst e1 e2 e3 e4
 injection hsl' with e5 e6 e7
 subst e5 e7
 -- where the new elements lie
 have hx:∃(vb cap:Nat) (cur:Array Value) (T:TypeId),μ idx = .real vb 0 cap∧ad=⟨vb,0,none⟩∧w.heap[vb]? = some (.cells cur T (0,0)):=by
  have hread':=hread
  unfold readSl at hread'
  simp only [hox] at hread'
  split at hread'<;>try (simp at hread';done)
  rename_i hc
  have hsl:=hq' hc.1.symm
  unfold SlOk at hsl
  split at hsl
  ·rename_i blk o cap hmu
   obtain ⟨a,ha,hcap,hne'⟩:=hsl
   obtain ⟨cur,T,hbk,hcur,rfl, -⟩:=ORel.own_flat (R.obj _ _ hox) hmu
   have:=hne' (by omega)
   injection ha with ha
   subst ha
   exact ⟨blk,cap,cur,T,hmu,by simpa using this,hbk⟩
  ·obtain ⟨-,hc0, -⟩:=hsl
   omega
 obtain ⟨vb,capx,curx,Tx,hmux,rfl,hbx⟩:=hx
 have hat':∀j u,vs[j]? = some u→w.cell? ⟨vb,j,none⟩=some u:=fun j u hu=>by
  have:=hat j u hu
  rwa [Addr.add_lit,Nat.zero_add] at this
 obtain ⟨z,hz1,hz2,hz3⟩:=W.hz
 split at hk
 ·-- into nil
  split at hk<;>try (simp at hk;done)
  rename_i hcc
  obtain ⟨rfl,hbig⟩:=hcc
  simp only [Option.some.injEq,Prod.mk.injEq] at hk
  obtain ⟨rfl,rfl⟩:=hk
  have e1:v1 = .slice none 0 0:=by simp only [VR] at hv1;exact hv1.2
  subst e1
  have S0:=Step.pad R 1
  have hap:appE (n0+1) by_ (.s (.slice none 0 0)) (.sl szx idx 0 m fr full) (h++List.replicate 1 .dead) h.length=some (.sl (n0+1) h.length 0 m m false,⟨[],[.arr (n0+1) news true false],idsOf (.sl szx idx 0 m fr full)⟩):=by
   unfold appE
   rw [ZlQ hread]
   simp only [hnl]
   rw [if_neg (by omega),if_pos ⟨hbig,hall⟩]
  obtain ⟨w2,u,μ2,hrun,S2,hu⟩:=Z60 (ty:=t) S0.rel W.ht W.hs W.hb hz1 hz2 hz3 W.big (VR.evo S0.evo _ _ hv1) (VR.evo S0.evo _ _ hv3) hap (fun _=>by simp)
  have hrun':∀ty,(Builtin.append_ #[t,t] ty #[.slice none 0 0, .slice (some ⟨vb,0,none⟩) news.length c3]).run P w = .ok u w2:=fun ty=>by
   obtain ⟨w2',u',μ2',hr', -⟩:=Z60 (ty:=ty) S0.rel W.ht W.hs W.hb hz1 hz2 hz3 W.big (VR.evo S0.evo _ _ hv1) (VR.evo S0.evo _ _ hv3) hap (fun _=>by simp)
   have:(Builtin.append_ #[t,t] ty #[.slice none 0 0, .slice (some ⟨vb,0,none⟩) news.length c3]).run P w=(Builtin.append_ #[t,t] t #[.slice none 0 0, .slice (some ⟨vb,0,none⟩) news.length c3]).run P w:=rfl
   rw [this];exact hrun
  have key:=W.fin none (some ⟨vb,0,none⟩) 0 0 news.length c3 u w w2 (by omega) (Nat.le_refl _) (fun _=>rfl) hrun'
  refine key.mono ?_
  rintro e w' ⟨rfl,rfl⟩
  have ea:=ZaU (h:=h) (e:=⟨[],[.arr (n0+1) news true false],idsOf (.sl szx idx 0 m fr full)⟩) (by simp) 0
  simp only [List.length_singleton,Nat.add_zero,List.replicate_zero,List.append_nil] at ea
  rw [ea] at S2 hu
  have e9:ap h ⟨[],[.arr (n0+1) news true false],idsOf (.sl szx idx 0 m fr full)⟩=h++[.arr (n0+1) news true false]:=rfl
  rw [e9] at S2 hu
  exact ⟨u,μ2,rfl,S0.trans S2,hu⟩
 ·rename_i sz id soff len sfr sfull
  split at hk<;>try (simp at hk;done)
  rename_i sz' es own nil ho
  split at hk<;>try (simp at hk;done)
  rename_i hcc
  obtain ⟨rfl,rfl,rfl,rfl,rfl,rfl,hel,hid,hbig,hi0,hin⟩:=hcc
  simp only [Option.some.injEq,Prod.mk.injEq] at hk
  obtain ⟨rfl,rfl⟩:=hk
  obtain ⟨j,rfl⟩:∃j:Nat,i=(j:Int):=⟨i.toNat,by omega⟩
  have hjn:j≤len:=by omega
  rw [Int.toNat_natCast]
  have hlt:id<h.length:=(List.getElem?_eq_some_iff.1 ho).1
  have hv1':=hv1
  simp only [VR] at hv1'
  obtain ⟨A0,c0,rfl,hlc,hA0,hfull,es2,own2,nil2,ho2, -,hq⟩:=hv1'
  rw [ho] at ho2
  injection ho2 with ho2
  injection ho2 with e1 e2 e3 e4
  subst e2 e3 e4
  have hsl:=hq hel.symm
  have hO:=R.obj _ _ ho
  have hSe:=hO.1
  have hlen':(es.take j++news++es.drop j).length=len+m:=by simp;omega
  rcases Nat.lt_or_ge j len with hj | hj
  ·-- ahead of an element
   unfold SlOk at hsl
   split at hsl
   ·rename_i blk o cap hmu
    obtain ⟨a',rfl,hcap,hne'⟩:=hsl
    obtain ⟨cur,T,hbk,hcur,rfl,hlec,hcapm,h1,hr⟩:=ORel.own_flat hO hmu
    have ha':=hne' (by omega)
    rw [Nat.zero_mul,Nat.add_zero] at ha'
    subst ha'
    rw [Nat.zero_add] at hcap
    have hvb:vb≠blk:=fun e=>hid (R.sep id idx _ _ blk 0 cap 0 capx ho hox rfl rfl hmu (by rw [hmux,e]))
    have hcm:c0 * (n0+1)≤cur.size:=by rw [hcur];exact Nat.mul_le_mul_right _ hcap
    have hnm:len * (n0+1)≤cur.size:=Nat.le_trans (Nat.mul_le_mul_right _ hlc) hcm
    rw [hel] at h1 hr
    -- the cells of the elements
    have hflat:VRs μ h (es.take j++news++es.drop j).flatten (cur.toList.take (j * (n0+1))++vs++(cur.toList.drop (j * (n0+1))).take ((len-j) * (n0+1))):=by
     obtain ⟨f1,f2⟩:=ZlR hSe j (by omega)
     rw [List.flatten_append,List.flatten_append,f1,f2]
     have m1:j * (n0+1)≤len * (n0+1):=Nat.mul_le_mul_right _ hjn
     have t1:=VRs.take (j * (n0+1)) hr
     have t2:=VRs.drop (j * (n0+1)) hr
     rw [List.take_take,Nat.min_eq_left m1] at t1
     rw [List.drop_take, ← Nat.sub_mul] at t2
     exact VRs.append (VRs.append t1 hvs) t2
    have hone':∀v ∈ cur.toList.take (j * (n0+1))++vs++(cur.toList.drop (j * (n0+1))).take ((len-j) * (n0+1)),v.oneCell'=true:=fun v hv=>by
     have m1:j * (n0+1)≤len * (n0+1):=Nat.mul_le_mul_right _ hjn
     rcases List.mem_append.1 hv with hv | hv
     ·rcases List.mem_append.1 hv with hv | hv
      ·refine h1 v ?_
       rw [← Nat.min_eq_left m1, ← List.take_take] at hv
       exact List.mem_of_mem_take hv
      ·exact hone v hv
     ·refine h1 v ?_
      rw [Nat.sub_mul, ← List.drop_take] at hv
      exact List.mem_of_mem_drop hv
    have hSall:Sized (n0+1) (es.take j++news++es.drop j):=Sized.append (Sized.append (fun e he=>hSe e (List.mem_of_mem_take he)) hS) (fun e he=>hSe e (List.mem_of_mem_drop he))
    have hml:len+m≤maxLen:=W.big _ hbig
    by_cases hroom:len+m≤c0
    ·have hmm:(len+m) * (n0+1)≤cur.size:=Nat.le_trans (Nat.mul_le_mul_right _ hroom) hcm
     have key:=W.shift blk len c0 j vb m c3 cur T vs w hj hm0 hroom (by unfold maxLen at hcapm;omega) hvb hbk hcm h1 hvl hat' hone Tx T curx.size cur.size (by simp [World.shape?,hbx]) (by simp [World.shape?,hbk]) (by
      have:0<len * (n0+1):=Nat.mul_pos (by omega) (by omega)
      omega) (by simp [World.frozen?,hbx]) (by simp [World.frozen?,hbx])
     rw [← hnl] at key
     refine key.mono ?_
     rintro e w' ⟨rfl,rfl⟩
     obtain ⟨row,hrow⟩:∃row:Array Value,row=(cur.toList.take (j * (n0+1))++vs++(cur.toList.drop (j * (n0+1))).take ((len-j) * (n0+1))++cur.toList.drop ((len+m) * (n0+1))).toArray:=⟨_,rfl⟩
     rw [hnl, ← hrow]
     have hl3:(cur.toList.take (j * (n0+1))++vs++(cur.toList.drop (j * (n0+1))).take ((len-j) * (n0+1))).length=(len+m) * (n0+1):=by
      rw [← hflat.length,Z0X hSall,hlen']
     have htk:row.toList.take ((es.take j++news++es.drop j).length * (n0+1))=cur.toList.take (j * (n0+1))++vs++(cur.toList.drop (j * (n0+1))).take ((len-j) * (n0+1)):=by
      rw [hlen',hrow, ← hl3]
      exact List.take_left
     have hrs:row.size=cur.size:=by
      rw [hrow,List.size_toArray,List.length_append,hl3,List.length_drop,Array.length_toList]
      omega
     have S1:=Step.drew R
     have hbk1:w.drew.heap[blk]? = some (.cells cur T (0,0)):=hbk
     have hset:(w.drew.setRow blk row).heap[blk]? = some (.cells row T (0,0)):=setRow_heap w.drew blk cur row T (0,0) hbk1
     refine ⟨_,μ.set id (μ id),rfl,S1.trans (Step.upd S1.rel (loc:=μ id) ho ⟨_,false,rfl,by rw [hlen'];omega,fun _=>rfl⟩ ?_ ?_ rfl ?_), ?_⟩
     ·exact ⟨rfl,rfl,rfl,Nat.le_refl _,by simp,fun k _ hk=>setRow_other w.drew blk k _ (fun e=>hk ⟨rfl,0,cap,by rw [e];exact hmu⟩)⟩
     ·intro b x c e
      exact .inr ⟨rfl,x,c,e⟩
     ·intro hE
      refine ORel.own_arr (cur:=row) (T:=T) (cap:=cap) (blk:=blk) (by simp [hmu]) hSall (by rw [hlen'];omega) hcapm hset (by rw [hrs];exact hcur) ?_ ?_
      ·rw [htk];exact hone'
      ·rw [htk];exact VRs.evo hE _ _ hflat
     ·simp only [VR]
      refine ⟨_,_,rfl,by omega,fun _=>rfl, .room (by omega),_,true,false,by simp [hlt];rfl,by rw [← List.append_assoc,hlen'];exact Nat.le_refl _,fun _ => ?_⟩
      simp only [Mu.set_loc,if_true,hmu,SlOk]
      exact ⟨_,rfl,by omega,fun _=>by simp⟩
    ·have key:=W.grow blk len c0 j vb m c3 cur T vs w hj hm0 hlc (by omega) hbig hbk hnm h1 hvl hat' hone
     rw [← hnl] at key
     refine key.mono ?_
     rintro e w' ⟨G,row,hG1,hG2,hG3,hG4,rfl,rfl⟩
     rw [hnl] at hG1 hG4 ⊢
     have htk:row.toList.take ((es.take j++news++es.drop j).length * (n0+1))=cur.toList.take (j * (n0+1))++vs++(cur.toList.drop (j * (n0+1))).take ((len-j) * (n0+1)):=by
      rw [hlen'];exact hG4
     have S1:=(Step.drew R).trans (Step.drew (Step.drew R).rel)
     refine ⟨_,μ.set id (.real w.heap.size 0 G),rfl,S1.trans (Step.upd S1.rel (loc := .real w.heap.size 0 G) ho ⟨_,false,rfl,by rw [hlen'];omega,fun h=>by rw [hlen'] at h;omega⟩ (Frame.alloc _ _ _) ?_ rfl ?_), ?_⟩
     ·intro b x c e;injection e with e1 e2 e3;subst e1;exact .inl (Nat.le_refl _)
     ·intro hE
      refine ORel.own_arr (cur:=row) (T:=el) (cap:=G) (blk:=w.heap.size) (by simp) hSall (by rw [hlen'];exact hG1) hG2 (heap_alloc_new w.drew.drew _) hG3 ?_ ?_
      ·rw [htk];exact hone'
      ·rw [htk];exact VRs.evo hE _ _ hflat
     ·simp only [VR]
      refine ⟨_,_,rfl,hG1,fun _=>rfl, .room (by omega),_,true,false,by simp [hlt];rfl,by rw [← List.append_assoc,hlen'];exact Nat.le_refl _,fun _ => ?_⟩
      simp only [Mu.set_loc,if_true,SlOk]
      exact ⟨_,rfl,by omega,fun _=>by simp⟩
   ·obtain ⟨-,hc0, -⟩:=hsl
    omega
  ·-- behind all
   have hjl:j=len:=by omega
   subst hjl
   have hap:appE (n0+1) by_ (.sl (n0+1) id 0 j j false) (.sl szx idx 0 m fr full) h h.length=some (.sl (n0+1) id 0 (j+m) (j+m) false,⟨[(id, .arr (n0+1) (es++news) true false)],[],id::idsOf (.sl szx idx 0 m fr full)⟩):=by
    unfold appE
    rw [hread]
    simp only [ho,hnl]
    rw [if_pos (by simpa using ⟨hel,hbig,by simpa using hall⟩),if_neg (by simp),if_pos (by simp)]
    have:(m==0)=false:=by simp;omega
    rw [this,Bool.and_false]
   obtain ⟨w2,u,μ2,hrun,S2,hu⟩:=Z60 (ty:=t) R W.ht W.hs W.hb hz1 hz2 hz3 W.big hv1 hv3 hap (fun h=>absurd rfl h)
   have hrun':∀ty,(Builtin.append_ #[t,t] ty #[.slice A0 j c0, .slice (some ⟨vb,0,none⟩) news.length c3]).run P w = .ok u w2:=fun ty=>by
    have:(Builtin.append_ #[t,t] ty #[.slice A0 j c0, .slice (some ⟨vb,0,none⟩) news.length c3]).run P w=(Builtin.append_ #[t,t] t #[.slice A0 j c0, .slice (some ⟨vb,0,none⟩) news.length c3]).run P w:=rfl
    rw [this];exact hrun
   have key:=W.fin A0 (some ⟨vb,0,none⟩) j c0 news.length c3 u w w2 (by omega) hlc (fun e=>by
    rcases Nat.eq_zero_or_pos c0 with h0 | h0
    ·exact h0
    ·have:=hA0 h0;rw [e] at this;cases this) hrun'
   refine key.mono ?_
   rintro e w' ⟨rfl,rfl⟩
   have ea:apAt h h.length ⟨[(id, .arr (n0+1) (es++news) true false)],[],id::idsOf (.sl szx idx 0 m fr full)⟩=h.set id (.arr (n0+1) (es.take j++news++es.drop j) true false):=by
    rw [List.take_of_length_le (by omega),List.drop_of_length_le (by omega),List.append_nil]
    rfl
   rw [ea] at S2 hu
   exact ⟨u,μ2,rfl,S2,hu⟩
 ·simp at hk
end Go.AM


namespace Go.AM
open Go.RowKit
set_option linter.unusedVariables false
set_option linter.unusedSimpArgs false
variable {P:Program} {μ μ':Mu} {h h':Hp} {w w':World}
def insE (k by_:Nat):DFun:=fun args h base=>
 match args with
 | [s, .s (.int .i64 i), .sl sx idx off m fr full]=>
  match readSl h (.sl sx idx off m fr full),h[idx]? with
  | some news,some (.arr _ _ true _)=>
   if news.length=m∧0<m∧news.all (fun e=>e.length==k)=true∧off=0 then
    match s with
    | .s (.slice none 0 0)=>if i=0∧m * by_≤140737488355328 then some (.sl k base 0 m m false,⟨[],[.arr k news true false],[idx]⟩) else none
    | .sl sz id soff len sfr sfull=>
     match h[id]? with
     | some (.arr sz' es own nil)=>
      if sz=k∧sz'=k∧soff=0∧own=true∧sfull=false∧len=sfr∧es.length=len∧id≠idx∧(len+m) * by_≤140737488355328∧0≤i∧i≤len then
       some (.sl k id 0 (len+m) (len+m) false,⟨[(id, .arr k (es.take i.toNat++news++es.drop i.toNat) true false)],[],[id,idx]⟩)
      else none
     | _=>none
    | _=>none
   else none
  | _,_=>none
 | _=>none
theorem Zf2 {H:Hp} {sx idx off m fr:Nat} {full:Bool} (hs:∀x,h[idx]? = some x→H[idx]? = some x) {news:List (List AV)} (hk:readSl h (.sl sx idx off m fr full)=some news):readSl H (.sl sx idx off m fr full)=some news:=by
 unfold readSl at hk ⊢
 dsimp only at hk ⊢
 split at hk<;>try (simp at hk;done)
 rename_i ho
 rw [hs _ ho]
 exact hk
theorem ZlS (k by_:Nat):DLoc (insE k by_):=by
 refine ⟨fun args h base v e hk H hag => ?_,fun args h base v e hk p hp => ?_⟩
 ·unfold insE at hk
  split at hk<;>try (simp at hk;done)
  rename_i s i sx idx off m fr full
  split at hk<;>try (simp at hk;done)
  rename_i news szx esx nilx hread hox
  split at hk<;>try (simp at hk;done)
  rename_i hcond
  split at hk
  ·split at hk<;>try (simp at hk;done)
   rename_i hcc
   simp only [Option.some.injEq,Prod.mk.injEq] at hk
   obtain ⟨rfl,rfl⟩:=hk
   have hg:∀x,h[idx]? = some x→H[idx]? = some x:=hag idx (by simp)
   unfold insE
   simp only [Zf2 hg hread,hg _ hox]
   rw [if_pos hcond,if_pos hcc]
  ·rename_i sz id soff len sfr sfull
   split at hk<;>try (simp at hk;done)
   rename_i sz' es own nil ho
   split at hk<;>try (simp at hk;done)
   rename_i hcc
   simp only [Option.some.injEq,Prod.mk.injEq] at hk
   obtain ⟨rfl,rfl⟩:=hk
   have hg:∀x,h[idx]? = some x→H[idx]? = some x:=hag idx (by simp)
   have hg2:∀x,h[id]? = some x→H[id]? = some x:=hag id (by simp)
   unfold insE
   simp only [Zf2 hg hread,hg _ hox]
   rw [if_pos hcond]
   simp only [hg2 _ ho]
   rw [if_pos hcc]
  ·simp at hk
 ·unfold insE at hk
  split at hk<;>try (simp at hk;done)
  rename_i s i sx idx off m fr full
  split at hk<;>try (simp at hk;done)
  rename_i news szx esx nilx hread hox
  split at hk<;>try (simp at hk;done)
  rename_i hcond
  split at hk
  ·split at hk<;>try (simp at hk;done)
   simp only [Option.some.injEq,Prod.mk.injEq] at hk
   obtain ⟨rfl,rfl⟩:=hk
   simp at hp
  ·rename_i sz id soff len sfr sfull
   split at hk<;>try (simp at hk;done)
   rename_i sz' es own nil ho
   split at hk<;>try (simp at hk;done)
   rename_i hcc
   simp only [Option.some.injEq,Prod.mk.injEq] at hk
   obtain ⟨rfl,rfl⟩:=hk
   simp only [List.mem_singleton] at hp
   subst hp
   exact ⟨_,ho,by simp⟩
  ·simp at hk
theorem ZlT {f:FuncId} {n0 by_:Nat} {t el:TypeId} (W:InsWalk P f (n0+1) by_ t el):DCalls P f (insE (n0+1) by_):=by
 intro args h base v e hk hd μ w cargs R hargs
 unfold insE at hk
 split at hk<;>try (simp at hk;done)
 rename_i s i sx idx off m fr full
 split at hk<;>try (simp at hk;done)
 rename_i news szx esx nilx hread hox
 split at hk<;>try (simp at hk;done)
 rename_i hcond
 split at hk
 ·split at hk<;>try (simp at hk;done)
  rename_i hcc
  simp only [Option.some.injEq,Prod.mk.injEq] at hk
  obtain ⟨rfl,rfl⟩:=hk
  refine ⟨W.goes, ?_⟩
  obtain ⟨hnl,hm0,hall,rfl⟩:=hcond
  obtain ⟨rfl,hbig⟩:=hcc
  simp only [VRs] at hargs
  obtain ⟨v1,vs1,hq1,hv1,v2,vs2,rfl,hv2,v3,vs3,rfl,hv3,rfl⟩:=hargs
  have hcargs:cargs = #[v1,v2,v3]:=by apply Array.ext';simpa using hq1
  subst hcargs
  have e2:v2 = .int .i64 0:=by simp only [VR] at hv2;exact hv2.2
  subst e2
  have e1:v1 = .slice none 0 0:=by simp only [VR] at hv1;exact hv1.2
  subst e1
  have hRd:=Z5Z (P:=P) R hv3 hread hall
  obtain ⟨A3,c3,rfl,hcell⟩:=hRd.val
  obtain ⟨z,hz1,hz2,hz3⟩:=W.hz
  have hdead:h[base]? = some .dead:=by have:=hd 0 (by simp);simpa using this
  have hap:appE (n0+1) by_ (.s (.slice none 0 0)) (.sl sx idx 0 m fr full) h base=some (.sl (n0+1) base 0 m m false,⟨[],[.arr (n0+1) news true false],idsOf (.sl sx idx 0 m fr full)⟩):=by
   unfold appE
   rw [hread]
   simp only [hnl]
   rw [if_neg (by omega),if_pos ⟨hbig,hall⟩]
  obtain ⟨w2,u,μ2,hrun,S2,hu⟩:=Z60 (ty:=t) R W.ht W.hs W.hb hz1 hz2 hz3 W.big hv1 hv3 hap (fun _=>hdead)
  have hrun':∀ty,(Builtin.append_ #[t,t] ty #[.slice none 0 0, .slice A3 news.length c3]).run P w = .ok u w2:=fun ty=>by
   have:(Builtin.append_ #[t,t] ty #[.slice none 0 0, .slice A3 news.length c3]).run P w=(Builtin.append_ #[t,t] t #[.slice none 0 0, .slice A3 news.length c3]).run P w:=rfl
   rw [this];exact hrun
  have key:=W.fin none A3 0 0 news.length c3 u w w2 (by omega) (Nat.le_refl _) (fun _=>rfl) hrun'
  refine key.mono ?_
  rintro e w' ⟨rfl,rfl⟩
  exact ⟨u,μ2,rfl,S2,hu⟩
 ·rename_i sz id soff len sfr sfull
  split at hk<;>try (simp at hk;done)
  rename_i sz' es own nil ho
  split at hk<;>try (simp at hk;done)
  rename_i hcc
  simp only [Option.some.injEq,Prod.mk.injEq] at hk
  obtain ⟨rfl,rfl⟩:=hk
  have hF:insF (n0+1) by_ [.sl sz id soff len sfr sfull, .s (.int .i64 i), .sl sx idx off m fr full] h=some (.sl (n0+1) id 0 (len+m) (len+m) false,h.set id (.arr (n0+1) (es.take i.toNat++news++es.drop i.toNat) true false)):=by
   unfold insF
   simp only [hread,hox]
   rw [if_pos hcond]
   simp only [ho]
   rw [if_pos hcc]
  exact Zf1 W _ _ _ _ hF μ w cargs R hargs
 ·simp at hk
theorem DSound.ins {D:DTab} (DS:DSound P D) {f:Nat} {n0 by_:Nat} {t el:TypeId} (W:InsWalk P f (n0+1) by_ t el):DSound P (updD D f (insE (n0+1) by_)):=DS.upd (ZlS _ _) (ZlT W)
theorem ZlU {α:Type} {f:α→List AV} {k by_ id idx:Nat} {full nil:Bool} {W:List α} {x:α} {h:Hp} {nilx:Bool} {i:Nat} (hid:h[id]? = some (.arr k (W.map f) true nil)) (hx:h[idx]? = some (.arr k [f x] true nilx)) (hne:id≠idx) (hf:∀x,(f x).length=k) (hi:i≤W.length) (hb:(W.length+1) * by_≤140737488355328) (base:Nat):
  insE k by_ [.sl k id 0 W.length W.length false, .s (.int .i64 (i:Int)), .sl k idx 0 1 1 full] h base=some (.sl k id 0 (W.length+1) (W.length+1) false,⟨[(id, .arr k ((W.take i++[x]++W.drop i).map f) true false)],[],[id,idx]⟩):=by
 have hr:readSl h (.sl k idx 0 1 1 full)=some [f x]:=by
  unfold readSl
  simp [hx]
 unfold insE
 simp only [hr,hx]
 rw [if_pos (by simp [hf])]
 simp only [hid,List.length_map]
 rw [if_pos ⟨trivial,trivial,trivial,trivial,trivial,trivial,trivial,hne,hb,by omega,by omega⟩]
 rw [Int.toNat_natCast,List.map_append,List.map_append,List.map_take,List.map_drop]
 rfl
theorem ZlV {α:Type} {f:α→List AV} {k by_ idx:Nat} {full:Bool} {x:α} {h:Hp} {nilx:Bool} (hx:h[idx]? = some (.arr k [f x] true nilx)) (hf:∀x,(f x).length=k) (hb:by_≤140737488355328) (base:Nat):
  insE k by_ [.s (.slice none 0 0), .s (.int .i64 0), .sl k idx 0 1 1 full] h base=some (.sl k base 0 1 1 false,⟨[],[.arr k [f x] true false],[idx]⟩):=by
 have hr:readSl h (.sl k idx 0 1 1 full)=some [f x]:=by
  unfold readSl
  simp [hx]
 unfold insE
 simp only [hr,hx]
 rw [if_pos (by simp [hf]),if_pos ⟨trivial,by omega⟩]
end Go.AM


namespace Go.AM
open Go.RowKit Go.Lib
set_option linter.unusedVariables false
set_option linter.unusedSimpArgs false
section
variable {P:Program}
theorem Zbz (w:World) {ops:Array Oper} {rest:List Oper} {o:Oper} {a:Act} {Q:Exit→Act→World→Prop} (hgd:o.guard=none) (d s:Operand) (t t':TypeId)
  (ho:o.op = .call { callee := .builtin .copy,args := #[d,s],argTypes := #[t,t'] }) (v u:Value) (hd:a.eval d=v) (hs:a.eval s=u) {v':Value} {w':World}
  (hr:(Builtin.copy_ #[t,t'] o.type #[v,u]).run P w = .ok v' w') (h:wpList P ops Q rest (a.put o.dst v') w'):wpList P ops Q (o::rest) a w:=
 wpList_plain hgd fun _ hK=>by
  unfold Oper.wp execOp
  simp only [ho,resolve,invoke,builtin,Sem.run_bind,Sem.run_pure,Result.andThen_ok,List.map_toArray,List.map_cons,List.map_nil,hd,hs,hr]
  exact hK _ _ h
theorem Zf3 {ops:Array Oper} {o:Oper} {a:Act} {w:World} {K:Act→World→Prop} {Q:Exit→Act→World→Prop} {E:Prop}
  (hg:o.guard=none) (d x:Operand) (dT sT:TypeId) (hop:o.op=Op.call { callee:=Callee.builtin Builtin.copy,args := #[d,x],argTypes := #[dT,sT] })
  (v u:Value) (hd:a.eval d=v) (hx:a.eval x=u) {v':Value} {w':World} (hr:(Builtin.copy_ #[dT,sT] o.type #[v,u]).run P w = .ok v' w') (hK:K (a.put o.dst v') w'):
  if Region.wanted o (yielded ops a.tmps)=true then Oper.wp P o a w K Q else E:=by
 have hw:Region.wanted o (yielded ops a.tmps)=true:=by simp [Region.wanted,hg]
 rw [if_pos hw]
 unfold Oper.wp
 simp [execOp,hop,resolve,invoke,builtin,hd,hx,hr,Result.andThen]
 exact hK
theorem Z8W (w:World) (dT sT ty elem:TypeId) (k g o dLen dCap:Nat) (a:Addr) (sLen sCap:Nat) (cur:Array Value) (t:TypeId) (cs:List Value)
  (hu:P.underlying dT=some (.slice elem)) (hs:(P.info? elem).map (·.size)=some k)
  (hg:w.heap[g]? = some (.cells cur t (0,0))) {n:Nat} (hn:Nat.min sLen dLen=n) (hl:cs.length=n * k)
  (hsrc:∀j v,cs[j]? = some v→w.cell? (a.add j)=some v) (hfit:o+cs.length≤cur.size) (h1:∀v ∈ cs,v.oneCell'=true):
  (Builtin.copy_ #[dT,sT] ty #[.slice (some ⟨g,o,none⟩) dLen dCap, .slice (some a) sLen sCap]).run P w =
   .ok (goInt n) (w.setRow g (cur.toList.take o++cs++cur.toList.drop (o+cs.length)).toArray):=by
 have hl':=run_loadCells_list (P:=P) w a cs hsrc
 rw [hl] at hl'
 have hst:=run_storeCells_at P g o t cs 0 cur w hg (by simpa using hfit) h1
 cases hq:P.info? elem with
 | none=>simp [hq] at hs
 | some i=>
  have hi:i.size=k:=by simpa [hq] using hs
  simp [Builtin.copy_,run_underlying hu,Builtin.lenOf,Builtin.firstCells,sizeOf,typeInfo,hq,hi,hn,hl',hst]
end
theorem ZlW {k i n m:Nat} {l cs vs:List Value} (hcl:cs.length=(n-i) * k) (hl:(n+m) * k≤l.length) (hin:i≤n):
  (l.take ((i+m) * k)++cs++l.drop ((i+m) * k+(n-i) * k)).take (i * k)++vs++(l.take ((i+m) * k)++cs++l.drop ((i+m) * k+(n-i) * k)).drop (i * k+m * k)=l.take (i * k)++vs++cs++l.drop ((n+m) * k):=by
 have e1:(i+m) * k=i * k+m * k:=Nat.add_mul ..
 have e2:(n+m) * k=(i+m) * k+(n-i) * k:=by rw [← Nat.add_mul];congr 1;omega
 have e3:(l.take ((i+m) * k)).length=(i+m) * k:=by rw [List.length_take];omega
 have h1:(l.take ((i+m) * k)++cs++l.drop ((i+m) * k+(n-i) * k)).take (i * k)=l.take (i * k):=by
  rw [List.append_assoc,List.take_append_of_le_length (by omega),List.take_take,Nat.min_eq_left (by omega)]
 have h2:(l.take ((i+m) * k)++cs++l.drop ((i+m) * k+(n-i) * k)).drop (i * k+m * k)=cs++l.drop ((i+m) * k+(n-i) * k):=by
  rw [← e1,List.append_assoc,List.drop_append_of_le_length (by omega),List.drop_of_length_le (by omega),List.nil_append]
 rw [h1,h2,e2,List.append_assoc,List.append_assoc,List.append_assoc]
theorem ZlX (w:World) (r r1 r2:Array Value) (T:TypeId):((w.alloc (.cells r T)).setRow w.heap.size r1).drew.setRow w.heap.size r2=w.drew.alloc (.cells r2 T):=by
 have h:∀(w:World) (r r1:Array Value),(w.alloc (.cells r T)).setRow w.heap.size r1=w.alloc (.cells r1 T):=fun w r r1=>by
  unfold World.setRow World.alloc
  congr 1
  apply Array.ext
  ·simp
  ·intro k h1 h2
   simp only [Array.getElem_modify,Array.getElem_push]
   split
   ·rename_i hk
    subst hk
    simp
   ·rename_i hk
    have hk2:k<w.heap.size:=by simp only [Array.size_push] at h2;omega
    rw [dif_pos hk2,dif_pos hk2]
 rw [h]
 exact h w.drew r1 r2
theorem ZlY {k i n m:Nat} {l cs vs r z:List Value} (hr:r=l.take (i * k)++z) (hcl:cs.length=(n-i) * k) (hvl:vs.length=m * k) (hl:n * k≤l.length) (hz:(n+m-i) * k≤z.length) (hin:i≤n):
  ((r.take (i * k)++vs++r.drop (i * k+m * k)).take ((i+m) * k)++cs++(r.take (i * k)++vs++r.drop (i * k+m * k)).drop ((i+m) * k+(n-i) * k)).take ((n+m) * k)=l.take (i * k)++vs++cs ∧
   ((r.take (i * k)++vs++r.drop (i * k+m * k)).take ((i+m) * k)++cs++(r.take (i * k)++vs++r.drop (i * k+m * k)).drop ((i+m) * k+(n-i) * k)).length=r.length:=by
 have e1:(i+m) * k=i * k+m * k:=Nat.add_mul ..
 have e2:(n+m) * k=(i+m) * k+(n-i) * k:=by rw [← Nat.add_mul];congr 1;omega
 have e3:(n+m-i) * k=m * k+(n-i) * k:=by rw [← Nat.add_mul];congr 1;omega
 have e4:i * k≤n * k:=Nat.mul_le_mul_right _ hin
 have l1:(l.take (i * k)).length=i * k:=by rw [List.length_take];omega
 have hrl:r.length=i * k+z.length:=by rw [hr,List.length_append,l1]
 have h1:r.take (i * k)=l.take (i * k):=by
  rw [hr,List.take_append_of_le_length (by omega),List.take_take,Nat.min_self]
 have l2:(l.take (i * k)++vs).length=(i+m) * k:=by rw [List.length_append,l1,hvl,e1]
 rw [h1]
 have h2:(l.take (i * k)++vs++r.drop (i * k+m * k)).take ((i+m) * k)=l.take (i * k)++vs:=by
  rw [List.take_append_of_le_length (by omega),List.take_of_length_le (by omega)]
 rw [h2]
 constructor
 ·rw [List.take_append_of_le_length (by rw [List.length_append,l2,hcl];omega),List.take_of_length_le (by rw [List.length_append,l2,hcl];omega)]
 ·rw [List.length_append,List.length_append,l2,hcl,List.length_drop,List.length_append,l2,List.length_drop]
  omega
end Go.AM


namespace Go.AM
open Go.Proofs Go.RowKit Go.Lib
set_option linter.unusedVariables false
set_option linter.unusedSimpArgs false
set_option maxHeartbeats 4000000 in
set_option maxRecDepth 100000 in
theorem ZlZ (b n c i vb m vc:Nat) (cur:Array Value) (T:TypeId) (vs:List Value) (w:World) (hi:i<n) (hm:0<m) (hroom:n+m≤c) (hc63:c≤9223372036854775807) (hvb:vb≠b)
  (hbk:w.heap[b]? = some (.cells cur T (0,0))) (hcap:c * 2≤cur.size) (h1:∀v ∈ cur.toList.take (n * 2),v.oneCell'=true)
  (hvl:vs.length=m * 2) (hvs:∀j v,vs[j]? = some v→w.cell? ⟨vb,j,none⟩=some v) (h1v:∀v ∈ vs,v.oneCell'=true)
  (tA tB:TypeId) (kA kB:Nat) (hsa:w.shape? vb=some (tA,kA)) (hsb:w.shape? b=some (tB,kB)) (hkB:kB≠0) (hfa:w.frozen? ⟨vb,0,none⟩=false) (hfe:w.frozen? ⟨vb,kA,none⟩=false):
  Calls Try.prog 79 #[.slice (some ⟨b,0,none⟩) n c, .int .i64 i, .slice (some ⟨vb,0,none⟩) m vc] w fun e w'=>
   e = .returned (.slice (some ⟨b,0,none⟩) (n+m) c)∧w'=w.drew.setRow b (cur.toList.take (i * 2)++vs++(cur.toList.drop (i * 2)).take ((n-i) * 2)++cur.toList.drop ((n+m) * 2)).toArray:=by
 have u0:=run_underlying Try.underlying22;have u3:=run_underlying Try.underlying3;have u4:=run_underlying Try.underlying4
 have hz1:¬((m:Int)=0):=by omega
 have hz2:¬((i:Int)=(n:Int)):=by omega
 have hsz:(Try.prog.info? 36).map (·.size)=some 2:=by kernel_rfl
 have hov:∀lb cb,(callFunc 97 #[.slice (some ⟨vb,0,none⟩) m vc, .slice (some ⟨b,(i+m) * 2,none⟩) lb cb]).run Try.prog w = .ok (.value (.bool false)) w:=fun lb cb=>by
  rw [run_callFunc_extern Try.func97 (by kernel_rfl) (by kernel_rfl) (by kernel_rfl) (e:=Extern.SlicesOverlaps.overlaps #[22,22] #[4]) (by kernel_rfl),
   Lib.run_overlaps_apart w 22 4 36 Try.underlying22 2 Try.sizeOf36 ⟨vb,0,none⟩ ⟨b,(i+m) * 2,none⟩ m vc lb cb hvb tA tB kA kB hsa hsb hkB hfa hfe]
  rfl
 have mixed:Try.prog.follows .mixedOrders=true:=by kernel_rfl
 have hw1:IntKind.i64.wrap ((i:Int)+(m:Int))=(i:Int)+(m:Int):=by rw [IntKind.wrap_i64];omega
 have hb1:(0:Int)≤(i:Int)+(m:Int):=by omega
 have hin:i≤n:=by omega
 have htn:((i:Int)+(m:Int)).toNat=i+m:=by omega
 have hb2:¬(c=i+m):=by omega
 have hb3:(i:Int)≤(n:Int)+(m:Int):=by omega
 have hb4:¬(c=i):=by omega
 obtain ⟨cs,hcs⟩:∃cs,cs=(cur.toList.drop (i * 2)).take ((n-i) * 2):=⟨_,rfl⟩
 have hcl:cs.length=(n-i) * 2:=by rw [hcs,List.length_take,List.length_drop,Array.length_toList];omega
 have hcm:∀v ∈ cs,v.oneCell'=true:=fun v hv=>h1 v (by
  obtain ⟨j,hj⟩:=List.getElem?_of_mem hv
  rw [hcs,List.getElem?_take] at hj
  split at hj
  ·rw [List.getElem?_drop] at hj
   refine List.mem_of_getElem? (i:=i * 2+j) ?_
   rw [List.getElem?_take,if_pos (by omega)]
   exact hj
  ·cases hj)
 obtain ⟨row1,hr1⟩:∃row1,row1=(cur.toList.take ((i+m) * 2)++cs++cur.toList.drop ((i+m) * 2+cs.length)).toArray:=⟨_,rfl⟩
 have hrs1:row1.size=cur.size:=by rw [hr1];simp [hcl];omega
 have hcp1:∀ty dc sc,(Builtin.copy_ #[22,22] ty #[.slice (some ⟨b,(i+m) * 2,none⟩) (n+m-(i+m)) dc, .slice (some ⟨b,i * 2,none⟩) (n+m-i) sc]).run Try.prog w.drew = .ok (goInt ((n-i:Nat):Int)) (w.drew.setRow b row1):=fun ty dc sc=>by
  rw [hr1]
  refine Z8W (n:=n-i) w.drew 22 22 ty 36 2 b _ _ dc _ _ sc cur T cs Try.underlying22 hsz hbk (by simp only [Nat.min_def];split<;>omega) hcl (fun j v hj => ?_) (by rw [hcl];omega) hcm
  rw [hcs,List.getElem?_take] at hj
  split at hj
  ·rw [List.getElem?_drop] at hj
   rw [Addr.add_lit]
   rw [cell_of_row w.drew b _ cur T (0,0) hbk]
   simpa using hj
  ·cases hj
 have hh2:(w.drew.setRow b row1).heap[b]? = some (.cells row1 T (0,0)):=setRow_heap w.drew b cur row1 T (0,0) hbk
 obtain ⟨row2,hr2⟩:∃row2,row2=(row1.toList.take (i * 2)++vs++row1.toList.drop (i * 2+vs.length)).toArray:=⟨_,rfl⟩
 have hcp2:∀ty dc,(Builtin.copy_ #[22,22] ty #[.slice (some ⟨b,i * 2,none⟩) (n+m-i) dc, .slice (some ⟨vb,0,none⟩) m vc]).run Try.prog (w.drew.setRow b row1) = .ok (goInt m) (w.drew.setRow b row2):=fun ty dc=>by
  have:=Z8W (P:=Try.prog) (w.drew.setRow b row1) 22 22 ty 36 2 b (i * 2) (n+m-i) dc ⟨vb,0,none⟩ m vc row1 T vs Try.underlying22 hsz hh2 (n:=m) (by simp only [Nat.min_def];split<;>omega) hvl (fun j v hj=>by
   rw [Addr.add_lit,Nat.zero_add,Z1D (w:=w) (by rw [setRow_other w.drew b vb row1 hvb];rfl)]
   exact hvs j v hj) (by omega) h1v
  rw [this,setRow_setRow,hr2]
 have hfin:row2=(cur.toList.take (i * 2)++vs++(cur.toList.drop (i * 2)).take ((n-i) * 2)++cur.toList.drop ((n+m) * 2)).toArray:=by
  rw [hr2,hr1,hvl,hcl, ← hcs]
  exact congrArg List.toArray (ZlW (k:=2) (i:=i) (n:=n) (m:=m) hcl (by rw [Array.length_toList];omega) hin)
 rw [← hfin]
 clear hfin hr1 hr2 hcs hcl hcm hrs1 hh2
 go_enter Try.func79,Try.ntmps79
 go_wp2_with (simp only [hov])
 go_region_law_o (go_loud (refine Zf3 rfl _ _ 22 22 rfl (.slice (some ⟨b,(i+m) * 2,none⟩) (n+m-(i+m)) (c-(i+m))) (.slice (some ⟨b,i * 2,none⟩) (n+m-i) (c-i)) (by simp [Act.eval,Act.put]) (by simp [Act.eval,Act.put]) (hcp1 3 (c-(i+m)) (c-i)) ?_))
 go_wp2_with (at_builtin;refine Zbz _ rfl _ _ 22 22 rfl _ _ rfl rfl (hcp2 _ _) ?_)
 go_ret
 exact ⟨rfl,rfl⟩
set_option maxHeartbeats 4000000 in
set_option maxRecDepth 100000 in
theorem Zm0 (b n c i vb m vc:Nat) (cur:Array Value) (T:TypeId) (vs:List Value) (w:World) (hi:i<n) (hm:0<m) (hnc:n≤c) (hroom:c<n+m) (hbig:(n+m) * 16≤140737488355328)
  (hbk:w.heap[b]? = some (.cells cur T (0,0))) (hcap:n * 2≤cur.size) (h1:∀v ∈ cur.toList.take (n * 2),v.oneCell'=true)
  (hvl:vs.length=m * 2) (hvs:∀j v,vs[j]? = some v→w.cell? ⟨vb,j,none⟩=some v) (h1v:∀v ∈ vs,v.oneCell'=true):
  Calls Try.prog 79 #[.slice (some ⟨b,0,none⟩) n c, .int .i64 i, .slice (some ⟨vb,0,none⟩) m vc] w fun e w'=>
   ∃(G:Nat) (R:Array Value),n+m≤G∧G≤maxLen∧R.size=G * 2∧R.toList.take ((n+m) * 2)=cur.toList.take (i * 2)++vs++(cur.toList.drop (i * 2)).take ((n-i) * 2)∧e = .returned (.slice (some ⟨w.heap.size,0,none⟩) (n+m) G)∧w'=w.drew.drew.alloc (.cells R 36):=by
 have u0:=run_underlying Try.underlying22;have u3:=run_underlying Try.underlying3;have u4:=run_underlying Try.underlying4
 have mixed:Try.prog.follows .mixedOrders=true:=by kernel_rfl
 obtain ⟨i0,hi0,hz0,hzs,hzb⟩:=info_parts (P:=Try.prog) (e:=36) (z := .agg #[.int .i64 0, .int .i64 0]) (size:=2) (bytes:=16) (by kernel_rfl)
 have hz1:¬((m:Int)=0):=by omega
 have hz2:¬((i:Int)=(n:Int)):=by omega
 have hz3:(c:Int)<(n:Int)+(m:Int):=by omega
 have hsz:(Try.prog.info? 36).map (·.size)=some 2:=by rw [hi0];simp [hzs]
 have hkk:(n:Int)+(m:Int)-(i:Int)=((n+m-i:Nat):Int):=by omega
 have hik:i+(n+m-i)=n+m:=by omega
 have hb8:b<w.heap.size:=(Array.getElem?_eq_some_iff.1 hbk).1
 have hvb:vb<w.heap.size:=by
  have h0:0<vs.length:=by omega
  exact block_lt_of_cell (hvs 0 _ (List.getElem?_eq_getElem h0))
 have hcl0:(cur.toList.take (i * 2)).length=i * 2:=by rw [List.length_take,Array.length_toList];omega
 have hold:(Builtin.firstCells i0.size i (.slice (some ⟨b,0,none⟩) i c)).run Try.prog w.drew = .ok (cur.toList.take (i * 2)).toArray w.drew:=by
  rw [hzs]
  exact run_firstCells_some w.drew 2 i ⟨b,0,none⟩ i c (cur.toList.take (i * 2)) hcl0 (fun j v hj=>by
   rw [Addr.add_lit,cell_of_row w.drew b _ cur T (0,0) hbk]
   rw [List.getElem?_take] at hj
   split at hj
   ·simpa using hj
   ·cases hj)
 obtain ⟨G,hG⟩:∃G,G=grownCap w (n+m) c 36:=⟨_,rfl⟩
 obtain ⟨zc,hzc⟩:∃zc:Array Value,zc=Value.cells (.agg #[.int .i64 0, .int .i64 0]):=⟨_,rfl⟩
 have hzc7:zc.size=2:=by rw [hzc];rfl
 obtain ⟨ROW,hROW⟩:∃ROW:Array Value,ROW=(cur.toList.take (i * 2)).toArray++Builtin.zeroCells zc (n+m-i)++Builtin.zeroCells zc (G-(n+m)):=⟨_,rfl⟩
 have hrz:∀ty,(Builtin.append_ #[22,3] ty #[.slice (some ⟨b,0,none⟩) i c, .int .i64 ((n:Int)+(m:Int)-(i:Int))]).run Try.prog w =
   .ok (.slice (some ⟨w.heap.size,0,none⟩) (n+m) G) (w.drew.alloc (.cells ROW 36)):=fun ty=>by
  have h:=Lib.run_append_grow_zeros w 22 3 ty 36 i0 _ .i64 .i64 Try.underlying22 Try.underlying3 hi0 hz0 (some ⟨b,0,none⟩) i c (cur.toList.take (i * 2)) hold (n+m-i) (by omega) (by omega) (by omega) (by omega) (by rw [hzb];omega) (by rw [hzb,hik];exact growslice_fits hroom hbig)
  rw [hik] at h
  rw [hkk,hROW,hG,hzc]
  exact h
 have hGn:n+m≤G:=by rw [hG];exact grownCap_ge w _ _ _
 have hGx:G≤maxLen:=by
  rw [hG];exact grownCap_le_maxLen w (n+m) c 36 (by unfold maxLen;omega)
 have hG63:G≤9223372036854775807:=by unfold maxLen at hGx;omega
 have hRs:ROW.size=G * 2:=by
  rw [hROW]
  simp only [Array.size_append,size_zeroCells,List.size_toArray,hcl0,hzc7]
  omega
 obtain ⟨cs,hcs⟩:∃cs,cs=(cur.toList.drop (i * 2)).take ((n-i) * 2):=⟨_,rfl⟩
 have hcl:cs.length=(n-i) * 2:=by rw [hcs,List.length_take,List.length_drop,Array.length_toList];omega
 have hcm:∀v ∈ cs,v.oneCell'=true:=fun v hv=>h1 v (by
  obtain ⟨j,hj⟩:=List.getElem?_of_mem hv
  rw [hcs,List.getElem?_take] at hj
  split at hj
  ·rw [List.getElem?_drop] at hj
   refine List.mem_of_getElem? (i:=i * 2+j) ?_
   rw [List.getElem?_take,if_pos (by omega)]
   exact hj
  ·cases hj)
 obtain ⟨r1,hr1⟩:∃r1,r1=(ROW.toList.take (i * 2)++vs++ROW.toList.drop (i * 2+vs.length)).toArray:=⟨_,rfl⟩
 have hrs1:r1.size=ROW.size:=by rw [hr1];simp;omega
 obtain ⟨r2,hr2⟩:∃r2,r2=(r1.toList.take ((i+m) * 2)++cs++r1.toList.drop ((i+m) * 2+cs.length)).toArray:=⟨_,rfl⟩
 obtain ⟨W1,hW1⟩:∃W1,W1=w.drew.alloc (.cells ROW 36):=⟨_,rfl⟩
 rw [← hW1] at hrz
 have hg1:W1.heap[w.heap.size]? = some (.cells ROW 36 (0,0)):=by rw [hW1];exact heap_alloc_new w.drew _
 have hO:∀k,k<w.heap.size→W1.heap[k]? = w.heap[k]? := fun k hk=>by
  rw [hW1]
  exact (Frame.alloc (S:=fun _=>False) w.drew _).block k hk (fun h=>h)
 have hcpA:∀ty dc,(Builtin.copy_ #[22,22] ty #[.slice (some ⟨w.heap.size,i * 2,none⟩) (n+m-i) dc, .slice (some ⟨vb,0,none⟩) m vc]).run Try.prog W1 = .ok (goInt m) (W1.setRow w.heap.size r1):=fun ty dc=>by
  rw [hr1]
  exact Z8W (P:=Try.prog) (n:=m) W1 22 22 ty 36 2 w.heap.size (i * 2) (n+m-i) dc ⟨vb,0,none⟩ m vc ROW 36 vs Try.underlying22 hsz hg1 (by simp only [Nat.min_def];split<;>omega) hvl (fun j v hj=>by
   rw [Addr.add_lit,Nat.zero_add,Z1D (hO vb hvb)]
   exact hvs j v hj) (by omega) h1v
 have hg2:(W1.setRow w.heap.size r1).heap[w.heap.size]? = some (.cells r1 36 (0,0)):=setRow_heap W1 _ ROW r1 36 (0,0) hg1
 have hcpB:∀ty dc sc,(Builtin.copy_ #[22,22] ty #[.slice (some ⟨w.heap.size,(i+m) * 2,none⟩) (n+m-(i+m)) dc, .slice (some ⟨b,i * 2,none⟩) (n-i) sc]).run Try.prog (W1.setRow w.heap.size r1).drew = .ok (goInt ((n-i:Nat):Int)) ((W1.setRow w.heap.size r1).drew.setRow w.heap.size r2):=fun ty dc sc=>by
  rw [hr2]
  exact Z8W (P:=Try.prog) (n:=n-i) (W1.setRow w.heap.size r1).drew 22 22 ty 36 2 w.heap.size _ _ dc _ _ sc r1 36 cs Try.underlying22 hsz hg2 (by simp only [Nat.min_def];split<;>omega) hcl (fun j v hj=>by
   rw [hcs,List.getElem?_take] at hj
   split at hj
   ·rw [List.getElem?_drop] at hj
    have hbb:(W1.setRow w.heap.size r1).drew.heap[b]? = some (.cells cur T (0,0)):=by
     show (W1.setRow w.heap.size r1).heap[b]? = _
     rw [setRow_other W1 _ b r1 (by omega),hO b hb8,hbk]
    rw [Addr.add_lit,cell_of_row _ b _ cur T (0,0) hbb]
    simpa using hj
   ·cases hj) (by omega) hcm
 have hGi:¬(G=i):=by omega
 have hGim:¬(G=i+m):=by omega
 have hci:¬(c=i):=by omega
 have hw1:IntKind.i64.wrap ((i:Int)+(m:Int))=(i:Int)+(m:Int):=by rw [IntKind.wrap_i64];omega
 have hb1:(0:Int)≤(i:Int)+(m:Int):=by omega
 have hin:i≤n:=by omega
 have htn:((i:Int)+(m:Int)).toNat=i+m:=by omega
 have hb3:(i:Int)≤(n:Int):=by omega
 obtain ⟨q1,q2⟩:=ZlY (k:=2) (i:=i) (n:=n) (m:=m) (l:=cur.toList) (cs:=cs) (vs:=vs) (r:=ROW.toList) (z:=(Builtin.zeroCells zc (n+m-i)++Builtin.zeroCells zc (G-(n+m))).toList) (by rw [hROW];simp) hcl hvl (by rw [Array.length_toList];exact hcap) (by
  simp only [Array.toList_append,List.length_append,Array.length_toList,size_zeroCells,hzc7];omega) hin
 have hR1:r2.toList.take ((n+m) * 2)=cur.toList.take (i * 2)++vs++cs:=by rw [hr2,hr1,hvl,hcl];exact q1
 have hR2:r2.size=G * 2:=by
  have:r2.toList.length=ROW.toList.length:=by rw [hr2,hr1,hvl,hcl];exact q2
  simpa [hRs] using this
 have hend:(W1.setRow w.heap.size r1).drew.setRow w.heap.size r2=w.drew.drew.alloc (.cells r2 36):=by
  subst hW1
  exact ZlX w.drew ROW r1 r2 36
 refine Calls.mono (R:=fun e w'=>e = .returned (.slice (some ⟨w.heap.size,0,none⟩) (n+m) G)∧w'=(W1.setRow w.heap.size r1).drew.setRow w.heap.size r2) ?_ (fun e w' ⟨h1,h2⟩=>⟨G,r2,hGn,hGx,hR2,by rw [hR1,hcs],h1,h2.trans hend⟩)
 clear hkk hik hold hROW hG hend hW1 q1 q2 hR1 hR2 hr1 hr2 hcs hcl hcm hg1 hg2 hrs1 hRs hzc hzc7 hO hcl0 hbk
 go_enter Try.func79,Try.ntmps79
 go_wp2_with (first
  | (at_builtin;refine Lib.wpList_append_run _ rfl _ _ _ _ rfl _ _ rfl rfl _ _ (hrz _) ?_)
  | (at_builtin;refine Zbz _ rfl _ _ 22 22 rfl _ _ rfl rfl (hcpA _ _) ?_)
  | (at_builtin;refine Zbz _ rfl _ _ 22 22 rfl _ _ rfl rfl (hcpB _ _ _) ?_))
 go_region_law_o (go_loud (refine Zf3 rfl _ _ 22 22 rfl (.slice (some ⟨w.heap.size,(i+m) * 2,none⟩) (n+m-(i+m)) (G-(i+m))) (.slice (some ⟨b,i * 2,none⟩) (n-i) (c-i)) (by simp [Act.eval,Act.put]) (by simp [Act.eval,Act.put]) (hcpB 3 (G-(i+m)) (c-i)) ?_))
 go_wp2
 go_ret
 exact ⟨rfl,rfl⟩
set_option maxHeartbeats 4000000 in
set_option maxRecDepth 100000 in
theorem Zm1 (A B:Option Addr) (n c m vc:Nat) (u:Value) (w W':World) (hm:0<m) (hnc:n≤c) (hA:A=none→c=0)
  (hr:∀ty,(Builtin.append_ #[22,22] ty #[.slice A n c, .slice B m vc]).run Try.prog w = .ok u W'):
  Calls Try.prog 79 #[.slice A n c, .int .i64 n, .slice B m vc] w fun e w'=>e = .returned u∧w'=W':=by
 have u0:=run_underlying Try.underlying22;have u3:=run_underlying Try.underlying3;have u4:=run_underlying Try.underlying4
 have mixed:Try.prog.follows .mixedOrders=true:=by kernel_rfl
 have hz1:¬((m:Int)=0):=by omega
 go_enter Try.func79,Try.ntmps79
 cases A with
 | none=>
  have h0:=hA rfl
  subst h0
  have hn0:n=0:=by omega
  subst hn0
  go_wp2_with (at_builtin;refine Lib.wpList_append_run _ rfl _ _ _ _ rfl _ _ rfl rfl _ _ (hr _) ?_)
  go_ret
  exact ⟨rfl,rfl⟩
 | some a=>
  obtain ⟨ab,ao,asp⟩:=a
  go_wp2_with (at_builtin;refine Lib.wpList_append_run _ rfl _ _ _ _ rfl _ _ rfl rfl _ _ (hr _) ?_)
  all_goals (go_ret;exact ⟨rfl,rfl⟩)
theorem Zf4:InsWalk Try.prog 79 2 16 22 36:=⟨⟨Try.f79,Try.func79,by kernel_rfl,by kernel_rfl⟩,Try.underlying22,by kernel_rfl,by kernel_rfl,⟨.agg [.s (.int .i64 0), .s (.int .i64 0)],by kernel_rfl,by kernel_rfl,by kernel_rfl⟩,fun m hm=>by unfold maxLen;omega,ZlZ,Zm0,Zm1⟩
end Go.AM


namespace Go.AM
open Go.RowKit Go.Sort Go.Proofs
set_option linter.unusedVariables false
set_option linter.unusedSimpArgs false
variable {P:Program} {μ μ':Mu} {h h':Hp} {w w':World}
abbrev RowE (k:Nat) (ok:List Value→Bool):={ e:List Value // e.length=k∧(∀v ∈ e,gv v=true)∧ok e=true }
def encE (e:List Value):List AV:=e.map .s
def decE (k:Nat) (ok:List Value→Bool) (e:List AV):Option (List Value):=match e.mapM cellV with | some l=>if l.length=k∧ok l=true then some l else none | none=>none
def ltF (Fc:Fun) (x y:List Value):Bool:=match Fc [.agg (encE x), .agg (encE y)] [] with | some (.s (.int .i64 n),_)=>decide (n<0) | _=>false
def SortOk (k:Nat) (ok:List Value→Bool) (Fc:Fun):Prop:=∃cf:RowE k ok→RowE k ok→Int,(∀x y,Fc [.agg (encE x.1), .agg (encE y.1)] []=some (.s (.int .i64 (cf x y)),[]))∧SWO (ltOf cf)∧∀x y,ltOf cf x y=false→ltOf cf y x=false→x=y
open Classical in
noncomputable def sortF (k:Nat) (ok:List Value→Bool) (g:Nat) (Fc:Fun):Fun:=fun args h=>
 match args with
 | [.sl sz id off len fr _, .fn g' []]=>
  match h[id]? with
  | some (.arr sz' es own nil)=>
   if g'=g∧sz=k∧sz'=k∧es.length=fr∧own=true∧off+len≤es.length∧len<4611686018427387904∧SortOk k ok Fc then
    match ((es.drop off).take len).mapM (decE k ok) with
    | some l=>some (.tup [],h.set id (.arr k (es.take off++(l.mergeSort fun x y => !ltF Fc y x).map encE++es.drop (off+len)) true nil))
    | none=>none
   else none
  | _=>none
 | [.s (.slice none 0 0), .fn _ _]=>some (.tup [],h)
 | _=>none
theorem Zm2 {a:AV} {v:Value} (h:cellV a=some v):a = .s v∧gv v=true:=by
 unfold cellV at h
 split at h<;>try (simp at h;done)
 split at h<;>try (simp at h;done)
 rename_i hg
 simp only [Option.some.injEq] at h
 subst h
 exact ⟨rfl,hg⟩
theorem Zf5:∀ {e:List AV} {l:List Value},e.mapM cellV=some l→e=encE l∧∀v ∈ l,gv v=true
 | [],l,h=>by simp at h;subst h;exact ⟨rfl,by simp⟩
 | a::e,l,h=>by
  simp only [List.mapM_cons,Option.pure_def,Option.bind_eq_bind,Option.bind_eq_some_iff,Option.some.injEq] at h
  obtain ⟨v,hv,l',hl,rfl⟩:=h
  obtain ⟨rfl,hg⟩:=Zm2 hv
  obtain ⟨rfl,hgs⟩:=Zf5 hl
  exact ⟨rfl,fun u hu=>(List.mem_cons.1 hu).elim (fun e=>e ▸ hg) (hgs u)⟩
theorem Zm3 {k:Nat} {ok:List Value→Bool} {e:List AV} {l:List Value} (h:decE k ok e=some l):e=encE l∧l.length=k∧(∀v ∈ l,gv v=true)∧ok l=true:=by
 unfold decE at h
 split at h<;>try (simp at h;done)
 rename_i l' hl
 split at h<;>try (simp at h;done)
 rename_i hk
 simp only [Option.some.injEq] at h
 subst h
 obtain ⟨h1,h2⟩:=Zf5 hl
 exact ⟨h1,hk.1,h2,hk.2⟩
theorem Zf6 {k:Nat} {ok:List Value→Bool}:∀ {es:List (List AV)} {l:List (List Value)},es.mapM (decE k ok)=some l→∃d:List (RowE k ok),l=d.map (·.1)∧es=d.map fun x=>encE x.1
 | [],l,h=>by simp at h;subst h;exact ⟨[],rfl,rfl⟩
 | e::es,l,h=>by
  simp only [List.mapM_cons,Option.pure_def,Option.bind_eq_bind,Option.bind_eq_some_iff,Option.some.injEq] at h
  obtain ⟨x,hx,l',hl,rfl⟩:=h
  obtain ⟨rfl,h1⟩:=Zm3 hx
  obtain ⟨d,rfl,rfl⟩:=Zf6 hl
  exact ⟨⟨x,h1⟩::d,rfl,rfl⟩
theorem VRs.encE:∀ {e:List Value},(∀v ∈ e,gv v=true)→VRs μ h (encE e) e
 | [],_=>by simp [Go.AM.encE,VRs]
 | v::e,hg=>by
  simp only [Go.AM.encE,List.map_cons,VRs]
  exact ⟨v,e,rfl,by unfold VR;exact ⟨hg v (by simp),rfl⟩,VRs.encE fun u hu=>hg u (by simp [hu])⟩
theorem VRs.encE_eq:∀ {e vs:List Value},VRs μ h (Go.AM.encE e) vs→vs=e
 | [],vs,hv=>by simpa [Go.AM.encE,VRs] using hv
 | v::e,vs,hv=>by
  simp only [Go.AM.encE,List.map_cons,VRs] at hv
  obtain ⟨u,us,rfl,h1,h2⟩:=hv
  simp only [VR] at h1
  rw [h1.2,VRs.encE_eq h2]
theorem ZbA {k : Nat} : ∀ {l : List (List Value)}, (∀ e ∈ l, e.length = k) → l.flatten.length = l.length * k ∧ ∀ t, t < l.length * k → l.flatten[t]? = (l[t / k]!)[t % k]?
  | [], _ => ⟨by simp, fun t ht => by simp at ht⟩
  | e :: l, hl => by
    have he := hl e (by simp)
    obtain ⟨i1, i2⟩ := ZbA (l := l) fun x hx => hl x (by simp [hx])
    refine ⟨by simp [he, i1, Nat.add_mul]; omega, fun t ht => ?_⟩
    rw [List.flatten_cons]
    by_cases hk : t < k
    · rw [List.getElem?_append_left (by omega), Nat.div_eq_of_lt hk, Nat.mod_eq_of_lt hk]
      rfl
    · have hk0 : 0 < k := by rcases Nat.eq_zero_or_pos k with e0 | e0; · subst e0; simp at ht
                             · exact e0
      rw [List.getElem?_append_right (by omega), he, i2 (t - k) (by simp [Nat.add_mul] at ht; omega)]
      have h1 : t / k = (t - k) / k + 1 := by
        have := Nat.add_div_right (t - k) hk0
        rw [show t - k + k = t by omega] at this
        exact this
      have h2 : t % k = (t - k) % k := by
        have := Nat.add_mod_right (t - k) k
        rw [show t - k + k = t by omega] at this
        exact this
      rw [h1, h2]
      rfl
theorem Zf7 {α : Type} [Inhabited α] (enc : α → List Value) (k : Nat) (hk : ∀ x, (enc x).length = k) (d : List α) : (flatK enc k d.toArray).toList = (d.map enc).flatten := by
  obtain ⟨h1, h2⟩ := ZbA (l := d.map enc) (k := k) (by simp [hk])
  apply List.ext_getElem?
  intro t
  by_cases ht : t < d.length * k
  · rw [h2 t (by simpa using ht)]
    have hk0 : 0 < k := by rcases Nat.eq_zero_or_pos k with e0 | e0; · subst e0; simp at ht
                           · exact e0
    have hd : t / k < d.length := (Nat.div_lt_iff_lt_mul hk0).2 ht
    have hm : t % k < k := Nat.mod_lt _ hk0
    have e1 : (d.map enc)[t / k]! = enc d[t / k] := by
      rw [getElem!_pos _ _ (by simpa using hd)]; simp
    rw [e1]
    have hm' : t % k < (enc d[t / k]).length := by rw [hk]; exact hm
    rw [List.getElem?_eq_getElem hm']
    unfold flatK
    simp only [List.size_toArray, Array.toList_map, Array.toList_range, List.getElem?_map, List.getElem?_range ht, Option.map_some]
    congr 1
    rw [getElem!_pos d.toArray _ (by simpa using hd)]
    simp only [List.getElem_toArray]
    rw [getElem!_pos (enc d[t / k]) (t % k) hm']
  · rw [List.getElem?_eq_none (by rw [Array.length_toList, size_flatK]; simpa using ht), List.getElem?_eq_none (by rw [h1, List.length_map]; omega)]
theorem Step.draws (R:Rel μ h w):∀n,Step μ h w μ h (Sort.ahead w n)
 | 0=>by rw [ahead_zero];exact Step.refl R
 | n+1=>by
  have S:=Step.draws R n
  rw [← ahead_drew]
  exact S.trans (Step.drew S.rel)
theorem Step.grown:∀ {w:World} {μ:Mu} (os:List Obj),Rel μ h w→∃μ',Step μ h w μ' h (grow w os.toArray)
 | w,μ,[],R=>by rw [grow_empty];exact ⟨μ,Step.refl R⟩
 | w,μ,o::os,R=>by
  obtain ⟨μ1,S1, -⟩:=Step.allocImm R o
  obtain ⟨μ2,S2⟩:=Step.grown os S1.rel
  refine ⟨μ2, ?_⟩
  have:grow w (o::os).toArray=grow (w.alloc o) os.toArray:=by
   rw [alloc_eq_grow,grow_grow];congr 1;simp
  rw [this]
  exact S1.trans S2
theorem Zm4 {blk off k:Nat} {cur F row:Array Value} {T:TypeId} {fr:Nat × Nat} (hb:w.heap[blk]? = some (.cells cur T fr)) (hfit:off+F.size≤cur.size) (hrow:row=(cur.toList.take off++F.toList++cur.toList.drop (off+F.size)).toArray):putRow id w blk off F=w.setRow blk row:=by
 have hc:putCells id off F cur=row:=by
  subst hrow
  apply Array.ext_getElem?
  intro i
  unfold putCells
  simp only [Array.getElem?_mapIdx,List.getElem?_toArray]
  by_cases hi:i<cur.size
  ·rw [Array.getElem?_eq_getElem hi]
   simp only [Option.map_some,id]
   by_cases h1:off≤i∧i<off+F.size
   ·rw [if_pos h1,List.append_assoc,List.getElem?_append_right (by simp;omega),List.getElem?_append_left (by simp;omega)]
    simp only [List.length_take,Array.length_toList]
    rw [show i-min off cur.size=i-off by omega,Array.getElem?_toList,getElem!_pos F _ (by omega),Array.getElem?_eq_getElem (by omega)]
   ·rw [if_neg h1]
    by_cases h2:i<off
    ·rw [List.append_assoc,List.getElem?_append_left (by simp;omega),List.getElem?_take,if_pos h2,Array.getElem?_toList,Array.getElem?_eq_getElem hi]
    ·rw [List.getElem?_append_right (by simp;omega),List.getElem?_drop]
     simp only [List.length_append,List.length_take,Array.length_toList]
     rw [show off+F.size+(i-(min off cur.size+F.size))=i by omega,Array.getElem?_toList,Array.getElem?_eq_getElem hi]
  ·rw [Array.getElem?_eq_none (by omega),List.getElem?_eq_none (by simp;omega)]
   rfl
 unfold putRow
 rw [mapBlock_congr w blk _ (fun _=>row) fun c e f he=>by
  rw [hb] at he
  injection he with he
  injection he with e1
  subst e1
  exact hc]
 unfold mapBlock World.setRow
 congr 1
theorem Zm5 {S:Nat→Prop} (F:Frame S w w') (hS:∀k,¬S k):∃q os,w'=grow (w.drewN q) os:=by
 refine ⟨w'.drawn-w.drawn,w'.heap.extract w.heap.size w'.heap.size, ?_⟩
 obtain ⟨f1,f2,f3,f4,f5,f6⟩:=F
 cases w with
 | mk hp tp dr os out=>
  cases w' with
  | mk hp' tp' dr' os' out'=>
   simp only [grow,World.drewN] at *
   subst f1 f2 f3
   congr 1
   ·apply Array.ext_getElem?
    intro i
    by_cases hi:i<hp.size
    ·rw [f6 i hi (hS i),Array.getElem?_append_left hi]
    ·rw [Array.getElem?_append_right (by omega),Array.getElem?_extract]
     split
     ·congr 1;omega
     ·rw [Array.getElem?_eq_none (by omega)]
   ·omega
theorem Zm6 {k g:Nat} {ok:List Value→Bool} {Fc:Fun} (hc:CSound P g Fc) {cf:RowE k ok→RowE k ok→Int} (hcf:∀x y,Fc [.agg (encE x.1), .agg (encE y.1)] []=some (.s (.int .i64 (cf x y)),[])) [Inhabited (RowE k ok)] (blk off size:Nat) (w:World):CmpLays P g #[] (fun x:RowE k ok=>x.1) k cf blk off size w:=by
 intro m os dk hs x y
 obtain ⟨W,hW⟩:∃W,W=sortWorldK (fun x:RowE k ok=>x.1) k w blk off m dk os:=⟨_,rfl⟩
 rw [← hW]
 have R:Rel { loc:=fun _ => .real 0 0 0,base:=W,imm:=fun _=>False } [] W:=Rel.nil fun k hk=>hk.elim
 obtain ⟨-,hcall⟩:=hc _ _ _ _ (hcf x y) _ W (#[.agg x.1.toArray, .agg y.1.toArray] ++ #[]) R (by
  simp only [VRs,VR]
  exact ⟨_,_,rfl,⟨_,rfl,VRs.encE x.2.2.1⟩,_,_,rfl,⟨_,rfl,VRs.encE y.2.2.1⟩,rfl⟩)
 refine hcall.mono ?_
 rintro e w' ⟨cv,μ2,rfl,S,hv⟩
 simp only [VR] at hv
 obtain ⟨-,rfl⟩:=hv
 exact ⟨rfl,Zm5 S.frame fun k hk=>Own.nil hk⟩
theorem Zm7 {ρ:Go.Shelf.Ren} {k g:Nat} {ok:List Value→Bool} {Fc:Fun} (L:SlLaysF0.n6 P ρ) (aE:∀w,(isAgg (ρ.t 24)).run P w = .ok true w) (zE:∀w,(Go.sizeOf (ρ.t 24)).run P w = .ok k w) (hgo:Goes P (ρ.f 6)) (hk0:0<k) (hc:CSound P g Fc) (hg:Goes P g):CSound P (ρ.f 6) (sortF k ok g Fc):=by
 intro args h v h' hk μ w cargs R hargs
 refine ⟨hgo, ?_⟩
 unfold sortF at hk
 split at hk<;>try (simp at hk;done)
 ·rename_i sz id off len fr full g'
  split at hk<;>try (simp at hk;done)
  rename_i sz' es own nil ho
  split at hk<;>try (simp at hk;done)
  rename_i hcond
  obtain ⟨rfl,rfl,rfl,hfr,rfl,hle,hlen,cf,hcf,hswo,hanti⟩:=hcond
  split at hk<;>try (simp at hk;done)
  rename_i l hl
  simp only [Option.some.injEq,Prod.mk.injEq] at hk
  obtain ⟨rfl,rfl⟩:=hk
  obtain ⟨d,rfl,hd⟩:=Zf6 hl
  have hdl:d.length=len:=by
   have:=congrArg List.length hd
   rw [List.length_map,List.length_take,List.length_drop] at this
   omega
  have elt:∀x y:RowE sz' ok,ltF Fc x.1 y.1=ltOf cf x y:=fun x y=>by
   unfold ltF ltOf
   rw [hcf x y]
  have esort:(d.map (·.1)).mergeSort (fun x y => !ltF Fc y x)=(d.mergeSort fun x y => !ltOf cf y x).map (·.1):=by
   rw [List.map_mergeSort]
   intro a _ b _
   rw [elt]
  rw [esort,List.map_map]
  obtain ⟨d2,hd2⟩:∃d2,d2=d.mergeSort fun x y => !ltOf cf y x:=⟨_,rfl⟩
  have hd2l:d2.length=len:=by rw [hd2,List.length_mergeSort];exact hdl
  rw [← hd2]
  have e0:cargs.toList=cargs.toList:=rfl
  simp only [VRs] at hargs
  obtain ⟨v1,vs1,hq1,hv1,v2,vs2,rfl,hv2,rfl⟩:=hargs
  have hcargs:cargs = #[v1,v2]:=by apply Array.ext';simpa using hq1
  subst hcargs
  simp only [VR] at hv1 hv2
  obtain ⟨caps,rfl,hcaps⟩:=hv2
  have hcaps':caps = #[]:=by
   simp only [VRs] at hcaps
   apply Array.ext';simpa using hcaps
  subst hcaps'
  obtain ⟨A,c,rfl,hlc,hA, -,es2,own',nil',ho', -,hq⟩:=hv1
  rw [ho] at ho'
  injection ho' with ho'
  injection ho' with e1 e2 e3 e4
  subst e2 e3 e4
  have hsl:=hq hfr.symm
  by_cases h0:len=0
  ·subst h0
   have hd0:d2=[]:=List.eq_nil_of_length_eq_zero hd2l
   have e5:h.set id (.arr sz' (es.take off++d2.map ((encE ·) ∘ (·.1))++es.drop (off+0)) true nil)=h:=by
    rw [hd0]
    simp only [List.map_nil,List.append_nil,Nat.add_zero,List.take_append_drop]
    exact Z1e ho
   rw [e5]
   refine (AnyF.slices_SortFunc_none L A c _ w).mono ?_
   rintro e w' ⟨rfl,rfl⟩
   exact ⟨_,μ,rfl,Step.refl R,by simp [VR,VRs]⟩
  ·unfold SlOk at hsl
   split at hsl
   ·rename_i blk o cap hmu
    obtain ⟨a',rfl,hcap,hne⟩:=hsl
    have ha':=hne (by omega)
    have hO:=R.obj _ _ ho
    obtain ⟨cur,T,hbk,hcur,rfl,hlec,hcapm,h1,hr⟩:=ORel.own_flat hO hmu
    rw [Nat.zero_add] at ha'
    subst ha'
    obtain ⟨vs,g1,g2,g3,g4⟩:=Z5Y R ho hmu off len hle
    rw [Nat.zero_add] at g4
    haveI:Inhabited (RowE sz' ok):=⟨d[0]'(by omega)⟩
    have hlenE:∀x:RowE sz' ok,x.1.length=sz':=fun x=>x.2.1
    have hflat:((es.drop off).take len).flatten=encE (d.map (·.1)).flatten:=by
     rw [hd]
     unfold encE
     rw [List.map_flatten,List.map_map]
     rfl
    rw [hflat] at g1
    have hvs:=VRs.encE_eq g1
    subst hvs
    have hfk:=Zf7 (fun x:RowE sz' ok=>x.1) sz' hlenE d
    have hH:HoldsK (fun x:RowE sz' ok=>x.1) sz' w blk (off * sz') d.toArray:=by
     intro j hj
     have hj2:j<(flatK (fun x:RowE sz' ok=>x.1) sz' d.toArray).toList.length:=by simpa using hj
     refine ⟨g4 j _ ?_, ?_⟩
     ·rw [← hfk,List.getElem?_eq_getElem hj2,getElem!_pos (flatK (fun x:RowE sz' ok=>x.1) sz' d.toArray) j hj]
      rfl
     ·simp only [World.frozen?,hbk]
      simp
    have hblk:blk<w.heap.size:=(Array.getElem?_eq_some_iff.1 hbk).1
    have key:=AnyQ.slices_SortFunc_total L sz' aE zE (fun x:RowE sz' ok=>x.1) hlenE (fun x v hv=>ZaJ (x.2.2.1 v hv)) cf hswo g' #[] blk (off * sz') c d.toArray w (fun a W=>hg.run a W) (Zm6 hc hcf blk (off * sz') _ w) hH hblk (by simp;omega) hanti
    have hds:d.toArray.size=len:=by simpa using hdl
    rw [hds] at key
    refine key.mono ?_
    rintro e w' ⟨rfl,n,os,rfl⟩
    simp only []
    rw [← hd2]
    have S1:=Step.draws R n
    have hS:Sized sz' (d2.map ((encE ·) ∘ (·.1))):=by
     intro y hy
     obtain ⟨x, -,rfl⟩:=List.mem_map.1 hy
     refine ⟨by simp [encE,hlenE],fun c hc => ?_⟩
     simp only [Function.comp,encE,List.mem_map] at hc
     obtain ⟨u,hu,rfl⟩:=hc
     exact x.2.2.1 u hu
    have hgv:∀v ∈ (d2.map (·.1)).flatten,gv v=true:=by
     intro v hv
     obtain ⟨l,hl,hvl⟩:=List.mem_flatten.1 hv
     obtain ⟨x, -,rfl⟩:=List.mem_map.1 hl
     exact x.2.2.1 v hvl
    have hfl2:(d2.map ((encE ·) ∘ (·.1))).flatten=encE (d2.map (·.1)).flatten:=by
     unfold encE
     rw [List.map_flatten,List.map_map]
    have hvr:VRs μ h (d2.map ((encE ·) ∘ (·.1))).flatten (d2.map (·.1)).flatten:=by rw [hfl2];exact VRs.encE hgv
    obtain ⟨cur',T',row,q1,q2,q3,q4⟩:=ZcI (P:=P) (off:=off) S1.rel ho hmu hS hvr (fun v hv=>ZaJ (hgv v hv)) (by simpa [hd2l] using hle)
    rw [List.length_map,hd2l] at q4
    have hfk2:=Zf7 (fun x:RowE sz' ok=>x.1) sz' hlenE d2
    have hF:(flatK (fun x:RowE sz' ok=>x.1) sz' d2.toArray).size=(d2.map (·.1)).flatten.length:=by
     rw [← hfk2];simp
    have hcc:cur'=cur:=by
     have:(Sort.ahead w n).heap[blk]? = w.heap[blk]? := rfl
     rw [this,hbk] at q1
     injection q1 with q1
     injection q1 with q1
     exact q1.symm
    subst hcc
    have hput:putRowK (fun x:RowE sz' ok=>x.1) sz' (Sort.ahead w n) blk (off * sz') d2.toArray=(Sort.ahead w n).setRow blk row:=by
     unfold putRowK
     refine Zm4 (k:=sz') q1 ?_ (by rw [q2,hF,hfk2])
     rw [hF,(ZbA (l:=d2.map (·.1)) (k:=sz') (fun e he=>by obtain ⟨x, -,rfl⟩:=List.mem_map.1 he;exact hlenE x)).1,List.length_map,hd2l,hcur, ← Nat.add_mul]
     exact Nat.le_trans (Nat.mul_le_mul_right _ hle) (Nat.mul_le_mul_right _ hlec)
    unfold sortWorldK
    rw [hput]
    obtain ⟨μ3,S3⟩:=Step.grown os.toList q4.rel
    exact ⟨_,μ3,rfl,(S1.trans q4).trans (by simpa using S3),by simp [VR,VRs]⟩
   ·rename_i A' hmu
    obtain ⟨rfl,rfl, -⟩:=hsl
    have hz:=(R.obj _ _ ho).2
    rw [hmu] at hz
    have:=hz.1
    subst this
    simp at hle
    omega
 ·rename_i f caps
  simp only [Option.some.injEq,Prod.mk.injEq] at hk
  obtain ⟨rfl,rfl⟩:=hk
  simp only [VRs] at hargs
  obtain ⟨v1,vs1,hq1,hv1,v2,vs2,rfl,hv2,rfl⟩:=hargs
  have hcargs:cargs = #[v1,v2]:=by apply Array.ext';simpa using hq1
  subst hcargs
  simp only [VR] at hv1
  obtain ⟨-,rfl⟩:=hv1
  refine (AnyF.slices_SortFunc_none L none 0 v2 w).mono ?_
  rintro e w' ⟨rfl,rfl⟩
  exact ⟨_,μ,rfl,Step.refl R,by simp [VR,VRs]⟩
theorem Zm8 {k g:Nat} {ok:List Value→Bool} {Fc:Fun} (hok:SortOk k ok Fc) {id off len fr:Nat} {full:Bool} {h:Hp} {es:List (List AV)} {nil:Bool} {l:List (List Value)} (ho:h[id]? = some (.arr k es true nil)) (hfr:es.length=fr) (hle:off+len≤es.length) (hlen:len<4611686018427387904) (hl:((es.drop off).take len).mapM (decE k ok)=some l):
  sortF k ok g Fc [.sl k id off len fr full, .fn g []] h=some (.tup [],h.set id (.arr k (es.take off++(l.mergeSort fun x y => !ltF Fc y x).map encE++es.drop (off+len)) true nil)):=by
 unfold sortF
 simp only [ho]
 rw [if_pos ⟨rfl,rfl,rfl,hfr,rfl,hle,hlen,hok⟩,hl]
end Go.AM
namespace Go.AM
open Go.RowKit Go.Sort Go.Proofs
def isI:Value→Bool
 | .int .i64 _=>true
 | _=>false
def okI (e:List Value):Bool:=e.all isI
def unI:Value→Int
 | .int _ n=>n
 | _=>0
def encZ (l:List Int):List AV:=l.map fun n => .s (.int .i64 n)
def valZ (l:List Int):List Value:=l.map fun n => .int .i64 n
theorem Z6H (l:List Int):encE (valZ l)=encZ l:=by simp [encE,valZ,encZ]
theorem Z6I:∀ {e:List Value},okI e=true→e=valZ (e.map unI)
 | [],_=>rfl
 | v::e,h=>by
  simp only [okI,List.all_cons,Bool.and_eq_true] at h
  have ih:=Z6I (e:=e) h.2
  cases v<;>simp [isI] at h
  rename_i kd n
  cases kd<;>simp at h
  simp only [List.map_cons,valZ,unI] at ih ⊢
  rw [← ih]
theorem Zm9 (l:List Int):okI (valZ l)=true:=by simp [okI,valZ,isI]
def lexZ:List Int→List Int→Int
 | a::as_,b::bs=>if a<b then -1 else if b<a then 1 else lexZ as_ bs
 | _,_=>0
def ltZ (a b:List Int):Bool:=decide (lexZ a b<0)
theorem Zf8:∀a,lexZ a a=0
 | []=>rfl
 | a::l=>by simp [lexZ,Zf8 l]
theorem ZbB (a b:Int) (l r:List Int):ltZ (a::l) (b::r)=(decide (a<b)||(decide (a=b)&&ltZ l r)):=by
 unfold ltZ
 simp only [lexZ]
 by_cases h1:a<b
 ·simp [h1]
 ·by_cases h2:b<a
  ·have:a≠b:=by omega
   simp [h1,h2,this]
  ·have:a=b:=by omega
   simp [this]
theorem Zf9 (a:List Int):ltZ a a=false:=by simp [ltZ,Zf8]
theorem Z6J:∀ {n:Nat} {a b c:List Int},a.length=n→b.length=n→c.length=n→ltZ a b=true→ltZ b c=true→ltZ a c=true
 | 0,a,b,c,ha,hb,hc,h1,h2=>by
  have:a=[]:=List.eq_nil_of_length_eq_zero ha
  subst this
  cases b<;>simp [ltZ,lexZ] at h1
 | n+1,[],b,c,ha,hb,hc,h1,h2=>by simp at ha
 | n+1,a::l,[],c,ha,hb,hc,h1,h2=>by simp at hb
 | n+1,a::l,b::r,[],ha,hb,hc,h1,h2=>by simp at hc
 | n+1,a::l,b::r,c::s,ha,hb,hc,h1,h2=>by
  rw [ZbB] at h1 h2 ⊢
  simp only [Bool.or_eq_true,Bool.and_eq_true,decide_eq_true_eq] at h1 h2 ⊢
  rcases h1 with h1 | ⟨h1,h1'⟩<;>rcases h2 with h2 | ⟨h2,h2'⟩
  ·exact .inl (by omega)
  ·exact .inl (by omega)
  ·exact .inl (by omega)
  ·exact .inr ⟨by omega,Z6J (n:=n) (by simpa using ha) (by simpa using hb) (by simpa using hc) h1' h2'⟩
theorem Z6K:∀ {n:Nat} {a b:List Int},a.length=n→b.length=n→ltZ a b=false→ltZ b a=false→a=b
 | 0,a,b,ha,hb,_,_=>by rw [List.eq_nil_of_length_eq_zero ha,List.eq_nil_of_length_eq_zero hb]
 | n+1,[],b,ha,hb,_,_=>by simp at ha
 | n+1,a::l,[],ha,hb,_,_=>by simp at hb
 | n+1,a::l,b::r,ha,hb,h1,h2=>by
  rw [ZbB] at h1 h2
  simp only [Bool.or_eq_false_iff,Bool.and_eq_false_iff,decide_eq_false_iff_not] at h1 h2
  have e:a=b:=by omega
  subst e
  rw [Z6K (n:=n) (a:=l) (b:=r) (by simpa using ha) (by simpa using hb) (by simpa using h1.2) (by simpa using h2.2)]
theorem Zma {k:Nat} {Fc:Fun} (hf:∀x y:List Int,x.length=k→y.length=k→Fc [.agg (encZ x), .agg (encZ y)] []=some (.s (.int .i64 (lexZ x y)),[])):
  SortOk k okI Fc∧∀x y:List Int,x.length=k→y.length=k→ltF Fc (valZ x) (valZ y)=ltZ x y:=by
 constructor
 ·refine ⟨fun x y=>lexZ (x.1.map unI) (y.1.map unI),fun x y => ?_,⟨fun x => ?_,fun x y z h1 h2 => ?_,fun x y z h1 h2 => ?_⟩,fun x y h1 h2 => ?_⟩
  ·have:=hf (x.1.map unI) (y.1.map unI) (by simp [x.2.1]) (by simp [y.2.1])
   rw [← Z6H, ← Z6H, ← Z6I (e:=x.1) x.2.2.2, ← Z6I (e:=y.1) y.2.2.2] at this
   exact this
  ·show ltZ _ _=false
   exact Zf9 _
  ·exact Z6J (n:=k) (a:=x.1.map unI) (b:=y.1.map unI) (c:=z.1.map unI) (by simp [x.2.1]) (by simp [y.2.1]) (by simp [z.2.1]) h1 h2
  ·have hx:(x.1.map unI).length=k:=by simp [x.2.1]
   have hy:(y.1.map unI).length=k:=by simp [y.2.1]
   have hz:(z.1.map unI).length=k:=by simp [z.2.1]
   change ltZ (x.1.map unI) (y.1.map unI)=false at h1
   change ltZ (y.1.map unI) (z.1.map unI)=false at h2
   show ltZ (x.1.map unI) (z.1.map unI)=false
   cases h3:ltZ (x.1.map unI) (z.1.map unI) with
   | false=>rfl
   | true=>
    cases h4:ltZ (z.1.map unI) (y.1.map unI) with
    | true=>rw [Z6J hx hz hy h3 h4] at h1;cases h1
    | false=>
     have:=Z6K hy hz h2 h4
     rw [this] at h1
     rw [h1] at h3
     cases h3
  ·have:=Z6K (n:=k) (a:=x.1.map unI) (b:=y.1.map unI) (by simp [x.2.1]) (by simp [y.2.1]) h1 h2
   apply Subtype.ext
   exact (Z6I (e:=x.1) x.2.2.2).trans ((congrArg valZ this).trans (Z6I (e:=y.1) y.2.2.2).symm)
 ·intro x y hx hy
  unfold ltF ltZ
  rw [Z6H,Z6H,hf x y hx hy]
theorem Zmb {k:Nat} {l:List Int} (hl:l.length=k):decE k okI (encZ l)=some (valZ l):=by
 have h1:(encZ l).mapM cellV=some (valZ l):=by
  clear hl
  induction l with
  | nil=>rfl
  | cons n l ih=>
   simp only [encZ,valZ,List.map_cons,List.mapM_cons] at ih ⊢
   rw [ih]
   rfl
 unfold decE
 rw [h1]
 simp [valZ,hl]
 exact Zm9 l
theorem Zfa {k:Nat}:∀ {l:List (List Int)},(∀x ∈ l,x.length=k)→(l.map encZ).mapM (decE k okI)=some (l.map valZ)
 | [],_=>rfl
 | x::l,h=>by
  simp only [List.map_cons,List.mapM_cons]
  rw [Zmb (h x (by simp)),Zfa fun y hy=>h y (by simp [hy])]
  rfl
theorem Zmc {k g:Nat} {Fc:Fun} (hf:∀x y:List Int,x.length=k→y.length=k→Fc [.agg (encZ x), .agg (encZ y)] []=some (.s (.int .i64 (lexZ x y)),[])) {id off len fr:Nat} {full:Bool} {h:Hp} {es:List (List AV)} {nil:Bool} {l:List (List Int)}
  (ho:h[id]? = some (.arr k es true nil)) (hfr:es.length=fr) (hle:off+len≤es.length) (hlen:len<4611686018427387904) (hs:∀x ∈ l,x.length=k) (hl:(es.drop off).take len=l.map encZ):
  sortF k okI g Fc [.sl k id off len fr full, .fn g []] h=some (.tup [],h.set id (.arr k (es.take off++(l.mergeSort fun x y => !ltZ y x).map encZ++es.drop (off+len)) true nil)):=by
 obtain ⟨h1,h2⟩:=Zma hf
 rw [Zm8 (g:=g) (l:=l.map valZ) h1 ho hfr hle hlen (by rw [hl];exact Zfa hs)]
 have e:(l.map valZ).mergeSort (fun x y => !ltF Fc y x)=(l.mergeSort fun x y => !ltZ y x).map valZ:=by
  rw [List.map_mergeSort]
  intro a ha b hb
  rw [h2 b a (hs b hb) (hs a ha)]
 rw [e,List.map_map]
 have:encE ∘ valZ=encZ:=by funext x;exact Z6H x
 rw [this]
end Go.AM


namespace Go.Proofs
open Go.Shelf
def Try.sort83_ren:Go.Shelf.Ren:=⟨fun | 6=>83 | 15=>101 | 14=>100 | 28=>112 | 29=>113 | 20=>104 | 21=>105 | 22=>106 | 23=>107 | 24=>108 | 25=>109 | 26=>110 | 27=>111 | 46=>115 | 47=>116 | 48=>117 | 49=>118 | 50=>119 | 57=>120 | n=>n,fun | 22=>23 | 24=>27 | 25=>123 | 3=>3 | 39=>132 | 0=>0 | 53=>149 | 55=>55 | 4=>4 | 46=>143 | 45=>142 | 50=>117 | 5=>5 | 9=>9 | 66=>152 | 70=>156 | 76=>158 | 77=>159 | n=>n,fun | n=>n⟩
theorem Try.sort83:Go.Proofs.SlLaysF0.n6 Try.prog Try.sort83_ren:={
 mixed:=by kernel_rfl
 f6:=⟨Try.f83.name,by decide,Try.func83.trans (congrArg some (by kernel_rfl))⟩
 f14:=⟨Try.f100.name,by decide,Try.func100.trans (congrArg some (by kernel_rfl))⟩
 f15:=Try.func101.trans (congrArg some (by kernel_rfl))
 f20:=⟨Try.f104.name,by decide,Try.func104.trans (congrArg some (by kernel_rfl))⟩
 f21:=⟨Try.f105.name,by decide,Try.func105.trans (congrArg some (by kernel_rfl))⟩
 f22:=⟨Try.f106.name,by decide,Try.func106.trans (congrArg some (by kernel_rfl))⟩
 f23:=⟨Try.f107.name,by decide,Try.func107.trans (congrArg some (by kernel_rfl))⟩
 f24:=⟨Try.f108.name,by decide,Try.func108.trans (congrArg some (by kernel_rfl))⟩
 f25:=⟨Try.f109.name,by decide,Try.func109.trans (congrArg some (by kernel_rfl))⟩
 f26:=⟨Try.f110.name,by decide,Try.func110.trans (congrArg some (by kernel_rfl))⟩
 f27:=⟨Try.f111.name,by decide,Try.func111.trans (congrArg some (by kernel_rfl))⟩
 f28:=Try.func112.trans (congrArg some (by kernel_rfl))
 f29:=Try.func113.trans (congrArg some (by kernel_rfl))
 f46:=⟨Try.f115.name,by decide,Try.func115.trans (congrArg some (by kernel_rfl))⟩
 f47:=Try.func116.trans (congrArg some (by kernel_rfl))
 f48:=Try.func117.trans (congrArg some (by kernel_rfl))
 f49:=⟨Try.f118.name,by decide,Try.func118.trans (congrArg some (by kernel_rfl))⟩
 f50:=⟨Try.f119.name,by decide,Try.func119.trans (congrArg some (by kernel_rfl))⟩
 f57:=⟨Try.f120.name,by decide,Try.func120.trans (congrArg some (by kernel_rfl))⟩
 t0:=Try.underlying0
 a0:=Try.isAgg0
 z0:=Try.sizeOf0
 v0:=Try.zeroValue0
 t3:=Try.underlying3
 a3:=Try.isAgg3
 z3:=Try.sizeOf3
 v3:=Try.zeroValue3
 t4:=Try.underlying4
 a4:=Try.isAgg4
 z4:=Try.sizeOf4
 v4:=Try.zeroValue4
 t5:=Try.underlying5
 a5:=Try.isAgg5
 z5:=Try.sizeOf5
 v5:=Try.zeroValue5
 t9:=Try.underlying9
 a9:=Try.isAgg9
 z9:=Try.sizeOf9
 v9:=Try.zeroValue9
 t22:=Try.underlying23
 a22:=Try.isAgg23
 z22:=Try.sizeOf23
 v22:=Try.zeroValue23
 t25:=Try.underlying123
 a25:=Try.isAgg123
 z25:=Try.sizeOf123
 v25:=Try.zeroValue123
 t39:=Try.underlying132
 a39:=Try.isAgg132
 z39:=Try.sizeOf132
 v39:=Try.zeroValue132
 t45:=Try.underlying142
 a45:=Try.isAgg142
 z45:=Try.sizeOf142
 v45:=Try.zeroValue142
 t46:=Try.underlying143
 a46:=Try.isAgg143
 z46:=Try.sizeOf143
 v46:=Try.zeroValue143
 t50:=Try.underlying117
 a50:=Try.isAgg117
 z50:=Try.sizeOf117
 v50:=Try.zeroValue117
 t53:=Try.underlying149
 a53:=Try.isAgg149
 z53:=Try.sizeOf149
 v53:=Try.zeroValue149
 t55:=Try.underlying55
 a55:=Try.isAgg55
 z55:=Try.sizeOf55
 v55:=Try.zeroValue55
 t66:=Try.underlying152
 a66:=Try.isAgg152
 z66:=Try.sizeOf152
 v66:=Try.zeroValue152
 t70:=Try.underlying156
 a70:=Try.isAgg156
 z70:=Try.sizeOf156
 v70:=Try.zeroValue156
 t76:=Try.underlying158
 a76:=Try.isAgg158
 z76:=Try.sizeOf158
 v76:=Try.zeroValue158
 t77:=Try.underlying159
 a77:=Try.isAgg159
 z77:=Try.sizeOf159
 v77:=Try.zeroValue159 }
end Go.Proofs


namespace Go.AM
open Go.Proofs
set_option linter.unusedVariables false
set_option maxRecDepth 100000
theorem mixed:Try.prog.follows .mixedOrders=true:=by kernel_rfl
theorem NN_ex:∃n:Nat,1000000≤n∧n<4611686018427387904:=⟨1000000,by omega,by omega⟩
noncomputable def NN:Nat:=NN_ex.choose
theorem NN_ge:1000000≤NN:=NN_ex.choose_spec.1
theorem NN_lt:NN<4611686018427387904:=NN_ex.choose_spec.2
noncomputable def Z8X:DTab:=D0
theorem Zmd:DSound Try.prog Z8X:=DSound.zero
noncomputable def Z8Y:Tab:=T0
theorem Zme:TSound Try.prog Z8Y:=TSound.zero
noncomputable def Z8Z:Fun:=runF Try.prog Z8Y Z8X NN [0,2] Try.f47 1
theorem Zmf:CSound Try.prog 47 Z8Z:=Z04 Zme Zmd mixed Try.func47 (by kernel_rfl) NN
theorem Zmg {β:Type} (K:AV→Hp→Option β) (a0:AV) (h:Hp):(Z8Z [a0] h).bind (fun p=>K p.1 p.2)=Z8d Try.prog Z8Y Z8X NN K a0 h:=by
 rw [← Zk5];exact Z05 rfl
noncomputable def Z4m:Fun:=closedX [.o] [.o] Z8Z
theorem Zfb:CSound Try.prog 47 Z4m:=Z0D _ _ Zmf
theorem Zmh {a0:AV} {v:AV} (ha:plains [a0]=true) (hv:Z8d Try.prog Z8Y Z8X NN (fun v g=>cvt false g v) a0 []=some v) (h:Hp):Z4m [a0] h=some (v,h):=by
 have e:(Z8Z (nrms [.o] [a0]) []).bind (fun (p:AV × Hp)=>cvt false p.2 p.1)=some v:=(Zmg (fun v g=>cvt false g v) a0 []).trans hv
 exact (Z0E (shr:=[.o]) ha e h).trans (congrArg (fun x=>some (x,h)) (Z0J 1 v))
noncomputable def Z90:DTab:=D0
theorem Zmi:DSound Try.prog Z90:=DSound.zero
noncomputable def Z6L:Tab:=(updF T0 47 Z4m)
theorem Zmj:TSound Try.prog Z6L:=(TSound.upd TSound.zero Zfb)
@[simp] theorem Zfc:Z6L 47=some Z4m:=rfl
noncomputable def Z91:Fun:=runF Try.prog Z6L Z90 NN [0,2,3,6] Try.f11 1
theorem Zmk:CSound Try.prog 11 Z91:=Z04 Zmj Zmi mixed Try.func11 (by kernel_rfl) NN
theorem Zml {β:Type} (K:AV→Hp→Option β) (a0:AV) (h:Hp):(Z91 [a0] h).bind (fun p=>K p.1 p.2)=Z6g Try.prog Z6L Z90 NN K a0 h:=by
 rw [← ZjD];exact Z05 rfl
noncomputable def Z56:Fun:=closedX [.o] [.a [none,some 2,some 7], .o] Z91
theorem Zmm:CSound Try.prog 11 Z56:=Z0D _ _ Zmk
theorem Zfd {a0:AV} {v:AV} (ha:plains [a0]=true) (hv:Z6g Try.prog Z6L Z90 NN (fun v g=>cvt false g v) a0 []=some v) (h:Hp):Z56 [a0] h=some ((nrmR [.a [none,some 2,some 7], .o] v),h):=by
 have e:(Z91 (nrms [.o] [a0]) []).bind (fun (p:AV × Hp)=>cvt false p.2 p.1)=some v:=(Zml (fun v g=>cvt false g v) a0 []).trans hv
 exact (Z0E (shr:=[.a [none,some 2,some 7], .o]) ha e h).trans (congrArg (fun x=>some (x,h)) rfl)
noncomputable def Z57:DTab:=D0
theorem Zmn:DSound Try.prog Z57:=DSound.zero
noncomputable def Z58:Tab:=T0
theorem Zmo:TSound Try.prog Z58:=TSound.zero
noncomputable def Z6M:Fun:=runF Try.prog Z58 Z57 NN [0,2,3,5,6,7,8,9,14] Try.f80 1
theorem Zmp:CSound Try.prog 80 Z6M:=Z04 Zmo Zmn mixed Try.func80 (by kernel_rfl) NN
theorem Zmq {β:Type} (K:AV→Hp→Option β) (a0:AV) (h:Hp):(Z6M [a0] h).bind (fun p=>K p.1 p.2)=Z6y Try.prog Z58 Z57 NN K a0 h:=by
 rw [← Zla];exact Z05 rfl
noncomputable def Z2K:Fun:=closedX [.l 1] [.o] Z6M
theorem Z92:CSound Try.prog 80 Z2K:=Z0D _ _ Zmp
noncomputable def Z4n:DFun:=closedXD [.l 1] [.o] Z6M
theorem Zfe:Ro Z2K Z4n:=Z1X _ _ _
theorem Zmr {a0:AV} {x0:AV} {h:Hp} {v:AV} (ha:cvts false h [x0]=some [a0]) (hv:∀st,Z6y Try.prog Z58 Z57 NN (fun v g=>cvt st g v) (nrm (.l 1) a0) []=some v):Z2K [x0] h=some (v,h):=by
 have e:∀st,(Z6M (nrms [.l 1] [a0]) []).bind (fun (p:AV × Hp)=>cvt st p.2 p.1)=some v:=fun st=>(Zmq (fun v g=>cvt st g v) (nrm (.l 1) a0) []).trans (hv st)
 exact (ZdS (shr:=[.o]) ha e).trans (congrArg (fun x=>some (x,h)) (Z0J 1 v))
noncomputable def Z93:DTab:=D0
theorem Zms:DSound Try.prog Z93:=DSound.zero
noncomputable def Z94:Tab:=T0
theorem Zmt:TSound Try.prog Z94:=TSound.zero
noncomputable def Z95:Fun:=runF Try.prog Z94 Z93 NN [0,2] Try.f99 1
theorem Zmu:CSound Try.prog 99 Z95:=Z04 Zmt Zms mixed Try.func99 (by kernel_rfl) NN
theorem Zmv {β:Type} (K:AV→Hp→Option β) (a0:AV) (h:Hp):(Z95 [a0] h).bind (fun p=>K p.1 p.2)=Z8V Try.prog Z94 Z93 NN K a0 h:=by
 rw [← ZlH];exact Z05 rfl
noncomputable def Z6N:Fun:=closedX [.o] [.o] Z95
theorem Zmw:CSound Try.prog 99 Z6N:=Z0D _ _ Zmu
theorem Zmx {a0:AV} {v:AV} (ha:plains [a0]=true) (hv:Z8V Try.prog Z94 Z93 NN (fun v g=>cvt false g v) a0 []=some v) (h:Hp):Z6N [a0] h=some (v,h):=by
 have e:(Z95 (nrms [.o] [a0]) []).bind (fun (p:AV × Hp)=>cvt false p.2 p.1)=some v:=(Zmv (fun v g=>cvt false g v) a0 []).trans hv
 exact (Z0E (shr:=[.o]) ha e h).trans (congrArg (fun x=>some (x,h)) (Z0J 1 v))
noncomputable def Z96:DTab:=D0
theorem Zmy:DSound Try.prog Z96:=DSound.zero
noncomputable def Z6O:Tab:=(updF T0 99 Z6N)
theorem Zmz:TSound Try.prog Z6O:=(TSound.upd TSound.zero Zmw)
@[simp] theorem ZtT:Z6O 99=some Z6N:=rfl
noncomputable def Z6P:Fun:=runF Try.prog Z6O Z96 NN [0,1,4,5,6,11,12,13,16,19] Try.f81 2
theorem ZmA:CSound Try.prog 81 Z6P:=Z04 Zmz Zmy mixed Try.func81 (by kernel_rfl) NN
theorem ZmB {β:Type} (K:AV→Hp→Option β) (a0:AV) (a1:AV) (h:Hp):(Z6P [a0,a1] h).bind (fun p=>K p.1 p.2)=Z6z Try.prog Z6O Z96 NN K a0 a1 h:=by
 rw [← Zlb];exact Z05 rfl
noncomputable def Z2L:Fun:=closedX [.o, .o] [.o] Z6P
theorem Z97:CSound Try.prog 81 Z2L:=Z0D _ _ ZmA
noncomputable def Z59:DFun:=closedXD [.o, .o] [.o] Z6P
theorem Zff:Ro Z2L Z59:=Z1X _ _ _
theorem ZmC {a0:AV} {a1:AV} {v:AV} (ha:plains [a0,a1]=true) (hv:Z6z Try.prog Z6O Z96 NN (fun v g=>cvt false g v) a0 a1 []=some v) (h:Hp):Z2L [a0,a1] h=some (v,h):=by
 have e:(Z6P (nrms [.o, .o] [a0,a1]) []).bind (fun (p:AV × Hp)=>cvt false p.2 p.1)=some v:=(ZmB (fun v g=>cvt false g v) a0 a1 []).trans hv
 exact (Z0E (shr:=[.o]) ha e h).trans (congrArg (fun x=>some (x,h)) (Z0J 1 v))
noncomputable def Z5a:DTab:=(updD (updD D0 80 Z4n) 81 Z59)
theorem ZmD:DSound Try.prog Z5a:=(DSound.ro (DSound.ro DSound.zero Zfe Z92) Zff Z97)
@[simp] theorem ZmE:Z5a 80=some Z4n:=rfl
@[simp] theorem ZmF:Z5a 81=some Z59:=rfl
noncomputable def Z5b:Tab:=(updF (updF T0 80 Z2K) 81 Z2L)
theorem ZmG:TSound Try.prog Z5b:=(TSound.upd (TSound.upd TSound.zero Z92) Z97)
@[simp] theorem ZtU:Z5b 80=some Z2K:=rfl
@[simp] theorem ZtV:Z5b 81=some Z2L:=rfl
noncomputable def Z98:Fun:=runF Try.prog Z5b Z5a NN [0,1,2,3,4] Try.f53 2
theorem ZmH:CSound Try.prog 53 Z98:=Z04 ZmG ZmD mixed Try.func53 (by kernel_rfl) NN
theorem ZmI {β:Type} (K:AV→Hp→Option β) (a0:AV) (a1:AV) (h:Hp):(Z98 [a0,a1] h).bind (fun p=>K p.1 p.2)=Z8f Try.prog Z5b Z5a NN K a0 a1 h:=by
 rw [← Zke];exact Z05 rfl
noncomputable def Z1N:Fun:=closedX [.o, .o] [.o] Z98
theorem ZbC:CSound Try.prog 53 Z1N:=Z0D _ _ ZmH
theorem ZmJ {a0:AV} {a1:AV} {v:AV} (ha:plains [a0,a1]=true) (hv:Z8f Try.prog Z5b Z5a NN (fun v g=>cvt false g v) a0 a1 []=some v) (h:Hp):Z1N [a0,a1] h=some (v,h):=by
 have e:(Z98 (nrms [.o, .o] [a0,a1]) []).bind (fun (p:AV × Hp)=>cvt false p.2 p.1)=some v:=(ZmI (fun v g=>cvt false g v) a0 a1 []).trans hv
 exact (Z0E (shr:=[.o]) ha e h).trans (congrArg (fun x=>some (x,h)) (Z0J 1 v))
noncomputable def Z99:DTab:=D0
theorem ZmK:DSound Try.prog Z99:=DSound.zero
noncomputable def Z9a:Tab:=T0
theorem ZmL:TSound Try.prog Z9a:=TSound.zero
noncomputable def Z9b:Fun:=runF Try.prog Z9a Z99 NN [0,2] Try.f96 1
theorem ZmM:CSound Try.prog 96 Z9b:=Z04 ZmL ZmK mixed Try.func96 (by kernel_rfl) NN
theorem ZmN {β:Type} (K:AV→Hp→Option β) (a0:AV) (h:Hp):(Z9b [a0] h).bind (fun p=>K p.1 p.2)=Z8U Try.prog Z9a Z99 NN K a0 h:=by
 rw [← ZlG];exact Z05 rfl
noncomputable def Z6Q:Fun:=closedX [.o] [.o] Z9b
theorem ZmO:CSound Try.prog 96 Z6Q:=Z0D _ _ ZmM
theorem ZmP {a0:AV} {v:AV} (ha:plains [a0]=true) (hv:Z8U Try.prog Z9a Z99 NN (fun v g=>cvt false g v) a0 []=some v) (h:Hp):Z6Q [a0] h=some (v,h):=by
 have e:(Z9b (nrms [.o] [a0]) []).bind (fun (p:AV × Hp)=>cvt false p.2 p.1)=some v:=(ZmN (fun v g=>cvt false g v) a0 []).trans hv
 exact (Z0E (shr:=[.o]) ha e h).trans (congrArg (fun x=>some (x,h)) (Z0J 1 v))
noncomputable def Z9c:DTab:=D0
theorem ZmQ:DSound Try.prog Z9c:=DSound.zero
noncomputable def Z6R:Tab:=(updF T0 96 Z6Q)
theorem ZmR:TSound Try.prog Z6R:=(TSound.upd TSound.zero ZmO)
@[simp] theorem ZbD:Z6R 96=some Z6Q:=rfl
noncomputable def Z9d:Fun:=runF Try.prog Z6R Z9c NN [0,1,2,3,4,32,41,42,78,99,118] Try.f76 1
theorem ZmS:CSound Try.prog 76 Z9d:=Z04 ZmR ZmQ mixed Try.func76 (by kernel_rfl) NN
theorem ZmT {β:Type} (K:AV→Hp→Option β) (a0:AV) (h:Hp):(Z9d [a0] h).bind (fun p=>K p.1 p.2)=Z8C Try.prog Z6R Z9c NN K a0 h:=by
 rw [← ZkZ];exact Z05 rfl
noncomputable def Z1A:Fun:=closedX [.o] [.o] Z9d
theorem ZbE:CSound Try.prog 76 Z1A:=Z0D _ _ ZmS
theorem ZmU {a0:AV} {v:AV} (ha:plains [a0]=true) (hv:Z8C Try.prog Z6R Z9c NN (fun v g=>cvt false g v) a0 []=some v) (h:Hp):Z1A [a0] h=some (v,h):=by
 have e:(Z9d (nrms [.o] [a0]) []).bind (fun (p:AV × Hp)=>cvt false p.2 p.1)=some v:=(ZmT (fun v g=>cvt false g v) a0 []).trans hv
 exact (Z0E (shr:=[.o]) ha e h).trans (congrArg (fun x=>some (x,h)) (Z0J 1 v))
noncomputable def Z9e:DTab:=D0
theorem ZmV:DSound Try.prog Z9e:=DSound.zero
noncomputable def Z6S:Tab:=(updF T0 76 Z1A)
theorem ZmW:TSound Try.prog Z6S:=(TSound.upd TSound.zero ZbE)
@[simp] theorem ZmX:Z6S 76=some Z1A:=rfl
noncomputable def Z9f:Fun:=runF Try.prog Z6S Z9e NN [0,1,2] Try.f82 1
theorem ZmY:CSound Try.prog 82 Z9f:=Z04 ZmW ZmV mixed Try.func82 (by kernel_rfl) NN
theorem ZmZ {β:Type} (K:AV→Hp→Option β) (a0:AV) (h:Hp):(Z9f [a0] h).bind (fun p=>K p.1 p.2)=Z8G Try.prog Z6S Z9e NN K a0 h:=by
 rw [← Zlc];exact Z05 rfl
noncomputable def Z4o:Fun:=closedX [.o] [.o] Z9f
theorem Zfg:CSound Try.prog 82 Z4o:=Z0D _ _ ZmY
theorem Zn0 {a0:AV} {v:AV} (ha:plains [a0]=true) (hv:Z8G Try.prog Z6S Z9e NN (fun v g=>cvt false g v) a0 []=some v) (h:Hp):Z4o [a0] h=some (v,h):=by
 have e:(Z9f (nrms [.o] [a0]) []).bind (fun (p:AV × Hp)=>cvt false p.2 p.1)=some v:=(ZmZ (fun v g=>cvt false g v) a0 []).trans hv
 exact (Z0E (shr:=[.o]) ha e h).trans (congrArg (fun x=>some (x,h)) (Z0J 1 v))
noncomputable def Z9g:DTab:=D0
theorem Zn1:DSound Try.prog Z9g:=DSound.zero
noncomputable def Z6T:Tab:=(updF T0 82 Z4o)
theorem Zn2:TSound Try.prog Z6T:=(TSound.upd TSound.zero Zfg)
@[simp] theorem ZtW:Z6T 82=some Z4o:=rfl
noncomputable def Z9h:Fun:=runF Try.prog Z6T Z9g NN [0,1,4,5,7,8,9,16] Try.f62 2
theorem Zn3:CSound Try.prog 62 Z9h:=Z04 Zn2 Zn1 mixed Try.func62 (by kernel_rfl) NN
theorem Zn4 {β:Type} (K:AV→Hp→Option β) (a0:AV) (a1:AV) (h:Hp):(Z9h [a0,a1] h).bind (fun p=>K p.1 p.2)=Z4W Try.prog Z6T Z9g NN K a0 a1 h:=by
 rw [← Zkz];exact Z05 rfl
noncomputable def Z6U:Fun:=closedX [.l 7, .o] [.o] Z9h
theorem Zn5:CSound Try.prog 62 Z6U:=Z0D _ _ Zn3
theorem Zn6 {a0:AV} {a1:AV} {v:AV} (ha:plains [a0,a1]=true) (hv:Z4W Try.prog Z6T Z9g NN (fun v g=>cvt false g v) (nrm (.l 7) a0) a1 []=some v) (h:Hp):Z6U [a0,a1] h=some (v,h):=by
 have e:(Z9h (nrms [.l 7, .o] [a0,a1]) []).bind (fun (p:AV × Hp)=>cvt false p.2 p.1)=some v:=(Zn4 (fun v g=>cvt false g v) (nrm (.l 7) a0) a1 []).trans hv
 exact (Z0E (shr:=[.o]) ha e h).trans (congrArg (fun x=>some (x,h)) (Z0J 1 v))
noncomputable def Z9i:DTab:=D0
theorem Zn7:DSound Try.prog Z9i:=DSound.zero
noncomputable def Z6V:Tab:=(updF T0 62 Z6U)
theorem Zn8:TSound Try.prog Z6V:=(TSound.upd TSound.zero Zn5)
@[simp] theorem Zn9:Z6V 62=some Z6U:=rfl
noncomputable def Z9j:Fun:=runF Try.prog Z6V Z9i NN [0,1,4] Try.f24 2
theorem Zna:CSound Try.prog 24 Z9j:=Z04 Zn8 Zn7 mixed Try.func24 (by kernel_rfl) NN
theorem Znb {β:Type} (K:AV→Hp→Option β) (a0:AV) (a1:AV) (h:Hp):(Z9j [a0,a1] h).bind (fun p=>K p.1 p.2)=Z83 Try.prog Z6V Z9i NN K a0 a1 h:=by
 rw [← ZjP];exact Z05 rfl
noncomputable def Z6W:Fun:=closedX [.l 7, .o] [.o] Z9j
theorem Znc:CSound Try.prog 24 Z6W:=Z0D _ _ Zna
theorem Znd {a0:AV} {a1:AV} {v:AV} (ha:plains [a0,a1]=true) (hv:Z83 Try.prog Z6V Z9i NN (fun v g=>cvt false g v) (nrm (.l 7) a0) a1 []=some v) (h:Hp):Z6W [a0,a1] h=some (v,h):=by
 have e:(Z9j (nrms [.l 7, .o] [a0,a1]) []).bind (fun (p:AV × Hp)=>cvt false p.2 p.1)=some v:=(Znb (fun v g=>cvt false g v) (nrm (.l 7) a0) a1 []).trans hv
 exact (Z0E (shr:=[.o]) ha e h).trans (congrArg (fun x=>some (x,h)) (Z0J 1 v))
noncomputable def Z5c:DTab:=D0
theorem Zne:DSound Try.prog Z5c:=DSound.zero
noncomputable def Z5d:Tab:=T0
theorem Znf:TSound Try.prog Z5d:=TSound.zero
noncomputable def Z11:Fun:=runF Try.prog Z5d Z5c NN [0,2,4] Try.f51 1
theorem Z9k:CSound Try.prog 51 Z11:=Z04 Znf Zne mixed Try.func51 (by kernel_rfl) NN
theorem ZbF {β:Type} (K:AV→Hp→Option β) (a0:AV) (h:Hp):(Z11 [a0] h).bind (fun p=>K p.1 p.2)=Z4j Try.prog Z5d Z5c NN K a0 h:=by
 rw [← Zkc];exact Z05 rfl
theorem Zng (a0:AV) (h:Hp):Z11 [a0] h=Z4j Try.prog Z5d Z5c NN (fun v h=>some (v,h)) a0 h:=(Z0V _).symm.trans (ZbF (fun v h=>some (v,h)) a0 h)
noncomputable def Z4p:Fun:=closedX [.l 7] [.l 7] Z11
theorem Zfh:CSound Try.prog 51 Z4p:=Z0D _ _ Z9k
noncomputable def Z9l:DFun:=closedXD [.l 7] [.l 7] Z11
theorem Znh:Ro Z4p Z9l:=Z1X _ _ _
theorem Zni {a0:AV} {v:AV} (ha:plains [a0]=true) (hv:Z4j Try.prog Z5d Z5c NN (fun v g=>cvt false g v) (nrm (.l 7) a0) []=some v) (h:Hp):Z4p [a0] h=some ((nrmR [.l 7] v),h):=by
 have e:(Z11 (nrms [.l 7] [a0]) []).bind (fun (p:AV × Hp)=>cvt false p.2 p.1)=some v:=(ZbF (fun v g=>cvt false g v) (nrm (.l 7) a0) []).trans hv
 exact (Z0E (shr:=[.l 7]) ha e h).trans (congrArg (fun x=>some (x,h)) rfl)
noncomputable def Z5e:DTab:=(updD (updD D0 80 Z4n) 81 Z59)
theorem Znj:DSound Try.prog Z5e:=(DSound.ro (DSound.ro DSound.zero Zfe Z92) Zff Z97)
@[simp] theorem Znk:Z5e 80=some Z4n:=rfl
@[simp] theorem Znl:Z5e 81=some Z59:=rfl
noncomputable def Z5f:Tab:=(updF (updF T0 80 Z2K) 81 Z2L)
theorem Znm:TSound Try.prog Z5f:=(TSound.upd (TSound.upd TSound.zero Z92) Z97)
@[simp] theorem ZtX:Z5f 80=some Z2K:=rfl
@[simp] theorem ZtY:Z5f 81=some Z2L:=rfl
noncomputable def Z9m:Fun:=runF Try.prog Z5f Z5e NN [0,1,2,3,4] Try.f84 2
theorem Znn:CSound Try.prog 84 Z9m:=Z04 Znm Znj mixed Try.func84 (by kernel_rfl) NN
theorem Zno {β:Type} (K:AV→Hp→Option β) (a0:AV) (a1:AV) (h:Hp):(Z9m [a0,a1] h).bind (fun p=>K p.1 p.2)=Z8H Try.prog Z5f Z5e NN K a0 a1 h:=by
 rw [← Zld];exact Z05 rfl
noncomputable def Z4q:Fun:=closedX [.o, .o] [.o] Z9m
theorem Zfi:CSound Try.prog 84 Z4q:=Z0D _ _ Znn
theorem Znp {a0:AV} {a1:AV} {v:AV} (ha:plains [a0,a1]=true) (hv:Z8H Try.prog Z5f Z5e NN (fun v g=>cvt false g v) a0 a1 []=some v) (h:Hp):Z4q [a0,a1] h=some (v,h):=by
 have e:(Z9m (nrms [.o, .o] [a0,a1]) []).bind (fun (p:AV × Hp)=>cvt false p.2 p.1)=some v:=(Zno (fun v g=>cvt false g v) a0 a1 []).trans hv
 exact (Z0E (shr:=[.o]) ha e h).trans (congrArg (fun x=>some (x,h)) (Z0J 1 v))
noncomputable def Z6X:Fun:=sortF 7 okI 84 Z4q
theorem Znq:CSound Try.prog 83 Z6X:=Zm7 (ρ:=Try.sort83_ren) Try.sort83 Try.isAgg27 Try.sizeOf27 ⟨Try.f83,Try.func83,by kernel_rfl,by kernel_rfl⟩ (by decide) Zfi ⟨Try.f84,Try.func84,by kernel_rfl,by kernel_rfl⟩
noncomputable def Z5g:DTab:=D0
theorem Znr:DSound Try.prog Z5g:=DSound.zero
noncomputable def Z5h:Tab:=T0
theorem Zns:TSound Try.prog Z5h:=TSound.zero
noncomputable def Z4r:Fun:=runF Try.prog Z5h Z5g NN [0,2,3,4,5,8,13,25,32,44] Try.f85 1
theorem Znt:CSound Try.prog 85 Z4r:=Z04 Zns Znr mixed Try.func85 (by kernel_rfl) NN
theorem Znu {β:Type} (K:AV→Hp→Option β) (a0:AV) (h:Hp):(Z4r [a0] h).bind (fun p=>K p.1 p.2)=Z4l Try.prog Z5h Z5g NN K a0 h:=by
 rw [← Zlm];exact Z05 rfl
theorem Zfj (a0:AV) (h:Hp):Z4r [a0] h=Z4l Try.prog Z5h Z5g NN (fun v h=>some (v,h)) a0 h:=(Z0V _).symm.trans (Znu (fun v h=>some (v,h)) a0 h)
noncomputable def Z6Y:DTab:=D0
theorem Znv:DSound Try.prog Z6Y:=DSound.zero
noncomputable def Z1t:Tab:=(updF (updF (updF (updF (updF (updF T0 24 Z6W) 51 Z11) 82 Z4o) 83 Z6X) 84 Z4q) 85 Z4r)
theorem Znw:TSound Try.prog Z1t:=(TSound.upd (TSound.upd (TSound.upd (TSound.upd (TSound.upd (TSound.upd TSound.zero Znc) Z9k) Zfg) Znq) Zfi) Znt)
@[simp] theorem Zfk:Z1t 24=some Z6W:=rfl
@[simp] theorem Znx:Z1t 51=some Z11:=rfl
@[simp] theorem ZtZ:Z1t 82=some Z4o:=rfl
@[simp] theorem Zny:Z1t 83=some Z6X:=rfl
@[simp] theorem Zu0:Z1t 84=some Z4q:=rfl
@[simp] theorem Znz:Z1t 85=some Z4r:=rfl
noncomputable def Z9n:Fun:=runF Try.prog Z1t Z6Y NN [0,2,3,4,7,9] Try.f54 1
theorem ZnA:CSound Try.prog 54 Z9n:=Z04 Znw Znv mixed Try.func54 (by kernel_rfl) NN
theorem ZnB {β:Type} (K:AV→Hp→Option β) (a0:AV) (h:Hp):(Z9n [a0] h).bind (fun p=>K p.1 p.2)=Z4k Try.prog Z1t Z6Y NN K a0 h:=by
 rw [← Zkf];exact Z05 rfl
noncomputable def Z4s:Fun:=closedX [.l 7] [.l 7, .o] Z9n
theorem Zfl:CSound Try.prog 54 Z4s:=Z0D _ _ ZnA
theorem ZnC {a0:AV} {x0:AV} {h:Hp} {v:AV} (ha:cvts false h [x0]=some [a0]) (hv:∀st,Z4k Try.prog Z1t Z6Y NN (fun v g=>cvt st g v) (nrm (.l 7) a0) []=some v):Z4s [x0] h=some ((nrmR [.l 7, .o] v),h):=by
 have e:∀st,(Z9n (nrms [.l 7] [a0]) []).bind (fun (p:AV × Hp)=>cvt st p.2 p.1)=some v:=fun st=>(ZnB (fun v g=>cvt st g v) (nrm (.l 7) a0) []).trans (hv st)
 exact (ZdS (shr:=[.l 7, .o]) ha e).trans (congrArg (fun x=>some (x,h)) rfl)
noncomputable def Z5i:DTab:=D0
theorem ZnD:DSound Try.prog Z5i:=DSound.zero
noncomputable def Z5j:Tab:=T0
theorem ZnE:TSound Try.prog Z5j:=TSound.zero
noncomputable def Z9o:Fun:=runF Try.prog Z5j Z5i NN [0,1,4,5,10,12,13,14,24] Try.f58 2
theorem ZnF:CSound Try.prog 58 Z9o:=Z04 ZnE ZnD mixed Try.func58 (by kernel_rfl) NN
theorem ZnG {β:Type} (K:AV→Hp→Option β) (a0:AV) (a1:AV) (h:Hp):(Z9o [a0,a1] h).bind (fun p=>K p.1 p.2)=Z4V Try.prog Z5j Z5i NN K a0 a1 h:=by
 rw [← Zkk];exact Z05 rfl
noncomputable def Z4t:Fun:=closedX [.l 7, .l 7] [.o] Z9o
theorem Zfm:CSound Try.prog 58 Z4t:=Z0D _ _ ZnF
theorem ZnH {a0:AV} {a1:AV} {v:AV} (ha:plains [a0,a1]=true) (hv:Z4V Try.prog Z5j Z5i NN (fun v g=>cvt false g v) (nrm (.l 7) a0) (nrm (.l 7) a1) []=some v) (h:Hp):Z4t [a0,a1] h=some (v,h):=by
 have e:(Z9o (nrms [.l 7, .l 7] [a0,a1]) []).bind (fun (p:AV × Hp)=>cvt false p.2 p.1)=some v:=(ZnG (fun v g=>cvt false g v) (nrm (.l 7) a0) (nrm (.l 7) a1) []).trans hv
 exact (Z0E (shr:=[.o]) ha e h).trans (congrArg (fun x=>some (x,h)) (Z0J 1 v))
noncomputable def Z4u:DTab:=D0
theorem ZnI:DSound Try.prog Z4u:=DSound.zero
noncomputable def Z1j:Tab:=(updF (updF (updF (updF T0 47 Z4m) 53 Z1N) 54 Z4s) 58 Z4t)
theorem ZnJ:TSound Try.prog Z1j:=(TSound.upd (TSound.upd (TSound.upd (TSound.upd TSound.zero Zfb) ZbC) Zfl) Zfm)
@[simp] theorem Zfn:Z1j 47=some Z4m:=rfl
@[simp] theorem ZnK:Z1j 53=some Z1N:=rfl
@[simp] theorem ZnL:Z1j 54=some Z4s:=rfl
@[simp] theorem ZnM:Z1j 58=some Z4t:=rfl
noncomputable def Z9p:Fun:=runF Try.prog Z1j Z4u NN [0,1,2,3,4,5,6,7,12,24,25,26,27,31,46,52,73,83] Try.f16 1
theorem ZnN:CSound Try.prog 16 Z9p:=Z04 ZnJ ZnI mixed Try.func16 (by kernel_rfl) NN
theorem ZnO {β:Type} (K:AV→Hp→Option β) (a0:AV) (h:Hp):(Z9p [a0] h).bind (fun p=>K p.1 p.2)=Z6i Try.prog Z1j Z4u NN K a0 h:=by
 rw [← ZjK];exact Z05 rfl
noncomputable def Z1k:Fun:=closedX [.a [none,some 2,some 7]] [.o] Z9p
theorem Z9q:CSound Try.prog 16 Z1k:=Z0D _ _ ZnN
theorem ZnP {a0:AV} {v:AV} (ha:plains [a0]=true) (hv:Z6i Try.prog Z1j Z4u NN (fun v g=>cvt false g v) (nrm (.a [none,some 2,some 7]) a0) []=some v) (h:Hp):Z1k [a0] h=some (v,h):=by
 have e:(Z9p (nrms [.a [none,some 2,some 7]] [a0]) []).bind (fun (p:AV × Hp)=>cvt false p.2 p.1)=some v:=(ZnO (fun v g=>cvt false g v) (nrm (.a [none,some 2,some 7]) a0) []).trans hv
 exact (Z0E (shr:=[.o]) ha e h).trans (congrArg (fun x=>some (x,h)) (Z0J 1 v))
noncomputable def Z9r:DTab:=D0
theorem ZnQ:DSound Try.prog Z9r:=DSound.zero
noncomputable def Z5k:Tab:=(updF (updF T0 16 Z1k) 58 Z4t)
theorem ZnR:TSound Try.prog Z5k:=(TSound.upd (TSound.upd TSound.zero Z9q) Zfm)
@[simp] theorem ZnS:Z5k 16=some Z1k:=rfl
@[simp] theorem ZnT:Z5k 58=some Z4t:=rfl
noncomputable def Z9s:Fun:=runF Try.prog Z5k Z9r NN [0,1,2,3,4] Try.f19 2
theorem ZnU:CSound Try.prog 19 Z9s:=Z04 ZnR ZnQ mixed Try.func19 (by kernel_rfl) NN
theorem ZnV {β:Type} (K:AV→Hp→Option β) (a0:AV) (a1:AV) (h:Hp):(Z9s [a0,a1] h).bind (fun p=>K p.1 p.2)=Z7Z Try.prog Z5k Z9r NN K a0 a1 h:=by
 rw [← ZjL];exact Z05 rfl
noncomputable def Z6Z:Fun:=closedX [.a [none,some 2,some 7], .a [none,some 2,some 7]] [.o] Z9s
theorem ZnW:CSound Try.prog 19 Z6Z:=Z0D _ _ ZnU
theorem ZnX {a0:AV} {a1:AV} {v:AV} (ha:plains [a0,a1]=true) (hv:Z7Z Try.prog Z5k Z9r NN (fun v g=>cvt false g v) (nrm (.a [none,some 2,some 7]) a0) (nrm (.a [none,some 2,some 7]) a1) []=some v) (h:Hp):Z6Z [a0,a1] h=some (v,h):=by
 have e:(Z9s (nrms [.a [none,some 2,some 7], .a [none,some 2,some 7]] [a0,a1]) []).bind (fun (p:AV × Hp)=>cvt false p.2 p.1)=some v:=(ZnV (fun v g=>cvt false g v) (nrm (.a [none,some 2,some 7]) a0) (nrm (.a [none,some 2,some 7]) a1) []).trans hv
 exact (Z0E (shr:=[.o]) ha e h).trans (congrArg (fun x=>some (x,h)) (Z0J 1 v))
noncomputable def Z5l:DTab:=D0
theorem ZnY:DSound Try.prog Z5l:=DSound.zero
noncomputable def Z5m:Tab:=T0
theorem ZnZ:TSound Try.prog Z5m:=TSound.zero
noncomputable def Z9t:Fun:=runF Try.prog Z5m Z5l NN [0,1,3,4,5,7,8,9,16] Try.f60 2
theorem Zo0:CSound Try.prog 60 Z9t:=Z04 ZnZ ZnY mixed Try.func60 (by kernel_rfl) NN
theorem Zo1 {β:Type} (K:AV→Hp→Option β) (a0:AV) (a1:AV) (h:Hp):(Z9t [a0,a1] h).bind (fun p=>K p.1 p.2)=Z6q Try.prog Z5m Z5l NN K a0 a1 h:=by
 rw [← Zkp];exact Z05 rfl
noncomputable def Z70:Fun:=closedX [.l 2, .o] [.o] Z9t
theorem Zo2:CSound Try.prog 60 Z70:=Z0D _ _ Zo0
theorem Zo3 {a0:AV} {a1:AV} {v:AV} (ha:plains [a0,a1]=true) (hv:Z6q Try.prog Z5m Z5l NN (fun v g=>cvt false g v) (nrm (.l 2) a0) a1 []=some v) (h:Hp):Z70 [a0,a1] h=some (v,h):=by
 have e:(Z9t (nrms [.l 2, .o] [a0,a1]) []).bind (fun (p:AV × Hp)=>cvt false p.2 p.1)=some v:=(Zo1 (fun v g=>cvt false g v) (nrm (.l 2) a0) a1 []).trans hv
 exact (Z0E (shr:=[.o]) ha e h).trans (congrArg (fun x=>some (x,h)) (Z0J 1 v))
noncomputable def Z9u:DTab:=D0
theorem Zo4:DSound Try.prog Z9u:=DSound.zero
noncomputable def Z71:Tab:=(updF T0 60 Z70)
theorem Zo5:TSound Try.prog Z71:=(TSound.upd TSound.zero Zo2)
@[simp] theorem Zo6:Z71 60=some Z70:=rfl
noncomputable def Z9v:Fun:=runF Try.prog Z71 Z9u NN [0,1,3,4] Try.f22 2
theorem Zo7:CSound Try.prog 22 Z9v:=Z04 Zo5 Zo4 mixed Try.func22 (by kernel_rfl) NN
theorem Zo8 {β:Type} (K:AV→Hp→Option β) (a0:AV) (a1:AV) (h:Hp):(Z9v [a0,a1] h).bind (fun p=>K p.1 p.2)=Z81 Try.prog Z71 Z9u NN K a0 a1 h:=by
 rw [← ZjN];exact Z05 rfl
noncomputable def Z72:Fun:=closedX [.l 2, .o] [.o] Z9v
theorem Zo9:CSound Try.prog 22 Z72:=Z0D _ _ Zo7
theorem Zoa {a0:AV} {a1:AV} {v:AV} (ha:plains [a0,a1]=true) (hv:Z81 Try.prog Z71 Z9u NN (fun v g=>cvt false g v) (nrm (.l 2) a0) a1 []=some v) (h:Hp):Z72 [a0,a1] h=some (v,h):=by
 have e:(Z9v (nrms [.l 2, .o] [a0,a1]) []).bind (fun (p:AV × Hp)=>cvt false p.2 p.1)=some v:=(Zo8 (fun v g=>cvt false g v) (nrm (.l 2) a0) a1 []).trans hv
 exact (Z0E (shr:=[.o]) ha e h).trans (congrArg (fun x=>some (x,h)) (Z0J 1 v))
noncomputable def Z5n:DTab:=D0
theorem Zob:DSound Try.prog Z5n:=DSound.zero
noncomputable def Z5o:Tab:=T0
theorem Zoc:TSound Try.prog Z5o:=TSound.zero
noncomputable def Z9w:Fun:=runF Try.prog Z5o Z5n NN [0,1,3,4,5,7,8,9,16] Try.f61 2
theorem Zod:CSound Try.prog 61 Z9w:=Z04 Zoc Zob mixed Try.func61 (by kernel_rfl) NN
theorem Zoe {β:Type} (K:AV→Hp→Option β) (a0:AV) (a1:AV) (h:Hp):(Z9w [a0,a1] h).bind (fun p=>K p.1 p.2)=Z6r Try.prog Z5o Z5n NN K a0 a1 h:=by
 rw [← Zku];exact Z05 rfl
noncomputable def Z73:Fun:=closedX [.l 7, .o] [.o] Z9w
theorem Zof:CSound Try.prog 61 Z73:=Z0D _ _ Zod
theorem Zog {a0:AV} {a1:AV} {v:AV} (ha:plains [a0,a1]=true) (hv:Z6r Try.prog Z5o Z5n NN (fun v g=>cvt false g v) (nrm (.l 7) a0) a1 []=some v) (h:Hp):Z73 [a0,a1] h=some (v,h):=by
 have e:(Z9w (nrms [.l 7, .o] [a0,a1]) []).bind (fun (p:AV × Hp)=>cvt false p.2 p.1)=some v:=(Zoe (fun v g=>cvt false g v) (nrm (.l 7) a0) a1 []).trans hv
 exact (Z0E (shr:=[.o]) ha e h).trans (congrArg (fun x=>some (x,h)) (Z0J 1 v))
noncomputable def Z9x:DTab:=D0
theorem Zoh:DSound Try.prog Z9x:=DSound.zero
noncomputable def Z74:Tab:=(updF T0 61 Z73)
theorem Zoi:TSound Try.prog Z74:=(TSound.upd TSound.zero Zof)
@[simp] theorem Zoj:Z74 61=some Z73:=rfl
noncomputable def Z9y:Fun:=runF Try.prog Z74 Z9x NN [0,1,3,4] Try.f23 2
theorem Zok:CSound Try.prog 23 Z9y:=Z04 Zoi Zoh mixed Try.func23 (by kernel_rfl) NN
theorem Zol {β:Type} (K:AV→Hp→Option β) (a0:AV) (a1:AV) (h:Hp):(Z9y [a0,a1] h).bind (fun p=>K p.1 p.2)=Z82 Try.prog Z74 Z9x NN K a0 a1 h:=by
 rw [← ZjO];exact Z05 rfl
noncomputable def Z2M:Fun:=closedX [.l 7, .o] [.o] Z9y
theorem Zfo:CSound Try.prog 23 Z2M:=Z0D _ _ Zok
theorem Zom {a0:AV} {a1:AV} {v:AV} (ha:plains [a0,a1]=true) (hv:Z82 Try.prog Z74 Z9x NN (fun v g=>cvt false g v) (nrm (.l 7) a0) a1 []=some v) (h:Hp):Z2M [a0,a1] h=some (v,h):=by
 have e:(Z9y (nrms [.l 7, .o] [a0,a1]) []).bind (fun (p:AV × Hp)=>cvt false p.2 p.1)=some v:=(Zol (fun v g=>cvt false g v) (nrm (.l 7) a0) a1 []).trans hv
 exact (Z0E (shr:=[.o]) ha e h).trans (congrArg (fun x=>some (x,h)) (Z0J 1 v))
noncomputable def Z9z:DTab:=D0
theorem Zon:DSound Try.prog Z9z:=DSound.zero
noncomputable def Z75:Tab:=(updF T0 76 Z1A)
theorem Zoo:TSound Try.prog Z75:=(TSound.upd TSound.zero ZbE)
@[simp] theorem Zu1:Z75 76=some Z1A:=rfl
noncomputable def Z9A:Fun:=runF Try.prog Z75 Z9z NN [0,2,3,4,5,6,9,11,12,13,14,18,48,55,61] Try.f49 1
theorem Zop:CSound Try.prog 49 Z9A:=Z04 Zoo Zon mixed Try.func49 (by kernel_rfl) NN
theorem Zoq {β:Type} (K:AV→Hp→Option β) (a0:AV) (h:Hp):(Z9A [a0] h).bind (fun p=>K p.1 p.2)=Z6n Try.prog Z75 Z9z NN K a0 h:=by
 rw [← Zka];exact Z05 rfl
noncomputable def Z2N:Fun:=closedX [.l 10] [.o, .o] Z9A
theorem Zfp:CSound Try.prog 49 Z2N:=Z0D _ _ Zop
theorem Zor {a0:AV} {v:AV} (ha:plains [a0]=true) (hv:Z6n Try.prog Z75 Z9z NN (fun v g=>cvt false g v) (nrm (.l 10) a0) []=some v) (h:Hp):Z2N [a0] h=some (v,h):=by
 have e:(Z9A (nrms [.l 10] [a0]) []).bind (fun (p:AV × Hp)=>cvt false p.2 p.1)=some v:=(Zoq (fun v g=>cvt false g v) (nrm (.l 10) a0) []).trans hv
 exact (Z0E (shr:=[.o, .o]) ha e h).trans (congrArg (fun x=>some (x,h)) (Z0J 2 v))
noncomputable def Z76:DTab:=D0
theorem Zos:DSound Try.prog Z76:=DSound.zero
noncomputable def Z77:Tab:=T0
theorem Zot:TSound Try.prog Z77:=TSound.zero
noncomputable def Z13:Fun:=runF Try.prog Z77 Z76 NN [0,2,4] Try.f50 1
theorem ZbG:CSound Try.prog 50 Z13:=Z04 Zot Zos mixed Try.func50 (by kernel_rfl) NN
theorem Zfq {β:Type} (K:AV→Hp→Option β) (a0:AV) (h:Hp):(Z13 [a0] h).bind (fun p=>K p.1 p.2)=Z2e Try.prog Z77 Z76 NN K a0 h:=by
 rw [← Zkb];exact Z05 rfl
theorem Zou (a0:AV) (h:Hp):Z13 [a0] h=Z2e Try.prog Z77 Z76 NN (fun v h=>some (v,h)) a0 h:=(Z0V _).symm.trans (Zfq (fun v h=>some (v,h)) a0 h)
noncomputable def Z1O:Fun:=closedX [.l 2] [.l 2] Z13
theorem Z9B:CSound Try.prog 50 Z1O:=Z0D _ _ ZbG
noncomputable def Z4v:DFun:=closedXD [.l 2] [.l 2] Z13
theorem Zfr:Ro Z1O Z4v:=Z1X _ _ _
theorem Zov {a0:AV} {v:AV} (ha:plains [a0]=true) (hv:Z2e Try.prog Z77 Z76 NN (fun v g=>cvt false g v) (nrm (.l 2) a0) []=some v) (h:Hp):Z1O [a0] h=some ((nrmR [.l 2] v),h):=by
 have e:(Z13 (nrms [.l 2] [a0]) []).bind (fun (p:AV × Hp)=>cvt false p.2 p.1)=some v:=(Zfq (fun v g=>cvt false g v) (nrm (.l 2) a0) []).trans hv
 exact (Z0E (shr:=[.l 2]) ha e h).trans (congrArg (fun x=>some (x,h)) rfl)
noncomputable def Z2O:DTab:=D0
theorem Zow:DSound Try.prog Z2O:=DSound.zero
noncomputable def Z1a:Tab:=(updF T0 53 Z1N)
theorem Zox:TSound Try.prog Z1a:=(TSound.upd TSound.zero ZbC)
@[simp] theorem Zfs:Z1a 53=some Z1N:=rfl
noncomputable def Z9C:Fun:=runF Try.prog Z1a Z2O NN [0,1,2,4,6,7,8,9,10,11,17,31] Try.f78 3
theorem Zoy:CSound Try.prog 78 Z9C:=Z04 Zox Zow mixed Try.func78 (by kernel_rfl) NN
theorem Zoz {β:Type} (K:AV→Hp→Option β) (a0:AV) (a1:AV) (a2:AV) (h:Hp):(Z9C [a0,a1,a2] h).bind (fun p=>K p.1 p.2)=Z52 Try.prog Z1a Z2O NN K a0 a1 a2 h:=by
 rw [← Zl5];exact Z05 rfl
noncomputable def Z78:Fun:=closedX [.l 2, .o, .o] [.o, .o] Z9C
theorem ZoA:CSound Try.prog 78 Z78:=Z0D _ _ Zoy
theorem Zft {a0:AV} {a1:AV} {a2:AV} {v:AV} (ha:plains [a0,a1,a2]=true) (hv:Z52 Try.prog Z1a Z2O NN (fun v g=>cvt false g v) (nrm (.l 2) a0) a1 a2 []=some v) (h:Hp):Z78 [a0,a1,a2] h=some (v,h):=by
 have e:(Z9C (nrms [.l 2, .o, .o] [a0,a1,a2]) []).bind (fun (p:AV × Hp)=>cvt false p.2 p.1)=some v:=(Zoz (fun v g=>cvt false g v) (nrm (.l 2) a0) a1 a2 []).trans hv
 exact (Z0E (shr:=[.o, .o]) ha e h).trans (congrArg (fun x=>some (x,h)) (Z0J 2 v))
def Zfu:Fun:=insF 2 16
theorem ZoB:CSound Try.prog 79 Zfu:=Zf1 Zf4
def ZbH:Fun:=Zfu
theorem ZoC:CSound Try.prog 79 ZbH:=ZoB
noncomputable def Z5p:DTab:=(updD (updD D0 50 (newD Z13)) 79 (insE 2 16))
theorem ZoD:DSound Try.prog Z5p:=(DSound.ins (DSound.new DSound.zero ZbG) Zf4)
@[simp] theorem Zfv:Z5p 50=some (newD Z13):=rfl
@[simp] theorem Zfw:Z5p 79=some (insE 2 16):=rfl
noncomputable def Z4w:Tab:=(updF (updF (updF T0 50 Z13) 78 Z78) 79 ZbH)
theorem ZoE:TSound Try.prog Z4w:=(TSound.upd (TSound.upd (TSound.upd TSound.zero ZbG) ZoA) ZoC)
@[simp] theorem Zu2:Z4w 50=some Z13:=rfl
@[simp] theorem Zfx:Z4w 78=some Z78:=rfl
@[simp] theorem Zu3:Z4w 79=some ZbH:=rfl
noncomputable def Z9D:Fun:=runF Try.prog Z4w Z5p NN [0,1,2,4,6,7] Try.f52 3
theorem ZoF:CSound Try.prog 52 Z9D:=Z04 ZoE ZoD mixed Try.func52 (by kernel_rfl) NN
theorem ZoG {β:Type} (K:AV→Hp→Option β) (a0:AV) (a1:AV) (a2:AV) (h:Hp):(Z9D [a0,a1,a2] h).bind (fun p=>K p.1 p.2)=Z6o Try.prog Z4w Z5p NN K a0 a1 a2 h:=by
 rw [← Zkd];exact Z05 rfl
noncomputable def Z79:Fun:=closedX [.l 2, .o, .o] [.l 2] Z9D
theorem ZoH:CSound Try.prog 52 Z79:=Z0D _ _ ZoF
theorem ZoI {a0:AV} {a1:AV} {a2:AV} {v:AV} (ha:plains [a0,a1,a2]=true) (hv:Z6o Try.prog Z4w Z5p NN (fun v g=>cvt false g v) (nrm (.l 2) a0) a1 a2 []=some v) (h:Hp):Z79 [a0,a1,a2] h=some ((nrmR [.l 2] v),h):=by
 have e:(Z9D (nrms [.l 2, .o, .o] [a0,a1,a2]) []).bind (fun (p:AV × Hp)=>cvt false p.2 p.1)=some v:=(ZoG (fun v g=>cvt false g v) (nrm (.l 2) a0) a1 a2 []).trans hv
 exact (Z0E (shr:=[.l 2]) ha e h).trans (congrArg (fun x=>some (x,h)) rfl)
noncomputable def Z5q:DTab:=(updD (updD D0 50 Z4v) 51 (newD Z11))
theorem ZoJ:DSound Try.prog Z5q:=(DSound.new (DSound.ro DSound.zero Zfr Z9B) Z9k)
@[simp] theorem Z9E:Z5q 50=some Z4v:=rfl
@[simp] theorem Z9F:Z5q 51=some (newD Z11):=rfl
noncomputable def Z1b:Tab:=(updF (updF (updF (updF (updF (updF (updF (updF (updF T0 16 Z1k) 22 Z72) 23 Z2M) 49 Z2N) 50 Z1O) 51 Z11) 52 Z79) 53 Z1N) 54 Z4s)
theorem ZoK:TSound Try.prog Z1b:=(TSound.upd (TSound.upd (TSound.upd (TSound.upd (TSound.upd (TSound.upd (TSound.upd (TSound.upd (TSound.upd TSound.zero Z9q) Zo9) Zfo) Zfp) Z9B) Z9k) ZoH) ZbC) Zfl)
@[simp] theorem Z4x:Z1b 16=some Z1k:=rfl
@[simp] theorem Z9G:Z1b 22=some Z72:=rfl
@[simp] theorem ZbI:Z1b 23=some Z2M:=rfl
@[simp] theorem Z5r:Z1b 49=some Z2N:=rfl
@[simp] theorem Zu4:Z1b 50=some Z1O:=rfl
@[simp] theorem Zu5:Z1b 51=some Z11:=rfl
@[simp] theorem Zfy:Z1b 52=some Z79:=rfl
@[simp] theorem Zu6:Z1b 53=some Z1N:=rfl
@[simp] theorem ZoL:Z1b 54=some Z4s:=rfl
noncomputable def Z9H:Fun:=runF Try.prog Z1b Z5q NN [0,1,2,3,4,5,6,7,8,9,11,12,13,22,32,40,55,76,84] Try.f13 2
theorem ZoM:CSound Try.prog 13 Z9H:=Z04 ZoK ZoJ mixed Try.func13 (by kernel_rfl) NN
theorem ZoN {β:Type} (K:AV→Hp→Option β) (a0:AV) (a1:AV) (h:Hp):(Z9H [a0,a1] h).bind (fun p=>K p.1 p.2)=Z1z Try.prog Z1b Z5q NN K a0 a1 h:=by
 rw [← ZjE];exact Z05 rfl
noncomputable def Z5s:Fun:=closedX [.a [none,some 2,some 7], .o] [.a [none,some 2,some 7], .o, .o, .o] Z9H
theorem ZoO:CSound Try.prog 13 Z5s:=Z0D _ _ ZoM
theorem Z4y {a0:AV} {a1:AV} {v:AV} (ha:plains [a0,a1]=true) (hv:Z1z Try.prog Z1b Z5q NN (fun v g=>cvt false g v) (nrm (.a [none,some 2,some 7]) a0) a1 []=some v) (h:Hp):Z5s [a0,a1] h=some ((nrmR [.a [none,some 2,some 7], .o, .o, .o] v),h):=by
 have e:(Z9H (nrms [.a [none,some 2,some 7], .o] [a0,a1]) []).bind (fun (p:AV × Hp)=>cvt false p.2 p.1)=some v:=(ZoN (fun v g=>cvt false g v) (nrm (.a [none,some 2,some 7]) a0) a1 []).trans hv
 exact (Z0E (shr:=[.a [none,some 2,some 7], .o, .o, .o]) ha e h).trans (congrArg (fun x=>some (x,h)) rfl)
noncomputable def Z9I:DTab:=D0
theorem ZoP:DSound Try.prog Z9I:=DSound.zero
noncomputable def Z9J:Tab:=T0
theorem ZoQ:TSound Try.prog Z9J:=TSound.zero
noncomputable def Z9K:Fun:=runF Try.prog Z9J Z9I NN [0,2] Try.f75 1
theorem ZoR:CSound Try.prog 75 Z9K:=Z04 ZoQ ZoP mixed Try.func75 (by kernel_rfl) NN
theorem ZoS {β:Type} (K:AV→Hp→Option β) (a0:AV) (h:Hp):(Z9K [a0] h).bind (fun p=>K p.1 p.2)=Z8B Try.prog Z9J Z9I NN K a0 h:=by
 rw [← ZkY];exact Z05 rfl
noncomputable def Z1u:Fun:=closedX [.o] [.o] Z9K
theorem Z9L:CSound Try.prog 75 Z1u:=Z0D _ _ ZoR
theorem ZoT {a0:AV} {v:AV} (ha:plains [a0]=true) (hv:Z8B Try.prog Z9J Z9I NN (fun v g=>cvt false g v) a0 []=some v) (h:Hp):Z1u [a0] h=some (v,h):=by
 have e:(Z9K (nrms [.o] [a0]) []).bind (fun (p:AV × Hp)=>cvt false p.2 p.1)=some v:=(ZoS (fun v g=>cvt false g v) a0 []).trans hv
 exact (Z0E (shr:=[.o]) ha e h).trans (congrArg (fun x=>some (x,h)) (Z0J 1 v))
noncomputable def Z4z:DTab:=D0
theorem ZoU:DSound Try.prog Z4z:=DSound.zero
noncomputable def Z1P:Tab:=(updF (updF T0 49 Z2N) 75 Z1u)
theorem ZoV:TSound Try.prog Z1P:=(TSound.upd (TSound.upd TSound.zero Zfp) Z9L)
@[simp] theorem ZoW:Z1P 49=some Z2N:=rfl
@[simp] theorem ZoX:Z1P 75=some Z1u:=rfl
noncomputable def Z9M:Fun:=runF Try.prog Z1P Z4z NN [0,1,2,3,4,6,7,22,28,29,30,31,41,45,51] Try.f64 1
theorem ZoY:CSound Try.prog 64 Z9M:=Z04 ZoV ZoU mixed Try.func64 (by kernel_rfl) NN
theorem ZoZ {β:Type} (K:AV→Hp→Option β) (a0:AV) (h:Hp):(Z9M [a0] h).bind (fun p=>K p.1 p.2)=Z6t Try.prog Z1P Z4z NN K a0 h:=by
 rw [← ZkJ];exact Z05 rfl
noncomputable def Z1l:Fun:=closedX [.a [none,none,some 10]] [.o] Z9M
theorem Z9N:CSound Try.prog 64 Z1l:=Z0D _ _ ZoY
theorem Zp0 {a0:AV} {v:AV} (ha:plains [a0]=true) (hv:Z6t Try.prog Z1P Z4z NN (fun v g=>cvt false g v) (nrm (.a [none,none,some 10]) a0) []=some v) (h:Hp):Z1l [a0] h=some (v,h):=by
 have e:(Z9M (nrms [.a [none,none,some 10]] [a0]) []).bind (fun (p:AV × Hp)=>cvt false p.2 p.1)=some v:=(ZoZ (fun v g=>cvt false g v) (nrm (.a [none,none,some 10]) a0) []).trans hv
 exact (Z0E (shr:=[.o]) ha e h).trans (congrArg (fun x=>some (x,h)) (Z0J 1 v))
noncomputable def Z7a:DTab:=D0
theorem Zp1:DSound Try.prog Z7a:=DSound.zero
noncomputable def Z7b:Tab:=T0
theorem Zp2:TSound Try.prog Z7b:=TSound.zero
noncomputable def Z1m:Fun:=runF Try.prog Z7b Z7a NN [0,2,4] Try.f66 1
theorem ZbJ:CSound Try.prog 66 Z1m:=Z04 Zp2 Zp1 mixed Try.func66 (by kernel_rfl) NN
theorem Zfz {β:Type} (K:AV→Hp→Option β) (a0:AV) (h:Hp):(Z1m [a0] h).bind (fun p=>K p.1 p.2)=Z2r Try.prog Z7b Z7a NN K a0 h:=by
 rw [← ZkL];exact Z05 rfl
theorem Zp3 (a0:AV) (h:Hp):Z1m [a0] h=Z2r Try.prog Z7b Z7a NN (fun v h=>some (v,h)) a0 h:=(Z0V _).symm.trans (Zfz (fun v h=>some (v,h)) a0 h)
noncomputable def Z4A:Fun:=closedX [.l 10] [.l 10] Z1m
theorem Zp4:CSound Try.prog 66 Z4A:=Z0D _ _ ZbJ
theorem Zp5 {a0:AV} {v:AV} (ha:plains [a0]=true) (hv:Z2r Try.prog Z7b Z7a NN (fun v g=>cvt false g v) (nrm (.l 10) a0) []=some v) (h:Hp):Z4A [a0] h=some ((nrmR [.l 10] v),h):=by
 have e:(Z1m (nrms [.l 10] [a0]) []).bind (fun (p:AV × Hp)=>cvt false p.2 p.1)=some v:=(Zfz (fun v g=>cvt false g v) (nrm (.l 10) a0) []).trans hv
 exact (Z0E (shr:=[.l 10]) ha e h).trans (congrArg (fun x=>some (x,h)) rfl)
noncomputable def Z9O:DTab:=D0
theorem Zp6:DSound Try.prog Z9O:=DSound.zero
noncomputable def Z9P:Tab:=T0
theorem Zp7:TSound Try.prog Z9P:=TSound.zero
noncomputable def Z9Q:Fun:=runF Try.prog Z9P Z9O NN [0,1,2,3] Try.f90 2
theorem Zp8:CSound Try.prog 90 Z9Q:=Z04 Zp7 Zp6 mixed Try.func90 (by kernel_rfl) NN
theorem Zp9 {β:Type} (K:AV→Hp→Option β) (a0:AV) (a1:AV) (h:Hp):(Z9Q [a0,a1] h).bind (fun p=>K p.1 p.2)=Z8O Try.prog Z9P Z9O NN K a0 a1 h:=by
 rw [← Zlt];exact Z05 rfl
noncomputable def Z1Q:Fun:=quietT Z9Q
theorem ZbK:CSound Try.prog 90 Z1Q:=Z1Y Zp8
theorem Zpa {a0:AV} {a1:AV} {h:Hp} {g:List AObj} {v:AV} (hv:Z8O Try.prog Z9P Z9O NN (fun v h=>some (v,h)) a0 a1 h=some (v,h++g)) (hp:plain v=true):Z1Q [a0,a1] h=some (v,h):=Z4g (F:=Z9Q) (((Z0V _).symm.trans (Zp9 (fun v h=>some (v,h)) a0 a1 h)).trans hv) hp
noncomputable def Z9R:DTab:=D0
theorem Zpb:DSound Try.prog Z9R:=DSound.zero
noncomputable def Z5t:Tab:=(updF T0 90 Z1Q)
theorem Zpc:TSound Try.prog Z5t:=(TSound.upd TSound.zero ZbK)
@[simp] theorem Zpd:Z5t 90=some Z1Q:=rfl
noncomputable def Z9S:Fun:=runF Try.prog Z5t Z9R NN [0,1,4,5,7,8,9,16] Try.f70 2
theorem Zpe:CSound Try.prog 70 Z9S:=Z04 Zpc Zpb mixed Try.func70 (by kernel_rfl) NN
theorem Zpf {β:Type} (K:AV→Hp→Option β) (a0:AV) (a1:AV) (h:Hp):(Z9S [a0,a1] h).bind (fun p=>K p.1 p.2)=Z50 Try.prog Z5t Z9R NN K a0 a1 h:=by
 rw [← ZkX];exact Z05 rfl
noncomputable def Z5u:Fun:=quietT Z9S
theorem Zpg:CSound Try.prog 70 Z5u:=Z1Y Zpe
theorem ZfA {a0:AV} {a1:AV} {h:Hp} {g:List AObj} {v:AV} (hv:Z50 Try.prog Z5t Z9R NN (fun v h=>some (v,h)) a0 a1 h=some (v,h++g)) (hp:plain v=true):Z5u [a0,a1] h=some (v,h):=Z4g (F:=Z9S) (((Z0V _).symm.trans (Zpf (fun v h=>some (v,h)) a0 a1 h)).trans hv) hp
noncomputable def Z7c:DTab:=D0
theorem Zph:DSound Try.prog Z7c:=DSound.zero
noncomputable def Z1R:Tab:=(updF (updF T0 70 Z5u) 90 Z1Q)
theorem Zpi:TSound Try.prog Z1R:=(TSound.upd (TSound.upd TSound.zero Zpg) ZbK)
@[simp] theorem ZfB:Z1R 70=some Z5u:=rfl
@[simp] theorem Zpj:Z1R 90=some Z1Q:=rfl
noncomputable def Z5v:Fun:=runF Try.prog Z1R Z7c NN [0,1,4,5,6,7,12,19,29] Try.f89 2
theorem Zpk:CSound Try.prog 89 Z5v:=Z04 Zpi Zph mixed Try.func89 (by kernel_rfl) NN
theorem Zpl {β:Type} (K:AV→Hp→Option β) (a0:AV) (a1:AV) (h:Hp):(Z5v [a0,a1] h).bind (fun p=>K p.1 p.2)=Z2F Try.prog Z1R Z7c NN K a0 a1 h:=by
 rw [← Zls];exact Z05 rfl
theorem ZfC (a0:AV) (a1:AV) (h:Hp):Z5v [a0,a1] h=Z2F Try.prog Z1R Z7c NN (fun v h=>some (v,h)) a0 a1 h:=(Z0V _).symm.trans (Zpl (fun v h=>some (v,h)) a0 a1 h)
noncomputable def Z9T:DTab:=D0
theorem Zpm:DSound Try.prog Z9T:=DSound.zero
noncomputable def Z1S:Tab:=(updF (updF (updF (updF (updF T0 64 Z1l) 66 Z1m) 75 Z1u) 89 Z5v) 90 Z1Q)
theorem Zpn:TSound Try.prog Z1S:=(TSound.upd (TSound.upd (TSound.upd (TSound.upd (TSound.upd TSound.zero Z9N) ZbJ) Z9L) Zpk) ZbK)
@[simp] theorem ZbL:Z1S 64=some Z1l:=rfl
@[simp] theorem Zpo:Z1S 66=some Z1m:=rfl
@[simp] theorem ZfD:Z1S 75=some Z1u:=rfl
@[simp] theorem Zpp:Z1S 89=some Z5v:=rfl
@[simp] theorem Zu7:Z1S 90=some Z1Q:=rfl
noncomputable def Z9U:Fun:=runF Try.prog Z1S Z9T NN [0,1,2,3,4,5,6,10] Try.f65 2
theorem Zpq:CSound Try.prog 65 Z9U:=Z04 Zpn Zpm mixed Try.func65 (by kernel_rfl) NN
theorem Zpr {β:Type} (K:AV→Hp→Option β) (a0:AV) (a1:AV) (h:Hp):(Z9U [a0,a1] h).bind (fun p=>K p.1 p.2)=Z4Y Try.prog Z1S Z9T NN K a0 a1 h:=by
 rw [← ZkK];exact Z05 rfl
noncomputable def Z5w:Fun:=closedX [.a [none,none,some 10], .o] [.l 10, .o] Z9U
theorem Zps:CSound Try.prog 65 Z5w:=Z0D _ _ Zpq
theorem ZbM {a0:AV} {a1:AV} {v:AV} (ha:plains [a0,a1]=true) (hv:Z4Y Try.prog Z1S Z9T NN (fun v g=>cvt false g v) (nrm (.a [none,none,some 10]) a0) a1 []=some v) (h:Hp):Z5w [a0,a1] h=some ((nrmR [.l 10, .o] v),h):=by
 have e:(Z9U (nrms [.a [none,none,some 10], .o] [a0,a1]) []).bind (fun (p:AV × Hp)=>cvt false p.2 p.1)=some v:=(Zpr (fun v g=>cvt false g v) (nrm (.a [none,none,some 10]) a0) a1 []).trans hv
 exact (Z0E (shr:=[.l 10, .o]) ha e h).trans (congrArg (fun x=>some (x,h)) rfl)
noncomputable def ZfE:DTab:=D0
theorem Zpt:DSound Try.prog ZfE:=DSound.zero
noncomputable def ZfF:Tab:=T0
theorem Zpu:TSound Try.prog ZfF:=TSound.zero
noncomputable def ZfG:Fun:=runF Try.prog ZfF ZfE NN [0,1,2,4,5,6,7,8,9,24] Try.f91 3
theorem Zpv:CSound Try.prog 91 ZfG:=Z04 Zpu Zpt mixed Try.func91 (by kernel_rfl) NN
noncomputable def ZbN:Fun:=quietT ZfG
theorem Zpw:CSound Try.prog 91 ZbN:=Z1Y Zpv
noncomputable def Z9V:DTab:=D0
theorem Zpx:DSound Try.prog Z9V:=DSound.zero
noncomputable def Z7d:Tab:=(updF T0 91 ZbN)
theorem Zpy:TSound Try.prog Z7d:=(TSound.upd TSound.zero Zpw)
@[simp] theorem Zu8:Z7d 91=some ZbN:=rfl
noncomputable def ZbO:Fun:=runF Try.prog Z7d Z9V NN [0,1,2,3,4] Try.f67 2
theorem Zpz:CSound Try.prog 67 ZbO:=Z04 Zpy Zpx mixed Try.func67 (by kernel_rfl) NN
theorem ZpA {β:Type} (K:AV→Hp→Option β) (a0:AV) (a1:AV) (h:Hp):(ZbO [a0,a1] h).bind (fun p=>K p.1 p.2)=Zbp Try.prog Z7d Z9V NN K a0 a1 h:=by
 rw [← ZkM];exact Z05 rfl
noncomputable def Z5x:Fun:=ZbO
theorem ZpB:CSound Try.prog 67 Z5x:=Zpz
theorem ZpC (a0:AV) (a1:AV) (h:Hp):Z5x [a0,a1] h=Zbp Try.prog Z7d Z9V NN (fun v h=>some (v,h)) a0 a1 h:=(Z0V _).symm.trans (ZpA (fun v h=>some (v,h)) a0 a1 h)
noncomputable def Z7e:DTab:=D0
theorem ZpD:DSound Try.prog Z7e:=DSound.zero
noncomputable def Z5y:Tab:=(updF T0 66 Z1m)
theorem ZpE:TSound Try.prog Z5y:=(TSound.upd TSound.zero ZbJ)
@[simp] theorem ZpF:Z5y 66=some Z1m:=rfl
noncomputable def Z1c:Fun:=runF Try.prog Z5y Z7e NN [0,1,2] Try.f77 1
theorem ZbP:CSound Try.prog 77 Z1c:=Z04 ZpE ZpD mixed Try.func77 (by kernel_rfl) NN
theorem ZpG {β:Type} (K:AV→Hp→Option β) (a0:AV) (h:Hp):(Z1c [a0] h).bind (fun p=>K p.1 p.2)=Z6w Try.prog Z5y Z7e NN K a0 h:=by
 rw [← Zl0];exact Z05 rfl
theorem ZpH (a0:AV) (h:Hp):Z1c [a0] h=Z6w Try.prog Z5y Z7e NN (fun v h=>some (v,h)) a0 h:=(Z0V _).symm.trans (ZpG (fun v h=>some (v,h)) a0 h)
noncomputable def Z9W:DTab:=D0
theorem ZpI:DSound Try.prog Z9W:=DSound.zero
noncomputable def Z9X:Tab:=T0
theorem ZpJ:TSound Try.prog Z9X:=TSound.zero
noncomputable def Z9Y:Fun:=runF Try.prog Z9X Z9W NN [0,1,2,4] Try.f93 3
theorem ZpK:CSound Try.prog 93 Z9Y:=Z04 ZpJ ZpI mixed Try.func93 (by kernel_rfl) NN
theorem ZpL {β:Type} (K:AV→Hp→Option β) (a0:AV) (a1:AV) (a2:AV) (h:Hp):(Z9Y [a0,a1,a2] h).bind (fun p=>K p.1 p.2)=Z8S Try.prog Z9X Z9W NN K a0 a1 a2 h:=by
 rw [← ZlE];exact Z05 rfl
noncomputable def Z4B:Fun:=quietT Z9Y
theorem ZfH:CSound Try.prog 93 Z4B:=Z1Y ZpK
theorem ZpM {a0:AV} {a1:AV} {a2:AV} {h:Hp} {g:List AObj} {v:AV} (hv:Z8S Try.prog Z9X Z9W NN (fun v h=>some (v,h)) a0 a1 a2 h=some (v,h++g)) (hp:plain v=true):Z4B [a0,a1,a2] h=some (v,h):=Z4g (F:=Z9Y) (((Z0V _).symm.trans (ZpL (fun v h=>some (v,h)) a0 a1 a2 h)).trans hv) hp
noncomputable def Z9Z:DTab:=D0
theorem ZpN:DSound Try.prog Z9Z:=DSound.zero
noncomputable def Z5z:Tab:=(updF T0 93 Z4B)
theorem ZpO:TSound Try.prog Z5z:=(TSound.upd TSound.zero ZfH)
@[simp] theorem ZpP:Z5z 93=some Z4B:=rfl
noncomputable def Za0:Fun:=runF Try.prog Z5z Z9Z NN [0,1,4,5,6,7,11,21] Try.f92 2
theorem ZpQ:CSound Try.prog 92 Za0:=Z04 ZpO ZpN mixed Try.func92 (by kernel_rfl) NN
theorem ZpR {β:Type} (K:AV→Hp→Option β) (a0:AV) (a1:AV) (h:Hp):(Za0 [a0,a1] h).bind (fun p=>K p.1 p.2)=Z6G Try.prog Z5z Z9Z NN K a0 a1 h:=by
 rw [← ZlD];exact Z05 rfl
noncomputable def Z7f:Fun:=quietT Za0
theorem ZpS:CSound Try.prog 92 Z7f:=Z1Y ZpQ
theorem ZpT {a0:AV} {a1:AV} {h:Hp} {g:List AObj} {v:AV} (hv:Z6G Try.prog Z5z Z9Z NN (fun v h=>some (v,h)) a0 a1 h=some (v,h++g)) (hp:plain v=true):Z7f [a0,a1] h=some (v,h):=Z4g (F:=Za0) (((Z0V _).symm.trans (ZpR (fun v h=>some (v,h)) a0 a1 h)).trans hv) hp
noncomputable def Za1:DTab:=D0
theorem ZpU:DSound Try.prog Za1:=DSound.zero
noncomputable def Za2:Tab:=T0
theorem ZpV:TSound Try.prog Za2:=TSound.zero
noncomputable def Z5A:Fun:=runF Try.prog Za2 Za1 NN [0,1,2,6,7,16] Try.f94 3
theorem ZpW:CSound Try.prog 94 Z5A:=Z04 ZpV ZpU mixed Try.func94 (by kernel_rfl) NN
theorem ZpX {β:Type} (K:AV→Hp→Option β) (a0:AV) (a1:AV) (a2:AV) (h:Hp):(Z5A [a0,a1,a2] h).bind (fun p=>K p.1 p.2)=Z8T Try.prog Za2 Za1 NN K a0 a1 a2 h:=by
 rw [← ZlF];exact Z05 rfl
theorem ZpY (a0:AV) (a1:AV) (a2:AV) (h:Hp):Z5A [a0,a1,a2] h=Z8T Try.prog Za2 Za1 NN (fun v h=>some (v,h)) a0 a1 a2 h:=(Z0V _).symm.trans (ZpX (fun v h=>some (v,h)) a0 a1 a2 h)
noncomputable def Z7g:DTab:=D0
theorem ZpZ:DSound Try.prog Z7g:=DSound.zero
noncomputable def Z1B:Tab:=(updF (updF (updF (updF (updF T0 64 Z1l) 77 Z1c) 92 Z7f) 93 Z4B) 94 Z5A)
theorem Zq0:TSound Try.prog Z1B:=(TSound.upd (TSound.upd (TSound.upd (TSound.upd (TSound.upd TSound.zero Z9N) ZbP) ZpS) ZfH) ZpW)
@[simp] theorem Z5B:Z1B 64=some Z1l:=rfl
@[simp] theorem ZbQ:Z1B 77=some Z1c:=rfl
@[simp] theorem ZbR:Z1B 92=some Z7f:=rfl
@[simp] theorem Zu9:Z1B 93=some Z4B:=rfl
@[simp] theorem Zq1:Z1B 94=some Z5A:=rfl
noncomputable def Za3:Fun:=runF Try.prog Z1B Z7g NN [0,1,2,3,4,5,6,7,8,13,20,54] Try.f68 2
theorem Zq2:CSound Try.prog 68 Za3:=Z04 Zq0 ZpZ mixed Try.func68 (by kernel_rfl) NN
theorem Zq3 {β:Type} (K:AV→Hp→Option β) (a0:AV) (a1:AV) (h:Hp):(Za3 [a0,a1] h).bind (fun p=>K p.1 p.2)=Z1K Try.prog Z1B Z7g NN K a0 a1 h:=by
 rw [← ZkN];exact Z05 rfl
noncomputable def Z5C:Fun:=closedX [.a [none,none,some 10], .o] [.a [none,none,some 10], .o] Za3
theorem Zq4:CSound Try.prog 68 Z5C:=Z0D _ _ Zq2
theorem Z5D {a0:AV} {a1:AV} {v:AV} (ha:plains [a0,a1]=true) (hv:Z1K Try.prog Z1B Z7g NN (fun v g=>cvt false g v) (nrm (.a [none,none,some 10]) a0) a1 []=some v) (h:Hp):Z5C [a0,a1] h=some ((nrmR [.a [none,none,some 10], .o] v),h):=by
 have e:(Za3 (nrms [.a [none,none,some 10], .o] [a0,a1]) []).bind (fun (p:AV × Hp)=>cvt false p.2 p.1)=some v:=(Zq3 (fun v g=>cvt false g v) (nrm (.a [none,none,some 10]) a0) a1 []).trans hv
 exact (Z0E (shr:=[.a [none,none,some 10], .o]) ha e h).trans (congrArg (fun x=>some (x,h)) rfl)
noncomputable def Z14:DTab:=(updD (updD D0 50 Z4v) 51 Z9l)
theorem ZfI:DSound Try.prog Z14:=(DSound.ro (DSound.ro DSound.zero Zfr Z9B) Znh Zfh)
@[simp] theorem Zq5:Z14 50=some Z4v:=rfl
@[simp] theorem Zq6:Z14 51=some Z9l:=rfl
noncomputable def Z15:Tab:=(updF (updF (updF (updF (updF (updF (updF (updF (updF T0 13 Z5s) 16 Z1k) 50 Z1O) 51 Z4p) 64 Z1l) 65 Z5w) 66 Z4A) 67 Z5x) 68 Z5C)
theorem ZfJ:TSound Try.prog Z15:=(TSound.upd (TSound.upd (TSound.upd (TSound.upd (TSound.upd (TSound.upd (TSound.upd (TSound.upd (TSound.upd TSound.zero ZoO) Z9q) Z9B) Zfh) Z9N) Zps) Zp4) ZpB) Zq4)
@[simp] theorem Zq7:Z15 13=some Z5s:=rfl
@[simp] theorem Zua:Z15 16=some Z1k:=rfl
@[simp] theorem Zub:Z15 50=some Z1O:=rfl
@[simp] theorem Zuc:Z15 51=some Z4p:=rfl
@[simp] theorem Zud:Z15 64=some Z1l:=rfl
@[simp] theorem Zue:Z15 65=some Z5w:=rfl
@[simp] theorem Zuf:Z15 66=some Z4A:=rfl
@[simp] theorem Zug:Z15 67=some Z5x:=rfl
@[simp] theorem Zq8:Z15 68=some Z5C:=rfl
noncomputable def Z5E:Fun:=yieldF Try.prog Z15 Z14 NN [0,1,2,3,4,5,7,8,9,10,11,13,14,15,16,17,18,20,21,32,63,64,65,75,84] 4
theorem Zq9:YSound Try.prog Z5E:=Zjr ZfJ ZfI mixed NN
theorem Zqa {L:Nat} {h:Hp} {pend:Option Code} {v7:AV} {v8:AV} {v9:AV} {v10:AV} {v13:AV} {v14:AV} {v64:AV} {v65:AV} (hL:h[L]? = some (.loop (Z1r) (Z1q) (Z1h) (Z1i) (envT [(7,v7),(8,v8),(9,v9),(10,v10),(13,v13),(14,v14)]) .ready pend)):Z5E [ymark, .yl L,v64,v65] h=Zbm Try.prog Z15 Z14 NN L (envT [(7,v7),(8,v8),(9,v9),(10,v10),(13,v13),(14,v14)]) (fun h=>some (.s (.bool true),h.set L (.loop (Z1r) (Z1q) (Z1h) (Z1i) (envT [(7,v7),(8,v8),(9,v9),(10,v10),(13,v13),(14,v14)]) .ready none))) (fun h=>some (.s (.bool false),h.set L (.loop (Z1r) (Z1q) (Z1h) (Z1i) (envT [(7,v7),(8,v8),(9,v9),(10,v10),(13,v13),(14,v14)]) .done (some .ret)))) v7 v8 v9 v10 v13 v14 v64 v65 h:=(Zjp hL (by kernel_rfl)).trans (ZjU Z15 Z14 NN L v7 v8 v9 v10 v13 v14 v64 v65 h)
noncomputable def Z0P:Tab:=(updF T0 YB Z5E)
theorem Zqb:TSound Try.prog Z0P:=(TSound.updY TSound.zero Zq9)
@[simp] theorem ZfK:Z0P YB=some Z5E:=rfl
noncomputable def Z5F:Fun:=runF Try.prog Z0P D0 NN [0,1,2,4,5,6,7,8,9,24] Try.f91 3
theorem Zqc:CSound Try.prog 91 Z5F:=Z04 Zqb DSound.zero mixed Try.func91 (by kernel_rfl) NN
theorem Zqd {β:Type} (K:AV→Hp→Option β) (a0:AV) (a1:AV) (a2:AV) (h:Hp):(Z5F [a0,a1,a2] h).bind (fun p=>K p.1 p.2)=Z6E Try.prog Z0P D0 NN K a0 a1 a2 h:=by
 rw [← Zly];exact Z05 rfl
theorem Zqe (a0:AV) (a1:AV) (a2:AV) (h:Hp):Z5F [a0,a1,a2] h=Z6E Try.prog Z0P D0 NN (fun v h=>some (v,h)) a0 a1 a2 h:=(Z0V _).symm.trans (Zqd (fun v h=>some (v,h)) a0 a1 a2 h)
noncomputable def Z0T:Tab:=(updF Z15 91 Z5F)
theorem Zqf:TSound Try.prog Z0T:=(TSound.upd ZfJ Zqc)
@[simp] theorem Zuh:Z0T 13=some Z5s:=rfl
@[simp] theorem ZbS:Z0T 16=some Z1k:=rfl
@[simp] theorem Zui:Z0T 50=some Z1O:=rfl
@[simp] theorem Zuj:Z0T 51=some Z4p:=rfl
@[simp] theorem ZbT:Z0T 64=some Z1l:=rfl
@[simp] theorem Zqg:Z0T 65=some Z5w:=rfl
@[simp] theorem Zqh:Z0T 66=some Z4A:=rfl
@[simp] theorem Zqi:Z0T 67=some Z5x:=rfl
@[simp] theorem Zuk:Z0T 68=some Z5C:=rfl
@[simp] theorem ZfL:Z0T 91=some Z5F:=rfl
noncomputable def Za4:Fun:=runF Try.prog Z0T Z14 NN [0,1,2,3,4,5,7,8,9,10,11,13,14,15,16,17,18,20,21,32,63,64,65,75,84] Try.f30 4
theorem Zqj:CSound Try.prog 30 Za4:=Z04 Zqf ZfI mixed Try.func30 (by kernel_rfl) NN
theorem Zqk {β:Type} (K:AV→Hp→Option β) (a0:AV) (a1:AV) (a2:AV) (a3:AV) (h:Hp):(Za4 [a0,a1,a2,a3] h).bind (fun p=>K p.1 p.2)=Z28 Try.prog Z0T Z14 NN K a0 a1 a2 a3 h:=by
 rw [← ZjV];exact Z05 rfl
noncomputable def Z1C:Fun:=closedX [.a [none,none,some 10], .a [none,some 2,some 7], .o, .o] [.a [none,none,some 10], .a [none,some 2,some 7], .o] Za4
theorem ZfM:CSound Try.prog 30 Z1C:=Z0D _ _ Zqj
theorem Zql {a0:AV} {a1:AV} {a2:AV} {a3:AV} {v:AV} (ha:plains [a0,a1,a2,a3]=true) (hv:Z28 Try.prog Z0T Z14 NN (fun v g=>cvt false g v) (nrm (.a [none,none,some 10]) a0) (nrm (.a [none,some 2,some 7]) a1) a2 a3 []=some v) (h:Hp):Z1C [a0,a1,a2,a3] h=some ((nrmR [.a [none,none,some 10], .a [none,some 2,some 7], .o] v),h):=by
 have e:(Za4 (nrms [.a [none,none,some 10], .a [none,some 2,some 7], .o, .o] [a0,a1,a2,a3]) []).bind (fun (p:AV × Hp)=>cvt false p.2 p.1)=some v:=(Zqk (fun v g=>cvt false g v) (nrm (.a [none,none,some 10]) a0) (nrm (.a [none,some 2,some 7]) a1) a2 a3 []).trans hv
 exact (Z0E (shr:=[.a [none,none,some 10], .a [none,some 2,some 7], .o]) ha e h).trans (congrArg (fun x=>some (x,h)) rfl)
noncomputable def Za5:DTab:=D0
theorem Zqm:DSound Try.prog Za5:=DSound.zero
noncomputable def Z7h:Tab:=(updF T0 75 Z1u)
theorem Zqn:TSound Try.prog Z7h:=(TSound.upd TSound.zero Z9L)
@[simp] theorem ZfN:Z7h 75=some Z1u:=rfl
noncomputable def Za6:Fun:=runF Try.prog Z7h Za5 NN [0,2,3,6] Try.f43 1
theorem Zqo:CSound Try.prog 43 Za6:=Z04 Zqn Zqm mixed Try.func43 (by kernel_rfl) NN
theorem Zqp {β:Type} (K:AV→Hp→Option β) (a0:AV) (h:Hp):(Za6 [a0] h).bind (fun p=>K p.1 p.2)=Z6k Try.prog Z7h Za5 NN K a0 h:=by
 rw [← ZjX];exact Z05 rfl
noncomputable def Z5G:Fun:=closedX [.o] [.a [none,none,some 10], .o] Za6
theorem Zqq:CSound Try.prog 43 Z5G:=Z0D _ _ Zqo
theorem ZfO {a0:AV} {v:AV} (ha:plains [a0]=true) (hv:Z6k Try.prog Z7h Za5 NN (fun v g=>cvt false g v) a0 []=some v) (h:Hp):Z5G [a0] h=some ((nrmR [.a [none,none,some 10], .o] v),h):=by
 have e:(Za6 (nrms [.o] [a0]) []).bind (fun (p:AV × Hp)=>cvt false p.2 p.1)=some v:=(Zqp (fun v g=>cvt false g v) a0 []).trans hv
 exact (Z0E (shr:=[.a [none,none,some 10], .o]) ha e h).trans (congrArg (fun x=>some (x,h)) rfl)
noncomputable def Z7i:DTab:=(updD D0 77 (newA Z1c))
theorem Zqr:DSound Try.prog Z7i:=(DSound.newA DSound.zero ZbP)
@[simp] theorem Zqs:Z7i 77=some (newA Z1c):=rfl
noncomputable def Z2P:Tab:=(updF (updF (updF (updF T0 64 Z1l) 75 Z1u) 76 Z1A) 77 Z1c)
theorem Zqt:TSound Try.prog Z2P:=(TSound.upd (TSound.upd (TSound.upd (TSound.upd TSound.zero Z9N) Z9L) ZbE) ZbP)
@[simp] theorem Zqu:Z2P 64=some Z1l:=rfl
@[simp] theorem Zqv:Z2P 75=some Z1u:=rfl
@[simp] theorem Zqw:Z2P 76=some Z1A:=rfl
@[simp] theorem Zul:Z2P 77=some Z1c:=rfl
noncomputable def Z7j:Fun:=runF Try.prog Z2P Z7i NN [0,1,2,3,5,6,7,8,9,10,11,12,16,20,25,29,34,39] Try.f44 3
theorem Zqx:CSound Try.prog 44 Z7j:=Z04 Zqt Zqr mixed Try.func44 (by kernel_rfl) NN
theorem Zqy {β:Type} (K:AV→Hp→Option β) (a0:AV) (a1:AV) (a2:AV) (h:Hp):(Z7j [a0,a1,a2] h).bind (fun p=>K p.1 p.2)=Z89 Try.prog Z2P Z7i NN K a0 a1 a2 h:=by
 rw [← ZjY];exact Z05 rfl
noncomputable def Z1T:Fun:=closedX [.a [none,none,some 10], .o, .o] [.a [none,none,some 10], .o, .o] Z7j
theorem ZfP:CSound Try.prog 44 Z1T:=Z0D _ _ Zqx
noncomputable def Za7:DFun:=closedXD [.a [none,none,some 10], .o, .o] [.a [none,none,some 10], .o, .o] Z7j
theorem Zqz:Ro Z1T Za7:=Z1X _ _ _
theorem ZqA {a0:AV} {a1:AV} {a2:AV} {v:AV} (ha:plains [a0,a1,a2]=true) (hv:Z89 Try.prog Z2P Z7i NN (fun v g=>cvt false g v) (nrm (.a [none,none,some 10]) a0) a1 a2 []=some v) (h:Hp):Z1T [a0,a1,a2] h=some ((nrmR [.a [none,none,some 10], .o, .o] v),h):=by
 have e:(Z7j (nrms [.a [none,none,some 10], .o, .o] [a0,a1,a2]) []).bind (fun (p:AV × Hp)=>cvt false p.2 p.1)=some v:=(Zqy (fun v g=>cvt false g v) (nrm (.a [none,none,some 10]) a0) a1 a2 []).trans hv
 exact (Z0E (shr:=[.a [none,none,some 10], .o, .o]) ha e h).trans (congrArg (fun x=>some (x,h)) rfl)
noncomputable def Za8:DTab:=D0
theorem ZqB:DSound Try.prog Za8:=DSound.zero
noncomputable def Za9:Tab:=T0
theorem ZqC:TSound Try.prog Za9:=TSound.zero
noncomputable def Z7k:Fun:=runF Try.prog Za9 Za8 NN [0,2] Try.f45 1
theorem ZqD:CSound Try.prog 45 Z7k:=Z04 ZqC ZqB mixed Try.func45 (by kernel_rfl) NN
theorem ZqE {β:Type} (K:AV→Hp→Option β) (a0:AV) (h:Hp):(Z7k [a0] h).bind (fun p=>K p.1 p.2)=Z8a Try.prog Za9 Za8 NN K a0 h:=by
 rw [← ZjZ];exact Z05 rfl
noncomputable def Z5H:Fun:=closedX [.o] [.o] Z7k
theorem ZfQ:CSound Try.prog 45 Z5H:=Z0D _ _ ZqD
noncomputable def Z7l:DFun:=closedXD [.o] [.o] Z7k
theorem ZqF:Ro Z5H Z7l:=Z1X _ _ _
theorem ZqG {a0:AV} {v:AV} (ha:plains [a0]=true) (hv:Z8a Try.prog Za9 Za8 NN (fun v g=>cvt false g v) a0 []=some v) (h:Hp):Z5H [a0] h=some (v,h):=by
 have e:(Z7k (nrms [.o] [a0]) []).bind (fun (p:AV × Hp)=>cvt false p.2 p.1)=some v:=(ZqE (fun v g=>cvt false g v) a0 []).trans hv
 exact (Z0E (shr:=[.o]) ha e h).trans (congrArg (fun x=>some (x,h)) (Z0J 1 v))
noncomputable def Z5I:DTab:=D0
theorem ZqH:DSound Try.prog Z5I:=DSound.zero
noncomputable def Z5J:Tab:=T0
theorem ZqI:TSound Try.prog Z5J:=TSound.zero
noncomputable def Zaa:Fun:=runF Try.prog Z5J Z5I NN [0,1,4,5,10,12,13,14,24] Try.f46 2
theorem ZqJ:CSound Try.prog 46 Zaa:=Z04 ZqI ZqH mixed Try.func46 (by kernel_rfl) NN
theorem ZqK {β:Type} (K:AV→Hp→Option β) (a0:AV) (a1:AV) (h:Hp):(Zaa [a0,a1] h).bind (fun p=>K p.1 p.2)=Z4U Try.prog Z5J Z5I NN K a0 a1 h:=by
 rw [← Zk4];exact Z05 rfl
noncomputable def Z5K:Fun:=closedX [.l 2, .l 2] [.o] Zaa
theorem ZqL:CSound Try.prog 46 Z5K:=Z0D _ _ ZqJ
theorem ZqM {a0:AV} {a1:AV} {v:AV} (ha:plains [a0,a1]=true) (hv:Z4U Try.prog Z5J Z5I NN (fun v g=>cvt false g v) (nrm (.l 2) a0) (nrm (.l 2) a1) []=some v) (h:Hp):Z5K [a0,a1] h=some (v,h):=by
 have e:(Zaa (nrms [.l 2, .l 2] [a0,a1]) []).bind (fun (p:AV × Hp)=>cvt false p.2 p.1)=some v:=(ZqK (fun v g=>cvt false g v) (nrm (.l 2) a0) (nrm (.l 2) a1) []).trans hv
 exact (Z0E (shr:=[.o]) ha e h).trans (congrArg (fun x=>some (x,h)) (Z0J 1 v))
noncomputable def Z5L:DTab:=(updD (updD D0 44 Za7) 45 Z7l)
theorem ZqN:DSound Try.prog Z5L:=(DSound.ro (DSound.ro DSound.zero Zqz ZfP) ZqF ZfQ)
@[simp] theorem ZqO:Z5L 44=some Za7:=rfl
@[simp] theorem ZqP:Z5L 45=some Z7l:=rfl
noncomputable def Z1n:Tab:=(updF (updF (updF (updF (updF (updF (updF (updF T0 11 Z56) 16 Z1k) 19 Z6Z) 30 Z1C) 43 Z5G) 44 Z1T) 45 Z5H) 46 Z5K)
theorem ZqQ:TSound Try.prog Z1n:=(TSound.upd (TSound.upd (TSound.upd (TSound.upd (TSound.upd (TSound.upd (TSound.upd (TSound.upd TSound.zero Zmm) Z9q) ZnW) ZfM) Zqq) ZfP) ZfQ) ZqL)
@[simp] theorem ZqR:Z1n 11=some Z56:=rfl
@[simp] theorem ZqS:Z1n 16=some Z1k:=rfl
@[simp] theorem ZqT:Z1n 19=some Z6Z:=rfl
@[simp] theorem ZqU:Z1n 30=some Z1C:=rfl
@[simp] theorem ZqV:Z1n 43=some Z5G:=rfl
@[simp] theorem Zum:Z1n 44=some Z1T:=rfl
@[simp] theorem Zun:Z1n 45=some Z5H:=rfl
@[simp] theorem ZqW:Z1n 46=some Z5K:=rfl
noncomputable def Zab:Fun:=runF Try.prog Z1n Z5L NN [0,1,2,4,6,7,8,9,10,11,12,13,14,44] Try.f9 0
theorem ZqX:CSound Try.prog 9 Zab:=Z04 ZqQ ZqN mixed Try.func9 (by kernel_rfl) NN
theorem ZqY {β:Type} (K:AV→Hp→Option β) (h:Hp):(Zab [] h).bind (fun p=>K p.1 p.2)=Z7V Try.prog Z1n Z5L NN K  h:=by
 rw [← ZjC];exact Z05 rfl
noncomputable def Z7m:Fun:=closedX [] [.o] Zab
theorem ZqZ:CSound Try.prog 9 Z7m:=Z0D _ _ ZqX
theorem Zr0 {v:AV} (ha:plains []=true) (hv:Z7V Try.prog Z1n Z5L NN (fun v g=>cvt false g v)  []=some v) (h:Hp):Z7m [] h=some (v,h):=by
 have e:(Zab (nrms [] []) []).bind (fun (p:AV × Hp)=>cvt false p.2 p.1)=some v:=(ZqY (fun v g=>cvt false g v)  []).trans hv
 exact (Z0E (shr:=[.o]) ha e h).trans (congrArg (fun x=>some (x,h)) (Z0J 1 v))
noncomputable def Z5M:DTab:=D0
theorem Zr1:DSound Try.prog Z5M:=DSound.zero
noncomputable def Z5N:Tab:=T0
theorem Zr2:TSound Try.prog Z5N:=TSound.zero
noncomputable def Z4C:Fun:=runF Try.prog Z5N Z5M NN [0,1,2] Try.f14 1
theorem Zr3:CSound Try.prog 14 Z4C:=Z04 Zr2 Zr1 mixed Try.func14 (by kernel_rfl) NN
theorem ZbU {β:Type} (K:AV→Hp→Option β) (a0:AV) (h:Hp):(Z4C [a0] h).bind (fun p=>K p.1 p.2)=Z4S Try.prog Z5N Z5M NN K a0 h:=by
 rw [← ZjF];exact Z05 rfl
theorem Zr4 (a0:AV) (h:Hp):Z4C [a0] h=Z4S Try.prog Z5N Z5M NN (fun v h=>some (v,h)) a0 h:=(Z0V _).symm.trans (ZbU (fun v h=>some (v,h)) a0 h)
noncomputable def Z5O:Fun:=closedX [.a [none,some 2,some 7]] [.a [none,some 2,some 7]] Z4C
theorem ZfR:CSound Try.prog 14 Z5O:=Z0D _ _ Zr3
noncomputable def ZbV:DFun:=closedXD [.a [none,some 2,some 7]] [.a [none,some 2,some 7]] Z4C
theorem Zr5:Ro Z5O ZbV:=Z1X _ _ _
theorem Zr6 {a0:AV} {v:AV} (ha:plains [a0]=true) (hv:Z4S Try.prog Z5N Z5M NN (fun v g=>cvt false g v) (nrm (.a [none,some 2,some 7]) a0) []=some v) (h:Hp):Z5O [a0] h=some ((nrmR [.a [none,some 2,some 7]] v),h):=by
 have e:(Z4C (nrms [.a [none,some 2,some 7]] [a0]) []).bind (fun (p:AV × Hp)=>cvt false p.2 p.1)=some v:=(ZbU (fun v g=>cvt false g v) (nrm (.a [none,some 2,some 7]) a0) []).trans hv
 exact (Z0E (shr:=[.a [none,some 2,some 7]]) ha e h).trans (congrArg (fun x=>some (x,h)) rfl)
noncomputable def Zac:DTab:=D0
theorem Zr7:DSound Try.prog Zac:=DSound.zero
noncomputable def Zad:Tab:=T0
theorem Zr8:TSound Try.prog Zad:=TSound.zero
noncomputable def Zae:Fun:=runF Try.prog Zad Zac NN [0,1,2] Try.f21 1
theorem Zr9:CSound Try.prog 21 Zae:=Z04 Zr8 Zr7 mixed Try.func21 (by kernel_rfl) NN
theorem Zra {β:Type} (K:AV→Hp→Option β) (a0:AV) (h:Hp):(Zae [a0] h).bind (fun p=>K p.1 p.2)=Z80 Try.prog Zad Zac NN K a0 h:=by
 rw [← ZjM];exact Z05 rfl
noncomputable def Z7n:Fun:=closedX [.a [none,some 2,some 7]] [.o] Zae
theorem Zrb:CSound Try.prog 21 Z7n:=Z0D _ _ Zr9
theorem Zrc {a0:AV} {v:AV} (ha:plains [a0]=true) (hv:Z80 Try.prog Zad Zac NN (fun v g=>cvt false g v) (nrm (.a [none,some 2,some 7]) a0) []=some v) (h:Hp):Z7n [a0] h=some (v,h):=by
 have e:(Zae (nrms [.a [none,some 2,some 7]] [a0]) []).bind (fun (p:AV × Hp)=>cvt false p.2 p.1)=some v:=(Zra (fun v g=>cvt false g v) (nrm (.a [none,some 2,some 7]) a0) []).trans hv
 exact (Z0E (shr:=[.o]) ha e h).trans (congrArg (fun x=>some (x,h)) (Z0J 1 v))
noncomputable def Zaf:DTab:=D0
theorem Zrd:DSound Try.prog Zaf:=DSound.zero
noncomputable def Zag:Tab:=T0
theorem Zre:TSound Try.prog Zag:=TSound.zero
noncomputable def Zah:Fun:=runF Try.prog Zag Zaf NN [0,1,2,3] Try.f27 2
theorem Zrf:CSound Try.prog 27 Zah:=Z04 Zre Zrd mixed Try.func27 (by kernel_rfl) NN
theorem Zrg {β:Type} (K:AV→Hp→Option β) (a0:AV) (a1:AV) (h:Hp):(Zah [a0,a1] h).bind (fun p=>K p.1 p.2)=Z85 Try.prog Zag Zaf NN K a0 a1 h:=by
 rw [← ZjR];exact Z05 rfl
noncomputable def Z4D:Fun:=quietT Zah
theorem ZfS:CSound Try.prog 27 Z4D:=Z1Y Zrf
theorem Zrh {a0:AV} {a1:AV} {h:Hp} {g:List AObj} {v:AV} (hv:Z85 Try.prog Zag Zaf NN (fun v h=>some (v,h)) a0 a1 h=some (v,h++g)) (hp:plain v=true):Z4D [a0,a1] h=some (v,h):=Z4g (F:=Zah) (((Z0V _).symm.trans (Zrg (fun v h=>some (v,h)) a0 a1 h)).trans hv) hp
noncomputable def Z7o:DTab:=D0
theorem Zri:DSound Try.prog Z7o:=DSound.zero
noncomputable def Z4E:Tab:=(updF T0 27 Z4D)
theorem Zrj:TSound Try.prog Z4E:=(TSound.upd TSound.zero ZfS)
@[simp] theorem Zrk:Z4E 27=some Z4D:=rfl
noncomputable def Zai:Fun:=runF Try.prog Z4E Z7o NN [0,1,4,5,7,8,9,16] Try.f63 2
theorem Zrl:CSound Try.prog 63 Zai:=Z04 Zrj Zri mixed Try.func63 (by kernel_rfl) NN
theorem Zrm {β:Type} (K:AV→Hp→Option β) (a0:AV) (a1:AV) (h:Hp):(Zai [a0,a1] h).bind (fun p=>K p.1 p.2)=Z4X Try.prog Z4E Z7o NN K a0 a1 h:=by
 rw [← ZkE];exact Z05 rfl
noncomputable def Z7p:Fun:=quietT Zai
theorem Zrn:CSound Try.prog 63 Z7p:=Z1Y Zrl
theorem Zro {a0:AV} {a1:AV} {h:Hp} {g:List AObj} {v:AV} (hv:Z4X Try.prog Z4E Z7o NN (fun v h=>some (v,h)) a0 a1 h=some (v,h++g)) (hp:plain v=true):Z7p [a0,a1] h=some (v,h):=Z4g (F:=Zai) (((Z0V _).symm.trans (Zrm (fun v h=>some (v,h)) a0 a1 h)).trans hv) hp
noncomputable def Zaj:DTab:=D0
theorem Zrp:DSound Try.prog Zaj:=DSound.zero
noncomputable def Z7q:Tab:=(updF T0 63 Z7p)
theorem Zrq:TSound Try.prog Z7q:=(TSound.upd TSound.zero Zrn)
@[simp] theorem Zrr:Z7q 63=some Z7p:=rfl
noncomputable def Zak:Fun:=runF Try.prog Z7q Zaj NN [0,1,4] Try.f26 2
theorem Zrs:CSound Try.prog 26 Zak:=Z04 Zrq Zrp mixed Try.func26 (by kernel_rfl) NN
theorem Zrt {β:Type} (K:AV→Hp→Option β) (a0:AV) (a1:AV) (h:Hp):(Zak [a0,a1] h).bind (fun p=>K p.1 p.2)=Z84 Try.prog Z7q Zaj NN K a0 a1 h:=by
 rw [← ZjQ];exact Z05 rfl
noncomputable def Z7r:Fun:=quietT Zak
theorem Zru:CSound Try.prog 26 Z7r:=Z1Y Zrs
theorem Zrv {a0:AV} {a1:AV} {h:Hp} {g:List AObj} {v:AV} (hv:Z84 Try.prog Z7q Zaj NN (fun v h=>some (v,h)) a0 a1 h=some (v,h++g)) (hp:plain v=true):Z7r [a0,a1] h=some (v,h):=Z4g (F:=Zak) (((Z0V _).symm.trans (Zrt (fun v h=>some (v,h)) a0 a1 h)).trans hv) hp
noncomputable def Zal:DTab:=D0
theorem Zrw:DSound Try.prog Zal:=DSound.zero
noncomputable def Zam:Tab:=T0
theorem Zrx:TSound Try.prog Zam:=TSound.zero
noncomputable def Z7s:Fun:=runF Try.prog Zam Zal NN [0,1,2] Try.f28 1
theorem Zry:CSound Try.prog 28 Z7s:=Z04 Zrx Zrw mixed Try.func28 (by kernel_rfl) NN
theorem Zrz {β:Type} (K:AV→Hp→Option β) (a0:AV) (h:Hp):(Z7s [a0] h).bind (fun p=>K p.1 p.2)=Z86 Try.prog Zam Zal NN K a0 h:=by
 rw [← ZjS];exact Z05 rfl
noncomputable def Z5P:Fun:=closedX [.a [none,none,some 10]] [.a [none,none,some 10]] Z7s
theorem ZfT:CSound Try.prog 28 Z5P:=Z0D _ _ Zry
noncomputable def ZbW:DFun:=closedXD [.a [none,none,some 10]] [.a [none,none,some 10]] Z7s
theorem ZrA:Ro Z5P ZbW:=Z1X _ _ _
theorem ZrB {a0:AV} {v:AV} (ha:plains [a0]=true) (hv:Z86 Try.prog Zam Zal NN (fun v g=>cvt false g v) (nrm (.a [none,none,some 10]) a0) []=some v) (h:Hp):Z5P [a0] h=some ((nrmR [.a [none,none,some 10]] v),h):=by
 have e:(Z7s (nrms [.a [none,none,some 10]] [a0]) []).bind (fun (p:AV × Hp)=>cvt false p.2 p.1)=some v:=(Zrz (fun v g=>cvt false g v) (nrm (.a [none,none,some 10]) a0) []).trans hv
 exact (Z0E (shr:=[.a [none,none,some 10]]) ha e h).trans (congrArg (fun x=>some (x,h)) rfl)
noncomputable def Zan:DTab:=D0
theorem ZrC:DSound Try.prog Zan:=DSound.zero
noncomputable def Zao:Tab:=T0
theorem ZrD:TSound Try.prog Zao:=TSound.zero
noncomputable def Z4F:Fun:=runF Try.prog Zao Zan NN [0,2,4] Try.f29 1
theorem ZrE:CSound Try.prog 29 Z4F:=Z04 ZrD ZrC mixed Try.func29 (by kernel_rfl) NN
theorem ZrF {β:Type} (K:AV→Hp→Option β) (a0:AV) (h:Hp):(Z4F [a0] h).bind (fun p=>K p.1 p.2)=Z6j Try.prog Zao Zan NN K a0 h:=by
 rw [← ZjT];exact Z05 rfl
theorem ZrG (a0:AV) (h:Hp):Z4F [a0] h=Z6j Try.prog Zao Zan NN (fun v h=>some (v,h)) a0 h:=(Z0V _).symm.trans (ZrF (fun v h=>some (v,h)) a0 h)
noncomputable def Z5Q:DTab:=D0
theorem ZrH:DSound Try.prog Z5Q:=DSound.zero
noncomputable def Z5R:Tab:=T0
theorem ZrI:TSound Try.prog Z5R:=TSound.zero
noncomputable def Zap:Fun:=runF Try.prog Z5R Z5Q NN [0,1,3,4,5,7,8,9,16] Try.f69 2
theorem ZrJ:CSound Try.prog 69 Zap:=Z04 ZrI ZrH mixed Try.func69 (by kernel_rfl) NN
theorem ZrK {β:Type} (K:AV→Hp→Option β) (a0:AV) (a1:AV) (h:Hp):(Zap [a0,a1] h).bind (fun p=>K p.1 p.2)=Z6u Try.prog Z5R Z5Q NN K a0 a1 h:=by
 rw [← ZkS];exact Z05 rfl
noncomputable def Z7t:Fun:=closedX [.l 10, .o] [.o] Zap
theorem ZrL:CSound Try.prog 69 Z7t:=Z0D _ _ ZrJ
theorem ZrM {a0:AV} {a1:AV} {v:AV} (ha:plains [a0,a1]=true) (hv:Z6u Try.prog Z5R Z5Q NN (fun v g=>cvt false g v) (nrm (.l 10) a0) a1 []=some v) (h:Hp):Z7t [a0,a1] h=some (v,h):=by
 have e:(Zap (nrms [.l 10, .o] [a0,a1]) []).bind (fun (p:AV × Hp)=>cvt false p.2 p.1)=some v:=(ZrK (fun v g=>cvt false g v) (nrm (.l 10) a0) a1 []).trans hv
 exact (Z0E (shr:=[.o]) ha e h).trans (congrArg (fun x=>some (x,h)) (Z0J 1 v))
noncomputable def Zaq:DTab:=D0
theorem ZrN:DSound Try.prog Zaq:=DSound.zero
noncomputable def Z7u:Tab:=(updF T0 69 Z7t)
theorem ZrO:TSound Try.prog Z7u:=(TSound.upd TSound.zero ZrL)
@[simp] theorem ZrP:Z7u 69=some Z7t:=rfl
noncomputable def Zar:Fun:=runF Try.prog Z7u Zaq NN [0,1,3,4] Try.f31 2
theorem ZrQ:CSound Try.prog 31 Zar:=Z04 ZrO ZrN mixed Try.func31 (by kernel_rfl) NN
theorem ZrR {β:Type} (K:AV→Hp→Option β) (a0:AV) (a1:AV) (h:Hp):(Zar [a0,a1] h).bind (fun p=>K p.1 p.2)=Z88 Try.prog Z7u Zaq NN K a0 a1 h:=by
 rw [← ZjW];exact Z05 rfl
noncomputable def Z5S:Fun:=closedX [.l 10, .o] [.o] Zar
theorem ZrS:CSound Try.prog 31 Z5S:=Z0D _ _ ZrQ
theorem ZrT {a0:AV} {a1:AV} {v:AV} (ha:plains [a0,a1]=true) (hv:Z88 Try.prog Z7u Zaq NN (fun v g=>cvt false g v) (nrm (.l 10) a0) a1 []=some v) (h:Hp):Z5S [a0,a1] h=some (v,h):=by
 have e:(Zar (nrms [.l 10, .o] [a0,a1]) []).bind (fun (p:AV × Hp)=>cvt false p.2 p.1)=some v:=(ZrR (fun v g=>cvt false g v) (nrm (.l 10) a0) a1 []).trans hv
 exact (Z0E (shr:=[.o]) ha e h).trans (congrArg (fun x=>some (x,h)) (Z0J 1 v))
noncomputable def Z0R:DTab:=(updD (updD D0 14 ZbV) 28 ZbW)
theorem ZrU:DSound Try.prog Z0R:=(DSound.ro (DSound.ro DSound.zero Zr5 ZfR) ZrA ZfT)
@[simp] theorem Zuo:Z0R 14=some ZbV:=rfl
@[simp] theorem Zup:Z0R 28=some ZbW:=rfl
noncomputable def Z0M:Tab:=(updF (updF (updF (updF (updF (updF (updF (updF (updF (updF T0 9 Z7m) 14 Z5O) 21 Z7n) 23 Z2M) 26 Z7r) 27 Z4D) 28 Z5P) 29 Z4F) 30 Z1C) 31 Z5S)
theorem ZrV:TSound Try.prog Z0M:=(TSound.upd (TSound.upd (TSound.upd (TSound.upd (TSound.upd (TSound.upd (TSound.upd (TSound.upd (TSound.upd (TSound.upd TSound.zero ZqZ) ZfR) Zrb) Zfo) Zru) ZfS) ZfT) ZrE) ZfM) ZrS)
@[simp] theorem ZfU:Z0M 9=some Z7m:=rfl
@[simp] theorem Zuq:Z0M 14=some Z5O:=rfl
@[simp] theorem ZfV:Z0M 21=some Z7n:=rfl
@[simp] theorem ZrW:Z0M 23=some Z2M:=rfl
@[simp] theorem ZrX:Z0M 26=some Z7r:=rfl
@[simp] theorem Zur:Z0M 27=some Z4D:=rfl
@[simp] theorem Zus:Z0M 28=some Z5P:=rfl
@[simp] theorem ZrY:Z0M 29=some Z4F:=rfl
@[simp] theorem ZfW:Z0M 30=some Z1C:=rfl
@[simp] theorem ZfX:Z0M 31=some Z5S:=rfl
noncomputable def Zas:Fun:=runF Try.prog Z0M Z0R NN [0,1,2,3,4,6,7,8,10,11,13,15,35,44,45,46,47,62,73,74,75,76,111] Try.f6 3
theorem ZrZ:CSound Try.prog 6 Zas:=Z04 ZrV ZrU mixed Try.func6 (by kernel_rfl) NN
theorem Zs0 {β:Type} (K:AV→Hp→Option β) (a0:AV) (a1:AV) (a2:AV) (h:Hp):(Zas [a0,a1,a2] h).bind (fun p=>K p.1 p.2)=Z4R Try.prog Z0M Z0R NN K a0 a1 a2 h:=by
 rw [← ZjB];exact Z05 rfl
noncomputable def ZbX:Fun:=closedX [.a [none,none,some 10], .a [none,some 2,some 7], .l 2] [.o] Zas
theorem F_law43_ReceiverLast_ok:CSound Try.prog 6 ZbX:=Z0D _ _ ZrZ
theorem Zs1 {a0:AV} {a1:AV} {a2:AV} {v:AV} (ha:plains [a0,a1,a2]=true) (hv:Z4R Try.prog Z0M Z0R NN (fun v g=>cvt false g v) (nrm (.a [none,none,some 10]) a0) (nrm (.a [none,some 2,some 7]) a1) (nrm (.l 2) a2) []=some v) (h:Hp):ZbX [a0,a1,a2] h=some (v,h):=by
 have e:(Zas (nrms [.a [none,none,some 10], .a [none,some 2,some 7], .l 2] [a0,a1,a2]) []).bind (fun (p:AV × Hp)=>cvt false p.2 p.1)=some v:=(Zs0 (fun v g=>cvt false g v) (nrm (.a [none,none,some 10]) a0) (nrm (.a [none,some 2,some 7]) a1) (nrm (.l 2) a2) []).trans hv
 exact (Z0E (shr:=[.o]) ha e h).trans (congrArg (fun x=>some (x,h)) (Z0J 1 v))
end Go.AM


namespace Go.AM
set_option linter.unusedVariables false
set_option linter.unusedSimpArgs false
set_option linter.constructorNameAsVariable false
set_option maxRecDepth 30000
variable {β:Type} {P:Program} {kt:TypeId} {kk:IntKind}
end Go.AM


namespace Go.AM
set_option linter.unusedVariables false
def idOf:AV→Option Nat
 | .sl _ id .. => some id
 | _=>none
@[simp] theorem Zut (sz id off len fr:Nat) (full:Bool):idOf (.sl sz id off len fr full)=some id:=rfl
@[simp] theorem Zuu:idOf nilS=none:=rfl
def Gro {α:Type} (sz:Nat) (f:α→List AV) (h:Hp) (v:AV) (l:List α):Prop:=(l=[]∧v=nilS)∨(l≠[]∧∃k,v = .sl sz k 0 l.length l.length false∧h[k]? = some (.arr sz (l.map f) true false))
section
variable {α β:Type} {sz:Nat} {f:α→List AV} {h h':Hp} {v:AV} {l:List α}
theorem Gro.nil:Gro sz f h nilS [] := .inl ⟨rfl,rfl⟩
theorem Gro.keep (O:Gro sz f h v l) (hk:∀k o,idOf v=some k→h[k]? = some o→h'[k]? = some o):Gro sz f h' v l:=by
 rcases O with O | ⟨h1,k,rfl,h2⟩
 ·exact .inl O
 ·exact .inr ⟨h1,k,rfl,hk k _ rfl h2⟩
theorem Gro.app (O:Gro sz f h v l) (x:List AObj):Gro sz f (h++x) v l:=O.keep fun k o _ hk=>Z08 hk
theorem Gro.lt (O:Gro sz f h v l) {k:Nat} (hk:idOf v=some k):k<h.length:=by
 rcases O with ⟨_,rfl⟩ | ⟨h1,j,rfl,h2⟩
 ·simp at hk
 ·simp at hk;subst hk;exact (List.getElem?_eq_some_iff.1 h2).1
theorem Gro.len (O:Gro sz f h v l) (k:K β):lenK v k=k (I l.length):=by
 rcases O with ⟨rfl,rfl⟩ | ⟨h1,j,rfl,h2⟩<;>simp
theorem Gro.cvts (O:Gro sz f h v l) (hf:∀x st,(f x).all (fun c=>bif st then isS c else plain c)=true):∃w,(∀st,Go.AM.cvt st h v=some w)∧nrm (.l sz) w = .lst sz l.isEmpty (l.map f):=by
 rcases O with ⟨rfl,rfl⟩ | ⟨h1,k,rfl,h2⟩
 ·exact ⟨nilS,fun st=>rfl,rfl⟩
 ·have he:l.isEmpty=false:=by simpa using h1
  refine ⟨.lst sz false (l.map f),fun st=>Z0Y h2 (by simp) (by simp) (Z0S fun x=>hf x st), ?_⟩
  rw [he];rfl
theorem Gro.snoc (β:Type) (O:Gro sz f h v l) {by_ m:Nat} {z:α} {b:Bool} (hm:h[m]? = some (.arr sz [f z] true false)) (hv:idOf v≠some m) (hf:∀x ∈ z::l,(f x).length=sz) (hl:(l.length+1) * by_≤140737488355328):
  ∃v' h',(∀k:AV→Hp→Option β,effK (appE sz by_ v (.sl sz m 0 1 1 b) h h.length) h k=k v' h')∧Gro sz f h' v' (l++[z])∧h.length≤h'.length∧(∀j o,h[j]? = some o→idOf v≠some j→h'[j]? = some o)∧(idOf v'=idOf v∨idOf v'=some h.length):=by
 have hz:(f z).length=sz:=hf z (by simp)
 rcases O with ⟨rfl,rfl⟩ | ⟨h1,k,rfl,h2⟩
 ·have hb:by_≤140737488355328:=by simpa using hl
  refine ⟨.sl sz h.length 0 1 1 false,h++[.arr sz [f z] true false],fun k => ?_, .inr ⟨by simp,h.length,rfl,by simp⟩,by simp,fun j o hj _=>Z08 hj, .inr rfl⟩
  simp [appE,readSl,hm,hz,hb,effK,ap]
 ·have hkl:=(List.getElem?_eq_some_iff.1 h2).1
  refine ⟨.sl sz k 0 (l++[z]).length (l++[z]).length false,h.set k (.arr sz ((l++[z]).map f) true false),fun k' => ?_, .inr ⟨by simp,k,rfl,by simp [hkl]⟩,by simp,fun j o hj hn => ?_, .inl rfl⟩
  ·simp [appE,readSl,hm,h2,hz,hl,effK,ap]
  ·have hkj:k≠j:=by rintro rfl;exact hn rfl
   rw [List.getElem?_set_ne hkj];exact hj
end
theorem Zs2 {shp shr:List Sh} {F:Fun} {h:Hp} {args as' asl:List AV} {v:AV} {h0:Hp} (ha:cvts false h args=some as') (hn:nrms shp as'=nrms shp asl) (hp:plains asl=true) (hF:closedX shp shr F asl h0=some (v,h0)) (hs:scal v=true):closedX shp shr F args h=some (v,h):=by
 unfold closedX at hF ⊢
 rw [Z4f hp] at hF
 rw [ha]
 dsimp only at hF ⊢
 rw [hn]
 split at hF<;>try (simp at hF;done)
 rename_i w g hR
 split at hF<;>try (simp at hF;done)
 rename_i w' hw
 simp only [Option.some.injEq,Prod.mk.injEq] at hF
 obtain ⟨rfl, -⟩:=hF
 rw [hp,Bool.not_true] at hw
 have hw2:∀st,cvt st g w=some w':=fun st=>by
  cases st with
  | false=>exact hw
  | true=>exact ZdK hw (ZiU hs)
 rw [hw2]
end Go.AM


namespace Go.AM
set_option linter.unusedVariables false
variable {α β:Type} {sz:Nat} {enc:α→List AV} {h:Hp}
structure Part (enc:α→List AV) (h:Hp) (p:AV × List α):Prop where
 read:readSl h p.1=some (p.2.map enc)
 len:lenK p.1 some=some (I p.2.length)
theorem Part.lenK {p:AV × List α} (q:Part enc h p) (k:K β):Go.AM.lenK p.1 k=k (I p.2.length):=by rw [Zck,q.len];rfl
theorem Part.app {p:AV × List α} (q:Part enc h p) (g:List AObj):Part enc (h++g) p:=⟨ZaS q.read fun id _ o ho=>Z08 ho,q.len⟩
theorem Part.nil:Part enc h (nilS,[]):=⟨rfl,rfl⟩
theorem Part.lst (sz:Nat) (b:Bool) (l:List α):Part enc h (.lst sz b (l.map enc),l):=⟨rfl,by simp⟩
theorem Part.sl {sz id n:Nat} {b nl:Bool} {l:List α} (hid:h[id]? = some (.arr sz (l.map enc) true nl)) (hn:l.length=n):Part enc h (.sl sz id 0 n n b,l):=by
 subst hn
 have ht:(l.map enc).take l.length=l.map enc:=List.take_of_length_le (by simp)
 exact ⟨by simp [readSl,hid,ht],by simp⟩
def flat (ps:List (AV × List α)):List α:=ps.flatMap (·.2)
end Go.AM
namespace Go.AM
def notBehind {α:Type} (bef:α→α→Bool):Option α→α→Bool
 | some q,p => !bef q p
 | none,_=>false
@[simp] theorem Zuv {α:Type} (bef:α→α→Bool) (q p:α):notBehind bef (some q) p = !bef q p:=rfl
@[simp] theorem Zuw {α:Type} (bef:α→α→Bool) (p:α):notBehind bef none p=false:=rfl
end Go.AM


namespace Go.AM
set_option linter.unusedVariables false
set_option linter.unusedSimpArgs false
section
variable {β:Type}
def Grm {α:Type} (sz:Nat) (f:α→List AV) (h:Hp) (v:AV) (l:List α):Prop:=∃k b,v = .sl sz k 0 l.length l.length b∧h[k]? = some (.arr sz (l.map f) true false)∧(b=true→l=[])
theorem Grm.keep {α:Type} {sz:Nat} {f:α→List AV} {h h':Hp} {v:AV} {l:List α} (O:Grm sz f h v l) (hk:∀k o,idOf v=some k→h[k]? = some o→h'[k]? = some o):Grm sz f h' v l:=by
 obtain ⟨k,b,rfl,h2,h3⟩:=O
 exact ⟨k,b,rfl,hk k _ rfl h2,h3⟩
theorem Grm.app {α:Type} {sz:Nat} {f:α→List AV} {h:Hp} {v:AV} {l:List α} (O:Grm sz f h v l) (x:List AObj):Grm sz f (h++x) v l:=O.keep fun k o _ hk=>Z08 hk
theorem Grm.lt {α:Type} {sz:Nat} {f:α→List AV} {h:Hp} {v:AV} {l:List α} (O:Grm sz f h v l):∃k,idOf v=some k∧k<h.length:=by
 obtain ⟨k,b,rfl,h2,h3⟩:=O
 exact ⟨k,rfl,(List.getElem?_eq_some_iff.1 h2).1⟩
theorem Grm.cvt {α:Type} {sz:Nat} {f:α→List AV} {h:Hp} {v:AV} {l:List α} (O:Grm sz f h v l) (hf:∀x st,(f x).all (fun c=>bif st then isS c else plain c)=true) (st:Bool):Go.AM.cvt st h v=some (.lst sz false (l.map f)):=by
 obtain ⟨k,b,rfl,h2,h3⟩:=O
 exact Z0Y h2 (by simp) (by simp) (Z0S fun x=>hf x st)
theorem Grm.len {α:Type} {sz:Nat} {f:α→List AV} {h:Hp} {v:AV} {l:List α} (O:Grm sz f h v l) (k:Go.AM.K β):lenK v k=k (I l.length):=by
 obtain ⟨j,b,rfl,h2,h3⟩:=O
 simp
end
end Go.AM


namespace Go.AM
structure Msg where
 mv:Int
 kind:Int
 num:Int
 day:Int
 frm:Int
 to:Int
 alc:Int
deriving DecidableEq
def encM (m:Msg):List AV:=[I m.mv,I m.kind,I m.num,I m.day,I m.frm,I m.to,I m.alc]
structure Docu where
 mv:Int
 stage:Int
 frm:Int
 to:Int
 sent:Int
 got:Int
 chg:Int
deriving DecidableEq
def encDo (d:Docu):List AV:=[I d.mv,I d.stage,I d.frm,I d.to,I d.sent,I d.got,I d.chg]
section
variable {β:Type}
theorem Z0H {r:R} {v:AV} {id:Nat} {o:AObj} {ft:List Nat} {h:Hp} (hr:r=some (v,⟨[(id,o)],[],ft⟩)) (k:AV→Hp→Option β):effK r h k=k v (h.set id o):=by subst hr;simp [effK,ap]
theorem Z0b {r:R} {v:AV} {id:Nat} {o:AObj} {ft:List Nat} {h:Hp} (hr:r=some (v,⟨[(id,o)],[],ft⟩)) (k:AV→Hp→Ent→Option β):effD r h k=k v (h.set id o) (ft,[id]):=by subst hr;simp [effD,ap,wrOf]
theorem Z2Q {a b c d e f g:AV} {t:Hp} {w n:Bool} (k:K β):ldK 1 false (.ptr 0 0 0 1) (.arr 7 [[a,b,c,d,e,f,g]] w n::t) k=k a:=rfl
theorem Z2R {a b c d e f g:AV} {x:Int} {t:Hp} {n:Bool} (k:AV→Hp→Option β):effK (stE 1 (.ptr 0 0 0 1) (.s (.int .i64 x)) (.arr 7 [[a,b,c,d,e,f,g]] true n::t)) (.arr 7 [[a,b,c,d,e,f,g]] true n::t) k=k .u (.arr 7 [[(.s (.int .i64 x)),b,c,d,e,f,g]] true n::t):=Z0H rfl k
theorem Z2S {a b c d e f g:AV} {x:Int} {t:Hp} {n:Bool} (k:AV→Hp→Ent→Option β):effD (stE 1 (.ptr 0 0 0 1) (.s (.int .i64 x)) (.arr 7 [[a,b,c,d,e,f,g]] true n::t)) (.arr 7 [[a,b,c,d,e,f,g]] true n::t) k=k .u (.arr 7 [[(.s (.int .i64 x)),b,c,d,e,f,g]] true n::t) ([0],[0]):=Z0b rfl k
theorem Z2T {a b c d e f g:AV} {t:Hp} {w n:Bool} (k:K β):ldK 1 false (.ptr 0 0 1 1) (.arr 7 [[a,b,c,d,e,f,g]] w n::t) k=k b:=rfl
theorem Z2U {a b c d e f g:AV} {x:Int} {t:Hp} {n:Bool} (k:AV→Hp→Option β):effK (stE 1 (.ptr 0 0 1 1) (.s (.int .i64 x)) (.arr 7 [[a,b,c,d,e,f,g]] true n::t)) (.arr 7 [[a,b,c,d,e,f,g]] true n::t) k=k .u (.arr 7 [[a,(.s (.int .i64 x)),c,d,e,f,g]] true n::t):=Z0H rfl k
theorem Z2V {a b c d e f g:AV} {x:Int} {t:Hp} {n:Bool} (k:AV→Hp→Ent→Option β):effD (stE 1 (.ptr 0 0 1 1) (.s (.int .i64 x)) (.arr 7 [[a,b,c,d,e,f,g]] true n::t)) (.arr 7 [[a,b,c,d,e,f,g]] true n::t) k=k .u (.arr 7 [[a,(.s (.int .i64 x)),c,d,e,f,g]] true n::t) ([0],[0]):=Z0b rfl k
theorem Z2W {a b c d e f g:AV} {t:Hp} {w n:Bool} (k:K β):ldK 1 false (.ptr 0 0 2 1) (.arr 7 [[a,b,c,d,e,f,g]] w n::t) k=k c:=rfl
theorem Z2X {a b c d e f g:AV} {x:Int} {t:Hp} {n:Bool} (k:AV→Hp→Option β):effK (stE 1 (.ptr 0 0 2 1) (.s (.int .i64 x)) (.arr 7 [[a,b,c,d,e,f,g]] true n::t)) (.arr 7 [[a,b,c,d,e,f,g]] true n::t) k=k .u (.arr 7 [[a,b,(.s (.int .i64 x)),d,e,f,g]] true n::t):=Z0H rfl k
theorem Z2Y {a b c d e f g:AV} {x:Int} {t:Hp} {n:Bool} (k:AV→Hp→Ent→Option β):effD (stE 1 (.ptr 0 0 2 1) (.s (.int .i64 x)) (.arr 7 [[a,b,c,d,e,f,g]] true n::t)) (.arr 7 [[a,b,c,d,e,f,g]] true n::t) k=k .u (.arr 7 [[a,b,(.s (.int .i64 x)),d,e,f,g]] true n::t) ([0],[0]):=Z0b rfl k
theorem Z2Z {a b c d e f g:AV} {t:Hp} {w n:Bool} (k:K β):ldK 1 false (.ptr 0 0 3 1) (.arr 7 [[a,b,c,d,e,f,g]] w n::t) k=k d:=rfl
theorem Z30 {a b c d e f g:AV} {x:Int} {t:Hp} {n:Bool} (k:AV→Hp→Option β):effK (stE 1 (.ptr 0 0 3 1) (.s (.int .i64 x)) (.arr 7 [[a,b,c,d,e,f,g]] true n::t)) (.arr 7 [[a,b,c,d,e,f,g]] true n::t) k=k .u (.arr 7 [[a,b,c,(.s (.int .i64 x)),e,f,g]] true n::t):=Z0H rfl k
theorem Z31 {a b c d e f g:AV} {x:Int} {t:Hp} {n:Bool} (k:AV→Hp→Ent→Option β):effD (stE 1 (.ptr 0 0 3 1) (.s (.int .i64 x)) (.arr 7 [[a,b,c,d,e,f,g]] true n::t)) (.arr 7 [[a,b,c,d,e,f,g]] true n::t) k=k .u (.arr 7 [[a,b,c,(.s (.int .i64 x)),e,f,g]] true n::t) ([0],[0]):=Z0b rfl k
theorem Z32 {a b c d e f g:AV} {t:Hp} {w n:Bool} (k:K β):ldK 1 false (.ptr 0 0 4 1) (.arr 7 [[a,b,c,d,e,f,g]] w n::t) k=k e:=rfl
theorem Z33 {a b c d e f g:AV} {x:Int} {t:Hp} {n:Bool} (k:AV→Hp→Option β):effK (stE 1 (.ptr 0 0 4 1) (.s (.int .i64 x)) (.arr 7 [[a,b,c,d,e,f,g]] true n::t)) (.arr 7 [[a,b,c,d,e,f,g]] true n::t) k=k .u (.arr 7 [[a,b,c,d,(.s (.int .i64 x)),f,g]] true n::t):=Z0H rfl k
theorem Z34 {a b c d e f g:AV} {x:Int} {t:Hp} {n:Bool} (k:AV→Hp→Ent→Option β):effD (stE 1 (.ptr 0 0 4 1) (.s (.int .i64 x)) (.arr 7 [[a,b,c,d,e,f,g]] true n::t)) (.arr 7 [[a,b,c,d,e,f,g]] true n::t) k=k .u (.arr 7 [[a,b,c,d,(.s (.int .i64 x)),f,g]] true n::t) ([0],[0]):=Z0b rfl k
theorem Z35 {a b c d e f g:AV} {t:Hp} {w n:Bool} (k:K β):ldK 1 false (.ptr 0 0 5 1) (.arr 7 [[a,b,c,d,e,f,g]] w n::t) k=k f:=rfl
theorem Z36 {a b c d e f g:AV} {x:Int} {t:Hp} {n:Bool} (k:AV→Hp→Option β):effK (stE 1 (.ptr 0 0 5 1) (.s (.int .i64 x)) (.arr 7 [[a,b,c,d,e,f,g]] true n::t)) (.arr 7 [[a,b,c,d,e,f,g]] true n::t) k=k .u (.arr 7 [[a,b,c,d,e,(.s (.int .i64 x)),g]] true n::t):=Z0H rfl k
theorem Z37 {a b c d e f g:AV} {x:Int} {t:Hp} {n:Bool} (k:AV→Hp→Ent→Option β):effD (stE 1 (.ptr 0 0 5 1) (.s (.int .i64 x)) (.arr 7 [[a,b,c,d,e,f,g]] true n::t)) (.arr 7 [[a,b,c,d,e,f,g]] true n::t) k=k .u (.arr 7 [[a,b,c,d,e,(.s (.int .i64 x)),g]] true n::t) ([0],[0]):=Z0b rfl k
theorem Z38 {a b c d e f g:AV} {t:Hp} {w n:Bool} (k:K β):ldK 1 false (.ptr 0 0 6 1) (.arr 7 [[a,b,c,d,e,f,g]] w n::t) k=k g:=rfl
theorem Z39 {a b c d e f g:AV} {x:Int} {t:Hp} {n:Bool} (k:AV→Hp→Option β):effK (stE 1 (.ptr 0 0 6 1) (.s (.int .i64 x)) (.arr 7 [[a,b,c,d,e,f,g]] true n::t)) (.arr 7 [[a,b,c,d,e,f,g]] true n::t) k=k .u (.arr 7 [[a,b,c,d,e,f,(.s (.int .i64 x))]] true n::t):=Z0H rfl k
theorem Z3a {a b c d e f g:AV} {x:Int} {t:Hp} {n:Bool} (k:AV→Hp→Ent→Option β):effD (stE 1 (.ptr 0 0 6 1) (.s (.int .i64 x)) (.arr 7 [[a,b,c,d,e,f,g]] true n::t)) (.arr 7 [[a,b,c,d,e,f,g]] true n::t) k=k .u (.arr 7 [[a,b,c,d,e,f,(.s (.int .i64 x))]] true n::t) ([0],[0]):=Z0b rfl k
theorem lw7_0 {a b c d e f g:AV} {t:Hp} {w n:Bool} (k:K β):ldK 7 true (.ptr 0 0 0 1) (.arr 7 [[a,b,c,d,e,f,g]] w n::t) k=k (.agg [a,b,c,d,e,f,g]):=rfl
theorem ew7_0 {a b c d e f g:AV} {x0 x1 x2 x3 x4 x5 x6:Int} {t:Hp} {n:Bool} (k:AV→Hp→Option β):effK (stE 7 (.ptr 0 0 0 1) (.agg [(.s (.int .i64 x0)),(.s (.int .i64 x1)),(.s (.int .i64 x2)),(.s (.int .i64 x3)),(.s (.int .i64 x4)),(.s (.int .i64 x5)),(.s (.int .i64 x6))]) (.arr 7 [[a,b,c,d,e,f,g]] true n::t)) (.arr 7 [[a,b,c,d,e,f,g]] true n::t) k=k .u (.arr 7 [[(.s (.int .i64 x0)),(.s (.int .i64 x1)),(.s (.int .i64 x2)),(.s (.int .i64 x3)),(.s (.int .i64 x4)),(.s (.int .i64 x5)),(.s (.int .i64 x6))]] true n::t):=Z0H rfl k
theorem bx7_0 {x0 x1 x2 x3 x4 x5 x6:Int} (k:AV→Hp→Option β):effK (boxE 7 (.agg [(.s (.int .i64 x0)),(.s (.int .i64 x1)),(.s (.int .i64 x2)),(.s (.int .i64 x3)),(.s (.int .i64 x4)),(.s (.int .i64 x5)),(.s (.int .i64 x6))]) ([]:Hp).length) [] k=k (.ptr 0 0 0 1) [.arr 7 [[(.s (.int .i64 x0)),(.s (.int .i64 x1)),(.s (.int .i64 x2)),(.s (.int .i64 x3)),(.s (.int .i64 x4)),(.s (.int .i64 x5)),(.s (.int .i64 x6))]] true false]:=rfl
theorem Z3b {o0:AObj} {a b c d e f g:AV} {t:Hp} {w n:Bool} (k:K β):ldK 1 false (.ptr 1 0 0 1) (o0 :: .arr 7 [[a,b,c,d,e,f,g]] w n::t) k=k a:=rfl
theorem Z3c {o0:AObj} {a b c d e f g:AV} {x:Int} {t:Hp} {n:Bool} (k:AV→Hp→Option β):effK (stE 1 (.ptr 1 0 0 1) (.s (.int .i64 x)) (o0 :: .arr 7 [[a,b,c,d,e,f,g]] true n::t)) (o0 :: .arr 7 [[a,b,c,d,e,f,g]] true n::t) k=k .u (o0 :: .arr 7 [[(.s (.int .i64 x)),b,c,d,e,f,g]] true n::t):=Z0H rfl k
theorem Z3d {o0:AObj} {a b c d e f g:AV} {x:Int} {t:Hp} {n:Bool} (k:AV→Hp→Ent→Option β):effD (stE 1 (.ptr 1 0 0 1) (.s (.int .i64 x)) (o0 :: .arr 7 [[a,b,c,d,e,f,g]] true n::t)) (o0 :: .arr 7 [[a,b,c,d,e,f,g]] true n::t) k=k .u (o0 :: .arr 7 [[(.s (.int .i64 x)),b,c,d,e,f,g]] true n::t) ([1],[1]):=Z0b rfl k
theorem Z3e {o0:AObj} {a b c d e f g:AV} {t:Hp} {w n:Bool} (k:K β):ldK 1 false (.ptr 1 0 1 1) (o0 :: .arr 7 [[a,b,c,d,e,f,g]] w n::t) k=k b:=rfl
theorem Z3f {o0:AObj} {a b c d e f g:AV} {x:Int} {t:Hp} {n:Bool} (k:AV→Hp→Option β):effK (stE 1 (.ptr 1 0 1 1) (.s (.int .i64 x)) (o0 :: .arr 7 [[a,b,c,d,e,f,g]] true n::t)) (o0 :: .arr 7 [[a,b,c,d,e,f,g]] true n::t) k=k .u (o0 :: .arr 7 [[a,(.s (.int .i64 x)),c,d,e,f,g]] true n::t):=Z0H rfl k
theorem Z3g {o0:AObj} {a b c d e f g:AV} {x:Int} {t:Hp} {n:Bool} (k:AV→Hp→Ent→Option β):effD (stE 1 (.ptr 1 0 1 1) (.s (.int .i64 x)) (o0 :: .arr 7 [[a,b,c,d,e,f,g]] true n::t)) (o0 :: .arr 7 [[a,b,c,d,e,f,g]] true n::t) k=k .u (o0 :: .arr 7 [[a,(.s (.int .i64 x)),c,d,e,f,g]] true n::t) ([1],[1]):=Z0b rfl k
theorem Z3h {o0:AObj} {a b c d e f g:AV} {t:Hp} {w n:Bool} (k:K β):ldK 1 false (.ptr 1 0 2 1) (o0 :: .arr 7 [[a,b,c,d,e,f,g]] w n::t) k=k c:=rfl
theorem Z3i {o0:AObj} {a b c d e f g:AV} {x:Int} {t:Hp} {n:Bool} (k:AV→Hp→Option β):effK (stE 1 (.ptr 1 0 2 1) (.s (.int .i64 x)) (o0 :: .arr 7 [[a,b,c,d,e,f,g]] true n::t)) (o0 :: .arr 7 [[a,b,c,d,e,f,g]] true n::t) k=k .u (o0 :: .arr 7 [[a,b,(.s (.int .i64 x)),d,e,f,g]] true n::t):=Z0H rfl k
theorem Z3j {o0:AObj} {a b c d e f g:AV} {x:Int} {t:Hp} {n:Bool} (k:AV→Hp→Ent→Option β):effD (stE 1 (.ptr 1 0 2 1) (.s (.int .i64 x)) (o0 :: .arr 7 [[a,b,c,d,e,f,g]] true n::t)) (o0 :: .arr 7 [[a,b,c,d,e,f,g]] true n::t) k=k .u (o0 :: .arr 7 [[a,b,(.s (.int .i64 x)),d,e,f,g]] true n::t) ([1],[1]):=Z0b rfl k
theorem Z3k {o0:AObj} {a b c d e f g:AV} {t:Hp} {w n:Bool} (k:K β):ldK 1 false (.ptr 1 0 3 1) (o0 :: .arr 7 [[a,b,c,d,e,f,g]] w n::t) k=k d:=rfl
theorem Z3l {o0:AObj} {a b c d e f g:AV} {x:Int} {t:Hp} {n:Bool} (k:AV→Hp→Option β):effK (stE 1 (.ptr 1 0 3 1) (.s (.int .i64 x)) (o0 :: .arr 7 [[a,b,c,d,e,f,g]] true n::t)) (o0 :: .arr 7 [[a,b,c,d,e,f,g]] true n::t) k=k .u (o0 :: .arr 7 [[a,b,c,(.s (.int .i64 x)),e,f,g]] true n::t):=Z0H rfl k
theorem Z3m {o0:AObj} {a b c d e f g:AV} {x:Int} {t:Hp} {n:Bool} (k:AV→Hp→Ent→Option β):effD (stE 1 (.ptr 1 0 3 1) (.s (.int .i64 x)) (o0 :: .arr 7 [[a,b,c,d,e,f,g]] true n::t)) (o0 :: .arr 7 [[a,b,c,d,e,f,g]] true n::t) k=k .u (o0 :: .arr 7 [[a,b,c,(.s (.int .i64 x)),e,f,g]] true n::t) ([1],[1]):=Z0b rfl k
theorem Z3n {o0:AObj} {a b c d e f g:AV} {t:Hp} {w n:Bool} (k:K β):ldK 1 false (.ptr 1 0 4 1) (o0 :: .arr 7 [[a,b,c,d,e,f,g]] w n::t) k=k e:=rfl
theorem Z3o {o0:AObj} {a b c d e f g:AV} {x:Int} {t:Hp} {n:Bool} (k:AV→Hp→Option β):effK (stE 1 (.ptr 1 0 4 1) (.s (.int .i64 x)) (o0 :: .arr 7 [[a,b,c,d,e,f,g]] true n::t)) (o0 :: .arr 7 [[a,b,c,d,e,f,g]] true n::t) k=k .u (o0 :: .arr 7 [[a,b,c,d,(.s (.int .i64 x)),f,g]] true n::t):=Z0H rfl k
theorem Z3p {o0:AObj} {a b c d e f g:AV} {x:Int} {t:Hp} {n:Bool} (k:AV→Hp→Ent→Option β):effD (stE 1 (.ptr 1 0 4 1) (.s (.int .i64 x)) (o0 :: .arr 7 [[a,b,c,d,e,f,g]] true n::t)) (o0 :: .arr 7 [[a,b,c,d,e,f,g]] true n::t) k=k .u (o0 :: .arr 7 [[a,b,c,d,(.s (.int .i64 x)),f,g]] true n::t) ([1],[1]):=Z0b rfl k
theorem Z3q {o0:AObj} {a b c d e f g:AV} {t:Hp} {w n:Bool} (k:K β):ldK 1 false (.ptr 1 0 5 1) (o0 :: .arr 7 [[a,b,c,d,e,f,g]] w n::t) k=k f:=rfl
theorem Z3r {o0:AObj} {a b c d e f g:AV} {x:Int} {t:Hp} {n:Bool} (k:AV→Hp→Option β):effK (stE 1 (.ptr 1 0 5 1) (.s (.int .i64 x)) (o0 :: .arr 7 [[a,b,c,d,e,f,g]] true n::t)) (o0 :: .arr 7 [[a,b,c,d,e,f,g]] true n::t) k=k .u (o0 :: .arr 7 [[a,b,c,d,e,(.s (.int .i64 x)),g]] true n::t):=Z0H rfl k
theorem Z3s {o0:AObj} {a b c d e f g:AV} {x:Int} {t:Hp} {n:Bool} (k:AV→Hp→Ent→Option β):effD (stE 1 (.ptr 1 0 5 1) (.s (.int .i64 x)) (o0 :: .arr 7 [[a,b,c,d,e,f,g]] true n::t)) (o0 :: .arr 7 [[a,b,c,d,e,f,g]] true n::t) k=k .u (o0 :: .arr 7 [[a,b,c,d,e,(.s (.int .i64 x)),g]] true n::t) ([1],[1]):=Z0b rfl k
theorem Z3t {o0:AObj} {a b c d e f g:AV} {t:Hp} {w n:Bool} (k:K β):ldK 1 false (.ptr 1 0 6 1) (o0 :: .arr 7 [[a,b,c,d,e,f,g]] w n::t) k=k g:=rfl
theorem Z3u {o0:AObj} {a b c d e f g:AV} {x:Int} {t:Hp} {n:Bool} (k:AV→Hp→Option β):effK (stE 1 (.ptr 1 0 6 1) (.s (.int .i64 x)) (o0 :: .arr 7 [[a,b,c,d,e,f,g]] true n::t)) (o0 :: .arr 7 [[a,b,c,d,e,f,g]] true n::t) k=k .u (o0 :: .arr 7 [[a,b,c,d,e,f,(.s (.int .i64 x))]] true n::t):=Z0H rfl k
theorem Z3v {o0:AObj} {a b c d e f g:AV} {x:Int} {t:Hp} {n:Bool} (k:AV→Hp→Ent→Option β):effD (stE 1 (.ptr 1 0 6 1) (.s (.int .i64 x)) (o0 :: .arr 7 [[a,b,c,d,e,f,g]] true n::t)) (o0 :: .arr 7 [[a,b,c,d,e,f,g]] true n::t) k=k .u (o0 :: .arr 7 [[a,b,c,d,e,f,(.s (.int .i64 x))]] true n::t) ([1],[1]):=Z0b rfl k
theorem lw7_1 {o0:AObj} {a b c d e f g:AV} {t:Hp} {w n:Bool} (k:K β):ldK 7 true (.ptr 1 0 0 1) (o0 :: .arr 7 [[a,b,c,d,e,f,g]] w n::t) k=k (.agg [a,b,c,d,e,f,g]):=rfl
theorem ew7_1 {o0:AObj} {a b c d e f g:AV} {x0 x1 x2 x3 x4 x5 x6:Int} {t:Hp} {n:Bool} (k:AV→Hp→Option β):effK (stE 7 (.ptr 1 0 0 1) (.agg [(.s (.int .i64 x0)),(.s (.int .i64 x1)),(.s (.int .i64 x2)),(.s (.int .i64 x3)),(.s (.int .i64 x4)),(.s (.int .i64 x5)),(.s (.int .i64 x6))]) (o0 :: .arr 7 [[a,b,c,d,e,f,g]] true n::t)) (o0 :: .arr 7 [[a,b,c,d,e,f,g]] true n::t) k=k .u (o0 :: .arr 7 [[(.s (.int .i64 x0)),(.s (.int .i64 x1)),(.s (.int .i64 x2)),(.s (.int .i64 x3)),(.s (.int .i64 x4)),(.s (.int .i64 x5)),(.s (.int .i64 x6))]] true n::t):=Z0H rfl k
theorem bx7_1 {o0:AObj} {x0 x1 x2 x3 x4 x5 x6:Int} (k:AV→Hp→Option β):effK (boxE 7 (.agg [(.s (.int .i64 x0)),(.s (.int .i64 x1)),(.s (.int .i64 x2)),(.s (.int .i64 x3)),(.s (.int .i64 x4)),(.s (.int .i64 x5)),(.s (.int .i64 x6))]) ([o0]:Hp).length) [o0] k=k (.ptr 1 0 0 1) [o0, .arr 7 [[(.s (.int .i64 x0)),(.s (.int .i64 x1)),(.s (.int .i64 x2)),(.s (.int .i64 x3)),(.s (.int .i64 x4)),(.s (.int .i64 x5)),(.s (.int .i64 x6))]] true false]:=rfl
theorem Z3w {o0:AObj} {o1:AObj} {a b c d e f g:AV} {t:Hp} {w n:Bool} (k:K β):ldK 1 false (.ptr 2 0 0 1) (o0::o1 :: .arr 7 [[a,b,c,d,e,f,g]] w n::t) k=k a:=rfl
theorem Z3x {o0:AObj} {o1:AObj} {a b c d e f g:AV} {x:Int} {t:Hp} {n:Bool} (k:AV→Hp→Option β):effK (stE 1 (.ptr 2 0 0 1) (.s (.int .i64 x)) (o0::o1 :: .arr 7 [[a,b,c,d,e,f,g]] true n::t)) (o0::o1 :: .arr 7 [[a,b,c,d,e,f,g]] true n::t) k=k .u (o0::o1 :: .arr 7 [[(.s (.int .i64 x)),b,c,d,e,f,g]] true n::t):=Z0H rfl k
theorem Z3y {o0:AObj} {o1:AObj} {a b c d e f g:AV} {x:Int} {t:Hp} {n:Bool} (k:AV→Hp→Ent→Option β):effD (stE 1 (.ptr 2 0 0 1) (.s (.int .i64 x)) (o0::o1 :: .arr 7 [[a,b,c,d,e,f,g]] true n::t)) (o0::o1 :: .arr 7 [[a,b,c,d,e,f,g]] true n::t) k=k .u (o0::o1 :: .arr 7 [[(.s (.int .i64 x)),b,c,d,e,f,g]] true n::t) ([2],[2]):=Z0b rfl k
theorem Z3z {o0:AObj} {o1:AObj} {a b c d e f g:AV} {t:Hp} {w n:Bool} (k:K β):ldK 1 false (.ptr 2 0 1 1) (o0::o1 :: .arr 7 [[a,b,c,d,e,f,g]] w n::t) k=k b:=rfl
theorem Z3A {o0:AObj} {o1:AObj} {a b c d e f g:AV} {x:Int} {t:Hp} {n:Bool} (k:AV→Hp→Option β):effK (stE 1 (.ptr 2 0 1 1) (.s (.int .i64 x)) (o0::o1 :: .arr 7 [[a,b,c,d,e,f,g]] true n::t)) (o0::o1 :: .arr 7 [[a,b,c,d,e,f,g]] true n::t) k=k .u (o0::o1 :: .arr 7 [[a,(.s (.int .i64 x)),c,d,e,f,g]] true n::t):=Z0H rfl k
theorem Z3B {o0:AObj} {o1:AObj} {a b c d e f g:AV} {x:Int} {t:Hp} {n:Bool} (k:AV→Hp→Ent→Option β):effD (stE 1 (.ptr 2 0 1 1) (.s (.int .i64 x)) (o0::o1 :: .arr 7 [[a,b,c,d,e,f,g]] true n::t)) (o0::o1 :: .arr 7 [[a,b,c,d,e,f,g]] true n::t) k=k .u (o0::o1 :: .arr 7 [[a,(.s (.int .i64 x)),c,d,e,f,g]] true n::t) ([2],[2]):=Z0b rfl k
theorem Z3C {o0:AObj} {o1:AObj} {a b c d e f g:AV} {t:Hp} {w n:Bool} (k:K β):ldK 1 false (.ptr 2 0 2 1) (o0::o1 :: .arr 7 [[a,b,c,d,e,f,g]] w n::t) k=k c:=rfl
theorem Z3D {o0:AObj} {o1:AObj} {a b c d e f g:AV} {x:Int} {t:Hp} {n:Bool} (k:AV→Hp→Option β):effK (stE 1 (.ptr 2 0 2 1) (.s (.int .i64 x)) (o0::o1 :: .arr 7 [[a,b,c,d,e,f,g]] true n::t)) (o0::o1 :: .arr 7 [[a,b,c,d,e,f,g]] true n::t) k=k .u (o0::o1 :: .arr 7 [[a,b,(.s (.int .i64 x)),d,e,f,g]] true n::t):=Z0H rfl k
theorem Z3E {o0:AObj} {o1:AObj} {a b c d e f g:AV} {x:Int} {t:Hp} {n:Bool} (k:AV→Hp→Ent→Option β):effD (stE 1 (.ptr 2 0 2 1) (.s (.int .i64 x)) (o0::o1 :: .arr 7 [[a,b,c,d,e,f,g]] true n::t)) (o0::o1 :: .arr 7 [[a,b,c,d,e,f,g]] true n::t) k=k .u (o0::o1 :: .arr 7 [[a,b,(.s (.int .i64 x)),d,e,f,g]] true n::t) ([2],[2]):=Z0b rfl k
theorem Z3F {o0:AObj} {o1:AObj} {a b c d e f g:AV} {t:Hp} {w n:Bool} (k:K β):ldK 1 false (.ptr 2 0 3 1) (o0::o1 :: .arr 7 [[a,b,c,d,e,f,g]] w n::t) k=k d:=rfl
theorem Z3G {o0:AObj} {o1:AObj} {a b c d e f g:AV} {x:Int} {t:Hp} {n:Bool} (k:AV→Hp→Option β):effK (stE 1 (.ptr 2 0 3 1) (.s (.int .i64 x)) (o0::o1 :: .arr 7 [[a,b,c,d,e,f,g]] true n::t)) (o0::o1 :: .arr 7 [[a,b,c,d,e,f,g]] true n::t) k=k .u (o0::o1 :: .arr 7 [[a,b,c,(.s (.int .i64 x)),e,f,g]] true n::t):=Z0H rfl k
theorem Z3H {o0:AObj} {o1:AObj} {a b c d e f g:AV} {x:Int} {t:Hp} {n:Bool} (k:AV→Hp→Ent→Option β):effD (stE 1 (.ptr 2 0 3 1) (.s (.int .i64 x)) (o0::o1 :: .arr 7 [[a,b,c,d,e,f,g]] true n::t)) (o0::o1 :: .arr 7 [[a,b,c,d,e,f,g]] true n::t) k=k .u (o0::o1 :: .arr 7 [[a,b,c,(.s (.int .i64 x)),e,f,g]] true n::t) ([2],[2]):=Z0b rfl k
theorem Z3I {o0:AObj} {o1:AObj} {a b c d e f g:AV} {t:Hp} {w n:Bool} (k:K β):ldK 1 false (.ptr 2 0 4 1) (o0::o1 :: .arr 7 [[a,b,c,d,e,f,g]] w n::t) k=k e:=rfl
theorem Z3J {o0:AObj} {o1:AObj} {a b c d e f g:AV} {x:Int} {t:Hp} {n:Bool} (k:AV→Hp→Option β):effK (stE 1 (.ptr 2 0 4 1) (.s (.int .i64 x)) (o0::o1 :: .arr 7 [[a,b,c,d,e,f,g]] true n::t)) (o0::o1 :: .arr 7 [[a,b,c,d,e,f,g]] true n::t) k=k .u (o0::o1 :: .arr 7 [[a,b,c,d,(.s (.int .i64 x)),f,g]] true n::t):=Z0H rfl k
theorem Z3K {o0:AObj} {o1:AObj} {a b c d e f g:AV} {x:Int} {t:Hp} {n:Bool} (k:AV→Hp→Ent→Option β):effD (stE 1 (.ptr 2 0 4 1) (.s (.int .i64 x)) (o0::o1 :: .arr 7 [[a,b,c,d,e,f,g]] true n::t)) (o0::o1 :: .arr 7 [[a,b,c,d,e,f,g]] true n::t) k=k .u (o0::o1 :: .arr 7 [[a,b,c,d,(.s (.int .i64 x)),f,g]] true n::t) ([2],[2]):=Z0b rfl k
theorem Z3L {o0:AObj} {o1:AObj} {a b c d e f g:AV} {t:Hp} {w n:Bool} (k:K β):ldK 1 false (.ptr 2 0 5 1) (o0::o1 :: .arr 7 [[a,b,c,d,e,f,g]] w n::t) k=k f:=rfl
theorem Z3M {o0:AObj} {o1:AObj} {a b c d e f g:AV} {x:Int} {t:Hp} {n:Bool} (k:AV→Hp→Option β):effK (stE 1 (.ptr 2 0 5 1) (.s (.int .i64 x)) (o0::o1 :: .arr 7 [[a,b,c,d,e,f,g]] true n::t)) (o0::o1 :: .arr 7 [[a,b,c,d,e,f,g]] true n::t) k=k .u (o0::o1 :: .arr 7 [[a,b,c,d,e,(.s (.int .i64 x)),g]] true n::t):=Z0H rfl k
theorem Z3N {o0:AObj} {o1:AObj} {a b c d e f g:AV} {x:Int} {t:Hp} {n:Bool} (k:AV→Hp→Ent→Option β):effD (stE 1 (.ptr 2 0 5 1) (.s (.int .i64 x)) (o0::o1 :: .arr 7 [[a,b,c,d,e,f,g]] true n::t)) (o0::o1 :: .arr 7 [[a,b,c,d,e,f,g]] true n::t) k=k .u (o0::o1 :: .arr 7 [[a,b,c,d,e,(.s (.int .i64 x)),g]] true n::t) ([2],[2]):=Z0b rfl k
theorem Z3O {o0:AObj} {o1:AObj} {a b c d e f g:AV} {t:Hp} {w n:Bool} (k:K β):ldK 1 false (.ptr 2 0 6 1) (o0::o1 :: .arr 7 [[a,b,c,d,e,f,g]] w n::t) k=k g:=rfl
theorem Z3P {o0:AObj} {o1:AObj} {a b c d e f g:AV} {x:Int} {t:Hp} {n:Bool} (k:AV→Hp→Option β):effK (stE 1 (.ptr 2 0 6 1) (.s (.int .i64 x)) (o0::o1 :: .arr 7 [[a,b,c,d,e,f,g]] true n::t)) (o0::o1 :: .arr 7 [[a,b,c,d,e,f,g]] true n::t) k=k .u (o0::o1 :: .arr 7 [[a,b,c,d,e,f,(.s (.int .i64 x))]] true n::t):=Z0H rfl k
theorem Z3Q {o0:AObj} {o1:AObj} {a b c d e f g:AV} {x:Int} {t:Hp} {n:Bool} (k:AV→Hp→Ent→Option β):effD (stE 1 (.ptr 2 0 6 1) (.s (.int .i64 x)) (o0::o1 :: .arr 7 [[a,b,c,d,e,f,g]] true n::t)) (o0::o1 :: .arr 7 [[a,b,c,d,e,f,g]] true n::t) k=k .u (o0::o1 :: .arr 7 [[a,b,c,d,e,f,(.s (.int .i64 x))]] true n::t) ([2],[2]):=Z0b rfl k
theorem lw7_2 {o0:AObj} {o1:AObj} {a b c d e f g:AV} {t:Hp} {w n:Bool} (k:K β):ldK 7 true (.ptr 2 0 0 1) (o0::o1 :: .arr 7 [[a,b,c,d,e,f,g]] w n::t) k=k (.agg [a,b,c,d,e,f,g]):=rfl
theorem ew7_2 {o0:AObj} {o1:AObj} {a b c d e f g:AV} {x0 x1 x2 x3 x4 x5 x6:Int} {t:Hp} {n:Bool} (k:AV→Hp→Option β):effK (stE 7 (.ptr 2 0 0 1) (.agg [(.s (.int .i64 x0)),(.s (.int .i64 x1)),(.s (.int .i64 x2)),(.s (.int .i64 x3)),(.s (.int .i64 x4)),(.s (.int .i64 x5)),(.s (.int .i64 x6))]) (o0::o1 :: .arr 7 [[a,b,c,d,e,f,g]] true n::t)) (o0::o1 :: .arr 7 [[a,b,c,d,e,f,g]] true n::t) k=k .u (o0::o1 :: .arr 7 [[(.s (.int .i64 x0)),(.s (.int .i64 x1)),(.s (.int .i64 x2)),(.s (.int .i64 x3)),(.s (.int .i64 x4)),(.s (.int .i64 x5)),(.s (.int .i64 x6))]] true n::t):=Z0H rfl k
theorem bx7_2 {o0:AObj} {o1:AObj} {x0 x1 x2 x3 x4 x5 x6:Int} (k:AV→Hp→Option β):effK (boxE 7 (.agg [(.s (.int .i64 x0)),(.s (.int .i64 x1)),(.s (.int .i64 x2)),(.s (.int .i64 x3)),(.s (.int .i64 x4)),(.s (.int .i64 x5)),(.s (.int .i64 x6))]) ([o0,o1]:Hp).length) [o0,o1] k=k (.ptr 2 0 0 1) [o0,o1, .arr 7 [[(.s (.int .i64 x0)),(.s (.int .i64 x1)),(.s (.int .i64 x2)),(.s (.int .i64 x3)),(.s (.int .i64 x4)),(.s (.int .i64 x5)),(.s (.int .i64 x6))]] true false]:=rfl
theorem Z3R {o0:AObj} {o1:AObj} {o2:AObj} {a b c d e f g:AV} {t:Hp} {w n:Bool} (k:K β):ldK 1 false (.ptr 3 0 0 1) (o0::o1::o2 :: .arr 7 [[a,b,c,d,e,f,g]] w n::t) k=k a:=rfl
theorem Z3S {o0:AObj} {o1:AObj} {o2:AObj} {a b c d e f g:AV} {x:Int} {t:Hp} {n:Bool} (k:AV→Hp→Option β):effK (stE 1 (.ptr 3 0 0 1) (.s (.int .i64 x)) (o0::o1::o2 :: .arr 7 [[a,b,c,d,e,f,g]] true n::t)) (o0::o1::o2 :: .arr 7 [[a,b,c,d,e,f,g]] true n::t) k=k .u (o0::o1::o2 :: .arr 7 [[(.s (.int .i64 x)),b,c,d,e,f,g]] true n::t):=Z0H rfl k
theorem Z3T {o0:AObj} {o1:AObj} {o2:AObj} {a b c d e f g:AV} {x:Int} {t:Hp} {n:Bool} (k:AV→Hp→Ent→Option β):effD (stE 1 (.ptr 3 0 0 1) (.s (.int .i64 x)) (o0::o1::o2 :: .arr 7 [[a,b,c,d,e,f,g]] true n::t)) (o0::o1::o2 :: .arr 7 [[a,b,c,d,e,f,g]] true n::t) k=k .u (o0::o1::o2 :: .arr 7 [[(.s (.int .i64 x)),b,c,d,e,f,g]] true n::t) ([3],[3]):=Z0b rfl k
theorem Z3U {o0:AObj} {o1:AObj} {o2:AObj} {a b c d e f g:AV} {t:Hp} {w n:Bool} (k:K β):ldK 1 false (.ptr 3 0 1 1) (o0::o1::o2 :: .arr 7 [[a,b,c,d,e,f,g]] w n::t) k=k b:=rfl
theorem Z3V {o0:AObj} {o1:AObj} {o2:AObj} {a b c d e f g:AV} {x:Int} {t:Hp} {n:Bool} (k:AV→Hp→Option β):effK (stE 1 (.ptr 3 0 1 1) (.s (.int .i64 x)) (o0::o1::o2 :: .arr 7 [[a,b,c,d,e,f,g]] true n::t)) (o0::o1::o2 :: .arr 7 [[a,b,c,d,e,f,g]] true n::t) k=k .u (o0::o1::o2 :: .arr 7 [[a,(.s (.int .i64 x)),c,d,e,f,g]] true n::t):=Z0H rfl k
theorem Z3W {o0:AObj} {o1:AObj} {o2:AObj} {a b c d e f g:AV} {x:Int} {t:Hp} {n:Bool} (k:AV→Hp→Ent→Option β):effD (stE 1 (.ptr 3 0 1 1) (.s (.int .i64 x)) (o0::o1::o2 :: .arr 7 [[a,b,c,d,e,f,g]] true n::t)) (o0::o1::o2 :: .arr 7 [[a,b,c,d,e,f,g]] true n::t) k=k .u (o0::o1::o2 :: .arr 7 [[a,(.s (.int .i64 x)),c,d,e,f,g]] true n::t) ([3],[3]):=Z0b rfl k
theorem Z3X {o0:AObj} {o1:AObj} {o2:AObj} {a b c d e f g:AV} {t:Hp} {w n:Bool} (k:K β):ldK 1 false (.ptr 3 0 2 1) (o0::o1::o2 :: .arr 7 [[a,b,c,d,e,f,g]] w n::t) k=k c:=rfl
theorem Z3Y {o0:AObj} {o1:AObj} {o2:AObj} {a b c d e f g:AV} {x:Int} {t:Hp} {n:Bool} (k:AV→Hp→Option β):effK (stE 1 (.ptr 3 0 2 1) (.s (.int .i64 x)) (o0::o1::o2 :: .arr 7 [[a,b,c,d,e,f,g]] true n::t)) (o0::o1::o2 :: .arr 7 [[a,b,c,d,e,f,g]] true n::t) k=k .u (o0::o1::o2 :: .arr 7 [[a,b,(.s (.int .i64 x)),d,e,f,g]] true n::t):=Z0H rfl k
theorem Z3Z {o0:AObj} {o1:AObj} {o2:AObj} {a b c d e f g:AV} {x:Int} {t:Hp} {n:Bool} (k:AV→Hp→Ent→Option β):effD (stE 1 (.ptr 3 0 2 1) (.s (.int .i64 x)) (o0::o1::o2 :: .arr 7 [[a,b,c,d,e,f,g]] true n::t)) (o0::o1::o2 :: .arr 7 [[a,b,c,d,e,f,g]] true n::t) k=k .u (o0::o1::o2 :: .arr 7 [[a,b,(.s (.int .i64 x)),d,e,f,g]] true n::t) ([3],[3]):=Z0b rfl k
theorem Z40 {o0:AObj} {o1:AObj} {o2:AObj} {a b c d e f g:AV} {t:Hp} {w n:Bool} (k:K β):ldK 1 false (.ptr 3 0 3 1) (o0::o1::o2 :: .arr 7 [[a,b,c,d,e,f,g]] w n::t) k=k d:=rfl
theorem Z41 {o0:AObj} {o1:AObj} {o2:AObj} {a b c d e f g:AV} {x:Int} {t:Hp} {n:Bool} (k:AV→Hp→Option β):effK (stE 1 (.ptr 3 0 3 1) (.s (.int .i64 x)) (o0::o1::o2 :: .arr 7 [[a,b,c,d,e,f,g]] true n::t)) (o0::o1::o2 :: .arr 7 [[a,b,c,d,e,f,g]] true n::t) k=k .u (o0::o1::o2 :: .arr 7 [[a,b,c,(.s (.int .i64 x)),e,f,g]] true n::t):=Z0H rfl k
theorem Z42 {o0:AObj} {o1:AObj} {o2:AObj} {a b c d e f g:AV} {x:Int} {t:Hp} {n:Bool} (k:AV→Hp→Ent→Option β):effD (stE 1 (.ptr 3 0 3 1) (.s (.int .i64 x)) (o0::o1::o2 :: .arr 7 [[a,b,c,d,e,f,g]] true n::t)) (o0::o1::o2 :: .arr 7 [[a,b,c,d,e,f,g]] true n::t) k=k .u (o0::o1::o2 :: .arr 7 [[a,b,c,(.s (.int .i64 x)),e,f,g]] true n::t) ([3],[3]):=Z0b rfl k
theorem Z43 {o0:AObj} {o1:AObj} {o2:AObj} {a b c d e f g:AV} {t:Hp} {w n:Bool} (k:K β):ldK 1 false (.ptr 3 0 4 1) (o0::o1::o2 :: .arr 7 [[a,b,c,d,e,f,g]] w n::t) k=k e:=rfl
theorem Z44 {o0:AObj} {o1:AObj} {o2:AObj} {a b c d e f g:AV} {x:Int} {t:Hp} {n:Bool} (k:AV→Hp→Option β):effK (stE 1 (.ptr 3 0 4 1) (.s (.int .i64 x)) (o0::o1::o2 :: .arr 7 [[a,b,c,d,e,f,g]] true n::t)) (o0::o1::o2 :: .arr 7 [[a,b,c,d,e,f,g]] true n::t) k=k .u (o0::o1::o2 :: .arr 7 [[a,b,c,d,(.s (.int .i64 x)),f,g]] true n::t):=Z0H rfl k
theorem Z45 {o0:AObj} {o1:AObj} {o2:AObj} {a b c d e f g:AV} {x:Int} {t:Hp} {n:Bool} (k:AV→Hp→Ent→Option β):effD (stE 1 (.ptr 3 0 4 1) (.s (.int .i64 x)) (o0::o1::o2 :: .arr 7 [[a,b,c,d,e,f,g]] true n::t)) (o0::o1::o2 :: .arr 7 [[a,b,c,d,e,f,g]] true n::t) k=k .u (o0::o1::o2 :: .arr 7 [[a,b,c,d,(.s (.int .i64 x)),f,g]] true n::t) ([3],[3]):=Z0b rfl k
theorem Z46 {o0:AObj} {o1:AObj} {o2:AObj} {a b c d e f g:AV} {t:Hp} {w n:Bool} (k:K β):ldK 1 false (.ptr 3 0 5 1) (o0::o1::o2 :: .arr 7 [[a,b,c,d,e,f,g]] w n::t) k=k f:=rfl
theorem Z47 {o0:AObj} {o1:AObj} {o2:AObj} {a b c d e f g:AV} {x:Int} {t:Hp} {n:Bool} (k:AV→Hp→Option β):effK (stE 1 (.ptr 3 0 5 1) (.s (.int .i64 x)) (o0::o1::o2 :: .arr 7 [[a,b,c,d,e,f,g]] true n::t)) (o0::o1::o2 :: .arr 7 [[a,b,c,d,e,f,g]] true n::t) k=k .u (o0::o1::o2 :: .arr 7 [[a,b,c,d,e,(.s (.int .i64 x)),g]] true n::t):=Z0H rfl k
theorem Z48 {o0:AObj} {o1:AObj} {o2:AObj} {a b c d e f g:AV} {x:Int} {t:Hp} {n:Bool} (k:AV→Hp→Ent→Option β):effD (stE 1 (.ptr 3 0 5 1) (.s (.int .i64 x)) (o0::o1::o2 :: .arr 7 [[a,b,c,d,e,f,g]] true n::t)) (o0::o1::o2 :: .arr 7 [[a,b,c,d,e,f,g]] true n::t) k=k .u (o0::o1::o2 :: .arr 7 [[a,b,c,d,e,(.s (.int .i64 x)),g]] true n::t) ([3],[3]):=Z0b rfl k
theorem Z49 {o0:AObj} {o1:AObj} {o2:AObj} {a b c d e f g:AV} {t:Hp} {w n:Bool} (k:K β):ldK 1 false (.ptr 3 0 6 1) (o0::o1::o2 :: .arr 7 [[a,b,c,d,e,f,g]] w n::t) k=k g:=rfl
theorem Z4a {o0:AObj} {o1:AObj} {o2:AObj} {a b c d e f g:AV} {x:Int} {t:Hp} {n:Bool} (k:AV→Hp→Option β):effK (stE 1 (.ptr 3 0 6 1) (.s (.int .i64 x)) (o0::o1::o2 :: .arr 7 [[a,b,c,d,e,f,g]] true n::t)) (o0::o1::o2 :: .arr 7 [[a,b,c,d,e,f,g]] true n::t) k=k .u (o0::o1::o2 :: .arr 7 [[a,b,c,d,e,f,(.s (.int .i64 x))]] true n::t):=Z0H rfl k
theorem Z4b {o0:AObj} {o1:AObj} {o2:AObj} {a b c d e f g:AV} {x:Int} {t:Hp} {n:Bool} (k:AV→Hp→Ent→Option β):effD (stE 1 (.ptr 3 0 6 1) (.s (.int .i64 x)) (o0::o1::o2 :: .arr 7 [[a,b,c,d,e,f,g]] true n::t)) (o0::o1::o2 :: .arr 7 [[a,b,c,d,e,f,g]] true n::t) k=k .u (o0::o1::o2 :: .arr 7 [[a,b,c,d,e,f,(.s (.int .i64 x))]] true n::t) ([3],[3]):=Z0b rfl k
theorem lw7_3 {o0:AObj} {o1:AObj} {o2:AObj} {a b c d e f g:AV} {t:Hp} {w n:Bool} (k:K β):ldK 7 true (.ptr 3 0 0 1) (o0::o1::o2 :: .arr 7 [[a,b,c,d,e,f,g]] w n::t) k=k (.agg [a,b,c,d,e,f,g]):=rfl
theorem ew7_3 {o0:AObj} {o1:AObj} {o2:AObj} {a b c d e f g:AV} {x0 x1 x2 x3 x4 x5 x6:Int} {t:Hp} {n:Bool} (k:AV→Hp→Option β):effK (stE 7 (.ptr 3 0 0 1) (.agg [(.s (.int .i64 x0)),(.s (.int .i64 x1)),(.s (.int .i64 x2)),(.s (.int .i64 x3)),(.s (.int .i64 x4)),(.s (.int .i64 x5)),(.s (.int .i64 x6))]) (o0::o1::o2 :: .arr 7 [[a,b,c,d,e,f,g]] true n::t)) (o0::o1::o2 :: .arr 7 [[a,b,c,d,e,f,g]] true n::t) k=k .u (o0::o1::o2 :: .arr 7 [[(.s (.int .i64 x0)),(.s (.int .i64 x1)),(.s (.int .i64 x2)),(.s (.int .i64 x3)),(.s (.int .i64 x4)),(.s (.int .i64 x5)),(.s (.int .i64 x6))]] true n::t):=Z0H rfl k
theorem bx7_3 {o0:AObj} {o1:AObj} {o2:AObj} {x0 x1 x2 x3 x4 x5 x6:Int} (k:AV→Hp→Option β):effK (boxE 7 (.agg [(.s (.int .i64 x0)),(.s (.int .i64 x1)),(.s (.int .i64 x2)),(.s (.int .i64 x3)),(.s (.int .i64 x4)),(.s (.int .i64 x5)),(.s (.int .i64 x6))]) ([o0,o1,o2]:Hp).length) [o0,o1,o2] k=k (.ptr 3 0 0 1) [o0,o1,o2, .arr 7 [[(.s (.int .i64 x0)),(.s (.int .i64 x1)),(.s (.int .i64 x2)),(.s (.int .i64 x3)),(.s (.int .i64 x4)),(.s (.int .i64 x5)),(.s (.int .i64 x6))]] true false]:=rfl
end
abbrev SLm (b:Bool) (l:List Msg):AV := .lst 7 (b&&l.isEmpty) (l.map encM)
end Go.AM


namespace Go.AM
set_option linter.unusedVariables false
variable {β:Type}
theorem Z0c {op:BinOp} {x:AV} {y:AV} {k:K β} {x':AV} {y':AV} (e_x:x=x') (e_y:y=y'):arithK op x y k=arithK op x' y' k:=by subst e_x e_y;rfl
theorem Z0d {P:Program} {neq:Bool} {ty:TypeId} {x:AV} {y:AV} {h:Hp} {k:K β} {x':AV} {y':AV} {h':Hp} (e_x:x=x') (e_y:y=y') (e_h:h=h'):eqK P neq ty x y h k=eqK P neq ty x' y' h' k:=by subst e_x e_y e_h;rfl
theorem Z0e {x:AV} {k:K β} {x':AV} (e_x:x=x'):notK x k=notK x' k:=by subst e_x;rfl
theorem Z0f {P:Program} {a:TypeId} {b:TypeId} {x:AV} {k:K β} {x':AV} (e_x:x=x'):convK P a b x k=convK P a b x' k:=by subst e_x;rfl
theorem Z0g {c:AV} {a:AV} {b:AV} {k:K β} {c':AV} {a':AV} {b':AV} (e_c:c=c') (e_a:a=a') (e_b:b=b'):pickK c a b k=pickK c' a' b' k:=by subst e_c e_a e_b;rfl
theorem Z0h {z:List AV} {parts:List (Option (Nat × Nat) × AV)} {k:K β} {z':List AV} (e_z:z=z'):buildK z parts k=buildK z' parts k:=by subst e_z;rfl
theorem Z0i {n:Nat} {agg:Bool} {p:AV} {h:Hp} {k:K β} {p':AV} {h':Hp} (e_p:p=p') (e_h:h=h'):ldK n agg p h k=ldK n agg p' h' k:=by subst e_p e_h;rfl
theorem Z0j {x:AV} {k:K β} {x':AV} (e_x:x=x'):nilK x k=nilK x' k:=by subst e_x;rfl
theorem Z0k {n:Nat} {x:AV} {lo:Option AV} {hi:Option AV} {mx:Option AV} {k:K β} {x':AV} (e_x:x=x'):sliceK n x lo hi mx k=sliceK n x' lo hi mx k:=by subst e_x;rfl
theorem Z0l {off:Nat} {p:AV} {k:K β} {p':AV} (e_p:p=p'):faK off p k=faK off p' k:=by subst e_p;rfl
theorem Z0m {n:Nat} {agg:Bool} {off:Nat} {x:AV} {k:K β} {x':AV} (e_x:x=x'):fldK n agg off x k=fldK n agg off x' k:=by subst e_x;rfl
theorem Z0n {n:Nat} {x:AV} {i:AV} {k:K β} {x':AV} {i':AV} (e_x:x=x') (e_i:i=i'):iaK n x i k=iaK n x' i' k:=by subst e_x e_i;rfl
theorem Z0o {n:Nat} {len:Nat} {x:AV} {i:AV} {k:K β} {x':AV} {i':AV} (e_x:x=x') (e_i:i=i'):iaA n len x i k=iaA n len x' i' k:=by subst e_x e_i;rfl
theorem Z0p {P:Program} {kt:TypeId} {z:AV} {ok:Bool} {m:AV} {kk:AV} {h:Hp} {k:K β} {z':AV} {m':AV} {kk':AV} {h':Hp} (e_z:z=z') (e_m:m=m') (e_kk:kk=kk') (e_h:h=h'):lookK P kt z ok m kk h k=lookK P kt z' ok m' kk' h' k:=by subst e_z e_m e_kk e_h;rfl
theorem Z0q {x:AV} {k:K β} {x':AV} (e_x:x=x'):capK x k=capK x' k:=by subst e_x;rfl
theorem Z0r {x:AV} {i:Nat} {k:K β} {x':AV} (e_x:x=x'):exK x i k=exK x' i k:=by subst e_x;rfl
theorem Z0s {x:AV} {k:K β} {x':AV} (e_x:x=x'):lenK x k=lenK x' k:=by subst e_x;rfl
theorem Z0t {x:AV} {y:AV} {k:K β} {x':AV} {y':AV} (e_x:x=x') (e_y:y=y'):minK x y k=minK x' y' k:=by subst e_x e_y;rfl
theorem Z0u {x:AV} {y:AV} {k:K β} {x':AV} {y':AV} (e_x:x=x') (e_y:y=y'):maxK x y k=maxK x' y' k:=by subst e_x e_y;rfl
theorem Z0v {r:R} {h:Hp} {k:AV→Hp→Option β} {r':R} {h':Hp} (e_r:r=r') (e_h:h=h'):effK r h k=effK r' h' k:=by subst e_r e_h;rfl
theorem Z0w {F:Option Fun} {args:List AV} {h:Hp} {k:AV→Hp→Option β} {F':Option Fun} {args':List AV} {h':Hp} (e_F:F=F') (e_args:args=args') (e_h:h=h'):callK F args h k=callK F' args' h' k:=by subst e_F e_args e_h;rfl
theorem Z0x {T:Tab} {f:AV} {args:List AV} {h:Hp} {k:AV→Hp→Option β} {T':Tab} {f':AV} {args':List AV} {h':Hp} (e_T:T=T') (e_f:f=f') (e_args:args=args') (e_h:h=h'):callVK T f args h k=callVK T' f' args' h' k:=by subst e_T e_f e_args e_h;rfl
theorem Z0y {r:R} {h:Hp} {k:AV→Hp→Ent→Option β} {r':R} {h':Hp} (e_r:r=r') (e_h:h=h'):effD r h k=effD r' h' k:=by subst e_r e_h;rfl
theorem Z0z {g:Option Bool} {h:Hp} {run:(AV→Hp→Ent→Option β)→Option β} {k:AV→Hp→Ent→Option β} {g':Option Bool} {h':Hp} (e_g:g=g') (e_h:h=h'):gopD g h run k=gopD g' h' run k:=by subst e_g e_h;rfl
theorem Z0A {want:Bool} {x:AV} {h:Hp} {run:(AV→Hp→Option β)→Option β} {k:AV→Hp→Option β} {x':AV} {h':Hp} {run':(AV→Hp→Option β)→Option β} (e_x:x=x') (e_h:h=h') (e_run:∀K,run K=run' K):grpK want x h run k=grpK want x' h' run' k:=by
 have:run=run':=funext e_run
 subst e_x e_h this;rfl
theorem Z0B {c:AV} {a:Option β} {b:Option β} {c':AV} (e_c:c=c'):condK c a b=condK c' a b:=by subst e_c;rfl
theorem Z0C {α:Type} {c c':Bool} {a b:α} (e:c=c'):cond c a b=cond c' a b:=by subst e;rfl
end Go.AM

