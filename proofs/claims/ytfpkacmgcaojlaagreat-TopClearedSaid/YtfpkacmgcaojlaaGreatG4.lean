import Derived.Test.YtfpkacmgcaojlaaGreatG3
import Derived.Shelf.SlIterI.Nil
import Derived.Shelf.SortM.Plain
import Derived.Shelf.SortM.SortNone
import Derived.Test.YtfpkacmgcaojlaaGreatProg
set_option linter.unusedSectionVars false
set_option linter.unusedVariables false
set_option linter.unusedSimpArgs false
set_option linter.constructorNameAsVariable false
set_option maxRecDepth 100000
noncomputable section
namespace Go.AM
open Go.RowKit Go.Maps Go.Sort Go.Shelf Go.Proofs
variable {P:Program} {μ μ':Mu} {h h':Hp} {w w':World}
def wfI(n:Int):Bool:=(Lit.int .i64 n).wf
def keyI:Value→Option Int
 | .int .i64 n=>some n
 | _=>none
def sortedKeysF(g:Nat):Fun:=λargs h=>
 match args with
 | [.fn g' [.ptr b 0 0 1]]=>
  match h[b]? with
  | some (.arr 1 [[.mp id]] true _)=>
   match h[id]? with
   | some (.map kvs)=>
    match kvs.mapM (λe=>keyI e.1) with
    | some ks=>if g'=g∧ks.Nodup∧ks.all wfI=true∧ks.length<1000000 then some (.lst 1 ks.isEmpty ((ks.mergeSort leI).map λn=>[.s (.int .i64 n)]),h) else none
    | none=>none
   | _=>none
  | _=>none
 | _=>none
def unV:Value→Int
 | .int _ n=>n
 | _=>0
theorem ZqW{v:Value}{n:Int}(h:keyI v=some n):v = .int .i64 n:=by
 unfold keyI at h;split at h
 ·simp only[Option.some.injEq] at h;subst h;rfl
 ·simp at h
theorem Zhq:∀{kvs:List (Value × AV)}{ks:List Int},kvs.mapM (λe=>keyI e.1)=some ks→kvs.map (·.1)=ks.map Go.encZ
 | [],ks,h=>by simp at h;subst h;rfl
 | e::kvs,ks,h=>by
  simp only[List.mapM_cons,Option.pure_def,Option.bind_eq_bind,Option.bind_eq_some_iff,Option.some.injEq] at h;obtain ⟨n,hn,l,hl,rfl⟩:=h
  rw[List.map_cons,List.map_cons,Zhq hl,ZqW hn]
theorem Step.below(R:Rel μ h w)(hd:DrLe w w')(hb:Below w.heap.size w w'):∃ξ:Mu,Step μ h w ξ h w'∧ξ.base=w'∧∀k,w.heap.size≤k→k<w'.heap.size→ξ.imm k:=by
 obtain ⟨ξ,hξ⟩:∃ξ:Mu,ξ={ loc:=μ.loc,base:=w',imm:=λk=>μ.imm k∨(w.heap.size≤k∧k<w'.heap.size) }:=⟨_,rfl⟩
 have hl:ξ.loc=μ.loc:=by rw[hξ]
 have hbs:ξ.base=w':=by rw[hξ]
 have him:∀k,ξ.imm k↔(μ.imm k∨(w.heap.size≤k∧k<w'.heap.size)):=λk=>by rw[hξ]
 have hle:ImmLe μ ξ:=λk hk=>⟨(him k).2 (.inl hk),by
  obtain ⟨h1,h2,-⟩:=R.imm k hk;rw[hbs,hb.block k h1,h2]⟩
 have F:Frame (Own μ []) w w':=⟨hb.os,hb.tape,hb.output,hd,hb.size,λk hk _=>hb.block k hk⟩
 obtain ⟨r1,r2,r3⟩:=Rel.over (ν:=μ) (g:=[]) R F (ξ:=ξ) hl hle (λk hk=>by
  rcases (him k).1 hk with hk | ⟨h1,h2⟩
  ·obtain ⟨g1,g2,g3⟩:=R.imm k hk
   exact ⟨Nat.lt_of_lt_of_le g1 hb.size,by rw[hbs],g3⟩
  ·exact ⟨h2,by rw[hbs],λho=>by have:=R.own_lt ho;omega⟩)
 refine ⟨ξ,⟨r1,r2,r3,λb ⟨id,o,x,c,h1,h2,h3⟩ => .inl ⟨id,o,x,c,h1,h2,by rw[← hl];exact h3⟩,λk hk => ?_⟩,hbs,λk h1 h2=>(him k).2 (.inr ⟨h1,h2⟩)⟩
 rcases (him k).1 hk with hk | ⟨h1,h2⟩
 ·exact .inl hk
 ·exact .inr (.inr h1)
theorem Zhr{ν:Mu}:∀l:List Int,VRf ν [] (l.map λn=>[AV.s (.int .i64 n)]) (l.map Go.encZ)
 | []=>by simp[VRf]
 | n::l=>by
  simp only[List.map_cons,VRf];exact ⟨[Go.encZ n],l.map Go.encZ,rfl,by simp only[VRs,VR];exact ⟨_,_,rfl,⟨rfl,rfl⟩,rfl⟩,Zhr l⟩
theorem sortedKeysF_sound{ρK ρS:Ren}(hdl:∀w w':World,DrLe w w')(LK:SlLaysZI.n10 P ρK)(LS:SlLaysZI.n6 P ρS)(hs:∀m,AnyZI.SortsIn P ρS Fence.wide m)(e9:∀args w,(callFunc (ρS.f 9) args).run P w = .ok (.enter (ρS.f 9) args) w)
  (eg:∀args w,(callFunc (ρK.f 10) args).run P w = .ok (.enter (ρK.f 10) args) w) (hgo:Goes P (ρS.f 6)):CSound P (ρS.f 6) (sortedKeysF (ρK.f 10)):=by
 intro args h v h' hk μ w cargs R hargs
 refine ⟨hgo, ?_⟩;unfold sortedKeysF at hk;split at hk<;>try (simp at hk;done)
 rename_i g' b
 split at hk<;>try (simp at hk;done)
 rename_i id nil hob;split at hk<;>try (simp at hk;done)
 rename_i kvs hom;split at hk<;>try (simp at hk;done)
 rename_i ks hks;split at hk<;>try (simp at hk;done)
 rename_i hc;obtain ⟨rfl,hnd,hwf,hlen⟩:=hc
 simp only[Option.some.injEq,Prod.mk.injEq] at hk;obtain ⟨rfl,rfl⟩:=hk
 have hkeys:=Zhq hks;have hkl:kvs.length=ks.length:=by have:=congrArg List.length hkeys;simpa using this
 simp only[VRs] at hargs;obtain ⟨v1,vs1,hq1,hv1,rfl⟩:=hargs
 have hcargs:cargs = #[v1]:=by apply Array.ext';simpa using hq1
 subst hcargs;simp only[VR] at hv1
 obtain ⟨caps,rfl,hcaps⟩:=hv1;simp only[VRs,VR] at hcaps;obtain ⟨u1,us1,hq2,⟨a,rfl,sz,es,own,nil',hob',hfr,hloc⟩,rfl⟩:=hcaps;have hcaps':caps = #[.pointer (some a)]:=by apply Array.ext';simpa using hq2
 subst hcaps'
 rw[hob] at hob';injection hob' with hob'
 injection hob' with e1 e2 e3 e4
 subst e1 e2 e3 e4;obtain ⟨blk,o,c,hmu,rfl⟩:=hloc rfl
 have hO:=R.obj _ _ hob;unfold ORel at hO;rw[hmu] at hO;obtain ⟨-,-,hc1,-,hblk,hcell,hown⟩:=hO;obtain ⟨rfl,-⟩:=hown rfl;obtain ⟨cv,hcv,-,hvr⟩:=hcell 0 [.mp id] 0 (.mp id) rfl rfl;simp only[VR] at hvr;obtain ⟨kvs',mb,hom',hmm,rfl⟩:=hvr;have hM:=R.obj _ _ hom;unfold ORel at hM;obtain ⟨mb',hmm',ents,clock,hheap,hsz,hclk,hborn,hent⟩:=hM;rw[hmm] at hmm';injection hmm' with hmm' _ _;subst hmm';have hK26:P.underlying (ρK.t 26)=some (.int .i64):=LK.t26
 have hek:∀(i:Nat)(x:MapEntry),ents[i]? = some x→∃n,ks[i]? = some n∧x.key=Go.encZ n:=λi x hx=>by
  have hi:i<ents.size:=(Array.getElem?_eq_some_iff.1 hx).1;have hik:i<kvs.length:=by omega
  have h1:kvs[i]? = some kvs[i]:=List.getElem?_eq_getElem hik;have h2:=(hent i kvs[i].1 kvs[i].2 x (by rw[h1]) hx).1
  have h3:(kvs.map (·.1))[i]? = some kvs[i].1:=by rw[List.getElem?_map,h1];rfl
  rw[hkeys,List.getElem?_map,Option.map_eq_some_iff] at h3;obtain ⟨n,h4,h5⟩:=h3
  exact ⟨n,h4,by rw[h2,h5]⟩
 have hmapk:ents.toList.map (·.key)=ks.map Go.encZ:=by
  apply List.ext_getElem?
  intro i;rw[List.getElem?_map,List.getElem?_map,Array.getElem?_toList]
  cases hx:ents[i]? with
  | none=>
   have:ents.size≤i:=by simpa using hx
   rw[List.getElem?_eq_none (by omega)];rfl
  | some x=>
   obtain ⟨n,h1,h2⟩:=hek i x hx;rw[h1];simp[h2]
 obtain ⟨Rv,hRv⟩:∃Rv:Value→Option (DataW Unit × List MemPlace),Rv=λ_=>some (.nil,[]):=⟨_,rfl⟩
 have hwfk:∀n ∈ ks,(Lit.int .i64 n).wf=true:=λn hn=>List.all_eq_true.1 hwf n hn
 have hrd:∀x ∈ ents.toList,∃n,n ∈ ks∧x.key=Go.encZ n∧WideElems.rd P (ρK.t 26) Rv x=some (.int .i64 n,.nil):=λx hx=>by
  obtain ⟨i,hi⟩:=List.mem_iff_getElem?.1 hx;rw[Array.getElem?_toList] at hi;obtain ⟨n,h1,h2⟩:=hek i x hi;refine ⟨n,List.mem_of_getElem? h1,h2, ?_⟩;cases x;dsimp only at h2;subst h2;exact WideElems.rd_mk (R:=Rv) (yv:=(.nil,[])) (keyOf_int_mk hK26 (hwfk n (List.mem_of_getElem? h1))) (by rw[hRv])
 have hst:MapKept.Stamped ents clock:=by
  refine ⟨λx hx => ?_, ?_, ?_⟩
  ·obtain ⟨i,hi⟩:=List.mem_iff_getElem?.1 hx
   rw[Array.getElem?_toList] at hi;have:=hborn i x hi
   have:=(Array.getElem?_eq_some_iff.1 hi).1
   omega
  ·have:ents.toList.map (·.born)=List.range ents.size:=by
    apply List.ext_getElem?
    intro i;rw[List.getElem?_map,Array.getElem?_toList]
    cases hx:ents[i]? with
    | none=>rw[List.getElem?_eq_none (by simpa using hx)];rfl
    | some x=>
     have hi:=(Array.getElem?_eq_some_iff.1 hx).1;rw[List.getElem?_range hi];simp[hborn i x hx]
   rw[this];exact List.nodup_range
  ·rw[hmapk]
   exact hnd.map _ λa b hab h=>hab (by simpa [Go.encZ] using h)
 have hfit:WideElems.Fit P (ρK.t 26) Rv ents clock:=⟨by have:maxLen=9223372036854775807:=rfl;omega,hst,λx hx=>by obtain ⟨n,-,-,h⟩:=hrd x hx;exact ⟨_,h⟩⟩
 obtain ⟨D0,hD0⟩:∃D0:DataW Unit,D0 = .map ((ents.toList.map (WideElems.rg P (ρK.t 26) Rv)).foldr DataW.insert []):=⟨_,rfl⟩;have hown':w.ownsMap P (ρK.t 26) Rv mb ks.length D0:=⟨ents,clock,hheap,hfit,by omega,hD0⟩
 have hperm:(Go.intKeys D0).Perm ks:=by
  rw[hD0];show (((ents.toList.map (WideElems.rg P (ρK.t 26) Rv)).foldr DataW.insert []).map λp=>intOf p.1).Perm ks
  refine ((WideShapes.sorted_perm _).map _).trans ?_;rw[List.map_map]
  have:ents.toList.map ((λp=>intOf p.1) ∘ WideElems.rg P (ρK.t 26) Rv)=ks:=by
   have e1:∀x ∈ ents.toList,((λp:Lit × DataW Unit=>intOf p.1) ∘ WideElems.rg P (ρK.t 26) Rv) x=unV x.key:=λx hx=>by
    obtain ⟨n,-,h2,h3⟩:=hrd x hx;simp only[Function.comp,WideElems.rg_of h3,h2,intOf,Go.encZ,unV]
   have e2:ents.toList.map (λx=>unV x.key)=(ents.toList.map (·.key)).map unV:=by rw[List.map_map];rfl
   rw[List.map_congr_left e1,e2,hmapk,List.map_map]
   conv=>rhs;rw[← List.map_id ks]
   exact List.map_congr_left λx _=>rfl
  rw[this]
 have hsize:Maps.size D0=ks.length:=by
  have:=hperm.length_eq
  rw[hD0] at this ⊢
  simpa [Go.intKeys,Maps.size] using this
 have hseq:=AnyZI.keys_gives LK Fence.wide 2 trivial rfl (by omega) blk mb ks.length D0 w hblk (by simpa using hcv) hown'
 have cS:=AnyZI.sorted_in LS Fence.wide 5 trivial trivial trivial trivial rfl (by omega) (hs _) e9 (ρK.f 10) #[.pointer (some ⟨blk,0,none⟩)] trivial eg _ _ (by rw[hsize];have:maxLen=9223372036854775807:=rfl;omega) (by rw[hsize];omega) w hseq
 have cS':=callsIn_wide.1 cS;refine Calls.mono cS' ?_;rintro e w' ⟨v,ss,rfl,hss,hrow,hnil,hbel⟩;have hmerge:ss.mergeSort leI=ks.mergeSort leI:=mergeSort_of_perm_i (hss.trans hperm);have hssl:ss.length=ks.length:=(hss.trans hperm).length_eq;obtain ⟨ξ,S,hbase,himm⟩:=Step.below R (hdl w w') hbel;refine ⟨v,ξ,rfl,S, ?_⟩;obtain ⟨hxl,hv⟩:=hrow;simp only[VR,List.length_map,List.length_mergeSort];rcases hv with ⟨rfl,hn0⟩ | ⟨gb,cap,cur,rfl,hge,hgb,hcap1,hcap2,hcs,htake⟩
 ·have hk0:ks=[]:=List.eq_nil_of_length_eq_zero (by omega)
  subst hk0;refine ⟨none,0,rfl,Nat.le_refl _,by decide,rfl,λ_=>rfl,by simp,by simp⟩
 ·have hssn:ss≠[]:=λhh=>by have:=hnil.2 hh;cases this
  have hkn:ks≠[]:=λhh=>hssn (List.eq_nil_of_length_eq_zero (by rw[hssl,hh];rfl))
  refine ⟨some ⟨gb,0,none⟩,cap,by rw[hssl],by omega,hcap2,by simpa using hkn,(λhh=>by cases hh),λe he => ?_,λ_=>⟨gb,0,(ks.mergeSort leI).map Go.encZ,rfl,himm gb hge (Array.getElem?_eq_some_iff.1 hgb).1,Zhr _,λj u hj => ?_⟩⟩
  ·obtain ⟨n,-,rfl⟩:=List.mem_map.1 he
   refine ⟨rfl,λx hx => ?_⟩
   simp only[List.mem_singleton] at hx;subst hx;rfl
  ·rw[hbase]
   have hj2:(cur.toList.take (ss.length * 1))[j]? = some u:=by rw[htake];change (((ss.mergeSort leI).map Go.encZ))[j]? = some u;rw[hmerge];exact hj
   have hjl:j<(cur.toList.take (ss.length * 1)).length:=(List.getElem?_eq_some_iff.1 hj2).1;rw[List.getElem?_take] at hj2;split at hj2<;>try (simp at hj2;done)
   rw[Array.getElem?_toList] at hj2;refine ⟨by simp[World.cell?,hgb,hj2], ?_⟩
   rw[List.getElem?_map,Option.map_eq_some_iff] at hj;obtain ⟨n,-,rfl⟩:=hj
   rfl
theorem ZqX{g b id:Nat}{nil:Bool}{kvs:List (Value × AV)}{ks:List Int}(hb:h[b]? = some (.arr 1 [[.mp id]] true nil))(hm:h[id]? = some (.map kvs))(hks:kvs.mapM (λe=>keyI e.1)=some ks)(hnd:ks.Nodup)(hwf:ks.all wfI=true)(hl:ks.length<1000000):
  sortedKeysF g [.fn g [.ptr b 0 0 1]] h=some (.lst 1 ks.isEmpty ((ks.mergeSort leI).map λn=>[.s (.int .i64 n)]),h):=by
 unfold sortedKeysF;simp only[hb,hm,hks]
 rw[if_pos ⟨by first | rfl | trivial,hnd,hwf,hl⟩]
end Go.AM


namespace Go.Proofs
open Go.Shelf
def Tryz.keysK_ren:Go.Shelf.Ren:=⟨fun | 7=>39 | 10=>90 | n=>n,fun | 23=>119 | 26=>3 | 3=>32 | 28=>117 | 0=>0 | 27=>116 | 33=>41 | 4=>4 | n=>n,fun | n=>n⟩
theorem Tryz.keysK:Go.Proofs.SlLaysZI.n7 Tryz.prog Tryz.keysK_ren:={
 mixed:=by kernel_rfl
 f7:=⟨Tryz.f39.name,by decide,Tryz.func39.trans (congrArg some (by kernel_rfl))⟩
 f10:=⟨Tryz.f90.name,by decide,Tryz.func90.trans (congrArg some (by kernel_rfl))⟩
 t0:=Tryz.underlying0
 a0:=Tryz.isAgg0
 z0:=Tryz.sizeOf0
 v0:=Tryz.zeroValue0
 t4:=Tryz.underlying4
 a4:=Tryz.isAgg4
 z4:=Tryz.sizeOf4
 v4:=Tryz.zeroValue4
 t23:=Tryz.underlying119
 a23:=Tryz.isAgg119
 z23:=Tryz.sizeOf119
 v23:=Tryz.zeroValue119
 t26:=Tryz.underlying3
 a26:=Tryz.isAgg3
 z26:=Tryz.sizeOf3
 v26:=Tryz.zeroValue3
 t27:=Tryz.underlying116
 a27:=Tryz.isAgg116
 z27:=Tryz.sizeOf116
 v27:=Tryz.zeroValue116
 t28:=Tryz.underlying117
 a28:=Tryz.isAgg117
 z28:=Tryz.sizeOf117
 v28:=Tryz.zeroValue117
 t33:=Tryz.underlying41
 a33:=Tryz.isAgg41
 z33:=Tryz.sizeOf41
 v33:=Tryz.zeroValue41 }
def Tryz.keysS_ren:Go.Shelf.Ren:=⟨fun | 6=>38 | 8=>88 | 9=>89 | 11=>155 | 13=>157 | 12=>156 | 23=>188 | 24=>189 | 14=>179 | 15=>180 | 16=>181 | 17=>182 | 18=>183 | 19=>184 | 20=>185 | 21=>186 | 22=>187 | 25=>209 | 26=>210 | 27=>211 | 28=>212 | 29=>213 | 30=>178 | 31=>224 | n=>n,fun | 26=>3 | 28=>117 | 24=>32 | 0=>0 | 3=>3 | 37=>187 | 48=>238 | 50=>44 | 4=>4 | 40=>273 | 39=>272 | 45=>258 | 5=>5 | 9=>9 | 51=>298 | 55=>302 | 57=>308 | 58=>249 | 33=>41 | n=>n,fun | n=>n⟩
theorem Tryz.keysS:Go.Proofs.SlLaysZI.n6 Tryz.prog Tryz.keysS_ren:={
 mixed:=by kernel_rfl
 f6:=⟨Tryz.f38.name,by decide,Tryz.func38.trans (congrArg some (by kernel_rfl))⟩
 f8:=⟨Tryz.f88.name,by decide,Tryz.func88.trans (congrArg some (by kernel_rfl))⟩
 f11:=⟨Tryz.f155.name,by decide,Tryz.func155.trans (congrArg some (by kernel_rfl))⟩
 t0:=Tryz.underlying0
 a0:=Tryz.isAgg0
 z0:=Tryz.sizeOf0
 v0:=Tryz.zeroValue0
 t24:=Tryz.underlying32
 a24:=Tryz.isAgg32
 z24:=Tryz.sizeOf32
 v24:=Tryz.zeroValue32
 t26:=Tryz.underlying3
 a26:=Tryz.isAgg3
 z26:=Tryz.sizeOf3
 v26:=Tryz.zeroValue3
 t28:=Tryz.underlying117
 a28:=Tryz.isAgg117
 z28:=Tryz.sizeOf117
 v28:=Tryz.zeroValue117
 i26:=by kernel_rfl }
def Tryz.keysM_ren:Go.Shelf.Ren:=⟨fun | 5=>89 | 8=>157 | 7=>156 | 19=>188 | 20=>189 | 10=>179 | 11=>180 | 12=>181 | 13=>182 | 14=>183 | 15=>184 | 16=>185 | 17=>186 | 18=>187 | 30=>209 | 31=>210 | 32=>211 | 33=>212 | 34=>213 | 35=>178 | 40=>224 | n=>n,fun | 23=>32 | 25=>3 | 3=>3 | 32=>187 | 22=>32 | 0=>0 | 44=>238 | 46=>44 | 4=>4 | 36=>273 | 35=>272 | 41=>258 | 5=>5 | 9=>9 | 53=>298 | 57=>302 | 63=>308 | 64=>249 | n=>n,fun | n=>n⟩
theorem Tryz.keysM:Go.Proofs.SlLaysM.n5 Tryz.prog Tryz.keysM_ren:={
 mixed:=by kernel_rfl
 f5:=⟨Tryz.f89.name,by decide,Tryz.func89.trans (congrArg some (by kernel_rfl))⟩
 f7:=⟨Tryz.f156.name,by decide,Tryz.func156.trans (congrArg some (by kernel_rfl))⟩
 f8:=Tryz.func157.trans (congrArg some (by kernel_rfl))
 f10:=⟨Tryz.f179.name,by decide,Tryz.func179.trans (congrArg some (by kernel_rfl))⟩
 f11:=⟨Tryz.f180.name,by decide,Tryz.func180.trans (congrArg some (by kernel_rfl))⟩
 f12:=⟨Tryz.f181.name,by decide,Tryz.func181.trans (congrArg some (by kernel_rfl))⟩
 f13:=⟨Tryz.f182.name,by decide,Tryz.func182.trans (congrArg some (by kernel_rfl))⟩
 f14:=⟨Tryz.f183.name,by decide,Tryz.func183.trans (congrArg some (by kernel_rfl))⟩
 f15:=⟨Tryz.f184.name,by decide,Tryz.func184.trans (congrArg some (by kernel_rfl))⟩
 f16:=⟨Tryz.f185.name,by decide,Tryz.func185.trans (congrArg some (by kernel_rfl))⟩
 f17:=⟨Tryz.f186.name,by decide,Tryz.func186.trans (congrArg some (by kernel_rfl))⟩
 f18:=⟨Tryz.f187.name,by decide,Tryz.func187.trans (congrArg some (by kernel_rfl))⟩
 f19:=Tryz.func188.trans (congrArg some (by kernel_rfl))
 f20:=Tryz.func189.trans (congrArg some (by kernel_rfl))
 f30:=⟨Tryz.f209.name,by decide,Tryz.func209.trans (congrArg some (by kernel_rfl))⟩
 f31:=Tryz.func210.trans (congrArg some (by kernel_rfl))
 f32:=Tryz.func211.trans (congrArg some (by kernel_rfl))
 f33:=⟨Tryz.f212.name,by decide,Tryz.func212.trans (congrArg some (by kernel_rfl))⟩
 f34:=⟨Tryz.f213.name,by decide,Tryz.func213.trans (congrArg some (by kernel_rfl))⟩
 f35:=⟨Tryz.f178.name,by decide,Tryz.func178.trans (congrArg some (by kernel_rfl))⟩
 f40:=⟨Tryz.f224.name,by decide,Tryz.func224.trans (congrArg some (by kernel_rfl))⟩
 t0:=Tryz.underlying0
 a0:=Tryz.isAgg0
 z0:=Tryz.sizeOf0
 v0:=Tryz.zeroValue0
 t3:=Tryz.underlying3
 a3:=Tryz.isAgg3
 z3:=Tryz.sizeOf3
 v3:=Tryz.zeroValue3
 t4:=Tryz.underlying4
 a4:=Tryz.isAgg4
 z4:=Tryz.sizeOf4
 v4:=Tryz.zeroValue4
 t5:=Tryz.underlying5
 a5:=Tryz.isAgg5
 z5:=Tryz.sizeOf5
 v5:=Tryz.zeroValue5
 t9:=Tryz.underlying9
 a9:=Tryz.isAgg9
 z9:=Tryz.sizeOf9
 v9:=Tryz.zeroValue9
 t22:=Tryz.underlying32
 a22:=Tryz.isAgg32
 z22:=Tryz.sizeOf32
 v22:=Tryz.zeroValue32
 t23:=Tryz.underlying32
 a23:=Tryz.isAgg32
 z23:=Tryz.sizeOf32
 v23:=Tryz.zeroValue32
 t25:=Tryz.underlying3
 a25:=Tryz.isAgg3
 z25:=Tryz.sizeOf3
 v25:=Tryz.zeroValue3
 t32:=Tryz.underlying187
 a32:=Tryz.isAgg187
 z32:=Tryz.sizeOf187
 v32:=Tryz.zeroValue187
 t35:=Tryz.underlying272
 a35:=Tryz.isAgg272
 z35:=Tryz.sizeOf272
 v35:=Tryz.zeroValue272
 t36:=Tryz.underlying273
 a36:=Tryz.isAgg273
 z36:=Tryz.sizeOf273
 v36:=Tryz.zeroValue273
 t41:=Tryz.underlying258
 a41:=Tryz.isAgg258
 z41:=Tryz.sizeOf258
 v41:=Tryz.zeroValue258
 t44:=Tryz.underlying238
 a44:=Tryz.isAgg238
 z44:=Tryz.sizeOf238
 v44:=Tryz.zeroValue238
 t46:=Tryz.underlying44
 a46:=Tryz.isAgg44
 z46:=Tryz.sizeOf44
 v46:=Tryz.zeroValue44
 t53:=Tryz.underlying298
 a53:=Tryz.isAgg298
 z53:=Tryz.sizeOf298
 v53:=Tryz.zeroValue298
 t57:=Tryz.underlying302
 a57:=Tryz.isAgg302
 z57:=Tryz.sizeOf302
 v57:=Tryz.zeroValue302
 t63:=Tryz.underlying308
 a63:=Tryz.isAgg308
 z63:=Tryz.sizeOf308
 v63:=Tryz.zeroValue308
 t64:=Tryz.underlying249
 a64:=Tryz.isAgg249
 z64:=Tryz.sizeOf249
 v64:=Tryz.zeroValue249 }
theorem Tryz.keysSorts(m:Nat):AnyZI.SortsIn Tryz.prog Tryz.keysS_ren Fence.wide m:=
 ⟨λblk off cap ss W hH hblk hsz=>callsIn_wide.2 (AnyM.slices_Sort_int Tryz.keysM blk off cap ss W hH hblk hsz),λp cap W=>callsIn_wide.2 (AnyM.slices_Sort_int_none Tryz.keysM p cap W)⟩
theorem Tryz.keysSound:Go.AM.CSound Tryz.prog 38 (Go.AM.sortedKeysF 90):=
 Go.AM.sortedKeysF_sound (ρK:=Tryz.keysK_ren) (ρS:=Tryz.keysS_ren) (λ_ _=>True.intro) { Tryz.keysK with } Tryz.keysS Tryz.keysSorts (enters_of Tryz.func89 (by kernel_rfl) rfl) (enters_of Tryz.func90 (by kernel_rfl) rfl) ⟨Tryz.f38,Tryz.func38,by kernel_rfl,by kernel_rfl⟩
end Go.Proofs


namespace Go.AM
open Go.Proofs
theorem mixed:Tryz.prog.follows .mixedOrders=true:=by kernel_rfl
def NL:Nat:=1000000
theorem NN_ex:∃n:Nat,1000000≤n∧n<4611686018427387904:=⟨1000000,by omega,by omega⟩
noncomputable def NN:Nat:=NN_ex.choose
theorem NN_ge:1000000≤NN:=NN_ex.choose_spec.1
def Z3w:DTab:=D0
theorem ZqY:DSound Tryz.prog Z3w:=DSound.zero
def Z3x:Tab:=T0
theorem ZqZ:TSound Tryz.prog Z3x:=TSound.zero
def Z1q:Fun:=runF Tryz.prog Z3x Z3w NN [0,2,4] Tryz.f8 1
theorem Zhs:CSound Tryz.prog 8 Z1q:=Z00 ZqZ ZqY mixed Tryz.func8 (by kernel_rfl) NN
theorem ZbH{β:Type}(K:Kb β)(a0:AV)(h:Hp):(Z1q [a0] h).bind (λp=>K p.1 p.2)=Z2y Tryz.prog Z3x Z3w NN K a0 h:=by
 rw[← ZoI];exact Z03 rfl
theorem Zr0(a0:AV)(h:Hp):Z1q [a0] h=Z2y Tryz.prog Z3x Z3w NN (λv h=>some (v,h)) a0 h:=(Z0k _).symm.trans (ZbH (λv h=>some (v,h)) a0 h)
def Z3y:Fun:=closedX [.l 4] [.l 4] Z1q
theorem Zht:CSound Tryz.prog 8 Z3y:=Z01 _ _ Zhs
def ZbI:DFun:=closedXD [.l 4] [.l 4] Z1q
theorem Zr1:Ro Z3y ZbI:=Z0g _ _ _
theorem Zr2{a0 v:AV}(ha:plains [a0]=true)(hv:Z2y Tryz.prog Z3x Z3w NN (λv g=>cvt false g v) (nrm (.l 4) a0) []=some v)(h:Hp):Z3y [a0] h=some ((nrmR [.l 4] v),h):=by
 have e:(Z1q (nrms [.l 4] [a0]) []).bind (λ(p:AV × Hp)=>cvt false p.2 p.1)=some v:=(ZbH (λv g=>cvt false g v) (nrm (.l 4) a0) []).trans hv
 exact (Z09 (shr:=[.l 4]) ha e h).trans (congrArg (λx=>some (x,h)) rfl)
def Z8k:DTab:=D0
theorem Zr3:DSound Tryz.prog Z8k:=DSound.zero
def Z8l:Tab:=T0
theorem Zr4:TSound Tryz.prog Z8l:=TSound.zero
def Z5f:Fun:=runF Tryz.prog Z8l Z8k NN [0,1,2] Tryz.f85 1
theorem Zr5:CSound Tryz.prog 85 Z5f:=Z00 Zr4 Zr3 mixed Tryz.func85 (by kernel_rfl) NN
theorem Zr6{β:Type}(K:Kb β)(a0:AV)(h:Hp):(Z5f [a0] h).bind (λp=>K p.1 p.2)=Zbt Tryz.prog Z8l Z8k NN K a0 h:=by
 rw[← ZpX];exact Z03 rfl
def Z1a:Fun:=closedX [.o] [.o] Z5f
theorem Z3z:CSound Tryz.prog 85 Z1a:=Z01 _ _ Zr5
def Z5g:DFun:=closedXD [.o] [.o] Z5f
theorem Zhu:Ro Z1a Z5g:=Z0g _ _ _
theorem Zr7{a0 v:AV}(ha:plains [a0]=true)(hv:Zbt Tryz.prog Z8l Z8k NN (λv g=>cvt false g v) a0 []=some v)(h:Hp):Z1a [a0] h=some (v,h):=by
 have e:(Z5f (nrms [.o] [a0]) []).bind (λ(p:AV × Hp)=>cvt false p.2 p.1)=some v:=(Zr6 (λv g=>cvt false g v) a0 []).trans hv
 exact (Z09 (shr:=[.o]) ha e h).trans (congrArg (λx=>some (x,h)) (Z0a 1 v))
def Z8m:DTab:=D0
theorem Zr8:DSound Tryz.prog Z8m:=DSound.zero
def Z8n:Tab:=T0
theorem Zr9:TSound Tryz.prog Z8n:=TSound.zero
def Z5h:Fun:=runF Tryz.prog Z8n Z8m NN [0,1,2] Tryz.f86 1
theorem Zra:CSound Tryz.prog 86 Z5h:=Z00 Zr9 Zr8 mixed Tryz.func86 (by kernel_rfl) NN
theorem Zrb{β:Type}(K:Kb β)(a0:AV)(h:Hp):(Z5h [a0] h).bind (λp=>K p.1 p.2)=Zbu Tryz.prog Z8n Z8m NN K a0 h:=by
 rw[← ZpY];exact Z03 rfl
def Z1b:Fun:=closedX [.o] [.o] Z5h
theorem Z3A:CSound Tryz.prog 86 Z1b:=Z01 _ _ Zra
def Z5i:DFun:=closedXD [.o] [.o] Z5h
theorem Zhv:Ro Z1b Z5i:=Z0g _ _ _
theorem Zrc{a0 v:AV}(ha:plains [a0]=true)(hv:Zbu Tryz.prog Z8n Z8m NN (λv g=>cvt false g v) a0 []=some v)(h:Hp):Z1b [a0] h=some (v,h):=by
 have e:(Z5h (nrms [.o] [a0]) []).bind (λ(p:AV × Hp)=>cvt false p.2 p.1)=some v:=(Zrb (λv g=>cvt false g v) a0 []).trans hv
 exact (Z09 (shr:=[.o]) ha e h).trans (congrArg (λx=>some (x,h)) (Z0a 1 v))
def Z8o:DTab:=D0
theorem Zrd:DSound Tryz.prog Z8o:=DSound.zero
def Z3B:Tab:=(updF (updF T0 85 Z1a) 86 Z1b)
theorem Zre:TSound Tryz.prog Z3B:=(TSound.upd (TSound.upd TSound.zero Z3z) Z3A)
@[simp] theorem ZDP:Z3B 85=some Z1a:=rfl
@[simp] theorem ZDQ:Z3B 86=some Z1b:=rfl
def ZbJ:Fun:=runF Tryz.prog Z3B Z8o NN [0,2,3,4,6] Tryz.f34 1
theorem Zrf:CSound Tryz.prog 34 ZbJ:=Z00 Zre Zrd mixed Tryz.func34 (by kernel_rfl) NN
theorem Zrg{β:Type}(K:Kb β)(a0:AV)(h:Hp):(ZbJ [a0] h).bind (λp=>K p.1 p.2)=Z7q Tryz.prog Z3B Z8o NN K a0 h:=by
 rw[← Zpj];exact Z03 rfl
def Z1r:Fun:=ZbJ
theorem ZbK:CSound Tryz.prog 34 Z1r:=Zrf
theorem Zrh(a0:AV)(h:Hp):Z1r [a0] h=Z7q Tryz.prog Z3B Z8o NN (λv h=>some (v,h)) a0 h:=(Z0k _).symm.trans (Zrg (λv h=>some (v,h)) a0 h)
def Z2T:DTab:=D0
theorem Zri:DSound Tryz.prog Z2T:=DSound.zero
def Z2U:Tab:=T0
theorem Zrj:TSound Tryz.prog Z2U:=TSound.zero
def Z8p:Fun:=runF Tryz.prog Z2U Z2T NN [0,2,3,4,5,8,9,10,11,12,16,56] Tryz.f87 1
theorem Zrk:CSound Tryz.prog 87 Z8p:=Z00 Zrj Zri mixed Tryz.func87 (by kernel_rfl) NN
theorem Zrl{β:Type}(K:Kb β)(a0:AV)(h:Hp):(Z8p [a0] h).bind (λp=>K p.1 p.2)=Z4U Tryz.prog Z2U Z2T NN K a0 h:=by
 rw[← Zq2];exact Z03 rfl
def Z5j:Fun:=closedX [.l 4] [.o,.o] Z8p
theorem Zrm:CSound Tryz.prog 87 Z5j:=Z01 _ _ Zrk
theorem Zrn{a0 v:AV}(ha:plains [a0]=true)(hv:Z4U Tryz.prog Z2U Z2T NN (λv g=>cvt false g v) (nrm (.l 4) a0) []=some v)(h:Hp):Z5j [a0] h=some (v,h):=by
 have e:(Z8p (nrms [.l 4] [a0]) []).bind (λ(p:AV × Hp)=>cvt false p.2 p.1)=some v:=(Zrl (λv g=>cvt false g v) (nrm (.l 4) a0) []).trans hv
 exact (Z09 (shr:=[.o,.o]) ha e h).trans (congrArg (λx=>some (x,h)) (Z0a 2 v))
def Z8q:DTab:=D0
theorem Zro:DSound Tryz.prog Z8q:=DSound.zero
def Z5k:Tab:=(updF T0 87 Z5j)
theorem Zrp:TSound Tryz.prog Z5k:=(TSound.upd TSound.zero Zrm)
@[simp] theorem Zrq:Z5k 87=some Z5j:=rfl
def Z8r:Fun:=runF Tryz.prog Z5k Z8q NN [0,2,4] Tryz.f37 1
theorem Zrr:CSound Tryz.prog 37 Z8r:=Z00 Zrp Zro mixed Tryz.func37 (by kernel_rfl) NN
theorem Zrs{β:Type}(K:Kb β)(a0:AV)(h:Hp):(Z8r [a0] h).bind (λp=>K p.1 p.2)=Z7u Tryz.prog Z5k Z8q NN K a0 h:=by
 rw[← Zpq];exact Z03 rfl
def Z2V:Fun:=closedX [.l 4] [.o] Z8r
theorem Zhw:CSound Tryz.prog 37 Z2V:=Z01 _ _ Zrr
theorem Zrt{a0 v:AV}(ha:plains [a0]=true)(hv:Z7u Tryz.prog Z5k Z8q NN (λv g=>cvt false g v) (nrm (.l 4) a0) []=some v)(h:Hp):Z2V [a0] h=some (v,h):=by
 have e:(Z8r (nrms [.l 4] [a0]) []).bind (λ(p:AV × Hp)=>cvt false p.2 p.1)=some v:=(Zrs (λv g=>cvt false g v) (nrm (.l 4) a0) []).trans hv
 exact (Z09 (shr:=[.o]) ha e h).trans (congrArg (λx=>some (x,h)) (Z0a 1 v))
def Z0u:DTab:=(updD (updD D0 85 Z5g) 86 Z5i)
theorem Zru:DSound Tryz.prog Z0u:=(DSound.ro (DSound.ro DSound.zero Zhu Z3z) Zhv Z3A)
@[simp] theorem ZDR:Z0u 85=some Z5g:=rfl
@[simp] theorem ZDS:Z0u 86=some Z5i:=rfl
def Z10:Tab:=(updF (updF T0 85 Z1a) 86 Z1b)
theorem Zrv:TSound Tryz.prog Z10:=(TSound.upd (TSound.upd TSound.zero Z3z) Z3A)
@[simp] theorem ZDT:Z10 85=some Z1a:=rfl
@[simp] theorem ZDU:Z10 86=some Z1b:=rfl
def ZbL:Fun:=runF Tryz.prog Z10 Z0u NN [0,1,4,5,7,9,10,11,12] Tryz.f40 2
theorem Zrw:CSound Tryz.prog 40 ZbL:=Z00 Zrv Zru mixed Tryz.func40 (by kernel_rfl) NN
theorem Zrx{β:Type}(K:Kb β)(a0 a1:AV)(h:Hp):(ZbL [a0,a1] h).bind (λp=>K p.1 p.2)=Z4H Tryz.prog Z10 Z0u NN K a0 a1 h:=by
 rw[← Zpv];exact Z03 rfl
def Z1W:Fun:=ZbL
theorem Zhx:CSound Tryz.prog 40 Z1W:=Zrw
theorem Zry(a0 a1:AV)(h:Hp):Z1W [a0,a1] h=Z4H Tryz.prog Z10 Z0u NN (λv h=>some (v,h)) a0 a1 h:=(Z0k _).symm.trans (Zrx (λv h=>some (v,h)) a0 a1 h)
def Z2k:DTab:=D0
theorem Zrz:DSound Tryz.prog Z2k:=DSound.zero
def Z15:Tab:=(updF (updF T0 85 Z1a) 86 Z1b)
theorem ZrA:TSound Tryz.prog Z15:=(TSound.upd (TSound.upd TSound.zero Z3z) Z3A)
@[simp] theorem ZrB:Z15 85=some Z1a:=rfl
@[simp] theorem ZrC:Z15 86=some Z1b:=rfl
def Z8s:Fun:=runF Tryz.prog Z15 Z2k NN [0,1,2,6,7,9,10,11,12,13,20] Tryz.f42 3
theorem ZrD:CSound Tryz.prog 42 Z8s:=Z00 ZrA Zrz mixed Tryz.func42 (by kernel_rfl) NN
theorem ZrE{β:Type}(K:Kb β)(a0 a1 a2:AV)(h:Hp):(Z8s [a0,a1,a2] h).bind (λp=>K p.1 p.2)=Z3q Tryz.prog Z15 Z2k NN K a0 a1 a2 h:=by
 rw[← ZpB];exact Z03 rfl
def Z5l:Fun:=closedX [.l 4,.o,.o] [.l 1] Z8s
theorem ZrF:CSound Tryz.prog 42 Z5l:=Z01 _ _ ZrD
theorem Zhy{a0 a1 a2 v:AV}(ha:plains [a0,a1,a2]=true)(hv:Z3q Tryz.prog Z15 Z2k NN (λv g=>cvt false g v) (nrm (.l 4) a0) a1 a2 []=some v)(h:Hp):Z5l [a0,a1,a2] h=some ((nrmR [.l 1] v),h):=by
 have e:(Z8s (nrms [.l 4,.o,.o] [a0,a1,a2]) []).bind (λ(p:AV × Hp)=>cvt false p.2 p.1)=some v:=(ZrE (λv g=>cvt false g v) (nrm (.l 4) a0) a1 a2 []).trans hv
 exact (Z09 (shr:=[.l 1]) ha e h).trans (congrArg (λx=>some (x,h)) rfl)
def Z5m:DTab:=D0
theorem ZrG:DSound Tryz.prog Z5m:=DSound.zero
def Z1X:Tab:=(updF (updF (updF (updF T0 34 Z1r) 37 Z2V) 40 Z1W) 42 Z5l)
theorem ZrH:TSound Tryz.prog Z1X:=(TSound.upd (TSound.upd (TSound.upd (TSound.upd TSound.zero ZbK) Zhw) Zhx) ZrF)
@[simp] theorem Z8t:Z1X 34=some Z1r:=rfl
@[simp] theorem Z8u:Z1X 37=some Z2V:=rfl
@[simp] theorem Zhz:Z1X 40=some Z1W:=rfl
@[simp] theorem ZrI:Z1X 42=some Z5l:=rfl
def Z5n:Fun:=runF Tryz.prog Z1X Z5m NN [0,1,2,6,7,8,9,10,13,17,27] Tryz.f10 3
theorem ZrJ:CSound Tryz.prog 10 Z5n:=Z00 ZrH ZrG mixed Tryz.func10 (by kernel_rfl) NN
theorem ZrK{β:Type}(K:Kb β)(a0 a1 a2:AV)(h:Hp):(Z5n [a0,a1,a2] h).bind (λp=>K p.1 p.2)=Z29 Tryz.prog Z1X Z5m NN K a0 a1 a2 h:=by
 rw[← ZoO];exact Z03 rfl
def Z16:Fun:=closedX [.l 4,.o,.o] [.l 1,.l 1,.o] Z5n
theorem Z8v:CSound Tryz.prog 10 Z16:=Z01 _ _ ZrJ
def ZbM:DFun:=closedXD [.l 4,.o,.o] [.l 1,.l 1,.o] Z5n
theorem ZrL:Ro Z16 ZbM:=Z0g _ _ _
theorem ZhA{a0 a1 a2 v:AV}(ha:plains [a0,a1,a2]=true)(hv:Z29 Tryz.prog Z1X Z5m NN (λv g=>cvt false g v) (nrm (.l 4) a0) a1 a2 []=some v)(h:Hp):Z16 [a0,a1,a2] h=some ((nrmR [.l 1,.l 1,.o] v),h):=by
 have e:(Z5n (nrms [.l 4,.o,.o] [a0,a1,a2]) []).bind (λ(p:AV × Hp)=>cvt false p.2 p.1)=some v:=(ZrK (λv g=>cvt false g v) (nrm (.l 4) a0) a1 a2 []).trans hv
 exact (Z09 (shr:=[.l 1,.l 1,.o]) ha e h).trans (congrArg (λx=>some (x,h)) rfl)
def Z2W:DTab:=(updD (updD D0 85 Z5g) 86 Z5i)
theorem ZrM:DSound Tryz.prog Z2W:=(DSound.ro (DSound.ro DSound.zero Zhu Z3z) Zhv Z3A)
@[simp] theorem ZDV:Z2W 85=some Z5g:=rfl
@[simp] theorem ZDW:Z2W 86=some Z5i:=rfl
def Z3C:Tab:=(updF (updF T0 85 Z1a) 86 Z1b)
theorem ZrN:TSound Tryz.prog Z3C:=(TSound.upd (TSound.upd TSound.zero Z3z) Z3A)
@[simp] theorem ZDX:Z3C 85=some Z1a:=rfl
@[simp] theorem ZDY:Z3C 86=some Z1b:=rfl
def Z8w:Fun:=runF Tryz.prog Z3C Z2W NN [0,1,2,3,4] Tryz.f36 3
theorem ZrO:CSound Tryz.prog 36 Z8w:=Z00 ZrN ZrM mixed Tryz.func36 (by kernel_rfl) NN
theorem ZrP{β:Type}(K:Kb β)(a0 a1 a2:AV)(h:Hp):(Z8w [a0,a1,a2] h).bind (λp=>K p.1 p.2)=Z7t Tryz.prog Z3C Z2W NN K a0 a1 a2 h:=by
 rw[← Zpp];exact Z03 rfl
def Z1Y:Fun:=quietT Z8w
theorem ZbN:CSound Tryz.prog 36 Z1Y:=Z1R ZrO
theorem ZrQ{a0 a1 a2:AV}{h:Hp}{g:List AObj}{v:AV}(hv:Z7t Tryz.prog Z3C Z2W NN (λv h=>some (v,h)) a0 a1 a2 h=some (v,h++g))(hp:plain v=true):Z1Y [a0,a1,a2] h=some (v,h):=Z1Q (F:=Z8w) (((Z0k _).symm.trans (ZrP (λv h=>some (v,h)) a0 a1 a2 h)).trans hv) hp
def Z8x:DTab:=D0
theorem ZrR:DSound Tryz.prog Z8x:=DSound.zero
def Z3D:Tab:=(updF T0 36 Z1Y)
theorem ZrS:TSound Tryz.prog Z3D:=(TSound.upd TSound.zero ZbN)
@[simp] theorem ZrT:Z3D 36=some Z1Y:=rfl
def Z8y:Fun:=runF Tryz.prog Z3D Z8x NN [0,1,4,5,7,8,9,16] Tryz.f44 2
theorem ZrU:CSound Tryz.prog 44 Z8y:=Z00 ZrS ZrR mixed Tryz.func44 (by kernel_rfl) NN
theorem ZrV{β:Type}(K:Kb β)(a0 a1:AV)(h:Hp):(Z8y [a0,a1] h).bind (λp=>K p.1 p.2)=Z2f Tryz.prog Z3D Z8x NN K a0 a1 h:=by
 rw[← ZgK];exact Z03 rfl
def Z3E:Fun:=quietT Z8y
theorem ZrW:CSound Tryz.prog 44 Z3E:=Z1R ZrU
theorem ZhB{a0 a1:AV}{h:Hp}{g:List AObj}{v:AV}(hv:Z2f Tryz.prog Z3D Z8x NN (λv h=>some (v,h)) a0 a1 h=some (v,h++g))(hp:plain v=true):Z3E [a0,a1] h=some (v,h):=Z1Q (F:=Z8y) (((Z0k _).symm.trans (ZrV (λv h=>some (v,h)) a0 a1 h)).trans hv) hp
def Z5o:DTab:=D0
theorem ZrX:DSound Tryz.prog Z5o:=DSound.zero
def Z1Z:Tab:=(updF (updF T0 36 Z1Y) 44 Z3E)
theorem ZrY:TSound Tryz.prog Z1Z:=(TSound.upd (TSound.upd TSound.zero ZbN) ZrW)
@[simp] theorem ZrZ:Z1Z 36=some Z1Y:=rfl
@[simp] theorem ZhC:Z1Z 44=some Z3E:=rfl
def Z3F:Fun:=runF Tryz.prog Z1Z Z5o NN [0,1,4,5,6,7,12,19,29] Tryz.f35 2
theorem Zs0:CSound Tryz.prog 35 Z3F:=Z00 ZrY ZrX mixed Tryz.func35 (by kernel_rfl) NN
theorem Zs1{β:Type}(K:Kb β)(a0 a1:AV)(h:Hp):(Z3F [a0,a1] h).bind (λp=>K p.1 p.2)=Z2d Tryz.prog Z1Z Z5o NN K a0 a1 h:=by
 rw[← Zpo];exact Z03 rfl
theorem ZhD(a0 a1:AV)(h:Hp):Z3F [a0,a1] h=Z2d Tryz.prog Z1Z Z5o NN (λv h=>some (v,h)) a0 a1 h:=(Z0k _).symm.trans (Zs1 (λv h=>some (v,h)) a0 a1 h)
def Z3G:DTab:=D0
theorem Zs2:DSound Tryz.prog Z3G:=DSound.zero
def Z1i:Tab:=(updF (updF (updF (updF (updF T0 8 Z1q) 10 Z16) 34 Z1r) 35 Z3F) 36 Z1Y)
theorem Zs3:TSound Tryz.prog Z1i:=(TSound.upd (TSound.upd (TSound.upd (TSound.upd (TSound.upd TSound.zero Zhs) Z8v) ZbK) Zs0) ZbN)
@[simp] theorem Zs4:Z1i 8=some Z1q:=rfl
@[simp] theorem ZhE:Z1i 10=some Z16:=rfl
@[simp] theorem Zs5:Z1i 34=some Z1r:=rfl
@[simp] theorem Zs6:Z1i 35=some Z3F:=rfl
@[simp] theorem ZDZ:Z1i 36=some Z1Y:=rfl
def Z3H:Fun:=runF Tryz.prog Z1i Z3G NN [0,1,2,5,6,7,10,11,21] Tryz.f7 3
theorem Zs7:CSound Tryz.prog 7 Z3H:=Z00 Zs3 Zs2 mixed Tryz.func7 (by kernel_rfl) NN
theorem ZhF{β:Type}(K:Kb β)(a0 a1 a2:AV)(h:Hp):(Z3H [a0,a1,a2] h).bind (λp=>K p.1 p.2)=Z2x Tryz.prog Z1i Z3G NN K a0 a1 a2 h:=by
 rw[← ZoH];exact Z03 rfl
def Z1j:Fun:=closedX [.l 4,.o,.o] [.l 4,.o] Z3H
theorem ZbO:CSound Tryz.prog 7 Z1j:=Z01 _ _ Zs7
def ZbP:DFun:=closedXD [.l 4,.o,.o] [.l 4,.o] Z3H
theorem Zs8:Ro Z1j ZbP:=Z0g _ _ _
theorem ZhG{a0 a1 a2 v:AV}(ha:plains [a0,a1,a2]=true)(hv:Z2x Tryz.prog Z1i Z3G NN (λv g=>cvt false g v) (nrm (.l 4) a0) a1 a2 []=some v)(h:Hp):Z1j [a0,a1,a2] h=some ((nrmR [.l 4,.o] v),h):=by
 have e:(Z3H (nrms [.l 4,.o,.o] [a0,a1,a2]) []).bind (λ(p:AV × Hp)=>cvt false p.2 p.1)=some v:=(ZhF (λv g=>cvt false g v) (nrm (.l 4) a0) a1 a2 []).trans hv
 exact (Z09 (shr:=[.l 4,.o]) ha e h).trans (congrArg (λx=>some (x,h)) rfl)
theorem Zs9{a0 a1 a2 x0 x1 x2:AV}{h:Hp}{v:AV}(ha:cvts false h [x0,x1,x2]=some [a0,a1,a2])(hv:∀st,Z2x Tryz.prog Z1i Z3G NN (λv g=>cvt st g v) (nrm (.l 4) a0) a1 a2 []=some v):Z1j [x0,x1,x2] h=some ((nrmR [.l 4,.o] v),h):=by
 have e:∀st,(Z3H (nrms [.l 4,.o,.o] [a0,a1,a2]) []).bind (λ(p:AV × Hp)=>cvt st p.2 p.1)=some v:=λst=>(ZhF (λv g=>cvt st g v) (nrm (.l 4) a0) a1 a2 []).trans (hv st)
 exact (Z25 (shr:=[.l 4,.o]) ha e).trans (congrArg (λx=>some (x,h)) rfl)
def Z2l:DTab:=D0
theorem Zsa:DSound Tryz.prog Z2l:=DSound.zero
def Z2m:Tab:=T0
theorem Zsb:TSound Tryz.prog Z2m:=TSound.zero
def Z5p:Fun:=runF Tryz.prog Z2m Z2l NN [0,1,4,5,10,12,13,14,24] Tryz.f11 2
theorem Zsc:CSound Tryz.prog 11 Z5p:=Z00 Zsb Zsa mixed Tryz.func11 (by kernel_rfl) NN
theorem ZhH{β:Type}(K:Kb β)(a0 a1:AV)(h:Hp):(Z5p [a0,a1] h).bind (λp=>K p.1 p.2)=Z2b Tryz.prog Z2m Z2l NN K a0 a1 h:=by
 rw[← ZoS];exact Z03 rfl
def Z1s:Fun:=closedX [.l 1,.l 1] [.o] Z5p
theorem ZhI:CSound Tryz.prog 11 Z1s:=Z01 _ _ Zsc
theorem Zsd{a0 a1 v:AV}(ha:plains [a0,a1]=true)(hv:Z2b Tryz.prog Z2m Z2l NN (λv g=>cvt false g v) (nrm (.l 1) a0) (nrm (.l 1) a1) []=some v)(h:Hp):Z1s [a0,a1] h=some (v,h):=by
 have e:(Z5p (nrms [.l 1,.l 1] [a0,a1]) []).bind (λ(p:AV × Hp)=>cvt false p.2 p.1)=some v:=(ZhH (λv g=>cvt false g v) (nrm (.l 1) a0) (nrm (.l 1) a1) []).trans hv
 exact (Z09 (shr:=[.o]) ha e h).trans (congrArg (λx=>some (x,h)) (Z0a 1 v))
theorem Zse{a0 a1 x0 x1:AV}{h:Hp}{v:AV}(ha:cvts false h [x0,x1]=some [a0,a1])(hv:∀st,Z2b Tryz.prog Z2m Z2l NN (λv g=>cvt st g v) (nrm (.l 1) a0) (nrm (.l 1) a1) []=some v):Z1s [x0,x1] h=some (v,h):=by
 have e:∀st,(Z5p (nrms [.l 1,.l 1] [a0,a1]) []).bind (λ(p:AV × Hp)=>cvt st p.2 p.1)=some v:=λst=>(ZhH (λv g=>cvt st g v) (nrm (.l 1) a0) (nrm (.l 1) a1) []).trans (hv st)
 exact (Z25 (shr:=[.o]) ha e).trans (congrArg (λx=>some (x,h)) (Z0a 1 v))
def Z8z:DTab:=D0
theorem Zsf:DSound Tryz.prog Z8z:=DSound.zero
def Z8A:Tab:=T0
theorem Zsg:TSound Tryz.prog Z8A:=TSound.zero
def Z5q:Fun:=runF Tryz.prog Z8A Z8z NN [0,2] Tryz.f92 1
theorem Zsh:CSound Tryz.prog 92 Z5q:=Z00 Zsg Zsf mixed Tryz.func92 (by kernel_rfl) NN
theorem Zsi{β:Type}(K:Kb β)(a0:AV)(h:Hp):(Z5q [a0] h).bind (λp=>K p.1 p.2)=Z7R Tryz.prog Z8A Z8z NN K a0 h:=by
 rw[← Zqc];exact Z03 rfl
def Z1t:Fun:=closedX [.o] [.o] Z5q
theorem Z5r:CSound Tryz.prog 92 Z1t:=Z01 _ _ Zsh
def Z5s:DFun:=closedXD [.o] [.o] Z5q
theorem ZhJ:Ro Z1t Z5s:=Z0g _ _ _
theorem Zsj{a0 v:AV}(ha:plains [a0]=true)(hv:Z7R Tryz.prog Z8A Z8z NN (λv g=>cvt false g v) a0 []=some v)(h:Hp):Z1t [a0] h=some (v,h):=by
 have e:(Z5q (nrms [.o] [a0]) []).bind (λ(p:AV × Hp)=>cvt false p.2 p.1)=some v:=(Zsi (λv g=>cvt false g v) a0 []).trans hv
 exact (Z09 (shr:=[.o]) ha e h).trans (congrArg (λx=>some (x,h)) (Z0a 1 v))
def Z8B:DTab:=D0
theorem Zsk:DSound Tryz.prog Z8B:=DSound.zero
def Z8C:Tab:=T0
theorem Zsl:TSound Tryz.prog Z8C:=TSound.zero
def Z5t:Fun:=runF Tryz.prog Z8C Z8B NN [0,1,2] Tryz.f93 1
theorem Zsm:CSound Tryz.prog 93 Z5t:=Z00 Zsl Zsk mixed Tryz.func93 (by kernel_rfl) NN
theorem Zsn{β:Type}(K:Kb β)(a0:AV)(h:Hp):(Z5t [a0] h).bind (λp=>K p.1 p.2)=Z7S Tryz.prog Z8C Z8B NN K a0 h:=by
 rw[← Zqd];exact Z03 rfl
def Z1u:Fun:=closedX [.o] [.o] Z5t
theorem Z5u:CSound Tryz.prog 93 Z1u:=Z01 _ _ Zsm
def Z5v:DFun:=closedXD [.o] [.o] Z5t
theorem ZhK:Ro Z1u Z5v:=Z0g _ _ _
theorem Zso{a0 v:AV}(ha:plains [a0]=true)(hv:Z7S Tryz.prog Z8C Z8B NN (λv g=>cvt false g v) a0 []=some v)(h:Hp):Z1u [a0] h=some (v,h):=by
 have e:(Z5t (nrms [.o] [a0]) []).bind (λ(p:AV × Hp)=>cvt false p.2 p.1)=some v:=(Zsn (λv g=>cvt false g v) a0 []).trans hv
 exact (Z09 (shr:=[.o]) ha e h).trans (congrArg (λx=>some (x,h)) (Z0a 1 v))
def Z8D:DTab:=D0
theorem Zsp:DSound Tryz.prog Z8D:=DSound.zero
def Z8E:Tab:=T0
theorem Zsq:TSound Tryz.prog Z8E:=TSound.zero
def Z5w:Fun:=runF Tryz.prog Z8E Z8D NN [0,1,2,6] Tryz.f49 3
theorem Zsr:CSound Tryz.prog 49 Z5w:=Z00 Zsq Zsp mixed Tryz.func49 (by kernel_rfl) NN
theorem Zss{β:Type}(K:Kb β)(a0 a1 a2:AV)(h:Hp):(Z5w [a0,a1,a2] h).bind (λp=>K p.1 p.2)=Z7F Tryz.prog Z8E Z8D NN K a0 a1 a2 h:=by
 rw[← ZpM];exact Z03 rfl
def Z0v:Fun:=closedX [.o,.o,.o] [.o] Z5w
theorem Z2X:CSound Tryz.prog 49 Z0v:=Z01 _ _ Zsr
def Z8F:DFun:=closedXD [.o,.o,.o] [.o] Z5w
theorem Zst:Ro Z0v Z8F:=Z0g _ _ _
theorem Zsu{a0 a1 a2 v:AV}(ha:plains [a0,a1,a2]=true)(hv:Z7F Tryz.prog Z8E Z8D NN (λv g=>cvt false g v) a0 a1 a2 []=some v)(h:Hp):Z0v [a0,a1,a2] h=some (v,h):=by
 have e:(Z5w (nrms [.o,.o,.o] [a0,a1,a2]) []).bind (λ(p:AV × Hp)=>cvt false p.2 p.1)=some v:=(Zss (λv g=>cvt false g v) a0 a1 a2 []).trans hv
 exact (Z09 (shr:=[.o]) ha e h).trans (congrArg (λx=>some (x,h)) (Z0a 1 v))
def Z8G:DTab:=D0
theorem Zsv:DSound Tryz.prog Z8G:=DSound.zero
def Z5x:Tab:=(updF T0 49 Z0v)
theorem Zsw:TSound Tryz.prog Z5x:=(TSound.upd TSound.zero Z2X)
@[simp] theorem ZE0:Z5x 49=some Z0v:=rfl
def Z5y:Fun:=runF Tryz.prog Z5x Z8G NN [0,1,2] Tryz.f94 1
theorem Zsx:CSound Tryz.prog 94 Z5y:=Z00 Zsw Zsv mixed Tryz.func94 (by kernel_rfl) NN
theorem Zsy{β:Type}(K:Kb β)(a0:AV)(h:Hp):(Z5y [a0] h).bind (λp=>K p.1 p.2)=Z7T Tryz.prog Z5x Z8G NN K a0 h:=by
 rw[← Zqe];exact Z03 rfl
def Z1v:Fun:=closedX [.o] [.o] Z5y
theorem Z5z:CSound Tryz.prog 94 Z1v:=Z01 _ _ Zsx
def Z5A:DFun:=closedXD [.o] [.o] Z5y
theorem ZhL:Ro Z1v Z5A:=Z0g _ _ _
theorem Zsz{a0 v:AV}(ha:plains [a0]=true)(hv:Z7T Tryz.prog Z5x Z8G NN (λv g=>cvt false g v) a0 []=some v)(h:Hp):Z1v [a0] h=some (v,h):=by
 have e:(Z5y (nrms [.o] [a0]) []).bind (λ(p:AV × Hp)=>cvt false p.2 p.1)=some v:=(Zsy (λv g=>cvt false g v) a0 []).trans hv
 exact (Z09 (shr:=[.o]) ha e h).trans (congrArg (λx=>some (x,h)) (Z0a 1 v))
def Z8H:DTab:=D0
theorem ZsA:DSound Tryz.prog Z8H:=DSound.zero
def Z5B:Tab:=(updF T0 49 Z0v)
theorem ZsB:TSound Tryz.prog Z5B:=(TSound.upd TSound.zero Z2X)
@[simp] theorem ZE1:Z5B 49=some Z0v:=rfl
def Z8I:Fun:=runF Tryz.prog Z5B Z8H NN [0,2] Tryz.f96 1
theorem ZsC:CSound Tryz.prog 96 Z8I:=Z00 ZsB ZsA mixed Tryz.func96 (by kernel_rfl) NN
theorem ZsD{β:Type}(K:Kb β)(a0:AV)(h:Hp):(Z8I [a0] h).bind (λp=>K p.1 p.2)=Z7V Tryz.prog Z5B Z8H NN K a0 h:=by
 rw[← Zqg];exact Z03 rfl
def Z1k:Fun:=closedX [.o] [.o] Z8I
theorem Z8J:CSound Tryz.prog 96 Z1k:=Z01 _ _ ZsC
theorem ZsE{a0 v:AV}(ha:plains [a0]=true)(hv:Z7V Tryz.prog Z5B Z8H NN (λv g=>cvt false g v) a0 []=some v)(h:Hp):Z1k [a0] h=some (v,h):=by
 have e:(Z8I (nrms [.o] [a0]) []).bind (λ(p:AV × Hp)=>cvt false p.2 p.1)=some v:=(ZsD (λv g=>cvt false g v) a0 []).trans hv
 exact (Z09 (shr:=[.o]) ha e h).trans (congrArg (λx=>some (x,h)) (Z0a 1 v))
def Z8K:DTab:=D0
theorem ZsF:DSound Tryz.prog Z8K:=DSound.zero
def Z3I:Tab:=(updF (updF T0 49 Z0v) 96 Z1k)
theorem ZsG:TSound Tryz.prog Z3I:=(TSound.upd (TSound.upd TSound.zero Z2X) Z8J)
@[simp] theorem ZE2:Z3I 49=some Z0v:=rfl
@[simp] theorem ZE3:Z3I 96=some Z1k:=rfl
def Z5C:Fun:=runF Tryz.prog Z3I Z8K NN [0,1,2] Tryz.f95 1
theorem ZsH:CSound Tryz.prog 95 Z5C:=Z00 ZsG ZsF mixed Tryz.func95 (by kernel_rfl) NN
theorem ZsI{β:Type}(K:Kb β)(a0:AV)(h:Hp):(Z5C [a0] h).bind (λp=>K p.1 p.2)=Z7U Tryz.prog Z3I Z8K NN K a0 h:=by
 rw[← Zqf];exact Z03 rfl
def Z1w:Fun:=closedX [.o] [.o] Z5C
theorem Z5D:CSound Tryz.prog 95 Z1w:=Z01 _ _ ZsH
def Z5E:DFun:=closedXD [.o] [.o] Z5C
theorem ZhM:Ro Z1w Z5E:=Z0g _ _ _
theorem ZsJ{a0 v:AV}(ha:plains [a0]=true)(hv:Z7U Tryz.prog Z3I Z8K NN (λv g=>cvt false g v) a0 []=some v)(h:Hp):Z1w [a0] h=some (v,h):=by
 have e:(Z5C (nrms [.o] [a0]) []).bind (λ(p:AV × Hp)=>cvt false p.2 p.1)=some v:=(ZsI (λv g=>cvt false g v) a0 []).trans hv
 exact (Z09 (shr:=[.o]) ha e h).trans (congrArg (λx=>some (x,h)) (Z0a 1 v))
def Z8L:DTab:=D0
theorem ZsK:DSound Tryz.prog Z8L:=DSound.zero
def Z8M:Tab:=T0
theorem ZsL:TSound Tryz.prog Z8M:=TSound.zero
def ZbQ:Fun:=runF Tryz.prog Z8M Z8L NN [0,1,3] Tryz.f97 2
theorem ZsM:CSound Tryz.prog 97 ZbQ:=Z00 ZsL ZsK mixed Tryz.func97 (by kernel_rfl) NN
theorem ZsN{β:Type}(K:Kb β)(a0 a1:AV)(h:Hp):(ZbQ [a0,a1] h).bind (λp=>K p.1 p.2)=Z7W Tryz.prog Z8M Z8L NN K a0 a1 h:=by
 rw[← Zqh];exact Z03 rfl
def Z1x:Fun:=ZbQ
theorem Z5F:CSound Tryz.prog 97 Z1x:=ZsM
def Z8N:DFun:=wrD Z1x
theorem ZsO(a0 a1:AV)(h:Hp):Z1x [a0,a1] h=Z7W Tryz.prog Z8M Z8L NN (λv h=>some (v,h)) a0 a1 h:=(Z0k _).symm.trans (ZsN (λv h=>some (v,h)) a0 a1 h)
def Z8O:DTab:=D0
theorem ZsP:DSound Tryz.prog Z8O:=DSound.zero
def Z5G:Tab:=(updF T0 96 Z1k)
theorem ZsQ:TSound Tryz.prog Z5G:=(TSound.upd TSound.zero Z8J)
@[simp] theorem ZE4:Z5G 96=some Z1k:=rfl
def Z5H:Fun:=runF Tryz.prog Z5G Z8O NN [0,1,2] Tryz.f98 1
theorem ZsR:CSound Tryz.prog 98 Z5H:=Z00 ZsQ ZsP mixed Tryz.func98 (by kernel_rfl) NN
theorem ZsS{β:Type}(K:Kb β)(a0:AV)(h:Hp):(Z5H [a0] h).bind (λp=>K p.1 p.2)=Z7X Tryz.prog Z5G Z8O NN K a0 h:=by
 rw[← Zqi];exact Z03 rfl
def Z1y:Fun:=closedX [.o] [.o] Z5H
theorem Z5I:CSound Tryz.prog 98 Z1y:=Z01 _ _ ZsR
def Z5J:DFun:=closedXD [.o] [.o] Z5H
theorem ZhN:Ro Z1y Z5J:=Z0g _ _ _
theorem ZsT{a0 v:AV}(ha:plains [a0]=true)(hv:Z7X Tryz.prog Z5G Z8O NN (λv g=>cvt false g v) a0 []=some v)(h:Hp):Z1y [a0] h=some (v,h):=by
 have e:(Z5H (nrms [.o] [a0]) []).bind (λ(p:AV × Hp)=>cvt false p.2 p.1)=some v:=(ZsS (λv g=>cvt false g v) a0 []).trans hv
 exact (Z09 (shr:=[.o]) ha e h).trans (congrArg (λx=>some (x,h)) (Z0a 1 v))
def Z8P:DTab:=D0
theorem ZsU:DSound Tryz.prog Z8P:=DSound.zero
def Z8Q:Tab:=T0
theorem ZsV:TSound Tryz.prog Z8Q:=TSound.zero
def ZbR:Fun:=runF Tryz.prog Z8Q Z8P NN [0,1] Tryz.f99 2
theorem ZsW:CSound Tryz.prog 99 ZbR:=Z00 ZsV ZsU mixed Tryz.func99 (by kernel_rfl) NN
theorem ZsX{β:Type}(K:Kb β)(a0 a1:AV)(h:Hp):(ZbR [a0,a1] h).bind (λp=>K p.1 p.2)=Z7Y Tryz.prog Z8Q Z8P NN K a0 a1 h:=by
 rw[← Zqj];exact Z03 rfl
def Z1z:Fun:=ZbR
theorem Z5K:CSound Tryz.prog 99 Z1z:=ZsW
def Z8R:DFun:=wrD Z1z
theorem ZsY(a0 a1:AV)(h:Hp):Z1z [a0,a1] h=Z7Y Tryz.prog Z8Q Z8P NN (λv h=>some (v,h)) a0 a1 h:=(Z0k _).symm.trans (ZsX (λv h=>some (v,h)) a0 a1 h)
def Z8S:DTab:=D0
theorem ZsZ:DSound Tryz.prog Z8S:=DSound.zero
def Z8T:Tab:=T0
theorem Zt0:TSound Tryz.prog Z8T:=TSound.zero
def Z5L:Fun:=runF Tryz.prog Z8T Z8S NN [0,1,2] Tryz.f100 1
theorem Zt1:CSound Tryz.prog 100 Z5L:=Z00 Zt0 ZsZ mixed Tryz.func100 (by kernel_rfl) NN
theorem Zt2{β:Type}(K:Kb β)(a0:AV)(h:Hp):(Z5L [a0] h).bind (λp=>K p.1 p.2)=Z7Z Tryz.prog Z8T Z8S NN K a0 h:=by
 rw[← Zqk];exact Z03 rfl
def Z1A:Fun:=closedX [.o] [.o] Z5L
theorem Z5M:CSound Tryz.prog 100 Z1A:=Z01 _ _ Zt1
def Z5N:DFun:=closedXD [.o] [.o] Z5L
theorem ZhO:Ro Z1A Z5N:=Z0g _ _ _
theorem Zt3{a0 v:AV}(ha:plains [a0]=true)(hv:Z7Z Tryz.prog Z8T Z8S NN (λv g=>cvt false g v) a0 []=some v)(h:Hp):Z1A [a0] h=some (v,h):=by
 have e:(Z5L (nrms [.o] [a0]) []).bind (λ(p:AV × Hp)=>cvt false p.2 p.1)=some v:=(Zt2 (λv g=>cvt false g v) a0 []).trans hv
 exact (Z09 (shr:=[.o]) ha e h).trans (congrArg (λx=>some (x,h)) (Z0a 1 v))
def Z8U:DTab:=D0
theorem Zt4:DSound Tryz.prog Z8U:=DSound.zero
def Z8V:Tab:=T0
theorem Zt5:TSound Tryz.prog Z8V:=TSound.zero
def Z5O:Fun:=runF Tryz.prog Z8V Z8U NN [0,1,2] Tryz.f101 1
theorem Zt6:CSound Tryz.prog 101 Z5O:=Z00 Zt5 Zt4 mixed Tryz.func101 (by kernel_rfl) NN
theorem Zt7{β:Type}(K:Kb β)(a0:AV)(h:Hp):(Z5O [a0] h).bind (λp=>K p.1 p.2)=Z80 Tryz.prog Z8V Z8U NN K a0 h:=by
 rw[← Zql];exact Z03 rfl
def Z1B:Fun:=closedX [.o] [.o] Z5O
theorem Z5P:CSound Tryz.prog 101 Z1B:=Z01 _ _ Zt6
def Z5Q:DFun:=closedXD [.o] [.o] Z5O
theorem ZhP:Ro Z1B Z5Q:=Z0g _ _ _
theorem Zt8{a0 v:AV}(ha:plains [a0]=true)(hv:Z80 Tryz.prog Z8V Z8U NN (λv g=>cvt false g v) a0 []=some v)(h:Hp):Z1B [a0] h=some (v,h):=by
 have e:(Z5O (nrms [.o] [a0]) []).bind (λ(p:AV × Hp)=>cvt false p.2 p.1)=some v:=(Zt7 (λv g=>cvt false g v) a0 []).trans hv
 exact (Z09 (shr:=[.o]) ha e h).trans (congrArg (λx=>some (x,h)) (Z0a 1 v))
def Z8W:DTab:=D0
theorem Zt9:DSound Tryz.prog Z8W:=DSound.zero
def Z8X:Tab:=T0
theorem Zta:TSound Tryz.prog Z8X:=TSound.zero
def ZbS:Fun:=runF Tryz.prog Z8X Z8W NN [0,1] Tryz.f102 2
theorem Ztb:CSound Tryz.prog 102 ZbS:=Z00 Zta Zt9 mixed Tryz.func102 (by kernel_rfl) NN
theorem Ztc{β:Type}(K:Kb β)(a0 a1:AV)(h:Hp):(ZbS [a0,a1] h).bind (λp=>K p.1 p.2)=Z81 Tryz.prog Z8X Z8W NN K a0 a1 h:=by
 rw[← Zqm];exact Z03 rfl
def Z1C:Fun:=ZbS
theorem Z5R:CSound Tryz.prog 102 Z1C:=Ztb
def Z8Y:DFun:=wrD Z1C
theorem Ztd(a0 a1:AV)(h:Hp):Z1C [a0,a1] h=Z81 Tryz.prog Z8X Z8W NN (λv h=>some (v,h)) a0 a1 h:=(Z0k _).symm.trans (Ztc (λv h=>some (v,h)) a0 a1 h)
def Z8Z:DTab:=D0
theorem Zte:DSound Tryz.prog Z8Z:=DSound.zero
def Z5S:Tab:=(updF T0 96 Z1k)
theorem Ztf:TSound Tryz.prog Z5S:=(TSound.upd TSound.zero Z8J)
@[simp] theorem ZE5:Z5S 96=some Z1k:=rfl
def Z5T:Fun:=runF Tryz.prog Z5S Z8Z NN [0,1,2] Tryz.f103 1
theorem Ztg:CSound Tryz.prog 103 Z5T:=Z00 Ztf Zte mixed Tryz.func103 (by kernel_rfl) NN
theorem Zth{β:Type}(K:Kb β)(a0:AV)(h:Hp):(Z5T [a0] h).bind (λp=>K p.1 p.2)=Z82 Tryz.prog Z5S Z8Z NN K a0 h:=by
 rw[← Zqn];exact Z03 rfl
def Z1D:Fun:=closedX [.o] [.o] Z5T
theorem Z5U:CSound Tryz.prog 103 Z1D:=Z01 _ _ Ztg
def Z5V:DFun:=closedXD [.o] [.o] Z5T
theorem ZhQ:Ro Z1D Z5V:=Z0g _ _ _
theorem Zti{a0 v:AV}(ha:plains [a0]=true)(hv:Z82 Tryz.prog Z5S Z8Z NN (λv g=>cvt false g v) a0 []=some v)(h:Hp):Z1D [a0] h=some (v,h):=by
 have e:(Z5T (nrms [.o] [a0]) []).bind (λ(p:AV × Hp)=>cvt false p.2 p.1)=some v:=(Zth (λv g=>cvt false g v) a0 []).trans hv
 exact (Z09 (shr:=[.o]) ha e h).trans (congrArg (λx=>some (x,h)) (Z0a 1 v))
def Z90:DTab:=D0
theorem Ztj:DSound Tryz.prog Z90:=DSound.zero
def Z91:Tab:=T0
theorem Ztk:TSound Tryz.prog Z91:=TSound.zero
def ZbT:Fun:=runF Tryz.prog Z91 Z90 NN [0,1,3] Tryz.f104 2
theorem Ztl:CSound Tryz.prog 104 ZbT:=Z00 Ztk Ztj mixed Tryz.func104 (by kernel_rfl) NN
theorem Ztm{β:Type}(K:Kb β)(a0 a1:AV)(h:Hp):(ZbT [a0,a1] h).bind (λp=>K p.1 p.2)=Z83 Tryz.prog Z91 Z90 NN K a0 a1 h:=by
 rw[← Zqo];exact Z03 rfl
def Z1E:Fun:=ZbT
theorem Z5W:CSound Tryz.prog 104 Z1E:=Ztl
def Z92:DFun:=wrD Z1E
theorem Ztn(a0 a1:AV)(h:Hp):Z1E [a0,a1] h=Z83 Tryz.prog Z91 Z90 NN (λv h=>some (v,h)) a0 a1 h:=(Z0k _).symm.trans (Ztm (λv h=>some (v,h)) a0 a1 h)
def Z93:DTab:=D0
theorem Zto:DSound Tryz.prog Z93:=DSound.zero
def Z94:Tab:=T0
theorem Ztp:TSound Tryz.prog Z94:=TSound.zero
def ZbU:Fun:=runF Tryz.prog Z94 Z93 NN [0,1,3] Tryz.f105 2
theorem Ztq:CSound Tryz.prog 105 ZbU:=Z00 Ztp Zto mixed Tryz.func105 (by kernel_rfl) NN
theorem Ztr{β:Type}(K:Kb β)(a0 a1:AV)(h:Hp):(ZbU [a0,a1] h).bind (λp=>K p.1 p.2)=Z84 Tryz.prog Z94 Z93 NN K a0 a1 h:=by
 rw[← Zqp];exact Z03 rfl
def Z1F:Fun:=ZbU
theorem Z5X:CSound Tryz.prog 105 Z1F:=Ztq
def Z95:DFun:=wrD Z1F
theorem Zts(a0 a1:AV)(h:Hp):Z1F [a0,a1] h=Z84 Tryz.prog Z94 Z93 NN (λv h=>some (v,h)) a0 a1 h:=(Z0k _).symm.trans (Ztr (λv h=>some (v,h)) a0 a1 h)
def Z96:DTab:=D0
theorem Ztt:DSound Tryz.prog Z96:=DSound.zero
def Z97:Tab:=T0
theorem Ztu:TSound Tryz.prog Z97:=TSound.zero
def ZbV:Fun:=runF Tryz.prog Z97 Z96 NN [0,1,3] Tryz.f106 2
theorem Ztv:CSound Tryz.prog 106 ZbV:=Z00 Ztu Ztt mixed Tryz.func106 (by kernel_rfl) NN
theorem Ztw{β:Type}(K:Kb β)(a0 a1:AV)(h:Hp):(ZbV [a0,a1] h).bind (λp=>K p.1 p.2)=Z85 Tryz.prog Z97 Z96 NN K a0 a1 h:=by
 rw[← Zqq];exact Z03 rfl
def Z1G:Fun:=ZbV
theorem Z5Y:CSound Tryz.prog 106 Z1G:=Ztv
def Z98:DFun:=wrD Z1G
theorem Ztx(a0 a1:AV)(h:Hp):Z1G [a0,a1] h=Z85 Tryz.prog Z97 Z96 NN (λv h=>some (v,h)) a0 a1 h:=(Z0k _).symm.trans (Ztw (λv h=>some (v,h)) a0 a1 h)
def Z99:DTab:=D0
theorem Zty:DSound Tryz.prog Z99:=DSound.zero
def Z3J:Tab:=(updF (updF T0 49 Z0v) 96 Z1k)
theorem Ztz:TSound Tryz.prog Z3J:=(TSound.upd (TSound.upd TSound.zero Z2X) Z8J)
@[simp] theorem ZE6:Z3J 49=some Z0v:=rfl
@[simp] theorem ZE7:Z3J 96=some Z1k:=rfl
def Z5Z:Fun:=runF Tryz.prog Z3J Z99 NN [0,1,2] Tryz.f107 1
theorem ZtA:CSound Tryz.prog 107 Z5Z:=Z00 Ztz Zty mixed Tryz.func107 (by kernel_rfl) NN
theorem ZtB{β:Type}(K:Kb β)(a0:AV)(h:Hp):(Z5Z [a0] h).bind (λp=>K p.1 p.2)=Z86 Tryz.prog Z3J Z99 NN K a0 h:=by
 rw[← Zqr];exact Z03 rfl
def Z1H:Fun:=closedX [.o] [.o] Z5Z
theorem Z60:CSound Tryz.prog 107 Z1H:=Z01 _ _ ZtA
def Z61:DFun:=closedXD [.o] [.o] Z5Z
theorem ZhR:Ro Z1H Z61:=Z0g _ _ _
theorem ZtC{a0 v:AV}(ha:plains [a0]=true)(hv:Z86 Tryz.prog Z3J Z99 NN (λv g=>cvt false g v) a0 []=some v)(h:Hp):Z1H [a0] h=some (v,h):=by
 have e:(Z5Z (nrms [.o] [a0]) []).bind (λ(p:AV × Hp)=>cvt false p.2 p.1)=some v:=(ZtB (λv g=>cvt false g v) a0 []).trans hv
 exact (Z09 (shr:=[.o]) ha e h).trans (congrArg (λx=>some (x,h)) (Z0a 1 v))
def Z9a:DTab:=D0
theorem ZtD:DSound Tryz.prog Z9a:=DSound.zero
def Z9b:Tab:=T0
theorem ZtE:TSound Tryz.prog Z9b:=TSound.zero
def ZbW:Fun:=runF Tryz.prog Z9b Z9a NN [0,1,3] Tryz.f108 2
theorem ZtF:CSound Tryz.prog 108 ZbW:=Z00 ZtE ZtD mixed Tryz.func108 (by kernel_rfl) NN
theorem ZtG{β:Type}(K:Kb β)(a0 a1:AV)(h:Hp):(ZbW [a0,a1] h).bind (λp=>K p.1 p.2)=Z87 Tryz.prog Z9b Z9a NN K a0 a1 h:=by
 rw[← Zqs];exact Z03 rfl
def Z1I:Fun:=ZbW
theorem Z62:CSound Tryz.prog 108 Z1I:=ZtF
def Z9c:DFun:=wrD Z1I
theorem ZtH(a0 a1:AV)(h:Hp):Z1I [a0,a1] h=Z87 Tryz.prog Z9b Z9a NN (λv h=>some (v,h)) a0 a1 h:=(Z0k _).symm.trans (ZtG (λv h=>some (v,h)) a0 a1 h)
def Z63:DTab:=D0
theorem ZtI:DSound Tryz.prog Z63:=DSound.zero
def Z0l:Tab:=(updF (updF (updF (updF (updF (updF (updF (updF (updF (updF (updF (updF (updF (updF (updF (updF T0 92 Z1t) 93 Z1u) 94 Z1v) 95 Z1w) 97 Z1x) 98 Z1y) 99 Z1z) 100 Z1A) 101 Z1B) 102 Z1C) 103 Z1D) 104 Z1E) 105 Z1F) 106 Z1G) 107 Z1H) 108 Z1I)
theorem ZtJ:TSound Tryz.prog Z0l:=(TSound.upd (TSound.upd (TSound.upd (TSound.upd (TSound.upd (TSound.upd (TSound.upd (TSound.upd (TSound.upd (TSound.upd (TSound.upd (TSound.upd (TSound.upd (TSound.upd (TSound.upd (TSound.upd TSound.zero Z5r) Z5u) Z5z) Z5D) Z5F) Z5I) Z5K) Z5M) Z5P) Z5R) Z5U) Z5W) Z5X) Z5Y) Z60) Z62)
@[simp] theorem ZE8:Z0l 92=some Z1t:=rfl
@[simp] theorem ZE9:Z0l 93=some Z1u:=rfl
@[simp] theorem ZEa:Z0l 94=some Z1v:=rfl
@[simp] theorem ZEb:Z0l 95=some Z1w:=rfl
@[simp] theorem ZEc:Z0l 97=some Z1x:=rfl
@[simp] theorem ZEd:Z0l 98=some Z1y:=rfl
@[simp] theorem ZEe:Z0l 99=some Z1z:=rfl
@[simp] theorem ZEf:Z0l 100=some Z1A:=rfl
@[simp] theorem ZEg:Z0l 101=some Z1B:=rfl
@[simp] theorem ZEh:Z0l 102=some Z1C:=rfl
@[simp] theorem ZEi:Z0l 103=some Z1D:=rfl
@[simp] theorem ZEj:Z0l 104=some Z1E:=rfl
@[simp] theorem ZEk:Z0l 105=some Z1F:=rfl
@[simp] theorem ZEl:Z0l 106=some Z1G:=rfl
@[simp] theorem ZEm:Z0l 107=some Z1H:=rfl
@[simp] theorem ZEn:Z0l 108=some Z1I:=rfl
def Z9d:Fun:=runF Tryz.prog Z0l Z63 NN [0,1,2,3] Tryz.f47 0
theorem ZtK:CSound Tryz.prog 47 Z9d:=Z00 ZtJ ZtI mixed Tryz.func47 (by kernel_rfl) NN
theorem ZtL{β:Type}(K:Kb β)(h:Hp):(Z9d [] h).bind (λp=>K p.1 p.2)=Z4O Tryz.prog Z0l Z63 NN K  h:=by
 rw[← ZpK];exact Z03 rfl
def Z20:Fun:=quietT Z9d
theorem Z9e:CSound Tryz.prog 47 Z20:=Z1R ZtK
def Z3K:DFun:=roD Z20
theorem ZhS:Ro Z20 Z3K:=ro_ro _
theorem ZtM{h:Hp}{g:List AObj}{v:AV}(hv:Z4O Tryz.prog Z0l Z63 NN (λv h=>some (v,h))  h=some (v,h++g))(hp:plain v=true):Z20 [] h=some (v,h):=Z1Q (F:=Z9d) (((Z0k _).symm.trans (ZtL (λv h=>some (v,h))  h)).trans hv) hp
def Z0f:DTab:=(updD (updD (updD (updD (updD (updD (updD (updD (updD (updD (updD (updD (updD (updD (updD (updD (updD (updD D0 47 Z3K) 49 Z8F) 92 Z5s) 93 Z5v) 94 Z5A) 95 Z5E) 97 Z8N) 98 Z5J) 99 Z8R) 100 Z5N) 101 Z5Q) 102 Z8Y) 103 Z5V) 104 Z92) 105 Z95) 106 Z98) 107 Z61) 108 Z9c)
theorem ZtN:DSound Tryz.prog Z0f:=(DSound.wr (DSound.ro (DSound.wr (DSound.wr (DSound.wr (DSound.ro (DSound.wr (DSound.ro (DSound.ro (DSound.wr (DSound.ro (DSound.wr (DSound.ro (DSound.ro (DSound.ro (DSound.ro (DSound.ro (DSound.ro DSound.zero ZhS Z9e) Zst Z2X) ZhJ Z5r) ZhK Z5u) ZhL Z5z) ZhM Z5D) Z5F) ZhN Z5I) Z5K) ZhO Z5M) ZhP Z5P) Z5R) ZhQ Z5U) Z5W) Z5X) Z5Y) ZhR Z60) Z62)
@[simp] theorem ZEo:Z0f 47=some Z3K:=rfl
@[simp] theorem ZEp:Z0f 49=some Z8F:=rfl
@[simp] theorem ZEq:Z0f 92=some Z5s:=rfl
@[simp] theorem ZEr:Z0f 93=some Z5v:=rfl
@[simp] theorem ZEs:Z0f 94=some Z5A:=rfl
@[simp] theorem ZEt:Z0f 95=some Z5E:=rfl
@[simp] theorem ZEu:Z0f 97=some Z8N:=rfl
@[simp] theorem ZEv:Z0f 98=some Z5J:=rfl
@[simp] theorem ZEw:Z0f 99=some Z8R:=rfl
@[simp] theorem ZEx:Z0f 100=some Z5N:=rfl
@[simp] theorem ZEy:Z0f 101=some Z5Q:=rfl
@[simp] theorem ZEz:Z0f 102=some Z8Y:=rfl
@[simp] theorem ZEA:Z0f 103=some Z5V:=rfl
@[simp] theorem ZEB:Z0f 104=some Z92:=rfl
@[simp] theorem ZEC:Z0f 105=some Z95:=rfl
@[simp] theorem ZED:Z0f 106=some Z98:=rfl
@[simp] theorem ZEE:Z0f 107=some Z61:=rfl
@[simp] theorem ZEF:Z0f 108=some Z9c:=rfl
def Z0j:Tab:=(updF (updF (updF (updF (updF (updF (updF (updF (updF (updF (updF (updF (updF (updF (updF (updF (updF (updF T0 47 Z20) 49 Z0v) 92 Z1t) 93 Z1u) 94 Z1v) 95 Z1w) 97 Z1x) 98 Z1y) 99 Z1z) 100 Z1A) 101 Z1B) 102 Z1C) 103 Z1D) 104 Z1E) 105 Z1F) 106 Z1G) 107 Z1H) 108 Z1I)
theorem ZtO:TSound Tryz.prog Z0j:=(TSound.upd (TSound.upd (TSound.upd (TSound.upd (TSound.upd (TSound.upd (TSound.upd (TSound.upd (TSound.upd (TSound.upd (TSound.upd (TSound.upd (TSound.upd (TSound.upd (TSound.upd (TSound.upd (TSound.upd (TSound.upd TSound.zero Z9e) Z2X) Z5r) Z5u) Z5z) Z5D) Z5F) Z5I) Z5K) Z5M) Z5P) Z5R) Z5U) Z5W) Z5X) Z5Y) Z60) Z62)
@[simp] theorem ZEG:Z0j 47=some Z20:=rfl
@[simp] theorem ZEH:Z0j 49=some Z0v:=rfl
@[simp] theorem ZEI:Z0j 92=some Z1t:=rfl
@[simp] theorem ZEJ:Z0j 93=some Z1u:=rfl
@[simp] theorem ZEK:Z0j 94=some Z1v:=rfl
@[simp] theorem ZEL:Z0j 95=some Z1w:=rfl
@[simp] theorem ZEM:Z0j 97=some Z1x:=rfl
@[simp] theorem ZEN:Z0j 98=some Z1y:=rfl
@[simp] theorem ZEO:Z0j 99=some Z1z:=rfl
@[simp] theorem ZEP:Z0j 100=some Z1A:=rfl
@[simp] theorem ZEQ:Z0j 101=some Z1B:=rfl
@[simp] theorem ZER:Z0j 102=some Z1C:=rfl
@[simp] theorem ZES:Z0j 103=some Z1D:=rfl
@[simp] theorem ZET:Z0j 104=some Z1E:=rfl
@[simp] theorem ZEU:Z0j 105=some Z1F:=rfl
@[simp] theorem ZEV:Z0j 106=some Z1G:=rfl
@[simp] theorem ZEW:Z0j 107=some Z1H:=rfl
@[simp] theorem ZEX:Z0j 108=some Z1I:=rfl
def Z64:Fun:=runF Tryz.prog Z0j Z0f NN [0,1,2,3,4,7,8,28,29,34,53,76] Tryz.f46 4
theorem ZtP:CSound Tryz.prog 46 Z64:=Z00 ZtO ZtN mixed Tryz.func46 (by kernel_rfl) NN
theorem ZtQ{β:Type}(K:Kb β)(a0 a1 a2 a3:AV)(h:Hp):(Z64 [a0,a1,a2,a3] h).bind (λp=>K p.1 p.2)=Z0p Tryz.prog Z0j Z0f NN K a0 a1 a2 a3 h:=by
 rw[← ZpJ];exact Z03 rfl
def Z3L:Fun:=closedX [.o,.o,.o,.o] [.o] Z64
theorem ZhT:CSound Tryz.prog 46 Z3L:=Z01 _ _ ZtP
def ZbX:DFun:=closedXD [.o,.o,.o,.o] [.o] Z64
theorem ZtR:Ro Z3L ZbX:=Z0g _ _ _
theorem ZtS{a0 a1 a2 a3 v:AV}(ha:plains [a0,a1,a2,a3]=true)(hv:Z0p Tryz.prog Z0j Z0f NN (λv g=>cvt false g v) a0 a1 a2 a3 []=some v)(h:Hp):Z3L [a0,a1,a2,a3] h=some (v,h):=by
 have e:(Z64 (nrms [.o,.o,.o,.o] [a0,a1,a2,a3]) []).bind (λ(p:AV × Hp)=>cvt false p.2 p.1)=some v:=(ZtQ (λv g=>cvt false g v) a0 a1 a2 a3 []).trans hv
 exact (Z09 (shr:=[.o]) ha e h).trans (congrArg (λx=>some (x,h)) (Z0a 1 v))
def Z0c:DTab:=(updD (updD (updD (updD (updD (updD (updD (updD (updD (updD (updD (updD (updD (updD (updD (updD (updD (updD D0 46 ZbX) 47 Z3K) 92 Z5s) 93 Z5v) 94 Z5A) 95 Z5E) 97 Z8N) 98 Z5J) 99 Z8R) 100 Z5N) 101 Z5Q) 102 Z8Y) 103 Z5V) 104 Z92) 105 Z95) 106 Z98) 107 Z61) 108 Z9c)
theorem ZtT:DSound Tryz.prog Z0c:=(DSound.wr (DSound.ro (DSound.wr (DSound.wr (DSound.wr (DSound.ro (DSound.wr (DSound.ro (DSound.ro (DSound.wr (DSound.ro (DSound.wr (DSound.ro (DSound.ro (DSound.ro (DSound.ro (DSound.ro (DSound.ro DSound.zero ZtR ZhT) ZhS Z9e) ZhJ Z5r) ZhK Z5u) ZhL Z5z) ZhM Z5D) Z5F) ZhN Z5I) Z5K) ZhO Z5M) ZhP Z5P) Z5R) ZhQ Z5U) Z5W) Z5X) Z5Y) ZhR Z60) Z62)
@[simp] theorem ZEY:Z0c 46=some ZbX:=rfl
@[simp] theorem ZEZ:Z0c 47=some Z3K:=rfl
@[simp] theorem ZF0:Z0c 92=some Z5s:=rfl
@[simp] theorem ZF1:Z0c 93=some Z5v:=rfl
@[simp] theorem ZF2:Z0c 94=some Z5A:=rfl
@[simp] theorem ZF3:Z0c 95=some Z5E:=rfl
@[simp] theorem ZF4:Z0c 97=some Z8N:=rfl
@[simp] theorem ZF5:Z0c 98=some Z5J:=rfl
@[simp] theorem ZF6:Z0c 99=some Z8R:=rfl
@[simp] theorem ZF7:Z0c 100=some Z5N:=rfl
@[simp] theorem ZF8:Z0c 101=some Z5Q:=rfl
@[simp] theorem ZF9:Z0c 102=some Z8Y:=rfl
@[simp] theorem ZFa:Z0c 103=some Z5V:=rfl
@[simp] theorem ZFb:Z0c 104=some Z92:=rfl
@[simp] theorem ZFc:Z0c 105=some Z95:=rfl
@[simp] theorem ZFd:Z0c 106=some Z98:=rfl
@[simp] theorem ZFe:Z0c 107=some Z61:=rfl
@[simp] theorem ZFf:Z0c 108=some Z9c:=rfl
def Z0e:Tab:=(updF (updF (updF (updF (updF (updF (updF (updF (updF (updF (updF (updF (updF (updF (updF (updF (updF (updF T0 46 Z3L) 47 Z20) 92 Z1t) 93 Z1u) 94 Z1v) 95 Z1w) 97 Z1x) 98 Z1y) 99 Z1z) 100 Z1A) 101 Z1B) 102 Z1C) 103 Z1D) 104 Z1E) 105 Z1F) 106 Z1G) 107 Z1H) 108 Z1I)
theorem ZtU:TSound Tryz.prog Z0e:=(TSound.upd (TSound.upd (TSound.upd (TSound.upd (TSound.upd (TSound.upd (TSound.upd (TSound.upd (TSound.upd (TSound.upd (TSound.upd (TSound.upd (TSound.upd (TSound.upd (TSound.upd (TSound.upd (TSound.upd (TSound.upd TSound.zero ZhT) Z9e) Z5r) Z5u) Z5z) Z5D) Z5F) Z5I) Z5K) Z5M) Z5P) Z5R) Z5U) Z5W) Z5X) Z5Y) Z60) Z62)
@[simp] theorem ZtV:Z0e 46=some Z3L:=rfl
@[simp] theorem ZFg:Z0e 47=some Z20:=rfl
@[simp] theorem ZFh:Z0e 92=some Z1t:=rfl
@[simp] theorem ZFi:Z0e 93=some Z1u:=rfl
@[simp] theorem ZFj:Z0e 94=some Z1v:=rfl
@[simp] theorem ZFk:Z0e 95=some Z1w:=rfl
@[simp] theorem ZFl:Z0e 97=some Z1x:=rfl
@[simp] theorem ZFm:Z0e 98=some Z1y:=rfl
@[simp] theorem ZFn:Z0e 99=some Z1z:=rfl
@[simp] theorem ZFo:Z0e 100=some Z1A:=rfl
@[simp] theorem ZFp:Z0e 101=some Z1B:=rfl
@[simp] theorem ZFq:Z0e 102=some Z1C:=rfl
@[simp] theorem ZFr:Z0e 103=some Z1D:=rfl
@[simp] theorem ZFs:Z0e 104=some Z1E:=rfl
@[simp] theorem ZFt:Z0e 105=some Z1F:=rfl
@[simp] theorem ZFu:Z0e 106=some Z1G:=rfl
@[simp] theorem ZFv:Z0e 107=some Z1H:=rfl
@[simp] theorem ZFw:Z0e 108=some Z1I:=rfl
def Z9f:Fun:=runF Tryz.prog Z0e Z0c NN [0,2,3,4,5,6,7,8,9,12,14,15,16,17,28] Tryz.f19 1
theorem ZtW:CSound Tryz.prog 19 Z9f:=Z00 ZtU ZtT mixed Tryz.func19 (by kernel_rfl) NN
theorem ZtX{β:Type}(K:Kb β)(a0:AV)(h:Hp):(Z9f [a0] h).bind (λp=>K p.1 p.2)=Z3n Tryz.prog Z0e Z0c NN K a0 h:=by
 rw[← Zp0];exact Z03 rfl
def Z2n:Fun:=closedX [.l 5] [.o,.o,.o] Z9f
theorem ZhU:CSound Tryz.prog 19 Z2n:=Z01 _ _ ZtW
theorem ZtY{a0 v:AV}(ha:plains [a0]=true)(hv:Z3n Tryz.prog Z0e Z0c NN (λv g=>cvt false g v) (nrm (.l 5) a0) []=some v)(h:Hp):Z2n [a0] h=some (v,h):=by
 have e:(Z9f (nrms [.l 5] [a0]) []).bind (λ(p:AV × Hp)=>cvt false p.2 p.1)=some v:=(ZtX (λv g=>cvt false g v) (nrm (.l 5) a0) []).trans hv
 exact (Z09 (shr:=[.o,.o,.o]) ha e h).trans (congrArg (λx=>some (x,h)) (Z0a 3 v))
def Z9g:DTab:=D0
theorem ZtZ:DSound Tryz.prog Z9g:=DSound.zero
def Z65:Tab:=(updF T0 19 Z2n)
theorem Zu0:TSound Tryz.prog Z65:=(TSound.upd TSound.zero ZhU)
@[simp] theorem ZFx:Z65 19=some Z2n:=rfl
def Z9h:Fun:=runF Tryz.prog Z65 Z9g NN [0,2,5] Tryz.f48 1
theorem Zu1:CSound Tryz.prog 48 Z9h:=Z00 Zu0 ZtZ mixed Tryz.func48 (by kernel_rfl) NN
theorem Zu2{β:Type}(K:Kb β)(a0:AV)(h:Hp):(Z9h [a0] h).bind (λp=>K p.1 p.2)=Z7E Tryz.prog Z65 Z9g NN K a0 h:=by
 rw[← ZpL];exact Z03 rfl
def Z66:Fun:=closedX [.l 5] [.o] Z9h
theorem Zu3:CSound Tryz.prog 48 Z66:=Z01 _ _ Zu1
theorem Zu4{a0 v:AV}(ha:plains [a0]=true)(hv:Z7E Tryz.prog Z65 Z9g NN (λv g=>cvt false g v) (nrm (.l 5) a0) []=some v)(h:Hp):Z66 [a0] h=some (v,h):=by
 have e:(Z9h (nrms [.l 5] [a0]) []).bind (λ(p:AV × Hp)=>cvt false p.2 p.1)=some v:=(Zu2 (λv g=>cvt false g v) (nrm (.l 5) a0) []).trans hv
 exact (Z09 (shr:=[.o]) ha e h).trans (congrArg (λx=>some (x,h)) (Z0a 1 v))
def Z67:DTab:=D0
theorem Zu5:DSound Tryz.prog Z67:=DSound.zero
def Z2Y:Tab:=(updF (updF T0 48 Z66) 49 Z0v)
theorem Zu6:TSound Tryz.prog Z2Y:=(TSound.upd (TSound.upd TSound.zero Zu3) Z2X)
@[simp] theorem Zu7:Z2Y 48=some Z66:=rfl
@[simp] theorem Zu8:Z2Y 49=some Z0v:=rfl
def Z9i:Fun:=runF Tryz.prog Z2Y Z67 NN [0,1,4,5,6,7,9,10,11,15,19,20,21,22,30,31,43,53,74] Tryz.f21 2
theorem Zu9:CSound Tryz.prog 21 Z9i:=Z00 Zu6 Zu5 mixed Tryz.func21 (by kernel_rfl) NN
theorem Zua{β:Type}(K:Kb β)(a0 a1:AV)(h:Hp):(Z9i [a0,a1] h).bind (λp=>K p.1 p.2)=Z4B Tryz.prog Z2Y Z67 NN K a0 a1 h:=by
 rw[← Zp8];exact Z03 rfl
def Z68:Fun:=closedX [.l 5,.o] [.l 7,.o] Z9i
theorem Zub:CSound Tryz.prog 21 Z68:=Z01 _ _ Zu9
theorem Zuc{a0 a1 x0 x1:AV}{h:Hp}{v:AV}(ha:cvts false h [x0,x1]=some [a0,a1])(hv:∀st,Z4B Tryz.prog Z2Y Z67 NN (λv g=>cvt st g v) (nrm (.l 5) a0) a1 []=some v):Z68 [x0,x1] h=some ((nrmR [.l 7,.o] v),h):=by
 have e:∀st,(Z9i (nrms [.l 5,.o] [a0,a1]) []).bind (λ(p:AV × Hp)=>cvt st p.2 p.1)=some v:=λst=>(Zua (λv g=>cvt st g v) (nrm (.l 5) a0) a1 []).trans (hv st)
 exact (Z25 (shr:=[.l 7,.o]) ha e).trans (congrArg (λx=>some (x,h)) rfl)
def ZhV:DTab:=D0
theorem Zud:DSound Tryz.prog ZhV:=DSound.zero
def ZhW:Tab:=T0
theorem Zue:TSound Tryz.prog ZhW:=TSound.zero
def ZhX:Fun:=runF Tryz.prog ZhW ZhV NL [0,1,2,6] Tryz.f109 3
theorem Zuf:CSound Tryz.prog 109 ZhX:=Z00 Zue Zud mixed Tryz.func109 (by kernel_rfl) NL
def Z69:Fun:=closedX [.o,.o,.o] [.o] ZhX
theorem ZhY:CSound Tryz.prog 109 Z69:=Z01 _ _ Zuf
def ZhZ:DTab:=D0
theorem Zug:DSound Tryz.prog ZhZ:=DSound.zero
def Zi0:Tab:=T0
theorem Zuh:TSound Tryz.prog Zi0:=TSound.zero
def Zi1:Fun:=runF Tryz.prog Zi0 ZhZ NL [0,1,2,3,4,9,19] Tryz.f110 2
theorem Zui:CSound Tryz.prog 110 Zi1:=Z00 Zuh Zug mixed Tryz.func110 (by kernel_rfl) NL
def Z6a:Fun:=closedX [.o,.o] [.o] Zi1
theorem Zi2:CSound Tryz.prog 110 Z6a:=Z01 _ _ Zui
def Zi3:DTab:=D0
theorem Zuj:DSound Tryz.prog Zi3:=DSound.zero
def Z9j:Tab:=(updF (updF T0 109 Z69) 110 Z6a)
theorem Zuk:TSound Tryz.prog Z9j:=(TSound.upd (TSound.upd TSound.zero ZhY) Zi2)
@[simp] theorem ZFy:Z9j 109=some Z69:=rfl
@[simp] theorem ZFz:Z9j 110=some Z6a:=rfl
def Zi4:Fun:=runF Tryz.prog Z9j Zi3 NL [0,2,3,4,5,8,9,10,11,12,16,40] Tryz.f50 1
theorem Zul:CSound Tryz.prog 50 Zi4:=Z00 Zuk Zuj mixed Tryz.func50 (by kernel_rfl) NL
def Z3M:Fun:=closedX [.l 4] [.o,.o] Zi4
theorem Zi5:CSound Tryz.prog 50 Z3M:=Z01 _ _ Zul
def Zi6:DTab:=D0
theorem Zum:DSound Tryz.prog Zi6:=DSound.zero
def Zi7:Tab:=T0
theorem Zun:TSound Tryz.prog Zi7:=TSound.zero
def Zi8:Fun:=runF Tryz.prog Zi7 Zi6 NL [0,2] Tryz.f172 1
theorem Zuo:CSound Tryz.prog 172 Zi8:=Z00 Zun Zum mixed Tryz.func172 (by kernel_rfl) NL
def ZbY:Fun:=closedX [.o] [.o] Zi8
theorem Zup:CSound Tryz.prog 172 ZbY:=Z01 _ _ Zuo
def Zi9:DTab:=D0
theorem Zuq:DSound Tryz.prog Zi9:=DSound.zero
def ZbZ:Tab:=(updF T0 172 ZbY)
theorem Zur:TSound Tryz.prog ZbZ:=(TSound.upd TSound.zero Zup)
@[simp] theorem ZFA:ZbZ 172=some ZbY:=rfl
def Zia:Fun:=runF Tryz.prog ZbZ Zi9 NL [0,2] Tryz.f171 1
theorem Zus:CSound Tryz.prog 171 Zia:=Z00 Zur Zuq mixed Tryz.func171 (by kernel_rfl) NL
def Z6b:Fun:=closedX [.o] [.o] Zia
theorem Zib:CSound Tryz.prog 171 Z6b:=Z01 _ _ Zus
def Zic:DTab:=D0
theorem Zut:DSound Tryz.prog Zic:=DSound.zero
def Zc0:Tab:=(updF T0 171 Z6b)
theorem Zuu:TSound Tryz.prog Zc0:=(TSound.upd TSound.zero Zib)
@[simp] theorem ZFB:Zc0 171=some Z6b:=rfl
def Zid:Fun:=runF Tryz.prog Zc0 Zic NL [0,1,4,5,7,8,9,16] Tryz.f43 2
theorem Zuv:CSound Tryz.prog 43 Zid:=Z00 Zuu Zut mixed Tryz.func43 (by kernel_rfl) NL
def Zc1:Fun:=closedX [.l 1,.o] [.o] Zid
theorem Zuw:CSound Tryz.prog 43 Zc1:=Z01 _ _ Zuv
def Zie:DTab:=D0
theorem Zux:DSound Tryz.prog Zie:=DSound.zero
def Zc2:Tab:=(updF T0 43 Zc1)
theorem Zuy:TSound Tryz.prog Zc2:=(TSound.upd TSound.zero Zuw)
@[simp] theorem ZFC:Zc2 43=some Zc1:=rfl
def Zif:Fun:=runF Tryz.prog Zc2 Zie NL [0,1,4] Tryz.f12 2
theorem Zuz:CSound Tryz.prog 12 Zif:=Z00 Zuy Zux mixed Tryz.func12 (by kernel_rfl) NL
def Zc3:Fun:=closedX [.l 1,.o] [.o] Zif
theorem ZuA:CSound Tryz.prog 12 Zc3:=Z01 _ _ Zuz
def Zig:DTab:=D0
theorem ZuB:DSound Tryz.prog Zig:=DSound.zero
def Z9k:Tab:=(updF (updF T0 12 Zc3) 171 Z6b)
theorem ZuC:TSound Tryz.prog Z9k:=(TSound.upd (TSound.upd TSound.zero ZuA) Zib)
@[simp] theorem ZFD:Z9k 12=some Zc3:=rfl
@[simp] theorem ZFE:Z9k 171=some Z6b:=rfl
def Zih:Fun:=runF Tryz.prog Z9k Zig NL [0,2] Tryz.f131 1
theorem ZuD:CSound Tryz.prog 131 Zih:=Z00 ZuC ZuB mixed Tryz.func131 (by kernel_rfl) NL
def Zc4:Fun:=closedX [.l 1] [.o] Zih
theorem ZuE:CSound Tryz.prog 131 Zc4:=Z01 _ _ ZuD
def Zii:DTab:=D0
theorem ZuF:DSound Tryz.prog Zii:=DSound.zero
def Zij:Tab:=T0
theorem ZuG:TSound Tryz.prog Zij:=TSound.zero
def Zik:Fun:=runF Tryz.prog Zij Zii NL [0,1,4,5,6,7,8,9,10,11,12,13] Tryz.f199 2
theorem ZuH:CSound Tryz.prog 199 Zik:=Z00 ZuG ZuF mixed Tryz.func199 (by kernel_rfl) NL
def Zc5:Fun:=closedX [.o,.o] [.o,.o] Zik
theorem ZuI:CSound Tryz.prog 199 Zc5:=Z01 _ _ ZuH
def Zil:DTab:=D0
theorem ZuJ:DSound Tryz.prog Zil:=DSound.zero
def Zc6:Tab:=(updF T0 199 Zc5)
theorem ZuK:TSound Tryz.prog Zc6:=(TSound.upd TSound.zero ZuI)
@[simp] theorem ZFF:Zc6 199=some Zc5:=rfl
def Zim:Fun:=runF Tryz.prog Zc6 Zil NL [0,1,4,5,6] Tryz.f173 2
theorem ZuL:CSound Tryz.prog 173 Zim:=Z00 ZuK ZuJ mixed Tryz.func173 (by kernel_rfl) NL
def Zc7:Fun:=closedX [.o,.o] [.o] Zim
theorem ZuM:CSound Tryz.prog 173 Zc7:=Z01 _ _ ZuL
def Zin:DTab:=D0
theorem ZuN:DSound Tryz.prog Zin:=DSound.zero
def Zio:Tab:=T0
theorem ZuO:TSound Tryz.prog Zio:=TSound.zero
def Zip:Fun:=runF Tryz.prog Zio Zin NL [0,2,4,8,14] Tryz.f189 1
theorem ZuP:CSound Tryz.prog 189 Zip:=Z00 ZuO ZuN mixed Tryz.func189 (by kernel_rfl) NL
def Z6c:Fun:=closedX [.o] [.o] Zip
theorem Ziq:CSound Tryz.prog 189 Z6c:=Z01 _ _ ZuP
def Zir:DTab:=D0
theorem ZuQ:DSound Tryz.prog Zir:=DSound.zero
def Zc8:Tab:=(updF T0 189 Z6c)
theorem ZuR:TSound Tryz.prog Zc8:=(TSound.upd TSound.zero Ziq)
@[simp] theorem ZFG:Zc8 189=some Z6c:=rfl
def Zis:Fun:=runF Tryz.prog Zc8 Zir NL [0,2] Tryz.f200 1
theorem ZuS:CSound Tryz.prog 200 Zis:=Z00 ZuR ZuQ mixed Tryz.func200 (by kernel_rfl) NL
def Zc9:Fun:=closedX [.o] [.o] Zis
theorem ZuT:CSound Tryz.prog 200 Zc9:=Z01 _ _ ZuS
def Zit:DTab:=D0
theorem ZuU:DSound Tryz.prog Zit:=DSound.zero
def Zca:Tab:=(updF T0 200 Zc9)
theorem ZuV:TSound Tryz.prog Zca:=(TSound.upd TSound.zero ZuT)
@[simp] theorem ZFH:Zca 200=some Zc9:=rfl
def Ziu:Fun:=runF Tryz.prog Zca Zit NL [0,1,2,6,7,8,9,10,11,12,13,14,15,16,17,18,20,24,27,78,85,113,120] Tryz.f174 3
theorem ZuW:CSound Tryz.prog 174 Ziu:=Z00 ZuV ZuU mixed Tryz.func174 (by kernel_rfl) NL
def Zcb:Fun:=closedX [.o,.o,.o] [.o,.o] Ziu
theorem ZuX:CSound Tryz.prog 174 Zcb:=Z01 _ _ ZuW
def Ziv:DTab:=D0
theorem ZuY:DSound Tryz.prog Ziv:=DSound.zero
def Z9l:Tab:=(updF (updF T0 173 Zc7) 174 Zcb)
theorem ZuZ:TSound Tryz.prog Z9l:=(TSound.upd (TSound.upd TSound.zero ZuM) ZuX)
@[simp] theorem ZFI:Z9l 173=some Zc7:=rfl
@[simp] theorem ZFJ:Z9l 174=some Zcb:=rfl
def Ziw:Fun:=runF Tryz.prog Z9l Ziv NL [0,1,2,6,7,8,9,10,11,19,31] Tryz.f132 3
theorem Zv0:CSound Tryz.prog 132 Ziw:=Z00 ZuZ ZuY mixed Tryz.func132 (by kernel_rfl) NL
def Zcc:Fun:=closedX [.o,.o,.o] [.o,.o,.o] Ziw
theorem Zv1:CSound Tryz.prog 132 Zcc:=Z01 _ _ Zv0
def Zix:DTab:=D0
theorem Zv2:DSound Tryz.prog Zix:=DSound.zero
def Z9m:Tab:=(updF (updF T0 131 Zc4) 132 Zcc)
theorem Zv3:TSound Tryz.prog Z9m:=(TSound.upd (TSound.upd TSound.zero ZuE) Zv1)
@[simp] theorem ZFK:Z9m 131=some Zc4:=rfl
@[simp] theorem ZFL:Z9m 132=some Zcc:=rfl
def Ziy:Fun:=runF Tryz.prog Z9m Zix NL [0,1,2,6,7,8,9,10,11,17,19,29] Tryz.f70 3
theorem Zv4:CSound Tryz.prog 70 Ziy:=Z00 Zv3 Zv2 mixed Tryz.func70 (by kernel_rfl) NL
def Zcd:Fun:=closedX [.o,.o,.o] [.o,.o,.o] Ziy
theorem Zv5:CSound Tryz.prog 70 Zcd:=Z01 _ _ Zv4
def Ziz:DTab:=D0
theorem Zv6:DSound Tryz.prog Ziz:=DSound.zero
def Zce:Tab:=(updF T0 50 Z3M)
theorem Zv7:TSound Tryz.prog Zce:=(TSound.upd TSound.zero Zi5)
@[simp] theorem ZFM:Zce 50=some Z3M:=rfl
def ZiA:Fun:=runF Tryz.prog Zce Ziz NL [0,2,4] Tryz.f111 1
theorem Zv8:CSound Tryz.prog 111 ZiA:=Z00 Zv7 Zv6 mixed Tryz.func111 (by kernel_rfl) NL
def Zcf:Fun:=closedX [.l 4] [.o] ZiA
theorem Zv9:CSound Tryz.prog 111 Zcf:=Z01 _ _ Zv8
def ZiB:DTab:=D0
theorem Zva:DSound Tryz.prog ZiB:=DSound.zero
def ZiC:Tab:=T0
theorem Zvb:TSound Tryz.prog ZiC:=TSound.zero
def ZiD:Fun:=runF Tryz.prog ZiC ZiB NL [0,1,2,4] Tryz.f194 3
theorem Zvc:CSound Tryz.prog 194 ZiD:=Z00 Zvb Zva mixed Tryz.func194 (by kernel_rfl) NL
def Z6d:Fun:=ZiD
theorem ZiE:CSound Tryz.prog 194 Z6d:=Zvc
def ZiF:DTab:=D0
theorem Zvd:DSound Tryz.prog ZiF:=DSound.zero
def Zcg:Tab:=(updF T0 194 Z6d)
theorem Zve:TSound Tryz.prog Zcg:=(TSound.upd TSound.zero ZiE)
@[simp] theorem ZFN:Zcg 194=some Z6d:=rfl
def ZiG:Fun:=runF Tryz.prog Zcg ZiF NL [0,1,4,5,6,7,11,21] Tryz.f126 2
theorem Zvf:CSound Tryz.prog 126 ZiG:=Z00 Zve Zvd mixed Tryz.func126 (by kernel_rfl) NL
def Zch:Fun:=ZiG
theorem Zvg:CSound Tryz.prog 126 Zch:=Zvf
def ZiH:DTab:=D0
theorem Zvh:DSound Tryz.prog ZiH:=DSound.zero
def ZiI:Tab:=T0
theorem Zvi:TSound Tryz.prog ZiI:=TSound.zero
def Zci:Fun:=runF Tryz.prog ZiI ZiH NL [0,2] Tryz.f214 1
theorem Zvj:CSound Tryz.prog 214 Zci:=Z00 Zvi Zvh mixed Tryz.func214 (by kernel_rfl) NL
def Z3N:Fun:=closedX [.o] [.o] Zci
theorem Zcj:CSound Tryz.prog 214 Z3N:=Z01 _ _ Zvj
def Zck:DFun:=closedXD [.o] [.o] Zci
theorem Zvk:Ro Z3N Zck:=Z0g _ _ _
def ZiJ:DTab:=D0
theorem Zvl:DSound Tryz.prog ZiJ:=DSound.zero
def ZiK:Tab:=T0
theorem Zvm:TSound Tryz.prog ZiK:=TSound.zero
def ZiL:Fun:=runF Tryz.prog ZiK ZiJ NL [0,2] Tryz.f226 1
theorem Zvn:CSound Tryz.prog 226 ZiL:=Z00 Zvm Zvl mixed Tryz.func226 (by kernel_rfl) NL
def Zcl:Fun:=closedX [.o] [.o] ZiL
theorem Zvo:CSound Tryz.prog 226 Zcl:=Z01 _ _ Zvn
def ZiM:DTab:=D0
theorem Zvp:DSound Tryz.prog ZiM:=DSound.zero
def Zcm:Tab:=(updF T0 226 Zcl)
theorem Zvq:TSound Tryz.prog Zcm:=(TSound.upd TSound.zero Zvo)
@[simp] theorem ZFO:Zcm 226=some Zcl:=rfl
def Zcn:Fun:=runF Tryz.prog Zcm ZiM NL [0,1,4,5,12] Tryz.f216 2
theorem Zvr:CSound Tryz.prog 216 Zcn:=Z00 Zvq Zvp mixed Tryz.func216 (by kernel_rfl) NL
def Z2o:Fun:=closedX [.o,.o] [.o] Zcn
theorem Z9n:CSound Tryz.prog 216 Z2o:=Z01 _ _ Zvr
def Zco:DFun:=closedXD [.o,.o] [.o] Zcn
theorem Zvs:Ro Z2o Zco:=Z0g _ _ _
def ZiN:DTab:=D0
theorem Zvt:DSound Tryz.prog ZiN:=DSound.zero
def ZiO:Tab:=T0
theorem Zvu:TSound Tryz.prog ZiO:=TSound.zero
def ZiP:Fun:=runF Tryz.prog ZiO ZiN NL [0,2] Tryz.f229 1
theorem Zvv:CSound Tryz.prog 229 ZiP:=Z00 Zvu Zvt mixed Tryz.func229 (by kernel_rfl) NL
def Zcp:Fun:=closedX [.o] [.o] ZiP
theorem Zvw:CSound Tryz.prog 229 Zcp:=Z01 _ _ Zvv
def ZiQ:DTab:=D0
theorem Zvx:DSound Tryz.prog ZiQ:=DSound.zero
def Zcq:Tab:=(updF T0 229 Zcp)
theorem Zvy:TSound Tryz.prog Zcq:=(TSound.upd TSound.zero Zvw)
@[simp] theorem ZFP:Zcq 229=some Zcp:=rfl
def Zcr:Fun:=runF Tryz.prog Zcq ZiQ NL [0,2,3] Tryz.f225 1
theorem Zvz:CSound Tryz.prog 225 Zcr:=Z00 Zvy Zvx mixed Tryz.func225 (by kernel_rfl) NL
def Z3O:Fun:=closedX [.o] [.o] Zcr
theorem Zcs:CSound Tryz.prog 225 Z3O:=Z01 _ _ Zvz
def Zct:DFun:=closedXD [.o] [.o] Zcr
theorem ZvA:Ro Z3O Zct:=Z0g _ _ _
def ZiR:DTab:=D0
theorem ZvB:DSound Tryz.prog ZiR:=DSound.zero
def Z9o:Tab:=(updF (updF T0 216 Z2o) 225 Z3O)
theorem ZvC:TSound Tryz.prog Z9o:=(TSound.upd (TSound.upd TSound.zero Z9n) Zcs)
@[simp] theorem ZFQ:Z9o 216=some Z2o:=rfl
@[simp] theorem ZFR:Z9o 225=some Z3O:=rfl
def Zcu:Fun:=runF Tryz.prog Z9o ZiR NL [0,2,3,13,29] Tryz.f215 1
theorem ZvD:CSound Tryz.prog 215 Zcu:=Z00 ZvC ZvB mixed Tryz.func215 (by kernel_rfl) NL
def Z3P:Fun:=closedX [.o] [.o] Zcu
theorem Zcv:CSound Tryz.prog 215 Z3P:=Z01 _ _ ZvD
def Zcw:DFun:=closedXD [.o] [.o] Zcu
theorem ZvE:Ro Z3P Zcw:=Z0g _ _ _
def ZiS:DTab:=D0
theorem ZvF:DSound Tryz.prog ZiS:=DSound.zero
def Z9p:Tab:=(updF (updF T0 214 Z3N) 215 Z3P)
theorem ZvG:TSound Tryz.prog Z9p:=(TSound.upd (TSound.upd TSound.zero Zcj) Zcv)
@[simp] theorem ZFS:Z9p 214=some Z3N:=rfl
@[simp] theorem ZFT:Z9p 215=some Z3P:=rfl
def ZiT:Fun:=runF Tryz.prog Z9p ZiS NL [0,2,3,6] Tryz.f192 1
theorem ZvH:CSound Tryz.prog 192 ZiT:=Z00 ZvG ZvF mixed Tryz.func192 (by kernel_rfl) NL
def Zcx:Fun:=closedX [.o] [.o,.o] ZiT
theorem ZvI:CSound Tryz.prog 192 Zcx:=Z01 _ _ ZvH
def Zcy:DTab:=(updD D0 225 Zct)
theorem ZvJ:DSound Tryz.prog Zcy:=(DSound.ro DSound.zero ZvA Zcs)
@[simp] theorem ZFU:Zcy 225=some Zct:=rfl
def Z9q:Tab:=(updF (updF T0 216 Z2o) 225 Z3O)
theorem ZvK:TSound Tryz.prog Z9q:=(TSound.upd (TSound.upd TSound.zero Z9n) Zcs)
@[simp] theorem ZFV:Z9q 216=some Z2o:=rfl
@[simp] theorem ZFW:Z9q 225=some Z3O:=rfl
def ZiU:Fun:=runF Tryz.prog Z9q Zcy NL [0,1,2,3,4,15] Tryz.f217 1
theorem ZvL:CSound Tryz.prog 217 ZiU:=Z00 ZvK ZvJ mixed Tryz.func217 (by kernel_rfl) NL
def Zcz:Fun:=closedX [.o] [.o] ZiU
theorem ZvM:CSound Tryz.prog 217 Zcz:=Z01 _ _ ZvL
def Z6e:DTab:=(updD (updD (updD D0 214 Zck) 215 Zcw) 216 Zco)
theorem ZvN:DSound Tryz.prog Z6e:=(DSound.ro (DSound.ro (DSound.ro DSound.zero Zvk Zcj) ZvE Zcv) Zvs Z9n)
@[simp] theorem ZFX:Z6e 214=some Zck:=rfl
@[simp] theorem ZFY:Z6e 215=some Zcw:=rfl
@[simp] theorem ZFZ:Z6e 216=some Zco:=rfl
def Z3Q:Tab:=(updF (updF (updF (updF T0 214 Z3N) 215 Z3P) 216 Z2o) 217 Zcz)
theorem ZvO:TSound Tryz.prog Z3Q:=(TSound.upd (TSound.upd (TSound.upd (TSound.upd TSound.zero Zcj) Zcv) Z9n) ZvM)
@[simp] theorem ZG0:Z3Q 214=some Z3N:=rfl
@[simp] theorem ZG1:Z3Q 215=some Z3P:=rfl
@[simp] theorem ZG2:Z3Q 216=some Z2o:=rfl
@[simp] theorem ZG3:Z3Q 217=some Zcz:=rfl
def ZiV:Fun:=runF Tryz.prog Z3Q Z6e NL [0,1,2,3,4,37,48] Tryz.f193 1
theorem ZvP:CSound Tryz.prog 193 ZiV:=Z00 ZvO ZvN mixed Tryz.func193 (by kernel_rfl) NL
def ZcA:Fun:=closedX [.o] [.o,.o] ZiV
theorem ZvQ:CSound Tryz.prog 193 ZcA:=Z01 _ _ ZvP
def ZiW:DTab:=D0
theorem ZvR:DSound Tryz.prog ZiW:=DSound.zero
def ZiX:Tab:=T0
theorem ZvS:TSound Tryz.prog ZiX:=TSound.zero
def ZiY:Fun:=runF Tryz.prog ZiX ZiW NL [0,1,2,4] Tryz.f218 3
theorem ZvT:CSound Tryz.prog 218 ZiY:=Z00 ZvS ZvR mixed Tryz.func218 (by kernel_rfl) NL
def Z6f:Fun:=ZiY
theorem ZiZ:CSound Tryz.prog 218 Z6f:=ZvT
def Zj0:DTab:=D0
theorem ZvU:DSound Tryz.prog Zj0:=DSound.zero
def ZcB:Tab:=(updF T0 218 Z6f)
theorem ZvV:TSound Tryz.prog ZcB:=(TSound.upd TSound.zero ZiZ)
@[simp] theorem ZG4:ZcB 218=some Z6f:=rfl
def Zj1:Fun:=runF Tryz.prog ZcB Zj0 NL [0,1,4,5,6,7,11,21] Tryz.f126 2
theorem ZvW:CSound Tryz.prog 126 Zj1:=Z00 ZvV ZvU mixed Tryz.func126 (by kernel_rfl) NL
def ZcC:Fun:=Zj1
theorem ZvX:CSound Tryz.prog 126 ZcC:=ZvW
def Zj2:DTab:=D0
theorem ZvY:DSound Tryz.prog Zj2:=DSound.zero
def Z9r:Tab:=(updF (updF T0 126 ZcC) 218 Z6f)
theorem ZvZ:TSound Tryz.prog Z9r:=(TSound.upd (TSound.upd TSound.zero ZvX) ZiZ)
@[simp] theorem ZG5:Z9r 126=some ZcC:=rfl
@[simp] theorem ZG6:Z9r 218=some Z6f:=rfl
def Zj3:Fun:=runF Tryz.prog Z9r Zj2 NL [0,1,2,3,4,5,6,12] Tryz.f195 2
theorem Zw0:CSound Tryz.prog 195 Zj3:=Z00 ZvZ ZvY mixed Tryz.func195 (by kernel_rfl) NL
def ZcD:Fun:=closedX [.l 4,.o] [.o,.o] Zj3
theorem Zw1:CSound Tryz.prog 195 ZcD:=Z01 _ _ Zw0
def Zj4:DTab:=D0
theorem Zw2:DSound Tryz.prog Zj4:=DSound.zero
def ZcE:Tab:=(updF T0 110 Z6a)
theorem Zw3:TSound Tryz.prog ZcE:=(TSound.upd TSound.zero Zi2)
@[simp] theorem ZG7:ZcE 110=some Z6a:=rfl
def Zj5:Fun:=runF Tryz.prog ZcE Zj4 NL [0,1,2,4] Tryz.f219 3
theorem Zw4:CSound Tryz.prog 219 Zj5:=Z00 Zw3 Zw2 mixed Tryz.func219 (by kernel_rfl) NL
def Z6g:Fun:=Zj5
theorem Zj6:CSound Tryz.prog 219 Z6g:=Zw4
def Zj7:DTab:=D0
theorem Zw5:DSound Tryz.prog Zj7:=DSound.zero
def ZcF:Tab:=(updF T0 219 Z6g)
theorem Zw6:TSound Tryz.prog ZcF:=(TSound.upd TSound.zero Zj6)
@[simp] theorem ZG8:ZcF 219=some Z6g:=rfl
def Zj8:Fun:=runF Tryz.prog ZcF Zj7 NL [0,1,4,5,6,7,11,21] Tryz.f126 2
theorem Zw7:CSound Tryz.prog 126 Zj8:=Z00 Zw6 Zw5 mixed Tryz.func126 (by kernel_rfl) NL
def ZcG:Fun:=Zj8
theorem Zw8:CSound Tryz.prog 126 ZcG:=Zw7
def Zj9:DTab:=D0
theorem Zw9:DSound Tryz.prog Zj9:=DSound.zero
def Z9s:Tab:=(updF (updF T0 126 ZcG) 219 Z6g)
theorem Zwa:TSound Tryz.prog Z9s:=(TSound.upd (TSound.upd TSound.zero Zw8) Zj6)
@[simp] theorem ZG9:Z9s 126=some ZcG:=rfl
@[simp] theorem ZGa:Z9s 219=some Z6g:=rfl
def Zja:Fun:=runF Tryz.prog Z9s Zj9 NL [0,1,2,3,4,8,9,10,49] Tryz.f196 4
theorem Zwb:CSound Tryz.prog 196 Zja:=Z00 Zwa Zw9 mixed Tryz.func196 (by kernel_rfl) NL
def ZcH:Fun:=closedX [.l 4,.o,.o,.o] [.o] Zja
theorem Zwc:CSound Tryz.prog 196 ZcH:=Z01 _ _ Zwb
def Zjb:DTab:=D0
theorem Zwd:DSound Tryz.prog Zjb:=DSound.zero
def Z2p:Tab:=(updF (updF (updF (updF (updF (updF T0 126 Zch) 192 Zcx) 193 ZcA) 194 Z6d) 195 ZcD) 196 ZcH)
theorem Zwe:TSound Tryz.prog Z2p:=(TSound.upd (TSound.upd (TSound.upd (TSound.upd (TSound.upd (TSound.upd TSound.zero Zvg) ZvI) ZvQ) ZiE) Zw1) Zwc)
@[simp] theorem ZGb:Z2p 126=some Zch:=rfl
@[simp] theorem ZGc:Z2p 192=some Zcx:=rfl
@[simp] theorem ZGd:Z2p 193=some ZcA:=rfl
@[simp] theorem ZGe:Z2p 194=some Z6d:=rfl
@[simp] theorem ZGf:Z2p 195=some ZcD:=rfl
@[simp] theorem ZGg:Z2p 196=some ZcH:=rfl
def Zjc:Fun:=runF Tryz.prog Z2p Zjb NL [0,1,2,3,5,6,7,8,10,11,12,13,14,15,29,41,49,64] Tryz.f162 3
theorem Zwf:CSound Tryz.prog 162 Zjc:=Z00 Zwe Zwd mixed Tryz.func162 (by kernel_rfl) NL
def ZcI:Fun:=closedX [.l 4,.o,.o] [.o,.o] Zjc
theorem Zwg:CSound Tryz.prog 162 ZcI:=Z01 _ _ Zwf
def Zjd:DTab:=D0
theorem Zwh:DSound Tryz.prog Zjd:=DSound.zero
def ZcJ:Tab:=(updF T0 162 ZcI)
theorem Zwi:TSound Tryz.prog ZcJ:=(TSound.upd TSound.zero Zwg)
@[simp] theorem ZGh:ZcJ 162=some ZcI:=rfl
def Zje:Fun:=runF Tryz.prog ZcJ Zjd NL [0,1,2,3,8,9,10,11,14,15,16,19] Tryz.f112 4
theorem Zwj:CSound Tryz.prog 112 Zje:=Z00 Zwi Zwh mixed Tryz.func112 (by kernel_rfl) NL
def ZcK:Fun:=closedX [.l 4,.o,.o,.o] [.o] Zje
theorem Zwk:CSound Tryz.prog 112 ZcK:=Z01 _ _ Zwj
def Zjf:DTab:=D0
theorem Zwl:DSound Tryz.prog Zjf:=DSound.zero
def Z3R:Tab:=(updF (updF (updF (updF T0 70 Zcd) 109 Z69) 111 Zcf) 112 ZcK)
theorem Zwm:TSound Tryz.prog Z3R:=(TSound.upd (TSound.upd (TSound.upd (TSound.upd TSound.zero Zv5) ZhY) Zv9) Zwk)
@[simp] theorem ZGi:Z3R 70=some Zcd:=rfl
@[simp] theorem ZGj:Z3R 109=some Z69:=rfl
@[simp] theorem ZGk:Z3R 111=some Zcf:=rfl
@[simp] theorem ZGl:Z3R 112=some ZcK:=rfl
def Zjg:Fun:=runF Tryz.prog Z3R Zjf NL [0,1,2,3,4,10,11,12,14,15,19,38,54] Tryz.f51 5
theorem Zwn:CSound Tryz.prog 51 Zjg:=Z00 Zwm Zwl mixed Tryz.func51 (by kernel_rfl) NL
def Z9t:Fun:=closedX [.l 4,.o,.o,.o,.o] [.o,.o] Zjg
theorem Zwo:CSound Tryz.prog 51 Z9t:=Z01 _ _ Zwn
def Zjh:DTab:=D0
theorem Zwp:DSound Tryz.prog Zjh:=DSound.zero
def Zji:Tab:=T0
theorem Zwq:TSound Tryz.prog Zji:=TSound.zero
def Zjj:Fun:=runF Tryz.prog Zji Zjh NL [0,2,4,5,6,7,8,16] Tryz.f72 1
theorem Zwr:CSound Tryz.prog 72 Zjj:=Z00 Zwq Zwp mixed Tryz.func72 (by kernel_rfl) NL
def ZcL:Fun:=closedX [.l 1] [.o] Zjj
theorem Zws:CSound Tryz.prog 72 ZcL:=Z01 _ _ Zwr
def Zjk:DTab:=D0
theorem Zwt:DSound Tryz.prog Zjk:=DSound.zero
def Zjl:Tab:=T0
theorem Zwu:TSound Tryz.prog Zjl:=TSound.zero
def Zjm:Fun:=runF Tryz.prog Zjl Zjk NL [0,1,3,4] Tryz.f163 2
theorem Zwv:CSound Tryz.prog 163 Zjm:=Z00 Zwu Zwt mixed Tryz.func163 (by kernel_rfl) NL
def ZcM:Fun:=Zjm
theorem Zww:CSound Tryz.prog 163 ZcM:=Zwv
def Zjn:DTab:=D0
theorem Zwx:DSound Tryz.prog Zjn:=DSound.zero
def ZcN:Tab:=(updF T0 163 ZcM)
theorem Zwy:TSound Tryz.prog ZcN:=(TSound.upd TSound.zero Zww)
@[simp] theorem ZGm:ZcN 163=some ZcM:=rfl
def Zjo:Fun:=runF Tryz.prog ZcN Zjn NL [0,1,2,3,8,9,10,11,14] Tryz.f113 4
theorem Zwz:CSound Tryz.prog 113 Zjo:=Z00 Zwy Zwx mixed Tryz.func113 (by kernel_rfl) NL
def ZcO:Fun:=closedX [.o,.o,.o,.o] [.o] Zjo
theorem ZwA:CSound Tryz.prog 113 ZcO:=Z01 _ _ Zwz
def Zjp:DTab:=D0
theorem ZwB:DSound Tryz.prog Zjp:=DSound.zero
def Z9u:Tab:=(updF (updF T0 72 ZcL) 113 ZcO)
theorem ZwC:TSound Tryz.prog Z9u:=(TSound.upd (TSound.upd TSound.zero Zws) ZwA)
@[simp] theorem ZGn:Z9u 72=some ZcL:=rfl
@[simp] theorem ZGo:Z9u 113=some ZcO:=rfl
def Zjq:Fun:=runF Tryz.prog Z9u Zjp NL [0,1,2,3,8,9,16] Tryz.f52 4
theorem ZwD:CSound Tryz.prog 52 Zjq:=Z00 ZwC ZwB mixed Tryz.func52 (by kernel_rfl) NL
def Z9v:Fun:=closedX [.o,.o,.o,.o] [.o,.o] Zjq
theorem ZwE:CSound Tryz.prog 52 Z9v:=Z01 _ _ ZwD
def Z9w:DTab:=D0
theorem ZwF:DSound Tryz.prog Z9w:=DSound.zero
def Z2q:Tab:=(updF (updF (updF (updF T0 19 Z2n) 50 Z3M) 51 Z9t) 52 Z9v)
theorem ZwG:TSound Tryz.prog Z2q:=(TSound.upd (TSound.upd (TSound.upd (TSound.upd TSound.zero ZhU) Zi5) Zwo) ZwE)
@[simp] theorem ZwH:Z2q 19=some Z2n:=rfl
@[simp] theorem ZwI:Z2q 50=some Z3M:=rfl
@[simp] theorem ZwJ:Z2q 51=some Z9t:=rfl
@[simp] theorem ZwK:Z2q 52=some Z9v:=rfl
def Z9x:Fun:=runF Tryz.prog Z2q Z9w NN [0,1,4,5,6,8,10,11,12,25,33] Tryz.f22 2
theorem ZwL:CSound Tryz.prog 22 Z9x:=Z00 ZwG ZwF mixed Tryz.func22 (by kernel_rfl) NN
theorem ZwM{β:Type}(K:Kb β)(a0 a1:AV)(h:Hp):(Z9x [a0,a1] h).bind (λp=>K p.1 p.2)=Z7m Tryz.prog Z2q Z9w NN K a0 a1 h:=by
 rw[← Zp9];exact Z03 rfl
def Z6h:Fun:=closedX [.l 5,.l 4] [.o,.o] Z9x
theorem ZwN:CSound Tryz.prog 22 Z6h:=Z01 _ _ ZwL
theorem ZwO{a0 a1 x0 x1:AV}{h:Hp}{v:AV}(ha:cvts false h [x0,x1]=some [a0,a1])(hv:∀st,Z7m Tryz.prog Z2q Z9w NN (λv g=>cvt st g v) (nrm (.l 5) a0) (nrm (.l 4) a1) []=some v):Z6h [x0,x1] h=some (v,h):=by
 have e:∀st,(Z9x (nrms [.l 5,.l 4] [a0,a1]) []).bind (λ(p:AV × Hp)=>cvt st p.2 p.1)=some v:=λst=>(ZwM (λv g=>cvt st g v) (nrm (.l 5) a0) (nrm (.l 4) a1) []).trans (hv st)
 exact (Z25 (shr:=[.o,.o]) ha e).trans (congrArg (λx=>some (x,h)) (Z0a 2 v))
def Zjr:DTab:=D0
theorem ZwP:DSound Tryz.prog Zjr:=DSound.zero
def Zjs:Tab:=T0
theorem ZwQ:TSound Tryz.prog Zjs:=TSound.zero
def Zjt:Fun:=runF Tryz.prog Zjs Zjr NL [0,2,4] Tryz.f61 1
theorem ZwR:CSound Tryz.prog 61 Zjt:=Z00 ZwQ ZwP mixed Tryz.func61 (by kernel_rfl) NL
def ZcP:Fun:=closedX [.l 7] [.l 7] Zjt
theorem ZwS:CSound Tryz.prog 61 ZcP:=Z01 _ _ ZwR
def Zju:DTab:=D0
theorem ZwT:DSound Tryz.prog Zju:=DSound.zero
def Zjv:Tab:=T0
theorem ZwU:TSound Tryz.prog Zjv:=TSound.zero
def Zjw:Fun:=runF Tryz.prog Zjv Zju NL [0,2] Tryz.f164 1
theorem ZwV:CSound Tryz.prog 164 Zjw:=Z00 ZwU ZwT mixed Tryz.func164 (by kernel_rfl) NL
def ZcQ:Fun:=closedX [.o] [.o] Zjw
theorem ZwW:CSound Tryz.prog 164 ZcQ:=Z01 _ _ ZwV
def Zjx:DTab:=D0
theorem ZwX:DSound Tryz.prog Zjx:=DSound.zero
def ZcR:Tab:=(updF T0 164 ZcQ)
theorem ZwY:TSound Tryz.prog ZcR:=(TSound.upd TSound.zero ZwW)
@[simp] theorem ZGp:ZcR 164=some ZcQ:=rfl
def Zjy:Fun:=runF Tryz.prog ZcR Zjx NL [0,1,2,3,4,32,41,42,78,99,118] Tryz.f115 1
theorem ZwZ:CSound Tryz.prog 115 Zjy:=Z00 ZwY ZwX mixed Tryz.func115 (by kernel_rfl) NL
def ZcS:Fun:=closedX [.o] [.o] Zjy
theorem Zx0:CSound Tryz.prog 115 ZcS:=Z01 _ _ ZwZ
def Zjz:DTab:=D0
theorem Zx1:DSound Tryz.prog Zjz:=DSound.zero
def ZcT:Tab:=(updF T0 115 ZcS)
theorem Zx2:TSound Tryz.prog ZcT:=(TSound.upd TSound.zero Zx0)
@[simp] theorem ZGq:ZcT 115=some ZcS:=rfl
def ZjA:Fun:=runF Tryz.prog ZcT Zjz NL [0,1,2] Tryz.f134 1
theorem Zx3:CSound Tryz.prog 134 ZjA:=Z00 Zx2 Zx1 mixed Tryz.func134 (by kernel_rfl) NL
def Z6i:Fun:=ZjA
theorem ZjB:CSound Tryz.prog 134 Z6i:=Zx3
def ZjC:DTab:=D0
theorem Zx4:DSound Tryz.prog ZjC:=DSound.zero
def ZcU:Tab:=(updF T0 134 Z6i)
theorem Zx5:TSound Tryz.prog ZcU:=(TSound.upd TSound.zero ZjB)
@[simp] theorem ZGr:ZcU 134=some Z6i:=rfl
def ZjD:Fun:=runF Tryz.prog ZcU ZjC NL [0,1,4,5,7,8,9,16] Tryz.f175 2
theorem Zx6:CSound Tryz.prog 175 ZjD:=Z00 Zx5 Zx4 mixed Tryz.func175 (by kernel_rfl) NL
def ZcV:Fun:=ZjD
theorem Zx7:CSound Tryz.prog 175 ZcV:=Zx6
def ZjE:DTab:=D0
theorem Zx8:DSound Tryz.prog ZjE:=DSound.zero
def ZcW:Tab:=(updF T0 175 ZcV)
theorem Zx9:TSound Tryz.prog ZcW:=(TSound.upd TSound.zero Zx7)
@[simp] theorem ZGs:ZcW 175=some ZcV:=rfl
def ZjF:Fun:=runF Tryz.prog ZcW ZjE NL [0,1,4] Tryz.f133 2
theorem Zxa:CSound Tryz.prog 133 ZjF:=Z00 Zx9 Zx8 mixed Tryz.func133 (by kernel_rfl) NL
def ZcX:Fun:=ZjF
theorem Zxb:CSound Tryz.prog 133 ZcX:=Zxa
def ZjG:DTab:=D0
theorem Zxc:DSound Tryz.prog ZjG:=DSound.zero
def ZjH:Tab:=T0
theorem Zxd:TSound Tryz.prog ZjH:=TSound.zero
def ZjI:Fun:=runF Tryz.prog ZjH ZjG NL [0,2,4,8] Tryz.f188 1
theorem Zxe:CSound Tryz.prog 188 ZjI:=Z00 Zxd Zxc mixed Tryz.func188 (by kernel_rfl) NL
def ZcY:Fun:=closedX [.o] [.o] ZjI
theorem Zxf:CSound Tryz.prog 188 ZcY:=Z01 _ _ Zxe
def ZjJ:DTab:=D0
theorem Zxg:DSound Tryz.prog ZjJ:=DSound.zero
def Z9y:Tab:=(updF (updF T0 188 ZcY) 189 Z6c)
theorem Zxh:TSound Tryz.prog Z9y:=(TSound.upd (TSound.upd TSound.zero Zxf) Ziq)
@[simp] theorem ZGt:Z9y 188=some ZcY:=rfl
@[simp] theorem ZGu:Z9y 189=some Z6c:=rfl
def ZjK:Fun:=runF Tryz.prog Z9y ZjJ NL [0,2] Tryz.f157 1
theorem Zxi:CSound Tryz.prog 157 ZjK:=Z00 Zxh Zxg mixed Tryz.func157 (by kernel_rfl) NL
def ZcZ:Fun:=closedX [.o] [.o] ZjK
theorem Zxj:CSound Tryz.prog 157 ZcZ:=Z01 _ _ Zxi
def ZjL:DTab:=D0
theorem Zxk:DSound Tryz.prog ZjL:=DSound.zero
def ZjM:Tab:=T0
theorem Zxl:TSound Tryz.prog ZjM:=TSound.zero
def ZjN:Fun:=runF Tryz.prog ZjM ZjL NL [0,2] Tryz.f178 1
theorem Zxm:CSound Tryz.prog 178 ZjN:=Z00 Zxl Zxk mixed Tryz.func178 (by kernel_rfl) NL
def Zd0:Fun:=closedX [.o] [.o] ZjN
theorem Zxn:CSound Tryz.prog 178 Zd0:=Z01 _ _ Zxm
def ZjO:DTab:=D0
theorem Zxo:DSound Tryz.prog ZjO:=DSound.zero
def Zd1:Tab:=(updF T0 178 Zd0)
theorem Zxp:TSound Tryz.prog Zd1:=(TSound.upd TSound.zero Zxn)
@[simp] theorem ZGv:Zd1 178=some Zd0:=rfl
def Zd2:Fun:=runF Tryz.prog Zd1 ZjO NL [0,1,4,5,6,11,12,13,16,19] Tryz.f154 2
theorem Zxq:CSound Tryz.prog 154 Zd2:=Z00 Zxp Zxo mixed Tryz.func154 (by kernel_rfl) NL
def Z3S:Fun:=closedX [.o,.o] [.o] Zd2
theorem Zd3:CSound Tryz.prog 154 Z3S:=Z01 _ _ Zxq
def Zd4:DFun:=closedXD [.o,.o] [.o] Zd2
theorem Zxr:Ro Z3S Zd4:=Z0g _ _ _
def ZjP:DTab:=D0
theorem Zxs:DSound Tryz.prog ZjP:=DSound.zero
def ZjQ:Tab:=T0
theorem Zxt:TSound Tryz.prog ZjQ:=TSound.zero
def Zd5:Fun:=runF Tryz.prog ZjQ ZjP NL [0,2,3,5,6,7,8,9,14] Tryz.f165 1
theorem Zxu:CSound Tryz.prog 165 Zd5:=Z00 Zxt Zxs mixed Tryz.func165 (by kernel_rfl) NL
def Z9z:Fun:=closedX [.l 1] [.o] Zd5
theorem ZjR:CSound Tryz.prog 165 Z9z:=Z01 _ _ Zxu
def Zd6:DFun:=closedXD [.l 1] [.o] Zd5
theorem Zxv:Ro Z9z Zd6:=Z0g _ _ _
def Z9A:DTab:=(updD (updD D0 154 Zd4) 165 Zd6)
theorem Zxw:DSound Tryz.prog Z9A:=(DSound.ro (DSound.ro DSound.zero Zxr Zd3) Zxv ZjR)
@[simp] theorem ZGw:Z9A 154=some Zd4:=rfl
@[simp] theorem ZGx:Z9A 165=some Zd6:=rfl
def Z9B:Tab:=(updF (updF T0 154 Z3S) 165 Z9z)
theorem Zxx:TSound Tryz.prog Z9B:=(TSound.upd (TSound.upd TSound.zero Zd3) ZjR)
@[simp] theorem ZGy:Z9B 154=some Z3S:=rfl
@[simp] theorem ZGz:Z9B 165=some Z9z:=rfl
def ZjS:Fun:=runF Tryz.prog Z9B Z9A NL [0,1,2,3,4] Tryz.f136 2
theorem Zxy:CSound Tryz.prog 136 ZjS:=Z00 Zxx Zxw mixed Tryz.func136 (by kernel_rfl) NL
def Z2Z:Fun:=closedX [.o,.o] [.o] ZjS
theorem Zd7:CSound Tryz.prog 136 Z2Z:=Z01 _ _ Zxy
def ZjT:DTab:=D0
theorem Zxz:DSound Tryz.prog ZjT:=DSound.zero
def Zd8:Tab:=(updF T0 136 Z2Z)
theorem ZxA:TSound Tryz.prog Zd8:=(TSound.upd TSound.zero Zd7)
@[simp] theorem ZGA:Zd8 136=some Z2Z:=rfl
def ZjU:Fun:=runF Tryz.prog Zd8 ZjT NL [0,1,2,3,8,9,14,34] Tryz.f201 4
theorem ZxB:CSound Tryz.prog 201 ZjU:=Z00 ZxA Zxz mixed Tryz.func201 (by kernel_rfl) NL
def Zd9:Fun:=ZjU
theorem ZxC:CSound Tryz.prog 201 Zd9:=ZxB
def ZjV:DTab:=D0
theorem ZxD:DSound Tryz.prog ZjV:=DSound.zero
def Z9C:Tab:=(updF (updF T0 136 Z2Z) 201 Zd9)
theorem ZxE:TSound Tryz.prog Z9C:=(TSound.upd (TSound.upd TSound.zero Zd7) ZxC)
@[simp] theorem ZGB:Z9C 136=some Z2Z:=rfl
@[simp] theorem ZGC:Z9C 201=some Zd9:=rfl
def ZjW:Fun:=runF Tryz.prog Z9C ZjV NL [0,1,2,3,4,10,11,12,13,14,15,16,17,18,19,20,25,32,39,56,75,80,97,125] Tryz.f176 5
theorem ZxF:CSound Tryz.prog 176 ZjW:=Z00 ZxE ZxD mixed Tryz.func176 (by kernel_rfl) NL
def Zda:Fun:=ZjW
theorem ZxG:CSound Tryz.prog 176 Zda:=ZxF
def ZjX:DTab:=D0
theorem ZxH:DSound Tryz.prog ZjX:=DSound.zero
def Z9D:Tab:=(updF (updF T0 157 ZcZ) 176 Zda)
theorem ZxI:TSound Tryz.prog Z9D:=(TSound.upd (TSound.upd TSound.zero Zxj) ZxG)
@[simp] theorem ZGD:Z9D 157=some ZcZ:=rfl
@[simp] theorem ZGE:Z9D 176=some Zda:=rfl
def ZjY:Fun:=runF Tryz.prog Z9D ZjX NL [0,1,4] Tryz.f135 2
theorem ZxJ:CSound Tryz.prog 135 ZjY:=Z00 ZxI ZxH mixed Tryz.func135 (by kernel_rfl) NL
def Zdb:Fun:=ZjY
theorem ZxK:CSound Tryz.prog 135 Zdb:=ZxJ
def ZjZ:DTab:=D0
theorem ZxL:DSound Tryz.prog ZjZ:=DSound.zero
def Zk0:Tab:=T0
theorem ZxM:TSound Tryz.prog Zk0:=TSound.zero
def Zk1:Fun:=runF Tryz.prog Zk0 ZjZ NL [0,2,3,4,5,8,13,25,32,44] Tryz.f137 1
theorem ZxN:CSound Tryz.prog 137 Zk1:=Z00 ZxM ZxL mixed Tryz.func137 (by kernel_rfl) NL
def Zdc:Fun:=closedX [.l 7] [.l 7] Zk1
theorem ZxO:CSound Tryz.prog 137 Zdc:=Z01 _ _ ZxN
def Zk2:DTab:=D0
theorem ZxP:DSound Tryz.prog Zk2:=DSound.zero
def Z2r:Tab:=(updF (updF (updF (updF (updF (updF T0 61 ZcP) 133 ZcX) 134 Z6i) 135 Zdb) 136 Z2Z) 137 Zdc)
theorem ZxQ:TSound Tryz.prog Z2r:=(TSound.upd (TSound.upd (TSound.upd (TSound.upd (TSound.upd (TSound.upd TSound.zero ZwS) Zxb) ZjB) ZxK) Zd7) ZxO)
@[simp] theorem ZGF:Z2r 61=some ZcP:=rfl
@[simp] theorem ZGG:Z2r 133=some ZcX:=rfl
@[simp] theorem ZGH:Z2r 134=some Z6i:=rfl
@[simp] theorem ZGI:Z2r 135=some Zdb:=rfl
@[simp] theorem ZGJ:Z2r 136=some Z2Z:=rfl
@[simp] theorem ZGK:Z2r 137=some Zdc:=rfl
def Zk3:Fun:=runF Tryz.prog Z2r Zk2 NL [0,2,3,4,7,9] Tryz.f73 1
theorem ZxR:CSound Tryz.prog 73 Zk3:=Z00 ZxQ ZxP mixed Tryz.func73 (by kernel_rfl) NL
def Z9E:Fun:=closedX [.l 7] [.l 7,.o] Zk3
theorem ZxS:CSound Tryz.prog 73 Z9E:=Z01 _ _ ZxR
def Z30:DTab:=D0
theorem ZxT:DSound Tryz.prog Z30:=DSound.zero
def Z31:Tab:=T0
theorem ZxU:TSound Tryz.prog Z31:=TSound.zero
def Z3T:Fun:=closedXK [.l 7,.o] [.o] (λ{β} (K:Kb β) (args:List AV) (h:Hp)=>if args.length=2 then runK Tryz.prog Z31 Z30 NN [0,1,4,5,6,7,8,10,11,13,17,18,19,20,26,33,34,46,55,60,63,74,78,80,84,89,92] Tryz.f74 K args h else none)
theorem ZxV:CSound Tryz.prog 74 Z3T:=Zho _ _ (Zhn ZxU ZxT mixed Tryz.func74 (by kernel_rfl) NN)
theorem ZxW{a0 a1 v:AV}(ha:plains [a0,a1]=true)(hv:Z7K Tryz.prog Z31 Z30 NN (λv g=>cvt false g v) (nrm (.l 7) a0) a1 []=some v)(h:Hp):Z3T [a0,a1] h=some (v,h):=
 (Zhp (RK:=(λ{β} (K:Kb β) (args:List AV) (h:Hp)=>if args.length=2 then runK Tryz.prog Z31 Z30 NN [0,1,4,5,6,7,8,10,11,13,17,18,19,20,26,33,34,46,55,60,63,74,78,80,84,89,92] Tryz.f74 K args h else none)) ha ((if_pos rfl).trans ((ZpW Z31 Z30 NN (λv g=>cvt false g v) (nrm (.l 7) a0) a1 []).trans hv)) h).trans (congrArg (λx=>some (x,h)) (Z0a 1 v))
def Z9F:DTab:=D0
theorem ZxX:DSound Tryz.prog Z9F:=DSound.zero
def Z3U:Tab:=(updF (updF T0 73 Z9E) 74 Z3T)
theorem ZxY:TSound Tryz.prog Z3U:=(TSound.upd (TSound.upd TSound.zero ZxS) ZxV)
@[simp] theorem ZxZ:Z3U 73=some Z9E:=rfl
@[simp] theorem Zy0:Z3U 74=some Z3T:=rfl
def Z9G:Fun:=runF Tryz.prog Z3U Z9F NN [0,1,4,5,6,7,13,18] Tryz.f30 2
theorem Zy1:CSound Tryz.prog 30 Z9G:=Z00 ZxY ZxX mixed Tryz.func30 (by kernel_rfl) NN
theorem Zy2{β:Type}(K:Kb β)(a0 a1:AV)(h:Hp):(Z9G [a0,a1] h).bind (λp=>K p.1 p.2)=Z7n Tryz.prog Z3U Z9F NN K a0 a1 h:=by
 rw[← Zpa];exact Z03 rfl
def Z6j:Fun:=closedX [.l 7,.o] [.o,.o] Z9G
theorem Zy3:CSound Tryz.prog 30 Z6j:=Z01 _ _ Zy1
theorem Zy4{a0 a1 v:AV}(ha:plains [a0,a1]=true)(hv:Z7n Tryz.prog Z3U Z9F NN (λv g=>cvt false g v) (nrm (.l 7) a0) a1 []=some v)(h:Hp):Z6j [a0,a1] h=some (v,h):=by
 have e:(Z9G (nrms [.l 7,.o] [a0,a1]) []).bind (λ(p:AV × Hp)=>cvt false p.2 p.1)=some v:=(Zy2 (λv g=>cvt false g v) (nrm (.l 7) a0) a1 []).trans hv
 exact (Z09 (shr:=[.o,.o]) ha e h).trans (congrArg (λx=>some (x,h)) (Z0a 2 v))
def Zk4:DTab:=D0
theorem Zy5:DSound Tryz.prog Zk4:=DSound.zero
def Zk5:Tab:=T0
theorem Zy6:TSound Tryz.prog Zk5:=TSound.zero
def Zk6:Fun:=runF Tryz.prog Zk5 Zk4 NL [0,1,2,3,5,18,19,20,21] Tryz.f138 1
theorem Zy7:CSound Tryz.prog 138 Zk6:=Z00 Zy6 Zy5 mixed Tryz.func138 (by kernel_rfl) NL
def Z6k:Fun:=closedX [.a [none,none,none,none,none,none,some 3]] [.l 2] Zk6
theorem Zk7:CSound Tryz.prog 138 Z6k:=Z01 _ _ Zy7
def Zk8:DTab:=D0
theorem Zy8:DSound Tryz.prog Zk8:=DSound.zero
def Zk9:Tab:=T0
theorem Zy9:TSound Tryz.prog Zk9:=TSound.zero
def Zka:Fun:=runF Tryz.prog Zk9 Zk8 NL [0,1,2] Tryz.f141 1
theorem Zya:CSound Tryz.prog 141 Zka:=Z00 Zy9 Zy8 mixed Tryz.func141 (by kernel_rfl) NL
def Z32:Fun:=Zka
theorem Zdd:CSound Tryz.prog 141 Z32:=Zya
def Zkb:DTab:=D0
theorem Zyb:DSound Tryz.prog Zkb:=DSound.zero
def Zde:Tab:=(updF T0 141 Z32)
theorem Zyc:TSound Tryz.prog Zde:=(TSound.upd TSound.zero Zdd)
@[simp] theorem ZGL:Zde 141=some Z32:=rfl
def Zkc:Fun:=runF Tryz.prog Zde Zkb NL [0,1,4,6,7,8,9,10,16] Tryz.f140 2
theorem Zyd:CSound Tryz.prog 140 Zkc:=Z00 Zyc Zyb mixed Tryz.func140 (by kernel_rfl) NL
def Zdf:Fun:=Zkc
theorem Zye:CSound Tryz.prog 140 Zdf:=Zyd
def Zkd:DTab:=D0
theorem Zyf:DSound Tryz.prog Zkd:=DSound.zero
def Z9H:Tab:=(updF (updF T0 140 Zdf) 141 Z32)
theorem Zyg:TSound Tryz.prog Z9H:=(TSound.upd (TSound.upd TSound.zero Zye) Zdd)
@[simp] theorem ZGM:Z9H 140=some Zdf:=rfl
@[simp] theorem ZGN:Z9H 141=some Z32:=rfl
def Zke:Fun:=runF Tryz.prog Z9H Zkd NL [0,1,2,25] Tryz.f139 2
theorem Zyh:CSound Tryz.prog 139 Zke:=Z00 Zyg Zyf mixed Tryz.func139 (by kernel_rfl) NL
def Zdg:Fun:=Zke
theorem Zyi:CSound Tryz.prog 139 Zdg:=Zyh
def Zkf:DTab:=D0
theorem Zyj:DSound Tryz.prog Zkf:=DSound.zero
def Zkg:Tab:=T0
theorem Zyk:TSound Tryz.prog Zkg:=TSound.zero
def Zkh:Fun:=runF Tryz.prog Zkg Zkf NL [0,1,2] Tryz.f143 1
theorem Zyl:CSound Tryz.prog 143 Zkh:=Z00 Zyk Zyj mixed Tryz.func143 (by kernel_rfl) NL
def Z6l:Fun:=Zkh
theorem Zki:CSound Tryz.prog 143 Z6l:=Zyl
def Zkj:DTab:=D0
theorem Zym:DSound Tryz.prog Zkj:=DSound.zero
def Zdh:Tab:=(updF T0 143 Z6l)
theorem Zyn:TSound Tryz.prog Zdh:=(TSound.upd TSound.zero Zki)
@[simp] theorem ZGO:Zdh 143=some Z6l:=rfl
def Zkk:Fun:=runF Tryz.prog Zdh Zkj NL [0,1,4,6,7,8,9,10,16] Tryz.f140 2
theorem Zyo:CSound Tryz.prog 140 Zkk:=Z00 Zyn Zym mixed Tryz.func140 (by kernel_rfl) NL
def Zdi:Fun:=Zkk
theorem Zyp:CSound Tryz.prog 140 Zdi:=Zyo
def Zkl:DTab:=D0
theorem Zyq:DSound Tryz.prog Zkl:=DSound.zero
def Z9I:Tab:=(updF (updF T0 140 Zdi) 143 Z6l)
theorem Zyr:TSound Tryz.prog Z9I:=(TSound.upd (TSound.upd TSound.zero Zyp) Zki)
@[simp] theorem ZGP:Z9I 140=some Zdi:=rfl
@[simp] theorem ZGQ:Z9I 143=some Z6l:=rfl
def Zkm:Fun:=runF Tryz.prog Z9I Zkl NL [0,1,4] Tryz.f142 1
theorem Zys:CSound Tryz.prog 142 Zkm:=Z00 Zyr Zyq mixed Tryz.func142 (by kernel_rfl) NL
def Zdj:Fun:=Zkm
theorem Zyt:CSound Tryz.prog 142 Zdj:=Zys
def Zkn:DTab:=D0
theorem Zyu:DSound Tryz.prog Zkn:=DSound.zero
def Zko:Tab:=T0
theorem Zyv:TSound Tryz.prog Zko:=TSound.zero
def Zkp:Fun:=runF Tryz.prog Zko Zkn NL [0,1,2,3,4,5,10,16,17,18,19,23,32] Tryz.f145 1
theorem Zyw:CSound Tryz.prog 145 Zkp:=Z00 Zyv Zyu mixed Tryz.func145 (by kernel_rfl) NL
def Zdk:Fun:=closedX [.a [none,none,none,none,none,none,some 3]] [.o] Zkp
theorem Zyx:CSound Tryz.prog 145 Zdk:=Z01 _ _ Zyw
def Zkq:DTab:=D0
theorem Zyy:DSound Tryz.prog Zkq:=DSound.zero
def Zdl:Tab:=(updF T0 145 Zdk)
theorem Zyz:TSound Tryz.prog Zdl:=(TSound.upd TSound.zero Zyx)
@[simp] theorem ZGR:Zdl 145=some Zdk:=rfl
def Zkr:Fun:=runF Tryz.prog Zdl Zkq NL [0,1] Tryz.f144 1
theorem ZyA:CSound Tryz.prog 144 Zkr:=Z00 Zyz Zyy mixed Tryz.func144 (by kernel_rfl) NL
def Zdm:Fun:=Zkr
theorem ZyB:CSound Tryz.prog 144 Zdm:=ZyA
def Zks:DTab:=D0
theorem ZyC:DSound Tryz.prog Zks:=DSound.zero
def Zkt:Tab:=T0
theorem ZyD:TSound Tryz.prog Zkt:=TSound.zero
def Zdn:Fun:=runF Tryz.prog Zkt Zks NL [0,2,3,5,6,7,8,9] Tryz.f147 1
theorem ZyE:CSound Tryz.prog 147 Zdn:=Z00 ZyD ZyC mixed Tryz.func147 (by kernel_rfl) NL
def Z3V:Fun:=closedX [.l 2] [.o] Zdn
theorem Zdo:CSound Tryz.prog 147 Z3V:=Z01 _ _ ZyE
def Zdp:DFun:=closedXD [.l 2] [.o] Zdn
theorem ZyF:Ro Z3V Zdp:=Z0g _ _ _
def Zku:DTab:=D0
theorem ZyG:DSound Tryz.prog Zku:=DSound.zero
def Z9J:Tab:=(updF (updF T0 141 Z32) 147 Z3V)
theorem ZyH:TSound Tryz.prog Z9J:=(TSound.upd (TSound.upd TSound.zero Zdd) Zdo)
@[simp] theorem ZGS:Z9J 141=some Z32:=rfl
@[simp] theorem ZGT:Z9J 147=some Z3V:=rfl
def Zkv:Fun:=runF Tryz.prog Z9J Zku NL [0,1,13] Tryz.f146 1
theorem ZyI:CSound Tryz.prog 146 Zkv:=Z00 ZyH ZyG mixed Tryz.func146 (by kernel_rfl) NL
def Zdq:Fun:=Zkv
theorem ZyJ:CSound Tryz.prog 146 Zdq:=ZyI
def Zkw:DTab:=D0
theorem ZyK:DSound Tryz.prog Zkw:=DSound.zero
def Z33:Tab:=(updF (updF (updF (updF (updF T0 138 Z6k) 139 Zdg) 142 Zdj) 144 Zdm) 146 Zdq)
theorem ZyL:TSound Tryz.prog Z33:=(TSound.upd (TSound.upd (TSound.upd (TSound.upd (TSound.upd TSound.zero Zk7) Zyi) Zyt) ZyB) ZyJ)
@[simp] theorem ZGU:Z33 138=some Z6k:=rfl
@[simp] theorem ZGV:Z33 139=some Zdg:=rfl
@[simp] theorem ZGW:Z33 142=some Zdj:=rfl
@[simp] theorem ZGX:Z33 144=some Zdm:=rfl
@[simp] theorem ZGY:Z33 146=some Zdq:=rfl
def Zkx:Fun:=runF Tryz.prog Z33 Zkw NL [0,1,2,3,5,6,13,14,15,16,22] Tryz.f75 1
theorem ZyM:CSound Tryz.prog 75 Zkx:=Z00 ZyL ZyK mixed Tryz.func75 (by kernel_rfl) NL
def Zdr:Fun:=closedX [.a [none,none,none,none,none,none,some 3]] [.o] Zkx
theorem ZyN:CSound Tryz.prog 75 Zdr:=Z01 _ _ ZyM
def Zds:DTab:=(updD D0 147 Zdp)
theorem ZyO:DSound Tryz.prog Zds:=(DSound.ro DSound.zero ZyF Zdo)
@[simp] theorem ZGZ:Zds 147=some Zdp:=rfl
def Z9K:Tab:=(updF (updF T0 138 Z6k) 147 Z3V)
theorem ZyP:TSound Tryz.prog Z9K:=(TSound.upd (TSound.upd TSound.zero Zk7) Zdo)
@[simp] theorem ZH0:Z9K 138=some Z6k:=rfl
@[simp] theorem ZH1:Z9K 147=some Z3V:=rfl
def Zky:Fun:=runF Tryz.prog Z9K Zds NL [0,1,2,3,4,5,6] Tryz.f76 1
theorem ZyQ:CSound Tryz.prog 76 Zky:=Z00 ZyP ZyO mixed Tryz.func76 (by kernel_rfl) NL
def Zdt:Fun:=closedX [.a [none,none,none,none,none,none,some 3]] [.o,.o] Zky
theorem ZyR:CSound Tryz.prog 76 Zdt:=Z01 _ _ ZyQ
def Z9L:DTab:=D0
theorem ZyS:DSound Tryz.prog Z9L:=DSound.zero
def Z3W:Tab:=(updF (updF T0 75 Zdr) 76 Zdt)
theorem ZyT:TSound Tryz.prog Z3W:=(TSound.upd (TSound.upd TSound.zero ZyN) ZyR)
@[simp] theorem ZH2:Z3W 75=some Zdr:=rfl
@[simp] theorem ZH3:Z3W 76=some Zdt:=rfl
def Z9M:Fun:=runF Tryz.prog Z3W Z9L NL [0,1,2,3,4,6,9] Tryz.f31 1
theorem ZyU:CSound Tryz.prog 31 Z9M:=Z00 ZyT ZyS mixed Tryz.func31 (by kernel_rfl) NL
theorem ZyV{β:Type}(K:Kb β)(a0:AV)(h:Hp):(Z9M [a0] h).bind (λp=>K p.1 p.2)=Zbg Tryz.prog Z3W Z9L NL K a0 h:=by
 rw[← Zpb];exact Z03 rfl
def Z6m:Fun:=closedX [.a [none,none,none,none,none,none,some 3]] [.o,.o,.o] Z9M
theorem ZyW:CSound Tryz.prog 31 Z6m:=Z01 _ _ ZyU
theorem ZyX{a0 x0:AV}{h:Hp}{v:AV}(ha:cvts false h [x0]=some [a0])(hv:∀st,Zbg Tryz.prog Z3W Z9L NL (λv g=>cvt st g v) (nrm (.a [none,none,none,none,none,none,some 3]) a0) []=some v):Z6m [x0] h=some (v,h):=by
 have e:∀st,(Z9M (nrms [.a [none,none,none,none,none,none,some 3]] [a0]) []).bind (λ(p:AV × Hp)=>cvt st p.2 p.1)=some v:=λst=>(ZyV (λv g=>cvt st g v) (nrm (.a [none,none,none,none,none,none,some 3]) a0) []).trans (hv st)
 exact (Z25 (shr:=[.o,.o,.o]) ha e).trans (congrArg (λx=>some (x,h)) (Z0a 3 v))
def Zkz:DTab:=D0
theorem ZyY:DSound Tryz.prog Zkz:=DSound.zero
def ZkA:Tab:=T0
theorem ZyZ:TSound Tryz.prog ZkA:=TSound.zero
def ZkB:Fun:=runF Tryz.prog ZkA Zkz NL [0,1,2,3,4,5,6,7,16,23,24,25,26,30,74,91] Tryz.f148 1
theorem Zz0:CSound Tryz.prog 148 ZkB:=Z00 ZyZ ZyY mixed Tryz.func148 (by kernel_rfl) NL
def Zdu:Fun:=closedX [.a [none,some 4]] [.o,.o] ZkB
theorem Zz1:CSound Tryz.prog 148 Zdu:=Z01 _ _ Zz0
def ZkC:DTab:=D0
theorem Zz2:DSound Tryz.prog ZkC:=DSound.zero
def Zdv:Tab:=(updF T0 148 Zdu)
theorem Zz3:TSound Tryz.prog Zdv:=(TSound.upd TSound.zero Zz1)
@[simp] theorem ZH4:Zdv 148=some Zdu:=rfl
def ZkD:Fun:=runF Tryz.prog Zdv ZkC NL [0,1,2,4] Tryz.f77 1
theorem Zz4:CSound Tryz.prog 77 ZkD:=Z00 Zz3 Zz2 mixed Tryz.func77 (by kernel_rfl) NL
def Zdw:Fun:=closedX [.a [none,some 4]] [.o] ZkD
theorem Zz5:CSound Tryz.prog 77 Zdw:=Z01 _ _ Zz4
def ZkE:DTab:=D0
theorem Zz6:DSound Tryz.prog ZkE:=DSound.zero
def ZkF:Tab:=T0
theorem Zz7:TSound Tryz.prog ZkF:=TSound.zero
def ZkG:Fun:=runF Tryz.prog ZkF ZkE NL [0,1,2,3,5,7,8,9,10] Tryz.f149 1
theorem Zz8:CSound Tryz.prog 149 ZkG:=Z00 Zz7 Zz6 mixed Tryz.func149 (by kernel_rfl) NL
def Zdx:Fun:=closedX [.a [none,some 4]] [.o] ZkG
theorem Zz9:CSound Tryz.prog 149 Zdx:=Z01 _ _ Zz8
def ZkH:DTab:=D0
theorem Zza:DSound Tryz.prog ZkH:=DSound.zero
def Zdy:Tab:=(updF T0 149 Zdx)
theorem Zzb:TSound Tryz.prog Zdy:=(TSound.upd TSound.zero Zz9)
@[simp] theorem ZH5:Zdy 149=some Zdx:=rfl
def Zdz:Fun:=runF Tryz.prog Zdy ZkH NL [0,1,2,3,4,5,7,8,9,18] Tryz.f78 1
theorem Zzc:CSound Tryz.prog 78 Zdz:=Z00 Zzb Zza mixed Tryz.func78 (by kernel_rfl) NL
def Z9N:DTab:=D0
theorem Zzd:DSound Tryz.prog Z9N:=DSound.zero
def Z3X:Tab:=(updF (updF T0 77 Zdw) 78 Zdz)
theorem Zze:TSound Tryz.prog Z3X:=(TSound.upd (TSound.upd TSound.zero Zz5) Zzc)
@[simp] theorem ZH6:Z3X 77=some Zdw:=rfl
@[simp] theorem ZH7:Z3X 78=some Zdz:=rfl
def Z9O:Fun:=runF Tryz.prog Z3X Z9N NL [0,1,2,3,6] Tryz.f32 1
theorem Zzf:CSound Tryz.prog 32 Z9O:=Z00 Zze Zzd mixed Tryz.func32 (by kernel_rfl) NL
theorem Zzg{β:Type}(K:Kb β)(a0:AV)(h:Hp):(Z9O [a0] h).bind (λp=>K p.1 p.2)=Zbh Tryz.prog Z3X Z9N NL K a0 h:=by
 rw[← Zpc];exact Z03 rfl
def Z6n:Fun:=closedX [.a [none,some 4]] [.l 1,.o] Z9O
theorem Zzh:CSound Tryz.prog 32 Z6n:=Z01 _ _ Zzf
theorem Zzi{a0 x0:AV}{h:Hp}{v:AV}(ha:cvts false h [x0]=some [a0])(hv:∀st,Zbh Tryz.prog Z3X Z9N NL (λv g=>cvt st g v) (nrm (.a [none,some 4]) a0) []=some v):Z6n [x0] h=some ((nrmR [.l 1,.o] v),h):=by
 have e:∀st,(Z9O (nrms [.a [none,some 4]] [a0]) []).bind (λ(p:AV × Hp)=>cvt st p.2 p.1)=some v:=λst=>(Zzg (λv g=>cvt st g v) (nrm (.a [none,some 4]) a0) []).trans (hv st)
 exact (Z25 (shr:=[.l 1,.o]) ha e).trans (congrArg (λx=>some (x,h)) rfl)
def ZkI:DTab:=D0
theorem Zzj:DSound Tryz.prog ZkI:=DSound.zero
def ZkJ:Tab:=T0
theorem Zzk:TSound Tryz.prog ZkJ:=TSound.zero
def ZkK:Fun:=runF Tryz.prog ZkJ ZkI NL [0,2] Tryz.f151 1
theorem Zzl:CSound Tryz.prog 151 ZkK:=Z00 Zzk Zzj mixed Tryz.func151 (by kernel_rfl) NL
def Z6o:Fun:=closedX [.o] [.o] ZkK
theorem ZkL:CSound Tryz.prog 151 Z6o:=Z01 _ _ Zzl
def ZkM:DTab:=D0
theorem Zzm:DSound Tryz.prog ZkM:=DSound.zero
def ZdA:Tab:=(updF T0 151 Z6o)
theorem Zzn:TSound Tryz.prog ZdA:=(TSound.upd TSound.zero ZkL)
@[simp] theorem ZH8:ZdA 151=some Z6o:=rfl
def ZkN:Fun:=runF Tryz.prog ZdA ZkM NL [0,2,3,4,5,8,9,10,11,12,16,32] Tryz.f177 1
theorem Zzo:CSound Tryz.prog 177 ZkN:=Z00 Zzn Zzm mixed Tryz.func177 (by kernel_rfl) NL
def ZdB:Fun:=closedX [.l 2] [.o,.o] ZkN
theorem Zzp:CSound Tryz.prog 177 ZdB:=Z01 _ _ Zzo
def ZkO:DTab:=D0
theorem Zzq:DSound Tryz.prog ZkO:=DSound.zero
def ZdC:Tab:=(updF T0 177 ZdB)
theorem Zzr:TSound Tryz.prog ZdC:=(TSound.upd TSound.zero Zzp)
@[simp] theorem ZH9:ZdC 177=some ZdB:=rfl
def ZkP:Fun:=runF Tryz.prog ZdC ZkO NL [0,2,4] Tryz.f150 1
theorem Zzs:CSound Tryz.prog 150 ZkP:=Z00 Zzr Zzq mixed Tryz.func150 (by kernel_rfl) NL
def ZdD:Fun:=closedX [.l 2] [.o] ZkP
theorem Zzt:CSound Tryz.prog 150 ZdD:=Z01 _ _ Zzs
def ZkQ:DTab:=D0
theorem Zzu:DSound Tryz.prog ZkQ:=DSound.zero
def Z9P:Tab:=(updF (updF T0 150 ZdD) 151 Z6o)
theorem Zzv:TSound Tryz.prog Z9P:=(TSound.upd (TSound.upd TSound.zero Zzt) ZkL)
@[simp] theorem ZHa:Z9P 150=some ZdD:=rfl
@[simp] theorem ZHb:Z9P 151=some Z6o:=rfl
def ZkR:Fun:=runF Tryz.prog Z9P ZkQ NL [0,1,2,6,7,11] Tryz.f79 3
theorem Zzw:CSound Tryz.prog 79 ZkR:=Z00 Zzv Zzu mixed Tryz.func79 (by kernel_rfl) NL
def ZdE:Fun:=closedX [.l 2,.o,.o] [.o] ZkR
theorem Zzx:CSound Tryz.prog 79 ZdE:=Z01 _ _ Zzw
def ZkS:DTab:=D0
theorem Zzy:DSound Tryz.prog ZkS:=DSound.zero
def ZkT:Tab:=T0
theorem Zzz:TSound Tryz.prog ZkT:=TSound.zero
def ZkU:Fun:=runF Tryz.prog ZkT ZkS NL [0,2,3,4,5,6,7,8,9,10,15,16,17] Tryz.f80 1
theorem ZzA:CSound Tryz.prog 80 ZkU:=Z00 Zzz Zzy mixed Tryz.func80 (by kernel_rfl) NL
def ZdF:Fun:=closedX [.l 2] [.o] ZkU
theorem ZzB:CSound Tryz.prog 80 ZdF:=Z01 _ _ ZzA
def ZkV:DTab:=D0
theorem ZzC:DSound Tryz.prog ZkV:=DSound.zero
def ZkW:Tab:=T0
theorem ZzD:TSound Tryz.prog ZkW:=TSound.zero
def ZkX:Fun:=runF Tryz.prog ZkW ZkV NL [0,2] Tryz.f152 1
theorem ZzE:CSound Tryz.prog 152 ZkX:=Z00 ZzD ZzC mixed Tryz.func152 (by kernel_rfl) NL
def ZdG:Fun:=closedX [.o] [.o] ZkX
theorem ZzF:CSound Tryz.prog 152 ZdG:=Z01 _ _ ZzE
def ZkY:DTab:=D0
theorem ZzG:DSound Tryz.prog ZkY:=DSound.zero
def ZkZ:Tab:=T0
theorem ZzH:TSound Tryz.prog ZkZ:=TSound.zero
def Zl0:Fun:=runF Tryz.prog ZkZ ZkY NL [0,2] Tryz.f153 1
theorem ZzI:CSound Tryz.prog 153 Zl0:=Z00 ZzH ZzG mixed Tryz.func153 (by kernel_rfl) NL
def ZdH:Fun:=closedX [.o] [.o] Zl0
theorem ZzJ:CSound Tryz.prog 153 ZdH:=Z01 _ _ ZzI
def Zl1:DTab:=D0
theorem ZzK:DSound Tryz.prog Zl1:=DSound.zero
def Z9Q:Tab:=(updF (updF T0 152 ZdG) 153 ZdH)
theorem ZzL:TSound Tryz.prog Z9Q:=(TSound.upd (TSound.upd TSound.zero ZzF) ZzJ)
@[simp] theorem ZHc:Z9Q 152=some ZdG:=rfl
@[simp] theorem ZHd:Z9Q 153=some ZdH:=rfl
def Zl2:Fun:=runF Tryz.prog Z9Q Zl1 NL [0,2] Tryz.f81 1
theorem ZzM:CSound Tryz.prog 81 Zl2:=Z00 ZzL ZzK mixed Tryz.func81 (by kernel_rfl) NL
def ZdI:Fun:=closedX [.o] [.o] Zl2
theorem ZzN:CSound Tryz.prog 81 ZdI:=Z01 _ _ ZzM
def Zl3:DTab:=D0
theorem ZzO:DSound Tryz.prog Zl3:=DSound.zero
def Zl4:Tab:=T0
theorem ZzP:TSound Tryz.prog Zl4:=TSound.zero
def Zl5:Fun:=runF Tryz.prog Zl4 Zl3 NL [0,2] Tryz.f82 1
theorem ZzQ:CSound Tryz.prog 82 Zl5:=Z00 ZzP ZzO mixed Tryz.func82 (by kernel_rfl) NL
def ZdJ:Fun:=closedX [.o] [.o] Zl5
theorem ZzR:CSound Tryz.prog 82 ZdJ:=Z01 _ _ ZzQ
def Zl6:DTab:=D0
theorem ZzS:DSound Tryz.prog Zl6:=DSound.zero
def Zl7:Tab:=T0
theorem ZzT:TSound Tryz.prog Zl7:=TSound.zero
def ZdK:Fun:=runF Tryz.prog Zl7 Zl6 NL [0,1,4,5,6,7,8,9,10,11,19] Tryz.f83 2
theorem ZzU:CSound Tryz.prog 83 ZdK:=Z00 ZzT ZzS mixed Tryz.func83 (by kernel_rfl) NL
def Zl8:DTab:=D0
theorem ZzV:DSound Tryz.prog Zl8:=DSound.zero
def ZdL:Tab:=(updF T0 154 Z3S)
theorem ZzW:TSound Tryz.prog ZdL:=(TSound.upd TSound.zero Zd3)
@[simp] theorem ZHe:ZdL 154=some Z3S:=rfl
def Zl9:Fun:=runF Tryz.prog ZdL Zl8 NL [0,1,4,5,6,7,8,9,10,11,12,19,28,35] Tryz.f84 2
theorem ZzX:CSound Tryz.prog 84 Zl9:=Z00 ZzW ZzV mixed Tryz.func84 (by kernel_rfl) NL
def ZdM:Fun:=closedX [.l 1,.l 1] [.o] Zl9
theorem ZzY:CSound Tryz.prog 84 ZdM:=Z01 _ _ ZzX
def Z9R:DTab:=D0
theorem ZzZ:DSound Tryz.prog Z9R:=DSound.zero
def Z1J:Tab:=(updF (updF (updF (updF (updF (updF T0 79 ZdE) 80 ZdF) 81 ZdI) 82 ZdJ) 83 ZdK) 84 ZdM)
theorem ZA0:TSound Tryz.prog Z1J:=(TSound.upd (TSound.upd (TSound.upd (TSound.upd (TSound.upd (TSound.upd TSound.zero Zzx) ZzB) ZzN) ZzR) ZzU) ZzY)
@[simp] theorem ZHf:Z1J 79=some ZdE:=rfl
@[simp] theorem ZHg:Z1J 80=some ZdF:=rfl
@[simp] theorem ZHh:Z1J 81=some ZdI:=rfl
@[simp] theorem ZHi:Z1J 82=some ZdJ:=rfl
@[simp] theorem ZHj:Z1J 83=some ZdK:=rfl
@[simp] theorem ZHk:Z1J 84=some ZdM:=rfl
def Z9S:Fun:=runF Tryz.prog Z1J Z9R NL [0,1,2,6,7,8,9,10,11,12,13,14,20,29,30,31,48,60,67] Tryz.f33 3
theorem ZA1:CSound Tryz.prog 33 Z9S:=Z00 ZA0 ZzZ mixed Tryz.func33 (by kernel_rfl) NL
theorem ZA2{β:Type}(K:Kb β)(a0 a1 a2:AV)(h:Hp):(Z9S [a0,a1,a2] h).bind (λp=>K p.1 p.2)=Z7p Tryz.prog Z1J Z9R NL K a0 a1 a2 h:=by
 rw[← Zpi];exact Z03 rfl
def Z6p:Fun:=closedX [.l 2,.o,.o] [.l 1,.o] Z9S
theorem ZA3:CSound Tryz.prog 33 Z6p:=Z01 _ _ ZA1
theorem ZA4{a0 a1 a2 x0 x1 x2:AV}{h:Hp}{v:AV}(ha:cvts false h [x0,x1,x2]=some [a0,a1,a2])(hv:∀st,Z7p Tryz.prog Z1J Z9R NL (λv g=>cvt st g v) (nrm (.l 2) a0) a1 a2 []=some v):Z6p [x0,x1,x2] h=some ((nrmR [.l 1,.o] v),h):=by
 have e:∀st,(Z9S (nrms [.l 2,.o,.o] [a0,a1,a2]) []).bind (λ(p:AV × Hp)=>cvt st p.2 p.1)=some v:=λst=>(ZA2 (λv g=>cvt st g v) (nrm (.l 2) a0) a1 a2 []).trans (hv st)
 exact (Z25 (shr:=[.l 1,.o]) ha e).trans (congrArg (λx=>some (x,h)) rfl)
def Z9T:DTab:=D0
theorem ZA5:DSound Tryz.prog Z9T:=DSound.zero
def Z1c:Tab:=(updF (updF (updF (updF (updF (updF (updF (updF T0 7 Z1j) 11 Z1s) 21 Z68) 22 Z6h) 30 Z6j) 31 Z6m) 32 Z6n) 33 Z6p)
theorem ZA6:TSound Tryz.prog Z1c:=(TSound.upd (TSound.upd (TSound.upd (TSound.upd (TSound.upd (TSound.upd (TSound.upd (TSound.upd TSound.zero ZbO) ZhI) Zub) ZwN) Zy3) ZyW) Zzh) ZA3)
@[simp] theorem ZA7:Z1c 7=some Z1j:=rfl
@[simp] theorem ZA8:Z1c 11=some Z1s:=rfl
@[simp] theorem ZA9:Z1c 21=some Z68:=rfl
@[simp] theorem ZAa:Z1c 22=some Z6h:=rfl
@[simp] theorem ZAb:Z1c 30=some Z6j:=rfl
@[simp] theorem ZAc:Z1c 31=some Z6m:=rfl
@[simp] theorem ZAd:Z1c 32=some Z6n:=rfl
@[simp] theorem ZAe:Z1c 33=some Z6p:=rfl
def Z9U:Fun:=runF Tryz.prog Z1c Z9T NN [0,1,2,3,4,5,6,7,8,10,11,12,13,14,15,16] Tryz.f5 0
theorem ZAf:CSound Tryz.prog 5 Z9U:=Z00 ZA6 ZA5 mixed Tryz.func5 (by kernel_rfl) NN
theorem ZAg{β:Type}(K:Kb β)(h:Hp):(Z9U [] h).bind (λp=>K p.1 p.2)=Z79 Tryz.prog Z1c Z9T NN K  h:=by
 rw[← ZoF];exact Z03 rfl
def Z6q:Fun:=closedX [] [.o] Z9U
theorem ZAh:CSound Tryz.prog 5 Z6q:=Z01 _ _ ZAf
theorem ZAi{v:AV}(ha:plains []=true)(hv:Z79 Tryz.prog Z1c Z9T NN (λv g=>cvt false g v)  []=some v)(h:Hp):Z6q [] h=some (v,h):=by
 have e:(Z9U (nrms [] []) []).bind (λ(p:AV × Hp)=>cvt false p.2 p.1)=some v:=(ZAg (λv g=>cvt false g v)  []).trans hv
 exact (Z09 (shr:=[.o]) ha e h).trans (congrArg (λx=>some (x,h)) (Z0a 1 v))
def Z9V:DTab:=D0
theorem ZAj:DSound Tryz.prog Z9V:=DSound.zero
def Z9W:Tab:=T0
theorem ZAk:TSound Tryz.prog Z9W:=TSound.zero
def Z9X:Fun:=runF Tryz.prog Z9W Z9V NN [0,2] Tryz.f6 1
theorem ZAl:CSound Tryz.prog 6 Z9X:=Z00 ZAk ZAj mixed Tryz.func6 (by kernel_rfl) NN
theorem ZAm{β:Type}(K:Kb β)(a0:AV)(h:Hp):(Z9X [a0] h).bind (λp=>K p.1 p.2)=Z7a Tryz.prog Z9W Z9V NN K a0 h:=by
 rw[← ZoG];exact Z03 rfl
def Z3Y:Fun:=closedX [.l 4] [.o] Z9X
theorem ZAn:CSound Tryz.prog 6 Z3Y:=Z01 _ _ ZAl
theorem ZAo{a0 v:AV}(ha:plains [a0]=true)(hv:Z7a Tryz.prog Z9W Z9V NN (λv g=>cvt false g v) (nrm (.l 4) a0) []=some v)(h:Hp):Z3Y [a0] h=some (v,h):=by
 have e:(Z9X (nrms [.l 4] [a0]) []).bind (λ(p:AV × Hp)=>cvt false p.2 p.1)=some v:=(ZAm (λv g=>cvt false g v) (nrm (.l 4) a0) []).trans hv
 exact (Z09 (shr:=[.o]) ha e h).trans (congrArg (λx=>some (x,h)) (Z0a 1 v))
def Z9Y:Fun:=sortedKeysF 90
theorem ZAp:CSound Tryz.prog 38 Z9Y:=Tryz.keysSound
def Z9Z:DTab:=D0
theorem ZAq:DSound Tryz.prog Z9Z:=DSound.zero
def Za0:Tab:=T0
theorem ZAr:TSound Tryz.prog Za0:=TSound.zero
def ZdN:Fun:=runF Tryz.prog Za0 Z9Z NN [0,1,2] Tryz.f39 1
theorem ZAs:CSound Tryz.prog 39 ZdN:=Z00 ZAr ZAq mixed Tryz.func39 (by kernel_rfl) NN
theorem ZAt{β:Type}(K:Kb β)(a0:AV)(h:Hp):(ZdN [a0] h).bind (λp=>K p.1 p.2)=Z7v Tryz.prog Za0 Z9Z NN K a0 h:=by
 rw[← Zpr];exact Z03 rfl
def Z6r:Fun:=ZdN
theorem ZAu:CSound Tryz.prog 39 Z6r:=ZAs
theorem ZAv(a0:AV)(h:Hp):Z6r [a0] h=Z7v Tryz.prog Za0 Z9Z NN (λv h=>some (v,h)) a0 h:=(Z0k _).symm.trans (ZAt (λv h=>some (v,h)) a0 h)
def Z34:DTab:=D0
theorem ZAw:DSound Tryz.prog Z34:=DSound.zero
def Z35:Tab:=T0
theorem ZAx:TSound Tryz.prog Z35:=TSound.zero
def Za1:Fun:=runF Tryz.prog Z35 Z34 NN [0,2,4,5,9,13,14,15,16,24] Tryz.f190 1
theorem ZAy:CSound Tryz.prog 190 Za1:=Z00 ZAx ZAw mixed Tryz.func190 (by kernel_rfl) NN
theorem ZAz{β:Type}(K:Kb β)(a0:AV)(h:Hp):(Za1 [a0] h).bind (λp=>K p.1 p.2)=Z5d Tryz.prog Z35 Z34 NN K a0 h:=by
 rw[← ZqS];exact Z03 rfl
def Z6s:Fun:=closedX [.l 1] [.o] Za1
theorem ZAA:CSound Tryz.prog 190 Z6s:=Z01 _ _ ZAy
theorem ZAB{a0 v:AV}(ha:plains [a0]=true)(hv:Z5d Tryz.prog Z35 Z34 NN (λv g=>cvt false g v) (nrm (.l 1) a0) []=some v)(h:Hp):Z6s [a0] h=some (v,h):=by
 have e:(Za1 (nrms [.l 1] [a0]) []).bind (λ(p:AV × Hp)=>cvt false p.2 p.1)=some v:=(ZAz (λv g=>cvt false g v) (nrm (.l 1) a0) []).trans hv
 exact (Z09 (shr:=[.o]) ha e h).trans (congrArg (λx=>some (x,h)) (Z0a 1 v))
def Za2:DTab:=D0
theorem ZAC:DSound Tryz.prog Za2:=DSound.zero
def Z6t:Tab:=(updF T0 190 Z6s)
theorem ZAD:TSound Tryz.prog Z6t:=(TSound.upd TSound.zero ZAA)
@[simp] theorem ZAE:Z6t 190=some Z6s:=rfl
def Za3:Fun:=runF Tryz.prog Z6t Za2 NN [0,1,4,5,6,10,15,22] Tryz.f158 2
theorem ZAF:CSound Tryz.prog 158 Za3:=Z00 ZAD ZAC mixed Tryz.func158 (by kernel_rfl) NN
theorem ZAG{β:Type}(K:Kb β)(a0 a1:AV)(h:Hp):(Za3 [a0,a1] h).bind (λp=>K p.1 p.2)=Z88 Tryz.prog Z6t Za2 NN K a0 a1 h:=by
 rw[← Zqt];exact Z03 rfl
def Z6u:Fun:=closedX [.l 1,.l 1] [.o] Za3
theorem ZAH:CSound Tryz.prog 158 Z6u:=Z01 _ _ ZAF
theorem ZAI{a0 a1 v:AV}(ha:plains [a0,a1]=true)(hv:Z88 Tryz.prog Z6t Za2 NN (λv g=>cvt false g v) (nrm (.l 1) a0) (nrm (.l 1) a1) []=some v)(h:Hp):Z6u [a0,a1] h=some (v,h):=by
 have e:(Za3 (nrms [.l 1,.l 1] [a0,a1]) []).bind (λ(p:AV × Hp)=>cvt false p.2 p.1)=some v:=(ZAG (λv g=>cvt false g v) (nrm (.l 1) a0) (nrm (.l 1) a1) []).trans hv
 exact (Z09 (shr:=[.o]) ha e h).trans (congrArg (λx=>some (x,h)) (Z0a 1 v))
def Za4:DTab:=D0
theorem ZAJ:DSound Tryz.prog Za4:=DSound.zero
def Za5:Tab:=T0
theorem ZAK:TSound Tryz.prog Za5:=TSound.zero
def Z3Z:Fun:=runF Tryz.prog Za5 Za4 NN [0,1,4,6,16] Tryz.f191 2
theorem ZAL:CSound Tryz.prog 191 Z3Z:=Z00 ZAK ZAJ mixed Tryz.func191 (by kernel_rfl) NN
theorem ZAM{β:Type}(K:Kb β)(a0 a1:AV)(h:Hp):(Z3Z [a0,a1] h).bind (λp=>K p.1 p.2)=Z5e Tryz.prog Za5 Za4 NN K a0 a1 h:=by
 rw[← ZqT];exact Z03 rfl
theorem ZAN(a0 a1:AV)(h:Hp):Z3Z [a0,a1] h=Z5e Tryz.prog Za5 Za4 NN (λv h=>some (v,h)) a0 a1 h:=(Z0k _).symm.trans (ZAM (λv h=>some (v,h)) a0 a1 h)
def Z1l:DTab:=D0
theorem ZAO:DSound Tryz.prog Z1l:=DSound.zero
def Z1d:Tab:=(updF T0 191 Z3Z)
theorem ZAP:TSound Tryz.prog Z1d:=(TSound.upd TSound.zero ZAL)
@[simp] theorem ZHl:Z1d 191=some Z3Z:=rfl
def Za6:Fun:=runF Tryz.prog Z1d Z1l NN [0,2,3,5,6,8,9,10,11,12,20,25,26,27,28] Tryz.f159 1
theorem ZAQ:CSound Tryz.prog 159 Za6:=Z00 ZAP ZAO mixed Tryz.func159 (by kernel_rfl) NN
theorem ZAR{β:Type}(K:Kb β)(a0:AV)(h:Hp):(Za6 [a0] h).bind (λp=>K p.1 p.2)=Z3t Tryz.prog Z1d Z1l NN K a0 h:=by
 rw[← ZqC];exact Z03 rfl
def Z2s:Fun:=closedX [.l 1] [.l 1] Za6
theorem Zla:CSound Tryz.prog 159 Z2s:=Z01 _ _ ZAQ
theorem ZAS{a0 x0:AV}{h:Hp}{v:AV}(ha:cvts false h [x0]=some [a0])(hv:∀st,Z3t Tryz.prog Z1d Z1l NN (λv g=>cvt st g v) (nrm (.l 1) a0) []=some v):Z2s [x0] h=some ((nrmR [.l 1] v),h):=by
 have e:∀st,(Za6 (nrms [.l 1] [a0]) []).bind (λ(p:AV × Hp)=>cvt st p.2 p.1)=some v:=λst=>(ZAR (λv g=>cvt st g v) (nrm (.l 1) a0) []).trans (hv st)
 exact (Z25 (shr:=[.l 1]) ha e).trans (congrArg (λx=>some (x,h)) rfl)
def Z1m:DTab:=D0
theorem ZAT:DSound Tryz.prog Z1m:=DSound.zero
def Z1n:Tab:=T0
theorem ZAU:TSound Tryz.prog Z1n:=TSound.zero
def Za7:Fun:=runF Tryz.prog Z1n Z1m NN [0,1,4,5,7,8,10,11,12,13,14,17,18,19,20,23,29] Tryz.f160 2
theorem ZAV:CSound Tryz.prog 160 Za7:=Z00 ZAU ZAT mixed Tryz.func160 (by kernel_rfl) NN
theorem ZAW{β:Type}(K:Kb β)(a0 a1:AV)(h:Hp):(Za7 [a0,a1] h).bind (λp=>K p.1 p.2)=Z3v Tryz.prog Z1n Z1m NN K a0 a1 h:=by
 rw[← ZqK];exact Z03 rfl
def Z36:Fun:=closedX [.l 1,.l 1] [.l 1] Za7
theorem Zlb:CSound Tryz.prog 160 Z36:=Z01 _ _ ZAV
theorem Zlc{a0 a1 v:AV}(ha:plains [a0,a1]=true)(hv:Z3v Tryz.prog Z1n Z1m NN (λv g=>cvt false g v) (nrm (.l 1) a0) (nrm (.l 1) a1) []=some v)(h:Hp):Z36 [a0,a1] h=some ((nrmR [.l 1] v),h):=by
 have e:(Za7 (nrms [.l 1,.l 1] [a0,a1]) []).bind (λ(p:AV × Hp)=>cvt false p.2 p.1)=some v:=(ZAW (λv g=>cvt false g v) (nrm (.l 1) a0) (nrm (.l 1) a1) []).trans hv
 exact (Z09 (shr:=[.l 1]) ha e h).trans (congrArg (λx=>some (x,h)) rfl)
def Z2t:DTab:=D0
theorem ZAX:DSound Tryz.prog Z2t:=DSound.zero
def Z1K:Tab:=(updF (updF T0 159 Z2s) 160 Z36)
theorem ZAY:TSound Tryz.prog Z1K:=(TSound.upd (TSound.upd TSound.zero Zla) Zlb)
@[simp] theorem ZAZ:Z1K 159=some Z2s:=rfl
@[simp] theorem ZB0:Z1K 160=some Z36:=rfl
def Za8:Fun:=runF Tryz.prog Z1K Z2t NN [0,1,4,5,7,13,14,15,16] Tryz.f161 2
theorem ZB1:CSound Tryz.prog 161 Za8:=Z00 ZAY ZAX mixed Tryz.func161 (by kernel_rfl) NN
theorem ZB2{β:Type}(K:Kb β)(a0 a1:AV)(h:Hp):(Za8 [a0,a1] h).bind (λp=>K p.1 p.2)=Z5a Tryz.prog Z1K Z2t NN K a0 a1 h:=by
 rw[← ZqO];exact Z03 rfl
def Z6v:Fun:=closedX [.l 1,.l 1] [.o] Za8
theorem ZB3:CSound Tryz.prog 161 Z6v:=Z01 _ _ ZB1
theorem ZB4{a0 a1 v:AV}(ha:plains [a0,a1]=true)(hv:Z5a Tryz.prog Z1K Z2t NN (λv g=>cvt false g v) (nrm (.l 1) a0) (nrm (.l 1) a1) []=some v)(h:Hp):Z6v [a0,a1] h=some (v,h):=by
 have e:(Za8 (nrms [.l 1,.l 1] [a0,a1]) []).bind (λ(p:AV × Hp)=>cvt false p.2 p.1)=some v:=(ZB2 (λv g=>cvt false g v) (nrm (.l 1) a0) (nrm (.l 1) a1) []).trans hv
 exact (Z09 (shr:=[.o]) ha e h).trans (congrArg (λx=>some (x,h)) (Z0a 1 v))
def Z13:DTab:=D0
theorem ZB5:DSound Tryz.prog Z13:=DSound.zero
def Z0r:Tab:=(updF (updF (updF (updF T0 158 Z6u) 159 Z2s) 160 Z36) 161 Z6v)
theorem ZB6:TSound Tryz.prog Z0r:=(TSound.upd (TSound.upd (TSound.upd (TSound.upd TSound.zero ZAH) Zla) Zlb) ZB3)
@[simp] theorem Zld:Z0r 158=some Z6u:=rfl
@[simp] theorem ZB7:Z0r 159=some Z2s:=rfl
@[simp] theorem ZB8:Z0r 160=some Z36:=rfl
@[simp] theorem ZB9:Z0r 161=some Z6v:=rfl
def Z6w:Fun:=closedXK [.l 1,.l 1] [.o,.o,.o] (λ{β} (K:Kb β) (args:List AV) (h:Hp)=>if args.length=2 then runK Tryz.prog Z0r Z13 NN [0,1,4,5,6,7,8,9,11,12,13,14,15,16,17,18,19,24,35,36,37,38,43,45,60,81,83,91,98] Tryz.f91 K args h else none)
theorem ZBa:CSound Tryz.prog 91 Z6w:=Zho _ _ (Zhn ZB6 ZB5 mixed Tryz.func91 (by kernel_rfl) NN)
theorem Zle{a0 a1 v:AV}(ha:plains [a0,a1]=true)(hv:Z50 Tryz.prog Z0r Z13 NN (λv g=>cvt false g v) (nrm (.l 1) a0) (nrm (.l 1) a1) []=some v)(h:Hp):Z6w [a0,a1] h=some (v,h):=
 (Zhp (RK:=(λ{β} (K:Kb β) (args:List AV) (h:Hp)=>if args.length=2 then runK Tryz.prog Z0r Z13 NN [0,1,4,5,6,7,8,9,11,12,13,14,15,16,17,18,19,24,35,36,37,38,43,45,60,81,83,91,98] Tryz.f91 K args h else none)) ha ((if_pos rfl).trans ((Zqb Z0r Z13 NN (λv g=>cvt false g v) (nrm (.l 1) a0) (nrm (.l 1) a1) []).trans hv)) h).trans (congrArg (λx=>some (x,h)) (Z0a 3 v))
def Za9:DTab:=D0
theorem ZBb:DSound Tryz.prog Za9:=DSound.zero
def Z40:Tab:=(updF (updF T0 10 Z16) 91 Z6w)
theorem ZBc:TSound Tryz.prog Z40:=(TSound.upd (TSound.upd TSound.zero Z8v) ZBa)
@[simp] theorem ZBd:Z40 10=some Z16:=rfl
@[simp] theorem ZBe:Z40 91=some Z6w:=rfl
def Zaa:Fun:=runF Tryz.prog Z40 Za9 NN [0,1,2,6,7,8,9,10,11,20,24] Tryz.f41 3
theorem ZBf:CSound Tryz.prog 41 Zaa:=Z00 ZBc ZBb mixed Tryz.func41 (by kernel_rfl) NN
theorem ZBg{β:Type}(K:Kb β)(a0 a1 a2:AV)(h:Hp):(Zaa [a0,a1,a2] h).bind (λp=>K p.1 p.2)=Z7x Tryz.prog Z40 Za9 NN K a0 a1 a2 h:=by
 rw[← Zpw];exact Z03 rfl
def Z6x:Fun:=closedX [.l 4,.o,.o] [.o,.o,.o] Zaa
theorem ZBh:CSound Tryz.prog 41 Z6x:=Z01 _ _ ZBf
theorem ZBi{a0 a1 a2 v:AV}(ha:plains [a0,a1,a2]=true)(hv:Z7x Tryz.prog Z40 Za9 NN (λv g=>cvt false g v) (nrm (.l 4) a0) a1 a2 []=some v)(h:Hp):Z6x [a0,a1,a2] h=some (v,h):=by
 have e:(Zaa (nrms [.l 4,.o,.o] [a0,a1,a2]) []).bind (λ(p:AV × Hp)=>cvt false p.2 p.1)=some v:=(ZBg (λv g=>cvt false g v) (nrm (.l 4) a0) a1 a2 []).trans hv
 exact (Z09 (shr:=[.o,.o,.o]) ha e h).trans (congrArg (λx=>some (x,h)) (Z0a 3 v))
def Z21:DTab:=D0
theorem ZBj:DSound Tryz.prog Z21:=DSound.zero
def Z11:Tab:=(updF (updF (updF (updF (updF (updF T0 34 Z1r) 37 Z2V) 38 Z9Y) 39 Z6r) 40 Z1W) 41 Z6x)
theorem ZBk:TSound Tryz.prog Z11:=(TSound.upd (TSound.upd (TSound.upd (TSound.upd (TSound.upd (TSound.upd TSound.zero ZbK) Zhw) ZAp) ZAu) Zhx) ZBh)
@[simp] theorem Zab:Z11 34=some Z1r:=rfl
@[simp] theorem Zac:Z11 37=some Z2V:=rfl
@[simp] theorem ZBl:Z11 38=some Z9Y:=rfl
@[simp] theorem ZBm:Z11 39=some Z6r:=rfl
@[simp] theorem ZBn:Z11 40=some Z1W:=rfl
@[simp] theorem ZBo:Z11 41=some Z6x:=rfl
def Z6y:Fun:=runF Tryz.prog Z11 Z21 NN [0,1,2,3,8,9,10,11,13,14,15,16,19,23,47,48,49,50,71] Tryz.f9 4
theorem ZBp:CSound Tryz.prog 9 Z6y:=Z00 ZBk ZBj mixed Tryz.func9 (by kernel_rfl) NN
theorem ZBq{β:Type}(K:Kb β)(a0 a1 a2 a3:AV)(h:Hp):(Z6y [a0,a1,a2,a3] h).bind (λp=>K p.1 p.2)=Z1o Tryz.prog Z11 Z21 NN K a0 a1 a2 a3 h:=by
 rw[← ZoN];exact Z03 rfl
def Z37:Fun:=closedX [.l 4,.o,.o,.o] [.l 1,.o] Z6y
theorem Zlf:CSound Tryz.prog 9 Z37:=Z01 _ _ ZBp
def ZdO:DFun:=closedXD [.l 4,.o,.o,.o] [.l 1,.o] Z6y
theorem ZBr:Ro Z37 ZdO:=Z0g _ _ _
theorem Zlg{a0 a1 a2 a3 v:AV}(ha:plains [a0,a1,a2,a3]=true)(hv:Z1o Tryz.prog Z11 Z21 NN (λv g=>cvt false g v) (nrm (.l 4) a0) a1 a2 a3 []=some v)(h:Hp):Z37 [a0,a1,a2,a3] h=some ((nrmR [.l 1,.o] v),h):=by
 have e:(Z6y (nrms [.l 4,.o,.o,.o] [a0,a1,a2,a3]) []).bind (λ(p:AV × Hp)=>cvt false p.2 p.1)=some v:=(ZBq (λv g=>cvt false g v) (nrm (.l 4) a0) a1 a2 a3 []).trans hv
 exact (Z09 (shr:=[.l 1,.o]) ha e h).trans (congrArg (λx=>some (x,h)) rfl)
def Zad:DTab:=D0
theorem ZBs:DSound Tryz.prog Zad:=DSound.zero
def Zae:Tab:=T0
theorem ZBt:TSound Tryz.prog Zae:=TSound.zero
def Zaf:Fun:=runF Tryz.prog Zae Zad NN [0,1,2,3] Tryz.f15 2
theorem ZBu:CSound Tryz.prog 15 Zaf:=Z00 ZBt ZBs mixed Tryz.func15 (by kernel_rfl) NN
theorem ZBv{β:Type}(K:Kb β)(a0 a1:AV)(h:Hp):(Zaf [a0,a1] h).bind (λp=>K p.1 p.2)=Z7i Tryz.prog Zae Zad NN K a0 a1 h:=by
 rw[← ZoW];exact Z03 rfl
def Z38:Fun:=quietT Zaf
theorem Zlh:CSound Tryz.prog 15 Z38:=Z1R ZBu
theorem ZBw{a0 a1:AV}{h:Hp}{g:List AObj}{v:AV}(hv:Z7i Tryz.prog Zae Zad NN (λv h=>some (v,h)) a0 a1 h=some (v,h++g))(hp:plain v=true):Z38 [a0,a1] h=some (v,h):=Z1Q (F:=Zaf) (((Z0k _).symm.trans (ZBv (λv h=>some (v,h)) a0 a1 h)).trans hv) hp
def Zag:DTab:=D0
theorem ZBx:DSound Tryz.prog Zag:=DSound.zero
def Z41:Tab:=(updF T0 15 Z38)
theorem ZBy:TSound Tryz.prog Z41:=(TSound.upd TSound.zero Zlh)
@[simp] theorem ZBz:Z41 15=some Z38:=rfl
def Zah:Fun:=runF Tryz.prog Z41 Zag NN [0,1,4,5,7,8,9,16] Tryz.f44 2
theorem ZBA:CSound Tryz.prog 44 Zah:=Z00 ZBy ZBx mixed Tryz.func44 (by kernel_rfl) NN
theorem ZBB{β:Type}(K:Kb β)(a0 a1:AV)(h:Hp):(Zah [a0,a1] h).bind (λp=>K p.1 p.2)=Z2f Tryz.prog Z41 Zag NN K a0 a1 h:=by
 rw[← ZgK];exact Z03 rfl
def Z6z:Fun:=quietT Zah
theorem ZBC:CSound Tryz.prog 44 Z6z:=Z1R ZBA
theorem ZBD{a0 a1:AV}{h:Hp}{g:List AObj}{v:AV}(hv:Z2f Tryz.prog Z41 Zag NN (λv h=>some (v,h)) a0 a1 h=some (v,h++g))(hp:plain v=true):Z6z [a0,a1] h=some (v,h):=Z1Q (F:=Zah) (((Z0k _).symm.trans (ZBB (λv h=>some (v,h)) a0 a1 h)).trans hv) hp
def Zai:DTab:=D0
theorem ZBE:DSound Tryz.prog Zai:=DSound.zero
def Z6A:Tab:=(updF T0 44 Z6z)
theorem ZBF:TSound Tryz.prog Z6A:=(TSound.upd TSound.zero ZBC)
@[simp] theorem ZBG:Z6A 44=some Z6z:=rfl
def Zaj:Fun:=runF Tryz.prog Z6A Zai NN [0,1,4] Tryz.f14 2
theorem ZBH:CSound Tryz.prog 14 Zaj:=Z00 ZBF ZBE mixed Tryz.func14 (by kernel_rfl) NN
theorem ZBI{β:Type}(K:Kb β)(a0 a1:AV)(h:Hp):(Zaj [a0,a1] h).bind (λp=>K p.1 p.2)=Z7h Tryz.prog Z6A Zai NN K a0 a1 h:=by
 rw[← ZoV];exact Z03 rfl
def Z6B:Fun:=quietT Zaj
theorem ZBJ:CSound Tryz.prog 14 Z6B:=Z1R ZBH
theorem ZBK{a0 a1:AV}{h:Hp}{g:List AObj}{v:AV}(hv:Z7h Tryz.prog Z6A Zai NN (λv h=>some (v,h)) a0 a1 h=some (v,h++g))(hp:plain v=true):Z6B [a0,a1] h=some (v,h):=Z1Q (F:=Zaj) (((Z0k _).symm.trans (ZBI (λv h=>some (v,h)) a0 a1 h)).trans hv) hp
def Zak:DTab:=D0
theorem ZBL:DSound Tryz.prog Zak:=DSound.zero
def Z42:Tab:=(updF (updF T0 14 Z6B) 15 Z38)
theorem ZBM:TSound Tryz.prog Z42:=(TSound.upd (TSound.upd TSound.zero ZBJ) Zlh)
@[simp] theorem ZBN:Z42 14=some Z6B:=rfl
@[simp] theorem ZHm:Z42 15=some Z38:=rfl
def Zal:Fun:=runF Tryz.prog Z42 Zak NN [0,1,2,3,4] Tryz.f13 3
theorem ZBO:CSound Tryz.prog 13 Zal:=Z00 ZBM ZBL mixed Tryz.func13 (by kernel_rfl) NN
theorem ZBP{β:Type}(K:Kb β)(a0 a1 a2:AV)(h:Hp):(Zal [a0,a1,a2] h).bind (λp=>K p.1 p.2)=Z7g Tryz.prog Z42 Zak NN K a0 a1 a2 h:=by
 rw[← ZoU];exact Z03 rfl
def Z39:Fun:=quietT Zal
theorem Zli:CSound Tryz.prog 13 Z39:=Z1R ZBO
theorem ZBQ{a0 a1 a2:AV}{h:Hp}{g:List AObj}{v:AV}(hv:Z7g Tryz.prog Z42 Zak NN (λv h=>some (v,h)) a0 a1 a2 h=some (v,h++g))(hp:plain v=true):Z39 [a0,a1,a2] h=some (v,h):=Z1Q (F:=Zal) (((Z0k _).symm.trans (ZBP (λv h=>some (v,h)) a0 a1 a2 h)).trans hv) hp
def Zam:DTab:=D0
theorem ZBR:DSound Tryz.prog Zam:=DSound.zero
def Z43:Tab:=(updF T0 13 Z39)
theorem ZBS:TSound Tryz.prog Z43:=(TSound.upd TSound.zero Zli)
@[simp] theorem ZBT:Z43 13=some Z39:=rfl
def Zan:Fun:=runF Tryz.prog Z43 Zam NN [0,1,4,5,7,8,9,16] Tryz.f43 2
theorem ZBU:CSound Tryz.prog 43 Zan:=Z00 ZBS ZBR mixed Tryz.func43 (by kernel_rfl) NN
theorem ZBV{β:Type}(K:Kb β)(a0 a1:AV)(h:Hp):(Zan [a0,a1] h).bind (λp=>K p.1 p.2)=Z4M Tryz.prog Z43 Zam NN K a0 a1 h:=by
 rw[← ZpF];exact Z03 rfl
def Z6C:Fun:=quietT Zan
theorem ZBW:CSound Tryz.prog 43 Z6C:=Z1R ZBU
theorem ZBX{a0 a1:AV}{h:Hp}{g:List AObj}{v:AV}(hv:Z4M Tryz.prog Z43 Zam NN (λv h=>some (v,h)) a0 a1 h=some (v,h++g))(hp:plain v=true):Z6C [a0,a1] h=some (v,h):=Z1Q (F:=Zan) (((Z0k _).symm.trans (ZBV (λv h=>some (v,h)) a0 a1 h)).trans hv) hp
def Zao:DTab:=D0
theorem ZBY:DSound Tryz.prog Zao:=DSound.zero
def Z6D:Tab:=(updF T0 43 Z6C)
theorem ZBZ:TSound Tryz.prog Z6D:=(TSound.upd TSound.zero ZBW)
@[simp] theorem ZC0:Z6D 43=some Z6C:=rfl
def Zap:Fun:=runF Tryz.prog Z6D Zao NN [0,1,4] Tryz.f12 2
theorem ZC1:CSound Tryz.prog 12 Zap:=Z00 ZBZ ZBY mixed Tryz.func12 (by kernel_rfl) NN
theorem ZC2{β:Type}(K:Kb β)(a0 a1:AV)(h:Hp):(Zap [a0,a1] h).bind (λp=>K p.1 p.2)=Z7f Tryz.prog Z6D Zao NN K a0 a1 h:=by
 rw[← ZoT];exact Z03 rfl
def Z6E:Fun:=quietT Zap
theorem ZC3:CSound Tryz.prog 12 Z6E:=Z1R ZC1
theorem ZC4{a0 a1:AV}{h:Hp}{g:List AObj}{v:AV}(hv:Z7f Tryz.prog Z6D Zao NN (λv h=>some (v,h)) a0 a1 h=some (v,h++g))(hp:plain v=true):Z6E [a0,a1] h=some (v,h):=Z1Q (F:=Zap) (((Z0k _).symm.trans (ZC2 (λv h=>some (v,h)) a0 a1 h)).trans hv) hp
def Z0o:DTab:=(updD (updD (updD (updD D0 7 ZbP) 8 ZbI) 9 ZdO) 10 ZbM)
theorem ZC5:DSound Tryz.prog Z0o:=(DSound.ro (DSound.ro (DSound.ro (DSound.ro DSound.zero Zs8 ZbO) Zr1 Zht) ZBr Zlf) ZrL Z8v)
@[simp] theorem ZHn:Z0o 7=some ZbP:=rfl
@[simp] theorem ZHo:Z0o 8=some ZbI:=rfl
@[simp] theorem ZHp:Z0o 9=some ZdO:=rfl
@[simp] theorem ZHq:Z0o 10=some ZbM:=rfl
def Z0t:Tab:=(updF (updF (updF (updF (updF (updF (updF (updF (updF T0 5 Z6q) 6 Z3Y) 7 Z1j) 8 Z3y) 9 Z37) 10 Z16) 11 Z1s) 12 Z6E) 13 Z39)
theorem ZC6:TSound Tryz.prog Z0t:=(TSound.upd (TSound.upd (TSound.upd (TSound.upd (TSound.upd (TSound.upd (TSound.upd (TSound.upd (TSound.upd TSound.zero ZAh) ZAn) ZbO) Zht) Zlf) Z8v) ZhI) ZC3) Zli)
@[simp] theorem Zlj:Z0t 5=some Z6q:=rfl
@[simp] theorem ZC7:Z0t 6=some Z3Y:=rfl
@[simp] theorem ZHr:Z0t 7=some Z1j:=rfl
@[simp] theorem ZHs:Z0t 8=some Z3y:=rfl
@[simp] theorem ZHt:Z0t 9=some Z37:=rfl
@[simp] theorem ZHu:Z0t 10=some Z16:=rfl
@[simp] theorem ZC8:Z0t 11=some Z1s:=rfl
@[simp] theorem ZC9:Z0t 12=some Z6E:=rfl
@[simp] theorem ZHv:Z0t 13=some Z39:=rfl
def Zaq:Fun:=runF Tryz.prog Z0t Z0o NN [0,1,2,4,5,6,7,8,9,10,12,13,14,15,16,17,18,20,28,37,52,56,57,58,59,104] Tryz.f3 3
theorem ZCa:CSound Tryz.prog 3 Zaq:=Z00 ZC6 ZC5 mixed Tryz.func3 (by kernel_rfl) NN
theorem ZCb{β:Type}(K:Kb β)(a0 a1 a2:AV)(h:Hp):(Zaq [a0,a1,a2] h).bind (λp=>K p.1 p.2)=Z3l Tryz.prog Z0t Z0o NN K a0 a1 a2 h:=by
 rw[← ZoE];exact Z03 rfl
def ZdP:Fun:=closedX [.l 4,.o,.o] [.o] Zaq
theorem F_top_TopCleared_ok:CSound Tryz.prog 3 ZdP:=Z01 _ _ ZCa
theorem ZCc{a0 a1 a2 v:AV}(ha:plains [a0,a1,a2]=true)(hv:Z3l Tryz.prog Z0t Z0o NN (λv g=>cvt false g v) (nrm (.l 4) a0) a1 a2 []=some v)(h:Hp):ZdP [a0,a1,a2] h=some (v,h):=by
 have e:(Zaq (nrms [.l 4,.o,.o] [a0,a1,a2]) []).bind (λ(p:AV × Hp)=>cvt false p.2 p.1)=some v:=(ZCb (λv g=>cvt false g v) (nrm (.l 4) a0) a1 a2 []).trans hv
 exact (Z09 (shr:=[.o]) ha e h).trans (congrArg (λx=>some (x,h)) (Z0a 1 v))
end Go.AM


namespace Go.AM
variable {β:Type} {P:Program} {kt:TypeId} {kk:IntKind}
theorem Zlk(hu:P.underlying kt=some (.int kk))(n:Int):keyOk P kt (.int kk n)=true:=by
 have key:∀b,pureVal P (Instr.checkKey b 10000 kt (.int kk n))=some ():=by
  intro b;rw[show (10000:Nat)=9999+1 from rfl]
  unfold Instr.checkKey
  rw[Z0Z,Z1U hu]
  rfl
 simp[keyOk,key]
theorem Zll(hu:P.underlying kt=some (.int kk))(a b:Int):keyEq P kt (.int kk a) (.int kk b)=some (decide (a=b)):=by
 have h1:pureVal P (Op.equal kt (.int kk a) (.int kk b))=some (a==b):=by
  unfold Op.equal
  rw[show Op.maxDepth=(Op.maxDepth-1)+1 from rfl];unfold Op.equalIn
  rw[Z0Z,Z1U hu];simp only[Option.bind_some,if_true]
  rfl
 unfold keyEq;rw[h1]
 by_cases hab:a=b
 ·subst hab
  have:Instr.sameBits 10000 (.int kk a) (.int kk a)=true:=by simp[Instr.sameBits]
  simp[this]
 ·have:(a==b)=false:=by simpa using hab
  rw[this];simp[hab]
def intKeys(kk:IntKind)(kvs:List (Value × AV)):Prop:=∀x ∈ kvs,∃m,x.1 = .int kk m
end Go.AM


namespace Go.AM
def idOf:AV→Option Nat
 | .sl _ id .. => some id
 | _=>none
@[simp] theorem ZHw(sz id off len fr:Nat)(full:Bool):idOf (.sl sz id off len fr full)=some id:=rfl
@[simp] theorem ZHx:idOf nilS=none:=rfl
def Gro{α:Type}(sz:Nat)(f:α→List AV)(h:Hp)(v:AV)(l:List α):Prop:=(l=[]∧v=nilS)∨(l≠[]∧∃k,v = .sl sz k 0 l.length l.length false∧h[k]? = some (.arr sz (l.map f) true false))
section
variable {α β:Type} {sz:Nat} {f:α→List AV} {h h':Hp} {v:AV} {l:List α}
theorem Gro.nil:Gro sz f h nilS [] := .inl ⟨rfl,rfl⟩
theorem Gro.keep(O:Gro sz f h v l)(hk:∀k o,idOf v=some k→h[k]? = some o→h'[k]? = some o):Gro sz f h' v l:=by
 rcases O with O | ⟨h1,k,rfl,h2⟩
 ·exact .inl O
 ·exact .inr ⟨h1,k,rfl,hk k _ rfl h2⟩
theorem Gro.app(O:Gro sz f h v l)(x:List AObj):Gro sz f (h++x) v l:=O.keep λk o _ hk=>Z07 hk
theorem Gro.lt(O:Gro sz f h v l){k:Nat}(hk:idOf v=some k):k<h.length:=by
 rcases O with ⟨_,rfl⟩ | ⟨h1,j,rfl,h2⟩
 ·simp at hk
 ·simp at hk;subst hk;exact (List.getElem?_eq_some_iff.1 h2).1
theorem Gro.len(O:Gro sz f h v l)(k:K β):lenK v k=k (I l.length):=by
 rcases O with ⟨rfl,rfl⟩ | ⟨h1,j,rfl,h2⟩<;>simp
theorem Gro.cvts(O:Gro sz f h v l)(hf:∀x st,(f x).all (λc=>bif st then isS c else plain c)=true):∃w,(∀st,Go.AM.cvt st h v=some w)∧nrm (.l sz) w = .lst sz l.isEmpty (l.map f):=by
 rcases O with ⟨rfl,rfl⟩ | ⟨h1,k,rfl,h2⟩
 ·exact ⟨nilS,λst=>rfl,rfl⟩
 ·have he:l.isEmpty=false:=by simpa using h1
  refine ⟨.lst sz false (l.map f),λst=>Z1T h2 (by simp) (by simp) (Z1S λx=>hf x st), ?_⟩
  rw[he];rfl
theorem Gro.snoc(β:Type)(O:Gro sz f h v l){by_ m:Nat}{z:α}{b:Bool}(hm:h[m]? = some (.arr sz [f z] true false))(hv:idOf v≠some m)(hf:∀x ∈ z::l,(f x).length=sz)(hl:(l.length+1) * by_≤140737488355328):
  ∃v' h',(∀k:Kb β,effK (appE sz by_ v (.sl sz m 0 1 1 b) h h.length) h k=k v' h')∧Gro sz f h' v' (l++[z])∧h.length≤h'.length∧(∀j o,h[j]? = some o→idOf v≠some j→h'[j]? = some o)∧(idOf v'=idOf v∨idOf v'=some h.length):=by
 have hz:(f z).length=sz:=hf z (by simp)
 rcases O with ⟨rfl,rfl⟩ | ⟨h1,k,rfl,h2⟩
 ·have hb:by_≤140737488355328:=by simpa using hl
  refine ⟨.sl sz h.length 0 1 1 false,h++[.arr sz [f z] true false],λk => ?_,.inr ⟨by simp,h.length,rfl,by simp⟩,by simp,λj o hj _=>Z07 hj,.inr rfl⟩
  simp[appE,readSl,hm,hz,hb,effK,ap]
 ·have hkl:=(List.getElem?_eq_some_iff.1 h2).1
  refine ⟨.sl sz k 0 (l++[z]).length (l++[z]).length false,h.set k (.arr sz ((l++[z]).map f) true false),λk' => ?_,.inr ⟨by simp,k,rfl,by simp[hkl]⟩,by simp,λj o hj hn => ?_,.inl rfl⟩
  ·simp[appE,readSl,hm,h2,hz,hl,effK,ap]
  ·have hkj:k≠j:=by rintro rfl;exact hn rfl
   rw[List.getElem?_set_ne hkj];exact hj
end
theorem Gro.snocE{α:Type}{sz:Nat}{f:α→List AV}{h:Hp}{v:AV}{l:List α}(O:Gro sz f h v l){by_ m:Nat}{z:α}{b:Bool}(hm:h[m]? = some (.arr sz [f z] true false))(hv:idOf v≠some m)(hf:∀x ∈ z::l,(f x).length=sz)(hl:(l.length+1) * by_≤140737488355328):
  ∃v' e,appE sz by_ v (.sl sz m 0 1 1 b) h h.length=some (v',e)∧Gro sz f (ap h e) v' (l++[z])∧h.length≤(ap h e).length∧(∀j o,h[j]? = some o→idOf v≠some j→(ap h e)[j]? = some o)∧(idOf v'=idOf v∨idOf v'=some h.length):=by
 have hz:(f z).length=sz:=hf z (by simp)
 rcases O with ⟨rfl,rfl⟩ | ⟨h1,k,rfl,h2⟩
 ·have hb:by_≤140737488355328:=by simpa using hl
  refine ⟨.sl sz h.length 0 1 1 false,⟨[],[.arr sz [f z] true false],[m]⟩,by simp[appE,readSl,hm,hz,hb,idsOf],.inr ⟨by simp,h.length,rfl,by simp[ap]⟩,by simp[ap],λj o hj _=>by simpa [ap] using Z07 hj,.inr rfl⟩
 ·have hkl:=(List.getElem?_eq_some_iff.1 h2).1
  refine ⟨.sl sz k 0 (l++[z]).length (l++[z]).length false,⟨[(k,.arr sz ((l++[z]).map f) true false)],[],[k,m]⟩,by simp[appE,readSl,hm,h2,hz,hl,idsOf],.inr ⟨by simp,k,rfl,by simp[ap,hkl]⟩,by simp[ap],λj o hj hn => ?_,.inl rfl⟩
  have hkj:k≠j:=by rintro rfl;exact hn rfl
  simp only[ap,List.foldl_cons,List.foldl_nil,List.append_nil];rw[List.getElem?_set_ne hkj];exact hj
end Go.AM


namespace Go.AM
section
variable {β:Type}
def Grm{α:Type}(sz:Nat)(f:α→List AV)(h:Hp)(v:AV)(l:List α):Prop:=∃k b,v = .sl sz k 0 l.length l.length b∧h[k]? = some (.arr sz (l.map f) true false)∧(b=true→l=[])
theorem Grm.keep{α:Type}{sz:Nat}{f:α→List AV}{h h':Hp}{v:AV}{l:List α}(O:Grm sz f h v l)(hk:∀k o,idOf v=some k→h[k]? = some o→h'[k]? = some o):Grm sz f h' v l:=by
 obtain ⟨k,b,rfl,h2,h3⟩:=O;exact ⟨k,b,rfl,hk k _ rfl h2,h3⟩
theorem Grm.app{α:Type}{sz:Nat}{f:α→List AV}{h:Hp}{v:AV}{l:List α}(O:Grm sz f h v l)(x:List AObj):Grm sz f (h++x) v l:=O.keep λk o _ hk=>Z07 hk
theorem Grm.lt{α:Type}{sz:Nat}{f:α→List AV}{h:Hp}{v:AV}{l:List α}(O:Grm sz f h v l):∃k,idOf v=some k∧k<h.length:=by
 obtain ⟨k,b,rfl,h2,h3⟩:=O;exact ⟨k,rfl,(List.getElem?_eq_some_iff.1 h2).1⟩
theorem Grm.snocE{α:Type}{sz:Nat}{f:α→List AV}{h:Hp}{v:AV}{l:List α}(O:Grm sz f h v l){by_ m:Nat}{z:α}{b:Bool}(hm:h[m]? = some (.arr sz [f z] true false))(hv:idOf v≠some m)(hf:∀x ∈ z::l,(f x).length=sz)(hl:(l.length+1) * by_≤140737488355328):
  ∃v' e,appE sz by_ v (.sl sz m 0 1 1 b) h h.length=some (v',e)∧Grm sz f (ap h e) v' (l++[z])∧h.length≤(ap h e).length∧(∀j o,h[j]? = some o→idOf v≠some j→(ap h e)[j]? = some o)∧(idOf v'=idOf v∨idOf v'=some h.length)∧(∀i ∈ e.foot,some i=idOf v∨i=m)∧(∀q ∈ e.puts,some q.1=idOf v):=by
 have hz:(f z).length=sz:=hf z (by simp)
 obtain ⟨k,bb,rfl,h2,h3⟩:=O;have hkl:=(List.getElem?_eq_some_iff.1 h2).1;cases bb with
 | true=>
  have:=h3 rfl
  subst this;have hb:by_≤140737488355328:=by simpa using hl
  refine ⟨.sl sz h.length 0 1 1 false,⟨[],[.arr sz [f z] true false],[k,m]⟩,by simp[appE,readSl,hm,hz,hb,idsOf,h2],⟨h.length,false,rfl,by simp[ap],by simp⟩,by simp[ap],λj o hj _=>by simpa [ap] using Z07 hj,.inr rfl,λi hi=>by simp at hi;rcases hi with rfl | rfl<;>simp,by simp⟩
 | false=>
  refine ⟨.sl sz k 0 (l++[z]).length (l++[z]).length false,⟨[(k,.arr sz ((l++[z]).map f) true false)],[],[k,m]⟩,by simp[appE,readSl,hm,h2,hz,hl,idsOf],⟨k,false,rfl,by simp[ap,hkl],by simp⟩,by simp[ap],λj o hj hn => ?_,.inl rfl,λi hi=>by simp at hi;rcases hi with rfl | rfl<;>simp,λq hq=>by simp at hq;subst hq;rfl⟩
  have hkj:k≠j:=by rintro rfl;exact hn rfl
  simp only[ap,List.foldl_cons,List.foldl_nil,List.append_nil];rw[List.getElem?_set_ne hkj];exact hj
theorem Grm.cvt{α:Type}{sz:Nat}{f:α→List AV}{h:Hp}{v:AV}{l:List α}(O:Grm sz f h v l)(hf:∀x st,(f x).all (λc=>bif st then isS c else plain c)=true)(st:Bool):Go.AM.cvt st h v=some (.lst sz false (l.map f)):=by
 obtain ⟨k,b,rfl,h2,h3⟩:=O;exact Z1T h2 (by simp) (by simp) (Z1S λx=>hf x st)
theorem Grm.len{α:Type}{sz:Nat}{f:α→List AV}{h:Hp}{v:AV}{l:List α}(O:Grm sz f h v l)(k:Go.AM.K β):lenK v k=k (I l.length):=by
 obtain ⟨j,b,rfl,h2,h3⟩:=O
 simp
end
end Go.AM


namespace Go.AM
variable {β:Type}
theorem Z0w{op:BinOp}{x y:AV}{k:K β}{x' y':AV}(e_x:x=x')(e_y:y=y'):arithK op x y k=arithK op x' y' k:=by subst e_x e_y;rfl
theorem Z0x{P:Program}{neq:Bool}{ty:TypeId}{x y:AV}{h:Hp}{k:K β}{x' y':AV}{h':Hp}(e_x:x=x')(e_y:y=y')(e_h:h=h'):eqK P neq ty x y h k=eqK P neq ty x' y' h' k:=by subst e_x e_y e_h;rfl
theorem Z0y{x:AV}{k:K β}{x':AV}(e_x:x=x'):notK x k=notK x' k:=by subst e_x;rfl
theorem Z0z{P:Program}{a:TypeId}{b:TypeId}{x:AV}{k:K β}{x':AV}(e_x:x=x'):convK P a b x k=convK P a b x' k:=by subst e_x;rfl
theorem Z0A{c a b:AV}{k:K β}{c' a' b':AV}(e_c:c=c')(e_a:a=a')(e_b:b=b'):pickK c a b k=pickK c' a' b' k:=by subst e_c e_a e_b;rfl
theorem Z0B{z:List AV}{parts:List (Option (Nat × Nat) × AV)}{k:K β}{z':List AV}(e_z:z=z'):buildK z parts k=buildK z' parts k:=by subst e_z;rfl
theorem Z0C{n:Nat}{agg:Bool}{p:AV}{h:Hp}{k:K β}{p':AV}{h':Hp}(e_p:p=p')(e_h:h=h'):ldK n agg p h k=ldK n agg p' h' k:=by subst e_p e_h;rfl
theorem Z0D{x:AV}{k:K β}{x':AV}(e_x:x=x'):nilK x k=nilK x' k:=by subst e_x;rfl
theorem Z0E{n:Nat}{x:AV}{lo:Option AV}{hi:Option AV}{mx:Option AV}{k:K β}{x':AV}(e_x:x=x'):sliceK n x lo hi mx k=sliceK n x' lo hi mx k:=by subst e_x;rfl
theorem Z0F{off:Nat}{p:AV}{k:K β}{p':AV}(e_p:p=p'):faK off p k=faK off p' k:=by subst e_p;rfl
theorem Z0G{n:Nat}{agg:Bool}{off:Nat}{x:AV}{k:K β}{x':AV}(e_x:x=x'):fldK n agg off x k=fldK n agg off x' k:=by subst e_x;rfl
theorem Z0H{n:Nat}{x i:AV}{k:K β}{x' i':AV}(e_x:x=x')(e_i:i=i'):iaK n x i k=iaK n x' i' k:=by subst e_x e_i;rfl
theorem Z0I{n:Nat}{len:Nat}{x i:AV}{k:K β}{x' i':AV}(e_x:x=x')(e_i:i=i'):iaA n len x i k=iaA n len x' i' k:=by subst e_x e_i;rfl
theorem Z0J{P:Program}{kt:TypeId}{z:AV}{ok:Bool}{m kk:AV}{h:Hp}{k:K β}{z' m' kk':AV}{h':Hp}(e_z:z=z')(e_m:m=m')(e_kk:kk=kk')(e_h:h=h'):lookK P kt z ok m kk h k=lookK P kt z' ok m' kk' h' k:=by subst e_z e_m e_kk e_h;rfl
theorem Z0K{x:AV}{k:K β}{x':AV}(e_x:x=x'):capK x k=capK x' k:=by subst e_x;rfl
theorem Z0L{x:AV}{i:Nat}{k:K β}{x':AV}(e_x:x=x'):exK x i k=exK x' i k:=by subst e_x;rfl
theorem Z0M{x:AV}{k:K β}{x':AV}(e_x:x=x'):lenK x k=lenK x' k:=by subst e_x;rfl
theorem Z0N{x y:AV}{k:K β}{x' y':AV}(e_x:x=x')(e_y:y=y'):minK x y k=minK x' y' k:=by subst e_x e_y;rfl
theorem Z0O{x y:AV}{k:K β}{x' y':AV}(e_x:x=x')(e_y:y=y'):maxK x y k=maxK x' y' k:=by subst e_x e_y;rfl
theorem Z0P{r:R}{h:Hp}{k:Kb β}{r':R}{h':Hp}(e_r:r=r')(e_h:h=h'):effK r h k=effK r' h' k:=by subst e_r e_h;rfl
theorem Z0Q{F:Option Fun}{args:List AV}{h:Hp}{k:Kb β}{F':Option Fun}{args':List AV}{h':Hp}(e_F:F=F')(e_args:args=args')(e_h:h=h'):callK F args h k=callK F' args' h' k:=by subst e_F e_args e_h;rfl
theorem Z0R{T:Tab}{f:AV}{args:List AV}{h:Hp}{k:Kb β}{T':Tab}{f':AV}{args':List AV}{h':Hp}(e_T:T=T')(e_f:f=f')(e_args:args=args')(e_h:h=h'):callVK T f args h k=callVK T' f' args' h' k:=by subst e_T e_f e_args e_h;rfl
theorem Z0S{r:R}{h:Hp}{k:AV→Hp→Ent→Option β}{r':R}{h':Hp}(e_r:r=r')(e_h:h=h'):effD r h k=effD r' h' k:=by subst e_r e_h;rfl
theorem Z0T{g:Option Bool}{h:Hp}{run:(AV→Hp→Ent→Option β)→Option β}{k:AV→Hp→Ent→Option β}{g':Option Bool}{h':Hp}(e_g:g=g')(e_h:h=h'):gopD g h run k=gopD g' h' run k:=by subst e_g e_h;rfl
theorem Z0U{want:Bool}{x:AV}{h:Hp}{run:(Kb β)→Option β}{k:Kb β}{x':AV}{h':Hp}{run':(Kb β)→Option β}(e_x:x=x')(e_h:h=h')(e_run:∀K,run K=run' K):grpK want x h run k=grpK want x' h' run' k:=by
 have:run=run':=funext e_run
 subst e_x e_h this;rfl
theorem Z0V{c:AV}{a:Option β}{b:Option β}{c':AV}(e_c:c=c'):condK c a b=condK c' a b:=by subst e_c;rfl
theorem Z0W{α:Type}{c c':Bool}{a b:α}(e:c=c'):cond c a b=cond c' a b:=by subst e;rfl
end Go.AM
end
