import Derived.Test.YtgmfphialjcpcaaGreatG4
import Derived.Test.YtgmfphialjcpcaaGreatProg
import Derived.Shelf.SlSortCmp.NoneTotal
set_option linter.unusedSectionVars false
set_option linter.unusedVariables false
set_option linter.unusedSimpArgs false
set_option linter.constructorNameAsVariable false
set_option maxRecDepth 100000
noncomputable section
namespace Go.AM
open Go.Proofs Go.RowKit Go.Lib
set_option maxHeartbeats 4000000 in
theorem Zt4(b n c i vb m vc:Nat)(cur:Array Value)(T:TypeId)(vs:List Value)(w:World)(hi:i<n)(hm:0<m)(hroom:n+m≤c)(hc63:c≤9223372036854775807)(hvb:vb≠b)
  (hbk:w.heap[b]? = some (.cells cur T (0,0))) (hcap:c * 2≤cur.size) (h1:∀v ∈ cur.toList.take (n * 2),v.oneCell'=true)
  (hvl:vs.length=m * 2) (hvs:∀j v,vs[j]? = some v→w.cell? ⟨vb,j,none⟩=some v) (h1v:∀v ∈ vs,v.oneCell'=true)
  (tA tB:TypeId) (kA kB:Nat) (hsa:w.shape? vb=some (tA,kA)) (hsb:w.shape? b=some (tB,kB)) (hkB:kB≠0) (hfa:w.frozen? ⟨vb,0,none⟩=false) (hfe:w.frozen? ⟨vb,kA,none⟩=false):
  Calls Tryz.prog 76 #[.slice (some ⟨b,0,none⟩) n c,.int .i64 i,.slice (some ⟨vb,0,none⟩) m vc] w λe w'=>
   e = .returned (.slice (some ⟨b,0,none⟩) (n+m) c)∧w'=w.drew.setRow b (cur.toList.take (i * 2)++vs++(cur.toList.drop (i * 2)).take ((n-i) * 2)++cur.toList.drop ((n+m) * 2)).toArray:=by
 have u0:=run_underlying Tryz.underlying25;have u3:=run_underlying Tryz.underlying3;have u4:=run_underlying Tryz.underlying4;have hz1:¬((m:Int)=0):=by omega
 have hz2:¬((i:Int)=(n:Int)):=by omega
 have hsz:(Tryz.prog.info? 60).map (·.size)=some 2:=by kernel_rfl
 have hov:∀lb cb,(callFunc 85 #[.slice (some ⟨vb,0,none⟩) m vc,.slice (some ⟨b,(i+m) * 2,none⟩) lb cb]).run Tryz.prog w = .ok (.value (.bool false)) w:=λlb cb=>by
  rw[run_callFunc_extern Tryz.func85 (by kernel_rfl) (by kernel_rfl) (by kernel_rfl) (e:=Extern.SlicesOverlaps.overlaps #[25,25] #[4]) (by kernel_rfl),
   Lib.run_overlaps_apart w 25 4 60 Tryz.underlying25 2 Tryz.sizeOf60 ⟨vb,0,none⟩ ⟨b,(i+m) * 2,none⟩ m vc lb cb hvb tA tB kA kB hsa hsb hkB hfa hfe]
  rfl
 have mixed:Tryz.prog.follows .mixedOrders=true:=by kernel_rfl
 have hw1:IntKind.i64.wrap ((i:Int)+(m:Int))=(i:Int)+(m:Int):=by rw[IntKind.wrap_i64];omega
 have hb1:(0:Int)≤(i:Int)+(m:Int):=by omega
 have hin:i≤n:=by omega
 have htn:((i:Int)+(m:Int)).toNat=i+m:=by omega
 have hb2:¬(c=i+m):=by omega
 have hb3:(i:Int)≤(n:Int)+(m:Int):=by omega
 have hb4:¬(c=i):=by omega
 obtain ⟨cs,hcs⟩:∃cs,cs=(cur.toList.drop (i * 2)).take ((n-i) * 2):=⟨_,rfl⟩;have hcl:cs.length=(n-i) * 2:=by rw[hcs,List.length_take,List.length_drop,Array.length_toList];omega
 have hcm:∀v ∈ cs,v.oneCell'=true:=λv hv=>h1 v (by
  obtain ⟨j,hj⟩:=List.getElem?_of_mem hv;rw[hcs,List.getElem?_take] at hj;split at hj
  ·rw[List.getElem?_drop] at hj
   refine List.mem_of_getElem? (i:=i * 2+j) ?_;rw[List.getElem?_take,if_pos (by omega)]
   exact hj
  ·cases hj)
 obtain ⟨row1,hr1⟩:∃row1,row1=(cur.toList.take ((i+m) * 2)++cs++cur.toList.drop ((i+m) * 2+cs.length)).toArray:=⟨_,rfl⟩;have hrs1:row1.size=cur.size:=by rw[hr1];simp[hcl];omega
 have hcp1:∀ty dc sc,(Builtin.copy_ #[25,25] ty #[.slice (some ⟨b,(i+m) * 2,none⟩) (n+m-(i+m)) dc,.slice (some ⟨b,i * 2,none⟩) (n+m-i) sc]).run Tryz.prog w.drew = .ok (goInt ((n-i:Nat):Int)) (w.drew.setRow b row1):=λty dc sc=>by
  rw[hr1];refine Zcn (n:=n-i) w.drew 25 25 ty 60 2 b _ _ dc _ _ sc cur T cs Tryz.underlying25 hsz hbk (by simp only[Nat.min_def];split<;>omega) hcl (λj v hj => ?_) (by rw[hcl];omega) hcm
  rw[hcs,List.getElem?_take] at hj;split at hj
  ·rw[List.getElem?_drop] at hj
   rw[Addr.add_lit];rw[cell_of_row w.drew b _ cur T (0,0) hbk];simpa using hj
  ·cases hj
 have hh2:(w.drew.setRow b row1).heap[b]? = some (.cells row1 T (0,0)):=setRow_heap w.drew b cur row1 T (0,0) hbk;obtain ⟨row2,hr2⟩:∃row2,row2=(row1.toList.take (i * 2)++vs++row1.toList.drop (i * 2+vs.length)).toArray:=⟨_,rfl⟩
 have hcp2:∀ty dc,(Builtin.copy_ #[25,25] ty #[.slice (some ⟨b,i * 2,none⟩) (n+m-i) dc,.slice (some ⟨vb,0,none⟩) m vc]).run Tryz.prog (w.drew.setRow b row1) = .ok (goInt m) (w.drew.setRow b row2):=λty dc=>by
  have:=Zcn (P:=Tryz.prog) (w.drew.setRow b row1) 25 25 ty 60 2 b (i * 2) (n+m-i) dc ⟨vb,0,none⟩ m vc row1 T vs Tryz.underlying25 hsz hh2 (n:=m) (by simp only[Nat.min_def];split<;>omega) hvl (λj v hj=>by
   rw[Addr.add_lit,Nat.zero_add,Z3n (w:=w) (by rw[setRow_other w.drew b vb row1 hvb];rfl)]
   exact hvs j v hj) (by omega) h1v
  rw[this,setRow_setRow,hr2]
 have hfin:row2=(cur.toList.take (i * 2)++vs++(cur.toList.drop (i * 2)).take ((n-i) * 2)++cur.toList.drop ((n+m) * 2)).toArray:=by
  rw[hr2,hr1,hvl,hcl, ← hcs];exact congrArg List.toArray (Zt1 (k:=2) (i:=i) (n:=n) (m:=m) hcl (by rw[Array.length_toList];omega) hin)
 rw[← hfin];clear hfin hr1 hr2 hcs hcl hcm hrs1 hh2
 go_enter Tryz.func76,Tryz.ntmps76
 go_wp2_with (simp only[hov])
 go_region_law_o (go_loud (refine Zkx rfl _ _ 25 25 rfl (.slice (some ⟨b,(i+m) * 2,none⟩) (n+m-(i+m)) (c-(i+m))) (.slice (some ⟨b,i * 2,none⟩) (n+m-i) (c-i)) (by simp[Act.eval,Act.put]) (by simp[Act.eval,Act.put]) (hcp1 3 (c-(i+m)) (c-i)) ?_))
 go_wp2_with (at_builtin;refine ZfL _ rfl _ _ 25 25 rfl _ _ rfl rfl (hcp2 _ _) ?_)
 go_ret
 exact ⟨rfl,rfl⟩
set_option maxHeartbeats 4000000 in
theorem Zt5(b n c i vb m vc:Nat)(cur:Array Value)(T:TypeId)(vs:List Value)(w:World)(hi:i<n)(hm:0<m)(hnc:n≤c)(hroom:c<n+m)(hbig:(n+m) * 16≤140737488355328)
  (hbk:w.heap[b]? = some (.cells cur T (0,0))) (hcap:n * 2≤cur.size) (h1:∀v ∈ cur.toList.take (n * 2),v.oneCell'=true)
  (hvl:vs.length=m * 2) (hvs:∀j v,vs[j]? = some v→w.cell? ⟨vb,j,none⟩=some v) (h1v:∀v ∈ vs,v.oneCell'=true):
  Calls Tryz.prog 76 #[.slice (some ⟨b,0,none⟩) n c,.int .i64 i,.slice (some ⟨vb,0,none⟩) m vc] w λe w'=>
   ∃(G:Nat)(R:Array Value),n+m≤G∧G≤maxLen∧R.size=G * 2∧R.toList.take ((n+m) * 2)=cur.toList.take (i * 2)++vs++(cur.toList.drop (i * 2)).take ((n-i) * 2)∧e = .returned (.slice (some ⟨w.heap.size,0,none⟩) (n+m) G)∧w'=w.drew.drew.alloc (.cells R 60):=by
 have u0:=run_underlying Tryz.underlying25;have u3:=run_underlying Tryz.underlying3;have u4:=run_underlying Tryz.underlying4;have mixed:Tryz.prog.follows .mixedOrders=true:=by kernel_rfl
 obtain ⟨i0,hi0,hz0,hzs,hzb⟩:=info_parts (P:=Tryz.prog) (e:=60) (z := .agg #[.int .i64 0,.int .i64 0]) (size:=2) (bytes:=16) (by kernel_rfl)
 have hz1:¬((m:Int)=0):=by omega
 have hz2:¬((i:Int)=(n:Int)):=by omega
 have hz3:(c:Int)<(n:Int)+(m:Int):=by omega
 have hsz:(Tryz.prog.info? 60).map (·.size)=some 2:=by rw[hi0];simp[hzs]
 have hkk:(n:Int)+(m:Int)-(i:Int)=((n+m-i:Nat):Int):=by omega
 have hik:i+(n+m-i)=n+m:=by omega
 have hb8:b<w.heap.size:=(Array.getElem?_eq_some_iff.1 hbk).1
 have hvb:vb<w.heap.size:=by
  have h0:0<vs.length:=by omega
  exact block_lt_of_cell (hvs 0 _ (List.getElem?_eq_getElem h0))
 have hcl0:(cur.toList.take (i * 2)).length=i * 2:=by rw[List.length_take,Array.length_toList];omega
 have hold:(Builtin.firstCells i0.size i (.slice (some ⟨b,0,none⟩) i c)).run Tryz.prog w.drew = .ok (cur.toList.take (i * 2)).toArray w.drew:=by
  rw[hzs]
  exact run_firstCells_some w.drew 2 i ⟨b,0,none⟩ i c (cur.toList.take (i * 2)) hcl0 (λj v hj=>by
   rw[Addr.add_lit,cell_of_row w.drew b _ cur T (0,0) hbk];rw[List.getElem?_take] at hj;split at hj
   ·simpa using hj
   ·cases hj)
 obtain ⟨G,hG⟩:∃G,G=grownCap w (n+m) c 60:=⟨_,rfl⟩;obtain ⟨zc,hzc⟩:∃zc:Array Value,zc=Value.cells (.agg #[.int .i64 0,.int .i64 0]):=⟨_,rfl⟩;have hzc7:zc.size=2:=by rw[hzc];rfl
 obtain ⟨ROW,hROW⟩:∃ROW:Array Value,ROW=(cur.toList.take (i * 2)).toArray++Builtin.zeroCells zc (n+m-i)++Builtin.zeroCells zc (G-(n+m)):=⟨_,rfl⟩
 have hrz:∀ty,(Builtin.append_ #[25,3] ty #[.slice (some ⟨b,0,none⟩) i c,.int .i64 ((n:Int)+(m:Int)-(i:Int))]).run Tryz.prog w =
   .ok (.slice (some ⟨w.heap.size,0,none⟩) (n+m) G) (w.drew.alloc (.cells ROW 60)):=λty=>by
  have h:=Lib.run_append_grow_zeros w 25 3 ty 60 i0 _ .i64 .i64 Tryz.underlying25 Tryz.underlying3 hi0 hz0 (some ⟨b,0,none⟩) i c (cur.toList.take (i * 2)) hold (n+m-i) (by omega) (by omega) (by omega) (by omega) (by rw[hzb];omega) (by rw[hzb,hik];exact growslice_fits hroom hbig)
  rw[hik] at h;rw[hkk,hROW,hG,hzc];exact h
 have hGn:n+m≤G:=by rw[hG];exact grownCap_ge w _ _ _
 have hGx:G≤maxLen:=by
  rw[hG];exact grownCap_le_maxLen w (n+m) c 60 (by unfold maxLen;omega)
 have hG63:G≤9223372036854775807:=by unfold maxLen at hGx;omega
 have hRs:ROW.size=G * 2:=by
  rw[hROW];simp only[Array.size_append,size_zeroCells,List.size_toArray,hcl0,hzc7]
  omega
 obtain ⟨cs,hcs⟩:∃cs,cs=(cur.toList.drop (i * 2)).take ((n-i) * 2):=⟨_,rfl⟩;have hcl:cs.length=(n-i) * 2:=by rw[hcs,List.length_take,List.length_drop,Array.length_toList];omega
 have hcm:∀v ∈ cs,v.oneCell'=true:=λv hv=>h1 v (by
  obtain ⟨j,hj⟩:=List.getElem?_of_mem hv;rw[hcs,List.getElem?_take] at hj;split at hj
  ·rw[List.getElem?_drop] at hj
   refine List.mem_of_getElem? (i:=i * 2+j) ?_;rw[List.getElem?_take,if_pos (by omega)]
   exact hj
  ·cases hj)
 obtain ⟨r1,hr1⟩:∃r1,r1=(ROW.toList.take (i * 2)++vs++ROW.toList.drop (i * 2+vs.length)).toArray:=⟨_,rfl⟩;have hrs1:r1.size=ROW.size:=by rw[hr1];simp;omega
 obtain ⟨r2,hr2⟩:∃r2,r2=(r1.toList.take ((i+m) * 2)++cs++r1.toList.drop ((i+m) * 2+cs.length)).toArray:=⟨_,rfl⟩;obtain ⟨W1,hW1⟩:∃W1,W1=w.drew.alloc (.cells ROW 60):=⟨_,rfl⟩;rw[← hW1] at hrz;have hg1:W1.heap[w.heap.size]? = some (.cells ROW 60 (0,0)):=by rw[hW1];exact heap_alloc_new w.drew _
 have hO:∀k,k<w.heap.size→W1.heap[k]? = w.heap[k]? := λk hk=>by
  rw[hW1];exact (Frame.alloc (S:=λ_=>False) w.drew _).block k hk (λh=>h)
 have hcpA:∀ty dc,(Builtin.copy_ #[25,25] ty #[.slice (some ⟨w.heap.size,i * 2,none⟩) (n+m-i) dc,.slice (some ⟨vb,0,none⟩) m vc]).run Tryz.prog W1 = .ok (goInt m) (W1.setRow w.heap.size r1):=λty dc=>by
  rw[hr1]
  exact Zcn (P:=Tryz.prog) (n:=m) W1 25 25 ty 60 2 w.heap.size (i * 2) (n+m-i) dc ⟨vb,0,none⟩ m vc ROW 60 vs Tryz.underlying25 hsz hg1 (by simp only[Nat.min_def];split<;>omega) hvl (λj v hj=>by
   rw[Addr.add_lit,Nat.zero_add,Z3n (hO vb hvb)];exact hvs j v hj) (by omega) h1v
 have hg2:(W1.setRow w.heap.size r1).heap[w.heap.size]? = some (.cells r1 60 (0,0)):=setRow_heap W1 _ ROW r1 60 (0,0) hg1
 have hcpB:∀ty dc sc,(Builtin.copy_ #[25,25] ty #[.slice (some ⟨w.heap.size,(i+m) * 2,none⟩) (n+m-(i+m)) dc,.slice (some ⟨b,i * 2,none⟩) (n-i) sc]).run Tryz.prog (W1.setRow w.heap.size r1).drew = .ok (goInt ((n-i:Nat):Int)) ((W1.setRow w.heap.size r1).drew.setRow w.heap.size r2):=λty dc sc=>by
  rw[hr2]
  exact Zcn (P:=Tryz.prog) (n:=n-i) (W1.setRow w.heap.size r1).drew 25 25 ty 60 2 w.heap.size _ _ dc _ _ sc r1 60 cs Tryz.underlying25 hsz hg2 (by simp only[Nat.min_def];split<;>omega) hcl (λj v hj=>by
   rw[hcs,List.getElem?_take] at hj;split at hj
   ·rw[List.getElem?_drop] at hj
    have hbb:(W1.setRow w.heap.size r1).drew.heap[b]? = some (.cells cur T (0,0)):=by
     show (W1.setRow w.heap.size r1).heap[b]? = _;rw[setRow_other W1 _ b r1 (by omega),hO b hb8,hbk]
    rw[Addr.add_lit,cell_of_row _ b _ cur T (0,0) hbb];simpa using hj
   ·cases hj) (by omega) hcm
 have hGi:¬(G=i):=by omega
 have hGim:¬(G=i+m):=by omega
 have hci:¬(c=i):=by omega
 have hw1:IntKind.i64.wrap ((i:Int)+(m:Int))=(i:Int)+(m:Int):=by rw[IntKind.wrap_i64];omega
 have hb1:(0:Int)≤(i:Int)+(m:Int):=by omega
 have hin:i≤n:=by omega
 have htn:((i:Int)+(m:Int)).toNat=i+m:=by omega
 have hb3:(i:Int)≤(n:Int):=by omega
 obtain ⟨q1,q2⟩:=Zt3 (k:=2) (i:=i) (n:=n) (m:=m) (l:=cur.toList) (cs:=cs) (vs:=vs) (r:=ROW.toList) (z:=(Builtin.zeroCells zc (n+m-i)++Builtin.zeroCells zc (G-(n+m))).toList) (by rw[hROW];simp) hcl hvl (by rw[Array.length_toList];exact hcap) (by
  simp only[Array.toList_append,List.length_append,Array.length_toList,size_zeroCells,hzc7];omega) hin
 have hR1:r2.toList.take ((n+m) * 2)=cur.toList.take (i * 2)++vs++cs:=by rw[hr2,hr1,hvl,hcl];exact q1
 have hR2:r2.size=G * 2:=by
  have:r2.toList.length=ROW.toList.length:=by rw[hr2,hr1,hvl,hcl];exact q2
  simpa [hRs] using this
 have hend:(W1.setRow w.heap.size r1).drew.setRow w.heap.size r2=w.drew.drew.alloc (.cells r2 60):=by
  subst hW1;exact Zt2 w.drew ROW r1 r2 60
 refine Calls.mono (R:=λe w'=>e = .returned (.slice (some ⟨w.heap.size,0,none⟩) (n+m) G)∧w'=(W1.setRow w.heap.size r1).drew.setRow w.heap.size r2) ?_ (λe w' ⟨h1,h2⟩=>⟨G,r2,hGn,hGx,hR2,by rw[hR1,hcs],h1,h2.trans hend⟩)
 clear hkk hik hold hROW hG hend hW1 q1 q2 hR1 hR2 hr1 hr2 hcs hcl hcm hg1 hg2 hrs1 hRs hzc hzc7 hO hcl0 hbk
 go_enter Tryz.func76,Tryz.ntmps76
 go_wp2_with (first
  | (at_builtin;refine Lib.wpList_append_run _ rfl _ _ _ _ rfl _ _ rfl rfl _ _ (hrz _) ?_)
  | (at_builtin;refine ZfL _ rfl _ _ 25 25 rfl _ _ rfl rfl (hcpA _ _) ?_)
  | (at_builtin;refine ZfL _ rfl _ _ 25 25 rfl _ _ rfl rfl (hcpB _ _ _) ?_))
 go_region_law_o (go_loud (refine Zkx rfl _ _ 25 25 rfl (.slice (some ⟨w.heap.size,(i+m) * 2,none⟩) (n+m-(i+m)) (G-(i+m))) (.slice (some ⟨b,i * 2,none⟩) (n-i) (c-i)) (by simp[Act.eval,Act.put]) (by simp[Act.eval,Act.put]) (hcpB 3 (G-(i+m)) (c-i)) ?_))
 go_wp2
 go_ret
 exact ⟨rfl,rfl⟩
set_option maxHeartbeats 4000000 in
theorem Zt6(A B:Option Addr)(n c m vc:Nat)(u:Value)(w W':World)(hm:0<m)(hnc:n≤c)(hA:A=none→c=0)
  (hr:∀ty,(Builtin.append_ #[25,25] ty #[.slice A n c,.slice B m vc]).run Tryz.prog w = .ok u W'):
  Calls Tryz.prog 76 #[.slice A n c,.int .i64 n,.slice B m vc] w λe w'=>e = .returned u∧w'=W':=by
 have u0:=run_underlying Tryz.underlying25;have u3:=run_underlying Tryz.underlying3;have u4:=run_underlying Tryz.underlying4;have mixed:Tryz.prog.follows .mixedOrders=true:=by kernel_rfl
 have hz1:¬((m:Int)=0):=by omega
 go_enter Tryz.func76,Tryz.ntmps76
 cases A with
 | none=>
  have h0:=hA rfl;subst h0;have hn0:n=0:=by omega
  subst hn0
  go_wp2_with (at_builtin;refine Lib.wpList_append_run _ rfl _ _ _ _ rfl _ _ rfl rfl _ _ (hr _) ?_)
  go_ret
  exact ⟨rfl,rfl⟩
 | some a=>
  obtain ⟨ab,ao,asp⟩:=a
  go_wp2_with (at_builtin;refine Lib.wpList_append_run _ rfl _ _ _ _ rfl _ _ rfl rfl _ _ (hr _) ?_)
  all_goals (go_ret;exact ⟨rfl,rfl⟩)
theorem Zky:InsWalk Tryz.prog 76 2 16 25 60:=⟨⟨Tryz.f76,Tryz.func76,by kernel_rfl,by kernel_rfl⟩,Tryz.underlying25,by kernel_rfl,by kernel_rfl,⟨.agg zz2,by kernel_rfl,by kernel_rfl,by kernel_rfl⟩,λm hm=>by unfold maxLen;omega,Zt4,Zt5,Zt6⟩
end Go.AM


namespace Go.AM
open Go.RowKit Go.Sort Go.Proofs
variable {P:Program} {μ μ':Mu} {h h':Hp} {w w':World}
abbrev RowE(k:Nat)(ok:List Value→Bool):={ e:List Value // e.length=k∧(∀v ∈ e,gv v=true)∧ok e=true }
def encE(e:List Value):List AV:=e.map .s
def decE(k:Nat)(ok:List Value→Bool)(e:List AV):Option (List Value):=match e.mapM cellV with | some l=>if l.length=k∧ok l=true then some l else none | none=>none
def ltF(Fc:Fun)(x y:List Value):Bool:=match Fc [.agg (encE x),.agg (encE y)] [] with | some (.s (.int .i64 n),_)=>decide (n<0) | _=>false
def SortOk(k:Nat)(ok:List Value→Bool)(Fc:Fun):Prop:=∃cf:RowE k ok→RowE k ok→Int,(∀x y,Fc [.agg (encE x.1),.agg (encE y.1)] []=some (.s (.int .i64 (cf x y)),[]))∧SWO (ltOf cf)∧∀x y,ltOf cf x y=false→ltOf cf y x=false→x=y
open Classical in
noncomputable def sortF(k:Nat)(ok:List Value→Bool)(g:Nat)(Fc:Fun):Fun:=λargs h=>
 match args with
 | [.sl sz id off len fr _,.fn g' []]=>
  match h[id]? with
  | some (.arr sz' es own nil)=>
   if g'=g∧sz=k∧sz'=k∧es.length=fr∧own=true∧off+len≤es.length∧len<4611686018427387904∧SortOk k ok Fc then
    match ((es.drop off).take len).mapM (decE k ok) with
    | some l=>some (.tup [],h.set id (.arr k (es.take off++(l.mergeSort λx y => !ltF Fc y x).map encE++es.drop (off+len)) true nil))
    | none=>none
   else none
  | _=>none
 | [.s (.slice none 0 0),.fn _ _]=>some (.tup [],h)
 | _=>none
theorem Zt7{a:AV}{v:Value}(h:cellV a=some v):a = .s v∧gv v=true:=by
 unfold cellV at h;split at h<;>try (simp at h;done)
 split at h<;>try (simp at h;done)
 rename_i hg;simp only[Option.some.injEq] at h
 subst h;exact ⟨rfl,hg⟩
theorem Zkz:∀{e:List AV}{l:List Value},e.mapM cellV=some l→e=encE l∧∀v ∈ l,gv v=true
 | [],l,h=>by simp at h;subst h;exact ⟨rfl,by simp⟩
 | a::e,l,h=>by
  simp only[List.mapM_cons,Option.pure_def,Option.bind_eq_bind,Option.bind_eq_some_iff,Option.some.injEq] at h;obtain ⟨v,hv,l',hl,rfl⟩:=h
  obtain ⟨rfl,hg⟩:=Zt7 hv;obtain ⟨rfl,hgs⟩:=Zkz hl;exact ⟨rfl,λu hu=>(List.mem_cons.1 hu).elim (λe=>e ▸ hg) (hgs u)⟩
theorem Zt8{k:Nat}{ok:List Value→Bool}{e:List AV}{l:List Value}(h:decE k ok e=some l):e=encE l∧l.length=k∧(∀v ∈ l,gv v=true)∧ok l=true:=by
 unfold decE at h;split at h<;>try (simp at h;done)
 rename_i l' hl
 split at h<;>try (simp at h;done)
 rename_i hk;simp only[Option.some.injEq] at h
 subst h;obtain ⟨h1,h2⟩:=Zkz hl
 exact ⟨h1,hk.1,h2,hk.2⟩
theorem ZkA{k:Nat}{ok:List Value→Bool}:∀{es:List (List AV)}{l:List (List Value)},es.mapM (decE k ok)=some l→∃d:List (RowE k ok),l=d.map (·.1)∧es=d.map λx=>encE x.1
 | [],l,h=>by simp at h;subst h;exact ⟨[],rfl,rfl⟩
 | e::es,l,h=>by
  simp only[List.mapM_cons,Option.pure_def,Option.bind_eq_bind,Option.bind_eq_some_iff,Option.some.injEq] at h;obtain ⟨x,hx,l',hl,rfl⟩:=h
  obtain ⟨rfl,h1⟩:=Zt8 hx;obtain ⟨d,rfl,rfl⟩:=ZkA hl;exact ⟨⟨x,h1⟩::d,rfl,rfl⟩
theorem VRs.encE:∀{e:List Value},(∀v ∈ e,gv v=true)→VRs μ h (encE e) e
 | [],_=>by simp[Go.AM.encE,VRs]
 | v::e,hg=>by
  simp only[Go.AM.encE,List.map_cons,VRs];exact ⟨v,e,rfl,by unfold VR;exact ⟨hg v (by simp),rfl⟩,VRs.encE λu hu=>hg u (by simp[hu])⟩
theorem VRs.encE_eq:∀{e vs:List Value},VRs μ h (Go.AM.encE e) vs→vs=e
 | [],vs,hv=>by simpa [Go.AM.encE,VRs] using hv
 | v::e,vs,hv=>by
  simp only[Go.AM.encE,List.map_cons,VRs] at hv;obtain ⟨u,us,rfl,h1,h2⟩:=hv
  simp only[VR] at h1;rw[h1.2,VRs.encE_eq h2]
theorem ZfM{k : Nat} : ∀{l : List (List Value)}, (∀ e ∈ l, e.length = k) → l.flatten.length = l.length * k ∧ ∀ t, t < l.length * k → l.flatten[t]? = (l[t / k]!)[t % k]?
  | [], _ => ⟨by simp, λt ht => by simp at ht⟩
  | e :: l, hl => by
    have he := hl e (by simp)
    obtain ⟨i1, i2⟩ := ZfM (l := l) λx hx => hl x (by simp[hx])
    refine ⟨by simp[he, i1, Nat.add_mul]; omega, λt ht => ?_⟩
    rw[List.flatten_cons];by_cases hk : t < k
    · rw[List.getElem?_append_left (by omega), Nat.div_eq_of_lt hk, Nat.mod_eq_of_lt hk]
      rfl
    · have hk0 : 0 < k := by rcases Nat.eq_zero_or_pos k with e0 | e0; · subst e0; simp at ht
                             · exact e0
      rw[List.getElem?_append_right (by omega), he, i2 (t - k) (by simp[Nat.add_mul] at ht; omega)]
      have h1 : t / k = (t - k) / k + 1 := by
        have := Nat.add_div_right (t - k) hk0;rw[show t - k + k = t by omega] at this
        exact this
      have h2 : t % k = (t - k) % k := by
        have := Nat.add_mod_right (t - k) k;rw[show t - k + k = t by omega] at this
        exact this
      rw[h1, h2]
      rfl
theorem ZkB{α : Type}[Inhabited α](enc : α → List Value)(k : Nat)(hk : ∀ x, (enc x).length = k)(d : List α) : (flatK enc k d.toArray).toList = (d.map enc).flatten := by
  obtain ⟨h1, h2⟩ := ZfM (l := d.map enc) (k := k) (by simp[hk])
  apply List.ext_getElem?
  intro t;by_cases ht : t < d.length * k
  · rw[h2 t (by simpa using ht)]
    have hk0 : 0 < k := by rcases Nat.eq_zero_or_pos k with e0 | e0; · subst e0; simp at ht
                           · exact e0
    have hd : t / k < d.length := (Nat.div_lt_iff_lt_mul hk0).2 ht;have hm : t % k < k := Nat.mod_lt _ hk0
    have e1 : (d.map enc)[t / k]! = enc d[t / k] := by
      rw[getElem!_pos _ _ (by simpa using hd)]; simp
    rw[e1];have hm' : t % k < (enc d[t / k]).length := by rw[hk]; exact hm
    rw[List.getElem?_eq_getElem hm'];unfold flatK
    simp only[List.size_toArray, Array.toList_map, Array.toList_range, List.getElem?_map, List.getElem?_range ht, Option.map_some];congr 1
    rw[getElem!_pos d.toArray _ (by simpa using hd)]
    simp only[List.getElem_toArray];rw[getElem!_pos (enc d[t / k]) (t % k) hm']
  · rw[List.getElem?_eq_none (by rw[Array.length_toList, size_flatK]; simpa using ht), List.getElem?_eq_none (by rw[h1, List.length_map]; omega)]
theorem Step.draws(R:Rel μ h w):∀n,Step μ h w μ h (Sort.ahead w n)
 | 0=>by rw[ahead_zero];exact Step.refl R
 | n+1=>by
  have S:=Step.draws R n;rw[← ahead_drew];exact S.trans (Step.drew S.rel)
theorem Step.grown:∀{w:World}{μ:Mu}(os:List Obj),Rel μ h w→∃μ',Step μ h w μ' h (grow w os.toArray)
 | w,μ,[],R=>by rw[grow_empty];exact ⟨μ,Step.refl R⟩
 | w,μ,o::os,R=>by
  obtain ⟨μ1,S1,-⟩:=Step.allocImm R o;obtain ⟨μ2,S2⟩:=Step.grown os S1.rel;refine ⟨μ2, ?_⟩
  have:grow w (o::os).toArray=grow (w.alloc o) os.toArray:=by
   rw[alloc_eq_grow,grow_grow];congr 1;simp
  rw[this];exact S1.trans S2
theorem Zt9{blk off k:Nat}{cur F row:Array Value}{T:TypeId}{fr:Nat × Nat}(hb:w.heap[blk]? = some (.cells cur T fr))(hfit:off+F.size≤cur.size)(hrow:row=(cur.toList.take off++F.toList++cur.toList.drop (off+F.size)).toArray):putRow id w blk off F=w.setRow blk row:=by
 have hc:putCells id off F cur=row:=by
  subst hrow;apply Array.ext_getElem?
  intro i;unfold putCells
  simp only[Array.getElem?_mapIdx,List.getElem?_toArray];by_cases hi:i<cur.size
  ·rw[Array.getElem?_eq_getElem hi]
   simp only[Option.map_some,id];by_cases h1:off≤i∧i<off+F.size
   ·rw[if_pos h1,List.append_assoc,List.getElem?_append_right (by simp;omega),List.getElem?_append_left (by simp;omega)]
    simp only[List.length_take,Array.length_toList];rw[show i-min off cur.size=i-off by omega,Array.getElem?_toList,getElem!_pos F _ (by omega),Array.getElem?_eq_getElem (by omega)]
   ·rw[if_neg h1]
    by_cases h2:i<off
    ·rw[List.append_assoc,List.getElem?_append_left (by simp;omega),List.getElem?_take,if_pos h2,Array.getElem?_toList,Array.getElem?_eq_getElem hi]
    ·rw[List.getElem?_append_right (by simp;omega),List.getElem?_drop]
     simp only[List.length_append,List.length_take,Array.length_toList];rw[show off+F.size+(i-(min off cur.size+F.size))=i by omega,Array.getElem?_toList,Array.getElem?_eq_getElem hi]
  ·rw[Array.getElem?_eq_none (by omega),List.getElem?_eq_none (by simp;omega)]
   rfl
 unfold putRow
 rw[mapBlock_congr w blk _ (λ_=>row) λc e f he=>by
  rw[hb] at he;injection he with he
  injection he with e1;subst e1
  exact hc]
 unfold mapBlock World.setRow
 congr 1
theorem Zta{S:Nat→Prop}(F:Frame S w w')(hS:∀k,¬S k):∃q os,w'=grow (w.drewN q) os:=by
 refine ⟨w'.drawn-w.drawn,w'.heap.extract w.heap.size w'.heap.size, ?_⟩;obtain ⟨f1,f2,f3,f4,f5,f6⟩:=F;unfold DrLe at f4;cases w with
 | mk hp tp dr os out=>
  cases w' with
  | mk hp' tp' dr' os' out'=>
   simp only[grow,World.drewN] at *
   subst f1 f2 f3;congr 1
   ·apply Array.ext_getElem?
    intro i;by_cases hi:i<hp.size
    ·rw[f6 i hi (hS i),Array.getElem?_append_left hi]
    ·rw[Array.getElem?_append_right (by omega),Array.getElem?_extract]
     split
     ·congr 1;omega
     ·rw[Array.getElem?_eq_none (by omega)]
   ·omega
theorem Ztb{k g:Nat}{ok:List Value→Bool}{Fc:Fun}(hc:CSound P g Fc){cf:RowE k ok→RowE k ok→Int}(hcf:∀x y,Fc [.agg (encE x.1),.agg (encE y.1)] []=some (.s (.int .i64 (cf x y)),[]))[Inhabited (RowE k ok)](blk off size:Nat)(w:World):CmpLays P g #[] (λx:RowE k ok=>x.1) k cf blk off size w:=by
 intro m os dk hs x y;obtain ⟨W,hW⟩:∃W,W=sortWorldK (λx:RowE k ok=>x.1) k w blk off m dk os:=⟨_,rfl⟩
 rw[← hW];have R:Rel { loc:=λ_ => .real 0 0 0,base:=W,imm:=λ_=>False } [] W:=Rel.nil λk hk=>hk.elim
 obtain ⟨-,hcall⟩:=hc _ _ _ _ (hcf x y) _ W (#[.agg x.1.toArray,.agg y.1.toArray] ++ #[]) R (by
  simp only[VRs,VR];exact ⟨_,_,rfl,⟨_,rfl,VRs.encE x.2.2.1⟩,_,_,rfl,⟨_,rfl,VRs.encE y.2.2.1⟩,rfl⟩)
 refine hcall.mono ?_;rintro e w' ⟨cv,μ2,rfl,S,hv⟩;simp only[VR] at hv;obtain ⟨-,rfl⟩:=hv;exact ⟨rfl,Zta S.frame λk hk=>Own.nil hk⟩
theorem Ztc{ρ:Go.Shelf.Ren}{k g:Nat}{ok:List Value→Bool}{Fc:Fun}(L:SlLaysF0.n6 P ρ)(aE:∀w,(isAgg (ρ.t 24)).run P w = .ok true w)(zE:∀w,(Go.sizeOf (ρ.t 24)).run P w = .ok k w)(hgo:Goes P (ρ.f 6))(hk0:0<k)(hc:CSound P g Fc)(hg:Goes P g):CSound P (ρ.f 6) (sortF k ok g Fc):=by
 intro args h v h' hk μ w cargs R hargs
 refine ⟨hgo, ?_⟩;unfold sortF at hk;split at hk<;>try (simp at hk;done)
 ·rename_i sz id off len fr full g'
  split at hk<;>try (simp at hk;done)
  rename_i sz' es own nil ho
  split at hk<;>try (simp at hk;done)
  rename_i hcond;obtain ⟨rfl,rfl,rfl,hfr,rfl,hle,hlen,cf,hcf,hswo,hanti⟩:=hcond
  split at hk<;>try (simp at hk;done)
  rename_i l hl;simp only[Option.some.injEq,Prod.mk.injEq] at hk
  obtain ⟨rfl,rfl⟩:=hk;obtain ⟨d,rfl,hd⟩:=ZkA hl
  have hdl:d.length=len:=by
   have:=congrArg List.length hd
   rw[List.length_map,List.length_take,List.length_drop] at this
   omega
  have elt:∀x y:RowE sz' ok,ltF Fc x.1 y.1=ltOf cf x y:=λx y=>by
   unfold ltF ltOf;rw[hcf x y]
  have esort:(d.map (·.1)).mergeSort (λx y => !ltF Fc y x)=(d.mergeSort λx y => !ltOf cf y x).map (·.1):=by
   rw[List.map_mergeSort];intro a _ b _
   rw[elt]
  rw[esort,List.map_map];obtain ⟨d2,hd2⟩:∃d2,d2=d.mergeSort λx y => !ltOf cf y x:=⟨_,rfl⟩
  have hd2l:d2.length=len:=by rw[hd2,List.length_mergeSort];exact hdl
  rw[← hd2];have e0:cargs.toList=cargs.toList:=rfl
  simp only[VRs] at hargs;obtain ⟨v1,vs1,hq1,hv1,v2,vs2,rfl,hv2,rfl⟩:=hargs
  have hcargs:cargs = #[v1,v2]:=by apply Array.ext';simpa using hq1
  subst hcargs;simp only[VR] at hv1 hv2
  obtain ⟨caps,rfl,hcaps⟩:=hv2
  have hcaps':caps = #[]:=by
   simp only[VRs] at hcaps;apply Array.ext';simpa using hcaps
  subst hcaps'
  obtain ⟨A,c,rfl,hlc,hA,-,es2,own',nil',ho',-,hq⟩:=hv1;rw[ho] at ho';injection ho' with ho';injection ho' with e1 e2 e3 e4;subst e2 e3 e4;have hsl:=hq hfr.symm;by_cases h0:len=0
  ·subst h0
   have hd0:d2=[]:=List.eq_nil_of_length_eq_zero hd2l
   have e5:h.set id (.arr sz' (es.take off++d2.map ((encE ·) ∘ (·.1))++es.drop (off+0)) true nil)=h:=by
    rw[hd0];simp only[List.map_nil,List.append_nil,Nat.add_zero,List.take_append_drop];exact Z15 ho
   rw[e5];refine (AnyF.slices_SortFunc_none L A c _ w).mono ?_
   rintro e w' ⟨rfl,rfl⟩
   exact ⟨_,μ,rfl,Step.refl R,by simp[VR,VRs]⟩
  ·unfold SlOk at hsl
   split at hsl
   ·rename_i blk o cap hmu
    obtain ⟨a',rfl,hcap,hne⟩:=hsl;have ha':=hne (by omega)
    have hO:=R.obj _ _ ho;obtain ⟨cur,T,hbk,hcur,rfl,hlec,hcapm,h1,hr⟩:=ORel.own_flat hO hmu;rw[Nat.zero_add] at ha';subst ha';obtain ⟨vs,g1,g2,g3,g4⟩:=Z7h R ho hmu off len hle;rw[Nat.zero_add] at g4
    haveI:Inhabited (RowE sz' ok):=⟨d[0]'(by omega)⟩
    have hlenE:∀x:RowE sz' ok,x.1.length=sz':=λx=>x.2.1
    have hflat:((es.drop off).take len).flatten=encE (d.map (·.1)).flatten:=by
     rw[hd];unfold encE
     rw[List.map_flatten,List.map_map]
     rfl
    rw[hflat] at g1;have hvs:=VRs.encE_eq g1
    subst hvs;have hfk:=ZkB (λx:RowE sz' ok=>x.1) sz' hlenE d
    have hH:HoldsK (λx:RowE sz' ok=>x.1) sz' w blk (off * sz') d.toArray:=by
     intro j hj;have hj2:j<(flatK (λx:RowE sz' ok=>x.1) sz' d.toArray).toList.length:=by simpa using hj
     refine ⟨g4 j _ ?_, ?_⟩
     ·rw[← hfk,List.getElem?_eq_getElem hj2,getElem!_pos (flatK (λx:RowE sz' ok=>x.1) sz' d.toArray) j hj]
      rfl
     ·simp only[World.frozen?,hbk]
      simp
    have hblk:blk<w.heap.size:=(Array.getElem?_eq_some_iff.1 hbk).1;have key:=AnyQ.slices_SortFunc_total L sz' aE zE (λx:RowE sz' ok=>x.1) hlenE (λx v hv=>ZeI (x.2.2.1 v hv)) cf hswo g' #[] blk (off * sz') c d.toArray w (λa W=>hg.run a W) (Ztb hc hcf blk (off * sz') _ w) hH hblk (by simp;omega) hanti
    have hds:d.toArray.size=len:=by simpa using hdl
    rw[hds] at key;refine key.mono ?_
    rintro e w' ⟨rfl,n,os,rfl⟩
    simp only[];rw[← hd2];have S1:=Step.draws R n
    have hS:Sized sz' (d2.map ((encE ·) ∘ (·.1))):=by
     intro y hy;obtain ⟨x,-,rfl⟩:=List.mem_map.1 hy
     refine ⟨by simp[encE,hlenE],λc hc => ?_⟩
     simp only[Function.comp,encE,List.mem_map] at hc;obtain ⟨u,hu,rfl⟩:=hc
     exact x.2.2.1 u hu
    have hgv:∀v ∈ (d2.map (·.1)).flatten,gv v=true:=by
     intro v hv;obtain ⟨l,hl,hvl⟩:=List.mem_flatten.1 hv
     obtain ⟨x,-,rfl⟩:=List.mem_map.1 hl;exact x.2.2.1 v hvl
    have hfl2:(d2.map ((encE ·) ∘ (·.1))).flatten=encE (d2.map (·.1)).flatten:=by
     unfold encE;rw[List.map_flatten,List.map_map]
    have hvr:VRs μ h (d2.map ((encE ·) ∘ (·.1))).flatten (d2.map (·.1)).flatten:=by rw[hfl2];exact VRs.encE hgv
    obtain ⟨cur',T',row,q1,q2,q3,q4⟩:=Zhg (P:=P) (off:=off) S1.rel ho hmu hS hvr (λv hv=>ZeI (hgv v hv)) (by simpa [hd2l] using hle)
    rw[List.length_map,hd2l] at q4;have hfk2:=ZkB (λx:RowE sz' ok=>x.1) sz' hlenE d2
    have hF:(flatK (λx:RowE sz' ok=>x.1) sz' d2.toArray).size=(d2.map (·.1)).flatten.length:=by
     rw[← hfk2];simp
    have hcc:cur'=cur:=by
     have:(Sort.ahead w n).heap[blk]? = w.heap[blk]? := rfl
     rw[this,hbk] at q1;injection q1 with q1
     injection q1 with q1;exact q1.symm
    subst hcc
    have hput:putRowK (λx:RowE sz' ok=>x.1) sz' (Sort.ahead w n) blk (off * sz') d2.toArray=(Sort.ahead w n).setRow blk row:=by
     unfold putRowK;refine Zt9 (k:=sz') q1 ?_ (by rw[q2,hF,hfk2])
     rw[hF,(ZfM (l:=d2.map (·.1)) (k:=sz') (λe he=>by obtain ⟨x,-,rfl⟩:=List.mem_map.1 he;exact hlenE x)).1,List.length_map,hd2l,hcur, ← Nat.add_mul]
     exact Nat.le_trans (Nat.mul_le_mul_right _ hle) (Nat.mul_le_mul_right _ hlec)
    unfold sortWorldK;rw[hput]
    obtain ⟨μ3,S3⟩:=Step.grown os.toList q4.rel;exact ⟨_,μ3,rfl,(S1.trans q4).trans (by simpa using S3),by simp[VR,VRs]⟩
   ·rename_i A' hmu
    obtain ⟨rfl,rfl,-⟩:=hsl;have hz:=(R.obj _ _ ho).2;rw[hmu] at hz;have:=hz.1;subst this;simp at hle
    omega
 ·rename_i f caps
  simp only[Option.some.injEq,Prod.mk.injEq] at hk;obtain ⟨rfl,rfl⟩:=hk
  simp only[VRs] at hargs;obtain ⟨v1,vs1,hq1,hv1,v2,vs2,rfl,hv2,rfl⟩:=hargs
  have hcargs:cargs = #[v1,v2]:=by apply Array.ext';simpa using hq1
  subst hcargs;simp only[VR] at hv1
  obtain ⟨-,rfl⟩:=hv1;refine (AnyF.slices_SortFunc_none L none 0 v2 w).mono ?_;rintro e w' ⟨rfl,rfl⟩;exact ⟨_,μ,rfl,Step.refl R,by simp[VR,VRs]⟩
theorem Ztd{k g:Nat}{ok:List Value→Bool}{Fc:Fun}(hok:SortOk k ok Fc){id off len fr:Nat}{full:Bool}{h:Hp}{es:List (List AV)}{nil:Bool}{l:List (List Value)}(ho:h[id]? = some (.arr k es true nil))(hfr:es.length=fr)(hle:off+len≤es.length)(hlen:len<4611686018427387904)(hl:((es.drop off).take len).mapM (decE k ok)=some l):
  sortF k ok g Fc [.sl k id off len fr full,.fn g []] h=some (.tup [],h.set id (.arr k (es.take off++(l.mergeSort λx y => !ltF Fc y x).map encE++es.drop (off+len)) true nil)):=by
 unfold sortF;simp only[ho]
 rw[if_pos ⟨rfl,rfl,rfl,hfr,rfl,hle,hlen,hok⟩,hl]
end Go.AM
namespace Go.AM
open Go.RowKit Go.Sort Go.Proofs
def isI:Value→Bool
 | .int .i64 _=>true
 | _=>false
def okI(e:List Value):Bool:=e.all isI
def unI:Value→Int
 | .int _ n=>n
 | _=>0
def encZ(l:List Int):List AV:=l.map λn => .s (.int .i64 n)
def valZ(l:List Int):List Value:=l.map λn => .int .i64 n
theorem Z9d(l:List Int):encE (valZ l)=encZ l:=by simp[encE,valZ,encZ]
theorem Z9e:∀{e:List Value},okI e=true→e=valZ (e.map unI)
 | [],_=>rfl
 | v::e,h=>by
  simp only[okI,List.all_cons,Bool.and_eq_true] at h;have ih:=Z9e (e:=e) h.2
  cases v<;>simp[isI] at h
  rename_i kd n;cases kd<;>simp at h
  simp only[List.map_cons,valZ,unI] at ih ⊢
  rw[← ih]
theorem Zte(l:List Int):okI (valZ l)=true:=by simp[okI,valZ,isI]
def lexZ:List Int→List Int→Int
 | a::as_,b::bs=>if a<b then -1 else if b<a then 1 else lexZ as_ bs
 | _,_=>0
def ltZ(a b:List Int):Bool:=decide (lexZ a b<0)
theorem ZkC:∀a,lexZ a a=0
 | []=>rfl
 | a::l=>by simp[lexZ,ZkC l]
theorem Z6b(a b:Int)(l r:List Int):ltZ (a::l) (b::r)=(decide (a<b)||(decide (a=b)&&ltZ l r)):=by
 unfold ltZ;simp only[lexZ]
 by_cases h1:a<b
 ·simp[h1]
 ·by_cases h2:b<a
  ·have:a≠b:=by omega
   simp[h1,h2,this]
  ·have:a=b:=by omega
   simp[this]
theorem ZfN(a:List Int):ltZ a a=false:=by simp[ltZ,ZkC]
theorem Z9f:∀{n:Nat}{a b c:List Int},a.length=n→b.length=n→c.length=n→ltZ a b=true→ltZ b c=true→ltZ a c=true
 | 0,a,b,c,ha,hb,hc,h1,h2=>by
  have:a=[]:=List.eq_nil_of_length_eq_zero ha
  subst this;cases b<;>simp[ltZ,lexZ] at h1
 | n+1,[],b,c,ha,hb,hc,h1,h2=>by simp at ha
 | n+1,a::l,[],c,ha,hb,hc,h1,h2=>by simp at hb
 | n+1,a::l,b::r,[],ha,hb,hc,h1,h2=>by simp at hc
 | n+1,a::l,b::r,c::s,ha,hb,hc,h1,h2=>by
  rw[Z6b] at h1 h2 ⊢
  simp only[Bool.or_eq_true,Bool.and_eq_true,decide_eq_true_eq] at h1 h2 ⊢
  rcases h1 with h1 | ⟨h1,h1'⟩<;>rcases h2 with h2 | ⟨h2,h2'⟩
  ·exact .inl (by omega)
  ·exact .inl (by omega)
  ·exact .inl (by omega)
  ·exact .inr ⟨by omega,Z9f (n:=n) (by simpa using ha) (by simpa using hb) (by simpa using hc) h1' h2'⟩
theorem Z9g:∀{n:Nat}{a b:List Int},a.length=n→b.length=n→ltZ a b=false→ltZ b a=false→a=b
 | 0,a,b,ha,hb,_,_=>by rw[List.eq_nil_of_length_eq_zero ha,List.eq_nil_of_length_eq_zero hb]
 | n+1,[],b,ha,hb,_,_=>by simp at ha
 | n+1,a::l,[],ha,hb,_,_=>by simp at hb
 | n+1,a::l,b::r,ha,hb,h1,h2=>by
  rw[Z6b] at h1 h2;simp only[Bool.or_eq_false_iff,Bool.and_eq_false_iff,decide_eq_false_iff_not] at h1 h2;have e:a=b:=by omega
  subst e;rw[Z9g (n:=n) (a:=l) (b:=r) (by simpa using ha) (by simpa using hb) (by simpa using h1.2) (by simpa using h2.2)]
theorem Ztf{k:Nat}{Fc:Fun}(hf:∀x y:List Int,x.length=k→y.length=k→Fc [.agg (encZ x),.agg (encZ y)] []=some (.s (.int .i64 (lexZ x y)),[])):
  SortOk k okI Fc∧∀x y:List Int,x.length=k→y.length=k→ltF Fc (valZ x) (valZ y)=ltZ x y:=by
 constructor
 ·refine ⟨λx y=>lexZ (x.1.map unI) (y.1.map unI),λx y => ?_,⟨λx => ?_,λx y z h1 h2 => ?_,λx y z h1 h2 => ?_⟩,λx y h1 h2 => ?_⟩
  ·have:=hf (x.1.map unI) (y.1.map unI) (by simp[x.2.1]) (by simp[y.2.1])
   rw[← Z9d, ← Z9d, ← Z9e (e:=x.1) x.2.2.2, ← Z9e (e:=y.1) y.2.2.2] at this;exact this
  ·show ltZ _ _=false
   exact ZfN _
  ·exact Z9f (n:=k) (a:=x.1.map unI) (b:=y.1.map unI) (c:=z.1.map unI) (by simp[x.2.1]) (by simp[y.2.1]) (by simp[z.2.1]) h1 h2
  ·have hx:(x.1.map unI).length=k:=by simp[x.2.1]
   have hy:(y.1.map unI).length=k:=by simp[y.2.1]
   have hz:(z.1.map unI).length=k:=by simp[z.2.1]
   change ltZ (x.1.map unI) (y.1.map unI)=false at h1
   change ltZ (y.1.map unI) (z.1.map unI)=false at h2
   show ltZ (x.1.map unI) (z.1.map unI)=false;cases h3:ltZ (x.1.map unI) (z.1.map unI) with
   | false=>rfl
   | true=>
    cases h4:ltZ (z.1.map unI) (y.1.map unI) with
    | true=>rw[Z9f hx hz hy h3 h4] at h1;cases h1
    | false=>
     have:=Z9g hy hz h2 h4
     rw[this] at h1;rw[h1] at h3;cases h3
  ·have:=Z9g (n:=k) (a:=x.1.map unI) (b:=y.1.map unI) (by simp[x.2.1]) (by simp[y.2.1]) h1 h2
   apply Subtype.ext
   exact (Z9e (e:=x.1) x.2.2.2).trans ((congrArg valZ this).trans (Z9e (e:=y.1) y.2.2.2).symm)
 ·intro x y hx hy
  unfold ltF ltZ;rw[Z9d,Z9d,hf x y hx hy]
theorem Ztg{k:Nat}{l:List Int}(hl:l.length=k):decE k okI (encZ l)=some (valZ l):=by
 have h1:(encZ l).mapM cellV=some (valZ l):=by
  clear hl;induction l with
  | nil=>rfl
  | cons n l ih=>
   simp only[encZ,valZ,List.map_cons,List.mapM_cons] at ih ⊢
   rw[ih]
   rfl
 unfold decE;rw[h1]
 simp[valZ,hl];exact Zte l
theorem ZkD{k:Nat}:∀{l:List (List Int)},(∀x ∈ l,x.length=k)→(l.map encZ).mapM (decE k okI)=some (l.map valZ)
 | [],_=>rfl
 | x::l,h=>by
  simp only[List.map_cons,List.mapM_cons];rw[Ztg (h x (by simp)),ZkD λy hy=>h y (by simp[hy])]
  rfl
theorem Zth{k g:Nat}{Fc:Fun}(hf:∀x y:List Int,x.length=k→y.length=k→Fc [.agg (encZ x),.agg (encZ y)] []=some (.s (.int .i64 (lexZ x y)),[])){id off len fr:Nat}{full:Bool}{h:Hp}{es:List (List AV)}{nil:Bool}{l:List (List Int)}
  (ho:h[id]? = some (.arr k es true nil)) (hfr:es.length=fr) (hle:off+len≤es.length) (hlen:len<4611686018427387904) (hs:∀x ∈ l,x.length=k) (hl:(es.drop off).take len=l.map encZ):
  sortF k okI g Fc [.sl k id off len fr full,.fn g []] h=some (.tup [],h.set id (.arr k (es.take off++(l.mergeSort λx y => !ltZ y x).map encZ++es.drop (off+len)) true nil)):=by
 obtain ⟨h1,h2⟩:=Ztf hf;rw[Ztd (g:=g) (l:=l.map valZ) h1 ho hfr hle hlen (by rw[hl];exact ZkD hs)]
 have e:(l.map valZ).mergeSort (λx y => !ltF Fc y x)=(l.mergeSort λx y => !ltZ y x).map valZ:=by
  rw[List.map_mergeSort];intro a ha b hb
  rw[h2 b a (hs b hb) (hs a ha)]
 rw[e,List.map_map];have:encE ∘ valZ=encZ:=by funext x;exact Z9d x
 rw[this]
end Go.AM


namespace Go.Proofs
open Go.Shelf
def Tryz.sort69_ren:Go.Shelf.Ren:=⟨fun | 6=>69 | 15=>84 | 14=>83 | 28=>96 | 29=>97 | 20=>88 | 21=>89 | 22=>90 | 23=>91 | 24=>92 | 25=>93 | 26=>94 | 27=>95 | 46=>99 | 47=>100 | 48=>101 | 49=>102 | 50=>103 | 57=>105 | n=>n,fun | 22=>26 | 24=>50 | 25=>104 | 3=>3 | 39=>114 | 0=>0 | 53=>132 | 55=>29 | 4=>4 | 46=>126 | 45=>125 | 50=>111 | 5=>5 | 9=>9 | 66=>134 | 70=>138 | 76=>141 | 77=>142 | n=>n,fun | n=>n⟩
theorem Tryz.sort69:Go.Proofs.SlLaysF0.n6 Tryz.prog Tryz.sort69_ren:={
 mixed:=by kernel_rfl
 f6:=⟨Tryz.f69.name,by decide,Tryz.func69.trans (congrArg some (by kernel_rfl))⟩
 f14:=⟨Tryz.f83.name,by decide,Tryz.func83.trans (congrArg some (by kernel_rfl))⟩
 f15:=Tryz.func84.trans (congrArg some (by kernel_rfl))
 f20:=⟨Tryz.f88.name,by decide,Tryz.func88.trans (congrArg some (by kernel_rfl))⟩
 f21:=⟨Tryz.f89.name,by decide,Tryz.func89.trans (congrArg some (by kernel_rfl))⟩
 f22:=⟨Tryz.f90.name,by decide,Tryz.func90.trans (congrArg some (by kernel_rfl))⟩
 f23:=⟨Tryz.f91.name,by decide,Tryz.func91.trans (congrArg some (by kernel_rfl))⟩
 f24:=⟨Tryz.f92.name,by decide,Tryz.func92.trans (congrArg some (by kernel_rfl))⟩
 f25:=⟨Tryz.f93.name,by decide,Tryz.func93.trans (congrArg some (by kernel_rfl))⟩
 f26:=⟨Tryz.f94.name,by decide,Tryz.func94.trans (congrArg some (by kernel_rfl))⟩
 f27:=⟨Tryz.f95.name,by decide,Tryz.func95.trans (congrArg some (by kernel_rfl))⟩
 f28:=Tryz.func96.trans (congrArg some (by kernel_rfl))
 f29:=Tryz.func97.trans (congrArg some (by kernel_rfl))
 f46:=⟨Tryz.f99.name,by decide,Tryz.func99.trans (congrArg some (by kernel_rfl))⟩
 f47:=Tryz.func100.trans (congrArg some (by kernel_rfl))
 f48:=Tryz.func101.trans (congrArg some (by kernel_rfl))
 f49:=⟨Tryz.f102.name,by decide,Tryz.func102.trans (congrArg some (by kernel_rfl))⟩
 f50:=⟨Tryz.f103.name,by decide,Tryz.func103.trans (congrArg some (by kernel_rfl))⟩
 f57:=⟨Tryz.f105.name,by decide,Tryz.func105.trans (congrArg some (by kernel_rfl))⟩
 t0:=Tryz.underlying0
 a0:=Tryz.isAgg0
 z0:=Tryz.sizeOf0
 v0:=Tryz.zeroValue0
 t3:=Tryz.underlying3
 a3:=Tryz.isAgg3
 z3:=Tryz.sizeOf3
 v3:=Tryz.zeroValue3
 t4:=Tryz.underlying4
 a4:=Tryz.isAgg4
 z4:=Tryz.sizeOf4
 v4:=Tryz.zeroValue4
 t5:=Tryz.underlying5
 a5:=Tryz.isAgg5
 z5:=Tryz.sizeOf5
 v5:=Tryz.zeroValue5
 t9:=Tryz.underlying9
 a9:=Tryz.isAgg9
 z9:=Tryz.sizeOf9
 v9:=Tryz.zeroValue9
 t22:=Tryz.underlying26
 a22:=Tryz.isAgg26
 z22:=Tryz.sizeOf26
 v22:=Tryz.zeroValue26
 t25:=Tryz.underlying104
 a25:=Tryz.isAgg104
 z25:=Tryz.sizeOf104
 v25:=Tryz.zeroValue104
 t39:=Tryz.underlying114
 a39:=Tryz.isAgg114
 z39:=Tryz.sizeOf114
 v39:=Tryz.zeroValue114
 t45:=Tryz.underlying125
 a45:=Tryz.isAgg125
 z45:=Tryz.sizeOf125
 v45:=Tryz.zeroValue125
 t46:=Tryz.underlying126
 a46:=Tryz.isAgg126
 z46:=Tryz.sizeOf126
 v46:=Tryz.zeroValue126
 t50:=Tryz.underlying111
 a50:=Tryz.isAgg111
 z50:=Tryz.sizeOf111
 v50:=Tryz.zeroValue111
 t53:=Tryz.underlying132
 a53:=Tryz.isAgg132
 z53:=Tryz.sizeOf132
 v53:=Tryz.zeroValue132
 t55:=Tryz.underlying29
 a55:=Tryz.isAgg29
 z55:=Tryz.sizeOf29
 v55:=Tryz.zeroValue29
 t66:=Tryz.underlying134
 a66:=Tryz.isAgg134
 z66:=Tryz.sizeOf134
 v66:=Tryz.zeroValue134
 t70:=Tryz.underlying138
 a70:=Tryz.isAgg138
 z70:=Tryz.sizeOf138
 v70:=Tryz.zeroValue138
 t76:=Tryz.underlying141
 a76:=Tryz.isAgg141
 z76:=Tryz.sizeOf141
 v76:=Tryz.zeroValue141
 t77:=Tryz.underlying142
 a77:=Tryz.isAgg142
 z77:=Tryz.sizeOf142
 v77:=Tryz.zeroValue142 }
end Go.Proofs


namespace Go.AM
open Go.Proofs
theorem mixed:Tryz.prog.follows .mixedOrders=true:=by kernel_rfl
theorem NN_ex:∃n:Nat,1000000≤n∧n<4611686018427387904:=⟨1000000,by omega,by omega⟩
noncomputable def NN:Nat:=NN_ex.choose
theorem NN_ge:1000000≤NN:=NN_ex.choose_spec.1
theorem NN_lt:NN<4611686018427387904:=NN_ex.choose_spec.2
def Zco:DTab:=D0
theorem Zti:DSound Tryz.prog Zco:=DSound.zero
def Zcp:Tab:=T0
theorem Ztj:TSound Tryz.prog Zcp:=TSound.zero
def Zcq:Fun:=runF Tryz.prog Zcp Zco NN [0,2] Tryz.f43 1
theorem Ztk:CSound Tryz.prog 43 Zcq:=Z08 Ztj Zti mixed Tryz.func43 (by kernel_rfl) NN
theorem Ztl{β:Type}(K:Kb β)(a0:AV)(h:Hp):(Zcq [a0] h).bind (λp=>K p.1 p.2)=Zbr Tryz.prog Zcp Zco NN K a0 h:=by
 rw[← ZqV];exact Z09 rfl
def Z5a:Fun:=closedX [.o] [.o] Zcq
theorem ZkE:CSound Tryz.prog 43 Z5a:=Z0b _ _ Ztk
theorem Ztm{a0 v:AV}(ha:plains [a0]=true)(hv:Zbr Tryz.prog Zcp Zco NN (λv g=>cvt false g v) a0 []=some v)(h:Hp):Z5a [a0] h=some (v,h):=by
 have e:(Zcq (nrms [.o] [a0]) []).bind (λ(p:AV × Hp)=>cvt false p.2 p.1)=some v:=(Ztl (λv g=>cvt false g v) a0 []).trans hv
 exact (Z0c (shr:=[.o]) ha e h).trans (congrArg (λx=>some (x,h)) (Z0K 1 v))
def Z6c:DTab:=D0
theorem Ztn:DSound Tryz.prog Z6c:=DSound.zero
def Z6d:Tab:=T0
theorem Zto:TSound Tryz.prog Z6d:=TSound.zero
def Zcr:Fun:=runF Tryz.prog Z6d Z6c NN [0,1,4,5,10,12,13,14,24] Tryz.f44 2
theorem Ztp:CSound Tryz.prog 44 Zcr:=Z08 Zto Ztn mixed Tryz.func44 (by kernel_rfl) NN
theorem Ztq{β:Type}(K:Kb β)(a0 a1:AV)(h:Hp):(Zcr [a0,a1] h).bind (λp=>K p.1 p.2)=Z60 Tryz.prog Z6d Z6c NN K a0 a1 h:=by
 rw[← ZqZ];exact Z09 rfl
def Z5b:Fun:=closedX [.l 7,.l 7] [.o] Zcr
theorem ZkF:CSound Tryz.prog 44 Z5b:=Z0b _ _ Ztp
theorem Ztr{a0 a1 v:AV}(ha:plains [a0,a1]=true)(hv:Z60 Tryz.prog Z6d Z6c NN (λv g=>cvt false g v) (nrm (.l 7) a0) (nrm (.l 7) a1) []=some v)(h:Hp):Z5b [a0,a1] h=some (v,h):=by
 have e:(Zcr (nrms [.l 7,.l 7] [a0,a1]) []).bind (λ(p:AV × Hp)=>cvt false p.2 p.1)=some v:=(Ztq (λv g=>cvt false g v) (nrm (.l 7) a0) (nrm (.l 7) a1) []).trans hv
 exact (Z0c (shr:=[.o]) ha e h).trans (congrArg (λx=>some (x,h)) (Z0K 1 v))
def Z6e:DTab:=D0
theorem Zts:DSound Tryz.prog Z6e:=DSound.zero
def Z6f:Tab:=T0
theorem Ztt:TSound Tryz.prog Z6f:=TSound.zero
def Z9h:Fun:=runF Tryz.prog Z6f Z6e NN [0,2,3,5,6,7,8,9,14] Tryz.f65 1
theorem Ztu:CSound Tryz.prog 65 Z9h:=Z08 Ztt Zts mixed Tryz.func65 (by kernel_rfl) NN
theorem Ztv{β:Type}(K:Kb β)(a0:AV)(h:Hp):(Z9h [a0] h).bind (λp=>K p.1 p.2)=Z8H Tryz.prog Z6f Z6e NN K a0 h:=by
 rw[← ZrQ];exact Z09 rfl
def Z4b:Fun:=closedX [.l 1] [.o] Z9h
theorem Zcs:CSound Tryz.prog 65 Z4b:=Z0b _ _ Ztu
def Z5c:DFun:=closedXD [.l 1] [.o] Z9h
theorem ZkG:Ro Z4b Z5c:=Z39 _ _ _
theorem Ztw{a0 x0:AV}{h:Hp}{v:AV}(ha:cvts false h [x0]=some [a0])(hv:∀st,Z8H Tryz.prog Z6f Z6e NN (λv g=>cvt st g v) (nrm (.l 1) a0) []=some v):Z4b [x0] h=some (v,h):=by
 have e:∀st,(Z9h (nrms [.l 1] [a0]) []).bind (λ(p:AV × Hp)=>cvt st p.2 p.1)=some v:=λst=>(Ztv (λv g=>cvt st g v) (nrm (.l 1) a0) []).trans (hv st)
 exact (ZaI (shr:=[.o]) ha e).trans (congrArg (λx=>some (x,h)) (Z0K 1 v))
def Zct:DTab:=D0
theorem Ztx:DSound Tryz.prog Zct:=DSound.zero
def Zcu:Tab:=T0
theorem Zty:TSound Tryz.prog Zcu:=TSound.zero
def Zcv:Fun:=runF Tryz.prog Zcu Zct NN [0,2] Tryz.f81 1
theorem Ztz:CSound Tryz.prog 81 Zcv:=Z08 Zty Ztx mixed Tryz.func81 (by kernel_rfl) NN
theorem ZtA{β:Type}(K:Kb β)(a0:AV)(h:Hp):(Zcv [a0] h).bind (λp=>K p.1 p.2)=Zch Tryz.prog Zcu Zct NN K a0 h:=by
 rw[← ZsB];exact Z09 rfl
def Z9i:Fun:=closedX [.o] [.o] Zcv
theorem ZtB:CSound Tryz.prog 81 Z9i:=Z0b _ _ Ztz
theorem ZtC{a0 v:AV}(ha:plains [a0]=true)(hv:Zch Tryz.prog Zcu Zct NN (λv g=>cvt false g v) a0 []=some v)(h:Hp):Z9i [a0] h=some (v,h):=by
 have e:(Zcv (nrms [.o] [a0]) []).bind (λ(p:AV × Hp)=>cvt false p.2 p.1)=some v:=(ZtA (λv g=>cvt false g v) a0 []).trans hv
 exact (Z0c (shr:=[.o]) ha e h).trans (congrArg (λx=>some (x,h)) (Z0K 1 v))
def Zcw:DTab:=D0
theorem ZtD:DSound Tryz.prog Zcw:=DSound.zero
def Z9j:Tab:=(updF T0 81 Z9i)
theorem ZtE:TSound Tryz.prog Z9j:=(TSound.upd TSound.zero ZtB)
@[simp] theorem ZDP:Z9j 81=some Z9i:=rfl
def Z9k:Fun:=runF Tryz.prog Z9j Zcw NN [0,1,4,5,6,11,12,13,16,19] Tryz.f66 2
theorem ZtF:CSound Tryz.prog 66 Z9k:=Z08 ZtE ZtD mixed Tryz.func66 (by kernel_rfl) NN
theorem ZtG{β:Type}(K:Kb β)(a0 a1:AV)(h:Hp):(Z9k [a0,a1] h).bind (λp=>K p.1 p.2)=Z8I Tryz.prog Z9j Zcw NN K a0 a1 h:=by
 rw[← ZrR];exact Z09 rfl
def Z4c:Fun:=closedX [.o,.o] [.o] Z9k
theorem Zcx:CSound Tryz.prog 66 Z4c:=Z0b _ _ ZtF
def Z6g:DFun:=closedXD [.o,.o] [.o] Z9k
theorem ZkH:Ro Z4c Z6g:=Z39 _ _ _
theorem ZtH{a0 a1 v:AV}(ha:plains [a0,a1]=true)(hv:Z8I Tryz.prog Z9j Zcw NN (λv g=>cvt false g v) a0 a1 []=some v)(h:Hp):Z4c [a0,a1] h=some (v,h):=by
 have e:(Z9k (nrms [.o,.o] [a0,a1]) []).bind (λ(p:AV × Hp)=>cvt false p.2 p.1)=some v:=(ZtG (λv g=>cvt false g v) a0 a1 []).trans hv
 exact (Z0c (shr:=[.o]) ha e h).trans (congrArg (λx=>some (x,h)) (Z0K 1 v))
def Z6h:DTab:=(updD (updD D0 65 Z5c) 66 Z6g)
theorem ZtI:DSound Tryz.prog Z6h:=(DSound.ro (DSound.ro DSound.zero ZkG Zcs) ZkH Zcx)
@[simp] theorem ZtJ:Z6h 65=some Z5c:=rfl
@[simp] theorem ZtK:Z6h 66=some Z6g:=rfl
def Z6i:Tab:=(updF (updF T0 65 Z4b) 66 Z4c)
theorem ZtL:TSound Tryz.prog Z6i:=(TSound.upd (TSound.upd TSound.zero Zcs) Zcx)
@[simp] theorem ZDQ:Z6i 65=some Z4b:=rfl
@[simp] theorem ZDR:Z6i 66=some Z4c:=rfl
def Zcy:Fun:=runF Tryz.prog Z6i Z6h NN [0,1,2,3,4] Tryz.f45 2
theorem ZtM:CSound Tryz.prog 45 Zcy:=Z08 ZtL ZtI mixed Tryz.func45 (by kernel_rfl) NN
theorem ZtN{β:Type}(K:Kb β)(a0 a1:AV)(h:Hp):(Zcy [a0,a1] h).bind (λp=>K p.1 p.2)=Zbu Tryz.prog Z6i Z6h NN K a0 a1 h:=by
 rw[← Zr0];exact Z09 rfl
def Z3y:Fun:=closedX [.o,.o] [.o] Zcy
theorem ZfO:CSound Tryz.prog 45 Z3y:=Z0b _ _ ZtM
theorem ZtO{a0 a1 v:AV}(ha:plains [a0,a1]=true)(hv:Zbu Tryz.prog Z6i Z6h NN (λv g=>cvt false g v) a0 a1 []=some v)(h:Hp):Z3y [a0,a1] h=some (v,h):=by
 have e:(Zcy (nrms [.o,.o] [a0,a1]) []).bind (λ(p:AV × Hp)=>cvt false p.2 p.1)=some v:=(ZtN (λv g=>cvt false g v) a0 a1 []).trans hv
 exact (Z0c (shr:=[.o]) ha e h).trans (congrArg (λx=>some (x,h)) (Z0K 1 v))
def Z6j:DTab:=D0
theorem ZtP:DSound Tryz.prog Z6j:=DSound.zero
def Z6k:Tab:=T0
theorem ZtQ:TSound Tryz.prog Z6k:=TSound.zero
def Z1T:Fun:=runF Tryz.prog Z6k Z6j NN [0,2,4] Tryz.f27 1
theorem Zcz:CSound Tryz.prog 27 Z1T:=Z08 ZtQ ZtP mixed Tryz.func27 (by kernel_rfl) NN
theorem ZfP{β:Type}(K:Kb β)(a0:AV)(h:Hp):(Z1T [a0] h).bind (λp=>K p.1 p.2)=Z4B Tryz.prog Z6k Z6j NN K a0 h:=by
 rw[← Zq7];exact Z09 rfl
theorem ZtR(a0:AV)(h:Hp):Z1T [a0] h=Z4B Tryz.prog Z6k Z6j NN (λv h=>some (v,h)) a0 h:=(Z1Q _).symm.trans (ZfP (λv h=>some (v,h)) a0 h)
def Z5d:Fun:=closedX [.l 7] [.l 7] Z1T
theorem ZkI:CSound Tryz.prog 27 Z5d:=Z0b _ _ Zcz
def ZcA:DFun:=closedXD [.l 7] [.l 7] Z1T
theorem ZtS:Ro Z5d ZcA:=Z39 _ _ _
theorem ZtT{a0 v:AV}(ha:plains [a0]=true)(hv:Z4B Tryz.prog Z6k Z6j NN (λv g=>cvt false g v) (nrm (.l 7) a0) []=some v)(h:Hp):Z5d [a0] h=some ((nrmR [.l 7] v),h):=by
 have e:(Z1T (nrms [.l 7] [a0]) []).bind (λ(p:AV × Hp)=>cvt false p.2 p.1)=some v:=(ZfP (λv g=>cvt false g v) (nrm (.l 7) a0) []).trans hv
 exact (Z0c (shr:=[.l 7]) ha e h).trans (congrArg (λx=>some (x,h)) rfl)
def ZcB:DTab:=D0
theorem ZtU:DSound Tryz.prog ZcB:=DSound.zero
def ZcC:Tab:=T0
theorem ZtV:TSound Tryz.prog ZcC:=TSound.zero
def ZcD:Fun:=runF Tryz.prog ZcC ZcB NN [0,2] Tryz.f64 1
theorem ZtW:CSound Tryz.prog 64 ZcD:=Z08 ZtV ZtU mixed Tryz.func64 (by kernel_rfl) NN
theorem ZtX{β:Type}(K:Kb β)(a0:AV)(h:Hp):(ZcD [a0] h).bind (λp=>K p.1 p.2)=ZbS Tryz.prog ZcC ZcB NN K a0 h:=by
 rw[← ZrM];exact Z09 rfl
def Z9l:Fun:=closedX [.o] [.o] ZcD
theorem ZtY:CSound Tryz.prog 64 Z9l:=Z0b _ _ ZtW
theorem ZtZ{a0 v:AV}(ha:plains [a0]=true)(hv:ZbS Tryz.prog ZcC ZcB NN (λv g=>cvt false g v) a0 []=some v)(h:Hp):Z9l [a0] h=some (v,h):=by
 have e:(ZcD (nrms [.o] [a0]) []).bind (λ(p:AV × Hp)=>cvt false p.2 p.1)=some v:=(ZtX (λv g=>cvt false g v) a0 []).trans hv
 exact (Z0c (shr:=[.o]) ha e h).trans (congrArg (λx=>some (x,h)) (Z0K 1 v))
def ZcE:DTab:=D0
theorem Zu0:DSound Tryz.prog ZcE:=DSound.zero
def Z9m:Tab:=(updF T0 64 Z9l)
theorem Zu1:TSound Tryz.prog Z9m:=(TSound.upd TSound.zero ZtY)
@[simp] theorem ZfQ:Z9m 64=some Z9l:=rfl
def ZcF:Fun:=runF Tryz.prog Z9m ZcE NN [0,1,2,3,4,32,41,42,78,99,118] Tryz.f41 1
theorem Zu2:CSound Tryz.prog 41 ZcF:=Z08 Zu1 Zu0 mixed Tryz.func41 (by kernel_rfl) NN
theorem Zu3{β:Type}(K:Kb β)(a0:AV)(h:Hp):(ZcF [a0] h).bind (λp=>K p.1 p.2)=Zbq Tryz.prog Z9m ZcE NN K a0 h:=by
 rw[← ZqT];exact Z09 rfl
def Z3h:Fun:=closedX [.o] [.o] ZcF
theorem ZfR:CSound Tryz.prog 41 Z3h:=Z0b _ _ Zu2
theorem Zu4{a0 v:AV}(ha:plains [a0]=true)(hv:Zbq Tryz.prog Z9m ZcE NN (λv g=>cvt false g v) a0 []=some v)(h:Hp):Z3h [a0] h=some (v,h):=by
 have e:(ZcF (nrms [.o] [a0]) []).bind (λ(p:AV × Hp)=>cvt false p.2 p.1)=some v:=(Zu3 (λv g=>cvt false g v) a0 []).trans hv
 exact (Z0c (shr:=[.o]) ha e h).trans (congrArg (λx=>some (x,h)) (Z0K 1 v))
def ZcG:DTab:=D0
theorem Zu5:DSound Tryz.prog ZcG:=DSound.zero
def Z9n:Tab:=(updF T0 41 Z3h)
theorem Zu6:TSound Tryz.prog Z9n:=(TSound.upd TSound.zero ZfR)
@[simp] theorem Zu7:Z9n 41=some Z3h:=rfl
def ZcH:Fun:=runF Tryz.prog Z9n ZcG NN [0,1,2] Tryz.f68 1
theorem Zu8:CSound Tryz.prog 68 ZcH:=Z08 Zu6 Zu5 mixed Tryz.func68 (by kernel_rfl) NN
theorem Zu9{β:Type}(K:Kb β)(a0:AV)(h:Hp):(ZcH [a0] h).bind (λp=>K p.1 p.2)=ZbW Tryz.prog Z9n ZcG NN K a0 h:=by
 rw[← ZrT];exact Z09 rfl
def Z5e:Fun:=closedX [.o] [.o] ZcH
theorem ZkJ:CSound Tryz.prog 68 Z5e:=Z0b _ _ Zu8
theorem Zua{a0 v:AV}(ha:plains [a0]=true)(hv:ZbW Tryz.prog Z9n ZcG NN (λv g=>cvt false g v) a0 []=some v)(h:Hp):Z5e [a0] h=some (v,h):=by
 have e:(ZcH (nrms [.o] [a0]) []).bind (λ(p:AV × Hp)=>cvt false p.2 p.1)=some v:=(Zu9 (λv g=>cvt false g v) a0 []).trans hv
 exact (Z0c (shr:=[.o]) ha e h).trans (congrArg (λx=>some (x,h)) (Z0K 1 v))
def ZcI:DTab:=D0
theorem Zub:DSound Tryz.prog ZcI:=DSound.zero
def Z9o:Tab:=(updF T0 68 Z5e)
theorem Zuc:TSound Tryz.prog Z9o:=(TSound.upd TSound.zero ZkJ)
@[simp] theorem ZDS:Z9o 68=some Z5e:=rfl
def ZcJ:Fun:=runF Tryz.prog Z9o ZcI NN [0,1,4,5,7,8,9,16] Tryz.f82 2
theorem Zud:CSound Tryz.prog 82 ZcJ:=Z08 Zuc Zub mixed Tryz.func82 (by kernel_rfl) NN
theorem Zue{β:Type}(K:Kb β)(a0 a1:AV)(h:Hp):(ZcJ [a0,a1] h).bind (λp=>K p.1 p.2)=Z6a Tryz.prog Z9o ZcI NN K a0 a1 h:=by
 rw[← ZsF];exact Z09 rfl
def Z9p:Fun:=closedX [.l 7,.o] [.o] ZcJ
theorem Zuf:CSound Tryz.prog 82 Z9p:=Z0b _ _ Zud
theorem Zug{a0 a1 v:AV}(ha:plains [a0,a1]=true)(hv:Z6a Tryz.prog Z9o ZcI NN (λv g=>cvt false g v) (nrm (.l 7) a0) a1 []=some v)(h:Hp):Z9p [a0,a1] h=some (v,h):=by
 have e:(ZcJ (nrms [.l 7,.o] [a0,a1]) []).bind (λ(p:AV × Hp)=>cvt false p.2 p.1)=some v:=(Zue (λv g=>cvt false g v) (nrm (.l 7) a0) a1 []).trans hv
 exact (Z0c (shr:=[.o]) ha e h).trans (congrArg (λx=>some (x,h)) (Z0K 1 v))
def ZcK:DTab:=D0
theorem Zuh:DSound Tryz.prog ZcK:=DSound.zero
def Z9q:Tab:=(updF T0 82 Z9p)
theorem Zui:TSound Tryz.prog Z9q:=(TSound.upd TSound.zero Zuf)
@[simp] theorem Zuj:Z9q 82=some Z9p:=rfl
def ZcL:Fun:=runF Tryz.prog Z9q ZcK NN [0,1,4] Tryz.f67 2
theorem Zuk:CSound Tryz.prog 67 ZcL:=Z08 Zui Zuh mixed Tryz.func67 (by kernel_rfl) NN
theorem Zul{β:Type}(K:Kb β)(a0 a1:AV)(h:Hp):(ZcL [a0,a1] h).bind (λp=>K p.1 p.2)=ZbV Tryz.prog Z9q ZcK NN K a0 a1 h:=by
 rw[← ZrS];exact Z09 rfl
def Z9r:Fun:=closedX [.l 7,.o] [.o] ZcL
theorem Zum:CSound Tryz.prog 67 Z9r:=Z0b _ _ Zuk
theorem Zun{a0 a1 v:AV}(ha:plains [a0,a1]=true)(hv:ZbV Tryz.prog Z9q ZcK NN (λv g=>cvt false g v) (nrm (.l 7) a0) a1 []=some v)(h:Hp):Z9r [a0,a1] h=some (v,h):=by
 have e:(ZcL (nrms [.l 7,.o] [a0,a1]) []).bind (λ(p:AV × Hp)=>cvt false p.2 p.1)=some v:=(Zul (λv g=>cvt false g v) (nrm (.l 7) a0) a1 []).trans hv
 exact (Z0c (shr:=[.o]) ha e h).trans (congrArg (λx=>some (x,h)) (Z0K 1 v))
def Z6l:DTab:=(updD (updD D0 65 Z5c) 66 Z6g)
theorem Zuo:DSound Tryz.prog Z6l:=(DSound.ro (DSound.ro DSound.zero ZkG Zcs) ZkH Zcx)
@[simp] theorem Zup:Z6l 65=some Z5c:=rfl
@[simp] theorem Zuq:Z6l 66=some Z6g:=rfl
def Z6m:Tab:=(updF (updF T0 65 Z4b) 66 Z4c)
theorem Zur:TSound Tryz.prog Z6m:=(TSound.upd (TSound.upd TSound.zero Zcs) Zcx)
@[simp] theorem ZDT:Z6m 65=some Z4b:=rfl
@[simp] theorem ZDU:Z6m 66=some Z4c:=rfl
def ZcM:Fun:=runF Tryz.prog Z6m Z6l NN [0,1,2,3,4] Tryz.f70 2
theorem Zus:CSound Tryz.prog 70 ZcM:=Z08 Zur Zuo mixed Tryz.func70 (by kernel_rfl) NN
theorem Zut{β:Type}(K:Kb β)(a0 a1:AV)(h:Hp):(ZcM [a0,a1] h).bind (λp=>K p.1 p.2)=ZbX Tryz.prog Z6m Z6l NN K a0 a1 h:=by
 rw[← ZrU];exact Z09 rfl
def Z5f:Fun:=closedX [.o,.o] [.o] ZcM
theorem ZkK:CSound Tryz.prog 70 Z5f:=Z0b _ _ Zus
theorem Zuu{a0 a1 v:AV}(ha:plains [a0,a1]=true)(hv:ZbX Tryz.prog Z6m Z6l NN (λv g=>cvt false g v) a0 a1 []=some v)(h:Hp):Z5f [a0,a1] h=some (v,h):=by
 have e:(ZcM (nrms [.o,.o] [a0,a1]) []).bind (λ(p:AV × Hp)=>cvt false p.2 p.1)=some v:=(Zut (λv g=>cvt false g v) a0 a1 []).trans hv
 exact (Z0c (shr:=[.o]) ha e h).trans (congrArg (λx=>some (x,h)) (Z0K 1 v))
def Z9s:Fun:=sortF 7 okI 70 Z5f
theorem Zuv:CSound Tryz.prog 69 Z9s:=Ztc (ρ:=Tryz.sort69_ren) Tryz.sort69 Tryz.isAgg50 Tryz.sizeOf50 ⟨Tryz.f69,Tryz.func69,by kernel_rfl,by kernel_rfl⟩ (by decide) ZkK ⟨Tryz.f70,Tryz.func70,by kernel_rfl,by kernel_rfl⟩
def Z6n:DTab:=D0
theorem Zuw:DSound Tryz.prog Z6n:=DSound.zero
def Z6o:Tab:=T0
theorem Zux:TSound Tryz.prog Z6o:=TSound.zero
def Z5g:Fun:=runF Tryz.prog Z6o Z6n NN [0,2,3,4,5,8,13,25,32,44] Tryz.f71 1
theorem Zuy:CSound Tryz.prog 71 Z5g:=Z08 Zux Zuw mixed Tryz.func71 (by kernel_rfl) NN
theorem Zuz{β:Type}(K:Kb β)(a0:AV)(h:Hp):(Z5g [a0] h).bind (λp=>K p.1 p.2)=Z4Y Tryz.prog Z6o Z6n NN K a0 h:=by
 rw[← Zs2];exact Z09 rfl
theorem ZkL(a0:AV)(h:Hp):Z5g [a0] h=Z4Y Tryz.prog Z6o Z6n NN (λv h=>some (v,h)) a0 h:=(Z1Q _).symm.trans (Zuz (λv h=>some (v,h)) a0 h)
def Z6p:DTab:=D0
theorem ZuA:DSound Tryz.prog Z6p:=DSound.zero
def Z2Q:Tab:=(updF (updF (updF (updF (updF (updF T0 27 Z1T) 67 Z9r) 68 Z5e) 69 Z9s) 70 Z5f) 71 Z5g)
theorem ZuB:TSound Tryz.prog Z2Q:=(TSound.upd (TSound.upd (TSound.upd (TSound.upd (TSound.upd (TSound.upd TSound.zero Zcz) Zum) ZkJ) Zuv) ZkK) Zuy)
@[simp] theorem ZuC:Z2Q 27=some Z1T:=rfl
@[simp] theorem ZkM:Z2Q 67=some Z9r:=rfl
@[simp] theorem ZDV:Z2Q 68=some Z5e:=rfl
@[simp] theorem ZuD:Z2Q 69=some Z9s:=rfl
@[simp] theorem ZDW:Z2Q 70=some Z5f:=rfl
@[simp] theorem ZuE:Z2Q 71=some Z5g:=rfl
def Z9t:Fun:=runF Tryz.prog Z2Q Z6p NN [0,2,3,4,7,9] Tryz.f46 1
theorem ZuF:CSound Tryz.prog 46 Z9t:=Z08 ZuB ZuA mixed Tryz.func46 (by kernel_rfl) NN
theorem ZkN{β:Type}(K:Kb β)(a0:AV)(h:Hp):(Z9t [a0] h).bind (λp=>K p.1 p.2)=Z40 Tryz.prog Z2Q Z6p NN K a0 h:=by
 rw[← Zr1];exact Z09 rfl
def Z33:Fun:=closedX [.l 7] [.l 7,.o] Z9t
theorem ZfS:CSound Tryz.prog 46 Z33:=Z0b _ _ ZuF
theorem ZuG{a0 v:AV}(ha:plains [a0]=true)(hv:Z40 Tryz.prog Z2Q Z6p NN (λv g=>cvt false g v) (nrm (.l 7) a0) []=some v)(h:Hp):Z33 [a0] h=some ((nrmR [.l 7,.o] v),h):=by
 have e:(Z9t (nrms [.l 7] [a0]) []).bind (λ(p:AV × Hp)=>cvt false p.2 p.1)=some v:=(ZkN (λv g=>cvt false g v) (nrm (.l 7) a0) []).trans hv
 exact (Z0c (shr:=[.l 7,.o]) ha e h).trans (congrArg (λx=>some (x,h)) rfl)
theorem ZuH{a0 x0:AV}{h:Hp}{v:AV}(ha:cvts false h [x0]=some [a0])(hv:∀st,Z40 Tryz.prog Z2Q Z6p NN (λv g=>cvt st g v) (nrm (.l 7) a0) []=some v):Z33 [x0] h=some ((nrmR [.l 7,.o] v),h):=by
 have e:∀st,(Z9t (nrms [.l 7] [a0]) []).bind (λ(p:AV × Hp)=>cvt st p.2 p.1)=some v:=λst=>(ZkN (λv g=>cvt st g v) (nrm (.l 7) a0) []).trans (hv st)
 exact (ZaI (shr:=[.l 7,.o]) ha e).trans (congrArg (λx=>some (x,h)) rfl)
def Z5h:DTab:=D0
theorem ZuI:DSound Tryz.prog Z5h:=DSound.zero
def Z2R:Tab:=(updF (updF (updF (updF T0 43 Z5a) 44 Z5b) 45 Z3y) 46 Z33)
theorem ZuJ:TSound Tryz.prog Z2R:=(TSound.upd (TSound.upd (TSound.upd (TSound.upd TSound.zero ZkE) ZkF) ZfO) ZfS)
@[simp] theorem ZkO:Z2R 43=some Z5a:=rfl
@[simp] theorem ZuK:Z2R 44=some Z5b:=rfl
@[simp] theorem ZuL:Z2R 45=some Z3y:=rfl
@[simp] theorem ZuM:Z2R 46=some Z33:=rfl
def ZcN:Fun:=runF Tryz.prog Z2R Z5h NN [0,1,2,3,4,5,6,7,12,24,25,26,27,31,46,52,73,83] Tryz.f22 1
theorem ZuN:CSound Tryz.prog 22 ZcN:=Z08 ZuJ ZuI mixed Tryz.func22 (by kernel_rfl) NN
theorem ZuO{β:Type}(K:Kb β)(a0:AV)(h:Hp):(ZcN [a0] h).bind (λp=>K p.1 p.2)=Z7O Tryz.prog Z2R Z5h NN K a0 h:=by
 rw[← ZpZ];exact Z09 rfl
def Z1V:Fun:=closedX [.a [none,some 2,some 7]] [.o] ZcN
theorem Z9u:CSound Tryz.prog 22 Z1V:=Z0b _ _ ZuN
theorem ZuP{a0 v:AV}(ha:plains [a0]=true)(hv:Z7O Tryz.prog Z2R Z5h NN (λv g=>cvt false g v) (nrm (.a [none,some 2,some 7]) a0) []=some v)(h:Hp):Z1V [a0] h=some (v,h):=by
 have e:(ZcN (nrms [.a [none,some 2,some 7]] [a0]) []).bind (λ(p:AV × Hp)=>cvt false p.2 p.1)=some v:=(ZuO (λv g=>cvt false g v) (nrm (.a [none,some 2,some 7]) a0) []).trans hv
 exact (Z0c (shr:=[.o]) ha e h).trans (congrArg (λx=>some (x,h)) (Z0K 1 v))
def ZcO:DTab:=D0
theorem ZuQ:DSound Tryz.prog ZcO:=DSound.zero
def ZcP:Tab:=T0
theorem ZuR:TSound Tryz.prog ZcP:=TSound.zero
def ZcQ:Fun:=runF Tryz.prog ZcP ZcO NN [0,2] Tryz.f40 1
theorem ZuS:CSound Tryz.prog 40 ZcQ:=Z08 ZuR ZuQ mixed Tryz.func40 (by kernel_rfl) NN
theorem ZuT{β:Type}(K:Kb β)(a0:AV)(h:Hp):(ZcQ [a0] h).bind (λp=>K p.1 p.2)=Zbp Tryz.prog ZcP ZcO NN K a0 h:=by
 rw[← ZqS];exact Z09 rfl
def Z34:Fun:=closedX [.o] [.o] ZcQ
theorem ZcR:CSound Tryz.prog 40 Z34:=Z0b _ _ ZuS
theorem ZuU{a0 v:AV}(ha:plains [a0]=true)(hv:Zbp Tryz.prog ZcP ZcO NN (λv g=>cvt false g v) a0 []=some v)(h:Hp):Z34 [a0] h=some (v,h):=by
 have e:(ZcQ (nrms [.o] [a0]) []).bind (λ(p:AV × Hp)=>cvt false p.2 p.1)=some v:=(ZuT (λv g=>cvt false g v) a0 []).trans hv
 exact (Z0c (shr:=[.o]) ha e h).trans (congrArg (λx=>some (x,h)) (Z0K 1 v))
def ZcS:DTab:=D0
theorem ZuV:DSound Tryz.prog ZcS:=DSound.zero
def Z9v:Tab:=(updF T0 41 Z3h)
theorem ZuW:TSound Tryz.prog Z9v:=(TSound.upd TSound.zero ZfR)
@[simp] theorem ZDX:Z9v 41=some Z3h:=rfl
def ZcT:Fun:=runF Tryz.prog Z9v ZcS NN [0,2,3,4,5,6,9,11,12,13,14,18,48,55,61] Tryz.f47 1
theorem ZuX:CSound Tryz.prog 47 ZcT:=Z08 ZuW ZuV mixed Tryz.func47 (by kernel_rfl) NN
theorem ZuY{β:Type}(K:Kb β)(a0:AV)(h:Hp):(ZcT [a0] h).bind (λp=>K p.1 p.2)=Z8n Tryz.prog Z9v ZcS NN K a0 h:=by
 rw[← Zr5];exact Z09 rfl
def Z4d:Fun:=closedX [.l 10] [.o,.o] ZcT
theorem ZkP:CSound Tryz.prog 47 Z4d:=Z0b _ _ ZuX
theorem ZuZ{a0 v:AV}(ha:plains [a0]=true)(hv:Z8n Tryz.prog Z9v ZcS NN (λv g=>cvt false g v) (nrm (.l 10) a0) []=some v)(h:Hp):Z4d [a0] h=some (v,h):=by
 have e:(ZcT (nrms [.l 10] [a0]) []).bind (λ(p:AV × Hp)=>cvt false p.2 p.1)=some v:=(ZuY (λv g=>cvt false g v) (nrm (.l 10) a0) []).trans hv
 exact (Z0c (shr:=[.o,.o]) ha e h).trans (congrArg (λx=>some (x,h)) (Z0K 2 v))
def Z5i:DTab:=D0
theorem Zv0:DSound Tryz.prog Z5i:=DSound.zero
def Z3z:Tab:=(updF (updF T0 40 Z34) 47 Z4d)
theorem Zv1:TSound Tryz.prog Z3z:=(TSound.upd (TSound.upd TSound.zero ZcR) ZkP)
@[simp] theorem Zv2:Z3z 40=some Z34:=rfl
@[simp] theorem Zv3:Z3z 47=some Z4d:=rfl
def ZcU:Fun:=runF Tryz.prog Z3z Z5i NN [0,1,2,3,4,6,7,22,28,29,30,31,41,45,51] Tryz.f23 1
theorem Zv4:CSound Tryz.prog 23 ZcU:=Z08 Zv1 Zv0 mixed Tryz.func23 (by kernel_rfl) NN
theorem Zv5{β:Type}(K:Kb β)(a0:AV)(h:Hp):(ZcU [a0] h).bind (λp=>K p.1 p.2)=Z7R Tryz.prog Z3z Z5i NN K a0 h:=by
 rw[← Zq3];exact Z09 rfl
def Z2S:Fun:=closedX [.a [none,none,some 10]] [.o] ZcU
theorem ZcV:CSound Tryz.prog 23 Z2S:=Z0b _ _ Zv4
theorem Zv6{a0 v:AV}(ha:plains [a0]=true)(hv:Z7R Tryz.prog Z3z Z5i NN (λv g=>cvt false g v) (nrm (.a [none,none,some 10]) a0) []=some v)(h:Hp):Z2S [a0] h=some (v,h):=by
 have e:(ZcU (nrms [.a [none,none,some 10]] [a0]) []).bind (λ(p:AV × Hp)=>cvt false p.2 p.1)=some v:=(Zv5 (λv g=>cvt false g v) (nrm (.a [none,none,some 10]) a0) []).trans hv
 exact (Z0c (shr:=[.o]) ha e h).trans (congrArg (λx=>some (x,h)) (Z0K 1 v))
def Z9w:DTab:=D0
theorem Zv7:DSound Tryz.prog Z9w:=DSound.zero
def Z9x:Tab:=T0
theorem Zv8:TSound Tryz.prog Z9x:=TSound.zero
def Z2T:Fun:=runF Tryz.prog Z9x Z9w NN [0,2,4] Tryz.f25 1
theorem ZfT:CSound Tryz.prog 25 Z2T:=Z08 Zv8 Zv7 mixed Tryz.func25 (by kernel_rfl) NN
theorem ZkQ{β:Type}(K:Kb β)(a0:AV)(h:Hp):(Z2T [a0] h).bind (λp=>K p.1 p.2)=Z3V Tryz.prog Z9x Z9w NN K a0 h:=by
 rw[← Zq5];exact Z09 rfl
theorem Zv9(a0:AV)(h:Hp):Z2T [a0] h=Z3V Tryz.prog Z9x Z9w NN (λv h=>some (v,h)) a0 h:=(Z1Q _).symm.trans (ZkQ (λv h=>some (v,h)) a0 h)
def Z5j:Fun:=closedX [.l 10] [.l 10] Z2T
theorem Zva:CSound Tryz.prog 25 Z5j:=Z0b _ _ ZfT
theorem Zvb{a0 v:AV}(ha:plains [a0]=true)(hv:Z3V Tryz.prog Z9x Z9w NN (λv g=>cvt false g v) (nrm (.l 10) a0) []=some v)(h:Hp):Z5j [a0] h=some ((nrmR [.l 10] v),h):=by
 have e:(Z2T (nrms [.l 10] [a0]) []).bind (λ(p:AV × Hp)=>cvt false p.2 p.1)=some v:=(ZkQ (λv g=>cvt false g v) (nrm (.l 10) a0) []).trans hv
 exact (Z0c (shr:=[.l 10]) ha e h).trans (congrArg (λx=>some (x,h)) rfl)
def ZcW:DTab:=D0
theorem Zvc:DSound Tryz.prog ZcW:=DSound.zero
def ZcX:Tab:=T0
theorem Zvd:TSound Tryz.prog ZcX:=TSound.zero
def ZcY:Fun:=runF Tryz.prog ZcX ZcW NN [0,1,2,3] Tryz.f49 2
theorem Zve:CSound Tryz.prog 49 ZcY:=Z08 Zvd Zvc mixed Tryz.func49 (by kernel_rfl) NN
theorem Zvf{β:Type}(K:Kb β)(a0 a1:AV)(h:Hp):(ZcY [a0,a1] h).bind (λp=>K p.1 p.2)=Zby Tryz.prog ZcX ZcW NN K a0 a1 h:=by
 rw[← Zrb];exact Z09 rfl
def Z3A:Fun:=quietT ZcY
theorem ZfU:CSound Tryz.prog 49 Z3A:=Z7w Zve
theorem Zvg{a0 a1:AV}{h:Hp}{g:List AObj}{v:AV}(hv:Zby Tryz.prog ZcX ZcW NN (λv h=>some (v,h)) a0 a1 h=some (v,h++g))(hp:plain v=true):Z3A [a0,a1] h=some (v,h):=ZaH (F:=ZcY) (((Z1Q _).symm.trans (Zvf (λv h=>some (v,h)) a0 a1 h)).trans hv) hp
def ZcZ:DTab:=D0
theorem Zvh:DSound Tryz.prog ZcZ:=DSound.zero
def Z6q:Tab:=(updF T0 49 Z3A)
theorem Zvi:TSound Tryz.prog Z6q:=(TSound.upd TSound.zero ZfU)
@[simp] theorem Zvj:Z6q 49=some Z3A:=rfl
def Zd0:Fun:=runF Tryz.prog Z6q ZcZ NN [0,1,4,5,7,8,9,16] Tryz.f72 2
theorem Zvk:CSound Tryz.prog 72 Zd0:=Z08 Zvi Zvh mixed Tryz.func72 (by kernel_rfl) NN
theorem Zvl{β:Type}(K:Kb β)(a0 a1:AV)(h:Hp):(Zd0 [a0,a1] h).bind (λp=>K p.1 p.2)=Z66 Tryz.prog Z6q ZcZ NN K a0 a1 h:=by
 rw[← Zs6];exact Z09 rfl
def Z6r:Fun:=quietT Zd0
theorem Zvm:CSound Tryz.prog 72 Z6r:=Z7w Zvk
theorem ZkR{a0 a1:AV}{h:Hp}{g:List AObj}{v:AV}(hv:Z66 Tryz.prog Z6q ZcZ NN (λv h=>some (v,h)) a0 a1 h=some (v,h++g))(hp:plain v=true):Z6r [a0,a1] h=some (v,h):=ZaH (F:=Zd0) (((Z1Q _).symm.trans (Zvl (λv h=>some (v,h)) a0 a1 h)).trans hv) hp
def Z9y:DTab:=D0
theorem Zvn:DSound Tryz.prog Z9y:=DSound.zero
def Z3B:Tab:=(updF (updF T0 49 Z3A) 72 Z6r)
theorem Zvo:TSound Tryz.prog Z3B:=(TSound.upd (TSound.upd TSound.zero ZfU) Zvm)
@[simp] theorem Zvp:Z3B 49=some Z3A:=rfl
@[simp] theorem ZkS:Z3B 72=some Z6r:=rfl
def Z6s:Fun:=runF Tryz.prog Z3B Z9y NN [0,1,4,5,6,7,12,19,29] Tryz.f48 2
theorem Zvq:CSound Tryz.prog 48 Z6s:=Z08 Zvo Zvn mixed Tryz.func48 (by kernel_rfl) NN
theorem Zvr{β:Type}(K:Kb β)(a0 a1:AV)(h:Hp):(Z6s [a0,a1] h).bind (λp=>K p.1 p.2)=Z42 Tryz.prog Z3B Z9y NN K a0 a1 h:=by
 rw[← Zra];exact Z09 rfl
theorem ZkT(a0 a1:AV)(h:Hp):Z6s [a0,a1] h=Z42 Tryz.prog Z3B Z9y NN (λv h=>some (v,h)) a0 a1 h:=(Z1Q _).symm.trans (Zvr (λv h=>some (v,h)) a0 a1 h)
def Zd1:DTab:=D0
theorem Zvs:DSound Tryz.prog Zd1:=DSound.zero
def Z3C:Tab:=(updF (updF (updF (updF (updF T0 23 Z2S) 25 Z2T) 40 Z34) 48 Z6s) 49 Z3A)
theorem Zvt:TSound Tryz.prog Z3C:=(TSound.upd (TSound.upd (TSound.upd (TSound.upd (TSound.upd TSound.zero ZcV) ZfT) ZcR) Zvq) ZfU)
@[simp] theorem ZfV:Z3C 23=some Z2S:=rfl
@[simp] theorem Zvu:Z3C 25=some Z2T:=rfl
@[simp] theorem ZkU:Z3C 40=some Z34:=rfl
@[simp] theorem Zvv:Z3C 48=some Z6s:=rfl
@[simp] theorem ZDY:Z3C 49=some Z3A:=rfl
def Zd2:Fun:=runF Tryz.prog Z3C Zd1 NN [0,1,2,3,4,5,6,10] Tryz.f24 2
theorem Zvw:CSound Tryz.prog 24 Zd2:=Z08 Zvt Zvs mixed Tryz.func24 (by kernel_rfl) NN
theorem Zvx{β:Type}(K:Kb β)(a0 a1:AV)(h:Hp):(Zd2 [a0,a1] h).bind (λp=>K p.1 p.2)=Z5V Tryz.prog Z3C Zd1 NN K a0 a1 h:=by
 rw[← Zq4];exact Z09 rfl
def Z6t:Fun:=closedX [.a [none,none,some 10],.o] [.l 10,.o] Zd2
theorem Zvy:CSound Tryz.prog 24 Z6t:=Z0b _ _ Zvw
theorem ZfW{a0 a1 v:AV}(ha:plains [a0,a1]=true)(hv:Z5V Tryz.prog Z3C Zd1 NN (λv g=>cvt false g v) (nrm (.a [none,none,some 10]) a0) a1 []=some v)(h:Hp):Z6t [a0,a1] h=some ((nrmR [.l 10,.o] v),h):=by
 have e:(Zd2 (nrms [.a [none,none,some 10],.o] [a0,a1]) []).bind (λ(p:AV × Hp)=>cvt false p.2 p.1)=some v:=(Zvx (λv g=>cvt false g v) (nrm (.a [none,none,some 10]) a0) a1 []).trans hv
 exact (Z0c (shr:=[.l 10,.o]) ha e h).trans (congrArg (λx=>some (x,h)) rfl)
def Z9z:DTab:=D0
theorem Zvz:DSound Tryz.prog Z9z:=DSound.zero
def Z9A:Tab:=T0
theorem ZvA:TSound Tryz.prog Z9A:=TSound.zero
def Z1W:Fun:=runF Tryz.prog Z9A Z9z NN [0,2,4] Tryz.f26 1
theorem ZfX:CSound Tryz.prog 26 Z1W:=Z08 ZvA Zvz mixed Tryz.func26 (by kernel_rfl) NN
theorem ZkV{β:Type}(K:Kb β)(a0:AV)(h:Hp):(Z1W [a0] h).bind (λp=>K p.1 p.2)=Z3W Tryz.prog Z9A Z9z NN K a0 h:=by
 rw[← Zq6];exact Z09 rfl
theorem ZvB(a0:AV)(h:Hp):Z1W [a0] h=Z3W Tryz.prog Z9A Z9z NN (λv h=>some (v,h)) a0 h:=(Z1Q _).symm.trans (ZkV (λv h=>some (v,h)) a0 h)
def Z3D:Fun:=closedX [.l 2] [.l 2] Z1W
theorem Zd3:CSound Tryz.prog 26 Z3D:=Z0b _ _ ZfX
def Z5k:DFun:=closedXD [.l 2] [.l 2] Z1W
theorem ZkW:Ro Z3D Z5k:=Z39 _ _ _
theorem ZvC{a0 v:AV}(ha:plains [a0]=true)(hv:Z3W Tryz.prog Z9A Z9z NN (λv g=>cvt false g v) (nrm (.l 2) a0) []=some v)(h:Hp):Z3D [a0] h=some ((nrmR [.l 2] v),h):=by
 have e:(Z1W (nrms [.l 2] [a0]) []).bind (λ(p:AV × Hp)=>cvt false p.2 p.1)=some v:=(ZkV (λv g=>cvt false g v) (nrm (.l 2) a0) []).trans hv
 exact (Z0c (shr:=[.l 2]) ha e h).trans (congrArg (λx=>some (x,h)) rfl)
def ZkX:DTab:=D0
theorem ZvD:DSound Tryz.prog ZkX:=DSound.zero
def ZkY:Tab:=T0
theorem ZvE:TSound Tryz.prog ZkY:=TSound.zero
def ZkZ:Fun:=runF Tryz.prog ZkY ZkX NN [0,1,2,4,5,6,7,8,9,24] Tryz.f50 3
theorem ZvF:CSound Tryz.prog 50 ZkZ:=Z08 ZvE ZvD mixed Tryz.func50 (by kernel_rfl) NN
def ZfY:Fun:=quietT ZkZ
theorem ZvG:CSound Tryz.prog 50 ZfY:=Z7w ZvF
def Zd4:DTab:=D0
theorem ZvH:DSound Tryz.prog Zd4:=DSound.zero
def Z9B:Tab:=(updF T0 50 ZfY)
theorem ZvI:TSound Tryz.prog Z9B:=(TSound.upd TSound.zero ZvG)
@[simp] theorem ZDZ:Z9B 50=some ZfY:=rfl
def ZfZ:Fun:=runF Tryz.prog Z9B Zd4 NN [0,1,2,3,4] Tryz.f28 2
theorem ZvJ:CSound Tryz.prog 28 ZfZ:=Z08 ZvI ZvH mixed Tryz.func28 (by kernel_rfl) NN
theorem ZvK{β:Type}(K:Kb β)(a0 a1:AV)(h:Hp):(ZfZ [a0,a1] h).bind (λp=>K p.1 p.2)=Zfl Tryz.prog Z9B Zd4 NN K a0 a1 h:=by
 rw[← Zq8];exact Z09 rfl
def Z6u:Fun:=ZfZ
theorem ZvL:CSound Tryz.prog 28 Z6u:=ZvJ
theorem ZvM(a0 a1:AV)(h:Hp):Z6u [a0,a1] h=Zfl Tryz.prog Z9B Zd4 NN (λv h=>some (v,h)) a0 a1 h:=(Z1Q _).symm.trans (ZvK (λv h=>some (v,h)) a0 a1 h)
def Z6v:DTab:=D0
theorem ZvN:DSound Tryz.prog Z6v:=DSound.zero
def Z6w:Tab:=T0
theorem ZvO:TSound Tryz.prog Z6w:=TSound.zero
def Zd5:Fun:=runF Tryz.prog Z6w Z6v NN [0,1,3,4,5,7,8,9,16] Tryz.f73 2
theorem ZvP:CSound Tryz.prog 73 Zd5:=Z08 ZvO ZvN mixed Tryz.func73 (by kernel_rfl) NN
theorem ZvQ{β:Type}(K:Kb β)(a0 a1:AV)(h:Hp):(Zd5 [a0,a1] h).bind (λp=>K p.1 p.2)=Z8P Tryz.prog Z6w Z6v NN K a0 a1 h:=by
 rw[← Zsa];exact Z09 rfl
def Z9C:Fun:=closedX [.l 2,.o] [.o] Zd5
theorem ZvR:CSound Tryz.prog 73 Z9C:=Z0b _ _ ZvP
theorem ZvS{a0 a1 v:AV}(ha:plains [a0,a1]=true)(hv:Z8P Tryz.prog Z6w Z6v NN (λv g=>cvt false g v) (nrm (.l 2) a0) a1 []=some v)(h:Hp):Z9C [a0,a1] h=some (v,h):=by
 have e:(Zd5 (nrms [.l 2,.o] [a0,a1]) []).bind (λ(p:AV × Hp)=>cvt false p.2 p.1)=some v:=(ZvQ (λv g=>cvt false g v) (nrm (.l 2) a0) a1 []).trans hv
 exact (Z0c (shr:=[.o]) ha e h).trans (congrArg (λx=>some (x,h)) (Z0K 1 v))
def Zd6:DTab:=D0
theorem ZvT:DSound Tryz.prog Zd6:=DSound.zero
def Z9D:Tab:=(updF T0 73 Z9C)
theorem ZvU:TSound Tryz.prog Z9D:=(TSound.upd TSound.zero ZvR)
@[simp] theorem ZvV:Z9D 73=some Z9C:=rfl
def Zd7:Fun:=runF Tryz.prog Z9D Zd6 NN [0,1,3,4] Tryz.f51 2
theorem ZvW:CSound Tryz.prog 51 Zd7:=Z08 ZvU ZvT mixed Tryz.func51 (by kernel_rfl) NN
theorem ZvX{β:Type}(K:Kb β)(a0 a1:AV)(h:Hp):(Zd7 [a0,a1] h).bind (λp=>K p.1 p.2)=ZbA Tryz.prog Z9D Zd6 NN K a0 a1 h:=by
 rw[← Zrg];exact Z09 rfl
def Z9E:Fun:=closedX [.l 2,.o] [.o] Zd7
theorem ZvY:CSound Tryz.prog 51 Z9E:=Z0b _ _ ZvW
theorem ZvZ{a0 a1 v:AV}(ha:plains [a0,a1]=true)(hv:ZbA Tryz.prog Z9D Zd6 NN (λv g=>cvt false g v) (nrm (.l 2) a0) a1 []=some v)(h:Hp):Z9E [a0,a1] h=some (v,h):=by
 have e:(Zd7 (nrms [.l 2,.o] [a0,a1]) []).bind (λ(p:AV × Hp)=>cvt false p.2 p.1)=some v:=(ZvX (λv g=>cvt false g v) (nrm (.l 2) a0) a1 []).trans hv
 exact (Z0c (shr:=[.o]) ha e h).trans (congrArg (λx=>some (x,h)) (Z0K 1 v))
def Z6x:DTab:=D0
theorem Zw0:DSound Tryz.prog Z6x:=DSound.zero
def Z6y:Tab:=T0
theorem Zw1:TSound Tryz.prog Z6y:=TSound.zero
def Zd8:Fun:=runF Tryz.prog Z6y Z6x NN [0,1,3,4,5,7,8,9,16] Tryz.f74 2
theorem Zw2:CSound Tryz.prog 74 Zd8:=Z08 Zw1 Zw0 mixed Tryz.func74 (by kernel_rfl) NN
theorem Zw3{β:Type}(K:Kb β)(a0 a1:AV)(h:Hp):(Zd8 [a0,a1] h).bind (λp=>K p.1 p.2)=Z8R Tryz.prog Z6y Z6x NN K a0 a1 h:=by
 rw[← Zse];exact Z09 rfl
def Z9F:Fun:=closedX [.l 7,.o] [.o] Zd8
theorem Zw4:CSound Tryz.prog 74 Z9F:=Z0b _ _ Zw2
theorem Zw5{a0 a1 v:AV}(ha:plains [a0,a1]=true)(hv:Z8R Tryz.prog Z6y Z6x NN (λv g=>cvt false g v) (nrm (.l 7) a0) a1 []=some v)(h:Hp):Z9F [a0,a1] h=some (v,h):=by
 have e:(Zd8 (nrms [.l 7,.o] [a0,a1]) []).bind (λ(p:AV × Hp)=>cvt false p.2 p.1)=some v:=(Zw3 (λv g=>cvt false g v) (nrm (.l 7) a0) a1 []).trans hv
 exact (Z0c (shr:=[.o]) ha e h).trans (congrArg (λx=>some (x,h)) (Z0K 1 v))
def Zd9:DTab:=D0
theorem Zw6:DSound Tryz.prog Zd9:=DSound.zero
def Z9G:Tab:=(updF T0 74 Z9F)
theorem Zw7:TSound Tryz.prog Z9G:=(TSound.upd TSound.zero Zw4)
@[simp] theorem Zw8:Z9G 74=some Z9F:=rfl
def Zda:Fun:=runF Tryz.prog Z9G Zd9 NN [0,1,3,4] Tryz.f52 2
theorem Zw9:CSound Tryz.prog 52 Zda:=Z08 Zw7 Zw6 mixed Tryz.func52 (by kernel_rfl) NN
theorem Zwa{β:Type}(K:Kb β)(a0 a1:AV)(h:Hp):(Zda [a0,a1] h).bind (λp=>K p.1 p.2)=ZbB Tryz.prog Z9G Zd9 NN K a0 a1 h:=by
 rw[← Zrh];exact Z09 rfl
def Z9H:Fun:=closedX [.l 7,.o] [.o] Zda
theorem Zwb:CSound Tryz.prog 52 Z9H:=Z0b _ _ Zw9
theorem Zwc{a0 a1 v:AV}(ha:plains [a0,a1]=true)(hv:ZbB Tryz.prog Z9G Zd9 NN (λv g=>cvt false g v) (nrm (.l 7) a0) a1 []=some v)(h:Hp):Z9H [a0,a1] h=some (v,h):=by
 have e:(Zda (nrms [.l 7,.o] [a0,a1]) []).bind (λ(p:AV × Hp)=>cvt false p.2 p.1)=some v:=(Zwa (λv g=>cvt false g v) (nrm (.l 7) a0) a1 []).trans hv
 exact (Z0c (shr:=[.o]) ha e h).trans (congrArg (λx=>some (x,h)) (Z0K 1 v))
def Z4e:DTab:=D0
theorem Zwd:DSound Tryz.prog Z4e:=DSound.zero
def Z2I:Tab:=(updF T0 45 Z3y)
theorem Zwe:TSound Tryz.prog Z2I:=(TSound.upd TSound.zero ZfO)
@[simp] theorem Zl0:Z2I 45=some Z3y:=rfl
def Zdb:Fun:=runF Tryz.prog Z2I Z4e NN [0,1,2,4,6,7,8,9,10,11,17,31] Tryz.f75 3
theorem Zwf:CSound Tryz.prog 75 Zdb:=Z08 Zwe Zwd mixed Tryz.func75 (by kernel_rfl) NN
theorem Zwg{β:Type}(K:Kb β)(a0 a1 a2:AV)(h:Hp):(Zdb [a0,a1,a2] h).bind (λp=>K p.1 p.2)=Z68 Tryz.prog Z2I Z4e NN K a0 a1 a2 h:=by
 rw[← Zsi];exact Z09 rfl
def Z9I:Fun:=closedX [.l 2,.o,.o] [.o,.o] Zdb
theorem Zwh:CSound Tryz.prog 75 Z9I:=Z0b _ _ Zwf
theorem Zl1{a0 a1 a2 v:AV}(ha:plains [a0,a1,a2]=true)(hv:Z68 Tryz.prog Z2I Z4e NN (λv g=>cvt false g v) (nrm (.l 2) a0) a1 a2 []=some v)(h:Hp):Z9I [a0,a1,a2] h=some (v,h):=by
 have e:(Zdb (nrms [.l 2,.o,.o] [a0,a1,a2]) []).bind (λ(p:AV × Hp)=>cvt false p.2 p.1)=some v:=(Zwg (λv g=>cvt false g v) (nrm (.l 2) a0) a1 a2 []).trans hv
 exact (Z0c (shr:=[.o,.o]) ha e h).trans (congrArg (λx=>some (x,h)) (Z0K 2 v))
def Zl2:Fun:=insF 2 16
theorem Zwi:CSound Tryz.prog 76 Zl2:=Zkv Zky
def Zg0:Fun:=Zl2
theorem Zwj:CSound Tryz.prog 76 Zg0:=Zwi
def Z6z:DTab:=(updD (updD D0 26 (newD Z1W)) 76 (insE 2 16))
theorem Zwk:DSound Tryz.prog Z6z:=(DSound.ins (DSound.new DSound.zero ZfX) Zky)
@[simp] theorem Zl3:Z6z 26=some (newD Z1W):=rfl
@[simp] theorem Zl4:Z6z 76=some (insE 2 16):=rfl
def Z5l:Tab:=(updF (updF (updF T0 26 Z1W) 75 Z9I) 76 Zg0)
theorem Zwl:TSound Tryz.prog Z5l:=(TSound.upd (TSound.upd (TSound.upd TSound.zero ZfX) Zwh) Zwj)
@[simp] theorem ZE0:Z5l 26=some Z1W:=rfl
@[simp] theorem Zl5:Z5l 75=some Z9I:=rfl
@[simp] theorem ZE1:Z5l 76=some Zg0:=rfl
def Zdc:Fun:=runF Tryz.prog Z5l Z6z NN [0,1,2,4,6,7] Tryz.f53 3
theorem Zwm:CSound Tryz.prog 53 Zdc:=Z08 Zwl Zwk mixed Tryz.func53 (by kernel_rfl) NN
theorem Zwn{β:Type}(K:Kb β)(a0 a1 a2:AV)(h:Hp):(Zdc [a0,a1,a2] h).bind (λp=>K p.1 p.2)=Z8t Tryz.prog Z5l Z6z NN K a0 a1 a2 h:=by
 rw[← Zri];exact Z09 rfl
def Z9J:Fun:=closedX [.l 2,.o,.o] [.l 2] Zdc
theorem Zwo:CSound Tryz.prog 53 Z9J:=Z0b _ _ Zwm
theorem Zwp{a0 a1 a2 v:AV}(ha:plains [a0,a1,a2]=true)(hv:Z8t Tryz.prog Z5l Z6z NN (λv g=>cvt false g v) (nrm (.l 2) a0) a1 a2 []=some v)(h:Hp):Z9J [a0,a1,a2] h=some ((nrmR [.l 2] v),h):=by
 have e:(Zdc (nrms [.l 2,.o,.o] [a0,a1,a2]) []).bind (λ(p:AV × Hp)=>cvt false p.2 p.1)=some v:=(Zwn (λv g=>cvt false g v) (nrm (.l 2) a0) a1 a2 []).trans hv
 exact (Z0c (shr:=[.l 2]) ha e h).trans (congrArg (λx=>some (x,h)) rfl)
def Z6A:DTab:=(updD (updD D0 26 Z5k) 27 (newD Z1T))
theorem Zwq:DSound Tryz.prog Z6A:=(DSound.new (DSound.ro DSound.zero ZkW Zd3) Zcz)
@[simp] theorem Zdd:Z6A 26=some Z5k:=rfl
@[simp] theorem Zde:Z6A 27=some (newD Z1T):=rfl
def Z2J:Tab:=(updF (updF (updF (updF (updF (updF (updF (updF (updF T0 22 Z1V) 26 Z3D) 27 Z1T) 45 Z3y) 46 Z33) 47 Z4d) 51 Z9E) 52 Z9H) 53 Z9J)
theorem Zwr:TSound Tryz.prog Z2J:=(TSound.upd (TSound.upd (TSound.upd (TSound.upd (TSound.upd (TSound.upd (TSound.upd (TSound.upd (TSound.upd TSound.zero Z9u) Zd3) Zcz) ZfO) ZfS) ZkP) ZvY) Zwb) Zwo)
@[simp] theorem Z5m:Z2J 22=some Z1V:=rfl
@[simp] theorem ZE2:Z2J 26=some Z3D:=rfl
@[simp] theorem ZE3:Z2J 27=some Z1T:=rfl
@[simp] theorem ZE4:Z2J 45=some Z3y:=rfl
@[simp] theorem Zws:Z2J 46=some Z33:=rfl
@[simp] theorem Z6B:Z2J 47=some Z4d:=rfl
@[simp] theorem Zdf:Z2J 51=some Z9E:=rfl
@[simp] theorem Zg1:Z2J 52=some Z9H:=rfl
@[simp] theorem Zl6:Z2J 53=some Z9J:=rfl
def Zdg:Fun:=runF Tryz.prog Z2J Z6A NN [0,1,2,3,4,5,6,7,8,9,11,12,13,22,32,40,55,76,84] Tryz.f29 2
theorem Zwt:CSound Tryz.prog 29 Zdg:=Z08 Zwr Zwq mixed Tryz.func29 (by kernel_rfl) NN
theorem Zwu{β:Type}(K:Kb β)(a0 a1:AV)(h:Hp):(Zdg [a0,a1] h).bind (λp=>K p.1 p.2)=Z3d Tryz.prog Z2J Z6A NN K a0 a1 h:=by
 rw[← Zq9];exact Z09 rfl
def Z6C:Fun:=closedX [.a [none,some 2,some 7],.o] [.a [none,some 2,some 7],.o,.o,.o] Zdg
theorem Zwv:CSound Tryz.prog 29 Z6C:=Z0b _ _ Zwt
theorem Z5n{a0 a1 v:AV}(ha:plains [a0,a1]=true)(hv:Z3d Tryz.prog Z2J Z6A NN (λv g=>cvt false g v) (nrm (.a [none,some 2,some 7]) a0) a1 []=some v)(h:Hp):Z6C [a0,a1] h=some ((nrmR [.a [none,some 2,some 7],.o,.o,.o] v),h):=by
 have e:(Zdg (nrms [.a [none,some 2,some 7],.o] [a0,a1]) []).bind (λ(p:AV × Hp)=>cvt false p.2 p.1)=some v:=(Zwu (λv g=>cvt false g v) (nrm (.a [none,some 2,some 7]) a0) a1 []).trans hv
 exact (Z0c (shr:=[.a [none,some 2,some 7],.o,.o,.o]) ha e h).trans (congrArg (λx=>some (x,h)) rfl)
def Z9K:DTab:=D0
theorem Zww:DSound Tryz.prog Z9K:=DSound.zero
def Z6D:Tab:=(updF T0 25 Z2T)
theorem Zwx:TSound Tryz.prog Z6D:=(TSound.upd TSound.zero ZfT)
@[simp] theorem Zwy:Z6D 25=some Z2T:=rfl
def Z2K:Fun:=runF Tryz.prog Z6D Z9K NN [0,1,2] Tryz.f42 1
theorem Zg2:CSound Tryz.prog 42 Z2K:=Z08 Zwx Zww mixed Tryz.func42 (by kernel_rfl) NN
theorem Zwz{β:Type}(K:Kb β)(a0:AV)(h:Hp):(Z2K [a0] h).bind (λp=>K p.1 p.2)=Z8i Tryz.prog Z6D Z9K NN K a0 h:=by
 rw[← ZqU];exact Z09 rfl
theorem ZwA(a0:AV)(h:Hp):Z2K [a0] h=Z8i Tryz.prog Z6D Z9K NN (λv h=>some (v,h)) a0 h:=(Z1Q _).symm.trans (Zwz (λv h=>some (v,h)) a0 h)
def Zdh:DTab:=D0
theorem ZwB:DSound Tryz.prog Zdh:=DSound.zero
def Zdi:Tab:=T0
theorem ZwC:TSound Tryz.prog Zdi:=TSound.zero
def Zdj:Fun:=runF Tryz.prog Zdi Zdh NN [0,1,2,4] Tryz.f55 3
theorem ZwD:CSound Tryz.prog 55 Zdj:=Z08 ZwC ZwB mixed Tryz.func55 (by kernel_rfl) NN
theorem ZwE{β:Type}(K:Kb β)(a0 a1 a2:AV)(h:Hp):(Zdj [a0,a1,a2] h).bind (λp=>K p.1 p.2)=ZbE Tryz.prog Zdi Zdh NN K a0 a1 a2 h:=by
 rw[← Zrn];exact Z09 rfl
def Z5o:Fun:=quietT Zdj
theorem Zl7:CSound Tryz.prog 55 Z5o:=Z7w ZwD
theorem ZwF{a0 a1 a2:AV}{h:Hp}{g:List AObj}{v:AV}(hv:ZbE Tryz.prog Zdi Zdh NN (λv h=>some (v,h)) a0 a1 a2 h=some (v,h++g))(hp:plain v=true):Z5o [a0,a1,a2] h=some (v,h):=ZaH (F:=Zdj) (((Z1Q _).symm.trans (ZwE (λv h=>some (v,h)) a0 a1 a2 h)).trans hv) hp
def Zdk:DTab:=D0
theorem ZwG:DSound Tryz.prog Zdk:=DSound.zero
def Z6E:Tab:=(updF T0 55 Z5o)
theorem ZwH:TSound Tryz.prog Z6E:=(TSound.upd TSound.zero Zl7)
@[simp] theorem ZwI:Z6E 55=some Z5o:=rfl
def Zdl:Fun:=runF Tryz.prog Z6E Zdk NN [0,1,4,5,6,7,11,21] Tryz.f54 2
theorem ZwJ:CSound Tryz.prog 54 Zdl:=Z08 ZwH ZwG mixed Tryz.func54 (by kernel_rfl) NN
theorem ZwK{β:Type}(K:Kb β)(a0 a1:AV)(h:Hp):(Zdl [a0,a1] h).bind (λp=>K p.1 p.2)=Z8w Tryz.prog Z6E Zdk NN K a0 a1 h:=by
 rw[← Zrm];exact Z09 rfl
def Z9L:Fun:=quietT Zdl
theorem ZwL:CSound Tryz.prog 54 Z9L:=Z7w ZwJ
theorem ZwM{a0 a1:AV}{h:Hp}{g:List AObj}{v:AV}(hv:Z8w Tryz.prog Z6E Zdk NN (λv h=>some (v,h)) a0 a1 h=some (v,h++g))(hp:plain v=true):Z9L [a0,a1] h=some (v,h):=ZaH (F:=Zdl) (((Z1Q _).symm.trans (ZwK (λv h=>some (v,h)) a0 a1 h)).trans hv) hp
def Zdm:DTab:=D0
theorem ZwN:DSound Tryz.prog Zdm:=DSound.zero
def Zdn:Tab:=T0
theorem ZwO:TSound Tryz.prog Zdn:=TSound.zero
def Z6F:Fun:=runF Tryz.prog Zdn Zdm NN [0,1,2,6,7,16] Tryz.f56 3
theorem ZwP:CSound Tryz.prog 56 Z6F:=Z08 ZwO ZwN mixed Tryz.func56 (by kernel_rfl) NN
theorem ZwQ{β:Type}(K:Kb β)(a0 a1 a2:AV)(h:Hp):(Z6F [a0,a1,a2] h).bind (λp=>K p.1 p.2)=ZbF Tryz.prog Zdn Zdm NN K a0 a1 a2 h:=by
 rw[← Zro];exact Z09 rfl
theorem ZwR(a0 a1 a2:AV)(h:Hp):Z6F [a0,a1,a2] h=ZbF Tryz.prog Zdn Zdm NN (λv h=>some (v,h)) a0 a1 a2 h:=(Z1Q _).symm.trans (ZwQ (λv h=>some (v,h)) a0 a1 a2 h)
def Z9M:DTab:=D0
theorem ZwS:DSound Tryz.prog Z9M:=DSound.zero
def Z3i:Tab:=(updF (updF (updF (updF (updF T0 23 Z2S) 42 Z2K) 54 Z9L) 55 Z5o) 56 Z6F)
theorem ZwT:TSound Tryz.prog Z3i:=(TSound.upd (TSound.upd (TSound.upd (TSound.upd (TSound.upd TSound.zero ZcV) Zg2) ZwL) Zl7) ZwP)
@[simp] theorem Z6G:Z3i 23=some Z2S:=rfl
@[simp] theorem Zg3:Z3i 42=some Z2K:=rfl
@[simp] theorem Zg4:Z3i 54=some Z9L:=rfl
@[simp] theorem ZE5:Z3i 55=some Z5o:=rfl
@[simp] theorem ZwU:Z3i 56=some Z6F:=rfl
def Zdo:Fun:=runF Tryz.prog Z3i Z9M NN [0,1,2,3,4,5,6,7,8,13,20,54] Tryz.f30 2
theorem ZwV:CSound Tryz.prog 30 Zdo:=Z08 ZwT ZwS mixed Tryz.func30 (by kernel_rfl) NN
theorem ZwW{β:Type}(K:Kb β)(a0 a1:AV)(h:Hp):(Zdo [a0,a1] h).bind (λp=>K p.1 p.2)=Z3t Tryz.prog Z3i Z9M NN K a0 a1 h:=by
 rw[← Zqa];exact Z09 rfl
def Z6H:Fun:=closedX [.a [none,none,some 10],.o] [.a [none,none,some 10],.o] Zdo
theorem ZwX:CSound Tryz.prog 30 Z6H:=Z0b _ _ ZwV
theorem Z6I{a0 a1 v:AV}(ha:plains [a0,a1]=true)(hv:Z3t Tryz.prog Z3i Z9M NN (λv g=>cvt false g v) (nrm (.a [none,none,some 10]) a0) a1 []=some v)(h:Hp):Z6H [a0,a1] h=some ((nrmR [.a [none,none,some 10],.o] v),h):=by
 have e:(Zdo (nrms [.a [none,none,some 10],.o] [a0,a1]) []).bind (λ(p:AV × Hp)=>cvt false p.2 p.1)=some v:=(ZwW (λv g=>cvt false g v) (nrm (.a [none,none,some 10]) a0) a1 []).trans hv
 exact (Z0c (shr:=[.a [none,none,some 10],.o]) ha e h).trans (congrArg (λx=>some (x,h)) rfl)
def Z1X:DTab:=(updD (updD D0 26 Z5k) 27 ZcA)
theorem Zl8:DSound Tryz.prog Z1X:=(DSound.ro (DSound.ro DSound.zero ZkW Zd3) ZtS ZkI)
@[simp] theorem ZwY:Z1X 26=some Z5k:=rfl
@[simp] theorem ZwZ:Z1X 27=some ZcA:=rfl
def Z1Y:Tab:=(updF (updF (updF (updF (updF (updF (updF (updF (updF T0 22 Z1V) 23 Z2S) 24 Z6t) 25 Z5j) 26 Z3D) 27 Z5d) 28 Z6u) 29 Z6C) 30 Z6H)
theorem Zl9:TSound Tryz.prog Z1Y:=(TSound.upd (TSound.upd (TSound.upd (TSound.upd (TSound.upd (TSound.upd (TSound.upd (TSound.upd (TSound.upd TSound.zero Z9u) ZcV) Zvy) Zva) Zd3) ZkI) ZvL) Zwv) ZwX)
@[simp] theorem ZE6:Z1Y 22=some Z1V:=rfl
@[simp] theorem ZE7:Z1Y 23=some Z2S:=rfl
@[simp] theorem ZE8:Z1Y 24=some Z6t:=rfl
@[simp] theorem ZE9:Z1Y 25=some Z5j:=rfl
@[simp] theorem ZEa:Z1Y 26=some Z3D:=rfl
@[simp] theorem ZEb:Z1Y 27=some Z5d:=rfl
@[simp] theorem ZEc:Z1Y 28=some Z6u:=rfl
@[simp] theorem Zx0:Z1Y 29=some Z6C:=rfl
@[simp] theorem Zx1:Z1Y 30=some Z6H:=rfl
def Z6J:Fun:=yieldF Tryz.prog Z1Y Z1X NN [0,1,2,3,4,5,7,8,9,10,11,13,14,15,16,17,18,20,21,32,63,64,65,75,84] 4
theorem Zx2:YSound Tryz.prog Z6J:=Zpl Zl9 Zl8 mixed NN
theorem Zx3{L:Nat}{h:Hp}{pend:Option Code}{v7 v8 v9 v10 v13 v14 v64 v65:AV}(hL:h[L]? = some (.loop (Z31) (Z30) (Z2O) (Z2P) (envT [(7,v7),(8,v8),(9,v9),(10,v10),(13,v13),(14,v14)]) .ready pend)):Z6J [ymark,.yl L,v64,v65] h=Zfi Tryz.prog Z1Y Z1X NN L (envT [(7,v7),(8,v8),(9,v9),(10,v10),(13,v13),(14,v14)]) (λh=>some (.s (.bool true),h.set L (.loop (Z31) (Z30) (Z2O) (Z2P) (envT [(7,v7),(8,v8),(9,v9),(10,v10),(13,v13),(14,v14)]) .ready none))) (λh=>some (.s (.bool false),h.set L (.loop (Z31) (Z30) (Z2O) (Z2P) (envT [(7,v7),(8,v8),(9,v9),(10,v10),(13,v13),(14,v14)]) .done (some .ret)))) v7 v8 v9 v10 v13 v14 v64 v65 h:=(Zpj hL (by kernel_rfl)).trans (Zpt Z1Y Z1X NN L v7 v8 v9 v10 v13 v14 v64 v65 h)
def Z0V:Tab:=(updF T0 YB Z6J)
theorem Zx4:TSound Tryz.prog Z0V:=(TSound.updY TSound.zero Zx2)
@[simp] theorem Zla:Z0V YB=some Z6J:=rfl
def Z6K:Fun:=runF Tryz.prog Z0V D0 NN [0,1,2,4,5,6,7,8,9,24] Tryz.f50 3
theorem Zx5:CSound Tryz.prog 50 Z6K:=Z08 Zx4 DSound.zero mixed Tryz.func50 (by kernel_rfl) NN
theorem Zx6{β:Type}(K:Kb β)(a0 a1 a2:AV)(h:Hp):(Z6K [a0,a1,a2] h).bind (λp=>K p.1 p.2)=Z8s Tryz.prog Z0V D0 NN K a0 a1 a2 h:=by
 rw[← Zrf];exact Z09 rfl
theorem Zx7(a0 a1 a2:AV)(h:Hp):Z6K [a0,a1,a2] h=Z8s Tryz.prog Z0V D0 NN (λv h=>some (v,h)) a0 a1 a2 h:=(Z1Q _).symm.trans (Zx6 (λv h=>some (v,h)) a0 a1 a2 h)
def Z12:Tab:=(updF Z1Y 50 Z6K)
theorem Zx8:TSound Tryz.prog Z12:=(TSound.upd Zl9 Zx5)
@[simp] theorem Zg5:Z12 22=some Z1V:=rfl
@[simp] theorem Zg6:Z12 23=some Z2S:=rfl
@[simp] theorem Zx9:Z12 24=some Z6t:=rfl
@[simp] theorem Zxa:Z12 25=some Z5j:=rfl
@[simp] theorem ZEd:Z12 26=some Z3D:=rfl
@[simp] theorem ZEe:Z12 27=some Z5d:=rfl
@[simp] theorem Zxb:Z12 28=some Z6u:=rfl
@[simp] theorem ZEf:Z12 29=some Z6C:=rfl
@[simp] theorem ZEg:Z12 30=some Z6H:=rfl
@[simp] theorem Zlb:Z12 50=some Z6K:=rfl
def Z9N:Fun:=runF Tryz.prog Z12 Z1X NN [0,1,2,3,4,5,7,8,9,10,11,13,14,15,16,17,18,20,21,32,63,64,65,75,84] Tryz.f7 4
theorem Zxc:CSound Tryz.prog 7 Z9N:=Z08 Zx8 Zl8 mixed Tryz.func7 (by kernel_rfl) NN
theorem Zxd{β:Type}(K:Kb β)(a0 a1 a2 a3:AV)(h:Hp):(Z9N [a0,a1,a2,a3] h).bind (λp=>K p.1 p.2)=Z3S Tryz.prog Z12 Z1X NN K a0 a1 a2 a3 h:=by
 rw[← Zpu];exact Z09 rfl
def Z35:Fun:=closedX [.a [none,none,some 10],.a [none,some 2,some 7],.o,.o] [.a [none,none,some 10],.a [none,some 2,some 7],.o] Z9N
theorem Zg7:CSound Tryz.prog 7 Z35:=Z0b _ _ Zxc
def Zg8:DFun:=closedXD [.a [none,none,some 10],.a [none,some 2,some 7],.o,.o] [.a [none,none,some 10],.a [none,some 2,some 7],.o] Z9N
theorem Zxe:Ro Z35 Zg8:=Z39 _ _ _
theorem Zxf{a0 a1 a2 a3 v:AV}(ha:plains [a0,a1,a2,a3]=true)(hv:Z3S Tryz.prog Z12 Z1X NN (λv g=>cvt false g v) (nrm (.a [none,none,some 10]) a0) (nrm (.a [none,some 2,some 7]) a1) a2 a3 []=some v)(h:Hp):Z35 [a0,a1,a2,a3] h=some ((nrmR [.a [none,none,some 10],.a [none,some 2,some 7],.o] v),h):=by
 have e:(Z9N (nrms [.a [none,none,some 10],.a [none,some 2,some 7],.o,.o] [a0,a1,a2,a3]) []).bind (λ(p:AV × Hp)=>cvt false p.2 p.1)=some v:=(Zxd (λv g=>cvt false g v) (nrm (.a [none,none,some 10]) a0) (nrm (.a [none,some 2,some 7]) a1) a2 a3 []).trans hv
 exact (Z0c (shr:=[.a [none,none,some 10],.a [none,some 2,some 7],.o]) ha e h).trans (congrArg (λx=>some (x,h)) rfl)
def Zdp:DTab:=D0
theorem Zxg:DSound Tryz.prog Zdp:=DSound.zero
def Z9O:Tab:=(updF T0 40 Z34)
theorem Zxh:TSound Tryz.prog Z9O:=(TSound.upd TSound.zero ZcR)
@[simp] theorem Zlc:Z9O 40=some Z34:=rfl
def Zdq:Fun:=runF Tryz.prog Z9O Zdp NN [0,2,3,6] Tryz.f16 1
theorem Zxi:CSound Tryz.prog 16 Zdq:=Z08 Zxh Zxg mixed Tryz.func16 (by kernel_rfl) NN
theorem Zxj{β:Type}(K:Kb β)(a0:AV)(h:Hp):(Zdq [a0] h).bind (λp=>K p.1 p.2)=Z7I Tryz.prog Z9O Zdp NN K a0 h:=by
 rw[← ZpN];exact Z09 rfl
def Z6L:Fun:=closedX [.o] [.a [none,none,some 10],.o] Zdq
theorem Zxk:CSound Tryz.prog 16 Z6L:=Z0b _ _ Zxi
theorem Zld{a0 v:AV}(ha:plains [a0]=true)(hv:Z7I Tryz.prog Z9O Zdp NN (λv g=>cvt false g v) a0 []=some v)(h:Hp):Z6L [a0] h=some ((nrmR [.a [none,none,some 10],.o] v),h):=by
 have e:(Zdq (nrms [.o] [a0]) []).bind (λ(p:AV × Hp)=>cvt false p.2 p.1)=some v:=(Zxj (λv g=>cvt false g v) a0 []).trans hv
 exact (Z0c (shr:=[.a [none,none,some 10],.o]) ha e h).trans (congrArg (λx=>some (x,h)) rfl)
def Z9P:DTab:=(updD D0 42 (newA Z2K))
theorem Zxl:DSound Tryz.prog Z9P:=(DSound.newA DSound.zero Zg2)
@[simp] theorem Zxm:Z9P 42=some (newA Z2K):=rfl
def Z4f:Tab:=(updF (updF (updF (updF T0 23 Z2S) 40 Z34) 41 Z3h) 42 Z2K)
theorem Zxn:TSound Tryz.prog Z4f:=(TSound.upd (TSound.upd (TSound.upd (TSound.upd TSound.zero ZcV) ZcR) ZfR) Zg2)
@[simp] theorem Zxo:Z4f 23=some Z2S:=rfl
@[simp] theorem Zxp:Z4f 40=some Z34:=rfl
@[simp] theorem Zxq:Z4f 41=some Z3h:=rfl
@[simp] theorem ZEh:Z4f 42=some Z2K:=rfl
def Z9Q:Fun:=runF Tryz.prog Z4f Z9P NN [0,1,2,3,5,6,7,8,9,10,11,12,16,20,25,29,34,39] Tryz.f17 3
theorem Zxr:CSound Tryz.prog 17 Z9Q:=Z08 Zxn Zxl mixed Tryz.func17 (by kernel_rfl) NN
theorem Zxs{β:Type}(K:Kb β)(a0 a1 a2:AV)(h:Hp):(Z9Q [a0,a1,a2] h).bind (λp=>K p.1 p.2)=ZaX Tryz.prog Z4f Z9P NN K a0 a1 a2 h:=by
 rw[← ZpO];exact Z09 rfl
def Z3E:Fun:=closedX [.a [none,none,some 10],.o,.o] [.a [none,none,some 10],.o,.o] Z9Q
theorem Zle:CSound Tryz.prog 17 Z3E:=Z0b _ _ Zxr
def Zdr:DFun:=closedXD [.a [none,none,some 10],.o,.o] [.a [none,none,some 10],.o,.o] Z9Q
theorem Zxt:Ro Z3E Zdr:=Z39 _ _ _
theorem Zxu{a0 a1 a2 v:AV}(ha:plains [a0,a1,a2]=true)(hv:ZaX Tryz.prog Z4f Z9P NN (λv g=>cvt false g v) (nrm (.a [none,none,some 10]) a0) a1 a2 []=some v)(h:Hp):Z3E [a0,a1,a2] h=some ((nrmR [.a [none,none,some 10],.o,.o] v),h):=by
 have e:(Z9Q (nrms [.a [none,none,some 10],.o,.o] [a0,a1,a2]) []).bind (λ(p:AV × Hp)=>cvt false p.2 p.1)=some v:=(Zxs (λv g=>cvt false g v) (nrm (.a [none,none,some 10]) a0) a1 a2 []).trans hv
 exact (Z0c (shr:=[.a [none,none,some 10],.o,.o]) ha e h).trans (congrArg (λx=>some (x,h)) rfl)
def Zds:DTab:=D0
theorem Zxv:DSound Tryz.prog Zds:=DSound.zero
def Zdt:Tab:=T0
theorem Zxw:TSound Tryz.prog Zdt:=TSound.zero
def Z9R:Fun:=runF Tryz.prog Zdt Zds NN [0,2] Tryz.f18 1
theorem Zxx:CSound Tryz.prog 18 Z9R:=Z08 Zxw Zxv mixed Tryz.func18 (by kernel_rfl) NN
theorem Zxy{β:Type}(K:Kb β)(a0:AV)(h:Hp):(Z9R [a0] h).bind (λp=>K p.1 p.2)=ZaY Tryz.prog Zdt Zds NN K a0 h:=by
 rw[← ZpP];exact Z09 rfl
def Z6M:Fun:=closedX [.o] [.o] Z9R
theorem Zlf:CSound Tryz.prog 18 Z6M:=Z0b _ _ Zxx
def Z9S:DFun:=closedXD [.o] [.o] Z9R
theorem Zxz:Ro Z6M Z9S:=Z39 _ _ _
theorem ZxA{a0 v:AV}(ha:plains [a0]=true)(hv:ZaY Tryz.prog Zdt Zds NN (λv g=>cvt false g v) a0 []=some v)(h:Hp):Z6M [a0] h=some (v,h):=by
 have e:(Z9R (nrms [.o] [a0]) []).bind (λ(p:AV × Hp)=>cvt false p.2 p.1)=some v:=(Zxy (λv g=>cvt false g v) a0 []).trans hv
 exact (Z0c (shr:=[.o]) ha e h).trans (congrArg (λx=>some (x,h)) (Z0K 1 v))
def Zdu:DTab:=D0
theorem ZxB:DSound Tryz.prog Zdu:=DSound.zero
def Z9T:Tab:=(updF T0 43 Z5a)
theorem ZxC:TSound Tryz.prog Z9T:=(TSound.upd TSound.zero ZkE)
@[simp] theorem Zlg:Z9T 43=some Z5a:=rfl
def Zdv:Fun:=runF Tryz.prog Z9T Zdu NN [0,2,3,6] Tryz.f19 1
theorem ZxD:CSound Tryz.prog 19 Zdv:=Z08 ZxC ZxB mixed Tryz.func19 (by kernel_rfl) NN
theorem ZxE{β:Type}(K:Kb β)(a0:AV)(h:Hp):(Zdv [a0] h).bind (λp=>K p.1 p.2)=Z7J Tryz.prog Z9T Zdu NN K a0 h:=by
 rw[← ZpQ];exact Z09 rfl
def Z6N:Fun:=closedX [.o] [.a [none,some 2,some 7],.o] Zdv
theorem ZxF:CSound Tryz.prog 19 Z6N:=Z0b _ _ ZxD
theorem Zlh{a0 v:AV}(ha:plains [a0]=true)(hv:Z7J Tryz.prog Z9T Zdu NN (λv g=>cvt false g v) a0 []=some v)(h:Hp):Z6N [a0] h=some ((nrmR [.a [none,some 2,some 7],.o] v),h):=by
 have e:(Zdv (nrms [.o] [a0]) []).bind (λ(p:AV × Hp)=>cvt false p.2 p.1)=some v:=(ZxE (λv g=>cvt false g v) a0 []).trans hv
 exact (Z0c (shr:=[.a [none,some 2,some 7],.o]) ha e h).trans (congrArg (λx=>some (x,h)) rfl)
def Zdw:DTab:=D0
theorem ZxG:DSound Tryz.prog Zdw:=DSound.zero
def Z6O:Tab:=(updF (updF T0 22 Z1V) 44 Z5b)
theorem ZxH:TSound Tryz.prog Z6O:=(TSound.upd (TSound.upd TSound.zero Z9u) ZkF)
@[simp] theorem ZxI:Z6O 22=some Z1V:=rfl
@[simp] theorem ZxJ:Z6O 44=some Z5b:=rfl
def Zdx:Fun:=runF Tryz.prog Z6O Zdw NN [0,1,2,3,4] Tryz.f20 2
theorem ZxK:CSound Tryz.prog 20 Zdx:=Z08 ZxH ZxG mixed Tryz.func20 (by kernel_rfl) NN
theorem ZxL{β:Type}(K:Kb β)(a0 a1:AV)(h:Hp):(Zdx [a0,a1] h).bind (λp=>K p.1 p.2)=ZaZ Tryz.prog Z6O Zdw NN K a0 a1 h:=by
 rw[← ZpR];exact Z09 rfl
def Z9U:Fun:=closedX [.a [none,some 2,some 7],.a [none,some 2,some 7]] [.o] Zdx
theorem ZxM:CSound Tryz.prog 20 Z9U:=Z0b _ _ ZxK
theorem ZxN{a0 a1 v:AV}(ha:plains [a0,a1]=true)(hv:ZaZ Tryz.prog Z6O Zdw NN (λv g=>cvt false g v) (nrm (.a [none,some 2,some 7]) a0) (nrm (.a [none,some 2,some 7]) a1) []=some v)(h:Hp):Z9U [a0,a1] h=some (v,h):=by
 have e:(Zdx (nrms [.a [none,some 2,some 7],.a [none,some 2,some 7]] [a0,a1]) []).bind (λ(p:AV × Hp)=>cvt false p.2 p.1)=some v:=(ZxL (λv g=>cvt false g v) (nrm (.a [none,some 2,some 7]) a0) (nrm (.a [none,some 2,some 7]) a1) []).trans hv
 exact (Z0c (shr:=[.o]) ha e h).trans (congrArg (λx=>some (x,h)) (Z0K 1 v))
def Z6P:DTab:=D0
theorem ZxO:DSound Tryz.prog Z6P:=DSound.zero
def Z6Q:Tab:=T0
theorem ZxP:TSound Tryz.prog Z6Q:=TSound.zero
def Zdy:Fun:=runF Tryz.prog Z6Q Z6P NN [0,1,4,5,10,12,13,14,24] Tryz.f21 2
theorem ZxQ:CSound Tryz.prog 21 Zdy:=Z08 ZxP ZxO mixed Tryz.func21 (by kernel_rfl) NN
theorem ZxR{β:Type}(K:Kb β)(a0 a1:AV)(h:Hp):(Zdy [a0,a1] h).bind (λp=>K p.1 p.2)=Z5U Tryz.prog Z6Q Z6P NN K a0 a1 h:=by
 rw[← ZpV];exact Z09 rfl
def Z6R:Fun:=closedX [.l 2,.l 2] [.o] Zdy
theorem ZxS:CSound Tryz.prog 21 Z6R:=Z0b _ _ ZxQ
theorem ZxT{a0 a1 v:AV}(ha:plains [a0,a1]=true)(hv:Z5U Tryz.prog Z6Q Z6P NN (λv g=>cvt false g v) (nrm (.l 2) a0) (nrm (.l 2) a1) []=some v)(h:Hp):Z6R [a0,a1] h=some (v,h):=by
 have e:(Zdy (nrms [.l 2,.l 2] [a0,a1]) []).bind (λ(p:AV × Hp)=>cvt false p.2 p.1)=some v:=(ZxR (λv g=>cvt false g v) (nrm (.l 2) a0) (nrm (.l 2) a1) []).trans hv
 exact (Z0c (shr:=[.o]) ha e h).trans (congrArg (λx=>some (x,h)) (Z0K 1 v))
def Z6S:DTab:=(updD (updD D0 17 Zdr) 18 Z9S)
theorem ZxU:DSound Tryz.prog Z6S:=(DSound.ro (DSound.ro DSound.zero Zxt Zle) Zxz Zlf)
@[simp] theorem ZxV:Z6S 17=some Zdr:=rfl
@[simp] theorem ZxW:Z6S 18=some Z9S:=rfl
def Z2U:Tab:=(updF (updF (updF (updF (updF (updF (updF (updF T0 7 Z35) 16 Z6L) 17 Z3E) 18 Z6M) 19 Z6N) 20 Z9U) 21 Z6R) 22 Z1V)
theorem ZxX:TSound Tryz.prog Z2U:=(TSound.upd (TSound.upd (TSound.upd (TSound.upd (TSound.upd (TSound.upd (TSound.upd (TSound.upd TSound.zero Zg7) Zxk) Zle) Zlf) ZxF) ZxM) ZxS) Z9u)
@[simp] theorem ZxY:Z2U 7=some Z35:=rfl
@[simp] theorem ZxZ:Z2U 16=some Z6L:=rfl
@[simp] theorem ZEi:Z2U 17=some Z3E:=rfl
@[simp] theorem ZEj:Z2U 18=some Z6M:=rfl
@[simp] theorem Zy0:Z2U 19=some Z6N:=rfl
@[simp] theorem Zy1:Z2U 20=some Z9U:=rfl
@[simp] theorem Zy2:Z2U 21=some Z6R:=rfl
@[simp] theorem Zy3:Z2U 22=some Z1V:=rfl
def Zdz:Fun:=runF Tryz.prog Z2U Z6S NN [0,1,2,4,6,7,8,9,10,11,12,13,14,44] Tryz.f4 0
theorem Zy4:CSound Tryz.prog 4 Zdz:=Z08 ZxX ZxU mixed Tryz.func4 (by kernel_rfl) NN
theorem Zy5{β:Type}(K:Kb β)(h:Hp):(Zdz [] h).bind (λp=>K p.1 p.2)=ZaM Tryz.prog Z2U Z6S NN K  h:=by
 rw[← Zpq];exact Z09 rfl
def Z9V:Fun:=closedX [] [.o] Zdz
theorem Zy6:CSound Tryz.prog 4 Z9V:=Z0b _ _ Zy4
theorem Zy7{v:AV}(ha:plains []=true)(hv:ZaM Tryz.prog Z2U Z6S NN (λv g=>cvt false g v)  []=some v)(h:Hp):Z9V [] h=some (v,h):=by
 have e:(Zdz (nrms [] []) []).bind (λ(p:AV × Hp)=>cvt false p.2 p.1)=some v:=(Zy5 (λv g=>cvt false g v)  []).trans hv
 exact (Z0c (shr:=[.o]) ha e h).trans (congrArg (λx=>some (x,h)) (Z0K 1 v))
def ZdA:DTab:=D0
theorem Zy8:DSound Tryz.prog ZdA:=DSound.zero
def ZdB:Tab:=T0
theorem Zy9:TSound Tryz.prog ZdB:=TSound.zero
def ZdC:Fun:=runF Tryz.prog ZdB ZdA NN [0,1,2] Tryz.f5 1
theorem Zya:CSound Tryz.prog 5 ZdC:=Z08 Zy9 Zy8 mixed Tryz.func5 (by kernel_rfl) NN
theorem Zyb{β:Type}(K:Kb β)(a0:AV)(h:Hp):(ZdC [a0] h).bind (λp=>K p.1 p.2)=ZaN Tryz.prog ZdB ZdA NN K a0 h:=by
 rw[← Zpr];exact Z09 rfl
def Z9W:Fun:=closedX [.a [none,none,some 10]] [.o] ZdC
theorem Zyc:CSound Tryz.prog 5 Z9W:=Z0b _ _ Zya
theorem Zyd{a0 v:AV}(ha:plains [a0]=true)(hv:ZaN Tryz.prog ZdB ZdA NN (λv g=>cvt false g v) (nrm (.a [none,none,some 10]) a0) []=some v)(h:Hp):Z9W [a0] h=some (v,h):=by
 have e:(ZdC (nrms [.a [none,none,some 10]] [a0]) []).bind (λ(p:AV × Hp)=>cvt false p.2 p.1)=some v:=(Zyb (λv g=>cvt false g v) (nrm (.a [none,none,some 10]) a0) []).trans hv
 exact (Z0c (shr:=[.o]) ha e h).trans (congrArg (λx=>some (x,h)) (Z0K 1 v))
def ZdD:DTab:=D0
theorem Zye:DSound Tryz.prog ZdD:=DSound.zero
def ZdE:Tab:=T0
theorem Zyf:TSound Tryz.prog ZdE:=TSound.zero
def ZdF:Fun:=runF Tryz.prog ZdE ZdD NN [0,1,2] Tryz.f6 1
theorem Zyg:CSound Tryz.prog 6 ZdF:=Z08 Zyf Zye mixed Tryz.func6 (by kernel_rfl) NN
theorem Zyh{β:Type}(K:Kb β)(a0:AV)(h:Hp):(ZdF [a0] h).bind (λp=>K p.1 p.2)=ZaO Tryz.prog ZdE ZdD NN K a0 h:=by
 rw[← Zps];exact Z09 rfl
def Z9X:Fun:=closedX [.a [none,some 2,some 7]] [.o] ZdF
theorem Zyi:CSound Tryz.prog 6 Z9X:=Z0b _ _ Zyg
theorem Zyj{a0 v:AV}(ha:plains [a0]=true)(hv:ZaO Tryz.prog ZdE ZdD NN (λv g=>cvt false g v) (nrm (.a [none,some 2,some 7]) a0) []=some v)(h:Hp):Z9X [a0] h=some (v,h):=by
 have e:(ZdF (nrms [.a [none,some 2,some 7]] [a0]) []).bind (λ(p:AV × Hp)=>cvt false p.2 p.1)=some v:=(Zyh (λv g=>cvt false g v) (nrm (.a [none,some 2,some 7]) a0) []).trans hv
 exact (Z0c (shr:=[.o]) ha e h).trans (congrArg (λx=>some (x,h)) (Z0K 1 v))
def ZdG:DTab:=D0
theorem Zyk:DSound Tryz.prog ZdG:=DSound.zero
def ZdH:Tab:=T0
theorem Zyl:TSound Tryz.prog ZdH:=TSound.zero
def Z9Y:Fun:=runF Tryz.prog ZdH ZdG NN [0,1,2] Tryz.f8 1
theorem Zym:CSound Tryz.prog 8 Z9Y:=Z08 Zyl Zyk mixed Tryz.func8 (by kernel_rfl) NN
theorem Zyn{β:Type}(K:Kb β)(a0:AV)(h:Hp):(Z9Y [a0] h).bind (λp=>K p.1 p.2)=ZaQ Tryz.prog ZdH ZdG NN K a0 h:=by
 rw[← Zpv];exact Z09 rfl
def Z4g:Fun:=closedX [.a [none,none,some 10]] [.a [none,none,some 10]] Z9Y
theorem ZdI:CSound Tryz.prog 8 Z4g:=Z0b _ _ Zym
def Z9Z:DFun:=closedXD [.a [none,none,some 10]] [.a [none,none,some 10]] Z9Y
theorem Zli:Ro Z4g Z9Z:=Z39 _ _ _
theorem Zyo{a0 v:AV}(ha:plains [a0]=true)(hv:ZaQ Tryz.prog ZdH ZdG NN (λv g=>cvt false g v) (nrm (.a [none,none,some 10]) a0) []=some v)(h:Hp):Z4g [a0] h=some ((nrmR [.a [none,none,some 10]] v),h):=by
 have e:(Z9Y (nrms [.a [none,none,some 10]] [a0]) []).bind (λ(p:AV × Hp)=>cvt false p.2 p.1)=some v:=(Zyn (λv g=>cvt false g v) (nrm (.a [none,none,some 10]) a0) []).trans hv
 exact (Z0c (shr:=[.a [none,none,some 10]]) ha e h).trans (congrArg (λx=>some (x,h)) rfl)
def Z6T:DTab:=D0
theorem Zyp:DSound Tryz.prog Z6T:=DSound.zero
def Z6U:Tab:=T0
theorem Zyq:TSound Tryz.prog Z6U:=TSound.zero
def Z3j:Fun:=runF Tryz.prog Z6U Z6T NN [0,1,2] Tryz.f9 1
theorem Zlj:CSound Tryz.prog 9 Z3j:=Z08 Zyq Zyp mixed Tryz.func9 (by kernel_rfl) NN
theorem Zg9{β:Type}(K:Kb β)(a0:AV)(h:Hp):(Z3j [a0] h).bind (λp=>K p.1 p.2)=Z5R Tryz.prog Z6U Z6T NN K a0 h:=by
 rw[← Zpw];exact Z09 rfl
theorem Zyr(a0:AV)(h:Hp):Z3j [a0] h=Z5R Tryz.prog Z6U Z6T NN (λv h=>some (v,h)) a0 h:=(Z1Q _).symm.trans (Zg9 (λv h=>some (v,h)) a0 h)
def Z4h:Fun:=closedX [.a [none,some 2,some 7]] [.a [none,some 2,some 7]] Z3j
theorem ZdJ:CSound Tryz.prog 9 Z4h:=Z0b _ _ Zlj
def Za0:DFun:=closedXD [.a [none,some 2,some 7]] [.a [none,some 2,some 7]] Z3j
theorem Zlk:Ro Z4h Za0:=Z39 _ _ _
theorem Zys{a0 v:AV}(ha:plains [a0]=true)(hv:Z5R Tryz.prog Z6U Z6T NN (λv g=>cvt false g v) (nrm (.a [none,some 2,some 7]) a0) []=some v)(h:Hp):Z4h [a0] h=some ((nrmR [.a [none,some 2,some 7]] v),h):=by
 have e:(Z3j (nrms [.a [none,some 2,some 7]] [a0]) []).bind (λ(p:AV × Hp)=>cvt false p.2 p.1)=some v:=(Zg9 (λv g=>cvt false g v) (nrm (.a [none,some 2,some 7]) a0) []).trans hv
 exact (Z0c (shr:=[.a [none,some 2,some 7]]) ha e h).trans (congrArg (λx=>some (x,h)) rfl)
def ZdK:DTab:=D0
theorem Zyt:DSound Tryz.prog ZdK:=DSound.zero
def ZdL:Tab:=T0
theorem Zyu:TSound Tryz.prog ZdL:=TSound.zero
def ZdM:Fun:=runF Tryz.prog ZdL ZdK NN [0,2] Tryz.f57 1
theorem Zyv:CSound Tryz.prog 57 ZdM:=Z08 Zyu Zyt mixed Tryz.func57 (by kernel_rfl) NN
theorem Zyw{β:Type}(K:Kb β)(a0:AV)(h:Hp):(ZdM [a0] h).bind (λp=>K p.1 p.2)=ZbG Tryz.prog ZdL ZdK NN K a0 h:=by
 rw[← Zrp];exact Z09 rfl
def Z2L:Fun:=closedX [.o] [.o] ZdM
theorem Za1:CSound Tryz.prog 57 Z2L:=Z0b _ _ Zyv
theorem Zyx{a0 v:AV}(ha:plains [a0]=true)(hv:ZbG Tryz.prog ZdL ZdK NN (λv g=>cvt false g v) a0 []=some v)(h:Hp):Z2L [a0] h=some (v,h):=by
 have e:(ZdM (nrms [.o] [a0]) []).bind (λ(p:AV × Hp)=>cvt false p.2 p.1)=some v:=(Zyw (λv g=>cvt false g v) a0 []).trans hv
 exact (Z0c (shr:=[.o]) ha e h).trans (congrArg (λx=>some (x,h)) (Z0K 1 v))
def ZdN:DTab:=D0
theorem Zyy:DSound Tryz.prog ZdN:=DSound.zero
def Za2:Tab:=(updF T0 57 Z2L)
theorem Zyz:TSound Tryz.prog Za2:=(TSound.upd TSound.zero Za1)
@[simp] theorem Zll:Za2 57=some Z2L:=rfl
def ZdO:Fun:=runF Tryz.prog Za2 ZdN NN [0,1,2,3,31,46,53,85,110,124] Tryz.f77 1
theorem ZyA:CSound Tryz.prog 77 ZdO:=Z08 Zyz Zyy mixed Tryz.func77 (by kernel_rfl) NN
theorem ZyB{β:Type}(K:Kb β)(a0:AV)(h:Hp):(ZdO [a0] h).bind (λp=>K p.1 p.2)=Zcc Tryz.prog Za2 ZdN NN K a0 h:=by
 rw[← Zsj];exact Z09 rfl
def Z4i:Fun:=closedX [.o] [.o] ZdO
theorem Zlm:CSound Tryz.prog 77 Z4i:=Z0b _ _ ZyA
theorem ZyC{a0 v:AV}(ha:plains [a0]=true)(hv:Zcc Tryz.prog Za2 ZdN NN (λv g=>cvt false g v) a0 []=some v)(h:Hp):Z4i [a0] h=some (v,h):=by
 have e:(ZdO (nrms [.o] [a0]) []).bind (λ(p:AV × Hp)=>cvt false p.2 p.1)=some v:=(ZyB (λv g=>cvt false g v) a0 []).trans hv
 exact (Z0c (shr:=[.o]) ha e h).trans (congrArg (λx=>some (x,h)) (Z0K 1 v))
def ZdP:DTab:=D0
theorem ZyD:DSound Tryz.prog ZdP:=DSound.zero
def Z6V:Tab:=(updF (updF T0 57 Z2L) 77 Z4i)
theorem ZyE:TSound Tryz.prog Z6V:=(TSound.upd (TSound.upd TSound.zero Za1) Zlm)
@[simp] theorem ZyF:Z6V 57=some Z2L:=rfl
@[simp] theorem ZyG:Z6V 77=some Z4i:=rfl
def ZdQ:Fun:=runF Tryz.prog Z6V ZdP NN [0,1,2,22,27,31] Tryz.f58 1
theorem ZyH:CSound Tryz.prog 58 ZdQ:=Z08 ZyE ZyD mixed Tryz.func58 (by kernel_rfl) NN
theorem ZyI{β:Type}(K:Kb β)(a0:AV)(h:Hp):(ZdQ [a0] h).bind (λp=>K p.1 p.2)=ZbH Tryz.prog Z6V ZdP NN K a0 h:=by
 rw[← Zrq];exact Z09 rfl
def Z5p:Fun:=closedX [.o] [.o] ZdQ
theorem Zln:CSound Tryz.prog 58 Z5p:=Z0b _ _ ZyH
theorem ZyJ{a0 v:AV}(ha:plains [a0]=true)(hv:ZbH Tryz.prog Z6V ZdP NN (λv g=>cvt false g v) a0 []=some v)(h:Hp):Z5p [a0] h=some (v,h):=by
 have e:(ZdQ (nrms [.o] [a0]) []).bind (λ(p:AV × Hp)=>cvt false p.2 p.1)=some v:=(ZyI (λv g=>cvt false g v) a0 []).trans hv
 exact (Z0c (shr:=[.o]) ha e h).trans (congrArg (λx=>some (x,h)) (Z0K 1 v))
def Z5q:DTab:=D0
theorem ZyK:DSound Tryz.prog Z5q:=DSound.zero
def Z3F:Tab:=(updF (updF T0 57 Z2L) 58 Z5p)
theorem ZyL:TSound Tryz.prog Z3F:=(TSound.upd (TSound.upd TSound.zero Za1) Zln)
@[simp] theorem ZyM:Z3F 57=some Z2L:=rfl
@[simp] theorem ZyN:Z3F 58=some Z5p:=rfl
def ZdR:Fun:=runF Tryz.prog Z3F Z5q NN [0,1,2,3,4,5,19,23,28,39,45,66] Tryz.f31 1
theorem ZyO:CSound Tryz.prog 31 ZdR:=Z08 ZyL ZyK mixed Tryz.func31 (by kernel_rfl) NN
theorem ZyP{β:Type}(K:Kb β)(a0:AV)(h:Hp):(ZdR [a0] h).bind (λp=>K p.1 p.2)=Z7U Tryz.prog Z3F Z5q NN K a0 h:=by
 rw[← Zqe];exact Z09 rfl
def Z3G:Fun:=closedX [.a [none,none,some 10]] [.o] ZdR
theorem Zga:CSound Tryz.prog 31 Z3G:=Z0b _ _ ZyO
theorem ZyQ{a0 v:AV}(ha:plains [a0]=true)(hv:Z7U Tryz.prog Z3F Z5q NN (λv g=>cvt false g v) (nrm (.a [none,none,some 10]) a0) []=some v)(h:Hp):Z3G [a0] h=some (v,h):=by
 have e:(ZdR (nrms [.a [none,none,some 10]] [a0]) []).bind (λ(p:AV × Hp)=>cvt false p.2 p.1)=some v:=(ZyP (λv g=>cvt false g v) (nrm (.a [none,none,some 10]) a0) []).trans hv
 exact (Z0c (shr:=[.o]) ha e h).trans (congrArg (λx=>some (x,h)) (Z0K 1 v))
def Z6W:DTab:=D0
theorem ZyR:DSound Tryz.prog Z6W:=DSound.zero
def Z6X:Tab:=T0
theorem ZyS:TSound Tryz.prog Z6X:=TSound.zero
def ZdS:Fun:=runF Tryz.prog Z6X Z6W NN [0,1,4,5,10,14,25] Tryz.f39 2
theorem ZyT:CSound Tryz.prog 39 ZdS:=Z08 ZyS ZyR mixed Tryz.func39 (by kernel_rfl) NN
theorem ZyU{β:Type}(K:Kb β)(a0 a1:AV)(h:Hp):(ZdS [a0,a1] h).bind (λp=>K p.1 p.2)=Z5Z Tryz.prog Z6X Z6W NN K a0 a1 h:=by
 rw[← ZqR];exact Z09 rfl
def Z4j:Fun:=closedX [.l 7,.l 7] [.o] ZdS
theorem Zlo:CSound Tryz.prog 39 Z4j:=Z0b _ _ ZyT
theorem ZyV{a0 a1 v:AV}(ha:plains [a0,a1]=true)(hv:Z5Z Tryz.prog Z6X Z6W NN (λv g=>cvt false g v) (nrm (.l 7) a0) (nrm (.l 7) a1) []=some v)(h:Hp):Z4j [a0,a1] h=some (v,h):=by
 have e:(ZdS (nrms [.l 7,.l 7] [a0,a1]) []).bind (λ(p:AV × Hp)=>cvt false p.2 p.1)=some v:=(ZyU (λv g=>cvt false g v) (nrm (.l 7) a0) (nrm (.l 7) a1) []).trans hv
 exact (Z0c (shr:=[.o]) ha e h).trans (congrArg (λx=>some (x,h)) (Z0K 1 v))
def ZdT:DTab:=D0
theorem ZyW:DSound Tryz.prog ZdT:=DSound.zero
def ZdU:Tab:=T0
theorem ZyX:TSound Tryz.prog ZdU:=TSound.zero
def ZdV:Fun:=runF Tryz.prog ZdU ZdT NN [0,1,2,3,4] Tryz.f59 2
theorem ZyY:CSound Tryz.prog 59 ZdV:=Z08 ZyX ZyW mixed Tryz.func59 (by kernel_rfl) NN
theorem ZyZ{β:Type}(K:Kb β)(a0 a1:AV)(h:Hp):(ZdV [a0,a1] h).bind (λp=>K p.1 p.2)=ZbI Tryz.prog ZdU ZdT NN K a0 a1 h:=by
 rw[← Zrr];exact Z09 rfl
def Z5r:Fun:=closedX [.o,.o] [.o] ZdV
theorem Zlp:CSound Tryz.prog 59 Z5r:=Z0b _ _ ZyY
theorem Zz0{a0 a1 v:AV}(ha:plains [a0,a1]=true)(hv:ZbI Tryz.prog ZdU ZdT NN (λv g=>cvt false g v) a0 a1 []=some v)(h:Hp):Z5r [a0,a1] h=some (v,h):=by
 have e:(ZdV (nrms [.o,.o] [a0,a1]) []).bind (λ(p:AV × Hp)=>cvt false p.2 p.1)=some v:=(ZyZ (λv g=>cvt false g v) a0 a1 []).trans hv
 exact (Z0c (shr:=[.o]) ha e h).trans (congrArg (λx=>some (x,h)) (Z0K 1 v))
def Z3H:DTab:=D0
theorem Zz1:DSound Tryz.prog Z3H:=DSound.zero
def Z3k:Tab:=(updF T0 77 Z4i)
theorem Zz2:TSound Tryz.prog Z3k:=(TSound.upd TSound.zero Zlm)
@[simp] theorem Zlq:Z3k 77=some Z4i:=rfl
def Za3:Fun:=runF Tryz.prog Z3k Z3H NN [0,2,3,6,10,18] Tryz.f62 1
theorem Zz3:CSound Tryz.prog 62 Za3:=Z08 Zz2 Zz1 mixed Tryz.func62 (by kernel_rfl) NN
theorem Zlr{β:Type}(K:Kb β)(a0:AV)(h:Hp):(Za3 [a0] h).bind (λp=>K p.1 p.2)=Z3u Tryz.prog Z3k Z3H NN K a0 h:=by
 rw[← ZrG];exact Z09 rfl
def Z3I:Fun:=closedX [.l 7] [.o] Za3
theorem Zls:CSound Tryz.prog 62 Z3I:=Z0b _ _ Zz3
theorem Zz4{a0 v:AV}(ha:plains [a0]=true)(hv:Z3u Tryz.prog Z3k Z3H NN (λv g=>cvt false g v) (nrm (.l 7) a0) []=some v)(h:Hp):Z3I [a0] h=some (v,h):=by
 have e:(Za3 (nrms [.l 7] [a0]) []).bind (λ(p:AV × Hp)=>cvt false p.2 p.1)=some v:=(Zlr (λv g=>cvt false g v) (nrm (.l 7) a0) []).trans hv
 exact (Z0c (shr:=[.o]) ha e h).trans (congrArg (λx=>some (x,h)) (Z0K 1 v))
theorem Zz5{a0 x0:AV}{h:Hp}{v:AV}(ha:cvts false h [x0]=some [a0])(hv:∀st,Z3u Tryz.prog Z3k Z3H NN (λv g=>cvt st g v) (nrm (.l 7) a0) []=some v):Z3I [x0] h=some (v,h):=by
 have e:∀st,(Za3 (nrms [.l 7] [a0]) []).bind (λ(p:AV × Hp)=>cvt st p.2 p.1)=some v:=λst=>(Zlr (λv g=>cvt st g v) (nrm (.l 7) a0) []).trans (hv st)
 exact (ZaI (shr:=[.o]) ha e).trans (congrArg (λx=>some (x,h)) (Z0K 1 v))
def Z6Y:DTab:=D0
theorem Zz6:DSound Tryz.prog Z6Y:=DSound.zero
def Z6Z:Tab:=T0
theorem Zz7:TSound Tryz.prog Z6Z:=TSound.zero
def ZdW:Fun:=runF Tryz.prog Z6Z Z6Y NN [0,1,2,3,4,5,6,7,41,52] Tryz.f87 2
theorem Zz8:CSound Tryz.prog 87 ZdW:=Z08 Zz7 Zz6 mixed Tryz.func87 (by kernel_rfl) NN
theorem Zz9{β:Type}(K:Kb β)(a0 a1:AV)(h:Hp):(ZdW [a0,a1] h).bind (λp=>K p.1 p.2)=Z9c Tryz.prog Z6Z Z6Y NN K a0 a1 h:=by
 rw[← ZsJ];exact Z09 rfl
def Z5s:Fun:=closedX [.o,.o] [.o] ZdW
theorem Zza:CSound Tryz.prog 87 Z5s:=Z0b _ _ Zz8
theorem Zzb{a0 a1 v:AV}(ha:plains [a0,a1]=true)(hv:Z9c Tryz.prog Z6Z Z6Y NN (λv g=>cvt false g v) a0 a1 []=some v)(h:Hp):Z5s [a0,a1] h=some (v,h):=by
 have e:(ZdW (nrms [.o,.o] [a0,a1]) []).bind (λ(p:AV × Hp)=>cvt false p.2 p.1)=some v:=(Zz9 (λv g=>cvt false g v) a0 a1 []).trans hv
 exact (Z0c (shr:=[.o]) ha e h).trans (congrArg (λx=>some (x,h)) (Z0K 1 v))
def Z3J:DTab:=D0
theorem Zzc:DSound Tryz.prog Z3J:=DSound.zero
def Z3l:Tab:=(updF T0 87 Z5s)
theorem Zzd:TSound Tryz.prog Z3l:=(TSound.upd TSound.zero Zza)
@[simp] theorem ZEk:Z3l 87=some Z5s:=rfl
def Za4:Fun:=runF Tryz.prog Z3l Z3J NN [0,2,3,4,5,6,7,12,18,33,56] Tryz.f78 1
theorem Zze:CSound Tryz.prog 78 Za4:=Z08 Zzd Zzc mixed Tryz.func78 (by kernel_rfl) NN
theorem Zlt{β:Type}(K:Kb β)(a0:AV)(h:Hp):(Za4 [a0] h).bind (λp=>K p.1 p.2)=Z57 Tryz.prog Z3l Z3J NN K a0 h:=by
 rw[← Zsu];exact Z09 rfl
def Z3K:Fun:=closedX [.l 7] [.l 7] Za4
theorem Zlu:CSound Tryz.prog 78 Z3K:=Z0b _ _ Zze
theorem Zzf{a0 v:AV}(ha:plains [a0]=true)(hv:Z57 Tryz.prog Z3l Z3J NN (λv g=>cvt false g v) (nrm (.l 7) a0) []=some v)(h:Hp):Z3K [a0] h=some ((nrmR [.l 7] v),h):=by
 have e:(Za4 (nrms [.l 7] [a0]) []).bind (λ(p:AV × Hp)=>cvt false p.2 p.1)=some v:=(Zlt (λv g=>cvt false g v) (nrm (.l 7) a0) []).trans hv
 exact (Z0c (shr:=[.l 7]) ha e h).trans (congrArg (λx=>some (x,h)) rfl)
theorem Zzg{a0 x0:AV}{h:Hp}{v:AV}(ha:cvts false h [x0]=some [a0])(hv:∀st,Z57 Tryz.prog Z3l Z3J NN (λv g=>cvt st g v) (nrm (.l 7) a0) []=some v):Z3K [x0] h=some ((nrmR [.l 7] v),h):=by
 have e:∀st,(Za4 (nrms [.l 7] [a0]) []).bind (λ(p:AV × Hp)=>cvt st p.2 p.1)=some v:=λst=>(Zlt (λv g=>cvt st g v) (nrm (.l 7) a0) []).trans (hv st)
 exact (ZaI (shr:=[.l 7]) ha e).trans (congrArg (λx=>some (x,h)) rfl)
def Za5:DTab:=D0
theorem Zzh:DSound Tryz.prog Za5:=DSound.zero
def Z5t:Tab:=(updF (updF T0 62 Z3I) 78 Z3K)
theorem Zzi:TSound Tryz.prog Z5t:=(TSound.upd (TSound.upd TSound.zero Zls) Zlu)
@[simp] theorem Zlv:Z5t 62=some Z3I:=rfl
@[simp] theorem Zlw:Z5t 78=some Z3K:=rfl
def Z3L:Fun:=runF Tryz.prog Z5t Za5 NN [0,2,3,4,8] Tryz.f60 1
theorem Zlx:CSound Tryz.prog 60 Z3L:=Z08 Zzi Zzh mixed Tryz.func60 (by kernel_rfl) NN
theorem Zly{β:Type}(K:Kb β)(a0:AV)(h:Hp):(Z3L [a0] h).bind (λp=>K p.1 p.2)=Z61 Tryz.prog Z5t Za5 NN K a0 h:=by
 rw[← Zrs];exact Z09 rfl
theorem Zzj(a0:AV)(h:Hp):Z3L [a0] h=Z61 Tryz.prog Z5t Za5 NN (λv h=>some (v,h)) a0 h:=(Z1Q _).symm.trans (Zly (λv h=>some (v,h)) a0 h)
def Za6:Fun:=closedX [.l 7] [.l 7,.o] Z3L
theorem Zzk:CSound Tryz.prog 60 Za6:=Z0b _ _ Zlx
theorem Zzl{a0 v:AV}(ha:plains [a0]=true)(hv:Z61 Tryz.prog Z5t Za5 NN (λv g=>cvt false g v) (nrm (.l 7) a0) []=some v)(h:Hp):Za6 [a0] h=some ((nrmR [.l 7,.o] v),h):=by
 have e:(Z3L (nrms [.l 7] [a0]) []).bind (λ(p:AV × Hp)=>cvt false p.2 p.1)=some v:=(Zly (λv g=>cvt false g v) (nrm (.l 7) a0) []).trans hv
 exact (Z0c (shr:=[.l 7,.o]) ha e h).trans (congrArg (λx=>some (x,h)) rfl)
def Z5u:DTab:=D0
theorem Zzm:DSound Tryz.prog Z5u:=DSound.zero
def Z2V:Tab:=(updF (updF (updF (updF T0 39 Z4j) 57 Z2L) 59 Z5r) 60 Za6)
theorem Zzn:TSound Tryz.prog Z2V:=(TSound.upd (TSound.upd (TSound.upd (TSound.upd TSound.zero Zlo) Za1) Zlp) Zzk)
@[simp] theorem Zzo:Z2V 39=some Z4j:=rfl
@[simp] theorem Zlz:Z2V 57=some Z2L:=rfl
@[simp] theorem Zzp:Z2V 59=some Z5r:=rfl
@[simp] theorem Zzq:Z2V 60=some Za6:=rfl
def ZdX:Fun:=runF Tryz.prog Z2V Z5u NN [0,1,2,3,4,5,6,10,20,25,46,51,64,79,86] Tryz.f32 1
theorem Zzr:CSound Tryz.prog 32 ZdX:=Z08 Zzn Zzm mixed Tryz.func32 (by kernel_rfl) NN
theorem Zzs{β:Type}(K:Kb β)(a0:AV)(h:Hp):(ZdX [a0] h).bind (λp=>K p.1 p.2)=Z7X Tryz.prog Z2V Z5u NN K a0 h:=by
 rw[← Zqi];exact Z09 rfl
def Z3M:Fun:=closedX [.a [none,some 2,some 7]] [.o] ZdX
theorem Zgb:CSound Tryz.prog 32 Z3M:=Z0b _ _ Zzr
theorem Zzt{a0 v:AV}(ha:plains [a0]=true)(hv:Z7X Tryz.prog Z2V Z5u NN (λv g=>cvt false g v) (nrm (.a [none,some 2,some 7]) a0) []=some v)(h:Hp):Z3M [a0] h=some (v,h):=by
 have e:(ZdX (nrms [.a [none,some 2,some 7]] [a0]) []).bind (λ(p:AV × Hp)=>cvt false p.2 p.1)=some v:=(Zzs (λv g=>cvt false g v) (nrm (.a [none,some 2,some 7]) a0) []).trans hv
 exact (Z0c (shr:=[.o]) ha e h).trans (congrArg (λx=>some (x,h)) (Z0K 1 v))
def Z5v:DTab:=D0
theorem Zzu:DSound Tryz.prog Z5v:=DSound.zero
def Z3N:Tab:=(updF (updF T0 31 Z3G) 57 Z2L)
theorem Zzv:TSound Tryz.prog Z3N:=(TSound.upd (TSound.upd TSound.zero Zga) Za1)
@[simp] theorem Zgc:Z3N 31=some Z3G:=rfl
@[simp] theorem ZlA:Z3N 57=some Z2L:=rfl
def ZdY:Fun:=runF Tryz.prog Z3N Z5v NN [0,1,2,4,5,6,7,10,13,19,29] Tryz.f33 2
theorem Zzw:CSound Tryz.prog 33 ZdY:=Z08 Zzv Zzu mixed Tryz.func33 (by kernel_rfl) NN
theorem Zzx{β:Type}(K:Kb β)(a0 a1:AV)(h:Hp):(ZdY [a0,a1] h).bind (λp=>K p.1 p.2)=Z4F Tryz.prog Z3N Z5v NN K a0 a1 h:=by
 rw[← Zqn];exact Z09 rfl
def Za7:Fun:=closedX [.a [none,none,some 10],.o] [.l 10,.o] ZdY
theorem Zzy:CSound Tryz.prog 33 Za7:=Z0b _ _ Zzw
theorem Zgd{a0 a1 v:AV}(ha:plains [a0,a1]=true)(hv:Z4F Tryz.prog Z3N Z5v NN (λv g=>cvt false g v) (nrm (.a [none,none,some 10]) a0) a1 []=some v)(h:Hp):Za7 [a0,a1] h=some ((nrmR [.l 10,.o] v),h):=by
 have e:(ZdY (nrms [.a [none,none,some 10],.o] [a0,a1]) []).bind (λ(p:AV × Hp)=>cvt false p.2 p.1)=some v:=(Zzx (λv g=>cvt false g v) (nrm (.a [none,none,some 10]) a0) a1 []).trans hv
 exact (Z0c (shr:=[.l 10,.o]) ha e h).trans (congrArg (λx=>some (x,h)) rfl)
def Z0Y:DTab:=D0
theorem Zzz:DSound Tryz.prog Z0Y:=DSound.zero
def Z0T:Tab:=(updF (updF (updF (updF (updF T0 9 Z3j) 32 Z3M) 58 Z5p) 59 Z5r) 60 Z3L)
theorem ZzA:TSound Tryz.prog Z0T:=(TSound.upd (TSound.upd (TSound.upd (TSound.upd (TSound.upd TSound.zero Zlj) Zgb) Zln) Zlp) Zlx)
@[simp] theorem ZzB:Z0T 9=some Z3j:=rfl
@[simp] theorem ZdZ:Z0T 32=some Z3M:=rfl
@[simp] theorem Zge:Z0T 58=some Z5p:=rfl
@[simp] theorem ZzC:Z0T 59=some Z5r:=rfl
@[simp] theorem ZzD:Z0T 60=some Z3L:=rfl
def Za8:Fun:=runF Tryz.prog Z0T Z0Y NN [0,1,2,3,4,5,6,7,8,9,10,11,12,13,14,17,23,31,45,54,61,88,92,129] Tryz.f34 2
theorem ZzE:CSound Tryz.prog 34 Za8:=Z08 ZzA Zzz mixed Tryz.func34 (by kernel_rfl) NN
theorem ZzF{β:Type}(K:Kb β)(a0 a1:AV)(h:Hp):(Za8 [a0,a1] h).bind (λp=>K p.1 p.2)=Z3X Tryz.prog Z0T Z0Y NN K a0 a1 h:=by
 rw[← Zqy];exact Z09 rfl
def Z4k:Fun:=closedX [.a [none,some 2,some 7],.o] [.a [none,some 2,some 7],.o,.o,.o] Za8
theorem ZlB:CSound Tryz.prog 34 Z4k:=Z0b _ _ ZzE
def Zgf:DFun:=closedXD [.a [none,some 2,some 7],.o] [.a [none,some 2,some 7],.o,.o,.o] Za8
theorem ZzG:Ro Z4k Zgf:=Z39 _ _ _
theorem Ze0{a0 a1 v:AV}(ha:plains [a0,a1]=true)(hv:Z3X Tryz.prog Z0T Z0Y NN (λv g=>cvt false g v) (nrm (.a [none,some 2,some 7]) a0) a1 []=some v)(h:Hp):Z4k [a0,a1] h=some ((nrmR [.a [none,some 2,some 7],.o,.o,.o] v),h):=by
 have e:(Za8 (nrms [.a [none,some 2,some 7],.o] [a0,a1]) []).bind (λ(p:AV × Hp)=>cvt false p.2 p.1)=some v:=(ZzF (λv g=>cvt false g v) (nrm (.a [none,some 2,some 7]) a0) a1 []).trans hv
 exact (Z0c (shr:=[.a [none,some 2,some 7],.o,.o,.o]) ha e h).trans (congrArg (λx=>some (x,h)) rfl)
def Z5w:DTab:=D0
theorem ZzH:DSound Tryz.prog Z5w:=DSound.zero
def Z4l:Tab:=(updF T0 31 Z3G)
theorem ZzI:TSound Tryz.prog Z4l:=(TSound.upd TSound.zero Zga)
@[simp] theorem Ze1:Z4l 31=some Z3G:=rfl
def Ze2:Fun:=runF Tryz.prog Z4l Z5w NN [0,1,2,3,4,5,6,7,10,16,27,38,49] Tryz.f35 2
theorem ZzJ:CSound Tryz.prog 35 Ze2:=Z08 ZzI ZzH mixed Tryz.func35 (by kernel_rfl) NN
theorem ZzK{β:Type}(K:Kb β)(a0 a1:AV)(h:Hp):(Ze2 [a0,a1] h).bind (λp=>K p.1 p.2)=Z3Y Tryz.prog Z4l Z5w NN K a0 a1 h:=by
 rw[← ZqD];exact Z09 rfl
def Za9:Fun:=closedX [.a [none,none,some 10],.o] [.a [none,none,some 10],.o] Ze2
theorem ZzL:CSound Tryz.prog 35 Za9:=Z0b _ _ ZzJ
theorem Ze3{a0 a1 v:AV}(ha:plains [a0,a1]=true)(hv:Z3Y Tryz.prog Z4l Z5w NN (λv g=>cvt false g v) (nrm (.a [none,none,some 10]) a0) a1 []=some v)(h:Hp):Za9 [a0,a1] h=some ((nrmR [.a [none,none,some 10],.o] v),h):=by
 have e:(Ze2 (nrms [.a [none,none,some 10],.o] [a0,a1]) []).bind (λ(p:AV × Hp)=>cvt false p.2 p.1)=some v:=(ZzK (λv g=>cvt false g v) (nrm (.a [none,none,some 10]) a0) a1 []).trans hv
 exact (Z0c (shr:=[.a [none,none,some 10],.o]) ha e h).trans (congrArg (λx=>some (x,h)) rfl)
def Z13:DTab:=(updD (updD (updD D0 8 Z9Z) 9 Za0) 34 Zgf)
theorem ZzM:DSound Tryz.prog Z13:=(DSound.ro (DSound.ro (DSound.ro DSound.zero Zli ZdI) Zlk ZdJ) ZzG ZlB)
@[simp] theorem ZEl:Z13 8=some Z9Z:=rfl
@[simp] theorem ZEm:Z13 9=some Za0:=rfl
@[simp] theorem ZEn:Z13 34=some Zgf:=rfl
def Z0Z:Tab:=(updF (updF (updF (updF (updF (updF (updF T0 8 Z4g) 9 Z4h) 31 Z3G) 32 Z3M) 33 Za7) 34 Z4k) 35 Za9)
theorem ZzN:TSound Tryz.prog Z0Z:=(TSound.upd (TSound.upd (TSound.upd (TSound.upd (TSound.upd (TSound.upd (TSound.upd TSound.zero ZdI) ZdJ) Zga) Zgb) Zzy) ZlB) ZzL)
@[simp] theorem ZEo:Z0Z 8=some Z4g:=rfl
@[simp] theorem ZEp:Z0Z 9=some Z4h:=rfl
@[simp] theorem Zgg:Z0Z 31=some Z3G:=rfl
@[simp] theorem Zgh:Z0Z 32=some Z3M:=rfl
@[simp] theorem ZzO:Z0Z 33=some Za7:=rfl
@[simp] theorem ZEq:Z0Z 34=some Z4k:=rfl
@[simp] theorem ZzP:Z0Z 35=some Za9:=rfl
def Ze4:Fun:=runF Tryz.prog Z0Z Z13 NN [0,1,2,3,4,5,8,9,10,11,12,13,15,16,17,19,27,34,51,58,71,80] Tryz.f10 4
theorem ZzQ:CSound Tryz.prog 10 Ze4:=Z08 ZzN ZzM mixed Tryz.func10 (by kernel_rfl) NN
theorem ZzR{β:Type}(K:Kb β)(a0 a1 a2 a3:AV)(h:Hp):(Ze4 [a0,a1,a2,a3] h).bind (λp=>K p.1 p.2)=Z3T Tryz.prog Z0Z Z13 NN K a0 a1 a2 a3 h:=by
 rw[← ZpB];exact Z09 rfl
def Z70:Fun:=closedX [.a [none,none,some 10],.a [none,some 2,some 7],.o,.o] [.a [none,none,some 10],.a [none,some 2,some 7],.o] Ze4
theorem ZzS:CSound Tryz.prog 10 Z70:=Z0b _ _ ZzQ
theorem ZzT{a0 a1 a2 a3 v:AV}(ha:plains [a0,a1,a2,a3]=true)(hv:Z3T Tryz.prog Z0Z Z13 NN (λv g=>cvt false g v) (nrm (.a [none,none,some 10]) a0) (nrm (.a [none,some 2,some 7]) a1) a2 a3 []=some v)(h:Hp):Z70 [a0,a1,a2,a3] h=some ((nrmR [.a [none,none,some 10],.a [none,some 2,some 7],.o] v),h):=by
 have e:(Ze4 (nrms [.a [none,none,some 10],.a [none,some 2,some 7],.o,.o] [a0,a1,a2,a3]) []).bind (λ(p:AV × Hp)=>cvt false p.2 p.1)=some v:=(ZzR (λv g=>cvt false g v) (nrm (.a [none,none,some 10]) a0) (nrm (.a [none,some 2,some 7]) a1) a2 a3 []).trans hv
 exact (Z0c (shr:=[.a [none,none,some 10],.a [none,some 2,some 7],.o]) ha e h).trans (congrArg (λx=>some (x,h)) rfl)
def Z5x:DTab:=D0
theorem ZzU:DSound Tryz.prog Z5x:=DSound.zero
def Z5y:Tab:=T0
theorem ZzV:TSound Tryz.prog Z5y:=TSound.zero
def Zaa:Fun:=closedXK [.l 7,.o] [.o] (λ{β} (K:Kb β) (args:List AV) (h:Hp)=>if args.length=2 then runK Tryz.prog Z5y Z5x NN [0,1,4,5,6,7,8,10,11,13,17,18,19,20,26,33,34,46,55,60,63,74,78,80,84,89,92] Tryz.f61 K args h else none)
theorem ZzW:CSound Tryz.prog 61 Zaa:=ZsT _ _ (ZsS ZzV ZzU mixed Tryz.func61 (by kernel_rfl) NN)
theorem ZzX{a0 a1 v:AV}(ha:plains [a0,a1]=true)(hv:ZbN Tryz.prog Z5y Z5x NN (λv g=>cvt false g v) (nrm (.l 7) a0) a1 []=some v)(h:Hp):Zaa [a0,a1] h=some (v,h):=
 (ZsU (RK:=(λ{β} (K:Kb β) (args:List AV) (h:Hp)=>if args.length=2 then runK Tryz.prog Z5y Z5x NN [0,1,4,5,6,7,8,10,11,13,17,18,19,20,26,33,34,46,55,60,63,74,78,80,84,89,92] Tryz.f61 K args h else none)) ha ((if_pos rfl).trans ((ZrC Z5y Z5x NN (λv g=>cvt false g v) (nrm (.l 7) a0) a1 []).trans hv)) h).trans (congrArg (λx=>some (x,h)) (Z0K 1 v))
def Z3O:DTab:=D0
theorem ZzY:DSound Tryz.prog Z3O:=DSound.zero
def Z36:Tab:=(updF (updF T0 46 Z33) 61 Zaa)
theorem ZzZ:TSound Tryz.prog Z36:=(TSound.upd (TSound.upd TSound.zero ZfS) ZzW)
@[simp] theorem ZlC:Z36 46=some Z33:=rfl
@[simp] theorem ZA0:Z36 61=some Zaa:=rfl
def Ze5:Fun:=runF Tryz.prog Z36 Z3O NN [0,2,3,4,5,6,7,8,15,17,18,19,20,36] Tryz.f36 1
theorem ZA1:CSound Tryz.prog 36 Ze5:=Z08 ZzZ ZzY mixed Tryz.func36 (by kernel_rfl) NN
theorem ZA2{β:Type}(K:Kb β)(a0:AV)(h:Hp):(Ze5 [a0] h).bind (λp=>K p.1 p.2)=Z4M Tryz.prog Z36 Z3O NN K a0 h:=by
 rw[← ZqI];exact Z09 rfl
def Zab:Fun:=closedX [.l 7] [.l 7,.o] Ze5
theorem ZA3:CSound Tryz.prog 36 Zab:=Z0b _ _ ZA1
theorem ZA4{a0 v:AV}(ha:plains [a0]=true)(hv:Z4M Tryz.prog Z36 Z3O NN (λv g=>cvt false g v) (nrm (.l 7) a0) []=some v)(h:Hp):Zab [a0] h=some ((nrmR [.l 7,.o] v),h):=by
 have e:(Ze5 (nrms [.l 7] [a0]) []).bind (λ(p:AV × Hp)=>cvt false p.2 p.1)=some v:=(ZA2 (λv g=>cvt false g v) (nrm (.l 7) a0) []).trans hv
 exact (Z0c (shr:=[.l 7,.o]) ha e h).trans (congrArg (λx=>some (x,h)) rfl)
def Ze6:DTab:=D0
theorem ZA5:DSound Tryz.prog Ze6:=DSound.zero
def Z71:Tab:=(updF (updF T0 22 Z1V) 36 Zab)
theorem ZA6:TSound Tryz.prog Z71:=(TSound.upd (TSound.upd TSound.zero Z9u) ZA3)
@[simp] theorem ZlD:Z71 22=some Z1V:=rfl
@[simp] theorem ZA7:Z71 36=some Zab:=rfl
def Ze7:Fun:=runF Tryz.prog Z71 Ze6 NN [0,1,2,3,6] Tryz.f11 1
theorem ZA8:CSound Tryz.prog 11 Ze7:=Z08 ZA6 ZA5 mixed Tryz.func11 (by kernel_rfl) NN
theorem ZA9{β:Type}(K:Kb β)(a0:AV)(h:Hp):(Ze7 [a0] h).bind (λp=>K p.1 p.2)=Z7B Tryz.prog Z71 Ze6 NN K a0 h:=by
 rw[← ZpC];exact Z09 rfl
def Zac:Fun:=closedX [.a [none,some 2,some 7]] [.l 7,.o] Ze7
theorem ZAa:CSound Tryz.prog 11 Zac:=Z0b _ _ ZA8
theorem ZlE{a0 v:AV}(ha:plains [a0]=true)(hv:Z7B Tryz.prog Z71 Ze6 NN (λv g=>cvt false g v) (nrm (.a [none,some 2,some 7]) a0) []=some v)(h:Hp):Zac [a0] h=some ((nrmR [.l 7,.o] v),h):=by
 have e:(Ze7 (nrms [.a [none,some 2,some 7]] [a0]) []).bind (λ(p:AV × Hp)=>cvt false p.2 p.1)=some v:=(ZA9 (λv g=>cvt false g v) (nrm (.a [none,some 2,some 7]) a0) []).trans hv
 exact (Z0c (shr:=[.l 7,.o]) ha e h).trans (congrArg (λx=>some (x,h)) rfl)
def Ze8:DTab:=D0
theorem ZAb:DSound Tryz.prog Ze8:=DSound.zero
def Ze9:Tab:=T0
theorem ZAc:TSound Tryz.prog Ze9:=TSound.zero
def Zea:Fun:=runF Tryz.prog Ze9 Ze8 NN [0,2] Tryz.f79 1
theorem ZAd:CSound Tryz.prog 79 Zea:=Z08 ZAc ZAb mixed Tryz.func79 (by kernel_rfl) NN
theorem ZAe{β:Type}(K:Kb β)(a0:AV)(h:Hp):(Zea [a0] h).bind (λp=>K p.1 p.2)=Z93 Tryz.prog Ze9 Ze8 NN K a0 h:=by
 rw[← Zsv];exact Z09 rfl
def Zad:Fun:=closedX [.l 7] [.l 7] Zea
theorem ZAf:CSound Tryz.prog 79 Zad:=Z0b _ _ ZAd
theorem ZAg{a0 v:AV}(ha:plains [a0]=true)(hv:Z93 Tryz.prog Ze9 Ze8 NN (λv g=>cvt false g v) (nrm (.l 7) a0) []=some v)(h:Hp):Zad [a0] h=some ((nrmR [.l 7] v),h):=by
 have e:(Zea (nrms [.l 7] [a0]) []).bind (λ(p:AV × Hp)=>cvt false p.2 p.1)=some v:=(ZAe (λv g=>cvt false g v) (nrm (.l 7) a0) []).trans hv
 exact (Z0c (shr:=[.l 7]) ha e h).trans (congrArg (λx=>some (x,h)) rfl)
def Z5z:DTab:=D0
theorem ZAh:DSound Tryz.prog Z5z:=DSound.zero
def Z5A:Tab:=T0
theorem ZAi:TSound Tryz.prog Z5A:=TSound.zero
def Zeb:Fun:=runF Tryz.prog Z5A Z5z NN [0,1,4,5,6,7,8,9,10,11,12,18,28,30,33,46,88,95,100,111,116,118,121] Tryz.f80 2
theorem ZAj:CSound Tryz.prog 80 Zeb:=Z08 ZAi ZAh mixed Tryz.func80 (by kernel_rfl) NN
theorem ZAk{β:Type}(K:Kb β)(a0 a1:AV)(h:Hp):(Zeb [a0,a1] h).bind (λp=>K p.1 p.2)=Z98 Tryz.prog Z5A Z5z NN K a0 a1 h:=by
 rw[← ZsA];exact Z09 rfl
def Zae:Fun:=closedX [.l 7,.o] [.o] Zeb
theorem ZAl:CSound Tryz.prog 80 Zae:=Z0b _ _ ZAj
theorem ZAm{a0 a1 v:AV}(ha:plains [a0,a1]=true)(hv:Z98 Tryz.prog Z5A Z5z NN (λv g=>cvt false g v) (nrm (.l 7) a0) a1 []=some v)(h:Hp):Zae [a0,a1] h=some (v,h):=by
 have e:(Zeb (nrms [.l 7,.o] [a0,a1]) []).bind (λ(p:AV × Hp)=>cvt false p.2 p.1)=some v:=(ZAk (λv g=>cvt false g v) (nrm (.l 7) a0) a1 []).trans hv
 exact (Z0c (shr:=[.o]) ha e h).trans (congrArg (λx=>some (x,h)) (Z0K 1 v))
def Z4m:DTab:=D0
theorem ZAn:DSound Tryz.prog Z4m:=DSound.zero
def Z37:Tab:=(updF (updF (updF T0 78 Z3K) 79 Zad) 80 Zae)
theorem ZAo:TSound Tryz.prog Z37:=(TSound.upd (TSound.upd (TSound.upd TSound.zero Zlu) ZAf) ZAl)
@[simp] theorem ZAp:Z37 78=some Z3K:=rfl
@[simp] theorem ZAq:Z37 79=some Zad:=rfl
@[simp] theorem ZAr:Z37 80=some Zae:=rfl
def Zec:Fun:=runF Tryz.prog Z37 Z4m NN [0,2,3,4,5,13,27] Tryz.f63 1
theorem ZAs:CSound Tryz.prog 63 Zec:=Z08 ZAo ZAn mixed Tryz.func63 (by kernel_rfl) NN
theorem ZAt{β:Type}(K:Kb β)(a0:AV)(h:Hp):(Zec [a0] h).bind (λp=>K p.1 p.2)=Z8F Tryz.prog Z37 Z4m NN K a0 h:=by
 rw[← ZrL];exact Z09 rfl
def Zaf:Fun:=closedX [.l 7] [.l 7] Zec
theorem ZAu:CSound Tryz.prog 63 Zaf:=Z0b _ _ ZAs
theorem ZAv{a0 v:AV}(ha:plains [a0]=true)(hv:Z8F Tryz.prog Z37 Z4m NN (λv g=>cvt false g v) (nrm (.l 7) a0) []=some v)(h:Hp):Zaf [a0] h=some ((nrmR [.l 7] v),h):=by
 have e:(Zec (nrms [.l 7] [a0]) []).bind (λ(p:AV × Hp)=>cvt false p.2 p.1)=some v:=(ZAt (λv g=>cvt false g v) (nrm (.l 7) a0) []).trans hv
 exact (Z0c (shr:=[.l 7]) ha e h).trans (congrArg (λx=>some (x,h)) rfl)
def Zed:DTab:=D0
theorem ZAw:DSound Tryz.prog Zed:=DSound.zero
def Z72:Tab:=(updF (updF T0 62 Z3I) 63 Zaf)
theorem ZAx:TSound Tryz.prog Z72:=(TSound.upd (TSound.upd TSound.zero Zls) ZAu)
@[simp] theorem ZlF:Z72 62=some Z3I:=rfl
@[simp] theorem ZAy:Z72 63=some Zaf:=rfl
def Zee:Fun:=runF Tryz.prog Z72 Zed NN [0,2,3,4,8] Tryz.f37 1
theorem ZAz:CSound Tryz.prog 37 Zee:=Z08 ZAx ZAw mixed Tryz.func37 (by kernel_rfl) NN
theorem ZAA{β:Type}(K:Kb β)(a0:AV)(h:Hp):(Zee [a0] h).bind (λp=>K p.1 p.2)=Z8c Tryz.prog Z72 Zed NN K a0 h:=by
 rw[← ZqJ];exact Z09 rfl
def Zag:Fun:=closedX [.l 7] [.l 7,.o] Zee
theorem ZAB:CSound Tryz.prog 37 Zag:=Z0b _ _ ZAz
theorem ZlG{a0 v:AV}(ha:plains [a0]=true)(hv:Z8c Tryz.prog Z72 Zed NN (λv g=>cvt false g v) (nrm (.l 7) a0) []=some v)(h:Hp):Zag [a0] h=some ((nrmR [.l 7,.o] v),h):=by
 have e:(Zee (nrms [.l 7] [a0]) []).bind (λ(p:AV × Hp)=>cvt false p.2 p.1)=some v:=(ZAA (λv g=>cvt false g v) (nrm (.l 7) a0) []).trans hv
 exact (Z0c (shr:=[.l 7,.o]) ha e h).trans (congrArg (λx=>some (x,h)) rfl)
def Zef:DTab:=D0
theorem ZAC:DSound Tryz.prog Zef:=DSound.zero
def Z73:Tab:=(updF (updF T0 32 Z3M) 37 Zag)
theorem ZAD:TSound Tryz.prog Z73:=(TSound.upd (TSound.upd TSound.zero Zgb) ZAB)
@[simp] theorem ZlH:Z73 32=some Z3M:=rfl
@[simp] theorem ZAE:Z73 37=some Zag:=rfl
def Zeg:Fun:=runF Tryz.prog Z73 Zef NN [0,1,2,3,6] Tryz.f12 1
theorem ZAF:CSound Tryz.prog 12 Zeg:=Z08 ZAD ZAC mixed Tryz.func12 (by kernel_rfl) NN
theorem ZAG{β:Type}(K:Kb β)(a0:AV)(h:Hp):(Zeg [a0] h).bind (λp=>K p.1 p.2)=Z7C Tryz.prog Z73 Zef NN K a0 h:=by
 rw[← ZpD];exact Z09 rfl
def Zah:Fun:=closedX [.a [none,some 2,some 7]] [.l 7,.o] Zeg
theorem ZAH:CSound Tryz.prog 12 Zah:=Z0b _ _ ZAF
theorem ZlI{a0 v:AV}(ha:plains [a0]=true)(hv:Z7C Tryz.prog Z73 Zef NN (λv g=>cvt false g v) (nrm (.a [none,some 2,some 7]) a0) []=some v)(h:Hp):Zah [a0] h=some ((nrmR [.l 7,.o] v),h):=by
 have e:(Zeg (nrms [.a [none,some 2,some 7]] [a0]) []).bind (λ(p:AV × Hp)=>cvt false p.2 p.1)=some v:=(ZAG (λv g=>cvt false g v) (nrm (.a [none,some 2,some 7]) a0) []).trans hv
 exact (Z0c (shr:=[.l 7,.o]) ha e h).trans (congrArg (λx=>some (x,h)) rfl)
def Z74:DTab:=D0
theorem ZAI:DSound Tryz.prog Z74:=DSound.zero
def Z75:Tab:=T0
theorem ZAJ:TSound Tryz.prog Z75:=TSound.zero
def Zeh:Fun:=runF Tryz.prog Z75 Z74 NN [0,1,4,5,10,14,25] Tryz.f38 2
theorem ZAK:CSound Tryz.prog 38 Zeh:=Z08 ZAJ ZAI mixed Tryz.func38 (by kernel_rfl) NN
theorem ZAL{β:Type}(K:Kb β)(a0 a1:AV)(h:Hp):(Zeh [a0,a1] h).bind (λp=>K p.1 p.2)=Z5Y Tryz.prog Z75 Z74 NN K a0 a1 h:=by
 rw[← ZqN];exact Z09 rfl
def Z76:Fun:=closedX [.l 10,.l 10] [.o] Zeh
theorem ZAM:CSound Tryz.prog 38 Z76:=Z0b _ _ ZAK
theorem ZAN{a0 a1 v:AV}(ha:plains [a0,a1]=true)(hv:Z5Y Tryz.prog Z75 Z74 NN (λv g=>cvt false g v) (nrm (.l 10) a0) (nrm (.l 10) a1) []=some v)(h:Hp):Z76 [a0,a1] h=some (v,h):=by
 have e:(Zeh (nrms [.l 10,.l 10] [a0,a1]) []).bind (λ(p:AV × Hp)=>cvt false p.2 p.1)=some v:=(ZAL (λv g=>cvt false g v) (nrm (.l 10) a0) (nrm (.l 10) a1) []).trans hv
 exact (Z0c (shr:=[.o]) ha e h).trans (congrArg (λx=>some (x,h)) (Z0K 1 v))
def Zei:DTab:=D0
theorem ZAO:DSound Tryz.prog Zei:=DSound.zero
def Zai:Tab:=(updF T0 38 Z76)
theorem ZAP:TSound Tryz.prog Zai:=(TSound.upd TSound.zero ZAM)
@[simp] theorem ZAQ:Zai 38=some Z76:=rfl
def Zej:Fun:=runF Tryz.prog Zai Zei NN [0,1,2,3,4] Tryz.f13 2
theorem ZAR:CSound Tryz.prog 13 Zej:=Z08 ZAP ZAO mixed Tryz.func13 (by kernel_rfl) NN
theorem ZAS{β:Type}(K:Kb β)(a0 a1:AV)(h:Hp):(Zej [a0,a1] h).bind (λp=>K p.1 p.2)=ZaS Tryz.prog Zai Zei NN K a0 a1 h:=by
 rw[← ZpE];exact Z09 rfl
def Zaj:Fun:=closedX [.a [none,none,some 10],.a [none,none,some 10]] [.o] Zej
theorem ZAT:CSound Tryz.prog 13 Zaj:=Z0b _ _ ZAR
theorem ZAU{a0 a1 v:AV}(ha:plains [a0,a1]=true)(hv:ZaS Tryz.prog Zai Zei NN (λv g=>cvt false g v) (nrm (.a [none,none,some 10]) a0) (nrm (.a [none,none,some 10]) a1) []=some v)(h:Hp):Zaj [a0,a1] h=some (v,h):=by
 have e:(Zej (nrms [.a [none,none,some 10],.a [none,none,some 10]] [a0,a1]) []).bind (λ(p:AV × Hp)=>cvt false p.2 p.1)=some v:=(ZAS (λv g=>cvt false g v) (nrm (.a [none,none,some 10]) a0) (nrm (.a [none,none,some 10]) a1) []).trans hv
 exact (Z0c (shr:=[.o]) ha e h).trans (congrArg (λx=>some (x,h)) (Z0K 1 v))
def Z5B:DTab:=D0
theorem ZAV:DSound Tryz.prog Z5B:=DSound.zero
def Z4n:Tab:=(updF T0 39 Z4j)
theorem ZAW:TSound Tryz.prog Z4n:=(TSound.upd TSound.zero Zlo)
@[simp] theorem ZAX:Z4n 39=some Z4j:=rfl
def Zek:Fun:=runF Tryz.prog Z4n Z5B NN [0,1,2,3,4,5,19,24,37] Tryz.f14 2
theorem ZAY:CSound Tryz.prog 14 Zek:=Z08 ZAW ZAV mixed Tryz.func14 (by kernel_rfl) NN
theorem ZAZ{β:Type}(K:Kb β)(a0 a1:AV)(h:Hp):(Zek [a0,a1] h).bind (λp=>K p.1 p.2)=Z7F Tryz.prog Z4n Z5B NN K a0 a1 h:=by
 rw[← ZpI];exact Z09 rfl
def Zak:Fun:=closedX [.a [none,some 2,some 7],.a [none,some 2,some 7]] [.o] Zek
theorem ZB0:CSound Tryz.prog 14 Zak:=Z0b _ _ ZAY
theorem ZB1{a0 a1 v:AV}(ha:plains [a0,a1]=true)(hv:Z7F Tryz.prog Z4n Z5B NN (λv g=>cvt false g v) (nrm (.a [none,some 2,some 7]) a0) (nrm (.a [none,some 2,some 7]) a1) []=some v)(h:Hp):Zak [a0,a1] h=some (v,h):=by
 have e:(Zek (nrms [.a [none,some 2,some 7],.a [none,some 2,some 7]] [a0,a1]) []).bind (λ(p:AV × Hp)=>cvt false p.2 p.1)=some v:=(ZAZ (λv g=>cvt false g v) (nrm (.a [none,some 2,some 7]) a0) (nrm (.a [none,some 2,some 7]) a1) []).trans hv
 exact (Z0c (shr:=[.o]) ha e h).trans (congrArg (λx=>some (x,h)) (Z0K 1 v))
def Z77:DTab:=D0
theorem ZB2:DSound Tryz.prog Z77:=DSound.zero
def Z78:Tab:=T0
theorem ZB3:TSound Tryz.prog Z78:=TSound.zero
def Zel:Fun:=runF Tryz.prog Z78 Z77 NN [0,1,4,5,10,14,25] Tryz.f15 2
theorem ZB4:CSound Tryz.prog 15 Zel:=Z08 ZB3 ZB2 mixed Tryz.func15 (by kernel_rfl) NN
theorem ZB5{β:Type}(K:Kb β)(a0 a1:AV)(h:Hp):(Zel [a0,a1] h).bind (λp=>K p.1 p.2)=Z5T Tryz.prog Z78 Z77 NN K a0 a1 h:=by
 rw[← ZpM];exact Z09 rfl
def Z4o:Fun:=closedX [.l 7,.l 7] [.o] Zel
theorem ZB6:CSound Tryz.prog 15 Z4o:=Z0b _ _ ZB4
theorem ZB7{a0 a1 v:AV}(ha:plains [a0,a1]=true)(hv:Z5T Tryz.prog Z78 Z77 NN (λv g=>cvt false g v) (nrm (.l 7) a0) (nrm (.l 7) a1) []=some v)(h:Hp):Z4o [a0,a1] h=some (v,h):=by
 have e:(Zel (nrms [.l 7,.l 7] [a0,a1]) []).bind (λ(p:AV × Hp)=>cvt false p.2 p.1)=some v:=(ZB5 (λv g=>cvt false g v) (nrm (.l 7) a0) (nrm (.l 7) a1) []).trans hv
 exact (Z0c (shr:=[.o]) ha e h).trans (congrArg (λx=>some (x,h)) (Z0K 1 v))
def Z3m:DTab:=(updD (updD (updD D0 7 Zg8) 8 Z9Z) 9 Za0)
theorem ZB8:DSound Tryz.prog Z3m:=(DSound.ro (DSound.ro (DSound.ro DSound.zero Zxe Zg7) Zli ZdI) Zlk ZdJ)
@[simp] theorem ZEr:Z3m 7=some Zg8:=rfl
@[simp] theorem ZEs:Z3m 8=some Z9Z:=rfl
@[simp] theorem ZEt:Z3m 9=some Za0:=rfl
def Z1P:Tab:=(updF (updF (updF (updF (updF (updF (updF (updF (updF (updF (updF (updF T0 4 Z9V) 5 Z9W) 6 Z9X) 7 Z35) 8 Z4g) 9 Z4h) 10 Z70) 11 Zac) 12 Zah) 13 Zaj) 14 Zak) 15 Z4o)
theorem ZB9:TSound Tryz.prog Z1P:=(TSound.upd (TSound.upd (TSound.upd (TSound.upd (TSound.upd (TSound.upd (TSound.upd (TSound.upd (TSound.upd (TSound.upd (TSound.upd (TSound.upd TSound.zero Zy6) Zyc) Zyi) Zg7) ZdI) ZdJ) ZzS) ZAa) ZAH) ZAT) ZB0) ZB6)
@[simp] theorem ZBa:Z1P 4=some Z9V:=rfl
@[simp] theorem ZBb:Z1P 5=some Z9W:=rfl
@[simp] theorem ZBc:Z1P 6=some Z9X:=rfl
@[simp] theorem ZEu:Z1P 7=some Z35:=rfl
@[simp] theorem ZEv:Z1P 8=some Z4g:=rfl
@[simp] theorem ZBd:Z1P 9=some Z4h:=rfl
@[simp] theorem ZBe:Z1P 10=some Z70:=rfl
@[simp] theorem ZBf:Z1P 11=some Zac:=rfl
@[simp] theorem ZBg:Z1P 12=some Zah:=rfl
@[simp] theorem ZBh:Z1P 13=some Zaj:=rfl
@[simp] theorem ZBi:Z1P 14=some Zak:=rfl
@[simp] theorem ZBj:Z1P 15=some Z4o:=rfl
def Zem:Fun:=runF Tryz.prog Z1P Z3m NN [0,1,2,3,4,5,6,7,8,9,10,11,12,13,14,15,16,18,26] Tryz.f3 3
theorem ZBk:CSound Tryz.prog 3 Zem:=Z08 ZB9 ZB8 mixed Tryz.func3 (by kernel_rfl) NN
theorem ZBl{β:Type}(K:Kb β)(a0 a1 a2:AV)(h:Hp):(Zem [a0,a1,a2] h).bind (λp=>K p.1 p.2)=ZaL Tryz.prog Z1P Z3m NN K a0 a1 a2 h:=by
 rw[← Zpp];exact Z09 rfl
def Zgi:Fun:=closedX [.a [none,none,some 10],.a [none,some 2,some 7],.o] [.o] Zem
theorem F_law43_ReceiverExchanges_ok:CSound Tryz.prog 3 Zgi:=Z0b _ _ ZBk
theorem ZBm{a0 a1 a2 v:AV}(ha:plains [a0,a1,a2]=true)(hv:ZaL Tryz.prog Z1P Z3m NN (λv g=>cvt false g v) (nrm (.a [none,none,some 10]) a0) (nrm (.a [none,some 2,some 7]) a1) a2 []=some v)(h:Hp):Zgi [a0,a1,a2] h=some (v,h):=by
 have e:(Zem (nrms [.a [none,none,some 10],.a [none,some 2,some 7],.o] [a0,a1,a2]) []).bind (λ(p:AV × Hp)=>cvt false p.2 p.1)=some v:=(ZBl (λv g=>cvt false g v) (nrm (.a [none,none,some 10]) a0) (nrm (.a [none,some 2,some 7]) a1) a2 []).trans hv
 exact (Z0c (shr:=[.o]) ha e h).trans (congrArg (λx=>some (x,h)) (Z0K 1 v))
end Go.AM


namespace Go.AM
variable {β:Type} {P:Program} {kt:TypeId} {kk:IntKind}
end Go.AM


namespace Go.AM
def idOf:AV→Option Nat
 | .sl _ id .. => some id
 | _=>none
@[simp] theorem ZlJ(sz id off len fr:Nat)(full:Bool):idOf (.sl sz id off len fr full)=some id:=rfl
@[simp] theorem ZEw:idOf nilS=none:=rfl
def Gro{α:Type}(sz:Nat)(f:α→List AV)(h:Hp)(v:AV)(l:List α):Prop:=(l=[]∧v=nilS)∨(l≠[]∧∃k,v = .sl sz k 0 l.length l.length false∧h[k]? = some (.arr sz (l.map f) true false))
section
variable {α β:Type} {sz:Nat} {f:α→List AV} {h h':Hp} {v:AV} {l:List α}
theorem Gro.nil:Gro sz f h nilS [] := .inl ⟨rfl,rfl⟩
theorem Gro.keep(O:Gro sz f h v l)(hk:∀k o,idOf v=some k→h[k]? = some o→h'[k]? = some o):Gro sz f h' v l:=by
 rcases O with O | ⟨h1,k,rfl,h2⟩
 ·exact .inl O
 ·exact .inr ⟨h1,k,rfl,hk k _ rfl h2⟩
theorem Gro.app(O:Gro sz f h v l)(x:List AObj):Gro sz f (h++x) v l:=O.keep λk o _ hk=>Z0a hk
theorem Gro.lt(O:Gro sz f h v l){k:Nat}(hk:idOf v=some k):k<h.length:=by
 rcases O with ⟨_,rfl⟩ | ⟨h1,j,rfl,h2⟩
 ·simp at hk
 ·simp at hk;subst hk;exact (List.getElem?_eq_some_iff.1 h2).1
theorem Gro.len(O:Gro sz f h v l)(k:K β):lenK v k=k (I l.length):=by
 rcases O with ⟨rfl,rfl⟩ | ⟨h1,j,rfl,h2⟩<;>simp
theorem Gro.cvts(O:Gro sz f h v l)(hf:∀x st,(f x).all (λc=>bif st then isS c else plain c)=true):∃w,(∀st,Go.AM.cvt st h v=some w)∧nrm (.l sz) w = .lst sz l.isEmpty (l.map f):=by
 rcases O with ⟨rfl,rfl⟩ | ⟨h1,k,rfl,h2⟩
 ·exact ⟨nilS,λst=>rfl,rfl⟩
 ·have he:l.isEmpty=false:=by simpa using h1
  refine ⟨.lst sz false (l.map f),λst=>Z0X h2 (by simp) (by simp) (Z0U λx=>hf x st), ?_⟩
  rw[he];rfl
theorem Gro.snoc(β:Type)(O:Gro sz f h v l){by_ m:Nat}{z:α}{b:Bool}(hm:h[m]? = some (.arr sz [f z] true false))(hv:idOf v≠some m)(hf:∀x ∈ z::l,(f x).length=sz)(hl:(l.length+1) * by_≤140737488355328):
  ∃v' h',(∀k:Kb β,effK (appE sz by_ v (.sl sz m 0 1 1 b) h h.length) h k=k v' h')∧Gro sz f h' v' (l++[z])∧h.length≤h'.length∧(∀j o,h[j]? = some o→idOf v≠some j→h'[j]? = some o)∧(idOf v'=idOf v∨idOf v'=some h.length):=by
 have hz:(f z).length=sz:=hf z (by simp)
 rcases O with ⟨rfl,rfl⟩ | ⟨h1,k,rfl,h2⟩
 ·have hb:by_≤140737488355328:=by simpa using hl
  refine ⟨.sl sz h.length 0 1 1 false,h++[.arr sz [f z] true false],λk => ?_,.inr ⟨by simp,h.length,rfl,by simp⟩,by simp,λj o hj _=>Z0a hj,.inr rfl⟩
  simp[appE,readSl,hm,hz,hb,effK,ap]
 ·have hkl:=(List.getElem?_eq_some_iff.1 h2).1
  refine ⟨.sl sz k 0 (l++[z]).length (l++[z]).length false,h.set k (.arr sz ((l++[z]).map f) true false),λk' => ?_,.inr ⟨by simp,k,rfl,by simp[hkl]⟩,by simp,λj o hj hn => ?_,.inl rfl⟩
  ·simp[appE,readSl,hm,h2,hz,hl,effK,ap]
  ·have hkj:k≠j:=by rintro rfl;exact hn rfl
   rw[List.getElem?_set_ne hkj];exact hj
end
theorem ZBn{shp shr:List Sh}{F:Fun}{h:Hp}{args as' asl:List AV}{v:AV}{h0:Hp}(ha:cvts false h args=some as')(hn:nrms shp as'=nrms shp asl)(hp:plains asl=true)(hF:closedX shp shr F asl h0=some (v,h0))(hs:scal v=true):closedX shp shr F args h=some (v,h):=by
 unfold closedX at hF ⊢
 rw[Z38 hp] at hF;rw[ha];dsimp only at hF ⊢
 rw[hn];split at hF<;>try (simp at hF;done)
 rename_i w g hR;split at hF<;>try (simp at hF;done)
 rename_i w' hw
 simp only[Option.some.injEq,Prod.mk.injEq] at hF;obtain ⟨rfl,-⟩:=hF
 rw[hp,Bool.not_true] at hw
 have hw2:∀st,cvt st g w=some w':=λst=>by
  cases st with
  | false=>exact hw
  | true=>exact Zii hw (ZoP hs)
 rw[hw2]
theorem Gro.snocE{α:Type}{sz:Nat}{f:α→List AV}{h:Hp}{v:AV}{l:List α}(O:Gro sz f h v l){by_ m:Nat}{z:α}{b:Bool}(hm:h[m]? = some (.arr sz [f z] true false))(hv:idOf v≠some m)(hf:∀x ∈ z::l,(f x).length=sz)(hl:(l.length+1) * by_≤140737488355328):
  ∃v' e,appE sz by_ v (.sl sz m 0 1 1 b) h h.length=some (v',e)∧Gro sz f (ap h e) v' (l++[z])∧h.length≤(ap h e).length∧(∀j o,h[j]? = some o→idOf v≠some j→(ap h e)[j]? = some o)∧(idOf v'=idOf v∨idOf v'=some h.length):=by
 have hz:(f z).length=sz:=hf z (by simp)
 rcases O with ⟨rfl,rfl⟩ | ⟨h1,k,rfl,h2⟩
 ·have hb:by_≤140737488355328:=by simpa using hl
  refine ⟨.sl sz h.length 0 1 1 false,⟨[],[.arr sz [f z] true false],[m]⟩,by simp[appE,readSl,hm,hz,hb,idsOf],.inr ⟨by simp,h.length,rfl,by simp[ap]⟩,by simp[ap],λj o hj _=>by simpa [ap] using Z0a hj,.inr rfl⟩
 ·have hkl:=(List.getElem?_eq_some_iff.1 h2).1
  refine ⟨.sl sz k 0 (l++[z]).length (l++[z]).length false,⟨[(k,.arr sz ((l++[z]).map f) true false)],[],[k,m]⟩,by simp[appE,readSl,hm,h2,hz,hl,idsOf],.inr ⟨by simp,k,rfl,by simp[ap,hkl]⟩,by simp[ap],λj o hj hn => ?_,.inl rfl⟩
  have hkj:k≠j:=by rintro rfl;exact hn rfl
  simp only[ap,List.foldl_cons,List.foldl_nil,List.append_nil];rw[List.getElem?_set_ne hkj];exact hj
end Go.AM


namespace Go.AM
variable {α β:Type} {sz:Nat} {enc:α→List AV} {h:Hp}
structure Part(enc:α→List AV)(h:Hp)(p:AV × List α):Prop where
 read:readSl h p.1=some (p.2.map enc)
 len:lenK p.1 some=some (I p.2.length)
theorem Part.lenK{p:AV × List α}(q:Part enc h p)(k:K β):Go.AM.lenK p.1 k=k (I p.2.length):=by rw[ZgS,q.len];rfl
theorem Part.app{p:AV × List α}(q:Part enc h p)(g:List AObj):Part enc (h++g) p:=⟨ZeR q.read λid _ o ho=>Z0a ho,q.len⟩
theorem Part.nil:Part enc h (nilS,[]):=⟨rfl,rfl⟩
theorem Part.lst(sz:Nat)(b:Bool)(l:List α):Part enc h (.lst sz b (l.map enc),l):=⟨rfl,by simp⟩
theorem Part.sl{sz id n:Nat}{b nl:Bool}{l:List α}(hid:h[id]? = some (.arr sz (l.map enc) true nl))(hn:l.length=n):Part enc h (.sl sz id 0 n n b,l):=by
 subst hn;have ht:(l.map enc).take l.length=l.map enc:=List.take_of_length_le (by simp)
 exact ⟨by simp[readSl,hid,ht],by simp⟩
def flat(ps:List (AV × List α)):List α:=ps.flatMap (·.2)
end Go.AM
namespace Go.AM
def notBehind{α:Type}(bef:α→α→Bool):Option α→α→Bool
 | some q,p => !bef q p
 | none,_=>false
@[simp] theorem ZEx{α:Type}(bef:α→α→Bool)(q p:α):notBehind bef (some q) p = !bef q p:=rfl
@[simp] theorem ZEy{α:Type}(bef:α→α→Bool)(p:α):notBehind bef none p=false:=rfl
section
variable {β:Type}
def Grm{α:Type}(sz:Nat)(f:α→List AV)(h:Hp)(v:AV)(l:List α):Prop:=∃k b,v = .sl sz k 0 l.length l.length b∧h[k]? = some (.arr sz (l.map f) true false)∧(b=true→l=[])
theorem Grm.keep{α:Type}{sz:Nat}{f:α→List AV}{h h':Hp}{v:AV}{l:List α}(O:Grm sz f h v l)(hk:∀k o,idOf v=some k→h[k]? = some o→h'[k]? = some o):Grm sz f h' v l:=by
 obtain ⟨k,b,rfl,h2,h3⟩:=O;exact ⟨k,b,rfl,hk k _ rfl h2,h3⟩
theorem Grm.app{α:Type}{sz:Nat}{f:α→List AV}{h:Hp}{v:AV}{l:List α}(O:Grm sz f h v l)(x:List AObj):Grm sz f (h++x) v l:=O.keep λk o _ hk=>Z0a hk
theorem Grm.lt{α:Type}{sz:Nat}{f:α→List AV}{h:Hp}{v:AV}{l:List α}(O:Grm sz f h v l):∃k,idOf v=some k∧k<h.length:=by
 obtain ⟨k,b,rfl,h2,h3⟩:=O;exact ⟨k,rfl,(List.getElem?_eq_some_iff.1 h2).1⟩
theorem Grm.snocE{α:Type}{sz:Nat}{f:α→List AV}{h:Hp}{v:AV}{l:List α}(O:Grm sz f h v l){by_ m:Nat}{z:α}{b:Bool}(hm:h[m]? = some (.arr sz [f z] true false))(hv:idOf v≠some m)(hf:∀x ∈ z::l,(f x).length=sz)(hl:(l.length+1) * by_≤140737488355328):
  ∃v' e,appE sz by_ v (.sl sz m 0 1 1 b) h h.length=some (v',e)∧Grm sz f (ap h e) v' (l++[z])∧h.length≤(ap h e).length∧(∀j o,h[j]? = some o→idOf v≠some j→(ap h e)[j]? = some o)∧(idOf v'=idOf v∨idOf v'=some h.length)∧(∀i ∈ e.foot,some i=idOf v∨i=m)∧(∀q ∈ e.puts,some q.1=idOf v):=by
 have hz:(f z).length=sz:=hf z (by simp)
 obtain ⟨k,bb,rfl,h2,h3⟩:=O;have hkl:=(List.getElem?_eq_some_iff.1 h2).1;cases bb with
 | true=>
  have:=h3 rfl
  subst this;have hb:by_≤140737488355328:=by simpa using hl
  refine ⟨.sl sz h.length 0 1 1 false,⟨[],[.arr sz [f z] true false],[k,m]⟩,by simp[appE,readSl,hm,hz,hb,idsOf,h2],⟨h.length,false,rfl,by simp[ap],by simp⟩,by simp[ap],λj o hj _=>by simpa [ap] using Z0a hj,.inr rfl,λi hi=>by simp at hi;rcases hi with rfl | rfl<;>simp,by simp⟩
 | false=>
  refine ⟨.sl sz k 0 (l++[z]).length (l++[z]).length false,⟨[(k,.arr sz ((l++[z]).map f) true false)],[],[k,m]⟩,by simp[appE,readSl,hm,h2,hz,hl,idsOf],⟨k,false,rfl,by simp[ap,hkl],by simp⟩,by simp[ap],λj o hj hn => ?_,.inl rfl,λi hi=>by simp at hi;rcases hi with rfl | rfl<;>simp,λq hq=>by simp at hq;subst hq;rfl⟩
  have hkj:k≠j:=by rintro rfl;exact hn rfl
  simp only[ap,List.foldl_cons,List.foldl_nil,List.append_nil];rw[List.getElem?_set_ne hkj];exact hj
theorem Grm.cvt{α:Type}{sz:Nat}{f:α→List AV}{h:Hp}{v:AV}{l:List α}(O:Grm sz f h v l)(hf:∀x st,(f x).all (λc=>bif st then isS c else plain c)=true)(st:Bool):Go.AM.cvt st h v=some (.lst sz false (l.map f)):=by
 obtain ⟨k,b,rfl,h2,h3⟩:=O;exact Z0X h2 (by simp) (by simp) (Z0U λx=>hf x st)
theorem Grm.len{α:Type}{sz:Nat}{f:α→List AV}{h:Hp}{v:AV}{l:List α}(O:Grm sz f h v l)(k:Go.AM.K β):lenK v k=k (I l.length):=by
 obtain ⟨j,b,rfl,h2,h3⟩:=O
 simp
end
end Go.AM


namespace Go.AM
structure Msg where
 mv:Int
 kind:Int
 num:Int
 day:Int
 frm:Int
 to:Int
 alc:Int
deriving DecidableEq
def encM(m:Msg):List AV:=[I m.mv,I m.kind,I m.num,I m.day,I m.frm,I m.to,I m.alc]
structure Docu where
 mv:Int
 stage:Int
 frm:Int
 to:Int
 sent:Int
 got:Int
 chg:Int
deriving DecidableEq
def encDo(d:Docu):List AV:=[I d.mv,I d.stage,I d.frm,I d.to,I d.sent,I d.got,I d.chg]
section
variable {β:Type}
theorem Z0N{r:R}{v:AV}{id:Nat}{o:AObj}{ft:List Nat}{h:Hp}(hr:r=some (v,⟨[(id,o)],[],ft⟩))(k:Kb β):effK r h k=k v (h.set id o):=by subst hr;simp[effK,ap]
theorem Z0h{r:R}{v:AV}{id:Nat}{o:AObj}{ft:List Nat}{h:Hp}(hr:r=some (v,⟨[(id,o)],[],ft⟩))(k:AV→Hp→Ent→Option β):effD r h k=k v (h.set id o) (ft,[id]):=by subst hr;simp[effD,ap,wrOf]
theorem Z1Z{a b c d e f g:AV}{t:Hp}{w n:Bool}(k:K β):ldK 1 false (.ptr 0 0 0 1) (.arr 7 [[a,b,c,d,e,f,g]] w n::t) k=k a:=rfl
theorem Z20{a b c d e f g:AV}{x:Int}{t:Hp}{n:Bool}(k:Kb β):effK (stE 1 (.ptr 0 0 0 1) (.s (.int .i64 x)) (.arr 7 [[a,b,c,d,e,f,g]] true n::t)) (.arr 7 [[a,b,c,d,e,f,g]] true n::t) k=k .u (.arr 7 [[(.s (.int .i64 x)),b,c,d,e,f,g]] true n::t):=Z0N rfl k
theorem Z21{a b c d e f g:AV}{x:Int}{t:Hp}{n:Bool}(k:AV→Hp→Ent→Option β):effD (stE 1 (.ptr 0 0 0 1) (.s (.int .i64 x)) (.arr 7 [[a,b,c,d,e,f,g]] true n::t)) (.arr 7 [[a,b,c,d,e,f,g]] true n::t) k=k .u (.arr 7 [[(.s (.int .i64 x)),b,c,d,e,f,g]] true n::t) ([0],[0]):=Z0h rfl k
theorem Z22{a b c d e f g:AV}{t:Hp}{w n:Bool}(k:K β):ldK 1 false (.ptr 0 0 1 1) (.arr 7 [[a,b,c,d,e,f,g]] w n::t) k=k b:=rfl
theorem Z23{a b c d e f g:AV}{x:Int}{t:Hp}{n:Bool}(k:Kb β):effK (stE 1 (.ptr 0 0 1 1) (.s (.int .i64 x)) (.arr 7 [[a,b,c,d,e,f,g]] true n::t)) (.arr 7 [[a,b,c,d,e,f,g]] true n::t) k=k .u (.arr 7 [[a,(.s (.int .i64 x)),c,d,e,f,g]] true n::t):=Z0N rfl k
theorem Z24{a b c d e f g:AV}{x:Int}{t:Hp}{n:Bool}(k:AV→Hp→Ent→Option β):effD (stE 1 (.ptr 0 0 1 1) (.s (.int .i64 x)) (.arr 7 [[a,b,c,d,e,f,g]] true n::t)) (.arr 7 [[a,b,c,d,e,f,g]] true n::t) k=k .u (.arr 7 [[a,(.s (.int .i64 x)),c,d,e,f,g]] true n::t) ([0],[0]):=Z0h rfl k
theorem Z25{a b c d e f g:AV}{t:Hp}{w n:Bool}(k:K β):ldK 1 false (.ptr 0 0 2 1) (.arr 7 [[a,b,c,d,e,f,g]] w n::t) k=k c:=rfl
theorem Z26{a b c d e f g:AV}{x:Int}{t:Hp}{n:Bool}(k:Kb β):effK (stE 1 (.ptr 0 0 2 1) (.s (.int .i64 x)) (.arr 7 [[a,b,c,d,e,f,g]] true n::t)) (.arr 7 [[a,b,c,d,e,f,g]] true n::t) k=k .u (.arr 7 [[a,b,(.s (.int .i64 x)),d,e,f,g]] true n::t):=Z0N rfl k
theorem Z27{a b c d e f g:AV}{x:Int}{t:Hp}{n:Bool}(k:AV→Hp→Ent→Option β):effD (stE 1 (.ptr 0 0 2 1) (.s (.int .i64 x)) (.arr 7 [[a,b,c,d,e,f,g]] true n::t)) (.arr 7 [[a,b,c,d,e,f,g]] true n::t) k=k .u (.arr 7 [[a,b,(.s (.int .i64 x)),d,e,f,g]] true n::t) ([0],[0]):=Z0h rfl k
theorem Z28{a b c d e f g:AV}{t:Hp}{w n:Bool}(k:K β):ldK 1 false (.ptr 0 0 3 1) (.arr 7 [[a,b,c,d,e,f,g]] w n::t) k=k d:=rfl
theorem Z29{a b c d e f g:AV}{x:Int}{t:Hp}{n:Bool}(k:Kb β):effK (stE 1 (.ptr 0 0 3 1) (.s (.int .i64 x)) (.arr 7 [[a,b,c,d,e,f,g]] true n::t)) (.arr 7 [[a,b,c,d,e,f,g]] true n::t) k=k .u (.arr 7 [[a,b,c,(.s (.int .i64 x)),e,f,g]] true n::t):=Z0N rfl k
theorem Z2a{a b c d e f g:AV}{x:Int}{t:Hp}{n:Bool}(k:AV→Hp→Ent→Option β):effD (stE 1 (.ptr 0 0 3 1) (.s (.int .i64 x)) (.arr 7 [[a,b,c,d,e,f,g]] true n::t)) (.arr 7 [[a,b,c,d,e,f,g]] true n::t) k=k .u (.arr 7 [[a,b,c,(.s (.int .i64 x)),e,f,g]] true n::t) ([0],[0]):=Z0h rfl k
theorem Z2b{a b c d e f g:AV}{t:Hp}{w n:Bool}(k:K β):ldK 1 false (.ptr 0 0 4 1) (.arr 7 [[a,b,c,d,e,f,g]] w n::t) k=k e:=rfl
theorem Z2c{a b c d e f g:AV}{x:Int}{t:Hp}{n:Bool}(k:Kb β):effK (stE 1 (.ptr 0 0 4 1) (.s (.int .i64 x)) (.arr 7 [[a,b,c,d,e,f,g]] true n::t)) (.arr 7 [[a,b,c,d,e,f,g]] true n::t) k=k .u (.arr 7 [[a,b,c,d,(.s (.int .i64 x)),f,g]] true n::t):=Z0N rfl k
theorem Z2d{a b c d e f g:AV}{x:Int}{t:Hp}{n:Bool}(k:AV→Hp→Ent→Option β):effD (stE 1 (.ptr 0 0 4 1) (.s (.int .i64 x)) (.arr 7 [[a,b,c,d,e,f,g]] true n::t)) (.arr 7 [[a,b,c,d,e,f,g]] true n::t) k=k .u (.arr 7 [[a,b,c,d,(.s (.int .i64 x)),f,g]] true n::t) ([0],[0]):=Z0h rfl k
theorem Z2e{a b c d e f g:AV}{t:Hp}{w n:Bool}(k:K β):ldK 1 false (.ptr 0 0 5 1) (.arr 7 [[a,b,c,d,e,f,g]] w n::t) k=k f:=rfl
theorem Z2f{a b c d e f g:AV}{x:Int}{t:Hp}{n:Bool}(k:Kb β):effK (stE 1 (.ptr 0 0 5 1) (.s (.int .i64 x)) (.arr 7 [[a,b,c,d,e,f,g]] true n::t)) (.arr 7 [[a,b,c,d,e,f,g]] true n::t) k=k .u (.arr 7 [[a,b,c,d,e,(.s (.int .i64 x)),g]] true n::t):=Z0N rfl k
theorem Z2g{a b c d e f g:AV}{x:Int}{t:Hp}{n:Bool}(k:AV→Hp→Ent→Option β):effD (stE 1 (.ptr 0 0 5 1) (.s (.int .i64 x)) (.arr 7 [[a,b,c,d,e,f,g]] true n::t)) (.arr 7 [[a,b,c,d,e,f,g]] true n::t) k=k .u (.arr 7 [[a,b,c,d,e,(.s (.int .i64 x)),g]] true n::t) ([0],[0]):=Z0h rfl k
theorem Z2h{a b c d e f g:AV}{t:Hp}{w n:Bool}(k:K β):ldK 1 false (.ptr 0 0 6 1) (.arr 7 [[a,b,c,d,e,f,g]] w n::t) k=k g:=rfl
theorem Z2i{a b c d e f g:AV}{x:Int}{t:Hp}{n:Bool}(k:Kb β):effK (stE 1 (.ptr 0 0 6 1) (.s (.int .i64 x)) (.arr 7 [[a,b,c,d,e,f,g]] true n::t)) (.arr 7 [[a,b,c,d,e,f,g]] true n::t) k=k .u (.arr 7 [[a,b,c,d,e,f,(.s (.int .i64 x))]] true n::t):=Z0N rfl k
theorem Z2j{a b c d e f g:AV}{x:Int}{t:Hp}{n:Bool}(k:AV→Hp→Ent→Option β):effD (stE 1 (.ptr 0 0 6 1) (.s (.int .i64 x)) (.arr 7 [[a,b,c,d,e,f,g]] true n::t)) (.arr 7 [[a,b,c,d,e,f,g]] true n::t) k=k .u (.arr 7 [[a,b,c,d,e,f,(.s (.int .i64 x))]] true n::t) ([0],[0]):=Z0h rfl k
theorem lw7_0{a b c d e f g:AV}{t:Hp}{w n:Bool}(k:K β):ldK 7 true (.ptr 0 0 0 1) (.arr 7 [[a,b,c,d,e,f,g]] w n::t) k=k (.agg [a,b,c,d,e,f,g]):=rfl
theorem ew7_0{a b c d e f g:AV}{x0 x1 x2 x3 x4 x5 x6:Int}{t:Hp}{n:Bool}(k:Kb β):effK (stE 7 (.ptr 0 0 0 1) (.agg [(.s (.int .i64 x0)),(.s (.int .i64 x1)),(.s (.int .i64 x2)),(.s (.int .i64 x3)),(.s (.int .i64 x4)),(.s (.int .i64 x5)),(.s (.int .i64 x6))]) (.arr 7 [[a,b,c,d,e,f,g]] true n::t)) (.arr 7 [[a,b,c,d,e,f,g]] true n::t) k=k .u (.arr 7 [[(.s (.int .i64 x0)),(.s (.int .i64 x1)),(.s (.int .i64 x2)),(.s (.int .i64 x3)),(.s (.int .i64 x4)),(.s (.int .i64 x5)),(.s (.int .i64 x6))]] true n::t):=Z0N rfl k
theorem bx7_0{x0 x1 x2 x3 x4 x5 x6:Int}(k:Kb β):effK (boxE 7 (.agg [(.s (.int .i64 x0)),(.s (.int .i64 x1)),(.s (.int .i64 x2)),(.s (.int .i64 x3)),(.s (.int .i64 x4)),(.s (.int .i64 x5)),(.s (.int .i64 x6))]) ([]:Hp).length) [] k=k (.ptr 0 0 0 1) [.arr 7 [[(.s (.int .i64 x0)),(.s (.int .i64 x1)),(.s (.int .i64 x2)),(.s (.int .i64 x3)),(.s (.int .i64 x4)),(.s (.int .i64 x5)),(.s (.int .i64 x6))]] true false]:=rfl
theorem Z1c{o0:AObj}{a b c d e f g:AV}{t:Hp}{w n:Bool}(k:K β):ldK 1 false (.ptr 1 0 0 1) (o0 :: .arr 7 [[a,b,c,d,e,f,g]] w n::t) k=k a:=rfl
theorem Z1d{o0:AObj}{a b c d e f g:AV}{x:Int}{t:Hp}{n:Bool}(k:Kb β):effK (stE 1 (.ptr 1 0 0 1) (.s (.int .i64 x)) (o0 :: .arr 7 [[a,b,c,d,e,f,g]] true n::t)) (o0 :: .arr 7 [[a,b,c,d,e,f,g]] true n::t) k=k .u (o0 :: .arr 7 [[(.s (.int .i64 x)),b,c,d,e,f,g]] true n::t):=Z0N rfl k
theorem Z1e{o0:AObj}{a b c d e f g:AV}{x:Int}{t:Hp}{n:Bool}(k:AV→Hp→Ent→Option β):effD (stE 1 (.ptr 1 0 0 1) (.s (.int .i64 x)) (o0 :: .arr 7 [[a,b,c,d,e,f,g]] true n::t)) (o0 :: .arr 7 [[a,b,c,d,e,f,g]] true n::t) k=k .u (o0 :: .arr 7 [[(.s (.int .i64 x)),b,c,d,e,f,g]] true n::t) ([1],[1]):=Z0h rfl k
theorem Z1f{o0:AObj}{a b c d e f g:AV}{t:Hp}{w n:Bool}(k:K β):ldK 1 false (.ptr 1 0 1 1) (o0 :: .arr 7 [[a,b,c,d,e,f,g]] w n::t) k=k b:=rfl
theorem Z14{o0:AObj}{a b c d e f g:AV}{x:Int}{t:Hp}{n:Bool}(k:Kb β):effK (stE 1 (.ptr 1 0 1 1) (.s (.int .i64 x)) (o0 :: .arr 7 [[a,b,c,d,e,f,g]] true n::t)) (o0 :: .arr 7 [[a,b,c,d,e,f,g]] true n::t) k=k .u (o0 :: .arr 7 [[a,(.s (.int .i64 x)),c,d,e,f,g]] true n::t):=Z0N rfl k
theorem Z1g{o0:AObj}{a b c d e f g:AV}{x:Int}{t:Hp}{n:Bool}(k:AV→Hp→Ent→Option β):effD (stE 1 (.ptr 1 0 1 1) (.s (.int .i64 x)) (o0 :: .arr 7 [[a,b,c,d,e,f,g]] true n::t)) (o0 :: .arr 7 [[a,b,c,d,e,f,g]] true n::t) k=k .u (o0 :: .arr 7 [[a,(.s (.int .i64 x)),c,d,e,f,g]] true n::t) ([1],[1]):=Z0h rfl k
theorem Z1h{o0:AObj}{a b c d e f g:AV}{t:Hp}{w n:Bool}(k:K β):ldK 1 false (.ptr 1 0 2 1) (o0 :: .arr 7 [[a,b,c,d,e,f,g]] w n::t) k=k c:=rfl
theorem Z1i{o0:AObj}{a b c d e f g:AV}{x:Int}{t:Hp}{n:Bool}(k:Kb β):effK (stE 1 (.ptr 1 0 2 1) (.s (.int .i64 x)) (o0 :: .arr 7 [[a,b,c,d,e,f,g]] true n::t)) (o0 :: .arr 7 [[a,b,c,d,e,f,g]] true n::t) k=k .u (o0 :: .arr 7 [[a,b,(.s (.int .i64 x)),d,e,f,g]] true n::t):=Z0N rfl k
theorem Z1j{o0:AObj}{a b c d e f g:AV}{x:Int}{t:Hp}{n:Bool}(k:AV→Hp→Ent→Option β):effD (stE 1 (.ptr 1 0 2 1) (.s (.int .i64 x)) (o0 :: .arr 7 [[a,b,c,d,e,f,g]] true n::t)) (o0 :: .arr 7 [[a,b,c,d,e,f,g]] true n::t) k=k .u (o0 :: .arr 7 [[a,b,(.s (.int .i64 x)),d,e,f,g]] true n::t) ([1],[1]):=Z0h rfl k
theorem Z1k{o0:AObj}{a b c d e f g:AV}{t:Hp}{w n:Bool}(k:K β):ldK 1 false (.ptr 1 0 3 1) (o0 :: .arr 7 [[a,b,c,d,e,f,g]] w n::t) k=k d:=rfl
theorem Z1l{o0:AObj}{a b c d e f g:AV}{x:Int}{t:Hp}{n:Bool}(k:Kb β):effK (stE 1 (.ptr 1 0 3 1) (.s (.int .i64 x)) (o0 :: .arr 7 [[a,b,c,d,e,f,g]] true n::t)) (o0 :: .arr 7 [[a,b,c,d,e,f,g]] true n::t) k=k .u (o0 :: .arr 7 [[a,b,c,(.s (.int .i64 x)),e,f,g]] true n::t):=Z0N rfl k
theorem Z1m{o0:AObj}{a b c d e f g:AV}{x:Int}{t:Hp}{n:Bool}(k:AV→Hp→Ent→Option β):effD (stE 1 (.ptr 1 0 3 1) (.s (.int .i64 x)) (o0 :: .arr 7 [[a,b,c,d,e,f,g]] true n::t)) (o0 :: .arr 7 [[a,b,c,d,e,f,g]] true n::t) k=k .u (o0 :: .arr 7 [[a,b,c,(.s (.int .i64 x)),e,f,g]] true n::t) ([1],[1]):=Z0h rfl k
theorem Z1n{o0:AObj}{a b c d e f g:AV}{t:Hp}{w n:Bool}(k:K β):ldK 1 false (.ptr 1 0 4 1) (o0 :: .arr 7 [[a,b,c,d,e,f,g]] w n::t) k=k e:=rfl
theorem Z1o{o0:AObj}{a b c d e f g:AV}{x:Int}{t:Hp}{n:Bool}(k:Kb β):effK (stE 1 (.ptr 1 0 4 1) (.s (.int .i64 x)) (o0 :: .arr 7 [[a,b,c,d,e,f,g]] true n::t)) (o0 :: .arr 7 [[a,b,c,d,e,f,g]] true n::t) k=k .u (o0 :: .arr 7 [[a,b,c,d,(.s (.int .i64 x)),f,g]] true n::t):=Z0N rfl k
theorem Z1p{o0:AObj}{a b c d e f g:AV}{x:Int}{t:Hp}{n:Bool}(k:AV→Hp→Ent→Option β):effD (stE 1 (.ptr 1 0 4 1) (.s (.int .i64 x)) (o0 :: .arr 7 [[a,b,c,d,e,f,g]] true n::t)) (o0 :: .arr 7 [[a,b,c,d,e,f,g]] true n::t) k=k .u (o0 :: .arr 7 [[a,b,c,d,(.s (.int .i64 x)),f,g]] true n::t) ([1],[1]):=Z0h rfl k
theorem Z1q{o0:AObj}{a b c d e f g:AV}{t:Hp}{w n:Bool}(k:K β):ldK 1 false (.ptr 1 0 5 1) (o0 :: .arr 7 [[a,b,c,d,e,f,g]] w n::t) k=k f:=rfl
theorem Z1r{o0:AObj}{a b c d e f g:AV}{x:Int}{t:Hp}{n:Bool}(k:Kb β):effK (stE 1 (.ptr 1 0 5 1) (.s (.int .i64 x)) (o0 :: .arr 7 [[a,b,c,d,e,f,g]] true n::t)) (o0 :: .arr 7 [[a,b,c,d,e,f,g]] true n::t) k=k .u (o0 :: .arr 7 [[a,b,c,d,e,(.s (.int .i64 x)),g]] true n::t):=Z0N rfl k
theorem Z1s{o0:AObj}{a b c d e f g:AV}{x:Int}{t:Hp}{n:Bool}(k:AV→Hp→Ent→Option β):effD (stE 1 (.ptr 1 0 5 1) (.s (.int .i64 x)) (o0 :: .arr 7 [[a,b,c,d,e,f,g]] true n::t)) (o0 :: .arr 7 [[a,b,c,d,e,f,g]] true n::t) k=k .u (o0 :: .arr 7 [[a,b,c,d,e,(.s (.int .i64 x)),g]] true n::t) ([1],[1]):=Z0h rfl k
theorem Z1t{o0:AObj}{a b c d e f g:AV}{t:Hp}{w n:Bool}(k:K β):ldK 1 false (.ptr 1 0 6 1) (o0 :: .arr 7 [[a,b,c,d,e,f,g]] w n::t) k=k g:=rfl
theorem Z1u{o0:AObj}{a b c d e f g:AV}{x:Int}{t:Hp}{n:Bool}(k:Kb β):effK (stE 1 (.ptr 1 0 6 1) (.s (.int .i64 x)) (o0 :: .arr 7 [[a,b,c,d,e,f,g]] true n::t)) (o0 :: .arr 7 [[a,b,c,d,e,f,g]] true n::t) k=k .u (o0 :: .arr 7 [[a,b,c,d,e,f,(.s (.int .i64 x))]] true n::t):=Z0N rfl k
theorem Z1v{o0:AObj}{a b c d e f g:AV}{x:Int}{t:Hp}{n:Bool}(k:AV→Hp→Ent→Option β):effD (stE 1 (.ptr 1 0 6 1) (.s (.int .i64 x)) (o0 :: .arr 7 [[a,b,c,d,e,f,g]] true n::t)) (o0 :: .arr 7 [[a,b,c,d,e,f,g]] true n::t) k=k .u (o0 :: .arr 7 [[a,b,c,d,e,f,(.s (.int .i64 x))]] true n::t) ([1],[1]):=Z0h rfl k
theorem lw7_1{o0:AObj}{a b c d e f g:AV}{t:Hp}{w n:Bool}(k:K β):ldK 7 true (.ptr 1 0 0 1) (o0 :: .arr 7 [[a,b,c,d,e,f,g]] w n::t) k=k (.agg [a,b,c,d,e,f,g]):=rfl
theorem ew7_1{o0:AObj}{a b c d e f g:AV}{x0 x1 x2 x3 x4 x5 x6:Int}{t:Hp}{n:Bool}(k:Kb β):effK (stE 7 (.ptr 1 0 0 1) (.agg [(.s (.int .i64 x0)),(.s (.int .i64 x1)),(.s (.int .i64 x2)),(.s (.int .i64 x3)),(.s (.int .i64 x4)),(.s (.int .i64 x5)),(.s (.int .i64 x6))]) (o0 :: .arr 7 [[a,b,c,d,e,f,g]] true n::t)) (o0 :: .arr 7 [[a,b,c,d,e,f,g]] true n::t) k=k .u (o0 :: .arr 7 [[(.s (.int .i64 x0)),(.s (.int .i64 x1)),(.s (.int .i64 x2)),(.s (.int .i64 x3)),(.s (.int .i64 x4)),(.s (.int .i64 x5)),(.s (.int .i64 x6))]] true n::t):=Z0N rfl k
theorem bx7_1{o0:AObj}{x0 x1 x2 x3 x4 x5 x6:Int}(k:Kb β):effK (boxE 7 (.agg [(.s (.int .i64 x0)),(.s (.int .i64 x1)),(.s (.int .i64 x2)),(.s (.int .i64 x3)),(.s (.int .i64 x4)),(.s (.int .i64 x5)),(.s (.int .i64 x6))]) ([o0]:Hp).length) [o0] k=k (.ptr 1 0 0 1) [o0,.arr 7 [[(.s (.int .i64 x0)),(.s (.int .i64 x1)),(.s (.int .i64 x2)),(.s (.int .i64 x3)),(.s (.int .i64 x4)),(.s (.int .i64 x5)),(.s (.int .i64 x6))]] true false]:=rfl
theorem Z1w{o0:AObj}{o1:AObj}{a b c d e f g:AV}{t:Hp}{w n:Bool}(k:K β):ldK 1 false (.ptr 2 0 0 1) (o0::o1 :: .arr 7 [[a,b,c,d,e,f,g]] w n::t) k=k a:=rfl
theorem Z1x{o0:AObj}{o1:AObj}{a b c d e f g:AV}{x:Int}{t:Hp}{n:Bool}(k:Kb β):effK (stE 1 (.ptr 2 0 0 1) (.s (.int .i64 x)) (o0::o1 :: .arr 7 [[a,b,c,d,e,f,g]] true n::t)) (o0::o1 :: .arr 7 [[a,b,c,d,e,f,g]] true n::t) k=k .u (o0::o1 :: .arr 7 [[(.s (.int .i64 x)),b,c,d,e,f,g]] true n::t):=Z0N rfl k
theorem Z1y{o0:AObj}{o1:AObj}{a b c d e f g:AV}{x:Int}{t:Hp}{n:Bool}(k:AV→Hp→Ent→Option β):effD (stE 1 (.ptr 2 0 0 1) (.s (.int .i64 x)) (o0::o1 :: .arr 7 [[a,b,c,d,e,f,g]] true n::t)) (o0::o1 :: .arr 7 [[a,b,c,d,e,f,g]] true n::t) k=k .u (o0::o1 :: .arr 7 [[(.s (.int .i64 x)),b,c,d,e,f,g]] true n::t) ([2],[2]):=Z0h rfl k
theorem Z17{o0:AObj}{o1:AObj}{a b c d e f g:AV}{t:Hp}{w n:Bool}(k:K β):ldK 1 false (.ptr 2 0 1 1) (o0::o1 :: .arr 7 [[a,b,c,d,e,f,g]] w n::t) k=k b:=rfl
theorem Z18{o0:AObj}{o1:AObj}{a b c d e f g:AV}{x:Int}{t:Hp}{n:Bool}(k:Kb β):effK (stE 1 (.ptr 2 0 1 1) (.s (.int .i64 x)) (o0::o1 :: .arr 7 [[a,b,c,d,e,f,g]] true n::t)) (o0::o1 :: .arr 7 [[a,b,c,d,e,f,g]] true n::t) k=k .u (o0::o1 :: .arr 7 [[a,(.s (.int .i64 x)),c,d,e,f,g]] true n::t):=Z0N rfl k
theorem Z1z{o0:AObj}{o1:AObj}{a b c d e f g:AV}{x:Int}{t:Hp}{n:Bool}(k:AV→Hp→Ent→Option β):effD (stE 1 (.ptr 2 0 1 1) (.s (.int .i64 x)) (o0::o1 :: .arr 7 [[a,b,c,d,e,f,g]] true n::t)) (o0::o1 :: .arr 7 [[a,b,c,d,e,f,g]] true n::t) k=k .u (o0::o1 :: .arr 7 [[a,(.s (.int .i64 x)),c,d,e,f,g]] true n::t) ([2],[2]):=Z0h rfl k
theorem Z1A{o0:AObj}{o1:AObj}{a b c d e f g:AV}{t:Hp}{w n:Bool}(k:K β):ldK 1 false (.ptr 2 0 2 1) (o0::o1 :: .arr 7 [[a,b,c,d,e,f,g]] w n::t) k=k c:=rfl
theorem Z1B{o0:AObj}{o1:AObj}{a b c d e f g:AV}{x:Int}{t:Hp}{n:Bool}(k:Kb β):effK (stE 1 (.ptr 2 0 2 1) (.s (.int .i64 x)) (o0::o1 :: .arr 7 [[a,b,c,d,e,f,g]] true n::t)) (o0::o1 :: .arr 7 [[a,b,c,d,e,f,g]] true n::t) k=k .u (o0::o1 :: .arr 7 [[a,b,(.s (.int .i64 x)),d,e,f,g]] true n::t):=Z0N rfl k
theorem Z1C{o0:AObj}{o1:AObj}{a b c d e f g:AV}{x:Int}{t:Hp}{n:Bool}(k:AV→Hp→Ent→Option β):effD (stE 1 (.ptr 2 0 2 1) (.s (.int .i64 x)) (o0::o1 :: .arr 7 [[a,b,c,d,e,f,g]] true n::t)) (o0::o1 :: .arr 7 [[a,b,c,d,e,f,g]] true n::t) k=k .u (o0::o1 :: .arr 7 [[a,b,(.s (.int .i64 x)),d,e,f,g]] true n::t) ([2],[2]):=Z0h rfl k
theorem Z1D{o0:AObj}{o1:AObj}{a b c d e f g:AV}{t:Hp}{w n:Bool}(k:K β):ldK 1 false (.ptr 2 0 3 1) (o0::o1 :: .arr 7 [[a,b,c,d,e,f,g]] w n::t) k=k d:=rfl
theorem Z1E{o0:AObj}{o1:AObj}{a b c d e f g:AV}{x:Int}{t:Hp}{n:Bool}(k:Kb β):effK (stE 1 (.ptr 2 0 3 1) (.s (.int .i64 x)) (o0::o1 :: .arr 7 [[a,b,c,d,e,f,g]] true n::t)) (o0::o1 :: .arr 7 [[a,b,c,d,e,f,g]] true n::t) k=k .u (o0::o1 :: .arr 7 [[a,b,c,(.s (.int .i64 x)),e,f,g]] true n::t):=Z0N rfl k
theorem Z1F{o0:AObj}{o1:AObj}{a b c d e f g:AV}{x:Int}{t:Hp}{n:Bool}(k:AV→Hp→Ent→Option β):effD (stE 1 (.ptr 2 0 3 1) (.s (.int .i64 x)) (o0::o1 :: .arr 7 [[a,b,c,d,e,f,g]] true n::t)) (o0::o1 :: .arr 7 [[a,b,c,d,e,f,g]] true n::t) k=k .u (o0::o1 :: .arr 7 [[a,b,c,(.s (.int .i64 x)),e,f,g]] true n::t) ([2],[2]):=Z0h rfl k
theorem Z1G{o0:AObj}{o1:AObj}{a b c d e f g:AV}{t:Hp}{w n:Bool}(k:K β):ldK 1 false (.ptr 2 0 4 1) (o0::o1 :: .arr 7 [[a,b,c,d,e,f,g]] w n::t) k=k e:=rfl
theorem Z1H{o0:AObj}{o1:AObj}{a b c d e f g:AV}{x:Int}{t:Hp}{n:Bool}(k:Kb β):effK (stE 1 (.ptr 2 0 4 1) (.s (.int .i64 x)) (o0::o1 :: .arr 7 [[a,b,c,d,e,f,g]] true n::t)) (o0::o1 :: .arr 7 [[a,b,c,d,e,f,g]] true n::t) k=k .u (o0::o1 :: .arr 7 [[a,b,c,d,(.s (.int .i64 x)),f,g]] true n::t):=Z0N rfl k
theorem Z1I{o0:AObj}{o1:AObj}{a b c d e f g:AV}{x:Int}{t:Hp}{n:Bool}(k:AV→Hp→Ent→Option β):effD (stE 1 (.ptr 2 0 4 1) (.s (.int .i64 x)) (o0::o1 :: .arr 7 [[a,b,c,d,e,f,g]] true n::t)) (o0::o1 :: .arr 7 [[a,b,c,d,e,f,g]] true n::t) k=k .u (o0::o1 :: .arr 7 [[a,b,c,d,(.s (.int .i64 x)),f,g]] true n::t) ([2],[2]):=Z0h rfl k
theorem Z1J{o0:AObj}{o1:AObj}{a b c d e f g:AV}{t:Hp}{w n:Bool}(k:K β):ldK 1 false (.ptr 2 0 5 1) (o0::o1 :: .arr 7 [[a,b,c,d,e,f,g]] w n::t) k=k f:=rfl
theorem Z1K{o0:AObj}{o1:AObj}{a b c d e f g:AV}{x:Int}{t:Hp}{n:Bool}(k:Kb β):effK (stE 1 (.ptr 2 0 5 1) (.s (.int .i64 x)) (o0::o1 :: .arr 7 [[a,b,c,d,e,f,g]] true n::t)) (o0::o1 :: .arr 7 [[a,b,c,d,e,f,g]] true n::t) k=k .u (o0::o1 :: .arr 7 [[a,b,c,d,e,(.s (.int .i64 x)),g]] true n::t):=Z0N rfl k
theorem Z1L{o0:AObj}{o1:AObj}{a b c d e f g:AV}{x:Int}{t:Hp}{n:Bool}(k:AV→Hp→Ent→Option β):effD (stE 1 (.ptr 2 0 5 1) (.s (.int .i64 x)) (o0::o1 :: .arr 7 [[a,b,c,d,e,f,g]] true n::t)) (o0::o1 :: .arr 7 [[a,b,c,d,e,f,g]] true n::t) k=k .u (o0::o1 :: .arr 7 [[a,b,c,d,e,(.s (.int .i64 x)),g]] true n::t) ([2],[2]):=Z0h rfl k
theorem Z1M{o0:AObj}{o1:AObj}{a b c d e f g:AV}{t:Hp}{w n:Bool}(k:K β):ldK 1 false (.ptr 2 0 6 1) (o0::o1 :: .arr 7 [[a,b,c,d,e,f,g]] w n::t) k=k g:=rfl
theorem Z1N{o0:AObj}{o1:AObj}{a b c d e f g:AV}{x:Int}{t:Hp}{n:Bool}(k:Kb β):effK (stE 1 (.ptr 2 0 6 1) (.s (.int .i64 x)) (o0::o1 :: .arr 7 [[a,b,c,d,e,f,g]] true n::t)) (o0::o1 :: .arr 7 [[a,b,c,d,e,f,g]] true n::t) k=k .u (o0::o1 :: .arr 7 [[a,b,c,d,e,f,(.s (.int .i64 x))]] true n::t):=Z0N rfl k
theorem Z1O{o0:AObj}{o1:AObj}{a b c d e f g:AV}{x:Int}{t:Hp}{n:Bool}(k:AV→Hp→Ent→Option β):effD (stE 1 (.ptr 2 0 6 1) (.s (.int .i64 x)) (o0::o1 :: .arr 7 [[a,b,c,d,e,f,g]] true n::t)) (o0::o1 :: .arr 7 [[a,b,c,d,e,f,g]] true n::t) k=k .u (o0::o1 :: .arr 7 [[a,b,c,d,e,f,(.s (.int .i64 x))]] true n::t) ([2],[2]):=Z0h rfl k
theorem lw7_2{o0:AObj}{o1:AObj}{a b c d e f g:AV}{t:Hp}{w n:Bool}(k:K β):ldK 7 true (.ptr 2 0 0 1) (o0::o1 :: .arr 7 [[a,b,c,d,e,f,g]] w n::t) k=k (.agg [a,b,c,d,e,f,g]):=rfl
theorem ew7_2{o0:AObj}{o1:AObj}{a b c d e f g:AV}{x0 x1 x2 x3 x4 x5 x6:Int}{t:Hp}{n:Bool}(k:Kb β):effK (stE 7 (.ptr 2 0 0 1) (.agg [(.s (.int .i64 x0)),(.s (.int .i64 x1)),(.s (.int .i64 x2)),(.s (.int .i64 x3)),(.s (.int .i64 x4)),(.s (.int .i64 x5)),(.s (.int .i64 x6))]) (o0::o1 :: .arr 7 [[a,b,c,d,e,f,g]] true n::t)) (o0::o1 :: .arr 7 [[a,b,c,d,e,f,g]] true n::t) k=k .u (o0::o1 :: .arr 7 [[(.s (.int .i64 x0)),(.s (.int .i64 x1)),(.s (.int .i64 x2)),(.s (.int .i64 x3)),(.s (.int .i64 x4)),(.s (.int .i64 x5)),(.s (.int .i64 x6))]] true n::t):=Z0N rfl k
theorem bx7_2{o0:AObj}{o1:AObj}{x0 x1 x2 x3 x4 x5 x6:Int}(k:Kb β):effK (boxE 7 (.agg [(.s (.int .i64 x0)),(.s (.int .i64 x1)),(.s (.int .i64 x2)),(.s (.int .i64 x3)),(.s (.int .i64 x4)),(.s (.int .i64 x5)),(.s (.int .i64 x6))]) ([o0,o1]:Hp).length) [o0,o1] k=k (.ptr 2 0 0 1) [o0,o1,.arr 7 [[(.s (.int .i64 x0)),(.s (.int .i64 x1)),(.s (.int .i64 x2)),(.s (.int .i64 x3)),(.s (.int .i64 x4)),(.s (.int .i64 x5)),(.s (.int .i64 x6))]] true false]:=rfl
theorem Z2k{o0:AObj}{o1:AObj}{o2:AObj}{a b c d e f g:AV}{t:Hp}{w n:Bool}(k:K β):ldK 1 false (.ptr 3 0 0 1) (o0::o1::o2 :: .arr 7 [[a,b,c,d,e,f,g]] w n::t) k=k a:=rfl
theorem Z2l{o0:AObj}{o1:AObj}{o2:AObj}{a b c d e f g:AV}{x:Int}{t:Hp}{n:Bool}(k:Kb β):effK (stE 1 (.ptr 3 0 0 1) (.s (.int .i64 x)) (o0::o1::o2 :: .arr 7 [[a,b,c,d,e,f,g]] true n::t)) (o0::o1::o2 :: .arr 7 [[a,b,c,d,e,f,g]] true n::t) k=k .u (o0::o1::o2 :: .arr 7 [[(.s (.int .i64 x)),b,c,d,e,f,g]] true n::t):=Z0N rfl k
theorem Z2m{o0:AObj}{o1:AObj}{o2:AObj}{a b c d e f g:AV}{x:Int}{t:Hp}{n:Bool}(k:AV→Hp→Ent→Option β):effD (stE 1 (.ptr 3 0 0 1) (.s (.int .i64 x)) (o0::o1::o2 :: .arr 7 [[a,b,c,d,e,f,g]] true n::t)) (o0::o1::o2 :: .arr 7 [[a,b,c,d,e,f,g]] true n::t) k=k .u (o0::o1::o2 :: .arr 7 [[(.s (.int .i64 x)),b,c,d,e,f,g]] true n::t) ([3],[3]):=Z0h rfl k
theorem Z2n{o0:AObj}{o1:AObj}{o2:AObj}{a b c d e f g:AV}{t:Hp}{w n:Bool}(k:K β):ldK 1 false (.ptr 3 0 1 1) (o0::o1::o2 :: .arr 7 [[a,b,c,d,e,f,g]] w n::t) k=k b:=rfl
theorem Z2o{o0:AObj}{o1:AObj}{o2:AObj}{a b c d e f g:AV}{x:Int}{t:Hp}{n:Bool}(k:Kb β):effK (stE 1 (.ptr 3 0 1 1) (.s (.int .i64 x)) (o0::o1::o2 :: .arr 7 [[a,b,c,d,e,f,g]] true n::t)) (o0::o1::o2 :: .arr 7 [[a,b,c,d,e,f,g]] true n::t) k=k .u (o0::o1::o2 :: .arr 7 [[a,(.s (.int .i64 x)),c,d,e,f,g]] true n::t):=Z0N rfl k
theorem Z2p{o0:AObj}{o1:AObj}{o2:AObj}{a b c d e f g:AV}{x:Int}{t:Hp}{n:Bool}(k:AV→Hp→Ent→Option β):effD (stE 1 (.ptr 3 0 1 1) (.s (.int .i64 x)) (o0::o1::o2 :: .arr 7 [[a,b,c,d,e,f,g]] true n::t)) (o0::o1::o2 :: .arr 7 [[a,b,c,d,e,f,g]] true n::t) k=k .u (o0::o1::o2 :: .arr 7 [[a,(.s (.int .i64 x)),c,d,e,f,g]] true n::t) ([3],[3]):=Z0h rfl k
theorem Z2q{o0:AObj}{o1:AObj}{o2:AObj}{a b c d e f g:AV}{t:Hp}{w n:Bool}(k:K β):ldK 1 false (.ptr 3 0 2 1) (o0::o1::o2 :: .arr 7 [[a,b,c,d,e,f,g]] w n::t) k=k c:=rfl
theorem Z2r{o0:AObj}{o1:AObj}{o2:AObj}{a b c d e f g:AV}{x:Int}{t:Hp}{n:Bool}(k:Kb β):effK (stE 1 (.ptr 3 0 2 1) (.s (.int .i64 x)) (o0::o1::o2 :: .arr 7 [[a,b,c,d,e,f,g]] true n::t)) (o0::o1::o2 :: .arr 7 [[a,b,c,d,e,f,g]] true n::t) k=k .u (o0::o1::o2 :: .arr 7 [[a,b,(.s (.int .i64 x)),d,e,f,g]] true n::t):=Z0N rfl k
theorem Z2s{o0:AObj}{o1:AObj}{o2:AObj}{a b c d e f g:AV}{x:Int}{t:Hp}{n:Bool}(k:AV→Hp→Ent→Option β):effD (stE 1 (.ptr 3 0 2 1) (.s (.int .i64 x)) (o0::o1::o2 :: .arr 7 [[a,b,c,d,e,f,g]] true n::t)) (o0::o1::o2 :: .arr 7 [[a,b,c,d,e,f,g]] true n::t) k=k .u (o0::o1::o2 :: .arr 7 [[a,b,(.s (.int .i64 x)),d,e,f,g]] true n::t) ([3],[3]):=Z0h rfl k
theorem Z2t{o0:AObj}{o1:AObj}{o2:AObj}{a b c d e f g:AV}{t:Hp}{w n:Bool}(k:K β):ldK 1 false (.ptr 3 0 3 1) (o0::o1::o2 :: .arr 7 [[a,b,c,d,e,f,g]] w n::t) k=k d:=rfl
theorem Z2u{o0:AObj}{o1:AObj}{o2:AObj}{a b c d e f g:AV}{x:Int}{t:Hp}{n:Bool}(k:Kb β):effK (stE 1 (.ptr 3 0 3 1) (.s (.int .i64 x)) (o0::o1::o2 :: .arr 7 [[a,b,c,d,e,f,g]] true n::t)) (o0::o1::o2 :: .arr 7 [[a,b,c,d,e,f,g]] true n::t) k=k .u (o0::o1::o2 :: .arr 7 [[a,b,c,(.s (.int .i64 x)),e,f,g]] true n::t):=Z0N rfl k
theorem Z2v{o0:AObj}{o1:AObj}{o2:AObj}{a b c d e f g:AV}{x:Int}{t:Hp}{n:Bool}(k:AV→Hp→Ent→Option β):effD (stE 1 (.ptr 3 0 3 1) (.s (.int .i64 x)) (o0::o1::o2 :: .arr 7 [[a,b,c,d,e,f,g]] true n::t)) (o0::o1::o2 :: .arr 7 [[a,b,c,d,e,f,g]] true n::t) k=k .u (o0::o1::o2 :: .arr 7 [[a,b,c,(.s (.int .i64 x)),e,f,g]] true n::t) ([3],[3]):=Z0h rfl k
theorem Z2w{o0:AObj}{o1:AObj}{o2:AObj}{a b c d e f g:AV}{t:Hp}{w n:Bool}(k:K β):ldK 1 false (.ptr 3 0 4 1) (o0::o1::o2 :: .arr 7 [[a,b,c,d,e,f,g]] w n::t) k=k e:=rfl
theorem Z2x{o0:AObj}{o1:AObj}{o2:AObj}{a b c d e f g:AV}{x:Int}{t:Hp}{n:Bool}(k:Kb β):effK (stE 1 (.ptr 3 0 4 1) (.s (.int .i64 x)) (o0::o1::o2 :: .arr 7 [[a,b,c,d,e,f,g]] true n::t)) (o0::o1::o2 :: .arr 7 [[a,b,c,d,e,f,g]] true n::t) k=k .u (o0::o1::o2 :: .arr 7 [[a,b,c,d,(.s (.int .i64 x)),f,g]] true n::t):=Z0N rfl k
theorem Z2y{o0:AObj}{o1:AObj}{o2:AObj}{a b c d e f g:AV}{x:Int}{t:Hp}{n:Bool}(k:AV→Hp→Ent→Option β):effD (stE 1 (.ptr 3 0 4 1) (.s (.int .i64 x)) (o0::o1::o2 :: .arr 7 [[a,b,c,d,e,f,g]] true n::t)) (o0::o1::o2 :: .arr 7 [[a,b,c,d,e,f,g]] true n::t) k=k .u (o0::o1::o2 :: .arr 7 [[a,b,c,d,(.s (.int .i64 x)),f,g]] true n::t) ([3],[3]):=Z0h rfl k
theorem Z2z{o0:AObj}{o1:AObj}{o2:AObj}{a b c d e f g:AV}{t:Hp}{w n:Bool}(k:K β):ldK 1 false (.ptr 3 0 5 1) (o0::o1::o2 :: .arr 7 [[a,b,c,d,e,f,g]] w n::t) k=k f:=rfl
theorem Z2A{o0:AObj}{o1:AObj}{o2:AObj}{a b c d e f g:AV}{x:Int}{t:Hp}{n:Bool}(k:Kb β):effK (stE 1 (.ptr 3 0 5 1) (.s (.int .i64 x)) (o0::o1::o2 :: .arr 7 [[a,b,c,d,e,f,g]] true n::t)) (o0::o1::o2 :: .arr 7 [[a,b,c,d,e,f,g]] true n::t) k=k .u (o0::o1::o2 :: .arr 7 [[a,b,c,d,e,(.s (.int .i64 x)),g]] true n::t):=Z0N rfl k
theorem Z2B{o0:AObj}{o1:AObj}{o2:AObj}{a b c d e f g:AV}{x:Int}{t:Hp}{n:Bool}(k:AV→Hp→Ent→Option β):effD (stE 1 (.ptr 3 0 5 1) (.s (.int .i64 x)) (o0::o1::o2 :: .arr 7 [[a,b,c,d,e,f,g]] true n::t)) (o0::o1::o2 :: .arr 7 [[a,b,c,d,e,f,g]] true n::t) k=k .u (o0::o1::o2 :: .arr 7 [[a,b,c,d,e,(.s (.int .i64 x)),g]] true n::t) ([3],[3]):=Z0h rfl k
theorem Z2C{o0:AObj}{o1:AObj}{o2:AObj}{a b c d e f g:AV}{t:Hp}{w n:Bool}(k:K β):ldK 1 false (.ptr 3 0 6 1) (o0::o1::o2 :: .arr 7 [[a,b,c,d,e,f,g]] w n::t) k=k g:=rfl
theorem Z2D{o0:AObj}{o1:AObj}{o2:AObj}{a b c d e f g:AV}{x:Int}{t:Hp}{n:Bool}(k:Kb β):effK (stE 1 (.ptr 3 0 6 1) (.s (.int .i64 x)) (o0::o1::o2 :: .arr 7 [[a,b,c,d,e,f,g]] true n::t)) (o0::o1::o2 :: .arr 7 [[a,b,c,d,e,f,g]] true n::t) k=k .u (o0::o1::o2 :: .arr 7 [[a,b,c,d,e,f,(.s (.int .i64 x))]] true n::t):=Z0N rfl k
theorem Z2E{o0:AObj}{o1:AObj}{o2:AObj}{a b c d e f g:AV}{x:Int}{t:Hp}{n:Bool}(k:AV→Hp→Ent→Option β):effD (stE 1 (.ptr 3 0 6 1) (.s (.int .i64 x)) (o0::o1::o2 :: .arr 7 [[a,b,c,d,e,f,g]] true n::t)) (o0::o1::o2 :: .arr 7 [[a,b,c,d,e,f,g]] true n::t) k=k .u (o0::o1::o2 :: .arr 7 [[a,b,c,d,e,f,(.s (.int .i64 x))]] true n::t) ([3],[3]):=Z0h rfl k
theorem lw7_3{o0:AObj}{o1:AObj}{o2:AObj}{a b c d e f g:AV}{t:Hp}{w n:Bool}(k:K β):ldK 7 true (.ptr 3 0 0 1) (o0::o1::o2 :: .arr 7 [[a,b,c,d,e,f,g]] w n::t) k=k (.agg [a,b,c,d,e,f,g]):=rfl
theorem ew7_3{o0:AObj}{o1:AObj}{o2:AObj}{a b c d e f g:AV}{x0 x1 x2 x3 x4 x5 x6:Int}{t:Hp}{n:Bool}(k:Kb β):effK (stE 7 (.ptr 3 0 0 1) (.agg [(.s (.int .i64 x0)),(.s (.int .i64 x1)),(.s (.int .i64 x2)),(.s (.int .i64 x3)),(.s (.int .i64 x4)),(.s (.int .i64 x5)),(.s (.int .i64 x6))]) (o0::o1::o2 :: .arr 7 [[a,b,c,d,e,f,g]] true n::t)) (o0::o1::o2 :: .arr 7 [[a,b,c,d,e,f,g]] true n::t) k=k .u (o0::o1::o2 :: .arr 7 [[(.s (.int .i64 x0)),(.s (.int .i64 x1)),(.s (.int .i64 x2)),(.s (.int .i64 x3)),(.s (.int .i64 x4)),(.s (.int .i64 x5)),(.s (.int .i64 x6))]] true n::t):=Z0N rfl k
theorem bx7_3{o0:AObj}{o1:AObj}{o2:AObj}{x0 x1 x2 x3 x4 x5 x6:Int}(k:Kb β):effK (boxE 7 (.agg [(.s (.int .i64 x0)),(.s (.int .i64 x1)),(.s (.int .i64 x2)),(.s (.int .i64 x3)),(.s (.int .i64 x4)),(.s (.int .i64 x5)),(.s (.int .i64 x6))]) ([o0,o1,o2]:Hp).length) [o0,o1,o2] k=k (.ptr 3 0 0 1) [o0,o1,o2,.arr 7 [[(.s (.int .i64 x0)),(.s (.int .i64 x1)),(.s (.int .i64 x2)),(.s (.int .i64 x3)),(.s (.int .i64 x4)),(.s (.int .i64 x5)),(.s (.int .i64 x6))]] true false]:=rfl
end
abbrev SLm(b:Bool)(l:List Msg):AV := .lst 7 (b&&l.isEmpty) (l.map encM)
end Go.AM


namespace Go.AM
variable {β:Type}
theorem Z0i{op:BinOp}{x y:AV}{k:K β}{x' y':AV}(e_x:x=x')(e_y:y=y'):arithK op x y k=arithK op x' y' k:=by subst e_x e_y;rfl
theorem Z0j{P:Program}{neq:Bool}{ty:TypeId}{x y:AV}{h:Hp}{k:K β}{x' y':AV}{h':Hp}(e_x:x=x')(e_y:y=y')(e_h:h=h'):eqK P neq ty x y h k=eqK P neq ty x' y' h' k:=by subst e_x e_y e_h;rfl
theorem Z0k{x:AV}{k:K β}{x':AV}(e_x:x=x'):notK x k=notK x' k:=by subst e_x;rfl
theorem Z0l{P:Program}{a:TypeId}{b:TypeId}{x:AV}{k:K β}{x':AV}(e_x:x=x'):convK P a b x k=convK P a b x' k:=by subst e_x;rfl
theorem Z0m{c a b:AV}{k:K β}{c' a' b':AV}(e_c:c=c')(e_a:a=a')(e_b:b=b'):pickK c a b k=pickK c' a' b' k:=by subst e_c e_a e_b;rfl
theorem Z0n{z:List AV}{parts:List (Option (Nat × Nat) × AV)}{k:K β}{z':List AV}(e_z:z=z'):buildK z parts k=buildK z' parts k:=by subst e_z;rfl
theorem Z0o{n:Nat}{agg:Bool}{p:AV}{h:Hp}{k:K β}{p':AV}{h':Hp}(e_p:p=p')(e_h:h=h'):ldK n agg p h k=ldK n agg p' h' k:=by subst e_p e_h;rfl
theorem Z0p{x:AV}{k:K β}{x':AV}(e_x:x=x'):nilK x k=nilK x' k:=by subst e_x;rfl
theorem Z0q{n:Nat}{x:AV}{lo:Option AV}{hi:Option AV}{mx:Option AV}{k:K β}{x':AV}(e_x:x=x'):sliceK n x lo hi mx k=sliceK n x' lo hi mx k:=by subst e_x;rfl
theorem Z0r{off:Nat}{p:AV}{k:K β}{p':AV}(e_p:p=p'):faK off p k=faK off p' k:=by subst e_p;rfl
theorem Z0s{n:Nat}{agg:Bool}{off:Nat}{x:AV}{k:K β}{x':AV}(e_x:x=x'):fldK n agg off x k=fldK n agg off x' k:=by subst e_x;rfl
theorem Z0t{n:Nat}{x i:AV}{k:K β}{x' i':AV}(e_x:x=x')(e_i:i=i'):iaK n x i k=iaK n x' i' k:=by subst e_x e_i;rfl
theorem Z0u{n:Nat}{len:Nat}{x i:AV}{k:K β}{x' i':AV}(e_x:x=x')(e_i:i=i'):iaA n len x i k=iaA n len x' i' k:=by subst e_x e_i;rfl
theorem Z0v{P:Program}{kt:TypeId}{z:AV}{ok:Bool}{m kk:AV}{h:Hp}{k:K β}{z' m' kk':AV}{h':Hp}(e_z:z=z')(e_m:m=m')(e_kk:kk=kk')(e_h:h=h'):lookK P kt z ok m kk h k=lookK P kt z' ok m' kk' h' k:=by subst e_z e_m e_kk e_h;rfl
theorem Z0w{x:AV}{k:K β}{x':AV}(e_x:x=x'):capK x k=capK x' k:=by subst e_x;rfl
theorem Z0x{x:AV}{i:Nat}{k:K β}{x':AV}(e_x:x=x'):exK x i k=exK x' i k:=by subst e_x;rfl
theorem Z0y{x:AV}{k:K β}{x':AV}(e_x:x=x'):lenK x k=lenK x' k:=by subst e_x;rfl
theorem Z0z{x y:AV}{k:K β}{x' y':AV}(e_x:x=x')(e_y:y=y'):minK x y k=minK x' y' k:=by subst e_x e_y;rfl
theorem Z0A{x y:AV}{k:K β}{x' y':AV}(e_x:x=x')(e_y:y=y'):maxK x y k=maxK x' y' k:=by subst e_x e_y;rfl
theorem Z0B{r:R}{h:Hp}{k:Kb β}{r':R}{h':Hp}(e_r:r=r')(e_h:h=h'):effK r h k=effK r' h' k:=by subst e_r e_h;rfl
theorem Z0C{F:Option Fun}{args:List AV}{h:Hp}{k:Kb β}{F':Option Fun}{args':List AV}{h':Hp}(e_F:F=F')(e_args:args=args')(e_h:h=h'):callK F args h k=callK F' args' h' k:=by subst e_F e_args e_h;rfl
theorem Z0D{T:Tab}{f:AV}{args:List AV}{h:Hp}{k:Kb β}{T':Tab}{f':AV}{args':List AV}{h':Hp}(e_T:T=T')(e_f:f=f')(e_args:args=args')(e_h:h=h'):callVK T f args h k=callVK T' f' args' h' k:=by subst e_T e_f e_args e_h;rfl
theorem Z0E{r:R}{h:Hp}{k:AV→Hp→Ent→Option β}{r':R}{h':Hp}(e_r:r=r')(e_h:h=h'):effD r h k=effD r' h' k:=by subst e_r e_h;rfl
theorem Z0F{g:Option Bool}{h:Hp}{run:(AV→Hp→Ent→Option β)→Option β}{k:AV→Hp→Ent→Option β}{g':Option Bool}{h':Hp}(e_g:g=g')(e_h:h=h'):gopD g h run k=gopD g' h' run k:=by subst e_g e_h;rfl
theorem Z0G{want:Bool}{x:AV}{h:Hp}{run:(Kb β)→Option β}{k:Kb β}{x':AV}{h':Hp}{run':(Kb β)→Option β}(e_x:x=x')(e_h:h=h')(e_run:∀K,run K=run' K):grpK want x h run k=grpK want x' h' run' k:=by
 have:run=run':=funext e_run
 subst e_x e_h this;rfl
theorem Z0H{c:AV}{a:Option β}{b:Option β}{c':AV}(e_c:c=c'):condK c a b=condK c' a b:=by subst e_c;rfl
theorem Z0I{α:Type}{c c':Bool}{a b:α}(e:c=c'):cond c a b=cond c' a b:=by subst e;rfl
end Go.AM
end
