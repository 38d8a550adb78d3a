import Derived.Test.YtgmfphialjcpcaaG3
import Derived.Shelf.RegionOpenPlain
import Derived.WalkKit
import Derived.Lib.Walk
import Derived.Lib.SliceRun
import Derived.Lib.JoinLaws
import Derived.Lib.AppendZerosOnto
import Derived.Lib.Overlaps
import Derived.Laws.Externs
import Derived.Laws.IdiomCopy
import Derived.Laws.NewBlocks
import Derived.Laws.CopyRow
import Derived.Test.YtgmfphialjcpcaaProg
import Derived.Shelf.SlSortCmp.NoneTotal
set_option linter.unusedSectionVars false
set_option linter.unusedVariables false
set_option linter.unusedSimpArgs false
set_option linter.constructorNameAsVariable false
namespace Go.AM
open Go.RowKit
set_option linter.unusedVariables false
set_option linter.unusedSimpArgs false
set_option linter.constructorNameAsVariable false
variable {P:Program} {μ μ':Mu} {h h' h1:Hp} {w w':World}
def Near (h h1:Hp):Prop:=h1.length=h.length∧∀(id:Nat) (o:AObj),h[id]? = some o→h1[id]? = some o∨∃sz es es' own nil,o = .arr sz es own nil∧h1[id]? = some (.arr sz es' own nil)∧es'.length=es.length∧∀e ∈ es',∀c ∈ e,plain c=true
theorem Near.back (n:Near h h1) {id:Nat} {o:AObj} (ho:h1[id]? = some o):h[id]? = some o∨∃sz es es' own nil,o = .arr sz es' own nil∧h[id]? = some (.arr sz es own nil)∧es'.length=es.length∧∀e ∈ es',∀c ∈ e,plain c=true:=by
 have hl:id<h.length:=by rw [← n.1];exact (List.getElem?_eq_some_iff.1 ho).1
 have hh:h[id]? = some h[id]:=List.getElem?_eq_getElem hl
 rcases n.2 id _ hh with h2 | ⟨sz,es,es',own,nil,h2,h3,h4,h5⟩
 ·left
  rw [h2] at ho
  rw [hh];exact ho
 ·right
  rw [h3] at ho
  injection ho with ho
  exact ⟨sz,es,es',own,nil,ho.symm,by rw [hh,h2],h4,h5⟩
theorem Step.forget2 {g:List AObj} (R:Rel μ h w) (n:Near h h1) (S:Step μ h w μ' (h1++g) w'):Step μ h w (μ.mix μ') h1 w'∧Ext (μ.mix μ') h1 μ' (h1++g):=by
 have hin:∀i o,h1[i]? = some o→(h1++g)[i]? = some o:=fun i o hi=>by
  rw [List.getElem?_append_left (List.getElem?_eq_some_iff.1 hi).1];exact hi
 have hloc:∀(id:Nat) (o:AObj),h[id]? = some o→o ≠ .dead→μ' id=μ id:=by
  intro id o ho hd
  have:=S.evo.obj id o ho
  cases o with
  | dead=>exact absurd rfl hd
  | loop m ps asg body ts st pend=>obtain ⟨_,_,_,h2⟩:=this;exact h2
  | iter m n seen=>obtain ⟨_,_,h2⟩:=this;exact h2
  | map kvs=>obtain ⟨_,_,h2⟩:=this;exact h2
  | arr sz es own nil=>
   obtain ⟨es',nil',q1,q2,q3⟩:=this
   rcases n.2 id _ ho with h2 | ⟨sz2,es2,es3,own2,nil2,h2,h3,h4,h5⟩
   ·rw [hin _ _ h2] at q1
    injection q1 with q1
    injection q1 with e1 e2 e3 e4
    exact q3 (by rw [e2])
   ·rw [hin _ _ h3] at q1
    injection q1 with q1
    injection q1 with e1 e2 e3 e4
    injection h2 with f1 f2 f3 f4
    exact q3 (by rw [← e2,h4,f2])
 have hloc1:∀(id:Nat) (o:AObj),h1[id]? = some o→o ≠ .dead→μ' id=μ id:=by
  intro id o ho hd
  rcases n.back ho with h2 | ⟨sz,es,es',own,nil,h2,h3,h4,h5⟩
  ·exact hloc id o h2 hd
  ·exact hloc id _ h3 (by simp)
 have he:Ext (μ.mix μ') h1 μ' (h1++g):=⟨fun k hk=>⟨hk,rfl⟩,fun id o ho=>⟨hin _ _ ho,fun hd=>hloc1 id o ho hd⟩⟩
 have hE:Evo μ h (μ.mix μ') h1:=by
  refine ⟨S.evo.imm,fun id o ho => ?_⟩
  rcases n.2 id _ ho with h2 | ⟨sz2,es2,es3,own2,nil2,rfl,h3,h4,h5⟩
  ·cases o with
   | dead=>trivial
   | loop m ps asg body ts st pend=>exact ⟨st,pend,h2,rfl⟩
   | iter m n seen=>exact ⟨seen,h2,rfl⟩
   | map kvs=>exact ⟨kvs,h2,rfl⟩
   | arr sz es own nil=>exact ⟨es,nil,h2,Nat.le_refl _,fun _=>rfl⟩
  ·exact ⟨es3,nil2,h3,by omega,fun _=>rfl⟩
 have hmu:∀i o b x c,h1[i]? = some o→isOwn o=true→(μ.mix μ') i = .real b x c→μ' i = .real b x c:=fun i o b x c p1 p2 p3=>by
  rw [hloc1 i o p1 (by rintro rfl;simp [isOwn] at p2)];exact p3
 have hown:∀b,Own (μ.mix μ') h1 b→Own μ' (h1++g) b:=by
  rintro b ⟨id,o,x,c,p1,p2,p3⟩
  exact ⟨id,o,x,c,hin _ _ p1,p2,hmu _ _ _ _ _ p1 p2 p3⟩
 have hown0:∀b,Own (μ.mix μ') h1 b→Own μ h b:=by
  rintro b ⟨id,o,x,c,p1,p2,p3⟩
  rcases n.back p1 with h2 | ⟨sz,es,es',own,nil,rfl,h3,h4,h5⟩
  ·exact ⟨id,o,x,c,h2,p2,p3⟩
  ·exact ⟨id,_,x,c,h3,p2,p3⟩
 refine ⟨⟨⟨fun id o ho => ?_, ?_, ?_, ?_⟩,hE,S.frame,fun b hb => .inl (hown0 b hb),S.fresh⟩,he⟩
 ·have H:=S.rel.obj id o (hin _ _ ho)
  rcases n.back ho with h2 | ⟨sz,es,es',own,nil,rfl,h3,h4,h5⟩
  ·exact ORel.back he ho (w:=w) (ORel.mono hE rfl (fun _ _ _ _=>rfl) (Nat.le_refl _) (R.obj id o h2)) H
  ·refine ⟨H.1, ?_⟩
   have H2:=H.2
   have hm:μ' id=(μ.mix μ') id:=hloc1 id _ ho (by simp)
   rw [← hm]
   cases hmu2:μ' id with
   | virt A=>rw [hmu2] at H2;exact H2
   | real blk x c=>
    rw [hmu2] at H2
    obtain ⟨q1,q2,q3,q4,q5,q6⟩:=H2
    refine ⟨q1,q2,q3,q4,fun i e j a p q => ?_,q6⟩
    obtain ⟨v,r1,r2,r3⟩:=q5 i e j a p q
    exact ⟨v,r1,r2,Z21 he.imm (h5 e (List.mem_of_getElem? p) a (List.mem_of_getElem? q)) r3⟩
 ·intro i j o p b x c y d hi hj hoi hpj hmi hmj
  exact S.rel.sep i j o p b x c y d (hin _ _ hi) (hin _ _ hj) hoi hpj (hmu _ _ _ _ _ hi hoi hmi) (hmu _ _ _ _ _ hj hpj hmj)
 ·intro i sz es nil b x c hi hmi hO
  rcases n.back hi with h2 | ⟨sz2,es2,es3,own2,nil2,h2,h3,h4,h5⟩
  ·exact R.apart i sz es nil b x c h2 hmi (hown0 b hO)
  ·injection h2 with f1 f2 f3 f4
   subst f1 f3 f4
   exact R.apart i _ es2 _ b x c h3 hmi (hown0 b hO)
 ·intro k hk
  obtain ⟨p1,p2,p3⟩:=S.rel.imm k hk
  exact ⟨p1,p2,fun hO=>p3 (hown k hO)⟩
def Writes (F:Fun) (id:Nat) (x:AV) (sz:Nat) (xs zs:List AV):Prop:=
 (∀c ∈ zs,plain c=true)∧∀H:Hp,H[id]? = some (.arr sz [xs] true false)→∃g,F [.ptr id 0 0 1,x] H=some (.tup [],H.set id (.arr sz [zs] true false)++g)
open Classical in
noncomputable def wrD (F:Fun):DFun:=fun args h base=>match args with
 | [.ptr id 0 0 1,x]=>match h[id]? with
  | some (.arr sz [xs] true false)=>if hx:∃zs,Writes F id x sz xs zs then some (.tup [],⟨[(id, .arr sz [hx.choose] true false)],[],[id]⟩) else none
  | _=>none
 | _=>none
theorem Writes.unique {F:Fun} {id:Nat} {x:AV} {sz:Nat} {xs zs ys:List AV} {h:Hp} (hid:h[id]? = some (.arr sz [xs] true false)) (h1:Writes F id x sz xs zs) (h2:Writes F id x sz xs ys):zs=ys:=by
 obtain ⟨g1,e1⟩:=h1.2 h hid
 obtain ⟨g2,e2⟩:=h2.2 h hid
 rw [e1] at e2
 injection e2 with e2
 injection e2 with _ e2
 have hl:=(List.getElem?_eq_some_iff.1 hid).1
 have:=congrArg (fun l:Hp=>l[id]?) e2
 rw [List.getElem?_append_left (by simpa using hl),List.getElem?_append_left (by simpa using hl),List.getElem?_set_self hl,List.getElem?_set_self hl] at this
 injection this with this
 injection this with _ this
 injection this
theorem Zmq {F:Fun} {id:Nat} {x:AV} {sz:Nat} {xs zs:List AV} {h:Hp} (hid:h[id]? = some (.arr sz [xs] true false)) (hw:Writes F id x sz xs zs) (base:Nat):wrD F [.ptr id 0 0 1,x] h base=some (.tup [],⟨[(id, .arr sz [zs] true false)],[],[id]⟩):=by
 have hx:∃zs,Writes F id x sz xs zs:=⟨zs,hw⟩
 simp only [wrD,hid]
 rw [dif_pos hx,Writes.unique hid hx.choose_spec hw]
theorem ZbO {F:Fun} {args:List AV} {h:Hp} {base:Nat} {v:AV} {e:Eff} (hk:wrD F args h base=some (v,e)):∃id x sz xs zs,args=[.ptr id 0 0 1,x]∧h[id]? = some (.arr sz [xs] true false)∧Writes F id x sz xs zs∧v = .tup []∧e=⟨[(id, .arr sz [zs] true false)],[],[id]⟩:=by
 unfold wrD at hk
 split at hk<;>try (simp at hk;done)
 rename_i id x
 split at hk<;>try (simp at hk;done)
 rename_i sz xs hid
 split at hk<;>try (simp at hk;done)
 rename_i hx
 simp only [Option.some.injEq,Prod.mk.injEq] at hk
 exact ⟨id,x,sz,xs,hx.choose,rfl,hid,hx.choose_spec,hk.1.symm,hk.2.symm⟩
theorem Zmr (F:Fun):DLoc (wrD F):=by
 refine ⟨fun args h base v e hk H hag => ?_,fun args h base v e hk p hp => ?_⟩
 ·obtain ⟨id,x,sz,xs,zs,rfl,hid,hw,rfl,rfl⟩:=ZbO hk
  exact Zmq (hag id (by simp) _ hid) hw base
 ·obtain ⟨id,x,sz,xs,zs,rfl,hid,hw,rfl,rfl⟩:=ZbO hk
  simp only [List.mem_singleton] at hp
  subst hp
  exact ⟨_,hid,by simp⟩
theorem Zms {F:Fun} {f:FuncId} (hc:CSound P f F):DCalls P f (wrD F):=by
 intro args h base v e hk hd μ w cargs R hargs
 obtain ⟨id,x,sz,xs,zs,rfl,hid,hw,rfl,rfl⟩:=ZbO hk
 obtain ⟨g,hg⟩:=hw.2 h hid
 obtain ⟨hgo,hcall⟩:=hc _ _ _ _ hg μ w cargs R hargs
 refine ⟨hgo,Calls.mono hcall ?_⟩
 rintro en w' ⟨cv,μ',rfl,hst,hv⟩
 have hl:=(List.getElem?_eq_some_iff.1 hid).1
 have hn:Near h (h.set id (.arr sz [zs] true false)):=by
  refine ⟨by simp,fun j o ho => ?_⟩
  by_cases hj:id=j
  ·subst hj
   rw [hid] at ho
   injection ho with ho
   subst ho
   right
   refine ⟨sz,[xs],[zs],true,false,rfl,by rw [List.getElem?_set_self hl],rfl, ?_⟩
   intro e he c hc
   simp only [List.mem_singleton] at he
   subst he
   exact hw.1 c hc
  ·left
   rw [List.getElem?_set_ne hj]
   exact ho
 obtain ⟨h1,h2⟩:=Step.forget2 R hn hst
 exact ⟨cv,_,rfl,by simpa [apAt] using h1,Z21 h2.imm rfl hv⟩
theorem DSound.wr {D:DTab} (DS:DSound P D) {f:Nat} {F:Fun} (hc:CSound P f F):DSound P (updD D f (wrD F)):=DS.upd (Zmr F) (Zms hc)
end Go.AM


namespace Go.AM
open Go.RowKit
set_option linter.unusedVariables false
set_option linter.unusedSimpArgs false
set_option linter.constructorNameAsVariable false
variable {P:Program} {μ μ':Mu} {h h' h1:Hp} {w w':World}
theorem Step.move {g:List AObj} {base k sz len fr:Nat} {es:List (List AV)} {nil full:Bool} {cv:Value} (R:Rel μ h w) (S:Step μ h w μ' (h++g) w') (hd:h[base]? = some .dead) (hk:g[k]? = some (.arr sz es true nil)) (hp:∀e ∈ es,∀c ∈ e,plain c=true) (hv:VR μ' (h++g) (.sl sz (h.length+k) 0 len fr full) cv):
  ∃ν,Step μ h w ν (h.set base (.arr sz es true nil)) w'∧VR ν (h.set base (.arr sz es true nil)) (.sl sz base 0 len fr full) cv∧ImmLe μ' ν:=by
 obtain ⟨S1,he⟩:=Step.forget R S
 have hbl:base<h.length:=(List.getElem?_eq_some_iff.1 hd).1
 have hgk:(h++g)[h.length+k]? = some (.arr sz es true nil):=by
  rw [List.getElem?_append_right (by omega)]
  rw [show h.length+k-h.length=k by omega];exact hk
 have hin:∀i o,h[i]? = some o→(h++g)[i]? = some o:=fun i o hi=>by
  rw [List.getElem?_append_left (List.getElem?_eq_some_iff.1 hi).1];exact hi
 obtain ⟨ν,hν⟩:∃ν,ν=(μ.mix μ').set base (μ' (h.length+k)):=⟨_,rfl⟩
 have nb:ν base=μ' (h.length+k):=by rw [hν];simp
 have nn:∀i,i≠base→ν i=(μ.mix μ') i:=fun i hi=>by rw [hν];simp [hi]
 have gs:(h.set base (.arr sz es true nil))[base]? = some (.arr sz es true nil):=List.getElem?_set_self hbl
 have gn:∀i,i≠base→(h.set base (.arr sz es true nil))[i]? = h[i]? := fun i hi=>List.getElem?_set_ne (Ne.symm hi)
 have himm:ImmLe μ' ν:=fun k hk=>by rw [hν];exact he.imm k hk
 have hE:Evo (μ.mix μ') h ν (h.set base (.arr sz es true nil)):=by
  refine ⟨fun k hk=>by rw [hν];exact ⟨hk,rfl⟩,fun id o ho => ?_⟩
  by_cases hib:id=base
  ·subst hib
   rw [hd] at ho
   injection ho with ho
   subst ho
   trivial
  ·have hg:=(gn id hib).trans ho
   have hl:=nn id hib
   cases o with
   | dead=>trivial
   | loop m ps asg body ts st pend=>exact ⟨st,pend,hg,hl⟩
   | iter m n seen=>exact ⟨seen,hg,hl⟩
   | map kvs=>exact ⟨kvs,hg,hl⟩
   | arr sz es own nil=>exact ⟨es,nil,hg,Nat.le_refl _,fun _=>hl⟩
 have hown:∀b,Own ν (h.set base (.arr sz es true nil)) b→Own μ' (h++g) b:=by
  rintro b ⟨id,o,x,c,p1,p2,p3⟩
  by_cases hib:id=base
  ·subst hib
   rw [gs] at p1
   injection p1 with p1
   subst p1
   exact ⟨h.length+k,_,x,c,hgk,rfl,by rw [← nb];exact p3⟩
  ·rw [gn id hib] at p1
   rw [nn id hib] at p3
   refine ⟨id,o,x,c,hin _ _ p1,p2, ?_⟩
   rw [(he.obj id o p1).2 (by rintro rfl;simp [isOwn] at p2)]
   exact p3
 have hmu:∀i o b x c,i≠base→(h.set base (.arr sz es true nil))[i]? = some o→o ≠ .dead→ν i = .real b x c→(h++g)[i]? = some o∧μ' i = .real b x c:=fun i o b x c hi p1 p2 p3=>by
  rw [gn i hi] at p1
  rw [nn i hi] at p3
  exact ⟨hin _ _ p1,by rw [(he.obj i o p1).2 p2];exact p3⟩
 refine ⟨ν,⟨⟨fun id o ho => ?_, ?_, ?_, ?_⟩, ?_,S.frame,fun b hb=>S.own b (hown b hb),fun k hk=>S.fresh k (by rw [hν] at hk;exact hk)⟩, ?_,himm⟩
 ·by_cases hib:id=base
  ·subst hib
   rw [gs] at ho
   injection ho with ho
   subst ho
   have H:=S.rel.obj _ _ hgk
   refine ⟨H.1, ?_⟩
   have H2:=H.2
   rw [nb]
   cases hm:μ' (h.length+k) with
   | virt A=>rw [hm] at H2;exact H2
   | real blk x c=>
    rw [hm] at H2
    obtain ⟨q1,q2,q3,q4,q5,q6⟩:=H2
    refine ⟨q1,q2,q3,q4,fun i e j a p q => ?_,q6⟩
    obtain ⟨v,r1,r2,r3⟩:=q5 i e j a p q
    exact ⟨v,r1,r2,Z21 himm (hp e (List.mem_of_getElem? p) a (List.mem_of_getElem? q)) r3⟩
  ·rw [gn id hib] at ho
   exact ORel.mono hE (nn id hib) (fun _ _ _ _=>rfl) (Nat.le_refl _) (S1.rel.obj id o ho)
 ·intro i j o p b x c y d hi hj hoi hpj hmi hmj
  have fin:∀(j:Nat) (p:AObj) (y d x c:Nat),j≠base→(h.set base (.arr sz es true nil))[j]? = some p→isOwn p=true→ν j = .real b y d→ν base = .real b x c→False:=fun j p y d x c hjb hj hpj hmj hmb=>by
   obtain ⟨r1,r2⟩:=hmu j p b y d hjb hj (by rintro rfl;simp [isOwn] at hpj) hmj
   have:=S.rel.sep (h.length+k) j _ p b x c y d hgk r1 rfl hpj (by rw [← nb];exact hmb) r2
   rw [gn j hjb] at hj
   have:=(List.getElem?_eq_some_iff.1 hj).1
   omega
  by_cases hib:i=base
  ·by_cases hjb:j=base
   ·rw [hib,hjb]
   ·subst hib
    exact (fin j p y d x c hjb hj hpj hmj hmi).elim
  ·by_cases hjb:j=base
   ·subst hjb
    exact (fin i o x c y d hib hi hoi hmi hmj).elim
   ·obtain ⟨r1,r2⟩:=hmu i o b x c hib hi (by rintro rfl;simp [isOwn] at hoi) hmi
    obtain ⟨r3,r4⟩:=hmu j p b y d hjb hj (by rintro rfl;simp [isOwn] at hpj) hmj
    exact S.rel.sep i j o p b x c y d r1 r3 hoi hpj r2 r4
 ·intro i sz2 es2 nil2 b x c hi hmi hO
  have hib:i≠base:=by
   rintro rfl
   rw [gs] at hi
   injection hi with hi
   injection hi with _ _ f
   cases f
  obtain ⟨r1,r2⟩:=hmu i _ b x c hib hi (by simp) hmi
  exact S.rel.apart i _ _ _ b x c r1 r2 (hown b hO)
 ·intro k hk
  have hk':μ'.imm k:=by rw [hν] at hk;exact hk
  obtain ⟨p1,p2,p3⟩:=S.rel.imm k hk'
  exact ⟨p1,by rw [p2,hν];rfl,fun hO=>p3 (hown k hO)⟩
 ·refine ⟨fun k hk => ?_,fun id o ho => ?_⟩
  ·rw [hν];exact S.evo.imm k hk
  ·by_cases hib:id=base
   ·subst hib
    rw [hd] at ho
    injection ho with ho
    subst ho
    trivial
   ·have hg:=(gn id hib).trans ho
    have hl:ν id=μ id:=nn id hib
    cases o with
    | dead=>trivial
    | loop m ps asg body ts st pend=>exact ⟨st,pend,hg,hl⟩
    | iter m n seen=>exact ⟨seen,hg,hl⟩
    | map kvs=>exact ⟨kvs,hg,hl⟩
    | arr sz es own nil=>exact ⟨es,nil,hg,Nat.le_refl _,fun _=>hl⟩
 ·simp only [VR] at hv ⊢
  obtain ⟨A,c,e1,h1,h2,h3,es',own,nil',hid,hl,hc⟩:=hv
  rw [hgk] at hid
  injection hid with hid
  injection hid with f1 f2 f3 f4
  subst f2
  exact ⟨A,c,e1,h1,h2,h3,es,true,nil,gs,hl,fun q=>by rw [nb];exact hc q⟩
def News (F:Fun) (args:List AV) (x:Nat × List (List AV) × Nat × Nat × Bool):Prop:=
 (∀e ∈ x.2.1,∀c ∈ e,plain c=true)∧∀H:Hp,∃g k,F args H=some (.sl x.1 (H.length+k) 0 x.2.2.1 x.2.2.2.1 x.2.2.2.2,H++g)∧g[k]? = some (.arr x.1 x.2.1 true false)
def Nils (F:Fun) (args:List AV):Prop:=∀H:Hp,F args H=some (.s (.slice none 0 0),H)
open Classical in
noncomputable def newD (F:Fun):DFun:=fun args h base=>
 if hx:∃x,News F args x then some (.sl hx.choose.1 base 0 hx.choose.2.2.1 hx.choose.2.2.2.1 hx.choose.2.2.2.2,⟨[],[.arr hx.choose.1 hx.choose.2.1 true false],[]⟩)
 else if Nils F args then some (.s (.slice none 0 0),⟨[],[],[]⟩) else none
theorem News.unique {F:Fun} {args:List AV} {x y:Nat × List (List AV) × Nat × Nat × Bool} (h1:News F args x) (h2:News F args y):x=y:=by
 obtain ⟨g1,k1,e1,q1⟩:=h1.2 []
 obtain ⟨g2,k2,e2,q2⟩:=h2.2 []
 rw [e1] at e2
 injection e2 with e2
 injection e2 with e2 e3
 injection e2 with a1 a2 a3 a4 a5 a6
 simp only [List.nil_append,List.length_nil,Nat.zero_add] at a2 e3
 subst a2 e3
 rw [q1] at q2
 injection q2 with q2
 injection q2 with b1 b2
 obtain ⟨x1,x2,x3,x4,x5⟩:=x
 obtain ⟨y1,y2,y3,y4,y5⟩:=y
 simp only at a1 a4 a5 a6 b2
 subst a1 a4 a5 a6 b2
 rfl
theorem ZbP {F:Fun} {args:List AV} {x:Nat × List (List AV) × Nat × Nat × Bool} (hw:News F args x) (h:Hp) (base:Nat):newD F args h base=some (.sl x.1 base 0 x.2.2.1 x.2.2.2.1 x.2.2.2.2,⟨[],[.arr x.1 x.2.1 true false],[]⟩):=by
 have hx:∃x,News F args x:=⟨x,hw⟩
 unfold newD
 rw [dif_pos hx,News.unique hx.choose_spec hw]
theorem ZbQ {F:Fun} {args:List AV} (hw:Nils F args) (h:Hp) (base:Nat):newD F args h base=some (.s (.slice none 0 0),⟨[],[],[]⟩):=by
 have hx:¬ ∃x,News F args x:=by
  rintro ⟨x,hx⟩
  obtain ⟨g,k,e, -⟩:=hx.2 []
  rw [hw []] at e
  injection e with e
  injection e with e
  cases e
 unfold newD
 rw [dif_neg hx,if_pos hw]
theorem ZbR {F:Fun} {args:List AV} {h:Hp} {base:Nat} {v:AV} {e:Eff} (hk:newD F args h base=some (v,e)):(∃x,News F args x∧v = .sl x.1 base 0 x.2.2.1 x.2.2.2.1 x.2.2.2.2∧e=⟨[],[.arr x.1 x.2.1 true false],[]⟩)∨(Nils F args∧v = .s (.slice none 0 0)∧e=⟨[],[],[]⟩):=by
 unfold newD at hk
 split at hk
 ·rename_i hx
  simp only [Option.some.injEq,Prod.mk.injEq] at hk
  exact .inl ⟨_,hx.choose_spec,hk.1.symm,hk.2.symm⟩
 ·split at hk
  ·rename_i hn
   simp only [Option.some.injEq,Prod.mk.injEq] at hk
   exact .inr ⟨hn,hk.1.symm,hk.2.symm⟩
  ·simp at hk
theorem Zmt (F:Fun):DLoc (newD F):=by
 refine ⟨fun args h base v e hk H hag => ?_,fun args h base v e hk p hp => ?_⟩
 ·rcases ZbR hk with ⟨x,hw,rfl,rfl⟩ | ⟨hn,rfl,rfl⟩
  ·exact ZbP hw _ _
  ·exact ZbQ hn _ _
 ·rcases ZbR hk with ⟨x,hw,rfl,rfl⟩ | ⟨hn,rfl,rfl⟩<;>simp at hp
theorem Zmu {F:Fun} {f:FuncId} (hc:CSound P f F):DCalls P f (newD F):=by
 intro args h base v e hk hd μ w cargs R hargs
 rcases ZbR hk with ⟨x,hw,rfl,rfl⟩ | ⟨hn,rfl,rfl⟩
 ·obtain ⟨g,k,hF,hg⟩:=hw.2 h
  obtain ⟨hgo,hcall⟩:=hc _ _ _ _ hF μ w cargs R hargs
  refine ⟨hgo,Calls.mono hcall ?_⟩
  rintro en w' ⟨cv,μ',rfl,hst,hv⟩
  have hdead:h[base]? = some .dead:=by have:=hd 0 (by simp);simpa using this
  obtain ⟨ν,h1,h2, -⟩:=Step.move R hst hdead hg hw.1 hv
  exact ⟨cv,ν,rfl,by simpa [apAt] using h1,by simpa [apAt] using h2⟩
 ·obtain ⟨hgo,hcall⟩:=hc _ _ _ _ (hn h) μ w cargs R hargs
  refine ⟨hgo,Calls.mono hcall ?_⟩
  rintro en w' ⟨cv,μ',rfl,hst,hv⟩
  exact ⟨cv,μ',rfl,by simpa [apAt] using hst,by simpa [apAt] using hv⟩
theorem DSound.new {D:DTab} (DS:DSound P D) {f:Nat} {F:Fun} (hc:CSound P f F):DSound P (updD D f (newD F)):=DS.upd (Zmt F) (Zmu hc)
end Go.AM


namespace Go.AM
open Go.RowKit
set_option linter.unusedVariables false
set_option linter.unusedSimpArgs false
set_option linter.constructorNameAsVariable false
variable {P:Program} {μ μ':Mu} {h h' h1:Hp} {w w':World}
theorem ZfD {μ:Mu} {h:Hp}:∀ {asl bs:List AV} {vs:List Value},VRs μ h (asl++bs) vs→∃v1 v2,vs=v1++v2∧VRs μ h asl v1∧VRs μ h bs v2
 | [],bs,vs,hv=>⟨[],vs,rfl,by simp [VRs],hv⟩
 | a::asl,bs,vs,hv=>by
  simp only [List.cons_append,VRs] at hv
  obtain ⟨v,vs',rfl,h1,h2⟩:=hv
  obtain ⟨v1,v2,rfl,h3,h4⟩:=ZfD h2
  exact ⟨v::v1,v2,rfl,by simp only [VRs];exact ⟨v,v1,rfl,h1,h3⟩,h4⟩
def NewsA (F:Fun) (args:List AV) (x:List AV × Nat × List (List AV) × Nat × Nat × Bool):Prop:=
 plains x.1=true∧(∀e ∈ x.2.2.1,∀c ∈ e,plain c=true)∧∀H:Hp,∃g k,F args H=some (.agg (x.1++[.sl x.2.1 (H.length+k) 0 x.2.2.2.1 x.2.2.2.2.1 x.2.2.2.2.2]),H++g)∧g[k]? = some (.arr x.2.1 x.2.2.1 true false)
def Plains (F:Fun) (args:List AV) (v:AV):Prop:=plain v=true∧∀H:Hp,∃g,F args H=some (v,H++g)
open Classical in
noncomputable def newA (F:Fun):DFun:=fun args h base=>
 if hx:∃x,NewsA F args x then some (.agg (hx.choose.1++[.sl hx.choose.2.1 base 0 hx.choose.2.2.2.1 hx.choose.2.2.2.2.1 hx.choose.2.2.2.2.2]),⟨[],[.arr hx.choose.2.1 hx.choose.2.2.1 true false],[]⟩)
 else if hy:∃v,Plains F args v then some (hy.choose,⟨[],[],[]⟩) else none
theorem NewsA.unique {F:Fun} {args:List AV} {x y:List AV × Nat × List (List AV) × Nat × Nat × Bool} (h1:NewsA F args x) (h2:NewsA F args y):x=y:=by
 obtain ⟨g1,k1,e1,q1⟩:=h1.2.2 []
 obtain ⟨g2,k2,e2,q2⟩:=h2.2.2 []
 rw [e1] at e2
 injection e2 with e2
 injection e2 with e2 e3
 injection e2 with e2
 obtain ⟨x1,x2,x3,x4,x5,x6⟩:=x
 obtain ⟨y1,y2,y3,y4,y5,y6⟩:=y
 dsimp only at e2 q1 q2
 have hl:x1.length=y1.length:=by have:=congrArg List.length e2;simpa using this
 obtain ⟨a0,a1⟩:=List.append_inj e2 hl
 injection a1 with a1
 injection a1 with b1 b2 b3 b4 b5 b6
 simp only [List.nil_append,List.length_nil,Nat.zero_add] at b2 e3
 subst a0 b1 b2 b4 b5 b6 e3
 rw [q1] at q2
 injection q2 with q2
 injection q2 with _ c2
 rw [c2]
theorem ZfE {F:Fun} {args:List AV} {x:List AV × Nat × List (List AV) × Nat × Nat × Bool} (hw:NewsA F args x) (h:Hp) (base:Nat):newA F args h base=some (.agg (x.1++[.sl x.2.1 base 0 x.2.2.2.1 x.2.2.2.2.1 x.2.2.2.2.2]),⟨[],[.arr x.2.1 x.2.2.1 true false],[]⟩):=by
 have hx:∃x,NewsA F args x:=⟨x,hw⟩
 unfold newA
 rw [dif_pos hx,NewsA.unique hx.choose_spec hw]
theorem Zmv {xs:List AV} {a:AV} (h:plains (xs++[a])=true):plain a=true:=by
 induction xs with
 | nil=>simpa [plains] using h
 | cons x xs ih=>
  simp only [List.cons_append,plains,Bool.and_eq_true] at h
  exact ih h.2
theorem ZfF {F:Fun} {args:List AV} {v:AV} (hw:Plains F args v) (h:Hp) (base:Nat):newA F args h base=some (v,⟨[],[],[]⟩):=by
 have hx:¬ ∃x,NewsA F args x:=by
  rintro ⟨x,hx⟩
  obtain ⟨g,k,e, -⟩:=hx.2.2 []
  obtain ⟨g',e'⟩:=hw.2 []
  rw [e'] at e
  injection e with e
  injection e with e
  have:=hw.1
  rw [e] at this
  simp only [plain] at this
  have:=Zmv this
  simp [plain] at this
 have hy:∃v,Plains F args v:=⟨v,hw⟩
 unfold newA
 rw [dif_neg hx,dif_pos hy]
 obtain ⟨g1,e1⟩:=hy.choose_spec.2 []
 obtain ⟨g2,e2⟩:=hw.2 []
 rw [e1] at e2
 injection e2 with e2
 injection e2 with e2
 rw [e2]
theorem ZbS {F:Fun} {args:List AV} {h:Hp} {base:Nat} {v:AV} {e:Eff} (hk:newA F args h base=some (v,e)):(∃x,NewsA F args x∧v = .agg (x.1++[.sl x.2.1 base 0 x.2.2.2.1 x.2.2.2.2.1 x.2.2.2.2.2])∧e=⟨[],[.arr x.2.1 x.2.2.1 true false],[]⟩)∨(Plains F args v∧e=⟨[],[],[]⟩):=by
 unfold newA at hk
 split at hk
 ·rename_i hx
  simp only [Option.some.injEq,Prod.mk.injEq] at hk
  exact .inl ⟨_,hx.choose_spec,hk.1.symm,hk.2.symm⟩
 ·split at hk
  ·rename_i hn
   simp only [Option.some.injEq,Prod.mk.injEq] at hk
   obtain ⟨rfl,rfl⟩:=hk
   exact .inr ⟨hn.choose_spec,rfl⟩
  ·simp at hk
theorem Zmw (F:Fun):DLoc (newA F):=by
 refine ⟨fun args h base v e hk H hag => ?_,fun args h base v e hk p hp => ?_⟩
 ·rcases ZbS hk with ⟨x,hw,rfl,rfl⟩ | ⟨hn,rfl⟩
  ·exact ZfE hw _ _
  ·exact ZfF hn _ _
 ·rcases ZbS hk with ⟨x,hw,rfl,rfl⟩ | ⟨hn,rfl⟩<;>simp at hp
theorem Zmx {F:Fun} {f:FuncId} (hc:CSound P f F):DCalls P f (newA F):=by
 intro args h base v e hk hd μ w cargs R hargs
 rcases ZbS hk with ⟨x,hw,rfl,rfl⟩ | ⟨hn,rfl⟩
 ·obtain ⟨g,k,hF,hg⟩:=hw.2.2 h
  obtain ⟨hgo,hcall⟩:=hc _ _ _ _ hF μ w cargs R hargs
  refine ⟨hgo,Calls.mono hcall ?_⟩
  rintro en w' ⟨cv,μ',rfl,hst,hv⟩
  have hdead:h[base]? = some .dead:=by have:=hd 0 (by simp);simpa using this
  simp only [VR] at hv
  obtain ⟨vs,rfl,hvs⟩:=hv
  obtain ⟨v1,v2,hq,hv1,hv2⟩:=ZfD hvs
  simp only [VRs] at hv2
  obtain ⟨c,vs',rfl,hsl,rfl⟩:=hv2
  obtain ⟨ν,h1,h2,h3⟩:=Step.move R hst hdead hg hw.2.1 hsl
  refine ⟨_,ν,rfl,by simpa [apAt] using h1, ?_⟩
  simp only [VR]
  refine ⟨vs,rfl, ?_⟩
  rw [hq]
  have hx:apAt h base ⟨[],[.arr x.2.1 x.2.2.1 true false],[]⟩=h.set base (.arr x.2.1 x.2.2.1 true false):=by simp [apAt]
  rw [hx]
  exact VRs.append (Z4X h3 hw.1 hv1) (by simp only [VRs];exact ⟨c,[],rfl,h2,rfl⟩)
 ·obtain ⟨g,hF⟩:=hn.2 h
  obtain ⟨hgo,hcall⟩:=hc _ _ _ _ hF μ w cargs R hargs
  refine ⟨hgo, ?_⟩
  have he:apAt h base ⟨[],[],[]⟩=h:=by simp [apAt]
  rw [he]
  exact Zbm R hn.1 hcall
theorem DSound.newA {D:DTab} (DS:DSound P D) {f:Nat} {F:Fun} (hc:CSound P f F):DSound P (updD D f (Go.AM.newA F)):=DS.upd (Zmw F) (Zmx hc)
end Go.AM


namespace Go.AM
open Go.RowKit
open Classical in
set_option linter.unusedVariables false
variable {P:Program} {μ μ':Mu} {h h':Hp} {w w':World} {β:Type} {ks:List Nat} {np nt:Nat} {ds:List Deferred} {ρ:Option Nat}
end Go.AM


namespace Go.AM
open Go.RowKit
set_option linter.unusedVariables false
set_option linter.unusedSimpArgs false
variable {P:Program} {μ μ':Mu} {h h':Hp} {w w':World}
structure InsWalk (P:Program) (f:FuncId) (k by_:Nat) (t el:TypeId):Prop where
 goes:Goes P f
 ht:P.underlying t=some (.slice el)
 hs:szOf P el=some k
 hb:bytesOf P el=some by_
 hz:∃z,zeroAV P el=some z∧(cellsOf z).length=k∧(cellsOf z).all okC=true
 big:∀m,m * by_≤140737488355328→m≤maxLen
 shift:∀(b n c i vb m vc:Nat) (cur:Array Value) (T:TypeId) (vs:List Value) (w:World),i<n→0<m→n+m≤c→c≤9223372036854775807→vb≠b→w.heap[b]? = some (.cells cur T (0,0))→c * k≤cur.size→(∀v ∈ cur.toList.take (n * k),v.oneCell'=true)→
  vs.length=m * k→(∀j v,vs[j]? = some v→w.cell? ⟨vb,j,none⟩=some v)→(∀v ∈ vs,v.oneCell'=true)→∀(tA tB:TypeId) (kA kB:Nat),w.shape? vb=some (tA,kA)→w.shape? b=some (tB,kB)→kB≠0→w.frozen? ⟨vb,0,none⟩=false→w.frozen? ⟨vb,kA,none⟩=false→
  Calls P f #[.slice (some ⟨b,0,none⟩) n c, .int .i64 i, .slice (some ⟨vb,0,none⟩) m vc] w fun e w'=>
   e = .returned (.slice (some ⟨b,0,none⟩) (n+m) c)∧w'=w.drew.setRow b (cur.toList.take (i * k)++vs++(cur.toList.drop (i * k)).take ((n-i) * k)++cur.toList.drop ((n+m) * k)).toArray
 grow:∀(b n c i vb m vc:Nat) (cur:Array Value) (T:TypeId) (vs:List Value) (w:World),i<n→0<m→n≤c→c<n+m→(n+m) * by_≤140737488355328→w.heap[b]? = some (.cells cur T (0,0))→n * k≤cur.size→(∀v ∈ cur.toList.take (n * k),v.oneCell'=true)→
  vs.length=m * k→(∀j v,vs[j]? = some v→w.cell? ⟨vb,j,none⟩=some v)→(∀v ∈ vs,v.oneCell'=true)→
  Calls P f #[.slice (some ⟨b,0,none⟩) n c, .int .i64 i, .slice (some ⟨vb,0,none⟩) m vc] w fun e w'=>
   ∃(G:Nat) (R:Array Value),n+m≤G∧G≤maxLen∧R.size=G * k∧R.toList.take ((n+m) * k)=cur.toList.take (i * k)++vs++(cur.toList.drop (i * k)).take ((n-i) * k)∧e = .returned (.slice (some ⟨w.heap.size,0,none⟩) (n+m) G)∧w'=w.drew.drew.alloc (.cells R el)
 fin:∀(A B:Option Addr) (n c m vc:Nat) (u:Value) (w W':World),0<m→n≤c→(A=none→c=0)→(∀ty,(Builtin.append_ #[t,t] ty #[.slice A n c, .slice B m vc]).run P w = .ok u W')→
  Calls P f #[.slice A n c, .int .i64 n, .slice B m vc] w fun e w'=>e = .returned u∧w'=W'
def insF (k by_:Nat):Fun:=fun args h=>
 match args with
 | [s, .s (.int .i64 i), .sl sx idx off m fr full]=>
  match readSl h (.sl sx idx off m fr full),h[idx]? with
  | some news,some (.arr _ _ true _)=>
   if news.length=m∧0<m∧news.all (fun e=>e.length==k)=true∧off=0 then
    match s with
    | .s (.slice none 0 0)=>if i=0∧m * by_≤140737488355328 then some (.sl k h.length 0 m m false,h++[.arr k news true false]) else none
    | .sl sz id soff len sfr sfull=>
     match h[id]? with
     | some (.arr sz' es own nil)=>
      if sz=k∧sz'=k∧soff=0∧own=true∧sfull=false∧len=sfr∧es.length=len∧id≠idx∧(len+m) * by_≤140737488355328∧0≤i∧i≤len then
       some (.sl k id 0 (len+m) (len+m) false,h.set id (.arr k (es.take i.toNat++news++es.drop i.toNat) true false))
      else none
     | _=>none
    | _=>none
   else none
  | _,_=>none
 | _=>none
theorem Zmy {sx idx off m fr:Nat} {full:Bool} {news:List (List AV)} {l:List AObj} (hk:readSl h (.sl sx idx off m fr full)=some news):readSl (h++l) (.sl sx idx off m fr full)=some news:=by
 unfold readSl at hk ⊢
 dsimp only at hk ⊢
 split at hk<;>try (simp at hk;done)
 rename_i ho
 rw [List.getElem?_append_left (List.getElem?_eq_some_iff.1 ho).1,ho]
 exact hk
theorem Zmz {k:Nat} {es:List (List AV)} (hS:Sized k es) (i:Nat) (hi:i≤es.length):(es.take i).flatten=es.flatten.take (i * k)∧(es.drop i).flatten=es.flatten.drop (i * k):=by
 have q1:Sized k (es.take i):=fun e he=>hS e (List.mem_of_mem_take he)
 have q2:=Z0W q1
 have q3:(es.take i).length=i:=by simp;omega
 rw [q3] at q2
 have q4:es.flatten=(es.take i).flatten++(es.drop i).flatten:=by rw [← List.flatten_append,List.take_append_drop]
 constructor
 ·rw [q4, ← q2,List.take_left]
 ·rw [q4, ← q2,List.drop_left]
theorem ZfG {f:FuncId} {n0 by_:Nat} {t el:TypeId} (W:InsWalk P f (n0+1) by_ t el):CSound P f (insF (n0+1) by_):=by
 intro args h v h' hk μ w cargs R hargs
 refine ⟨W.goes, ?_⟩
 unfold insF at hk
 split at hk<;>try (simp at hk;done)
 rename_i s i sx idx off m fr full
 split at hk<;>try (simp at hk;done)
 rename_i news szx esx nilx hread hox
 split at hk<;>try (simp at hk;done)
 rename_i hcond
 obtain ⟨hnl,hm0,hall,rfl⟩:=hcond
 simp only [VRs] at hargs
 obtain ⟨v1,vs1,hq1,hv1,v2,vs2,rfl,hv2,v3,vs3,rfl,hv3,rfl⟩:=hargs
 have hcargs:cargs = #[v1,v2,v3]:=by apply Array.ext';simpa using hq1
 subst hcargs
 have e2:v2 = .int .i64 i:=by simp only [VR] at hv2;exact hv2.2
 subst e2
 have hRd:=Z6d (P:=P) R hv3 hread hall
 have hS:=hRd.sized
 obtain ⟨A3,c3,rfl,hcell⟩:=hRd.val
 have hne:news≠[]:=by intro e;rw [e] at hnl;simp at hnl;omega
 obtain ⟨ad,vs,rfl,hvs,hvl,hone,hat⟩:=hcell hne
 rw [hnl] at hvl
 have hv3':=hv3
 simp only [VR] at hv3'
 obtain ⟨A',c',hsl',hlc', -, -,es',own',nil',ho', -,hq'⟩:=hv3'
 rw [hox] at ho'
 injection ho' with ho'
 injection ho' with e1 e2 e3 e4
 subst e1 e2 e3 e4
 injection hsl' with e5 e6 e7
 subst e5 e7
 -- where the new elements lie
 have hx:∃(vb cap:Nat) (cur:Array Value) (T:TypeId),μ idx = .real vb 0 cap∧ad=⟨vb,0,none⟩∧w.heap[vb]? = some (.cells cur T (0,0)):=by
  have hread':=hread
  unfold readSl at hread'
  simp only [hox] at hread'
  split at hread'<;>try (simp at hread';done)
  rename_i hc
  have hsl:=hq' hc.1.symm
  unfold SlOk at hsl
  split at hsl
  ·rename_i blk o cap hmu
   obtain ⟨a,ha,hcap,hne'⟩:=hsl
   obtain ⟨cur,T,hbk,hcur,rfl, -⟩:=ORel.own_flat (R.obj _ _ hox) hmu
   have:=hne' (by omega)
   injection ha with ha
   subst ha
   exact ⟨blk,cap,cur,T,hmu,by simpa using this,hbk⟩
  ·obtain ⟨-,hc0, -⟩:=hsl
   omega
 obtain ⟨vb,capx,curx,Tx,hmux,rfl,hbx⟩:=hx
 have hat':∀j u,vs[j]? = some u→w.cell? ⟨vb,j,none⟩=some u:=fun j u hu=>by
  have:=hat j u hu
  rwa [Addr.add_lit,Nat.zero_add] at this
 obtain ⟨z,hz1,hz2,hz3⟩:=W.hz
 split at hk
 ·-- into nil
  split at hk<;>try (simp at hk;done)
  rename_i hcc
  obtain ⟨rfl,hbig⟩:=hcc
  simp only [Option.some.injEq,Prod.mk.injEq] at hk
  obtain ⟨rfl,rfl⟩:=hk
  have e1:v1 = .slice none 0 0:=by simp only [VR] at hv1;exact hv1.2
  subst e1
  have S0:=Step.pad R 1
  have hap:appE (n0+1) by_ (.s (.slice none 0 0)) (.sl szx idx 0 m fr full) (h++List.replicate 1 .dead) h.length=some (.sl (n0+1) h.length 0 m m false,⟨[],[.arr (n0+1) news true false],idsOf (.sl szx idx 0 m fr full)⟩):=by
   unfold appE
   rw [Zmy hread]
   simp only [hnl]
   rw [if_neg (by omega),if_pos ⟨hbig,hall⟩]
  obtain ⟨w2,u,μ2,hrun,S2,hu⟩:=Z6e (ty:=t) S0.rel W.ht W.hs W.hb hz1 hz2 hz3 W.big (VR.evo S0.evo _ _ hv1) (VR.evo S0.evo _ _ hv3) hap (fun _=>by simp)
  have hrun':∀ty,(Builtin.append_ #[t,t] ty #[.slice none 0 0, .slice (some ⟨vb,0,none⟩) news.length c3]).run P w = .ok u w2:=fun ty=>by
   obtain ⟨w2',u',μ2',hr', -⟩:=Z6e (ty:=ty) S0.rel W.ht W.hs W.hb hz1 hz2 hz3 W.big (VR.evo S0.evo _ _ hv1) (VR.evo S0.evo _ _ hv3) hap (fun _=>by simp)
   have:(Builtin.append_ #[t,t] ty #[.slice none 0 0, .slice (some ⟨vb,0,none⟩) news.length c3]).run P w=(Builtin.append_ #[t,t] t #[.slice none 0 0, .slice (some ⟨vb,0,none⟩) news.length c3]).run P w:=rfl
   rw [this];exact hrun
  have key:=W.fin none (some ⟨vb,0,none⟩) 0 0 news.length c3 u w w2 (by omega) (Nat.le_refl _) (fun _=>rfl) hrun'
  refine key.mono ?_
  rintro e w' ⟨rfl,rfl⟩
  have ea:=Zbb (h:=h) (e:=⟨[],[.arr (n0+1) news true false],idsOf (.sl szx idx 0 m fr full)⟩) (by simp) 0
  simp only [List.length_singleton,Nat.add_zero,List.replicate_zero,List.append_nil] at ea
  rw [ea] at S2 hu
  have e9:ap h ⟨[],[.arr (n0+1) news true false],idsOf (.sl szx idx 0 m fr full)⟩=h++[.arr (n0+1) news true false]:=rfl
  rw [e9] at S2 hu
  exact ⟨u,μ2,rfl,S0.trans S2,hu⟩
 ·rename_i sz id soff len sfr sfull
  split at hk<;>try (simp at hk;done)
  rename_i sz' es own nil ho
  split at hk<;>try (simp at hk;done)
  rename_i hcc
  obtain ⟨rfl,rfl,rfl,rfl,rfl,rfl,hel,hid,hbig,hi0,hin⟩:=hcc
  simp only [Option.some.injEq,Prod.mk.injEq] at hk
  obtain ⟨rfl,rfl⟩:=hk
  obtain ⟨j,rfl⟩:∃j:Nat,i=(j:Int):=⟨i.toNat,by omega⟩
  have hjn:j≤len:=by omega
  rw [Int.toNat_natCast]
  have hlt:id<h.length:=(List.getElem?_eq_some_iff.1 ho).1
  have hv1':=hv1
  simp only [VR] at hv1'
  obtain ⟨A0,c0,rfl,hlc,hA0,hfull,es2,own2,nil2,ho2, -,hq⟩:=hv1'
  rw [ho] at ho2
  injection ho2 with ho2
  injection ho2 with e1 e2 e3 e4
  subst e2 e3 e4
  have hsl:=hq hel.symm
  have hO:=R.obj _ _ ho
  have hSe:=hO.1
  have hlen':(es.take j++news++es.drop j).length=len+m:=by simp;omega
  rcases Nat.lt_or_ge j len with hj | hj
  ·-- ahead of an element
   unfold SlOk at hsl
   split at hsl
   ·rename_i blk o cap hmu
    obtain ⟨a',rfl,hcap,hne'⟩:=hsl
    obtain ⟨cur,T,hbk,hcur,rfl,hlec,hcapm,h1,hr⟩:=ORel.own_flat hO hmu
    have ha':=hne' (by omega)
    rw [Nat.zero_mul,Nat.add_zero] at ha'
    subst ha'
    rw [Nat.zero_add] at hcap
    have hvb:vb≠blk:=fun e=>hid (R.sep id idx _ _ blk 0 cap 0 capx ho hox rfl rfl hmu (by rw [hmux,e]))
    have hcm:c0 * (n0+1)≤cur.size:=by rw [hcur];exact Nat.mul_le_mul_right _ hcap
    have hnm:len * (n0+1)≤cur.size:=Nat.le_trans (Nat.mul_le_mul_right _ hlc) hcm
    rw [hel] at h1 hr
    -- the cells of the elements
    have hflat:VRs μ h (es.take j++news++es.drop j).flatten (cur.toList.take (j * (n0+1))++vs++(cur.toList.drop (j * (n0+1))).take ((len-j) * (n0+1))):=by
     obtain ⟨f1,f2⟩:=Zmz hSe j (by omega)
     rw [List.flatten_append,List.flatten_append,f1,f2]
     have m1:j * (n0+1)≤len * (n0+1):=Nat.mul_le_mul_right _ hjn
     have t1:=VRs.take (j * (n0+1)) hr
     have t2:=VRs.drop (j * (n0+1)) hr
     rw [List.take_take,Nat.min_eq_left m1] at t1
     rw [List.drop_take, ← Nat.sub_mul] at t2
     exact VRs.append (VRs.append t1 hvs) t2
    have hone':∀v ∈ cur.toList.take (j * (n0+1))++vs++(cur.toList.drop (j * (n0+1))).take ((len-j) * (n0+1)),v.oneCell'=true:=fun v hv=>by
     have m1:j * (n0+1)≤len * (n0+1):=Nat.mul_le_mul_right _ hjn
     rcases List.mem_append.1 hv with hv | hv
     ·rcases List.mem_append.1 hv with hv | hv
      ·refine h1 v ?_
       rw [← Nat.min_eq_left m1, ← List.take_take] at hv
       exact List.mem_of_mem_take hv
      ·exact hone v hv
     ·refine h1 v ?_
      rw [Nat.sub_mul, ← List.drop_take] at hv
      exact List.mem_of_mem_drop hv
    have hSall:Sized (n0+1) (es.take j++news++es.drop j):=Sized.append (Sized.append (fun e he=>hSe e (List.mem_of_mem_take he)) hS) (fun e he=>hSe e (List.mem_of_mem_drop he))
    have hml:len+m≤maxLen:=W.big _ hbig
    by_cases hroom:len+m≤c0
    ·have hmm:(len+m) * (n0+1)≤cur.size:=Nat.le_trans (Nat.mul_le_mul_right _ hroom) hcm
     have key:=W.shift blk len c0 j vb m c3 cur T vs w hj hm0 hroom (by unfold maxLen at hcapm;omega) hvb hbk hcm h1 hvl hat' hone Tx T curx.size cur.size (by simp [World.shape?,hbx]) (by simp [World.shape?,hbk]) (by
      have:0<len * (n0+1):=Nat.mul_pos (by omega) (by omega)
      omega) (by simp [World.frozen?,hbx]) (by simp [World.frozen?,hbx])
     rw [← hnl] at key
     refine key.mono ?_
     rintro e w' ⟨rfl,rfl⟩
     obtain ⟨row,hrow⟩:∃row:Array Value,row=(cur.toList.take (j * (n0+1))++vs++(cur.toList.drop (j * (n0+1))).take ((len-j) * (n0+1))++cur.toList.drop ((len+m) * (n0+1))).toArray:=⟨_,rfl⟩
     rw [hnl, ← hrow]
     have hl3:(cur.toList.take (j * (n0+1))++vs++(cur.toList.drop (j * (n0+1))).take ((len-j) * (n0+1))).length=(len+m) * (n0+1):=by
      rw [← hflat.length,Z0W hSall,hlen']
     have htk:row.toList.take ((es.take j++news++es.drop j).length * (n0+1))=cur.toList.take (j * (n0+1))++vs++(cur.toList.drop (j * (n0+1))).take ((len-j) * (n0+1)):=by
      rw [hlen',hrow, ← hl3]
      exact List.take_left
     have hrs:row.size=cur.size:=by
      rw [hrow,List.size_toArray,List.length_append,hl3,List.length_drop,Array.length_toList]
      omega
     have S1:=Step.drew R
     have hbk1:w.drew.heap[blk]? = some (.cells cur T (0,0)):=hbk
     have hset:(w.drew.setRow blk row).heap[blk]? = some (.cells row T (0,0)):=setRow_heap w.drew blk cur row T (0,0) hbk1
     refine ⟨_,μ.set id (μ id),rfl,S1.trans (Step.upd S1.rel (loc:=μ id) ho ⟨_,false,rfl,by rw [hlen'];omega,fun _=>rfl⟩ ?_ ?_ rfl ?_), ?_⟩
     ·exact ⟨rfl,rfl,rfl,Nat.le_refl _,by simp,fun k _ hk=>setRow_other w.drew blk k _ (fun e=>hk ⟨rfl,0,cap,by rw [e];exact hmu⟩)⟩
     ·intro b x c e
      exact .inr ⟨rfl,x,c,e⟩
     ·intro hE
      refine ORel.own_arr (cur:=row) (T:=T) (cap:=cap) (blk:=blk) (by simp [hmu]) hSall (by rw [hlen'];omega) hcapm hset (by rw [hrs];exact hcur) ?_ ?_
      ·rw [htk];exact hone'
      ·rw [htk];exact VRs.evo hE _ _ hflat
     ·simp only [VR]
      refine ⟨_,_,rfl,by omega,fun _=>rfl, .room (by omega),_,true,false,by simp [hlt];rfl,by rw [← List.append_assoc,hlen'];exact Nat.le_refl _,fun _ => ?_⟩
      simp only [Mu.set_loc,if_true,hmu,SlOk]
      exact ⟨_,rfl,by omega,fun _=>by simp⟩
    ·have key:=W.grow blk len c0 j vb m c3 cur T vs w hj hm0 hlc (by omega) hbig hbk hnm h1 hvl hat' hone
     rw [← hnl] at key
     refine key.mono ?_
     rintro e w' ⟨G,row,hG1,hG2,hG3,hG4,rfl,rfl⟩
     rw [hnl] at hG1 hG4 ⊢
     have htk:row.toList.take ((es.take j++news++es.drop j).length * (n0+1))=cur.toList.take (j * (n0+1))++vs++(cur.toList.drop (j * (n0+1))).take ((len-j) * (n0+1)):=by
      rw [hlen'];exact hG4
     have S1:=(Step.drew R).trans (Step.drew (Step.drew R).rel)
     refine ⟨_,μ.set id (.real w.heap.size 0 G),rfl,S1.trans (Step.upd S1.rel (loc := .real w.heap.size 0 G) ho ⟨_,false,rfl,by rw [hlen'];omega,fun h=>by rw [hlen'] at h;omega⟩ (Frame.alloc _ _ _) ?_ rfl ?_), ?_⟩
     ·intro b x c e;injection e with e1 e2 e3;subst e1;exact .inl (Nat.le_refl _)
     ·intro hE
      refine ORel.own_arr (cur:=row) (T:=el) (cap:=G) (blk:=w.heap.size) (by simp) hSall (by rw [hlen'];exact hG1) hG2 (heap_alloc_new w.drew.drew _) hG3 ?_ ?_
      ·rw [htk];exact hone'
      ·rw [htk];exact VRs.evo hE _ _ hflat
     ·simp only [VR]
      refine ⟨_,_,rfl,hG1,fun _=>rfl, .room (by omega),_,true,false,by simp [hlt];rfl,by rw [← List.append_assoc,hlen'];exact Nat.le_refl _,fun _ => ?_⟩
      simp only [Mu.set_loc,if_true,SlOk]
      exact ⟨_,rfl,by omega,fun _=>by simp⟩
   ·obtain ⟨-,hc0, -⟩:=hsl
    omega
  ·-- behind all
   have hjl:j=len:=by omega
   subst hjl
   have hap:appE (n0+1) by_ (.sl (n0+1) id 0 j j false) (.sl szx idx 0 m fr full) h h.length=some (.sl (n0+1) id 0 (j+m) (j+m) false,⟨[(id, .arr (n0+1) (es++news) true false)],[],id::idsOf (.sl szx idx 0 m fr full)⟩):=by
    unfold appE
    rw [hread]
    simp only [ho,hnl]
    rw [if_pos (by simpa using ⟨hel,hbig,by simpa using hall⟩),if_neg (by simp),if_pos (by simp)]
    have:(m==0)=false:=by simp;omega
    rw [this,Bool.and_false]
   obtain ⟨w2,u,μ2,hrun,S2,hu⟩:=Z6e (ty:=t) R W.ht W.hs W.hb hz1 hz2 hz3 W.big hv1 hv3 hap (fun h=>absurd rfl h)
   have hrun':∀ty,(Builtin.append_ #[t,t] ty #[.slice A0 j c0, .slice (some ⟨vb,0,none⟩) news.length c3]).run P w = .ok u w2:=fun ty=>by
    have:(Builtin.append_ #[t,t] ty #[.slice A0 j c0, .slice (some ⟨vb,0,none⟩) news.length c3]).run P w=(Builtin.append_ #[t,t] t #[.slice A0 j c0, .slice (some ⟨vb,0,none⟩) news.length c3]).run P w:=rfl
    rw [this];exact hrun
   have key:=W.fin A0 (some ⟨vb,0,none⟩) j c0 news.length c3 u w w2 (by omega) hlc (fun e=>by
    rcases Nat.eq_zero_or_pos c0 with h0 | h0
    ·exact h0
    ·have:=hA0 h0;rw [e] at this;cases this) hrun'
   refine key.mono ?_
   rintro e w' ⟨rfl,rfl⟩
   have ea:apAt h h.length ⟨[(id, .arr (n0+1) (es++news) true false)],[],id::idsOf (.sl szx idx 0 m fr full)⟩=h.set id (.arr (n0+1) (es.take j++news++es.drop j) true false):=by
    rw [List.take_of_length_le (by omega),List.drop_of_length_le (by omega),List.append_nil]
    rfl
   rw [ea] at S2 hu
   exact ⟨u,μ2,rfl,S2,hu⟩
 ·simp at hk
end Go.AM


namespace Go.AM
open Go.RowKit
set_option linter.unusedVariables false
set_option linter.unusedSimpArgs false
variable {P:Program} {μ μ':Mu} {h h':Hp} {w w':World}
def insE (k by_:Nat):DFun:=fun args h base=>
 match args with
 | [s, .s (.int .i64 i), .sl sx idx off m fr full]=>
  match readSl h (.sl sx idx off m fr full),h[idx]? with
  | some news,some (.arr _ _ true _)=>
   if news.length=m∧0<m∧news.all (fun e=>e.length==k)=true∧off=0 then
    match s with
    | .s (.slice none 0 0)=>if i=0∧m * by_≤140737488355328 then some (.sl k base 0 m m false,⟨[],[.arr k news true false],[idx]⟩) else none
    | .sl sz id soff len sfr sfull=>
     match h[id]? with
     | some (.arr sz' es own nil)=>
      if sz=k∧sz'=k∧soff=0∧own=true∧sfull=false∧len=sfr∧es.length=len∧id≠idx∧(len+m) * by_≤140737488355328∧0≤i∧i≤len then
       some (.sl k id 0 (len+m) (len+m) false,⟨[(id, .arr k (es.take i.toNat++news++es.drop i.toNat) true false)],[],[id,idx]⟩)
      else none
     | _=>none
    | _=>none
   else none
  | _,_=>none
 | _=>none
theorem ZfH {H:Hp} {sx idx off m fr:Nat} {full:Bool} (hs:∀x,h[idx]? = some x→H[idx]? = some x) {news:List (List AV)} (hk:readSl h (.sl sx idx off m fr full)=some news):readSl H (.sl sx idx off m fr full)=some news:=by
 unfold readSl at hk ⊢
 dsimp only at hk ⊢
 split at hk<;>try (simp at hk;done)
 rename_i ho
 rw [hs _ ho]
 exact hk
theorem ZmA (k by_:Nat):DLoc (insE k by_):=by
 refine ⟨fun args h base v e hk H hag => ?_,fun args h base v e hk p hp => ?_⟩
 ·unfold insE at hk
  split at hk<;>try (simp at hk;done)
  rename_i s i sx idx off m fr full
  split at hk<;>try (simp at hk;done)
  rename_i news szx esx nilx hread hox
  split at hk<;>try (simp at hk;done)
  rename_i hcond
  split at hk
  ·split at hk<;>try (simp at hk;done)
   rename_i hcc
   simp only [Option.some.injEq,Prod.mk.injEq] at hk
   obtain ⟨rfl,rfl⟩:=hk
   have hg:∀x,h[idx]? = some x→H[idx]? = some x:=hag idx (by simp)
   unfold insE
   simp only [ZfH hg hread,hg _ hox]
   rw [if_pos hcond,if_pos hcc]
  ·rename_i sz id soff len sfr sfull
   split at hk<;>try (simp at hk;done)
   rename_i sz' es own nil ho
   split at hk<;>try (simp at hk;done)
   rename_i hcc
   simp only [Option.some.injEq,Prod.mk.injEq] at hk
   obtain ⟨rfl,rfl⟩:=hk
   have hg:∀x,h[idx]? = some x→H[idx]? = some x:=hag idx (by simp)
   have hg2:∀x,h[id]? = some x→H[id]? = some x:=hag id (by simp)
   unfold insE
   simp only [ZfH hg hread,hg _ hox]
   rw [if_pos hcond]
   simp only [hg2 _ ho]
   rw [if_pos hcc]
  ·simp at hk
 ·unfold insE at hk
  split at hk<;>try (simp at hk;done)
  rename_i s i sx idx off m fr full
  split at hk<;>try (simp at hk;done)
  rename_i news szx esx nilx hread hox
  split at hk<;>try (simp at hk;done)
  rename_i hcond
  split at hk
  ·split at hk<;>try (simp at hk;done)
   simp only [Option.some.injEq,Prod.mk.injEq] at hk
   obtain ⟨rfl,rfl⟩:=hk
   simp at hp
  ·rename_i sz id soff len sfr sfull
   split at hk<;>try (simp at hk;done)
   rename_i sz' es own nil ho
   split at hk<;>try (simp at hk;done)
   rename_i hcc
   simp only [Option.some.injEq,Prod.mk.injEq] at hk
   obtain ⟨rfl,rfl⟩:=hk
   simp only [List.mem_singleton] at hp
   subst hp
   exact ⟨_,ho,by simp⟩
  ·simp at hk
theorem ZmB {f:FuncId} {n0 by_:Nat} {t el:TypeId} (W:InsWalk P f (n0+1) by_ t el):DCalls P f (insE (n0+1) by_):=by
 intro args h base v e hk hd μ w cargs R hargs
 unfold insE at hk
 split at hk<;>try (simp at hk;done)
 rename_i s i sx idx off m fr full
 split at hk<;>try (simp at hk;done)
 rename_i news szx esx nilx hread hox
 split at hk<;>try (simp at hk;done)
 rename_i hcond
 split at hk
 ·split at hk<;>try (simp at hk;done)
  rename_i hcc
  simp only [Option.some.injEq,Prod.mk.injEq] at hk
  obtain ⟨rfl,rfl⟩:=hk
  refine ⟨W.goes, ?_⟩
  obtain ⟨hnl,hm0,hall,rfl⟩:=hcond
  obtain ⟨rfl,hbig⟩:=hcc
  simp only [VRs] at hargs
  obtain ⟨v1,vs1,hq1,hv1,v2,vs2,rfl,hv2,v3,vs3,rfl,hv3,rfl⟩:=hargs
  have hcargs:cargs = #[v1,v2,v3]:=by apply Array.ext';simpa using hq1
  subst hcargs
  have e2:v2 = .int .i64 0:=by simp only [VR] at hv2;exact hv2.2
  subst e2
  have e1:v1 = .slice none 0 0:=by simp only [VR] at hv1;exact hv1.2
  subst e1
  have hRd:=Z6d (P:=P) R hv3 hread hall
  obtain ⟨A3,c3,rfl,hcell⟩:=hRd.val
  obtain ⟨z,hz1,hz2,hz3⟩:=W.hz
  have hdead:h[base]? = some .dead:=by have:=hd 0 (by simp);simpa using this
  have hap:appE (n0+1) by_ (.s (.slice none 0 0)) (.sl sx idx 0 m fr full) h base=some (.sl (n0+1) base 0 m m false,⟨[],[.arr (n0+1) news true false],idsOf (.sl sx idx 0 m fr full)⟩):=by
   unfold appE
   rw [hread]
   simp only [hnl]
   rw [if_neg (by omega),if_pos ⟨hbig,hall⟩]
  obtain ⟨w2,u,μ2,hrun,S2,hu⟩:=Z6e (ty:=t) R W.ht W.hs W.hb hz1 hz2 hz3 W.big hv1 hv3 hap (fun _=>hdead)
  have hrun':∀ty,(Builtin.append_ #[t,t] ty #[.slice none 0 0, .slice A3 news.length c3]).run P w = .ok u w2:=fun ty=>by
   have:(Builtin.append_ #[t,t] ty #[.slice none 0 0, .slice A3 news.length c3]).run P w=(Builtin.append_ #[t,t] t #[.slice none 0 0, .slice A3 news.length c3]).run P w:=rfl
   rw [this];exact hrun
  have key:=W.fin none A3 0 0 news.length c3 u w w2 (by omega) (Nat.le_refl _) (fun _=>rfl) hrun'
  refine key.mono ?_
  rintro e w' ⟨rfl,rfl⟩
  exact ⟨u,μ2,rfl,S2,hu⟩
 ·rename_i sz id soff len sfr sfull
  split at hk<;>try (simp at hk;done)
  rename_i sz' es own nil ho
  split at hk<;>try (simp at hk;done)
  rename_i hcc
  simp only [Option.some.injEq,Prod.mk.injEq] at hk
  obtain ⟨rfl,rfl⟩:=hk
  have hF:insF (n0+1) by_ [.sl sz id soff len sfr sfull, .s (.int .i64 i), .sl sx idx off m fr full] h=some (.sl (n0+1) id 0 (len+m) (len+m) false,h.set id (.arr (n0+1) (es.take i.toNat++news++es.drop i.toNat) true false)):=by
   unfold insF
   simp only [hread,hox]
   rw [if_pos hcond]
   simp only [ho]
   rw [if_pos hcc]
  exact ZfG W _ _ _ _ hF μ w cargs R hargs
 ·simp at hk
theorem DSound.ins {D:DTab} (DS:DSound P D) {f:Nat} {n0 by_:Nat} {t el:TypeId} (W:InsWalk P f (n0+1) by_ t el):DSound P (updD D f (insE (n0+1) by_)):=DS.upd (ZmA _ _) (ZmB W)
theorem ZmC {α:Type} {f:α→List AV} {k by_ id idx:Nat} {full nil:Bool} {W:List α} {x:α} {h:Hp} {nilx:Bool} {i:Nat} (hid:h[id]? = some (.arr k (W.map f) true nil)) (hx:h[idx]? = some (.arr k [f x] true nilx)) (hne:id≠idx) (hf:∀x,(f x).length=k) (hi:i≤W.length) (hb:(W.length+1) * by_≤140737488355328) (base:Nat):
  insE k by_ [.sl k id 0 W.length W.length false, .s (.int .i64 (i:Int)), .sl k idx 0 1 1 full] h base=some (.sl k id 0 (W.length+1) (W.length+1) false,⟨[(id, .arr k ((W.take i++[x]++W.drop i).map f) true false)],[],[id,idx]⟩):=by
 have hr:readSl h (.sl k idx 0 1 1 full)=some [f x]:=by
  unfold readSl
  simp [hx]
 unfold insE
 simp only [hr,hx]
 rw [if_pos (by simp [hf])]
 simp only [hid,List.length_map]
 rw [if_pos ⟨trivial,trivial,trivial,trivial,trivial,trivial,trivial,hne,hb,by omega,by omega⟩]
 rw [Int.toNat_natCast,List.map_append,List.map_append,List.map_take,List.map_drop]
 rfl
theorem ZmD {α:Type} {f:α→List AV} {k by_ idx:Nat} {full:Bool} {x:α} {h:Hp} {nilx:Bool} (hx:h[idx]? = some (.arr k [f x] true nilx)) (hf:∀x,(f x).length=k) (hb:by_≤140737488355328) (base:Nat):
  insE k by_ [.s (.slice none 0 0), .s (.int .i64 0), .sl k idx 0 1 1 full] h base=some (.sl k base 0 1 1 false,⟨[],[.arr k [f x] true false],[idx]⟩):=by
 have hr:readSl h (.sl k idx 0 1 1 full)=some [f x]:=by
  unfold readSl
  simp [hx]
 unfold insE
 simp only [hr,hx]
 rw [if_pos (by simp [hf]),if_pos ⟨trivial,by omega⟩]
end Go.AM


namespace Go.AM
open Go.RowKit Go.Lib
set_option linter.unusedVariables false
set_option linter.unusedSimpArgs false
section
variable {P:Program}
theorem ZbT (w:World) {ops:Array Oper} {rest:List Oper} {o:Oper} {a:Act} {Q:Exit→Act→World→Prop} (hgd:o.guard=none) (d s:Operand) (t t':TypeId)
  (ho:o.op = .call { callee := .builtin .copy,args := #[d,s],argTypes := #[t,t'] }) (v u:Value) (hd:a.eval d=v) (hs:a.eval s=u) {v':Value} {w':World}
  (hr:(Builtin.copy_ #[t,t'] o.type #[v,u]).run P w = .ok v' w') (h:wpList P ops Q rest (a.put o.dst v') w'):wpList P ops Q (o::rest) a w:=
 wpList_plain hgd fun _ hK=>by
  unfold Oper.wp execOp
  simp only [ho,resolve,invoke,builtin,Sem.run_bind,Sem.run_pure,Result.andThen_ok,List.map_toArray,List.map_cons,List.map_nil,hd,hs,hr]
  exact hK _ _ h
theorem ZfI {ops:Array Oper} {o:Oper} {a:Act} {w:World} {K:Act→World→Prop} {Q:Exit→Act→World→Prop} {E:Prop}
  (hg:o.guard=none) (d x:Operand) (dT sT:TypeId) (hop:o.op=Op.call { callee:=Callee.builtin Builtin.copy,args := #[d,x],argTypes := #[dT,sT] })
  (v u:Value) (hd:a.eval d=v) (hx:a.eval x=u) {v':Value} {w':World} (hr:(Builtin.copy_ #[dT,sT] o.type #[v,u]).run P w = .ok v' w') (hK:K (a.put o.dst v') w'):
  if Region.wanted o (yielded ops a.tmps)=true then Oper.wp P o a w K Q else E:=by
 have hw:Region.wanted o (yielded ops a.tmps)=true:=by simp [Region.wanted,hg]
 rw [if_pos hw]
 unfold Oper.wp
 simp [execOp,hop,resolve,invoke,builtin,hd,hx,hr,Result.andThen]
 exact hK
theorem Z9j (w:World) (dT sT ty elem:TypeId) (k g o dLen dCap:Nat) (a:Addr) (sLen sCap:Nat) (cur:Array Value) (t:TypeId) (cs:List Value)
  (hu:P.underlying dT=some (.slice elem)) (hs:(P.info? elem).map (·.size)=some k)
  (hg:w.heap[g]? = some (.cells cur t (0,0))) {n:Nat} (hn:Nat.min sLen dLen=n) (hl:cs.length=n * k)
  (hsrc:∀j v,cs[j]? = some v→w.cell? (a.add j)=some v) (hfit:o+cs.length≤cur.size) (h1:∀v ∈ cs,v.oneCell'=true):
  (Builtin.copy_ #[dT,sT] ty #[.slice (some ⟨g,o,none⟩) dLen dCap, .slice (some a) sLen sCap]).run P w =
   .ok (goInt n) (w.setRow g (cur.toList.take o++cs++cur.toList.drop (o+cs.length)).toArray):=by
 have hl':=run_loadCells_list (P:=P) w a cs hsrc
 rw [hl] at hl'
 have hst:=run_storeCells_at P g o t cs 0 cur w hg (by simpa using hfit) h1
 cases hq:P.info? elem with
 | none=>simp [hq] at hs
 | some i=>
  have hi:i.size=k:=by simpa [hq] using hs
  simp [Builtin.copy_,run_underlying hu,Builtin.lenOf,Builtin.firstCells,sizeOf,typeInfo,hq,hi,hn,hl',hst]
end
theorem ZmE {k i n m:Nat} {l cs vs:List Value} (hcl:cs.length=(n-i) * k) (hl:(n+m) * k≤l.length) (hin:i≤n):
  (l.take ((i+m) * k)++cs++l.drop ((i+m) * k+(n-i) * k)).take (i * k)++vs++(l.take ((i+m) * k)++cs++l.drop ((i+m) * k+(n-i) * k)).drop (i * k+m * k)=l.take (i * k)++vs++cs++l.drop ((n+m) * k):=by
 have e1:(i+m) * k=i * k+m * k:=Nat.add_mul ..
 have e2:(n+m) * k=(i+m) * k+(n-i) * k:=by rw [← Nat.add_mul];congr 1;omega
 have e3:(l.take ((i+m) * k)).length=(i+m) * k:=by rw [List.length_take];omega
 have h1:(l.take ((i+m) * k)++cs++l.drop ((i+m) * k+(n-i) * k)).take (i * k)=l.take (i * k):=by
  rw [List.append_assoc,List.take_append_of_le_length (by omega),List.take_take,Nat.min_eq_left (by omega)]
 have h2:(l.take ((i+m) * k)++cs++l.drop ((i+m) * k+(n-i) * k)).drop (i * k+m * k)=cs++l.drop ((i+m) * k+(n-i) * k):=by
  rw [← e1,List.append_assoc,List.drop_append_of_le_length (by omega),List.drop_of_length_le (by omega),List.nil_append]
 rw [h1,h2,e2,List.append_assoc,List.append_assoc,List.append_assoc]
theorem ZmF (w:World) (r r1 r2:Array Value) (T:TypeId):((w.alloc (.cells r T)).setRow w.heap.size r1).drew.setRow w.heap.size r2=w.drew.alloc (.cells r2 T):=by
 have h:∀(w:World) (r r1:Array Value),(w.alloc (.cells r T)).setRow w.heap.size r1=w.alloc (.cells r1 T):=fun w r r1=>by
  unfold World.setRow World.alloc
  congr 1
  apply Array.ext
  ·simp
  ·intro k h1 h2
   simp only [Array.getElem_modify,Array.getElem_push]
   split
   ·rename_i hk
    subst hk
    simp
   ·rename_i hk
    have hk2:k<w.heap.size:=by simp only [Array.size_push] at h2;omega
    rw [dif_pos hk2,dif_pos hk2]
 rw [h]
 exact h w.drew r1 r2
theorem ZmG {k i n m:Nat} {l cs vs r z:List Value} (hr:r=l.take (i * k)++z) (hcl:cs.length=(n-i) * k) (hvl:vs.length=m * k) (hl:n * k≤l.length) (hz:(n+m-i) * k≤z.length) (hin:i≤n):
  ((r.take (i * k)++vs++r.drop (i * k+m * k)).take ((i+m) * k)++cs++(r.take (i * k)++vs++r.drop (i * k+m * k)).drop ((i+m) * k+(n-i) * k)).take ((n+m) * k)=l.take (i * k)++vs++cs ∧
   ((r.take (i * k)++vs++r.drop (i * k+m * k)).take ((i+m) * k)++cs++(r.take (i * k)++vs++r.drop (i * k+m * k)).drop ((i+m) * k+(n-i) * k)).length=r.length:=by
 have e1:(i+m) * k=i * k+m * k:=Nat.add_mul ..
 have e2:(n+m) * k=(i+m) * k+(n-i) * k:=by rw [← Nat.add_mul];congr 1;omega
 have e3:(n+m-i) * k=m * k+(n-i) * k:=by rw [← Nat.add_mul];congr 1;omega
 have e4:i * k≤n * k:=Nat.mul_le_mul_right _ hin
 have l1:(l.take (i * k)).length=i * k:=by rw [List.length_take];omega
 have hrl:r.length=i * k+z.length:=by rw [hr,List.length_append,l1]
 have h1:r.take (i * k)=l.take (i * k):=by
  rw [hr,List.take_append_of_le_length (by omega),List.take_take,Nat.min_self]
 have l2:(l.take (i * k)++vs).length=(i+m) * k:=by rw [List.length_append,l1,hvl,e1]
 rw [h1]
 have h2:(l.take (i * k)++vs++r.drop (i * k+m * k)).take ((i+m) * k)=l.take (i * k)++vs:=by
  rw [List.take_append_of_le_length (by omega),List.take_of_length_le (by omega)]
 rw [h2]
 constructor
 ·rw [List.take_append_of_le_length (by rw [List.length_append,l2,hcl];omega),List.take_of_length_le (by rw [List.length_append,l2,hcl];omega)]
 ·rw [List.length_append,List.length_append,l2,hcl,List.length_drop,List.length_append,l2,List.length_drop]
  omega
end Go.AM


namespace Go.AM
open Go.Proofs Go.RowKit Go.Lib
set_option linter.unusedVariables false
set_option linter.unusedSimpArgs false
set_option maxHeartbeats 4000000 in
set_option maxRecDepth 100000 in
theorem ZmH (b n c i vb m vc:Nat) (cur:Array Value) (T:TypeId) (vs:List Value) (w:World) (hi:i<n) (hm:0<m) (hroom:n+m≤c) (hc63:c≤9223372036854775807) (hvb:vb≠b)
  (hbk:w.heap[b]? = some (.cells cur T (0,0))) (hcap:c * 2≤cur.size) (h1:∀v ∈ cur.toList.take (n * 2),v.oneCell'=true)
  (hvl:vs.length=m * 2) (hvs:∀j v,vs[j]? = some v→w.cell? ⟨vb,j,none⟩=some v) (h1v:∀v ∈ vs,v.oneCell'=true)
  (tA tB:TypeId) (kA kB:Nat) (hsa:w.shape? vb=some (tA,kA)) (hsb:w.shape? b=some (tB,kB)) (hkB:kB≠0) (hfa:w.frozen? ⟨vb,0,none⟩=false) (hfe:w.frozen? ⟨vb,kA,none⟩=false):
  Calls Try.prog 79 #[.slice (some ⟨b,0,none⟩) n c, .int .i64 i, .slice (some ⟨vb,0,none⟩) m vc] w fun e w'=>
   e = .returned (.slice (some ⟨b,0,none⟩) (n+m) c)∧w'=w.drew.setRow b (cur.toList.take (i * 2)++vs++(cur.toList.drop (i * 2)).take ((n-i) * 2)++cur.toList.drop ((n+m) * 2)).toArray:=by
 have u0:=run_underlying Try.underlying22;have u3:=run_underlying Try.underlying3;have u4:=run_underlying Try.underlying4
 have hz1:¬((m:Int)=0):=by omega
 have hz2:¬((i:Int)=(n:Int)):=by omega
 have hsz:(Try.prog.info? 36).map (·.size)=some 2:=by kernel_rfl
 have hov:∀lb cb,(callFunc 97 #[.slice (some ⟨vb,0,none⟩) m vc, .slice (some ⟨b,(i+m) * 2,none⟩) lb cb]).run Try.prog w = .ok (.value (.bool false)) w:=fun lb cb=>by
  rw [run_callFunc_extern Try.func97 (by kernel_rfl) (by kernel_rfl) (by kernel_rfl) (e:=Extern.SlicesOverlaps.overlaps #[22,22] #[4]) (by kernel_rfl),
   Lib.run_overlaps_apart w 22 4 36 Try.underlying22 2 Try.sizeOf36 ⟨vb,0,none⟩ ⟨b,(i+m) * 2,none⟩ m vc lb cb hvb tA tB kA kB hsa hsb hkB hfa hfe]
  rfl
 have mixed:Try.prog.follows .mixedOrders=true:=by kernel_rfl
 have hw1:IntKind.i64.wrap ((i:Int)+(m:Int))=(i:Int)+(m:Int):=by rw [IntKind.wrap_i64];omega
 have hb1:(0:Int)≤(i:Int)+(m:Int):=by omega
 have hin:i≤n:=by omega
 have htn:((i:Int)+(m:Int)).toNat=i+m:=by omega
 have hb2:¬(c=i+m):=by omega
 have hb3:(i:Int)≤(n:Int)+(m:Int):=by omega
 have hb4:¬(c=i):=by omega
 obtain ⟨cs,hcs⟩:∃cs,cs=(cur.toList.drop (i * 2)).take ((n-i) * 2):=⟨_,rfl⟩
 have hcl:cs.length=(n-i) * 2:=by rw [hcs,List.length_take,List.length_drop,Array.length_toList];omega
 have hcm:∀v ∈ cs,v.oneCell'=true:=fun v hv=>h1 v (by
  obtain ⟨j,hj⟩:=List.getElem?_of_mem hv
  rw [hcs,List.getElem?_take] at hj
  split at hj
  ·rw [List.getElem?_drop] at hj
   refine List.mem_of_getElem? (i:=i * 2+j) ?_
   rw [List.getElem?_take,if_pos (by omega)]
   exact hj
  ·cases hj)
 obtain ⟨row1,hr1⟩:∃row1,row1=(cur.toList.take ((i+m) * 2)++cs++cur.toList.drop ((i+m) * 2+cs.length)).toArray:=⟨_,rfl⟩
 have hrs1:row1.size=cur.size:=by rw [hr1];simp [hcl];omega
 have hcp1:∀ty dc sc,(Builtin.copy_ #[22,22] ty #[.slice (some ⟨b,(i+m) * 2,none⟩) (n+m-(i+m)) dc, .slice (some ⟨b,i * 2,none⟩) (n+m-i) sc]).run Try.prog w.drew = .ok (goInt ((n-i:Nat):Int)) (w.drew.setRow b row1):=fun ty dc sc=>by
  rw [hr1]
  refine Z9j (n:=n-i) w.drew 22 22 ty 36 2 b _ _ dc _ _ sc cur T cs Try.underlying22 hsz hbk (by simp only [Nat.min_def];split<;>omega) hcl (fun j v hj => ?_) (by rw [hcl];omega) hcm
  rw [hcs,List.getElem?_take] at hj
  split at hj
  ·rw [List.getElem?_drop] at hj
   rw [Addr.add_lit]
   rw [cell_of_row w.drew b _ cur T (0,0) hbk]
   simpa using hj
  ·cases hj
 have hh2:(w.drew.setRow b row1).heap[b]? = some (.cells row1 T (0,0)):=setRow_heap w.drew b cur row1 T (0,0) hbk
 obtain ⟨row2,hr2⟩:∃row2,row2=(row1.toList.take (i * 2)++vs++row1.toList.drop (i * 2+vs.length)).toArray:=⟨_,rfl⟩
 have hcp2:∀ty dc,(Builtin.copy_ #[22,22] ty #[.slice (some ⟨b,i * 2,none⟩) (n+m-i) dc, .slice (some ⟨vb,0,none⟩) m vc]).run Try.prog (w.drew.setRow b row1) = .ok (goInt m) (w.drew.setRow b row2):=fun ty dc=>by
  have:=Z9j (P:=Try.prog) (w.drew.setRow b row1) 22 22 ty 36 2 b (i * 2) (n+m-i) dc ⟨vb,0,none⟩ m vc row1 T vs Try.underlying22 hsz hh2 (n:=m) (by simp only [Nat.min_def];split<;>omega) hvl (fun j v hj=>by
   rw [Addr.add_lit,Nat.zero_add,Z1I (w:=w) (by rw [setRow_other w.drew b vb row1 hvb];rfl)]
   exact hvs j v hj) (by omega) h1v
  rw [this,setRow_setRow,hr2]
 have hfin:row2=(cur.toList.take (i * 2)++vs++(cur.toList.drop (i * 2)).take ((n-i) * 2)++cur.toList.drop ((n+m) * 2)).toArray:=by
  rw [hr2,hr1,hvl,hcl, ← hcs]
  exact congrArg List.toArray (ZmE (k:=2) (i:=i) (n:=n) (m:=m) hcl (by rw [Array.length_toList];omega) hin)
 rw [← hfin]
 clear hfin hr1 hr2 hcs hcl hcm hrs1 hh2
 go_enter Try.func79,Try.ntmps79
 go_wp2_with (simp only [hov])
 go_region_law_o (go_loud (refine ZfI rfl _ _ 22 22 rfl (.slice (some ⟨b,(i+m) * 2,none⟩) (n+m-(i+m)) (c-(i+m))) (.slice (some ⟨b,i * 2,none⟩) (n+m-i) (c-i)) (by simp [Act.eval,Act.put]) (by simp [Act.eval,Act.put]) (hcp1 3 (c-(i+m)) (c-i)) ?_))
 go_wp2_with (at_builtin;refine ZbT _ rfl _ _ 22 22 rfl _ _ rfl rfl (hcp2 _ _) ?_)
 go_ret
 exact ⟨rfl,rfl⟩
set_option maxHeartbeats 4000000 in
set_option maxRecDepth 100000 in
theorem ZmI (b n c i vb m vc:Nat) (cur:Array Value) (T:TypeId) (vs:List Value) (w:World) (hi:i<n) (hm:0<m) (hnc:n≤c) (hroom:c<n+m) (hbig:(n+m) * 16≤140737488355328)
  (hbk:w.heap[b]? = some (.cells cur T (0,0))) (hcap:n * 2≤cur.size) (h1:∀v ∈ cur.toList.take (n * 2),v.oneCell'=true)
  (hvl:vs.length=m * 2) (hvs:∀j v,vs[j]? = some v→w.cell? ⟨vb,j,none⟩=some v) (h1v:∀v ∈ vs,v.oneCell'=true):
  Calls Try.prog 79 #[.slice (some ⟨b,0,none⟩) n c, .int .i64 i, .slice (some ⟨vb,0,none⟩) m vc] w fun e w'=>
   ∃(G:Nat) (R:Array Value),n+m≤G∧G≤maxLen∧R.size=G * 2∧R.toList.take ((n+m) * 2)=cur.toList.take (i * 2)++vs++(cur.toList.drop (i * 2)).take ((n-i) * 2)∧e = .returned (.slice (some ⟨w.heap.size,0,none⟩) (n+m) G)∧w'=w.drew.drew.alloc (.cells R 36):=by
 have u0:=run_underlying Try.underlying22;have u3:=run_underlying Try.underlying3;have u4:=run_underlying Try.underlying4
 have mixed:Try.prog.follows .mixedOrders=true:=by kernel_rfl
 obtain ⟨i0,hi0,hz0,hzs,hzb⟩:=info_parts (P:=Try.prog) (e:=36) (z := .agg #[.int .i64 0, .int .i64 0]) (size:=2) (bytes:=16) (by kernel_rfl)
 have hz1:¬((m:Int)=0):=by omega
 have hz2:¬((i:Int)=(n:Int)):=by omega
 have hz3:(c:Int)<(n:Int)+(m:Int):=by omega
 have hsz:(Try.prog.info? 36).map (·.size)=some 2:=by rw [hi0];simp [hzs]
 have hkk:(n:Int)+(m:Int)-(i:Int)=((n+m-i:Nat):Int):=by omega
 have hik:i+(n+m-i)=n+m:=by omega
 have hb8:b<w.heap.size:=(Array.getElem?_eq_some_iff.1 hbk).1
 have hvb:vb<w.heap.size:=by
  have h0:0<vs.length:=by omega
  exact block_lt_of_cell (hvs 0 _ (List.getElem?_eq_getElem h0))
 have hcl0:(cur.toList.take (i * 2)).length=i * 2:=by rw [List.length_take,Array.length_toList];omega
 have hold:(Builtin.firstCells i0.size i (.slice (some ⟨b,0,none⟩) i c)).run Try.prog w.drew = .ok (cur.toList.take (i * 2)).toArray w.drew:=by
  rw [hzs]
  exact run_firstCells_some w.drew 2 i ⟨b,0,none⟩ i c (cur.toList.take (i * 2)) hcl0 (fun j v hj=>by
   rw [Addr.add_lit,cell_of_row w.drew b _ cur T (0,0) hbk]
   rw [List.getElem?_take] at hj
   split at hj
   ·simpa using hj
   ·cases hj)
 obtain ⟨G,hG⟩:∃G,G=grownCap w (n+m) c 36:=⟨_,rfl⟩
 obtain ⟨zc,hzc⟩:∃zc:Array Value,zc=Value.cells (.agg #[.int .i64 0, .int .i64 0]):=⟨_,rfl⟩
 have hzc7:zc.size=2:=by rw [hzc];rfl
 obtain ⟨ROW,hROW⟩:∃ROW:Array Value,ROW=(cur.toList.take (i * 2)).toArray++Builtin.zeroCells zc (n+m-i)++Builtin.zeroCells zc (G-(n+m)):=⟨_,rfl⟩
 have hrz:∀ty,(Builtin.append_ #[22,3] ty #[.slice (some ⟨b,0,none⟩) i c, .int .i64 ((n:Int)+(m:Int)-(i:Int))]).run Try.prog w =
   .ok (.slice (some ⟨w.heap.size,0,none⟩) (n+m) G) (w.drew.alloc (.cells ROW 36)):=fun ty=>by
  have h:=Lib.run_append_grow_zeros w 22 3 ty 36 i0 _ .i64 .i64 Try.underlying22 Try.underlying3 hi0 hz0 (some ⟨b,0,none⟩) i c (cur.toList.take (i * 2)) hold (n+m-i) (by omega) (by omega) (by omega) (by omega) (by rw [hzb];omega) (by rw [hzb,hik];exact growslice_fits hroom hbig)
  rw [hik] at h
  rw [hkk,hROW,hG,hzc]
  exact h
 have hGn:n+m≤G:=by rw [hG];exact grownCap_ge w _ _ _
 have hGx:G≤maxLen:=by
  rw [hG];exact grownCap_le_maxLen w (n+m) c 36 (by unfold maxLen;omega)
 have hG63:G≤9223372036854775807:=by unfold maxLen at hGx;omega
 have hRs:ROW.size=G * 2:=by
  rw [hROW]
  simp only [Array.size_append,size_zeroCells,List.size_toArray,hcl0,hzc7]
  omega
 obtain ⟨cs,hcs⟩:∃cs,cs=(cur.toList.drop (i * 2)).take ((n-i) * 2):=⟨_,rfl⟩
 have hcl:cs.length=(n-i) * 2:=by rw [hcs,List.length_take,List.length_drop,Array.length_toList];omega
 have hcm:∀v ∈ cs,v.oneCell'=true:=fun v hv=>h1 v (by
  obtain ⟨j,hj⟩:=List.getElem?_of_mem hv
  rw [hcs,List.getElem?_take] at hj
  split at hj
  ·rw [List.getElem?_drop] at hj
   refine List.mem_of_getElem? (i:=i * 2+j) ?_
   rw [List.getElem?_take,if_pos (by omega)]
   exact hj
  ·cases hj)
 obtain ⟨r1,hr1⟩:∃r1,r1=(ROW.toList.take (i * 2)++vs++ROW.toList.drop (i * 2+vs.length)).toArray:=⟨_,rfl⟩
 have hrs1:r1.size=ROW.size:=by rw [hr1];simp;omega
 obtain ⟨r2,hr2⟩:∃r2,r2=(r1.toList.take ((i+m) * 2)++cs++r1.toList.drop ((i+m) * 2+cs.length)).toArray:=⟨_,rfl⟩
 obtain ⟨W1,hW1⟩:∃W1,W1=w.drew.alloc (.cells ROW 36):=⟨_,rfl⟩
 rw [← hW1] at hrz
 have hg1:W1.heap[w.heap.size]? = some (.cells ROW 36 (0,0)):=by rw [hW1];exact heap_alloc_new w.drew _
 have hO:∀k,k<w.heap.size→W1.heap[k]? = w.heap[k]? := fun k hk=>by
  rw [hW1]
  exact (Frame.alloc (S:=fun _=>False) w.drew _).block k hk (fun h=>h)
 have hcpA:∀ty dc,(Builtin.copy_ #[22,22] ty #[.slice (some ⟨w.heap.size,i * 2,none⟩) (n+m-i) dc, .slice (some ⟨vb,0,none⟩) m vc]).run Try.prog W1 = .ok (goInt m) (W1.setRow w.heap.size r1):=fun ty dc=>by
  rw [hr1]
  exact Z9j (P:=Try.prog) (n:=m) W1 22 22 ty 36 2 w.heap.size (i * 2) (n+m-i) dc ⟨vb,0,none⟩ m vc ROW 36 vs Try.underlying22 hsz hg1 (by simp only [Nat.min_def];split<;>omega) hvl (fun j v hj=>by
   rw [Addr.add_lit,Nat.zero_add,Z1I (hO vb hvb)]
   exact hvs j v hj) (by omega) h1v
 have hg2:(W1.setRow w.heap.size r1).heap[w.heap.size]? = some (.cells r1 36 (0,0)):=setRow_heap W1 _ ROW r1 36 (0,0) hg1
 have hcpB:∀ty dc sc,(Builtin.copy_ #[22,22] ty #[.slice (some ⟨w.heap.size,(i+m) * 2,none⟩) (n+m-(i+m)) dc, .slice (some ⟨b,i * 2,none⟩) (n-i) sc]).run Try.prog (W1.setRow w.heap.size r1).drew = .ok (goInt ((n-i:Nat):Int)) ((W1.setRow w.heap.size r1).drew.setRow w.heap.size r2):=fun ty dc sc=>by
  rw [hr2]
  exact Z9j (P:=Try.prog) (n:=n-i) (W1.setRow w.heap.size r1).drew 22 22 ty 36 2 w.heap.size _ _ dc _ _ sc r1 36 cs Try.underlying22 hsz hg2 (by simp only [Nat.min_def];split<;>omega) hcl (fun j v hj=>by
   rw [hcs,List.getElem?_take] at hj
   split at hj
   ·rw [List.getElem?_drop] at hj
    have hbb:(W1.setRow w.heap.size r1).drew.heap[b]? = some (.cells cur T (0,0)):=by
     show (W1.setRow w.heap.size r1).heap[b]? = _
     rw [setRow_other W1 _ b r1 (by omega),hO b hb8,hbk]
    rw [Addr.add_lit,cell_of_row _ b _ cur T (0,0) hbb]
    simpa using hj
   ·cases hj) (by omega) hcm
 have hGi:¬(G=i):=by omega
 have hGim:¬(G=i+m):=by omega
 have hci:¬(c=i):=by omega
 have hw1:IntKind.i64.wrap ((i:Int)+(m:Int))=(i:Int)+(m:Int):=by rw [IntKind.wrap_i64];omega
 have hb1:(0:Int)≤(i:Int)+(m:Int):=by omega
 have hin:i≤n:=by omega
 have htn:((i:Int)+(m:Int)).toNat=i+m:=by omega
 have hb3:(i:Int)≤(n:Int):=by omega
 obtain ⟨q1,q2⟩:=ZmG (k:=2) (i:=i) (n:=n) (m:=m) (l:=cur.toList) (cs:=cs) (vs:=vs) (r:=ROW.toList) (z:=(Builtin.zeroCells zc (n+m-i)++Builtin.zeroCells zc (G-(n+m))).toList) (by rw [hROW];simp) hcl hvl (by rw [Array.length_toList];exact hcap) (by
  simp only [Array.toList_append,List.length_append,Array.length_toList,size_zeroCells,hzc7];omega) hin
 have hR1:r2.toList.take ((n+m) * 2)=cur.toList.take (i * 2)++vs++cs:=by rw [hr2,hr1,hvl,hcl];exact q1
 have hR2:r2.size=G * 2:=by
  have:r2.toList.length=ROW.toList.length:=by rw [hr2,hr1,hvl,hcl];exact q2
  simpa [hRs] using this
 have hend:(W1.setRow w.heap.size r1).drew.setRow w.heap.size r2=w.drew.drew.alloc (.cells r2 36):=by
  subst hW1
  exact ZmF w.drew ROW r1 r2 36
 refine Calls.mono (R:=fun e w'=>e = .returned (.slice (some ⟨w.heap.size,0,none⟩) (n+m) G)∧w'=(W1.setRow w.heap.size r1).drew.setRow w.heap.size r2) ?_ (fun e w' ⟨h1,h2⟩=>⟨G,r2,hGn,hGx,hR2,by rw [hR1,hcs],h1,h2.trans hend⟩)
 clear hkk hik hold hROW hG hend hW1 q1 q2 hR1 hR2 hr1 hr2 hcs hcl hcm hg1 hg2 hrs1 hRs hzc hzc7 hO hcl0 hbk
 go_enter Try.func79,Try.ntmps79
 go_wp2_with (first
  | (at_builtin;refine Lib.wpList_append_run _ rfl _ _ _ _ rfl _ _ rfl rfl _ _ (hrz _) ?_)
  | (at_builtin;refine ZbT _ rfl _ _ 22 22 rfl _ _ rfl rfl (hcpA _ _) ?_)
  | (at_builtin;refine ZbT _ rfl _ _ 22 22 rfl _ _ rfl rfl (hcpB _ _ _) ?_))
 go_region_law_o (go_loud (refine ZfI rfl _ _ 22 22 rfl (.slice (some ⟨w.heap.size,(i+m) * 2,none⟩) (n+m-(i+m)) (G-(i+m))) (.slice (some ⟨b,i * 2,none⟩) (n-i) (c-i)) (by simp [Act.eval,Act.put]) (by simp [Act.eval,Act.put]) (hcpB 3 (G-(i+m)) (c-i)) ?_))
 go_wp2
 go_ret
 exact ⟨rfl,rfl⟩
set_option maxHeartbeats 4000000 in
set_option maxRecDepth 100000 in
theorem ZmJ (A B:Option Addr) (n c m vc:Nat) (u:Value) (w W':World) (hm:0<m) (hnc:n≤c) (hA:A=none→c=0)
  (hr:∀ty,(Builtin.append_ #[22,22] ty #[.slice A n c, .slice B m vc]).run Try.prog w = .ok u W'):
  Calls Try.prog 79 #[.slice A n c, .int .i64 n, .slice B m vc] w fun e w'=>e = .returned u∧w'=W':=by
 have u0:=run_underlying Try.underlying22;have u3:=run_underlying Try.underlying3;have u4:=run_underlying Try.underlying4
 have mixed:Try.prog.follows .mixedOrders=true:=by kernel_rfl
 have hz1:¬((m:Int)=0):=by omega
 go_enter Try.func79,Try.ntmps79
 cases A with
 | none=>
  have h0:=hA rfl
  subst h0
  have hn0:n=0:=by omega
  subst hn0
  go_wp2_with (at_builtin;refine Lib.wpList_append_run _ rfl _ _ _ _ rfl _ _ rfl rfl _ _ (hr _) ?_)
  go_ret
  exact ⟨rfl,rfl⟩
 | some a=>
  obtain ⟨ab,ao,asp⟩:=a
  go_wp2_with (at_builtin;refine Lib.wpList_append_run _ rfl _ _ _ _ rfl _ _ rfl rfl _ _ (hr _) ?_)
  all_goals (go_ret;exact ⟨rfl,rfl⟩)
theorem ZfJ:InsWalk Try.prog 79 2 16 22 36:=⟨⟨Try.f79,Try.func79,by kernel_rfl,by kernel_rfl⟩,Try.underlying22,by kernel_rfl,by kernel_rfl,⟨.agg [.s (.int .i64 0), .s (.int .i64 0)],by kernel_rfl,by kernel_rfl,by kernel_rfl⟩,fun m hm=>by unfold maxLen;omega,ZmH,ZmI,ZmJ⟩
end Go.AM


namespace Go.AM
open Go.RowKit Go.Sort Go.Proofs
set_option linter.unusedVariables false
set_option linter.unusedSimpArgs false
variable {P:Program} {μ μ':Mu} {h h':Hp} {w w':World}
abbrev RowE (k:Nat) (ok:List Value→Bool):={ e:List Value // e.length=k∧(∀v ∈ e,gv v=true)∧ok e=true }
def encE (e:List Value):List AV:=e.map .s
def decE (k:Nat) (ok:List Value→Bool) (e:List AV):Option (List Value):=match e.mapM cellV with | some l=>if l.length=k∧ok l=true then some l else none | none=>none
def ltF (Fc:Fun) (x y:List Value):Bool:=match Fc [.agg (encE x), .agg (encE y)] [] with | some (.s (.int .i64 n),_)=>decide (n<0) | _=>false
def SortOk (k:Nat) (ok:List Value→Bool) (Fc:Fun):Prop:=∃cf:RowE k ok→RowE k ok→Int,(∀x y,Fc [.agg (encE x.1), .agg (encE y.1)] []=some (.s (.int .i64 (cf x y)),[]))∧SWO (ltOf cf)∧∀x y,ltOf cf x y=false→ltOf cf y x=false→x=y
open Classical in
noncomputable def sortF (k:Nat) (ok:List Value→Bool) (g:Nat) (Fc:Fun):Fun:=fun args h=>
 match args with
 | [.sl sz id off len fr _, .fn g' []]=>
  match h[id]? with
  | some (.arr sz' es own nil)=>
   if g'=g∧sz=k∧sz'=k∧es.length=fr∧own=true∧off+len≤es.length∧len<4611686018427387904∧SortOk k ok Fc then
    match ((es.drop off).take len).mapM (decE k ok) with
    | some l=>some (.tup [],h.set id (.arr k (es.take off++(l.mergeSort fun x y => !ltF Fc y x).map encE++es.drop (off+len)) true nil))
    | none=>none
   else none
  | _=>none
 | [.s (.slice none 0 0), .fn _ _]=>some (.tup [],h)
 | _=>none
theorem ZmK {a:AV} {v:Value} (h:cellV a=some v):a = .s v∧gv v=true:=by
 unfold cellV at h
 split at h<;>try (simp at h;done)
 split at h<;>try (simp at h;done)
 rename_i hg
 simp only [Option.some.injEq] at h
 subst h
 exact ⟨rfl,hg⟩
theorem ZfK:∀ {e:List AV} {l:List Value},e.mapM cellV=some l→e=encE l∧∀v ∈ l,gv v=true
 | [],l,h=>by simp at h;subst h;exact ⟨rfl,by simp⟩
 | a::e,l,h=>by
  simp only [List.mapM_cons,Option.pure_def,Option.bind_eq_bind,Option.bind_eq_some_iff,Option.some.injEq] at h
  obtain ⟨v,hv,l',hl,rfl⟩:=h
  obtain ⟨rfl,hg⟩:=ZmK hv
  obtain ⟨rfl,hgs⟩:=ZfK hl
  exact ⟨rfl,fun u hu=>(List.mem_cons.1 hu).elim (fun e=>e ▸ hg) (hgs u)⟩
theorem ZmL {k:Nat} {ok:List Value→Bool} {e:List AV} {l:List Value} (h:decE k ok e=some l):e=encE l∧l.length=k∧(∀v ∈ l,gv v=true)∧ok l=true:=by
 unfold decE at h
 split at h<;>try (simp at h;done)
 rename_i l' hl
 split at h<;>try (simp at h;done)
 rename_i hk
 simp only [Option.some.injEq] at h
 subst h
 obtain ⟨h1,h2⟩:=ZfK hl
 exact ⟨h1,hk.1,h2,hk.2⟩
theorem ZfL {k:Nat} {ok:List Value→Bool}:∀ {es:List (List AV)} {l:List (List Value)},es.mapM (decE k ok)=some l→∃d:List (RowE k ok),l=d.map (·.1)∧es=d.map fun x=>encE x.1
 | [],l,h=>by simp at h;subst h;exact ⟨[],rfl,rfl⟩
 | e::es,l,h=>by
  simp only [List.mapM_cons,Option.pure_def,Option.bind_eq_bind,Option.bind_eq_some_iff,Option.some.injEq] at h
  obtain ⟨x,hx,l',hl,rfl⟩:=h
  obtain ⟨rfl,h1⟩:=ZmL hx
  obtain ⟨d,rfl,rfl⟩:=ZfL hl
  exact ⟨⟨x,h1⟩::d,rfl,rfl⟩
theorem VRs.encE:∀ {e:List Value},(∀v ∈ e,gv v=true)→VRs μ h (encE e) e
 | [],_=>by simp [Go.AM.encE,VRs]
 | v::e,hg=>by
  simp only [Go.AM.encE,List.map_cons,VRs]
  exact ⟨v,e,rfl,by unfold VR;exact ⟨hg v (by simp),rfl⟩,VRs.encE fun u hu=>hg u (by simp [hu])⟩
theorem VRs.encE_eq:∀ {e vs:List Value},VRs μ h (Go.AM.encE e) vs→vs=e
 | [],vs,hv=>by simpa [Go.AM.encE,VRs] using hv
 | v::e,vs,hv=>by
  simp only [Go.AM.encE,List.map_cons,VRs] at hv
  obtain ⟨u,us,rfl,h1,h2⟩:=hv
  simp only [VR] at h1
  rw [h1.2,VRs.encE_eq h2]
theorem ZbU {k : Nat} : ∀ {l : List (List Value)}, (∀ e ∈ l, e.length = k) → l.flatten.length = l.length * k ∧ ∀ t, t < l.length * k → l.flatten[t]? = (l[t / k]!)[t % k]?
  | [], _ => ⟨by simp, fun t ht => by simp at ht⟩
  | e :: l, hl => by
    have he := hl e (by simp)
    obtain ⟨i1, i2⟩ := ZbU (l := l) fun x hx => hl x (by simp [hx])
    refine ⟨by simp [he, i1, Nat.add_mul]; omega, fun t ht => ?_⟩
    rw [List.flatten_cons]
    by_cases hk : t < k
    · rw [List.getElem?_append_left (by omega), Nat.div_eq_of_lt hk, Nat.mod_eq_of_lt hk]
      rfl
    · have hk0 : 0 < k := by rcases Nat.eq_zero_or_pos k with e0 | e0; · subst e0; simp at ht
                             · exact e0
      rw [List.getElem?_append_right (by omega), he, i2 (t - k) (by simp [Nat.add_mul] at ht; omega)]
      have h1 : t / k = (t - k) / k + 1 := by
        have := Nat.add_div_right (t - k) hk0
        rw [show t - k + k = t by omega] at this
        exact this
      have h2 : t % k = (t - k) % k := by
        have := Nat.add_mod_right (t - k) k
        rw [show t - k + k = t by omega] at this
        exact this
      rw [h1, h2]
      rfl
theorem ZfM {α : Type} [Inhabited α] (enc : α → List Value) (k : Nat) (hk : ∀ x, (enc x).length = k) (d : List α) : (flatK enc k d.toArray).toList = (d.map enc).flatten := by
  obtain ⟨h1, h2⟩ := ZbU (l := d.map enc) (k := k) (by simp [hk])
  apply List.ext_getElem?
  intro t
  by_cases ht : t < d.length * k
  · rw [h2 t (by simpa using ht)]
    have hk0 : 0 < k := by rcases Nat.eq_zero_or_pos k with e0 | e0; · subst e0; simp at ht
                           · exact e0
    have hd : t / k < d.length := (Nat.div_lt_iff_lt_mul hk0).2 ht
    have hm : t % k < k := Nat.mod_lt _ hk0
    have e1 : (d.map enc)[t / k]! = enc d[t / k] := by
      rw [getElem!_pos _ _ (by simpa using hd)]; simp
    rw [e1]
    have hm' : t % k < (enc d[t / k]).length := by rw [hk]; exact hm
    rw [List.getElem?_eq_getElem hm']
    unfold flatK
    simp only [List.size_toArray, Array.toList_map, Array.toList_range, List.getElem?_map, List.getElem?_range ht, Option.map_some]
    congr 1
    rw [getElem!_pos d.toArray _ (by simpa using hd)]
    simp only [List.getElem_toArray]
    rw [getElem!_pos (enc d[t / k]) (t % k) hm']
  · rw [List.getElem?_eq_none (by rw [Array.length_toList, size_flatK]; simpa using ht), List.getElem?_eq_none (by rw [h1, List.length_map]; omega)]
theorem Step.draws (R:Rel μ h w):∀n,Step μ h w μ h (Sort.ahead w n)
 | 0=>by rw [ahead_zero];exact Step.refl R
 | n+1=>by
  have S:=Step.draws R n
  rw [← ahead_drew]
  exact S.trans (Step.drew S.rel)
theorem Step.grown:∀ {w:World} {μ:Mu} (os:List Obj),Rel μ h w→∃μ',Step μ h w μ' h (grow w os.toArray)
 | w,μ,[],R=>by rw [grow_empty];exact ⟨μ,Step.refl R⟩
 | w,μ,o::os,R=>by
  obtain ⟨μ1,S1, -⟩:=Step.allocImm R o
  obtain ⟨μ2,S2⟩:=Step.grown os S1.rel
  refine ⟨μ2, ?_⟩
  have:grow w (o::os).toArray=grow (w.alloc o) os.toArray:=by
   rw [alloc_eq_grow,grow_grow];congr 1;simp
  rw [this]
  exact S1.trans S2
theorem ZmM {blk off k:Nat} {cur F row:Array Value} {T:TypeId} {fr:Nat × Nat} (hb:w.heap[blk]? = some (.cells cur T fr)) (hfit:off+F.size≤cur.size) (hrow:row=(cur.toList.take off++F.toList++cur.toList.drop (off+F.size)).toArray):putRow id w blk off F=w.setRow blk row:=by
 have hc:putCells id off F cur=row:=by
  subst hrow
  apply Array.ext_getElem?
  intro i
  unfold putCells
  simp only [Array.getElem?_mapIdx,List.getElem?_toArray]
  by_cases hi:i<cur.size
  ·rw [Array.getElem?_eq_getElem hi]
   simp only [Option.map_some,id]
   by_cases h1:off≤i∧i<off+F.size
   ·rw [if_pos h1,List.append_assoc,List.getElem?_append_right (by simp;omega),List.getElem?_append_left (by simp;omega)]
    simp only [List.length_take,Array.length_toList]
    rw [show i-min off cur.size=i-off by omega,Array.getElem?_toList,getElem!_pos F _ (by omega),Array.getElem?_eq_getElem (by omega)]
   ·rw [if_neg h1]
    by_cases h2:i<off
    ·rw [List.append_assoc,List.getElem?_append_left (by simp;omega),List.getElem?_take,if_pos h2,Array.getElem?_toList,Array.getElem?_eq_getElem hi]
    ·rw [List.getElem?_append_right (by simp;omega),List.getElem?_drop]
     simp only [List.length_append,List.length_take,Array.length_toList]
     rw [show off+F.size+(i-(min off cur.size+F.size))=i by omega,Array.getElem?_toList,Array.getElem?_eq_getElem hi]
  ·rw [Array.getElem?_eq_none (by omega),List.getElem?_eq_none (by simp;omega)]
   rfl
 unfold putRow
 rw [mapBlock_congr w blk _ (fun _=>row) fun c e f he=>by
  rw [hb] at he
  injection he with he
  injection he with e1
  subst e1
  exact hc]
 unfold mapBlock World.setRow
 congr 1
theorem ZmN {S:Nat→Prop} (F:Frame S w w') (hS:∀k,¬S k):∃q os,w'=grow (w.drewN q) os:=by
 refine ⟨w'.drawn-w.drawn,w'.heap.extract w.heap.size w'.heap.size, ?_⟩
 obtain ⟨f1,f2,f3,f4,f5,f6⟩:=F
 cases w with
 | mk hp tp dr os out=>
  cases w' with
  | mk hp' tp' dr' os' out'=>
   simp only [grow,World.drewN] at *
   subst f1 f2 f3
   congr 1
   ·apply Array.ext_getElem?
    intro i
    by_cases hi:i<hp.size
    ·rw [f6 i hi (hS i),Array.getElem?_append_left hi]
    ·rw [Array.getElem?_append_right (by omega),Array.getElem?_extract]
     split
     ·congr 1;omega
     ·rw [Array.getElem?_eq_none (by omega)]
   ·omega
theorem ZmO {k g:Nat} {ok:List Value→Bool} {Fc:Fun} (hc:CSound P g Fc) {cf:RowE k ok→RowE k ok→Int} (hcf:∀x y,Fc [.agg (encE x.1), .agg (encE y.1)] []=some (.s (.int .i64 (cf x y)),[])) [Inhabited (RowE k ok)] (blk off size:Nat) (w:World):CmpLays P g #[] (fun x:RowE k ok=>x.1) k cf blk off size w:=by
 intro m os dk hs x y
 obtain ⟨W,hW⟩:∃W,W=sortWorldK (fun x:RowE k ok=>x.1) k w blk off m dk os:=⟨_,rfl⟩
 rw [← hW]
 have R:Rel { loc:=fun _ => .real 0 0 0,base:=W,imm:=fun _=>False } [] W:=Rel.nil fun k hk=>hk.elim
 obtain ⟨-,hcall⟩:=hc _ _ _ _ (hcf x y) _ W (#[.agg x.1.toArray, .agg y.1.toArray] ++ #[]) R (by
  simp only [VRs,VR]
  exact ⟨_,_,rfl,⟨_,rfl,VRs.encE x.2.2.1⟩,_,_,rfl,⟨_,rfl,VRs.encE y.2.2.1⟩,rfl⟩)
 refine hcall.mono ?_
 rintro e w' ⟨cv,μ2,rfl,S,hv⟩
 simp only [VR] at hv
 obtain ⟨-,rfl⟩:=hv
 exact ⟨rfl,ZmN S.frame fun k hk=>Own.nil hk⟩
theorem ZmP {ρ:Go.Shelf.Ren} {k g:Nat} {ok:List Value→Bool} {Fc:Fun} (L:SlLaysF0.n6 P ρ) (aE:∀w,(isAgg (ρ.t 24)).run P w = .ok true w) (zE:∀w,(Go.sizeOf (ρ.t 24)).run P w = .ok k w) (hgo:Goes P (ρ.f 6)) (hk0:0<k) (hc:CSound P g Fc) (hg:Goes P g):CSound P (ρ.f 6) (sortF k ok g Fc):=by
 intro args h v h' hk μ w cargs R hargs
 refine ⟨hgo, ?_⟩
 unfold sortF at hk
 split at hk<;>try (simp at hk;done)
 ·rename_i sz id off len fr full g'
  split at hk<;>try (simp at hk;done)
  rename_i sz' es own nil ho
  split at hk<;>try (simp at hk;done)
  rename_i hcond
  obtain ⟨rfl,rfl,rfl,hfr,rfl,hle,hlen,cf,hcf,hswo,hanti⟩:=hcond
  split at hk<;>try (simp at hk;done)
  rename_i l hl
  simp only [Option.some.injEq,Prod.mk.injEq] at hk
  obtain ⟨rfl,rfl⟩:=hk
  obtain ⟨d,rfl,hd⟩:=ZfL hl
  have hdl:d.length=len:=by
   have:=congrArg List.length hd
   rw [List.length_map,List.length_take,List.length_drop] at this
   omega
  have elt:∀x y:RowE sz' ok,ltF Fc x.1 y.1=ltOf cf x y:=fun x y=>by
   unfold ltF ltOf
   rw [hcf x y]
  have esort:(d.map (·.1)).mergeSort (fun x y => !ltF Fc y x)=(d.mergeSort fun x y => !ltOf cf y x).map (·.1):=by
   rw [List.map_mergeSort]
   intro a _ b _
   rw [elt]
  rw [esort,List.map_map]
  obtain ⟨d2,hd2⟩:∃d2,d2=d.mergeSort fun x y => !ltOf cf y x:=⟨_,rfl⟩
  have hd2l:d2.length=len:=by rw [hd2,List.length_mergeSort];exact hdl
  rw [← hd2]
  have e0:cargs.toList=cargs.toList:=rfl
  simp only [VRs] at hargs
  obtain ⟨v1,vs1,hq1,hv1,v2,vs2,rfl,hv2,rfl⟩:=hargs
  have hcargs:cargs = #[v1,v2]:=by apply Array.ext';simpa using hq1
  subst hcargs
  simp only [VR] at hv1 hv2
  obtain ⟨caps,rfl,hcaps⟩:=hv2
  have hcaps':caps = #[]:=by
   simp only [VRs] at hcaps
   apply Array.ext';simpa using hcaps
  subst hcaps'
  obtain ⟨A,c,rfl,hlc,hA, -,es2,own',nil',ho', -,hq⟩:=hv1
  rw [ho] at ho'
  injection ho' with ho'
  injection ho' with e1 e2 e3 e4
  subst e2 e3 e4
  have hsl:=hq hfr.symm
  by_cases h0:len=0
  ·subst h0
   have hd0:d2=[]:=List.eq_nil_of_length_eq_zero hd2l
   have e5:h.set id (.arr sz' (es.take off++d2.map ((encE ·) ∘ (·.1))++es.drop (off+0)) true nil)=h:=by
    rw [hd0]
    simp only [List.map_nil,List.append_nil,Nat.add_zero,List.take_append_drop]
    exact Z1f ho
   rw [e5]
   refine (AnyF.slices_SortFunc_none L A c _ w).mono ?_
   rintro e w' ⟨rfl,rfl⟩
   exact ⟨_,μ,rfl,Step.refl R,by simp [VR,VRs]⟩
  ·unfold SlOk at hsl
   split at hsl
   ·rename_i blk o cap hmu
    obtain ⟨a',rfl,hcap,hne⟩:=hsl
    have ha':=hne (by omega)
    have hO:=R.obj _ _ ho
    obtain ⟨cur,T,hbk,hcur,rfl,hlec,hcapm,h1,hr⟩:=ORel.own_flat hO hmu
    rw [Nat.zero_add] at ha'
    subst ha'
    obtain ⟨vs,g1,g2,g3,g4⟩:=Z6c R ho hmu off len hle
    rw [Nat.zero_add] at g4
    haveI:Inhabited (RowE sz' ok):=⟨d[0]'(by omega)⟩
    have hlenE:∀x:RowE sz' ok,x.1.length=sz':=fun x=>x.2.1
    have hflat:((es.drop off).take len).flatten=encE (d.map (·.1)).flatten:=by
     rw [hd]
     unfold encE
     rw [List.map_flatten,List.map_map]
     rfl
    rw [hflat] at g1
    have hvs:=VRs.encE_eq g1
    subst hvs
    have hfk:=ZfM (fun x:RowE sz' ok=>x.1) sz' hlenE d
    have hH:HoldsK (fun x:RowE sz' ok=>x.1) sz' w blk (off * sz') d.toArray:=by
     intro j hj
     have hj2:j<(flatK (fun x:RowE sz' ok=>x.1) sz' d.toArray).toList.length:=by simpa using hj
     refine ⟨g4 j _ ?_, ?_⟩
     ·rw [← hfk,List.getElem?_eq_getElem hj2,getElem!_pos (flatK (fun x:RowE sz' ok=>x.1) sz' d.toArray) j hj]
      rfl
     ·simp only [World.frozen?,hbk]
      simp
    have hblk:blk<w.heap.size:=(Array.getElem?_eq_some_iff.1 hbk).1
    have key:=AnyQ.slices_SortFunc_total L sz' aE zE (fun x:RowE sz' ok=>x.1) hlenE (fun x v hv=>Zb0 (x.2.2.1 v hv)) cf hswo g' #[] blk (off * sz') c d.toArray w (fun a W=>hg.run a W) (ZmO hc hcf blk (off * sz') _ w) hH hblk (by simp;omega) hanti
    have hds:d.toArray.size=len:=by simpa using hdl
    rw [hds] at key
    refine key.mono ?_
    rintro e w' ⟨rfl,n,os,rfl⟩
    simp only []
    rw [← hd2]
    have S1:=Step.draws R n
    have hS:Sized sz' (d2.map ((encE ·) ∘ (·.1))):=by
     intro y hy
     obtain ⟨x, -,rfl⟩:=List.mem_map.1 hy
     refine ⟨by simp [encE,hlenE],fun c hc => ?_⟩
     simp only [Function.comp,encE,List.mem_map] at hc
     obtain ⟨u,hu,rfl⟩:=hc
     exact x.2.2.1 u hu
    have hgv:∀v ∈ (d2.map (·.1)).flatten,gv v=true:=by
     intro v hv
     obtain ⟨l,hl,hvl⟩:=List.mem_flatten.1 hv
     obtain ⟨x, -,rfl⟩:=List.mem_map.1 hl
     exact x.2.2.1 v hvl
    have hfl2:(d2.map ((encE ·) ∘ (·.1))).flatten=encE (d2.map (·.1)).flatten:=by
     unfold encE
     rw [List.map_flatten,List.map_map]
    have hvr:VRs μ h (d2.map ((encE ·) ∘ (·.1))).flatten (d2.map (·.1)).flatten:=by rw [hfl2];exact VRs.encE hgv
    obtain ⟨cur',T',row,q1,q2,q3,q4⟩:=Zd7 (P:=P) (off:=off) S1.rel ho hmu hS hvr (fun v hv=>Zb0 (hgv v hv)) (by simpa [hd2l] using hle)
    rw [List.length_map,hd2l] at q4
    have hfk2:=ZfM (fun x:RowE sz' ok=>x.1) sz' hlenE d2
    have hF:(flatK (fun x:RowE sz' ok=>x.1) sz' d2.toArray).size=(d2.map (·.1)).flatten.length:=by
     rw [← hfk2];simp
    have hcc:cur'=cur:=by
     have:(Sort.ahead w n).heap[blk]? = w.heap[blk]? := rfl
     rw [this,hbk] at q1
     injection q1 with q1
     injection q1 with q1
     exact q1.symm
    subst hcc
    have hput:putRowK (fun x:RowE sz' ok=>x.1) sz' (Sort.ahead w n) blk (off * sz') d2.toArray=(Sort.ahead w n).setRow blk row:=by
     unfold putRowK
     refine ZmM (k:=sz') q1 ?_ (by rw [q2,hF,hfk2])
     rw [hF,(ZbU (l:=d2.map (·.1)) (k:=sz') (fun e he=>by obtain ⟨x, -,rfl⟩:=List.mem_map.1 he;exact hlenE x)).1,List.length_map,hd2l,hcur, ← Nat.add_mul]
     exact Nat.le_trans (Nat.mul_le_mul_right _ hle) (Nat.mul_le_mul_right _ hlec)
    unfold sortWorldK
    rw [hput]
    obtain ⟨μ3,S3⟩:=Step.grown os.toList q4.rel
    exact ⟨_,μ3,rfl,(S1.trans q4).trans (by simpa using S3),by simp [VR,VRs]⟩
   ·rename_i A' hmu
    obtain ⟨rfl,rfl, -⟩:=hsl
    have hz:=(R.obj _ _ ho).2
    rw [hmu] at hz
    have:=hz.1
    subst this
    simp at hle
    omega
 ·rename_i f caps
  simp only [Option.some.injEq,Prod.mk.injEq] at hk
  obtain ⟨rfl,rfl⟩:=hk
  simp only [VRs] at hargs
  obtain ⟨v1,vs1,hq1,hv1,v2,vs2,rfl,hv2,rfl⟩:=hargs
  have hcargs:cargs = #[v1,v2]:=by apply Array.ext';simpa using hq1
  subst hcargs
  simp only [VR] at hv1
  obtain ⟨-,rfl⟩:=hv1
  refine (AnyF.slices_SortFunc_none L none 0 v2 w).mono ?_
  rintro e w' ⟨rfl,rfl⟩
  exact ⟨_,μ,rfl,Step.refl R,by simp [VR,VRs]⟩
theorem ZmQ {k g:Nat} {ok:List Value→Bool} {Fc:Fun} (hok:SortOk k ok Fc) {id off len fr:Nat} {full:Bool} {h:Hp} {es:List (List AV)} {nil:Bool} {l:List (List Value)} (ho:h[id]? = some (.arr k es true nil)) (hfr:es.length=fr) (hle:off+len≤es.length) (hlen:len<4611686018427387904) (hl:((es.drop off).take len).mapM (decE k ok)=some l):
  sortF k ok g Fc [.sl k id off len fr full, .fn g []] h=some (.tup [],h.set id (.arr k (es.take off++(l.mergeSort fun x y => !ltF Fc y x).map encE++es.drop (off+len)) true nil)):=by
 unfold sortF
 simp only [ho]
 rw [if_pos ⟨rfl,rfl,rfl,hfr,rfl,hle,hlen,hok⟩,hl]
end Go.AM
namespace Go.AM
open Go.RowKit Go.Sort Go.Proofs
def isI:Value→Bool
 | .int .i64 _=>true
 | _=>false
def okI (e:List Value):Bool:=e.all isI
def unI:Value→Int
 | .int _ n=>n
 | _=>0
def encZ (l:List Int):List AV:=l.map fun n => .s (.int .i64 n)
def valZ (l:List Int):List Value:=l.map fun n => .int .i64 n
theorem Z72 (l:List Int):encE (valZ l)=encZ l:=by simp [encE,valZ,encZ]
theorem Z73:∀ {e:List Value},okI e=true→e=valZ (e.map unI)
 | [],_=>rfl
 | v::e,h=>by
  simp only [okI,List.all_cons,Bool.and_eq_true] at h
  have ih:=Z73 (e:=e) h.2
  cases v<;>simp [isI] at h
  rename_i kd n
  cases kd<;>simp at h
  simp only [List.map_cons,valZ,unI] at ih ⊢
  rw [← ih]
theorem ZmR (l:List Int):okI (valZ l)=true:=by simp [okI,valZ,isI]
def lexZ:List Int→List Int→Int
 | a::as_,b::bs=>if a<b then -1 else if b<a then 1 else lexZ as_ bs
 | _,_=>0
def ltZ (a b:List Int):Bool:=decide (lexZ a b<0)
theorem ZfN:∀a,lexZ a a=0
 | []=>rfl
 | a::l=>by simp [lexZ,ZfN l]
theorem ZbV (a b:Int) (l r:List Int):ltZ (a::l) (b::r)=(decide (a<b)||(decide (a=b)&&ltZ l r)):=by
 unfold ltZ
 simp only [lexZ]
 by_cases h1:a<b
 ·simp [h1]
 ·by_cases h2:b<a
  ·have:a≠b:=by omega
   simp [h1,h2,this]
  ·have:a=b:=by omega
   simp [this]
theorem ZbW (a:List Int):ltZ a a=false:=by simp [ltZ,ZfN]
theorem Z74:∀ {n:Nat} {a b c:List Int},a.length=n→b.length=n→c.length=n→ltZ a b=true→ltZ b c=true→ltZ a c=true
 | 0,a,b,c,ha,hb,hc,h1,h2=>by
  have:a=[]:=List.eq_nil_of_length_eq_zero ha
  subst this
  cases b<;>simp [ltZ,lexZ] at h1
 | n+1,[],b,c,ha,hb,hc,h1,h2=>by simp at ha
 | n+1,a::l,[],c,ha,hb,hc,h1,h2=>by simp at hb
 | n+1,a::l,b::r,[],ha,hb,hc,h1,h2=>by simp at hc
 | n+1,a::l,b::r,c::s,ha,hb,hc,h1,h2=>by
  rw [ZbV] at h1 h2 ⊢
  simp only [Bool.or_eq_true,Bool.and_eq_true,decide_eq_true_eq] at h1 h2 ⊢
  rcases h1 with h1 | ⟨h1,h1'⟩<;>rcases h2 with h2 | ⟨h2,h2'⟩
  ·exact .inl (by omega)
  ·exact .inl (by omega)
  ·exact .inl (by omega)
  ·exact .inr ⟨by omega,Z74 (n:=n) (by simpa using ha) (by simpa using hb) (by simpa using hc) h1' h2'⟩
theorem Z75:∀ {n:Nat} {a b:List Int},a.length=n→b.length=n→ltZ a b=false→ltZ b a=false→a=b
 | 0,a,b,ha,hb,_,_=>by rw [List.eq_nil_of_length_eq_zero ha,List.eq_nil_of_length_eq_zero hb]
 | n+1,[],b,ha,hb,_,_=>by simp at ha
 | n+1,a::l,[],ha,hb,_,_=>by simp at hb
 | n+1,a::l,b::r,ha,hb,h1,h2=>by
  rw [ZbV] at h1 h2
  simp only [Bool.or_eq_false_iff,Bool.and_eq_false_iff,decide_eq_false_iff_not] at h1 h2
  have e:a=b:=by omega
  subst e
  rw [Z75 (n:=n) (a:=l) (b:=r) (by simpa using ha) (by simpa using hb) (by simpa using h1.2) (by simpa using h2.2)]
theorem ZmS {k:Nat} {Fc:Fun} (hf:∀x y:List Int,x.length=k→y.length=k→Fc [.agg (encZ x), .agg (encZ y)] []=some (.s (.int .i64 (lexZ x y)),[])):
  SortOk k okI Fc∧∀x y:List Int,x.length=k→y.length=k→ltF Fc (valZ x) (valZ y)=ltZ x y:=by
 constructor
 ·refine ⟨fun x y=>lexZ (x.1.map unI) (y.1.map unI),fun x y => ?_,⟨fun x => ?_,fun x y z h1 h2 => ?_,fun x y z h1 h2 => ?_⟩,fun x y h1 h2 => ?_⟩
  ·have:=hf (x.1.map unI) (y.1.map unI) (by simp [x.2.1]) (by simp [y.2.1])
   rw [← Z72, ← Z72, ← Z73 (e:=x.1) x.2.2.2, ← Z73 (e:=y.1) y.2.2.2] at this
   exact this
  ·show ltZ _ _=false
   exact ZbW _
  ·exact Z74 (n:=k) (a:=x.1.map unI) (b:=y.1.map unI) (c:=z.1.map unI) (by simp [x.2.1]) (by simp [y.2.1]) (by simp [z.2.1]) h1 h2
  ·have hx:(x.1.map unI).length=k:=by simp [x.2.1]
   have hy:(y.1.map unI).length=k:=by simp [y.2.1]
   have hz:(z.1.map unI).length=k:=by simp [z.2.1]
   change ltZ (x.1.map unI) (y.1.map unI)=false at h1
   change ltZ (y.1.map unI) (z.1.map unI)=false at h2
   show ltZ (x.1.map unI) (z.1.map unI)=false
   cases h3:ltZ (x.1.map unI) (z.1.map unI) with
   | false=>rfl
   | true=>
    cases h4:ltZ (z.1.map unI) (y.1.map unI) with
    | true=>rw [Z74 hx hz hy h3 h4] at h1;cases h1
    | false=>
     have:=Z75 hy hz h2 h4
     rw [this] at h1
     rw [h1] at h3
     cases h3
  ·have:=Z75 (n:=k) (a:=x.1.map unI) (b:=y.1.map unI) (by simp [x.2.1]) (by simp [y.2.1]) h1 h2
   apply Subtype.ext
   exact (Z73 (e:=x.1) x.2.2.2).trans ((congrArg valZ this).trans (Z73 (e:=y.1) y.2.2.2).symm)
 ·intro x y hx hy
  unfold ltF ltZ
  rw [Z72,Z72,hf x y hx hy]
theorem ZmT {k:Nat} {l:List Int} (hl:l.length=k):decE k okI (encZ l)=some (valZ l):=by
 have h1:(encZ l).mapM cellV=some (valZ l):=by
  clear hl
  induction l with
  | nil=>rfl
  | cons n l ih=>
   simp only [encZ,valZ,List.map_cons,List.mapM_cons] at ih ⊢
   rw [ih]
   rfl
 unfold decE
 rw [h1]
 simp [valZ,hl]
 exact ZmR l
theorem ZfO {k:Nat}:∀ {l:List (List Int)},(∀x ∈ l,x.length=k)→(l.map encZ).mapM (decE k okI)=some (l.map valZ)
 | [],_=>rfl
 | x::l,h=>by
  simp only [List.map_cons,List.mapM_cons]
  rw [ZmT (h x (by simp)),ZfO fun y hy=>h y (by simp [hy])]
  rfl
theorem ZmU {k g:Nat} {Fc:Fun} (hf:∀x y:List Int,x.length=k→y.length=k→Fc [.agg (encZ x), .agg (encZ y)] []=some (.s (.int .i64 (lexZ x y)),[])) {id off len fr:Nat} {full:Bool} {h:Hp} {es:List (List AV)} {nil:Bool} {l:List (List Int)}
  (ho:h[id]? = some (.arr k es true nil)) (hfr:es.length=fr) (hle:off+len≤es.length) (hlen:len<4611686018427387904) (hs:∀x ∈ l,x.length=k) (hl:(es.drop off).take len=l.map encZ):
  sortF k okI g Fc [.sl k id off len fr full, .fn g []] h=some (.tup [],h.set id (.arr k (es.take off++(l.mergeSort fun x y => !ltZ y x).map encZ++es.drop (off+len)) true nil)):=by
 obtain ⟨h1,h2⟩:=ZmS hf
 rw [ZmQ (g:=g) (l:=l.map valZ) h1 ho hfr hle hlen (by rw [hl];exact ZfO hs)]
 have e:(l.map valZ).mergeSort (fun x y => !ltF Fc y x)=(l.mergeSort fun x y => !ltZ y x).map valZ:=by
  rw [List.map_mergeSort]
  intro a ha b hb
  rw [h2 b a (hs b hb) (hs a ha)]
 rw [e,List.map_map]
 have:encE ∘ valZ=encZ:=by funext x;exact Z72 x
 rw [this]
end Go.AM


namespace Go.Proofs
open Go.Shelf
def Try.sort83_ren:Go.Shelf.Ren:=⟨fun | 6=>83 | 15=>101 | 14=>100 | 28=>112 | 29=>113 | 20=>104 | 21=>105 | 22=>106 | 23=>107 | 24=>108 | 25=>109 | 26=>110 | 27=>111 | 46=>115 | 47=>116 | 48=>117 | 49=>118 | 50=>119 | 57=>120 | n=>n,fun | 22=>23 | 24=>27 | 25=>123 | 3=>3 | 39=>132 | 0=>0 | 53=>149 | 55=>55 | 4=>4 | 46=>143 | 45=>142 | 50=>117 | 5=>5 | 9=>9 | 66=>152 | 70=>156 | 76=>158 | 77=>159 | n=>n,fun | n=>n⟩
theorem Try.sort83:Go.Proofs.SlLaysF0.n6 Try.prog Try.sort83_ren:={
 mixed:=by kernel_rfl
 f6:=⟨Try.f83.name,by decide,Try.func83.trans (congrArg some (by kernel_rfl))⟩
 f14:=⟨Try.f100.name,by decide,Try.func100.trans (congrArg some (by kernel_rfl))⟩
 f15:=Try.func101.trans (congrArg some (by kernel_rfl))
 f20:=⟨Try.f104.name,by decide,Try.func104.trans (congrArg some (by kernel_rfl))⟩
 f21:=⟨Try.f105.name,by decide,Try.func105.trans (congrArg some (by kernel_rfl))⟩
 f22:=⟨Try.f106.name,by decide,Try.func106.trans (congrArg some (by kernel_rfl))⟩
 f23:=⟨Try.f107.name,by decide,Try.func107.trans (congrArg some (by kernel_rfl))⟩
 f24:=⟨Try.f108.name,by decide,Try.func108.trans (congrArg some (by kernel_rfl))⟩
 f25:=⟨Try.f109.name,by decide,Try.func109.trans (congrArg some (by kernel_rfl))⟩
 f26:=⟨Try.f110.name,by decide,Try.func110.trans (congrArg some (by kernel_rfl))⟩
 f27:=⟨Try.f111.name,by decide,Try.func111.trans (congrArg some (by kernel_rfl))⟩
 f28:=Try.func112.trans (congrArg some (by kernel_rfl))
 f29:=Try.func113.trans (congrArg some (by kernel_rfl))
 f46:=⟨Try.f115.name,by decide,Try.func115.trans (congrArg some (by kernel_rfl))⟩
 f47:=Try.func116.trans (congrArg some (by kernel_rfl))
 f48:=Try.func117.trans (congrArg some (by kernel_rfl))
 f49:=⟨Try.f118.name,by decide,Try.func118.trans (congrArg some (by kernel_rfl))⟩
 f50:=⟨Try.f119.name,by decide,Try.func119.trans (congrArg some (by kernel_rfl))⟩
 f57:=⟨Try.f120.name,by decide,Try.func120.trans (congrArg some (by kernel_rfl))⟩
 t0:=Try.underlying0
 a0:=Try.isAgg0
 z0:=Try.sizeOf0
 v0:=Try.zeroValue0
 t3:=Try.underlying3
 a3:=Try.isAgg3
 z3:=Try.sizeOf3
 v3:=Try.zeroValue3
 t4:=Try.underlying4
 a4:=Try.isAgg4
 z4:=Try.sizeOf4
 v4:=Try.zeroValue4
 t5:=Try.underlying5
 a5:=Try.isAgg5
 z5:=Try.sizeOf5
 v5:=Try.zeroValue5
 t9:=Try.underlying9
 a9:=Try.isAgg9
 z9:=Try.sizeOf9
 v9:=Try.zeroValue9
 t22:=Try.underlying23
 a22:=Try.isAgg23
 z22:=Try.sizeOf23
 v22:=Try.zeroValue23
 t25:=Try.underlying123
 a25:=Try.isAgg123
 z25:=Try.sizeOf123
 v25:=Try.zeroValue123
 t39:=Try.underlying132
 a39:=Try.isAgg132
 z39:=Try.sizeOf132
 v39:=Try.zeroValue132
 t45:=Try.underlying142
 a45:=Try.isAgg142
 z45:=Try.sizeOf142
 v45:=Try.zeroValue142
 t46:=Try.underlying143
 a46:=Try.isAgg143
 z46:=Try.sizeOf143
 v46:=Try.zeroValue143
 t50:=Try.underlying117
 a50:=Try.isAgg117
 z50:=Try.sizeOf117
 v50:=Try.zeroValue117
 t53:=Try.underlying149
 a53:=Try.isAgg149
 z53:=Try.sizeOf149
 v53:=Try.zeroValue149
 t55:=Try.underlying55
 a55:=Try.isAgg55
 z55:=Try.sizeOf55
 v55:=Try.zeroValue55
 t66:=Try.underlying152
 a66:=Try.isAgg152
 z66:=Try.sizeOf152
 v66:=Try.zeroValue152
 t70:=Try.underlying156
 a70:=Try.isAgg156
 z70:=Try.sizeOf156
 v70:=Try.zeroValue156
 t76:=Try.underlying158
 a76:=Try.isAgg158
 z76:=Try.sizeOf158
 v76:=Try.zeroValue158
 t77:=Try.underlying159
 a77:=Try.isAgg159
 z77:=Try.sizeOf159
 v77:=Try.zeroValue159 }
end Go.Proofs


namespace Go.AM
open Go.Proofs
set_option linter.unusedVariables false
set_option maxRecDepth 100000
theorem mixed:Try.prog.follows .mixedOrders=true:=by kernel_rfl
theorem NN_ex:∃n:Nat,1000000≤n∧n<4611686018427387904:=⟨1000000,by omega,by omega⟩
noncomputable def NN:Nat:=NN_ex.choose
theorem NN_ge:1000000≤NN:=NN_ex.choose_spec.1
theorem NN_lt:NN<4611686018427387904:=NN_ex.choose_spec.2
noncomputable def Z9k:DTab:=D0
theorem ZmV:DSound Try.prog Z9k:=DSound.zero
noncomputable def Z9l:Tab:=T0
theorem ZmW:TSound Try.prog Z9l:=TSound.zero
noncomputable def Z9m:Fun:=runF Try.prog Z9l Z9k NN [0,2] Try.f47 1
theorem ZmX:CSound Try.prog 47 Z9m:=Z04 ZmW ZmV mixed Try.func47 (by kernel_rfl) NN
theorem ZmY {β:Type} (K:AV→Hp→Option β) (a0:AV) (h:Hp):(Z9m [a0] h).bind (fun p=>K p.1 p.2)=Z8D Try.prog Z9l Z9k NN K a0 h:=by
 rw [← ZkS];exact Z05 rfl
noncomputable def Z4x:Fun:=closedX [.o] [.o] Z9m
theorem ZfP:CSound Try.prog 47 Z4x:=Z0E _ _ ZmX
theorem ZmZ {a0:AV} {v:AV} (ha:plains [a0]=true) (hv:Z8D Try.prog Z9l Z9k NN (fun v g=>cvt false g v) a0 []=some v) (h:Hp):Z4x [a0] h=some (v,h):=by
 have e:(Z9m (nrms [.o] [a0]) []).bind (fun (p:AV × Hp)=>cvt false p.2 p.1)=some v:=(ZmY (fun v g=>cvt false g v) a0 []).trans hv
 exact (Z0F (shr:=[.o]) ha e h).trans (congrArg (fun x=>some (x,h)) (Z0J 1 v))
noncomputable def Z9n:DTab:=D0
theorem Zn0:DSound Try.prog Z9n:=DSound.zero
noncomputable def Z76:Tab:=(updF T0 47 Z4x)
theorem Zn1:TSound Try.prog Z76:=(TSound.upd TSound.zero ZfP)
@[simp] theorem ZfQ:Z76 47=some Z4x:=rfl
noncomputable def Z9o:Fun:=runF Try.prog Z76 Z9n NN [0,2,3,6] Try.f11 1
theorem Zn2:CSound Try.prog 11 Z9o:=Z04 Zn1 Zn0 mixed Try.func11 (by kernel_rfl) NN
theorem Zn3 {β:Type} (K:AV→Hp→Option β) (a0:AV) (h:Hp):(Z9o [a0] h).bind (fun p=>K p.1 p.2)=Z6v Try.prog Z76 Z9n NN K a0 h:=by
 rw [← Zk3];exact Z05 rfl
noncomputable def Z5h:Fun:=closedX [.o] [.a [none,some 2,some 7], .o] Z9o
theorem Zn4:CSound Try.prog 11 Z5h:=Z0E _ _ Zn2
theorem ZfR {a0:AV} {v:AV} (ha:plains [a0]=true) (hv:Z6v Try.prog Z76 Z9n NN (fun v g=>cvt false g v) a0 []=some v) (h:Hp):Z5h [a0] h=some ((nrmR [.a [none,some 2,some 7], .o] v),h):=by
 have e:(Z9o (nrms [.o] [a0]) []).bind (fun (p:AV × Hp)=>cvt false p.2 p.1)=some v:=(Zn3 (fun v g=>cvt false g v) a0 []).trans hv
 exact (Z0F (shr:=[.a [none,some 2,some 7], .o]) ha e h).trans (congrArg (fun x=>some (x,h)) rfl)
noncomputable def Z5i:DTab:=D0
theorem Zn5:DSound Try.prog Z5i:=DSound.zero
noncomputable def Z5j:Tab:=T0
theorem Zn6:TSound Try.prog Z5j:=TSound.zero
noncomputable def Z77:Fun:=runF Try.prog Z5j Z5i NN [0,2,3,5,6,7,8,9,14] Try.f80 1
theorem Zn7:CSound Try.prog 80 Z77:=Z04 Zn6 Zn5 mixed Try.func80 (by kernel_rfl) NN
theorem Zn8 {β:Type} (K:AV→Hp→Option β) (a0:AV) (h:Hp):(Z77 [a0] h).bind (fun p=>K p.1 p.2)=Z6T Try.prog Z5j Z5i NN K a0 h:=by
 rw [← ZlS];exact Z05 rfl
noncomputable def Z2W:Fun:=closedX [.l 1] [.o] Z77
theorem Z9p:CSound Try.prog 80 Z2W:=Z0E _ _ Zn7
noncomputable def Z4y:DFun:=closedXD [.l 1] [.o] Z77
theorem ZfS:Ro Z2W Z4y:=Z23 _ _ _
theorem Zn9 {a0:AV} {x0:AV} {h:Hp} {v:AV} (ha:cvts false h [x0]=some [a0]) (hv:∀st,Z6T Try.prog Z5j Z5i NN (fun v g=>cvt st g v) (nrm (.l 1) a0) []=some v):Z2W [x0] h=some (v,h):=by
 have e:∀st,(Z77 (nrms [.l 1] [a0]) []).bind (fun (p:AV × Hp)=>cvt st p.2 p.1)=some v:=fun st=>(Zn8 (fun v g=>cvt st g v) (nrm (.l 1) a0) []).trans (hv st)
 exact (Zeh (shr:=[.o]) ha e).trans (congrArg (fun x=>some (x,h)) (Z0J 1 v))
noncomputable def Z9q:DTab:=D0
theorem Zna:DSound Try.prog Z9q:=DSound.zero
noncomputable def Z9r:Tab:=T0
theorem Znb:TSound Try.prog Z9r:=TSound.zero
noncomputable def Z9s:Fun:=runF Try.prog Z9r Z9q NN [0,2] Try.f99 1
theorem Znc:CSound Try.prog 99 Z9s:=Z04 Znb Zna mixed Try.func99 (by kernel_rfl) NN
theorem Znd {β:Type} (K:AV→Hp→Option β) (a0:AV) (h:Hp):(Z9s [a0] h).bind (fun p=>K p.1 p.2)=Z9i Try.prog Z9r Z9q NN K a0 h:=by
 rw [← Zmp];exact Z05 rfl
noncomputable def Z78:Fun:=closedX [.o] [.o] Z9s
theorem Zne:CSound Try.prog 99 Z78:=Z0E _ _ Znc
theorem Znf {a0:AV} {v:AV} (ha:plains [a0]=true) (hv:Z9i Try.prog Z9r Z9q NN (fun v g=>cvt false g v) a0 []=some v) (h:Hp):Z78 [a0] h=some (v,h):=by
 have e:(Z9s (nrms [.o] [a0]) []).bind (fun (p:AV × Hp)=>cvt false p.2 p.1)=some v:=(Znd (fun v g=>cvt false g v) a0 []).trans hv
 exact (Z0F (shr:=[.o]) ha e h).trans (congrArg (fun x=>some (x,h)) (Z0J 1 v))
noncomputable def Z9t:DTab:=D0
theorem Zng:DSound Try.prog Z9t:=DSound.zero
noncomputable def Z79:Tab:=(updF T0 99 Z78)
theorem Znh:TSound Try.prog Z79:=(TSound.upd TSound.zero Zne)
@[simp] theorem ZuU:Z79 99=some Z78:=rfl
noncomputable def Z7a:Fun:=runF Try.prog Z79 Z9t NN [0,1,4,5,6,11,12,13,16,19] Try.f81 2
theorem Zni:CSound Try.prog 81 Z7a:=Z04 Znh Zng mixed Try.func81 (by kernel_rfl) NN
theorem Znj {β:Type} (K:AV→Hp→Option β) (a0:AV) (a1:AV) (h:Hp):(Z7a [a0,a1] h).bind (fun p=>K p.1 p.2)=Z6U Try.prog Z79 Z9t NN K a0 a1 h:=by
 rw [← ZlT];exact Z05 rfl
noncomputable def Z2X:Fun:=closedX [.o, .o] [.o] Z7a
theorem Z9u:CSound Try.prog 81 Z2X:=Z0E _ _ Zni
noncomputable def Z5k:DFun:=closedXD [.o, .o] [.o] Z7a
theorem ZfT:Ro Z2X Z5k:=Z23 _ _ _
theorem Znk {a0:AV} {a1:AV} {v:AV} (ha:plains [a0,a1]=true) (hv:Z6U Try.prog Z79 Z9t NN (fun v g=>cvt false g v) a0 a1 []=some v) (h:Hp):Z2X [a0,a1] h=some (v,h):=by
 have e:(Z7a (nrms [.o, .o] [a0,a1]) []).bind (fun (p:AV × Hp)=>cvt false p.2 p.1)=some v:=(Znj (fun v g=>cvt false g v) a0 a1 []).trans hv
 exact (Z0F (shr:=[.o]) ha e h).trans (congrArg (fun x=>some (x,h)) (Z0J 1 v))
noncomputable def Z5l:DTab:=(updD (updD D0 80 Z4y) 81 Z5k)
theorem Znl:DSound Try.prog Z5l:=(DSound.ro (DSound.ro DSound.zero ZfS Z9p) ZfT Z9u)
@[simp] theorem Znm:Z5l 80=some Z4y:=rfl
@[simp] theorem Znn:Z5l 81=some Z5k:=rfl
noncomputable def Z5m:Tab:=(updF (updF T0 80 Z2W) 81 Z2X)
theorem Zno:TSound Try.prog Z5m:=(TSound.upd (TSound.upd TSound.zero Z9p) Z9u)
@[simp] theorem ZuV:Z5m 80=some Z2W:=rfl
@[simp] theorem ZuW:Z5m 81=some Z2X:=rfl
noncomputable def Z9v:Fun:=runF Try.prog Z5m Z5l NN [0,1,2,3,4] Try.f53 2
theorem Znp:CSound Try.prog 53 Z9v:=Z04 Zno Znl mixed Try.func53 (by kernel_rfl) NN
theorem Znq {β:Type} (K:AV→Hp→Option β) (a0:AV) (a1:AV) (h:Hp):(Z9v [a0,a1] h).bind (fun p=>K p.1 p.2)=Z8F Try.prog Z5m Z5l NN K a0 a1 h:=by
 rw [← Zl1];exact Z05 rfl
noncomputable def Z1T:Fun:=closedX [.o, .o] [.o] Z9v
theorem ZbX:CSound Try.prog 53 Z1T:=Z0E _ _ Znp
theorem Znr {a0:AV} {a1:AV} {v:AV} (ha:plains [a0,a1]=true) (hv:Z8F Try.prog Z5m Z5l NN (fun v g=>cvt false g v) a0 a1 []=some v) (h:Hp):Z1T [a0,a1] h=some (v,h):=by
 have e:(Z9v (nrms [.o, .o] [a0,a1]) []).bind (fun (p:AV × Hp)=>cvt false p.2 p.1)=some v:=(Znq (fun v g=>cvt false g v) a0 a1 []).trans hv
 exact (Z0F (shr:=[.o]) ha e h).trans (congrArg (fun x=>some (x,h)) (Z0J 1 v))
noncomputable def Z9w:DTab:=D0
theorem Zns:DSound Try.prog Z9w:=DSound.zero
noncomputable def Z9x:Tab:=T0
theorem Znt:TSound Try.prog Z9x:=TSound.zero
noncomputable def Z9y:Fun:=runF Try.prog Z9x Z9w NN [0,2] Try.f96 1
theorem Znu:CSound Try.prog 96 Z9y:=Z04 Znt Zns mixed Try.func96 (by kernel_rfl) NN
theorem Znv {β:Type} (K:AV→Hp→Option β) (a0:AV) (h:Hp):(Z9y [a0] h).bind (fun p=>K p.1 p.2)=Z9h Try.prog Z9x Z9w NN K a0 h:=by
 rw [← Zmo];exact Z05 rfl
noncomputable def Z7b:Fun:=closedX [.o] [.o] Z9y
theorem Znw:CSound Try.prog 96 Z7b:=Z0E _ _ Znu
theorem Znx {a0:AV} {v:AV} (ha:plains [a0]=true) (hv:Z9h Try.prog Z9x Z9w NN (fun v g=>cvt false g v) a0 []=some v) (h:Hp):Z7b [a0] h=some (v,h):=by
 have e:(Z9y (nrms [.o] [a0]) []).bind (fun (p:AV × Hp)=>cvt false p.2 p.1)=some v:=(Znv (fun v g=>cvt false g v) a0 []).trans hv
 exact (Z0F (shr:=[.o]) ha e h).trans (congrArg (fun x=>some (x,h)) (Z0J 1 v))
noncomputable def Z9z:DTab:=D0
theorem Zny:DSound Try.prog Z9z:=DSound.zero
noncomputable def Z7c:Tab:=(updF T0 96 Z7b)
theorem Znz:TSound Try.prog Z7c:=(TSound.upd TSound.zero Znw)
@[simp] theorem ZbY:Z7c 96=some Z7b:=rfl
noncomputable def Z9A:Fun:=runF Try.prog Z7c Z9z NN [0,1,2,3,4,32,41,42,78,99,118] Try.f76 1
theorem ZnA:CSound Try.prog 76 Z9A:=Z04 Znz Zny mixed Try.func76 (by kernel_rfl) NN
theorem ZnB {β:Type} (K:AV→Hp→Option β) (a0:AV) (h:Hp):(Z9A [a0] h).bind (fun p=>K p.1 p.2)=Z8Z Try.prog Z7c Z9z NN K a0 h:=by
 rw [← ZlH];exact Z05 rfl
noncomputable def Z1E:Fun:=closedX [.o] [.o] Z9A
theorem ZbZ:CSound Try.prog 76 Z1E:=Z0E _ _ ZnA
theorem ZnC {a0:AV} {v:AV} (ha:plains [a0]=true) (hv:Z8Z Try.prog Z7c Z9z NN (fun v g=>cvt false g v) a0 []=some v) (h:Hp):Z1E [a0] h=some (v,h):=by
 have e:(Z9A (nrms [.o] [a0]) []).bind (fun (p:AV × Hp)=>cvt false p.2 p.1)=some v:=(ZnB (fun v g=>cvt false g v) a0 []).trans hv
 exact (Z0F (shr:=[.o]) ha e h).trans (congrArg (fun x=>some (x,h)) (Z0J 1 v))
noncomputable def Z9B:DTab:=D0
theorem ZnD:DSound Try.prog Z9B:=DSound.zero
noncomputable def Z7d:Tab:=(updF T0 76 Z1E)
theorem ZnE:TSound Try.prog Z7d:=(TSound.upd TSound.zero ZbZ)
@[simp] theorem ZnF:Z7d 76=some Z1E:=rfl
noncomputable def Z9C:Fun:=runF Try.prog Z7d Z9B NN [0,1,2] Try.f82 1
theorem ZnG:CSound Try.prog 82 Z9C:=Z04 ZnE ZnD mixed Try.func82 (by kernel_rfl) NN
theorem ZnH {β:Type} (K:AV→Hp→Option β) (a0:AV) (h:Hp):(Z9C [a0] h).bind (fun p=>K p.1 p.2)=Z93 Try.prog Z7d Z9B NN K a0 h:=by
 rw [← ZlU];exact Z05 rfl
noncomputable def Z4z:Fun:=closedX [.o] [.o] Z9C
theorem ZfU:CSound Try.prog 82 Z4z:=Z0E _ _ ZnG
theorem ZnI {a0:AV} {v:AV} (ha:plains [a0]=true) (hv:Z93 Try.prog Z7d Z9B NN (fun v g=>cvt false g v) a0 []=some v) (h:Hp):Z4z [a0] h=some (v,h):=by
 have e:(Z9C (nrms [.o] [a0]) []).bind (fun (p:AV × Hp)=>cvt false p.2 p.1)=some v:=(ZnH (fun v g=>cvt false g v) a0 []).trans hv
 exact (Z0F (shr:=[.o]) ha e h).trans (congrArg (fun x=>some (x,h)) (Z0J 1 v))
noncomputable def Z9D:DTab:=D0
theorem ZnJ:DSound Try.prog Z9D:=DSound.zero
noncomputable def Z7e:Tab:=(updF T0 82 Z4z)
theorem ZnK:TSound Try.prog Z7e:=(TSound.upd TSound.zero ZfU)
@[simp] theorem ZuX:Z7e 82=some Z4z:=rfl
noncomputable def Z9E:Fun:=runF Try.prog Z7e Z9D NN [0,1,4,5,7,8,9,16] Try.f62 2
theorem ZnL:CSound Try.prog 62 Z9E:=Z04 ZnK ZnJ mixed Try.func62 (by kernel_rfl) NN
theorem ZnM {β:Type} (K:AV→Hp→Option β) (a0:AV) (a1:AV) (h:Hp):(Z9E [a0,a1] h).bind (fun p=>K p.1 p.2)=Z59 Try.prog Z7e Z9D NN K a0 a1 h:=by
 rw [← Zlr];exact Z05 rfl
noncomputable def Z7f:Fun:=closedX [.l 7, .o] [.o] Z9E
theorem ZnN:CSound Try.prog 62 Z7f:=Z0E _ _ ZnL
theorem ZnO {a0:AV} {a1:AV} {v:AV} (ha:plains [a0,a1]=true) (hv:Z59 Try.prog Z7e Z9D NN (fun v g=>cvt false g v) (nrm (.l 7) a0) a1 []=some v) (h:Hp):Z7f [a0,a1] h=some (v,h):=by
 have e:(Z9E (nrms [.l 7, .o] [a0,a1]) []).bind (fun (p:AV × Hp)=>cvt false p.2 p.1)=some v:=(ZnM (fun v g=>cvt false g v) (nrm (.l 7) a0) a1 []).trans hv
 exact (Z0F (shr:=[.o]) ha e h).trans (congrArg (fun x=>some (x,h)) (Z0J 1 v))
noncomputable def Z9F:DTab:=D0
theorem ZnP:DSound Try.prog Z9F:=DSound.zero
noncomputable def Z7g:Tab:=(updF T0 62 Z7f)
theorem ZnQ:TSound Try.prog Z7g:=(TSound.upd TSound.zero ZnN)
@[simp] theorem ZnR:Z7g 62=some Z7f:=rfl
noncomputable def Z9G:Fun:=runF Try.prog Z7g Z9F NN [0,1,4] Try.f24 2
theorem ZnS:CSound Try.prog 24 Z9G:=Z04 ZnQ ZnP mixed Try.func24 (by kernel_rfl) NN
theorem ZnT {β:Type} (K:AV→Hp→Option β) (a0:AV) (a1:AV) (h:Hp):(Z9G [a0,a1] h).bind (fun p=>K p.1 p.2)=Z8q Try.prog Z7g Z9F NN K a0 a1 h:=by
 rw [← Zkk];exact Z05 rfl
noncomputable def Z7h:Fun:=closedX [.l 7, .o] [.o] Z9G
theorem ZnU:CSound Try.prog 24 Z7h:=Z0E _ _ ZnS
theorem ZnV {a0:AV} {a1:AV} {v:AV} (ha:plains [a0,a1]=true) (hv:Z8q Try.prog Z7g Z9F NN (fun v g=>cvt false g v) (nrm (.l 7) a0) a1 []=some v) (h:Hp):Z7h [a0,a1] h=some (v,h):=by
 have e:(Z9G (nrms [.l 7, .o] [a0,a1]) []).bind (fun (p:AV × Hp)=>cvt false p.2 p.1)=some v:=(ZnT (fun v g=>cvt false g v) (nrm (.l 7) a0) a1 []).trans hv
 exact (Z0F (shr:=[.o]) ha e h).trans (congrArg (fun x=>some (x,h)) (Z0J 1 v))
noncomputable def Z5n:DTab:=D0
theorem ZnW:DSound Try.prog Z5n:=DSound.zero
noncomputable def Z5o:Tab:=T0
theorem ZnX:TSound Try.prog Z5o:=TSound.zero
noncomputable def Z11:Fun:=runF Try.prog Z5o Z5n NN [0,2,4] Try.f51 1
theorem Z9H:CSound Try.prog 51 Z11:=Z04 ZnX ZnW mixed Try.func51 (by kernel_rfl) NN
theorem Zc0 {β:Type} (K:AV→Hp→Option β) (a0:AV) (h:Hp):(Z11 [a0] h).bind (fun p=>K p.1 p.2)=Z4u Try.prog Z5o Z5n NN K a0 h:=by
 rw [← ZkZ];exact Z05 rfl
theorem ZnY (a0:AV) (h:Hp):Z11 [a0] h=Z4u Try.prog Z5o Z5n NN (fun v h=>some (v,h)) a0 h:=(Z0R _).symm.trans (Zc0 (fun v h=>some (v,h)) a0 h)
noncomputable def Z4A:Fun:=closedX [.l 7] [.l 7] Z11
theorem ZfV:CSound Try.prog 51 Z4A:=Z0E _ _ Z9H
noncomputable def Z9I:DFun:=closedXD [.l 7] [.l 7] Z11
theorem ZnZ:Ro Z4A Z9I:=Z23 _ _ _
theorem Zo0 {a0:AV} {v:AV} (ha:plains [a0]=true) (hv:Z4u Try.prog Z5o Z5n NN (fun v g=>cvt false g v) (nrm (.l 7) a0) []=some v) (h:Hp):Z4A [a0] h=some ((nrmR [.l 7] v),h):=by
 have e:(Z11 (nrms [.l 7] [a0]) []).bind (fun (p:AV × Hp)=>cvt false p.2 p.1)=some v:=(Zc0 (fun v g=>cvt false g v) (nrm (.l 7) a0) []).trans hv
 exact (Z0F (shr:=[.l 7]) ha e h).trans (congrArg (fun x=>some (x,h)) rfl)
noncomputable def Z5p:DTab:=(updD (updD D0 80 Z4y) 81 Z5k)
theorem Zo1:DSound Try.prog Z5p:=(DSound.ro (DSound.ro DSound.zero ZfS Z9p) ZfT Z9u)
@[simp] theorem Zo2:Z5p 80=some Z4y:=rfl
@[simp] theorem Zo3:Z5p 81=some Z5k:=rfl
noncomputable def Z5q:Tab:=(updF (updF T0 80 Z2W) 81 Z2X)
theorem Zo4:TSound Try.prog Z5q:=(TSound.upd (TSound.upd TSound.zero Z9p) Z9u)
@[simp] theorem ZuY:Z5q 80=some Z2W:=rfl
@[simp] theorem ZuZ:Z5q 81=some Z2X:=rfl
noncomputable def Z9J:Fun:=runF Try.prog Z5q Z5p NN [0,1,2,3,4] Try.f84 2
theorem Zo5:CSound Try.prog 84 Z9J:=Z04 Zo4 Zo1 mixed Try.func84 (by kernel_rfl) NN
theorem Zo6 {β:Type} (K:AV→Hp→Option β) (a0:AV) (a1:AV) (h:Hp):(Z9J [a0,a1] h).bind (fun p=>K p.1 p.2)=Z94 Try.prog Z5q Z5p NN K a0 a1 h:=by
 rw [← ZlV];exact Z05 rfl
noncomputable def Z4B:Fun:=closedX [.o, .o] [.o] Z9J
theorem ZfW:CSound Try.prog 84 Z4B:=Z0E _ _ Zo5
theorem Zo7 {a0:AV} {a1:AV} {v:AV} (ha:plains [a0,a1]=true) (hv:Z94 Try.prog Z5q Z5p NN (fun v g=>cvt false g v) a0 a1 []=some v) (h:Hp):Z4B [a0,a1] h=some (v,h):=by
 have e:(Z9J (nrms [.o, .o] [a0,a1]) []).bind (fun (p:AV × Hp)=>cvt false p.2 p.1)=some v:=(Zo6 (fun v g=>cvt false g v) a0 a1 []).trans hv
 exact (Z0F (shr:=[.o]) ha e h).trans (congrArg (fun x=>some (x,h)) (Z0J 1 v))
noncomputable def Z7i:Fun:=sortF 7 okI 84 Z4B
theorem Zo8:CSound Try.prog 83 Z7i:=ZmP (ρ:=Try.sort83_ren) Try.sort83 Try.isAgg27 Try.sizeOf27 ⟨Try.f83,Try.func83,by kernel_rfl,by kernel_rfl⟩ (by decide) ZfW ⟨Try.f84,Try.func84,by kernel_rfl,by kernel_rfl⟩
noncomputable def Z5r:DTab:=D0
theorem Zo9:DSound Try.prog Z5r:=DSound.zero
noncomputable def Z5s:Tab:=T0
theorem Zoa:TSound Try.prog Z5s:=TSound.zero
noncomputable def Z4C:Fun:=runF Try.prog Z5s Z5r NN [0,2,3,4,5,8,13,25,32,44] Try.f85 1
theorem Zob:CSound Try.prog 85 Z4C:=Z04 Zoa Zo9 mixed Try.func85 (by kernel_rfl) NN
theorem Zoc {β:Type} (K:AV→Hp→Option β) (a0:AV) (h:Hp):(Z4C [a0] h).bind (fun p=>K p.1 p.2)=Z4w Try.prog Z5s Z5r NN K a0 h:=by
 rw [← Zm4];exact Z05 rfl
theorem ZfX (a0:AV) (h:Hp):Z4C [a0] h=Z4w Try.prog Z5s Z5r NN (fun v h=>some (v,h)) a0 h:=(Z0R _).symm.trans (Zoc (fun v h=>some (v,h)) a0 h)
noncomputable def Z7j:DTab:=D0
theorem Zod:DSound Try.prog Z7j:=DSound.zero
noncomputable def Z1x:Tab:=(updF (updF (updF (updF (updF (updF T0 24 Z7h) 51 Z11) 82 Z4z) 83 Z7i) 84 Z4B) 85 Z4C)
theorem Zoe:TSound Try.prog Z1x:=(TSound.upd (TSound.upd (TSound.upd (TSound.upd (TSound.upd (TSound.upd TSound.zero ZnU) Z9H) ZfU) Zo8) ZfW) Zob)
@[simp] theorem ZfY:Z1x 24=some Z7h:=rfl
@[simp] theorem Zof:Z1x 51=some Z11:=rfl
@[simp] theorem Zv0:Z1x 82=some Z4z:=rfl
@[simp] theorem Zog:Z1x 83=some Z7i:=rfl
@[simp] theorem Zv1:Z1x 84=some Z4B:=rfl
@[simp] theorem Zoh:Z1x 85=some Z4C:=rfl
noncomputable def Z9K:Fun:=runF Try.prog Z1x Z7j NN [0,2,3,4,7,9] Try.f54 1
theorem Zoi:CSound Try.prog 54 Z9K:=Z04 Zoe Zod mixed Try.func54 (by kernel_rfl) NN
theorem Zoj {β:Type} (K:AV→Hp→Option β) (a0:AV) (h:Hp):(Z9K [a0] h).bind (fun p=>K p.1 p.2)=Z4v Try.prog Z1x Z7j NN K a0 h:=by
 rw [← Zl2];exact Z05 rfl
noncomputable def Z4D:Fun:=closedX [.l 7] [.l 7, .o] Z9K
theorem ZfZ:CSound Try.prog 54 Z4D:=Z0E _ _ Zoi
theorem Zok {a0:AV} {x0:AV} {h:Hp} {v:AV} (ha:cvts false h [x0]=some [a0]) (hv:∀st,Z4v Try.prog Z1x Z7j NN (fun v g=>cvt st g v) (nrm (.l 7) a0) []=some v):Z4D [x0] h=some ((nrmR [.l 7, .o] v),h):=by
 have e:∀st,(Z9K (nrms [.l 7] [a0]) []).bind (fun (p:AV × Hp)=>cvt st p.2 p.1)=some v:=fun st=>(Zoj (fun v g=>cvt st g v) (nrm (.l 7) a0) []).trans (hv st)
 exact (Zeh (shr:=[.l 7, .o]) ha e).trans (congrArg (fun x=>some (x,h)) rfl)
noncomputable def Z5t:DTab:=D0
theorem Zol:DSound Try.prog Z5t:=DSound.zero
noncomputable def Z5u:Tab:=T0
theorem Zom:TSound Try.prog Z5u:=TSound.zero
noncomputable def Z9L:Fun:=runF Try.prog Z5u Z5t NN [0,1,4,5,10,12,13,14,24] Try.f58 2
theorem Zon:CSound Try.prog 58 Z9L:=Z04 Zom Zol mixed Try.func58 (by kernel_rfl) NN
theorem Zoo {β:Type} (K:AV→Hp→Option β) (a0:AV) (a1:AV) (h:Hp):(Z9L [a0,a1] h).bind (fun p=>K p.1 p.2)=Z57 Try.prog Z5u Z5t NN K a0 a1 h:=by
 rw [← Zl7];exact Z05 rfl
noncomputable def Z4E:Fun:=closedX [.l 7, .l 7] [.o] Z9L
theorem Zg0:CSound Try.prog 58 Z4E:=Z0E _ _ Zon
theorem Zop {a0:AV} {a1:AV} {v:AV} (ha:plains [a0,a1]=true) (hv:Z57 Try.prog Z5u Z5t NN (fun v g=>cvt false g v) (nrm (.l 7) a0) (nrm (.l 7) a1) []=some v) (h:Hp):Z4E [a0,a1] h=some (v,h):=by
 have e:(Z9L (nrms [.l 7, .l 7] [a0,a1]) []).bind (fun (p:AV × Hp)=>cvt false p.2 p.1)=some v:=(Zoo (fun v g=>cvt false g v) (nrm (.l 7) a0) (nrm (.l 7) a1) []).trans hv
 exact (Z0F (shr:=[.o]) ha e h).trans (congrArg (fun x=>some (x,h)) (Z0J 1 v))
noncomputable def Z4F:DTab:=D0
theorem Zoq:DSound Try.prog Z4F:=DSound.zero
noncomputable def Z1l:Tab:=(updF (updF (updF (updF T0 47 Z4x) 53 Z1T) 54 Z4D) 58 Z4E)
theorem Zor:TSound Try.prog Z1l:=(TSound.upd (TSound.upd (TSound.upd (TSound.upd TSound.zero ZfP) ZbX) ZfZ) Zg0)
@[simp] theorem Zg1:Z1l 47=some Z4x:=rfl
@[simp] theorem Zos:Z1l 53=some Z1T:=rfl
@[simp] theorem Zot:Z1l 54=some Z4D:=rfl
@[simp] theorem Zou:Z1l 58=some Z4E:=rfl
noncomputable def Z9M:Fun:=runF Try.prog Z1l Z4F NN [0,1,2,3,4,5,6,7,12,24,25,26,27,31,46,52,73,83] Try.f16 1
theorem Zov:CSound Try.prog 16 Z9M:=Z04 Zor Zoq mixed Try.func16 (by kernel_rfl) NN
theorem Zow {β:Type} (K:AV→Hp→Option β) (a0:AV) (h:Hp):(Z9M [a0] h).bind (fun p=>K p.1 p.2)=Z6x Try.prog Z1l Z4F NN K a0 h:=by
 rw [← Zka];exact Z05 rfl
noncomputable def Z1m:Fun:=closedX [.a [none,some 2,some 7]] [.o] Z9M
theorem Z9N:CSound Try.prog 16 Z1m:=Z0E _ _ Zov
theorem Zox {a0:AV} {v:AV} (ha:plains [a0]=true) (hv:Z6x Try.prog Z1l Z4F NN (fun v g=>cvt false g v) (nrm (.a [none,some 2,some 7]) a0) []=some v) (h:Hp):Z1m [a0] h=some (v,h):=by
 have e:(Z9M (nrms [.a [none,some 2,some 7]] [a0]) []).bind (fun (p:AV × Hp)=>cvt false p.2 p.1)=some v:=(Zow (fun v g=>cvt false g v) (nrm (.a [none,some 2,some 7]) a0) []).trans hv
 exact (Z0F (shr:=[.o]) ha e h).trans (congrArg (fun x=>some (x,h)) (Z0J 1 v))
noncomputable def Z9O:DTab:=D0
theorem Zoy:DSound Try.prog Z9O:=DSound.zero
noncomputable def Z5v:Tab:=(updF (updF T0 16 Z1m) 58 Z4E)
theorem Zoz:TSound Try.prog Z5v:=(TSound.upd (TSound.upd TSound.zero Z9N) Zg0)
@[simp] theorem ZoA:Z5v 16=some Z1m:=rfl
@[simp] theorem ZoB:Z5v 58=some Z4E:=rfl
noncomputable def Z9P:Fun:=runF Try.prog Z5v Z9O NN [0,1,2,3,4] Try.f19 2
theorem ZoC:CSound Try.prog 19 Z9P:=Z04 Zoz Zoy mixed Try.func19 (by kernel_rfl) NN
theorem ZoD {β:Type} (K:AV→Hp→Option β) (a0:AV) (a1:AV) (h:Hp):(Z9P [a0,a1] h).bind (fun p=>K p.1 p.2)=Z8m Try.prog Z5v Z9O NN K a0 a1 h:=by
 rw [← Zkg];exact Z05 rfl
noncomputable def Z7k:Fun:=closedX [.a [none,some 2,some 7], .a [none,some 2,some 7]] [.o] Z9P
theorem ZoE:CSound Try.prog 19 Z7k:=Z0E _ _ ZoC
theorem ZoF {a0:AV} {a1:AV} {v:AV} (ha:plains [a0,a1]=true) (hv:Z8m Try.prog Z5v Z9O NN (fun v g=>cvt false g v) (nrm (.a [none,some 2,some 7]) a0) (nrm (.a [none,some 2,some 7]) a1) []=some v) (h:Hp):Z7k [a0,a1] h=some (v,h):=by
 have e:(Z9P (nrms [.a [none,some 2,some 7], .a [none,some 2,some 7]] [a0,a1]) []).bind (fun (p:AV × Hp)=>cvt false p.2 p.1)=some v:=(ZoD (fun v g=>cvt false g v) (nrm (.a [none,some 2,some 7]) a0) (nrm (.a [none,some 2,some 7]) a1) []).trans hv
 exact (Z0F (shr:=[.o]) ha e h).trans (congrArg (fun x=>some (x,h)) (Z0J 1 v))
noncomputable def Z5w:DTab:=D0
theorem ZoG:DSound Try.prog Z5w:=DSound.zero
noncomputable def Z5x:Tab:=T0
theorem ZoH:TSound Try.prog Z5x:=TSound.zero
noncomputable def Z9Q:Fun:=runF Try.prog Z5x Z5w NN [0,1,3,4,5,7,8,9,16] Try.f60 2
theorem ZoI:CSound Try.prog 60 Z9Q:=Z04 ZoH ZoG mixed Try.func60 (by kernel_rfl) NN
theorem ZoJ {β:Type} (K:AV→Hp→Option β) (a0:AV) (a1:AV) (h:Hp):(Z9Q [a0,a1] h).bind (fun p=>K p.1 p.2)=Z6L Try.prog Z5x Z5w NN K a0 a1 h:=by
 rw [← Zlh];exact Z05 rfl
noncomputable def Z7l:Fun:=closedX [.l 2, .o] [.o] Z9Q
theorem ZoK:CSound Try.prog 60 Z7l:=Z0E _ _ ZoI
theorem ZoL {a0:AV} {a1:AV} {v:AV} (ha:plains [a0,a1]=true) (hv:Z6L Try.prog Z5x Z5w NN (fun v g=>cvt false g v) (nrm (.l 2) a0) a1 []=some v) (h:Hp):Z7l [a0,a1] h=some (v,h):=by
 have e:(Z9Q (nrms [.l 2, .o] [a0,a1]) []).bind (fun (p:AV × Hp)=>cvt false p.2 p.1)=some v:=(ZoJ (fun v g=>cvt false g v) (nrm (.l 2) a0) a1 []).trans hv
 exact (Z0F (shr:=[.o]) ha e h).trans (congrArg (fun x=>some (x,h)) (Z0J 1 v))
noncomputable def Z9R:DTab:=D0
theorem ZoM:DSound Try.prog Z9R:=DSound.zero
noncomputable def Z7m:Tab:=(updF T0 60 Z7l)
theorem ZoN:TSound Try.prog Z7m:=(TSound.upd TSound.zero ZoK)
@[simp] theorem ZoO:Z7m 60=some Z7l:=rfl
noncomputable def Z9S:Fun:=runF Try.prog Z7m Z9R NN [0,1,3,4] Try.f22 2
theorem ZoP:CSound Try.prog 22 Z9S:=Z04 ZoN ZoM mixed Try.func22 (by kernel_rfl) NN
theorem ZoQ {β:Type} (K:AV→Hp→Option β) (a0:AV) (a1:AV) (h:Hp):(Z9S [a0,a1] h).bind (fun p=>K p.1 p.2)=Z8o Try.prog Z7m Z9R NN K a0 a1 h:=by
 rw [← Zki];exact Z05 rfl
noncomputable def Z7n:Fun:=closedX [.l 2, .o] [.o] Z9S
theorem ZoR:CSound Try.prog 22 Z7n:=Z0E _ _ ZoP
theorem ZoS {a0:AV} {a1:AV} {v:AV} (ha:plains [a0,a1]=true) (hv:Z8o Try.prog Z7m Z9R NN (fun v g=>cvt false g v) (nrm (.l 2) a0) a1 []=some v) (h:Hp):Z7n [a0,a1] h=some (v,h):=by
 have e:(Z9S (nrms [.l 2, .o] [a0,a1]) []).bind (fun (p:AV × Hp)=>cvt false p.2 p.1)=some v:=(ZoQ (fun v g=>cvt false g v) (nrm (.l 2) a0) a1 []).trans hv
 exact (Z0F (shr:=[.o]) ha e h).trans (congrArg (fun x=>some (x,h)) (Z0J 1 v))
noncomputable def Z5y:DTab:=D0
theorem ZoT:DSound Try.prog Z5y:=DSound.zero
noncomputable def Z5z:Tab:=T0
theorem ZoU:TSound Try.prog Z5z:=TSound.zero
noncomputable def Z9T:Fun:=runF Try.prog Z5z Z5y NN [0,1,3,4,5,7,8,9,16] Try.f61 2
theorem ZoV:CSound Try.prog 61 Z9T:=Z04 ZoU ZoT mixed Try.func61 (by kernel_rfl) NN
theorem ZoW {β:Type} (K:AV→Hp→Option β) (a0:AV) (a1:AV) (h:Hp):(Z9T [a0,a1] h).bind (fun p=>K p.1 p.2)=Z6M Try.prog Z5z Z5y NN K a0 a1 h:=by
 rw [← Zlm];exact Z05 rfl
noncomputable def Z7o:Fun:=closedX [.l 7, .o] [.o] Z9T
theorem ZoX:CSound Try.prog 61 Z7o:=Z0E _ _ ZoV
theorem ZoY {a0:AV} {a1:AV} {v:AV} (ha:plains [a0,a1]=true) (hv:Z6M Try.prog Z5z Z5y NN (fun v g=>cvt false g v) (nrm (.l 7) a0) a1 []=some v) (h:Hp):Z7o [a0,a1] h=some (v,h):=by
 have e:(Z9T (nrms [.l 7, .o] [a0,a1]) []).bind (fun (p:AV × Hp)=>cvt false p.2 p.1)=some v:=(ZoW (fun v g=>cvt false g v) (nrm (.l 7) a0) a1 []).trans hv
 exact (Z0F (shr:=[.o]) ha e h).trans (congrArg (fun x=>some (x,h)) (Z0J 1 v))
noncomputable def Z9U:DTab:=D0
theorem ZoZ:DSound Try.prog Z9U:=DSound.zero
noncomputable def Z7p:Tab:=(updF T0 61 Z7o)
theorem Zp0:TSound Try.prog Z7p:=(TSound.upd TSound.zero ZoX)
@[simp] theorem Zp1:Z7p 61=some Z7o:=rfl
noncomputable def Z9V:Fun:=runF Try.prog Z7p Z9U NN [0,1,3,4] Try.f23 2
theorem Zp2:CSound Try.prog 23 Z9V:=Z04 Zp0 ZoZ mixed Try.func23 (by kernel_rfl) NN
theorem Zp3 {β:Type} (K:AV→Hp→Option β) (a0:AV) (a1:AV) (h:Hp):(Z9V [a0,a1] h).bind (fun p=>K p.1 p.2)=Z8p Try.prog Z7p Z9U NN K a0 a1 h:=by
 rw [← Zkj];exact Z05 rfl
noncomputable def Z7q:Fun:=closedX [.l 7, .o] [.o] Z9V
theorem Zp4:CSound Try.prog 23 Z7q:=Z0E _ _ Zp2
theorem Zp5 {a0:AV} {a1:AV} {v:AV} (ha:plains [a0,a1]=true) (hv:Z8p Try.prog Z7p Z9U NN (fun v g=>cvt false g v) (nrm (.l 7) a0) a1 []=some v) (h:Hp):Z7q [a0,a1] h=some (v,h):=by
 have e:(Z9V (nrms [.l 7, .o] [a0,a1]) []).bind (fun (p:AV × Hp)=>cvt false p.2 p.1)=some v:=(Zp3 (fun v g=>cvt false g v) (nrm (.l 7) a0) a1 []).trans hv
 exact (Z0F (shr:=[.o]) ha e h).trans (congrArg (fun x=>some (x,h)) (Z0J 1 v))
noncomputable def Z9W:DTab:=D0
theorem Zp6:DSound Try.prog Z9W:=DSound.zero
noncomputable def Z7r:Tab:=(updF T0 76 Z1E)
theorem Zp7:TSound Try.prog Z7r:=(TSound.upd TSound.zero ZbZ)
@[simp] theorem Zv2:Z7r 76=some Z1E:=rfl
noncomputable def Z9X:Fun:=runF Try.prog Z7r Z9W NN [0,2,3,4,5,6,9,11,12,13,14,18,48,55,61] Try.f49 1
theorem Zp8:CSound Try.prog 49 Z9X:=Z04 Zp7 Zp6 mixed Try.func49 (by kernel_rfl) NN
theorem Zp9 {β:Type} (K:AV→Hp→Option β) (a0:AV) (h:Hp):(Z9X [a0] h).bind (fun p=>K p.1 p.2)=Z6H Try.prog Z7r Z9W NN K a0 h:=by
 rw [← ZkX];exact Z05 rfl
noncomputable def Z2Y:Fun:=closedX [.l 10] [.o, .o] Z9X
theorem Zg2:CSound Try.prog 49 Z2Y:=Z0E _ _ Zp8
theorem Zpa {a0:AV} {v:AV} (ha:plains [a0]=true) (hv:Z6H Try.prog Z7r Z9W NN (fun v g=>cvt false g v) (nrm (.l 10) a0) []=some v) (h:Hp):Z2Y [a0] h=some (v,h):=by
 have e:(Z9X (nrms [.l 10] [a0]) []).bind (fun (p:AV × Hp)=>cvt false p.2 p.1)=some v:=(Zp9 (fun v g=>cvt false g v) (nrm (.l 10) a0) []).trans hv
 exact (Z0F (shr:=[.o, .o]) ha e h).trans (congrArg (fun x=>some (x,h)) (Z0J 2 v))
noncomputable def Z7s:DTab:=D0
theorem Zpb:DSound Try.prog Z7s:=DSound.zero
noncomputable def Z7t:Tab:=T0
theorem Zpc:TSound Try.prog Z7t:=TSound.zero
noncomputable def Z13:Fun:=runF Try.prog Z7t Z7s NN [0,2,4] Try.f50 1
theorem Zc1:CSound Try.prog 50 Z13:=Z04 Zpc Zpb mixed Try.func50 (by kernel_rfl) NN
theorem Zg3 {β:Type} (K:AV→Hp→Option β) (a0:AV) (h:Hp):(Z13 [a0] h).bind (fun p=>K p.1 p.2)=Z2r Try.prog Z7t Z7s NN K a0 h:=by
 rw [← ZkY];exact Z05 rfl
theorem Zpd (a0:AV) (h:Hp):Z13 [a0] h=Z2r Try.prog Z7t Z7s NN (fun v h=>some (v,h)) a0 h:=(Z0R _).symm.trans (Zg3 (fun v h=>some (v,h)) a0 h)
noncomputable def Z1U:Fun:=closedX [.l 2] [.l 2] Z13
theorem Z9Y:CSound Try.prog 50 Z1U:=Z0E _ _ Zc1
noncomputable def Z4G:DFun:=closedXD [.l 2] [.l 2] Z13
theorem Zg4:Ro Z1U Z4G:=Z23 _ _ _
theorem Zpe {a0:AV} {v:AV} (ha:plains [a0]=true) (hv:Z2r Try.prog Z7t Z7s NN (fun v g=>cvt false g v) (nrm (.l 2) a0) []=some v) (h:Hp):Z1U [a0] h=some ((nrmR [.l 2] v),h):=by
 have e:(Z13 (nrms [.l 2] [a0]) []).bind (fun (p:AV × Hp)=>cvt false p.2 p.1)=some v:=(Zg3 (fun v g=>cvt false g v) (nrm (.l 2) a0) []).trans hv
 exact (Z0F (shr:=[.l 2]) ha e h).trans (congrArg (fun x=>some (x,h)) rfl)
noncomputable def Z2Z:DTab:=D0
theorem Zpf:DSound Try.prog Z2Z:=DSound.zero
noncomputable def Z19:Tab:=(updF T0 53 Z1T)
theorem Zpg:TSound Try.prog Z19:=(TSound.upd TSound.zero ZbX)
@[simp] theorem Zg5:Z19 53=some Z1T:=rfl
noncomputable def Z9Z:Fun:=runF Try.prog Z19 Z2Z NN [0,1,2,4,6,7,8,9,10,11,17,31] Try.f78 3
theorem Zph:CSound Try.prog 78 Z9Z:=Z04 Zpg Zpf mixed Try.func78 (by kernel_rfl) NN
theorem Zpi {β:Type} (K:AV→Hp→Option β) (a0:AV) (a1:AV) (a2:AV) (h:Hp):(Z9Z [a0,a1,a2] h).bind (fun p=>K p.1 p.2)=Z5d Try.prog Z19 Z2Z NN K a0 a1 a2 h:=by
 rw [← ZlN];exact Z05 rfl
noncomputable def Z7u:Fun:=closedX [.l 2, .o, .o] [.o, .o] Z9Z
theorem Zpj:CSound Try.prog 78 Z7u:=Z0E _ _ Zph
theorem Zg6 {a0:AV} {a1:AV} {a2:AV} {v:AV} (ha:plains [a0,a1,a2]=true) (hv:Z5d Try.prog Z19 Z2Z NN (fun v g=>cvt false g v) (nrm (.l 2) a0) a1 a2 []=some v) (h:Hp):Z7u [a0,a1,a2] h=some (v,h):=by
 have e:(Z9Z (nrms [.l 2, .o, .o] [a0,a1,a2]) []).bind (fun (p:AV × Hp)=>cvt false p.2 p.1)=some v:=(Zpi (fun v g=>cvt false g v) (nrm (.l 2) a0) a1 a2 []).trans hv
 exact (Z0F (shr:=[.o, .o]) ha e h).trans (congrArg (fun x=>some (x,h)) (Z0J 2 v))
def Zg7:Fun:=insF 2 16
theorem Zpk:CSound Try.prog 79 Zg7:=ZfG ZfJ
def Zc2:Fun:=Zg7
theorem Zpl:CSound Try.prog 79 Zc2:=Zpk
noncomputable def Z5A:DTab:=(updD (updD D0 50 (newD Z13)) 79 (insE 2 16))
theorem Zpm:DSound Try.prog Z5A:=(DSound.ins (DSound.new DSound.zero Zc1) ZfJ)
@[simp] theorem Zg8:Z5A 50=some (newD Z13):=rfl
@[simp] theorem Zg9:Z5A 79=some (insE 2 16):=rfl
noncomputable def Z4H:Tab:=(updF (updF (updF T0 50 Z13) 78 Z7u) 79 Zc2)
theorem Zpn:TSound Try.prog Z4H:=(TSound.upd (TSound.upd (TSound.upd TSound.zero Zc1) Zpj) Zpl)
@[simp] theorem Zv3:Z4H 50=some Z13:=rfl
@[simp] theorem Zga:Z4H 78=some Z7u:=rfl
@[simp] theorem Zv4:Z4H 79=some Zc2:=rfl
noncomputable def Za0:Fun:=runF Try.prog Z4H Z5A NN [0,1,2,4,6,7] Try.f52 3
theorem Zpo:CSound Try.prog 52 Za0:=Z04 Zpn Zpm mixed Try.func52 (by kernel_rfl) NN
theorem Zpp {β:Type} (K:AV→Hp→Option β) (a0:AV) (a1:AV) (a2:AV) (h:Hp):(Za0 [a0,a1,a2] h).bind (fun p=>K p.1 p.2)=Z6I Try.prog Z4H Z5A NN K a0 a1 a2 h:=by
 rw [← Zl0];exact Z05 rfl
noncomputable def Z7v:Fun:=closedX [.l 2, .o, .o] [.l 2] Za0
theorem Zpq:CSound Try.prog 52 Z7v:=Z0E _ _ Zpo
theorem Zpr {a0:AV} {a1:AV} {a2:AV} {v:AV} (ha:plains [a0,a1,a2]=true) (hv:Z6I Try.prog Z4H Z5A NN (fun v g=>cvt false g v) (nrm (.l 2) a0) a1 a2 []=some v) (h:Hp):Z7v [a0,a1,a2] h=some ((nrmR [.l 2] v),h):=by
 have e:(Za0 (nrms [.l 2, .o, .o] [a0,a1,a2]) []).bind (fun (p:AV × Hp)=>cvt false p.2 p.1)=some v:=(Zpp (fun v g=>cvt false g v) (nrm (.l 2) a0) a1 a2 []).trans hv
 exact (Z0F (shr:=[.l 2]) ha e h).trans (congrArg (fun x=>some (x,h)) rfl)
noncomputable def Z5B:DTab:=(updD (updD D0 50 Z4G) 51 (newD Z11))
theorem Zps:DSound Try.prog Z5B:=(DSound.new (DSound.ro DSound.zero Zg4 Z9Y) Z9H)
@[simp] theorem Za1:Z5B 50=some Z4G:=rfl
@[simp] theorem Za2:Z5B 51=some (newD Z11):=rfl
noncomputable def Z1a:Tab:=(updF (updF (updF (updF (updF (updF (updF (updF (updF T0 16 Z1m) 22 Z7n) 23 Z7q) 49 Z2Y) 50 Z1U) 51 Z11) 52 Z7v) 53 Z1T) 54 Z4D)
theorem Zpt:TSound Try.prog Z1a:=(TSound.upd (TSound.upd (TSound.upd (TSound.upd (TSound.upd (TSound.upd (TSound.upd (TSound.upd (TSound.upd TSound.zero Z9N) ZoR) Zp4) Zg2) Z9Y) Z9H) Zpq) ZbX) ZfZ)
@[simp] theorem Z4I:Z1a 16=some Z1m:=rfl
@[simp] theorem Za3:Z1a 22=some Z7n:=rfl
@[simp] theorem Zc3:Z1a 23=some Z7q:=rfl
@[simp] theorem Z5C:Z1a 49=some Z2Y:=rfl
@[simp] theorem Zv5:Z1a 50=some Z1U:=rfl
@[simp] theorem Zv6:Z1a 51=some Z11:=rfl
@[simp] theorem Zgb:Z1a 52=some Z7v:=rfl
@[simp] theorem Zv7:Z1a 53=some Z1T:=rfl
@[simp] theorem Zpu:Z1a 54=some Z4D:=rfl
noncomputable def Z7w:Fun:=runF Try.prog Z1a Z5B NN [0,1,2,3,4,5,6,7,8,9,11,12,13,22,32,40,55,76,84] Try.f13 2
theorem Zpv:CSound Try.prog 13 Z7w:=Z04 Zpt Zps mixed Try.func13 (by kernel_rfl) NN
theorem Zpw {β:Type} (K:AV→Hp→Option β) (a0:AV) (a1:AV) (h:Hp):(Z7w [a0,a1] h).bind (fun p=>K p.1 p.2)=Z1D Try.prog Z1a Z5B NN K a0 a1 h:=by
 rw [← Zk4];exact Z05 rfl
noncomputable def Z1F:Fun:=closedX [.a [none,some 2,some 7], .o] [.a [none,some 2,some 7], .o, .o, .o] Z7w
theorem Zc4:CSound Try.prog 13 Z1F:=Z0E _ _ Zpv
noncomputable def Zc5:DFun:=closedXD [.a [none,some 2,some 7], .o] [.a [none,some 2,some 7], .o, .o, .o] Z7w
theorem Zpx:Ro Z1F Zc5:=Z23 _ _ _
theorem Z4J {a0:AV} {a1:AV} {v:AV} (ha:plains [a0,a1]=true) (hv:Z1D Try.prog Z1a Z5B NN (fun v g=>cvt false g v) (nrm (.a [none,some 2,some 7]) a0) a1 []=some v) (h:Hp):Z1F [a0,a1] h=some ((nrmR [.a [none,some 2,some 7], .o, .o, .o] v),h):=by
 have e:(Z7w (nrms [.a [none,some 2,some 7], .o] [a0,a1]) []).bind (fun (p:AV × Hp)=>cvt false p.2 p.1)=some v:=(Zpw (fun v g=>cvt false g v) (nrm (.a [none,some 2,some 7]) a0) a1 []).trans hv
 exact (Z0F (shr:=[.a [none,some 2,some 7], .o, .o, .o]) ha e h).trans (congrArg (fun x=>some (x,h)) rfl)
noncomputable def Za4:DTab:=D0
theorem Zpy:DSound Try.prog Za4:=DSound.zero
noncomputable def Za5:Tab:=T0
theorem Zpz:TSound Try.prog Za5:=TSound.zero
noncomputable def Za6:Fun:=runF Try.prog Za5 Za4 NN [0,2] Try.f75 1
theorem ZpA:CSound Try.prog 75 Za6:=Z04 Zpz Zpy mixed Try.func75 (by kernel_rfl) NN
theorem ZpB {β:Type} (K:AV→Hp→Option β) (a0:AV) (h:Hp):(Za6 [a0] h).bind (fun p=>K p.1 p.2)=Z8Y Try.prog Za5 Za4 NN K a0 h:=by
 rw [← ZlG];exact Z05 rfl
noncomputable def Z1y:Fun:=closedX [.o] [.o] Za6
theorem Za7:CSound Try.prog 75 Z1y:=Z0E _ _ ZpA
theorem ZpC {a0:AV} {v:AV} (ha:plains [a0]=true) (hv:Z8Y Try.prog Za5 Za4 NN (fun v g=>cvt false g v) a0 []=some v) (h:Hp):Z1y [a0] h=some (v,h):=by
 have e:(Za6 (nrms [.o] [a0]) []).bind (fun (p:AV × Hp)=>cvt false p.2 p.1)=some v:=(ZpB (fun v g=>cvt false g v) a0 []).trans hv
 exact (Z0F (shr:=[.o]) ha e h).trans (congrArg (fun x=>some (x,h)) (Z0J 1 v))
noncomputable def Z4K:DTab:=D0
theorem ZpD:DSound Try.prog Z4K:=DSound.zero
noncomputable def Z1V:Tab:=(updF (updF T0 49 Z2Y) 75 Z1y)
theorem ZpE:TSound Try.prog Z1V:=(TSound.upd (TSound.upd TSound.zero Zg2) Za7)
@[simp] theorem ZpF:Z1V 49=some Z2Y:=rfl
@[simp] theorem ZpG:Z1V 75=some Z1y:=rfl
noncomputable def Za8:Fun:=runF Try.prog Z1V Z4K NN [0,1,2,3,4,6,7,22,28,29,30,31,41,45,51] Try.f64 1
theorem ZpH:CSound Try.prog 64 Za8:=Z04 ZpE ZpD mixed Try.func64 (by kernel_rfl) NN
theorem ZpI {β:Type} (K:AV→Hp→Option β) (a0:AV) (h:Hp):(Za8 [a0] h).bind (fun p=>K p.1 p.2)=Z6O Try.prog Z1V Z4K NN K a0 h:=by
 rw [← Zlw];exact Z05 rfl
noncomputable def Z1n:Fun:=closedX [.a [none,none,some 10]] [.o] Za8
theorem Za9:CSound Try.prog 64 Z1n:=Z0E _ _ ZpH
theorem ZpJ {a0:AV} {v:AV} (ha:plains [a0]=true) (hv:Z6O Try.prog Z1V Z4K NN (fun v g=>cvt false g v) (nrm (.a [none,none,some 10]) a0) []=some v) (h:Hp):Z1n [a0] h=some (v,h):=by
 have e:(Za8 (nrms [.a [none,none,some 10]] [a0]) []).bind (fun (p:AV × Hp)=>cvt false p.2 p.1)=some v:=(ZpI (fun v g=>cvt false g v) (nrm (.a [none,none,some 10]) a0) []).trans hv
 exact (Z0F (shr:=[.o]) ha e h).trans (congrArg (fun x=>some (x,h)) (Z0J 1 v))
noncomputable def Z7x:DTab:=D0
theorem ZpK:DSound Try.prog Z7x:=DSound.zero
noncomputable def Z7y:Tab:=T0
theorem ZpL:TSound Try.prog Z7y:=TSound.zero
noncomputable def Z1o:Fun:=runF Try.prog Z7y Z7x NN [0,2,4] Try.f66 1
theorem Zc6:CSound Try.prog 66 Z1o:=Z04 ZpL ZpK mixed Try.func66 (by kernel_rfl) NN
theorem Zgc {β:Type} (K:AV→Hp→Option β) (a0:AV) (h:Hp):(Z1o [a0] h).bind (fun p=>K p.1 p.2)=Z2E Try.prog Z7y Z7x NN K a0 h:=by
 rw [← Zly];exact Z05 rfl
theorem ZpM (a0:AV) (h:Hp):Z1o [a0] h=Z2E Try.prog Z7y Z7x NN (fun v h=>some (v,h)) a0 h:=(Z0R _).symm.trans (Zgc (fun v h=>some (v,h)) a0 h)
noncomputable def Z4L:Fun:=closedX [.l 10] [.l 10] Z1o
theorem ZpN:CSound Try.prog 66 Z4L:=Z0E _ _ Zc6
theorem ZpO {a0:AV} {v:AV} (ha:plains [a0]=true) (hv:Z2E Try.prog Z7y Z7x NN (fun v g=>cvt false g v) (nrm (.l 10) a0) []=some v) (h:Hp):Z4L [a0] h=some ((nrmR [.l 10] v),h):=by
 have e:(Z1o (nrms [.l 10] [a0]) []).bind (fun (p:AV × Hp)=>cvt false p.2 p.1)=some v:=(Zgc (fun v g=>cvt false g v) (nrm (.l 10) a0) []).trans hv
 exact (Z0F (shr:=[.l 10]) ha e h).trans (congrArg (fun x=>some (x,h)) rfl)
noncomputable def Zaa:DTab:=D0
theorem ZpP:DSound Try.prog Zaa:=DSound.zero
noncomputable def Zab:Tab:=T0
theorem ZpQ:TSound Try.prog Zab:=TSound.zero
noncomputable def Zac:Fun:=runF Try.prog Zab Zaa NN [0,1,2,3] Try.f90 2
theorem ZpR:CSound Try.prog 90 Zac:=Z04 ZpQ ZpP mixed Try.func90 (by kernel_rfl) NN
theorem ZpS {β:Type} (K:AV→Hp→Option β) (a0:AV) (a1:AV) (h:Hp):(Zac [a0,a1] h).bind (fun p=>K p.1 p.2)=Z9b Try.prog Zab Zaa NN K a0 a1 h:=by
 rw [← Zmb];exact Z05 rfl
noncomputable def Z1W:Fun:=quietT Zac
theorem Zc7:CSound Try.prog 90 Z1W:=Z1L ZpR
theorem ZpT {a0:AV} {a1:AV} {h:Hp} {g:List AObj} {v:AV} (hv:Z9b Try.prog Zab Zaa NN (fun v h=>some (v,h)) a0 a1 h=some (v,h++g)) (hp:plain v=true):Z1W [a0,a1] h=some (v,h):=Z24 (F:=Zac) (((Z0R _).symm.trans (ZpS (fun v h=>some (v,h)) a0 a1 h)).trans hv) hp
noncomputable def Zad:DTab:=D0
theorem ZpU:DSound Try.prog Zad:=DSound.zero
noncomputable def Z5D:Tab:=(updF T0 90 Z1W)
theorem ZpV:TSound Try.prog Z5D:=(TSound.upd TSound.zero Zc7)
@[simp] theorem ZpW:Z5D 90=some Z1W:=rfl
noncomputable def Zae:Fun:=runF Try.prog Z5D Zad NN [0,1,4,5,7,8,9,16] Try.f70 2
theorem ZpX:CSound Try.prog 70 Zae:=Z04 ZpV ZpU mixed Try.func70 (by kernel_rfl) NN
theorem ZpY {β:Type} (K:AV→Hp→Option β) (a0:AV) (a1:AV) (h:Hp):(Zae [a0,a1] h).bind (fun p=>K p.1 p.2)=Z2H Try.prog Z5D Zad NN K a0 a1 h:=by
 rw [← Zfd];exact Z05 rfl
noncomputable def Z5E:Fun:=quietT Zae
theorem ZpZ:CSound Try.prog 70 Z5E:=Z1L ZpX
theorem Zgd {a0:AV} {a1:AV} {h:Hp} {g:List AObj} {v:AV} (hv:Z2H Try.prog Z5D Zad NN (fun v h=>some (v,h)) a0 a1 h=some (v,h++g)) (hp:plain v=true):Z5E [a0,a1] h=some (v,h):=Z24 (F:=Zae) (((Z0R _).symm.trans (ZpY (fun v h=>some (v,h)) a0 a1 h)).trans hv) hp
noncomputable def Z7z:DTab:=D0
theorem Zq0:DSound Try.prog Z7z:=DSound.zero
noncomputable def Z1X:Tab:=(updF (updF T0 70 Z5E) 90 Z1W)
theorem Zq1:TSound Try.prog Z1X:=(TSound.upd (TSound.upd TSound.zero ZpZ) Zc7)
@[simp] theorem Zge:Z1X 70=some Z5E:=rfl
@[simp] theorem Zq2:Z1X 90=some Z1W:=rfl
noncomputable def Z5F:Fun:=runF Try.prog Z1X Z7z NN [0,1,4,5,6,7,12,19,29] Try.f89 2
theorem Zq3:CSound Try.prog 89 Z5F:=Z04 Zq1 Zq0 mixed Try.func89 (by kernel_rfl) NN
theorem Zq4 {β:Type} (K:AV→Hp→Option β) (a0:AV) (a1:AV) (h:Hp):(Z5F [a0,a1] h).bind (fun p=>K p.1 p.2)=Z2R Try.prog Z1X Z7z NN K a0 a1 h:=by
 rw [← Zma];exact Z05 rfl
theorem Zgf (a0:AV) (a1:AV) (h:Hp):Z5F [a0,a1] h=Z2R Try.prog Z1X Z7z NN (fun v h=>some (v,h)) a0 a1 h:=(Z0R _).symm.trans (Zq4 (fun v h=>some (v,h)) a0 a1 h)
noncomputable def Zaf:DTab:=D0
theorem Zq5:DSound Try.prog Zaf:=DSound.zero
noncomputable def Z1Y:Tab:=(updF (updF (updF (updF (updF T0 64 Z1n) 66 Z1o) 75 Z1y) 89 Z5F) 90 Z1W)
theorem Zq6:TSound Try.prog Z1Y:=(TSound.upd (TSound.upd (TSound.upd (TSound.upd (TSound.upd TSound.zero Za9) Zc6) Za7) Zq3) Zc7)
@[simp] theorem Zc8:Z1Y 64=some Z1n:=rfl
@[simp] theorem Zq7:Z1Y 66=some Z1o:=rfl
@[simp] theorem Zgg:Z1Y 75=some Z1y:=rfl
@[simp] theorem Zq8:Z1Y 89=some Z5F:=rfl
@[simp] theorem Zv8:Z1Y 90=some Z1W:=rfl
noncomputable def Zag:Fun:=runF Try.prog Z1Y Zaf NN [0,1,2,3,4,5,6,10] Try.f65 2
theorem Zq9:CSound Try.prog 65 Zag:=Z04 Zq6 Zq5 mixed Try.func65 (by kernel_rfl) NN
theorem Zqa {β:Type} (K:AV→Hp→Option β) (a0:AV) (a1:AV) (h:Hp):(Zag [a0,a1] h).bind (fun p=>K p.1 p.2)=Z5a Try.prog Z1Y Zaf NN K a0 a1 h:=by
 rw [← Zlx];exact Z05 rfl
noncomputable def Z5G:Fun:=closedX [.a [none,none,some 10], .o] [.l 10, .o] Zag
theorem Zqb:CSound Try.prog 65 Z5G:=Z0E _ _ Zq9
theorem Zc9 {a0:AV} {a1:AV} {v:AV} (ha:plains [a0,a1]=true) (hv:Z5a Try.prog Z1Y Zaf NN (fun v g=>cvt false g v) (nrm (.a [none,none,some 10]) a0) a1 []=some v) (h:Hp):Z5G [a0,a1] h=some ((nrmR [.l 10, .o] v),h):=by
 have e:(Zag (nrms [.a [none,none,some 10], .o] [a0,a1]) []).bind (fun (p:AV × Hp)=>cvt false p.2 p.1)=some v:=(Zqa (fun v g=>cvt false g v) (nrm (.a [none,none,some 10]) a0) a1 []).trans hv
 exact (Z0F (shr:=[.l 10, .o]) ha e h).trans (congrArg (fun x=>some (x,h)) rfl)
noncomputable def Zgh:DTab:=D0
theorem Zqc:DSound Try.prog Zgh:=DSound.zero
noncomputable def Zgi:Tab:=T0
theorem Zqd:TSound Try.prog Zgi:=TSound.zero
noncomputable def Zgj:Fun:=runF Try.prog Zgi Zgh NN [0,1,2,4,5,6,7,8,9,24] Try.f91 3
theorem Zqe:CSound Try.prog 91 Zgj:=Z04 Zqd Zqc mixed Try.func91 (by kernel_rfl) NN
noncomputable def Zca:Fun:=quietT Zgj
theorem Zqf:CSound Try.prog 91 Zca:=Z1L Zqe
noncomputable def Zah:DTab:=D0
theorem Zqg:DSound Try.prog Zah:=DSound.zero
noncomputable def Z7A:Tab:=(updF T0 91 Zca)
theorem Zqh:TSound Try.prog Z7A:=(TSound.upd TSound.zero Zqf)
@[simp] theorem Zv9:Z7A 91=some Zca:=rfl
noncomputable def Zcb:Fun:=runF Try.prog Z7A Zah NN [0,1,2,3,4] Try.f67 2
theorem Zqi:CSound Try.prog 67 Zcb:=Z04 Zqh Zqg mixed Try.func67 (by kernel_rfl) NN
theorem Zqj {β:Type} (K:AV→Hp→Option β) (a0:AV) (a1:AV) (h:Hp):(Zcb [a0,a1] h).bind (fun p=>K p.1 p.2)=ZbI Try.prog Z7A Zah NN K a0 a1 h:=by
 rw [← Zlz];exact Z05 rfl
noncomputable def Z5H:Fun:=Zcb
theorem Zqk:CSound Try.prog 67 Z5H:=Zqi
theorem Zql (a0:AV) (a1:AV) (h:Hp):Z5H [a0,a1] h=ZbI Try.prog Z7A Zah NN (fun v h=>some (v,h)) a0 a1 h:=(Z0R _).symm.trans (Zqj (fun v h=>some (v,h)) a0 a1 h)
noncomputable def Z7B:DTab:=D0
theorem Zqm:DSound Try.prog Z7B:=DSound.zero
noncomputable def Z5I:Tab:=(updF T0 66 Z1o)
theorem Zqn:TSound Try.prog Z5I:=(TSound.upd TSound.zero Zc6)
@[simp] theorem Zqo:Z5I 66=some Z1o:=rfl
noncomputable def Z1b:Fun:=runF Try.prog Z5I Z7B NN [0,1,2] Try.f77 1
theorem Zcc:CSound Try.prog 77 Z1b:=Z04 Zqn Zqm mixed Try.func77 (by kernel_rfl) NN
theorem Zqp {β:Type} (K:AV→Hp→Option β) (a0:AV) (h:Hp):(Z1b [a0] h).bind (fun p=>K p.1 p.2)=Z6R Try.prog Z5I Z7B NN K a0 h:=by
 rw [← ZlI];exact Z05 rfl
theorem Zqq (a0:AV) (h:Hp):Z1b [a0] h=Z6R Try.prog Z5I Z7B NN (fun v h=>some (v,h)) a0 h:=(Z0R _).symm.trans (Zqp (fun v h=>some (v,h)) a0 h)
noncomputable def Zai:DTab:=D0
theorem Zqr:DSound Try.prog Zai:=DSound.zero
noncomputable def Zaj:Tab:=T0
theorem Zqs:TSound Try.prog Zaj:=TSound.zero
noncomputable def Zak:Fun:=runF Try.prog Zaj Zai NN [0,1,2,4] Try.f93 3
theorem Zqt:CSound Try.prog 93 Zak:=Z04 Zqs Zqr mixed Try.func93 (by kernel_rfl) NN
theorem Zqu {β:Type} (K:AV→Hp→Option β) (a0:AV) (a1:AV) (a2:AV) (h:Hp):(Zak [a0,a1,a2] h).bind (fun p=>K p.1 p.2)=Z9f Try.prog Zaj Zai NN K a0 a1 a2 h:=by
 rw [← Zmm];exact Z05 rfl
noncomputable def Z4M:Fun:=quietT Zak
theorem Zgk:CSound Try.prog 93 Z4M:=Z1L Zqt
theorem Zqv {a0:AV} {a1:AV} {a2:AV} {h:Hp} {g:List AObj} {v:AV} (hv:Z9f Try.prog Zaj Zai NN (fun v h=>some (v,h)) a0 a1 a2 h=some (v,h++g)) (hp:plain v=true):Z4M [a0,a1,a2] h=some (v,h):=Z24 (F:=Zak) (((Z0R _).symm.trans (Zqu (fun v h=>some (v,h)) a0 a1 a2 h)).trans hv) hp
noncomputable def Zal:DTab:=D0
theorem Zqw:DSound Try.prog Zal:=DSound.zero
noncomputable def Z5J:Tab:=(updF T0 93 Z4M)
theorem Zqx:TSound Try.prog Z5J:=(TSound.upd TSound.zero Zgk)
@[simp] theorem Zqy:Z5J 93=some Z4M:=rfl
noncomputable def Zam:Fun:=runF Try.prog Z5J Zal NN [0,1,4,5,6,7,11,21] Try.f92 2
theorem Zqz:CSound Try.prog 92 Zam:=Z04 Zqx Zqw mixed Try.func92 (by kernel_rfl) NN
theorem ZqA {β:Type} (K:AV→Hp→Option β) (a0:AV) (a1:AV) (h:Hp):(Zam [a0,a1] h).bind (fun p=>K p.1 p.2)=Z71 Try.prog Z5J Zal NN K a0 a1 h:=by
 rw [← Zml];exact Z05 rfl
noncomputable def Z7C:Fun:=quietT Zam
theorem ZqB:CSound Try.prog 92 Z7C:=Z1L Zqz
theorem ZqC {a0:AV} {a1:AV} {h:Hp} {g:List AObj} {v:AV} (hv:Z71 Try.prog Z5J Zal NN (fun v h=>some (v,h)) a0 a1 h=some (v,h++g)) (hp:plain v=true):Z7C [a0,a1] h=some (v,h):=Z24 (F:=Zam) (((Z0R _).symm.trans (ZqA (fun v h=>some (v,h)) a0 a1 h)).trans hv) hp
noncomputable def Zan:DTab:=D0
theorem ZqD:DSound Try.prog Zan:=DSound.zero
noncomputable def Zao:Tab:=T0
theorem ZqE:TSound Try.prog Zao:=TSound.zero
noncomputable def Z5K:Fun:=runF Try.prog Zao Zan NN [0,1,2,6,7,16] Try.f94 3
theorem ZqF:CSound Try.prog 94 Z5K:=Z04 ZqE ZqD mixed Try.func94 (by kernel_rfl) NN
theorem ZqG {β:Type} (K:AV→Hp→Option β) (a0:AV) (a1:AV) (a2:AV) (h:Hp):(Z5K [a0,a1,a2] h).bind (fun p=>K p.1 p.2)=Z9g Try.prog Zao Zan NN K a0 a1 a2 h:=by
 rw [← Zmn];exact Z05 rfl
theorem ZqH (a0:AV) (a1:AV) (a2:AV) (h:Hp):Z5K [a0,a1,a2] h=Z9g Try.prog Zao Zan NN (fun v h=>some (v,h)) a0 a1 a2 h:=(Z0R _).symm.trans (ZqG (fun v h=>some (v,h)) a0 a1 a2 h)
noncomputable def Z7D:DTab:=D0
theorem ZqI:DSound Try.prog Z7D:=DSound.zero
noncomputable def Z1G:Tab:=(updF (updF (updF (updF (updF T0 64 Z1n) 77 Z1b) 92 Z7C) 93 Z4M) 94 Z5K)
theorem ZqJ:TSound Try.prog Z1G:=(TSound.upd (TSound.upd (TSound.upd (TSound.upd (TSound.upd TSound.zero Za9) Zcc) ZqB) Zgk) ZqF)
@[simp] theorem Z5L:Z1G 64=some Z1n:=rfl
@[simp] theorem Zcd:Z1G 77=some Z1b:=rfl
@[simp] theorem Zce:Z1G 92=some Z7C:=rfl
@[simp] theorem Zva:Z1G 93=some Z4M:=rfl
@[simp] theorem ZqK:Z1G 94=some Z5K:=rfl
noncomputable def Zap:Fun:=runF Try.prog Z1G Z7D NN [0,1,2,3,4,5,6,7,8,13,20,54] Try.f68 2
theorem ZqL:CSound Try.prog 68 Zap:=Z04 ZqJ ZqI mixed Try.func68 (by kernel_rfl) NN
theorem ZqM {β:Type} (K:AV→Hp→Option β) (a0:AV) (a1:AV) (h:Hp):(Zap [a0,a1] h).bind (fun p=>K p.1 p.2)=Z1Q Try.prog Z1G Z7D NN K a0 a1 h:=by
 rw [← ZlA];exact Z05 rfl
noncomputable def Z5M:Fun:=closedX [.a [none,none,some 10], .o] [.a [none,none,some 10], .o] Zap
theorem ZqN:CSound Try.prog 68 Z5M:=Z0E _ _ ZqL
theorem Z5N {a0:AV} {a1:AV} {v:AV} (ha:plains [a0,a1]=true) (hv:Z1Q Try.prog Z1G Z7D NN (fun v g=>cvt false g v) (nrm (.a [none,none,some 10]) a0) a1 []=some v) (h:Hp):Z5M [a0,a1] h=some ((nrmR [.a [none,none,some 10], .o] v),h):=by
 have e:(Zap (nrms [.a [none,none,some 10], .o] [a0,a1]) []).bind (fun (p:AV × Hp)=>cvt false p.2 p.1)=some v:=(ZqM (fun v g=>cvt false g v) (nrm (.a [none,none,some 10]) a0) a1 []).trans hv
 exact (Z0F (shr:=[.a [none,none,some 10], .o]) ha e h).trans (congrArg (fun x=>some (x,h)) rfl)
noncomputable def Z14:DTab:=(updD (updD D0 50 Z4G) 51 Z9I)
theorem Zgl:DSound Try.prog Z14:=(DSound.ro (DSound.ro DSound.zero Zg4 Z9Y) ZnZ ZfV)
@[simp] theorem ZqO:Z14 50=some Z4G:=rfl
@[simp] theorem ZqP:Z14 51=some Z9I:=rfl
noncomputable def Z15:Tab:=(updF (updF (updF (updF (updF (updF (updF (updF (updF T0 13 Z1F) 16 Z1m) 50 Z1U) 51 Z4A) 64 Z1n) 65 Z5G) 66 Z4L) 67 Z5H) 68 Z5M)
theorem Zgm:TSound Try.prog Z15:=(TSound.upd (TSound.upd (TSound.upd (TSound.upd (TSound.upd (TSound.upd (TSound.upd (TSound.upd (TSound.upd TSound.zero Zc4) Z9N) Z9Y) ZfV) Za9) Zqb) ZpN) Zqk) ZqN)
@[simp] theorem ZqQ:Z15 13=some Z1F:=rfl
@[simp] theorem Zvb:Z15 16=some Z1m:=rfl
@[simp] theorem Zvc:Z15 50=some Z1U:=rfl
@[simp] theorem Zvd:Z15 51=some Z4A:=rfl
@[simp] theorem Zve:Z15 64=some Z1n:=rfl
@[simp] theorem Zvf:Z15 65=some Z5G:=rfl
@[simp] theorem Zvg:Z15 66=some Z4L:=rfl
@[simp] theorem Zvh:Z15 67=some Z5H:=rfl
@[simp] theorem ZqR:Z15 68=some Z5M:=rfl
noncomputable def Z5O:Fun:=yieldF Try.prog Z15 Z14 NN [0,1,2,3,4,5,7,8,9,10,11,13,14,15,16,17,18,20,21,32,63,64,65,75,84] 4
theorem ZqS:YSound Try.prog Z5O:=ZjU Zgm Zgl mixed NN
theorem ZqT {L:Nat} {h:Hp} {pend:Option Code} {v7:AV} {v8:AV} {v9:AV} {v10:AV} {v13:AV} {v14:AV} {v64:AV} {v65:AV} (hL:h[L]? = some (.loop (Z1t) (Z1s) (Z1j) (Z1k) (envT [(7,v7),(8,v8),(9,v9),(10,v10),(13,v13),(14,v14)]) .ready pend)):Z5O [ymark, .yl L,v64,v65] h=ZbB Try.prog Z15 Z14 NN L (envT [(7,v7),(8,v8),(9,v9),(10,v10),(13,v13),(14,v14)]) (fun h=>some (.s (.bool true),h.set L (.loop (Z1t) (Z1s) (Z1j) (Z1k) (envT [(7,v7),(8,v8),(9,v9),(10,v10),(13,v13),(14,v14)]) .ready none))) (fun h=>some (.s (.bool false),h.set L (.loop (Z1t) (Z1s) (Z1j) (Z1k) (envT [(7,v7),(8,v8),(9,v9),(10,v10),(13,v13),(14,v14)]) .done (some .ret)))) v7 v8 v9 v10 v13 v14 v64 v65 h:=(ZjS hL (by kernel_rfl)).trans (Zkl Z15 Z14 NN L v7 v8 v9 v10 v13 v14 v64 v65 h)
noncomputable def Z0O:Tab:=(updF T0 YB Z5O)
theorem ZqU:TSound Try.prog Z0O:=(TSound.updY TSound.zero ZqS)
@[simp] theorem Zgn:Z0O YB=some Z5O:=rfl
noncomputable def Z5P:Fun:=runF Try.prog Z0O D0 NN [0,1,2,4,5,6,7,8,9,24] Try.f91 3
theorem ZqV:CSound Try.prog 91 Z5P:=Z04 ZqU DSound.zero mixed Try.func91 (by kernel_rfl) NN
theorem ZqW {β:Type} (K:AV→Hp→Option β) (a0:AV) (a1:AV) (a2:AV) (h:Hp):(Z5P [a0,a1,a2] h).bind (fun p=>K p.1 p.2)=Z6Z Try.prog Z0O D0 NN K a0 a1 a2 h:=by
 rw [← Zmg];exact Z05 rfl
theorem ZqX (a0:AV) (a1:AV) (a2:AV) (h:Hp):Z5P [a0,a1,a2] h=Z6Z Try.prog Z0O D0 NN (fun v h=>some (v,h)) a0 a1 a2 h:=(Z0R _).symm.trans (ZqW (fun v h=>some (v,h)) a0 a1 a2 h)
noncomputable def Z0S:Tab:=(updF Z15 91 Z5P)
theorem ZqY:TSound Try.prog Z0S:=(TSound.upd Zgm ZqV)
@[simp] theorem Zvi:Z0S 13=some Z1F:=rfl
@[simp] theorem Zcf:Z0S 16=some Z1m:=rfl
@[simp] theorem Zvj:Z0S 50=some Z1U:=rfl
@[simp] theorem Zvk:Z0S 51=some Z4A:=rfl
@[simp] theorem Zcg:Z0S 64=some Z1n:=rfl
@[simp] theorem ZqZ:Z0S 65=some Z5G:=rfl
@[simp] theorem Zr0:Z0S 66=some Z4L:=rfl
@[simp] theorem Zr1:Z0S 67=some Z5H:=rfl
@[simp] theorem Zvl:Z0S 68=some Z5M:=rfl
@[simp] theorem Zgo:Z0S 91=some Z5P:=rfl
noncomputable def Zaq:Fun:=runF Try.prog Z0S Z14 NN [0,1,2,3,4,5,7,8,9,10,11,13,14,15,16,17,18,20,21,32,63,64,65,75,84] Try.f30 4
theorem Zr2:CSound Try.prog 30 Zaq:=Z04 ZqY Zgl mixed Try.func30 (by kernel_rfl) NN
theorem Zr3 {β:Type} (K:AV→Hp→Option β) (a0:AV) (a1:AV) (a2:AV) (a3:AV) (h:Hp):(Zaq [a0,a1,a2,a3] h).bind (fun p=>K p.1 p.2)=Z2e Try.prog Z0S Z14 NN K a0 a1 a2 a3 h:=by
 rw [← Zkm];exact Z05 rfl
noncomputable def Z30:Fun:=closedX [.a [none,none,some 10], .a [none,some 2,some 7], .o, .o] [.a [none,none,some 10], .a [none,some 2,some 7], .o] Zaq
theorem Zr4:CSound Try.prog 30 Z30:=Z0E _ _ Zr2
theorem Zr5 {a0:AV} {a1:AV} {a2:AV} {a3:AV} {v:AV} (ha:plains [a0,a1,a2,a3]=true) (hv:Z2e Try.prog Z0S Z14 NN (fun v g=>cvt false g v) (nrm (.a [none,none,some 10]) a0) (nrm (.a [none,some 2,some 7]) a1) a2 a3 []=some v) (h:Hp):Z30 [a0,a1,a2,a3] h=some ((nrmR [.a [none,none,some 10], .a [none,some 2,some 7], .o] v),h):=by
 have e:(Zaq (nrms [.a [none,none,some 10], .a [none,some 2,some 7], .o, .o] [a0,a1,a2,a3]) []).bind (fun (p:AV × Hp)=>cvt false p.2 p.1)=some v:=(Zr3 (fun v g=>cvt false g v) (nrm (.a [none,none,some 10]) a0) (nrm (.a [none,some 2,some 7]) a1) a2 a3 []).trans hv
 exact (Z0F (shr:=[.a [none,none,some 10], .a [none,some 2,some 7], .o]) ha e h).trans (congrArg (fun x=>some (x,h)) rfl)
noncomputable def Zar:DTab:=D0
theorem Zr6:DSound Try.prog Zar:=DSound.zero
noncomputable def Z7E:Tab:=(updF T0 75 Z1y)
theorem Zr7:TSound Try.prog Z7E:=(TSound.upd TSound.zero Za7)
@[simp] theorem Zgp:Z7E 75=some Z1y:=rfl
noncomputable def Zas:Fun:=runF Try.prog Z7E Zar NN [0,2,3,6] Try.f43 1
theorem Zr8:CSound Try.prog 43 Zas:=Z04 Zr7 Zr6 mixed Try.func43 (by kernel_rfl) NN
theorem Zr9 {β:Type} (K:AV→Hp→Option β) (a0:AV) (h:Hp):(Zas [a0] h).bind (fun p=>K p.1 p.2)=Z6E Try.prog Z7E Zar NN K a0 h:=by
 rw [← ZkK];exact Z05 rfl
noncomputable def Z5Q:Fun:=closedX [.o] [.a [none,none,some 10], .o] Zas
theorem Zra:CSound Try.prog 43 Z5Q:=Z0E _ _ Zr8
theorem Zgq {a0:AV} {v:AV} (ha:plains [a0]=true) (hv:Z6E Try.prog Z7E Zar NN (fun v g=>cvt false g v) a0 []=some v) (h:Hp):Z5Q [a0] h=some ((nrmR [.a [none,none,some 10], .o] v),h):=by
 have e:(Zas (nrms [.o] [a0]) []).bind (fun (p:AV × Hp)=>cvt false p.2 p.1)=some v:=(Zr9 (fun v g=>cvt false g v) a0 []).trans hv
 exact (Z0F (shr:=[.a [none,none,some 10], .o]) ha e h).trans (congrArg (fun x=>some (x,h)) rfl)
noncomputable def Z7F:DTab:=(updD D0 77 (newA Z1b))
theorem Zrb:DSound Try.prog Z7F:=(DSound.newA DSound.zero Zcc)
@[simp] theorem Zrc:Z7F 77=some (newA Z1b):=rfl
noncomputable def Z31:Tab:=(updF (updF (updF (updF T0 64 Z1n) 75 Z1y) 76 Z1E) 77 Z1b)
theorem Zrd:TSound Try.prog Z31:=(TSound.upd (TSound.upd (TSound.upd (TSound.upd TSound.zero Za9) Za7) ZbZ) Zcc)
@[simp] theorem Zre:Z31 64=some Z1n:=rfl
@[simp] theorem Zrf:Z31 75=some Z1y:=rfl
@[simp] theorem Zrg:Z31 76=some Z1E:=rfl
@[simp] theorem Zvm:Z31 77=some Z1b:=rfl
noncomputable def Z7G:Fun:=runF Try.prog Z31 Z7F NN [0,1,2,3,5,6,7,8,9,10,11,12,16,20,25,29,34,39] Try.f44 3
theorem Zrh:CSound Try.prog 44 Z7G:=Z04 Zrd Zrb mixed Try.func44 (by kernel_rfl) NN
theorem Zri {β:Type} (K:AV→Hp→Option β) (a0:AV) (a1:AV) (a2:AV) (h:Hp):(Z7G [a0,a1,a2] h).bind (fun p=>K p.1 p.2)=Z8z Try.prog Z31 Z7F NN K a0 a1 a2 h:=by
 rw [← ZkL];exact Z05 rfl
noncomputable def Z1Z:Fun:=closedX [.a [none,none,some 10], .o, .o] [.a [none,none,some 10], .o, .o] Z7G
theorem Zgr:CSound Try.prog 44 Z1Z:=Z0E _ _ Zrh
noncomputable def Zat:DFun:=closedXD [.a [none,none,some 10], .o, .o] [.a [none,none,some 10], .o, .o] Z7G
theorem Zrj:Ro Z1Z Zat:=Z23 _ _ _
theorem Zrk {a0:AV} {a1:AV} {a2:AV} {v:AV} (ha:plains [a0,a1,a2]=true) (hv:Z8z Try.prog Z31 Z7F NN (fun v g=>cvt false g v) (nrm (.a [none,none,some 10]) a0) a1 a2 []=some v) (h:Hp):Z1Z [a0,a1,a2] h=some ((nrmR [.a [none,none,some 10], .o, .o] v),h):=by
 have e:(Z7G (nrms [.a [none,none,some 10], .o, .o] [a0,a1,a2]) []).bind (fun (p:AV × Hp)=>cvt false p.2 p.1)=some v:=(Zri (fun v g=>cvt false g v) (nrm (.a [none,none,some 10]) a0) a1 a2 []).trans hv
 exact (Z0F (shr:=[.a [none,none,some 10], .o, .o]) ha e h).trans (congrArg (fun x=>some (x,h)) rfl)
noncomputable def Zau:DTab:=D0
theorem Zrl:DSound Try.prog Zau:=DSound.zero
noncomputable def Zav:Tab:=T0
theorem Zrm:TSound Try.prog Zav:=TSound.zero
noncomputable def Z7H:Fun:=runF Try.prog Zav Zau NN [0,2] Try.f45 1
theorem Zrn:CSound Try.prog 45 Z7H:=Z04 Zrm Zrl mixed Try.func45 (by kernel_rfl) NN
theorem Zro {β:Type} (K:AV→Hp→Option β) (a0:AV) (h:Hp):(Z7H [a0] h).bind (fun p=>K p.1 p.2)=Z8A Try.prog Zav Zau NN K a0 h:=by
 rw [← ZkM];exact Z05 rfl
noncomputable def Z5R:Fun:=closedX [.o] [.o] Z7H
theorem Zgs:CSound Try.prog 45 Z5R:=Z0E _ _ Zrn
noncomputable def Z7I:DFun:=closedXD [.o] [.o] Z7H
theorem Zrp:Ro Z5R Z7I:=Z23 _ _ _
theorem Zrq {a0:AV} {v:AV} (ha:plains [a0]=true) (hv:Z8A Try.prog Zav Zau NN (fun v g=>cvt false g v) a0 []=some v) (h:Hp):Z5R [a0] h=some (v,h):=by
 have e:(Z7H (nrms [.o] [a0]) []).bind (fun (p:AV × Hp)=>cvt false p.2 p.1)=some v:=(Zro (fun v g=>cvt false g v) a0 []).trans hv
 exact (Z0F (shr:=[.o]) ha e h).trans (congrArg (fun x=>some (x,h)) (Z0J 1 v))
noncomputable def Z5S:DTab:=D0
theorem Zrr:DSound Try.prog Z5S:=DSound.zero
noncomputable def Z5T:Tab:=T0
theorem Zrs:TSound Try.prog Z5T:=TSound.zero
noncomputable def Zaw:Fun:=runF Try.prog Z5T Z5S NN [0,1,4,5,10,12,13,14,24] Try.f46 2
theorem Zrt:CSound Try.prog 46 Zaw:=Z04 Zrs Zrr mixed Try.func46 (by kernel_rfl) NN
theorem Zru {β:Type} (K:AV→Hp→Option β) (a0:AV) (a1:AV) (h:Hp):(Zaw [a0,a1] h).bind (fun p=>K p.1 p.2)=Z56 Try.prog Z5T Z5S NN K a0 a1 h:=by
 rw [← ZkR];exact Z05 rfl
noncomputable def Z5U:Fun:=closedX [.l 2, .l 2] [.o] Zaw
theorem Zrv:CSound Try.prog 46 Z5U:=Z0E _ _ Zrt
theorem Zrw {a0:AV} {a1:AV} {v:AV} (ha:plains [a0,a1]=true) (hv:Z56 Try.prog Z5T Z5S NN (fun v g=>cvt false g v) (nrm (.l 2) a0) (nrm (.l 2) a1) []=some v) (h:Hp):Z5U [a0,a1] h=some (v,h):=by
 have e:(Zaw (nrms [.l 2, .l 2] [a0,a1]) []).bind (fun (p:AV × Hp)=>cvt false p.2 p.1)=some v:=(Zru (fun v g=>cvt false g v) (nrm (.l 2) a0) (nrm (.l 2) a1) []).trans hv
 exact (Z0F (shr:=[.o]) ha e h).trans (congrArg (fun x=>some (x,h)) (Z0J 1 v))
noncomputable def Z5V:DTab:=(updD (updD D0 44 Zat) 45 Z7I)
theorem Zrx:DSound Try.prog Z5V:=(DSound.ro (DSound.ro DSound.zero Zrj Zgr) Zrp Zgs)
@[simp] theorem Zry:Z5V 44=some Zat:=rfl
@[simp] theorem Zrz:Z5V 45=some Z7I:=rfl
noncomputable def Z1p:Tab:=(updF (updF (updF (updF (updF (updF (updF (updF T0 11 Z5h) 16 Z1m) 19 Z7k) 30 Z30) 43 Z5Q) 44 Z1Z) 45 Z5R) 46 Z5U)
theorem ZrA:TSound Try.prog Z1p:=(TSound.upd (TSound.upd (TSound.upd (TSound.upd (TSound.upd (TSound.upd (TSound.upd (TSound.upd TSound.zero Zn4) Z9N) ZoE) Zr4) Zra) Zgr) Zgs) Zrv)
@[simp] theorem ZrB:Z1p 11=some Z5h:=rfl
@[simp] theorem ZrC:Z1p 16=some Z1m:=rfl
@[simp] theorem ZrD:Z1p 19=some Z7k:=rfl
@[simp] theorem ZrE:Z1p 30=some Z30:=rfl
@[simp] theorem ZrF:Z1p 43=some Z5Q:=rfl
@[simp] theorem Zvn:Z1p 44=some Z1Z:=rfl
@[simp] theorem Zvo:Z1p 45=some Z5R:=rfl
@[simp] theorem ZrG:Z1p 46=some Z5U:=rfl
noncomputable def Zax:Fun:=runF Try.prog Z1p Z5V NN [0,1,2,4,6,7,8,9,10,11,12,13,14,44] Try.f9 0
theorem ZrH:CSound Try.prog 9 Zax:=Z04 ZrA Zrx mixed Try.func9 (by kernel_rfl) NN
theorem ZrI {β:Type} (K:AV→Hp→Option β) (h:Hp):(Zax [] h).bind (fun p=>K p.1 p.2)=Z8g Try.prog Z1p Z5V NN K  h:=by
 rw [← Zk2];exact Z05 rfl
noncomputable def Z7J:Fun:=closedX [] [.o] Zax
theorem ZrJ:CSound Try.prog 9 Z7J:=Z0E _ _ ZrH
theorem ZrK {v:AV} (ha:plains []=true) (hv:Z8g Try.prog Z1p Z5V NN (fun v g=>cvt false g v)  []=some v) (h:Hp):Z7J [] h=some (v,h):=by
 have e:(Zax (nrms [] []) []).bind (fun (p:AV × Hp)=>cvt false p.2 p.1)=some v:=(ZrI (fun v g=>cvt false g v)  []).trans hv
 exact (Z0F (shr:=[.o]) ha e h).trans (congrArg (fun x=>some (x,h)) (Z0J 1 v))
noncomputable def Z5W:DTab:=D0
theorem ZrL:DSound Try.prog Z5W:=DSound.zero
noncomputable def Z5X:Tab:=T0
theorem ZrM:TSound Try.prog Z5X:=TSound.zero
noncomputable def Z4N:Fun:=runF Try.prog Z5X Z5W NN [0,1,2] Try.f14 1
theorem ZrN:CSound Try.prog 14 Z4N:=Z04 ZrM ZrL mixed Try.func14 (by kernel_rfl) NN
theorem Zch {β:Type} (K:AV→Hp→Option β) (a0:AV) (h:Hp):(Z4N [a0] h).bind (fun p=>K p.1 p.2)=Z50 Try.prog Z5X Z5W NN K a0 h:=by
 rw [← Zk5];exact Z05 rfl
theorem ZrO (a0:AV) (h:Hp):Z4N [a0] h=Z50 Try.prog Z5X Z5W NN (fun v h=>some (v,h)) a0 h:=(Z0R _).symm.trans (Zch (fun v h=>some (v,h)) a0 h)
noncomputable def Z5Y:Fun:=closedX [.a [none,some 2,some 7]] [.a [none,some 2,some 7]] Z4N
theorem Zgt:CSound Try.prog 14 Z5Y:=Z0E _ _ ZrN
noncomputable def Zci:DFun:=closedXD [.a [none,some 2,some 7]] [.a [none,some 2,some 7]] Z4N
theorem ZrP:Ro Z5Y Zci:=Z23 _ _ _
theorem ZrQ {a0:AV} {v:AV} (ha:plains [a0]=true) (hv:Z50 Try.prog Z5X Z5W NN (fun v g=>cvt false g v) (nrm (.a [none,some 2,some 7]) a0) []=some v) (h:Hp):Z5Y [a0] h=some ((nrmR [.a [none,some 2,some 7]] v),h):=by
 have e:(Z4N (nrms [.a [none,some 2,some 7]] [a0]) []).bind (fun (p:AV × Hp)=>cvt false p.2 p.1)=some v:=(Zch (fun v g=>cvt false g v) (nrm (.a [none,some 2,some 7]) a0) []).trans hv
 exact (Z0F (shr:=[.a [none,some 2,some 7]]) ha e h).trans (congrArg (fun x=>some (x,h)) rfl)
noncomputable def Z5Z:DTab:=D0
theorem ZrR:DSound Try.prog Z5Z:=DSound.zero
noncomputable def Z60:Tab:=T0
theorem ZrS:TSound Try.prog Z60:=TSound.zero
noncomputable def Zay:Fun:=runF Try.prog Z60 Z5Z NN [0,1,4,5,10,14,25] Try.f59 2
theorem ZrT:CSound Try.prog 59 Zay:=Z04 ZrS ZrR mixed Try.func59 (by kernel_rfl) NN
theorem ZrU {β:Type} (K:AV→Hp→Option β) (a0:AV) (a1:AV) (h:Hp):(Zay [a0,a1] h).bind (fun p=>K p.1 p.2)=Z58 Try.prog Z60 Z5Z NN K a0 a1 h:=by
 rw [← Zlc];exact Z05 rfl
noncomputable def Z61:Fun:=closedX [.l 7, .l 7] [.o] Zay
theorem ZrV:CSound Try.prog 59 Z61:=Z0E _ _ ZrT
theorem ZrW {a0:AV} {a1:AV} {v:AV} (ha:plains [a0,a1]=true) (hv:Z58 Try.prog Z60 Z5Z NN (fun v g=>cvt false g v) (nrm (.l 7) a0) (nrm (.l 7) a1) []=some v) (h:Hp):Z61 [a0,a1] h=some (v,h):=by
 have e:(Zay (nrms [.l 7, .l 7] [a0,a1]) []).bind (fun (p:AV × Hp)=>cvt false p.2 p.1)=some v:=(ZrU (fun v g=>cvt false g v) (nrm (.l 7) a0) (nrm (.l 7) a1) []).trans hv
 exact (Z0F (shr:=[.o]) ha e h).trans (congrArg (fun x=>some (x,h)) (Z0J 1 v))
noncomputable def Z4O:DTab:=D0
theorem ZrX:DSound Try.prog Z4O:=DSound.zero
noncomputable def Z32:Tab:=(updF T0 59 Z61)
theorem ZrY:TSound Try.prog Z32:=(TSound.upd TSound.zero ZrV)
@[simp] theorem ZrZ:Z32 59=some Z61:=rfl
noncomputable def Zaz:Fun:=runF Try.prog Z32 Z4O NN [0,1,2,3,4,5,19,24,37] Try.f18 2
theorem Zs0:CSound Try.prog 18 Zaz:=Z04 ZrY ZrX mixed Try.func18 (by kernel_rfl) NN
theorem Zs1 {β:Type} (K:AV→Hp→Option β) (a0:AV) (a1:AV) (h:Hp):(Zaz [a0,a1] h).bind (fun p=>K p.1 p.2)=Z6z Try.prog Z32 Z4O NN K a0 a1 h:=by
 rw [← Zkf];exact Z05 rfl
noncomputable def Z7K:Fun:=closedX [.a [none,some 2,some 7], .a [none,some 2,some 7]] [.o] Zaz
theorem Zs2:CSound Try.prog 18 Z7K:=Z0E _ _ Zs0
theorem Zs3 {a0:AV} {a1:AV} {v:AV} (ha:plains [a0,a1]=true) (hv:Z6z Try.prog Z32 Z4O NN (fun v g=>cvt false g v) (nrm (.a [none,some 2,some 7]) a0) (nrm (.a [none,some 2,some 7]) a1) []=some v) (h:Hp):Z7K [a0,a1] h=some (v,h):=by
 have e:(Zaz (nrms [.a [none,some 2,some 7], .a [none,some 2,some 7]] [a0,a1]) []).bind (fun (p:AV × Hp)=>cvt false p.2 p.1)=some v:=(Zs1 (fun v g=>cvt false g v) (nrm (.a [none,some 2,some 7]) a0) (nrm (.a [none,some 2,some 7]) a1) []).trans hv
 exact (Z0F (shr:=[.o]) ha e h).trans (congrArg (fun x=>some (x,h)) (Z0J 1 v))
noncomputable def ZaA:DTab:=D0
theorem Zs4:DSound Try.prog ZaA:=DSound.zero
noncomputable def ZaB:Tab:=T0
theorem Zs5:TSound Try.prog ZaB:=TSound.zero
noncomputable def ZaC:Fun:=runF Try.prog ZaB ZaA NN [0,1,2] Try.f21 1
theorem Zs6:CSound Try.prog 21 ZaC:=Z04 Zs5 Zs4 mixed Try.func21 (by kernel_rfl) NN
theorem Zs7 {β:Type} (K:AV→Hp→Option β) (a0:AV) (h:Hp):(ZaC [a0] h).bind (fun p=>K p.1 p.2)=Z8n Try.prog ZaB ZaA NN K a0 h:=by
 rw [← Zkh];exact Z05 rfl
noncomputable def Z7L:Fun:=closedX [.a [none,some 2,some 7]] [.o] ZaC
theorem Zs8:CSound Try.prog 21 Z7L:=Z0E _ _ Zs6
theorem Zs9 {a0:AV} {v:AV} (ha:plains [a0]=true) (hv:Z8n Try.prog ZaB ZaA NN (fun v g=>cvt false g v) (nrm (.a [none,some 2,some 7]) a0) []=some v) (h:Hp):Z7L [a0] h=some (v,h):=by
 have e:(ZaC (nrms [.a [none,some 2,some 7]] [a0]) []).bind (fun (p:AV × Hp)=>cvt false p.2 p.1)=some v:=(Zs7 (fun v g=>cvt false g v) (nrm (.a [none,some 2,some 7]) a0) []).trans hv
 exact (Z0F (shr:=[.o]) ha e h).trans (congrArg (fun x=>some (x,h)) (Z0J 1 v))
noncomputable def ZaD:DTab:=D0
theorem Zsa:DSound Try.prog ZaD:=DSound.zero
noncomputable def ZaE:Tab:=T0
theorem Zsb:TSound Try.prog ZaE:=TSound.zero
noncomputable def ZaF:Fun:=runF Try.prog ZaE ZaD NN [0,1,2,3] Try.f33 2
theorem Zsc:CSound Try.prog 33 ZaF:=Z04 Zsb Zsa mixed Try.func33 (by kernel_rfl) NN
theorem Zsd {β:Type} (K:AV→Hp→Option β) (a0:AV) (a1:AV) (h:Hp):(ZaF [a0,a1] h).bind (fun p=>K p.1 p.2)=Z8t Try.prog ZaE ZaD NN K a0 a1 h:=by
 rw [← Zko];exact Z05 rfl
noncomputable def Z4P:Fun:=quietT ZaF
theorem Zgu:CSound Try.prog 33 Z4P:=Z1L Zsc
theorem Zse {a0:AV} {a1:AV} {h:Hp} {g:List AObj} {v:AV} (hv:Z8t Try.prog ZaE ZaD NN (fun v h=>some (v,h)) a0 a1 h=some (v,h++g)) (hp:plain v=true):Z4P [a0,a1] h=some (v,h):=Z24 (F:=ZaF) (((Z0R _).symm.trans (Zsd (fun v h=>some (v,h)) a0 a1 h)).trans hv) hp
noncomputable def Z7M:DTab:=D0
theorem Zsf:DSound Try.prog Z7M:=DSound.zero
noncomputable def Z4Q:Tab:=(updF T0 33 Z4P)
theorem Zsg:TSound Try.prog Z4Q:=(TSound.upd TSound.zero Zgu)
@[simp] theorem Zsh:Z4Q 33=some Z4P:=rfl
noncomputable def ZaG:Fun:=runF Try.prog Z4Q Z7M NN [0,1,4,5,7,8,9,16] Try.f70 2
theorem Zsi:CSound Try.prog 70 ZaG:=Z04 Zsg Zsf mixed Try.func70 (by kernel_rfl) NN
theorem Zsj {β:Type} (K:AV→Hp→Option β) (a0:AV) (a1:AV) (h:Hp):(ZaG [a0,a1] h).bind (fun p=>K p.1 p.2)=Z2H Try.prog Z4Q Z7M NN K a0 a1 h:=by
 rw [← Zfd];exact Z05 rfl
noncomputable def Z7N:Fun:=quietT ZaG
theorem Zsk:CSound Try.prog 70 Z7N:=Z1L Zsi
theorem Zsl {a0:AV} {a1:AV} {h:Hp} {g:List AObj} {v:AV} (hv:Z2H Try.prog Z4Q Z7M NN (fun v h=>some (v,h)) a0 a1 h=some (v,h++g)) (hp:plain v=true):Z7N [a0,a1] h=some (v,h):=Z24 (F:=ZaG) (((Z0R _).symm.trans (Zsj (fun v h=>some (v,h)) a0 a1 h)).trans hv) hp
noncomputable def ZaH:DTab:=D0
theorem Zsm:DSound Try.prog ZaH:=DSound.zero
noncomputable def Z7O:Tab:=(updF T0 70 Z7N)
theorem Zsn:TSound Try.prog Z7O:=(TSound.upd TSound.zero Zsk)
@[simp] theorem Zso:Z7O 70=some Z7N:=rfl
noncomputable def ZaI:Fun:=runF Try.prog Z7O ZaH NN [0,1,4] Try.f32 2
theorem Zsp:CSound Try.prog 32 ZaI:=Z04 Zsn Zsm mixed Try.func32 (by kernel_rfl) NN
theorem Zsq {β:Type} (K:AV→Hp→Option β) (a0:AV) (a1:AV) (h:Hp):(ZaI [a0,a1] h).bind (fun p=>K p.1 p.2)=Z8s Try.prog Z7O ZaH NN K a0 a1 h:=by
 rw [← Zkn];exact Z05 rfl
noncomputable def Z7P:Fun:=quietT ZaI
theorem Zsr:CSound Try.prog 32 Z7P:=Z1L Zsp
theorem Zss {a0:AV} {a1:AV} {h:Hp} {g:List AObj} {v:AV} (hv:Z8s Try.prog Z7O ZaH NN (fun v h=>some (v,h)) a0 a1 h=some (v,h++g)) (hp:plain v=true):Z7P [a0,a1] h=some (v,h):=Z24 (F:=ZaI) (((Z0R _).symm.trans (Zsq (fun v h=>some (v,h)) a0 a1 h)).trans hv) hp
noncomputable def ZaJ:DTab:=D0
theorem Zst:DSound Try.prog ZaJ:=DSound.zero
noncomputable def ZaK:Tab:=T0
theorem Zsu:TSound Try.prog ZaK:=TSound.zero
noncomputable def Z62:Fun:=runF Try.prog ZaK ZaJ NN [0,1,4,6,16] Try.f71 2
theorem Zsv:CSound Try.prog 71 Z62:=Z04 Zsu Zst mixed Try.func71 (by kernel_rfl) NN
theorem Zsw {β:Type} (K:AV→Hp→Option β) (a0:AV) (a1:AV) (h:Hp):(Z62 [a0,a1] h).bind (fun p=>K p.1 p.2)=Z6P Try.prog ZaK ZaJ NN K a0 a1 h:=by
 rw [← ZlF];exact Z05 rfl
theorem Zsx (a0:AV) (a1:AV) (h:Hp):Z62 [a0,a1] h=Z6P Try.prog ZaK ZaJ NN (fun v h=>some (v,h)) a0 a1 h:=(Z0R _).symm.trans (Zsw (fun v h=>some (v,h)) a0 a1 h)
noncomputable def Z63:DTab:=D0
theorem Zsy:DSound Try.prog Z63:=DSound.zero
noncomputable def Z4R:Tab:=(updF T0 71 Z62)
theorem Zsz:TSound Try.prog Z4R:=(TSound.upd TSound.zero Zsv)
@[simp] theorem Zgv:Z4R 71=some Z62:=rfl
noncomputable def Z64:Fun:=runF Try.prog Z4R Z63 NN [0,2,3,5,6,8,9,10,11,12,20,25,26,27,28] Try.f35 1
theorem ZsA:CSound Try.prog 35 Z64:=Z04 Zsz Zsy mixed Try.func35 (by kernel_rfl) NN
theorem ZsB {β:Type} (K:AV→Hp→Option β) (a0:AV) (h:Hp):(Z64 [a0] h).bind (fun p=>K p.1 p.2)=Z54 Try.prog Z4R Z63 NN K a0 h:=by
 rw [← ZkE];exact Z05 rfl
theorem ZsC (a0:AV) (h:Hp):Z64 [a0] h=Z54 Try.prog Z4R Z63 NN (fun v h=>some (v,h)) a0 h:=(Z0R _).symm.trans (ZsB (fun v h=>some (v,h)) a0 h)
noncomputable def Z1c:DTab:=D0
theorem ZsD:DSound Try.prog Z1c:=DSound.zero
noncomputable def Z1d:Tab:=T0
theorem ZsE:TSound Try.prog Z1d:=TSound.zero
noncomputable def Z65:Fun:=runF Try.prog Z1d Z1c NN [0,2,3,9] Try.f36 1
theorem ZsF:CSound Try.prog 36 Z65:=Z04 ZsE ZsD mixed Try.func36 (by kernel_rfl) NN
theorem ZsG {β:Type} (K:AV→Hp→Option β) (a0:AV) (h:Hp):(Z65 [a0] h).bind (fun p=>K p.1 p.2)=Z55 Try.prog Z1d Z1c NN K a0 h:=by
 rw [← ZkJ];exact Z05 rfl
theorem ZsH (a0:AV) (h:Hp):Z65 [a0] h=Z55 Try.prog Z1d Z1c NN (fun v h=>some (v,h)) a0 h:=(Z0R _).symm.trans (ZsG (fun v h=>some (v,h)) a0 h)
noncomputable def Z0Z:DTab:=(updD (updD D0 13 Zc5) 14 Zci)
theorem ZsI:DSound Try.prog Z0Z:=(DSound.ro (DSound.ro DSound.zero Zpx Zc4) ZrP Zgt)
@[simp] theorem Zvp:Z0Z 13=some Zc5:=rfl
@[simp] theorem Zvq:Z0Z 14=some Zci:=rfl
noncomputable def Z16:Tab:=(updF (updF T0 13 Z1F) 14 Z5Y)
theorem ZsJ:TSound Try.prog Z16:=(TSound.upd (TSound.upd TSound.zero Zc4) Zgt)
@[simp] theorem Zvr:Z16 13=some Z1F:=rfl
@[simp] theorem ZsK:Z16 14=some Z5Y:=rfl
noncomputable def ZaL:Fun:=runF Try.prog Z16 Z0Z NN [0,1,3,4,6,7,10,13,14,15,16,29] Try.f34 2
theorem ZsL:CSound Try.prog 34 ZaL:=Z04 ZsJ ZsI mixed Try.func34 (by kernel_rfl) NN
theorem ZsM {β:Type} (K:AV→Hp→Option β) (a0:AV) (a1:AV) (h:Hp):(ZaL [a0,a1] h).bind (fun p=>K p.1 p.2)=Z6B Try.prog Z16 Z0Z NN K a0 a1 h:=by
 rw [← Zku];exact Z05 rfl
noncomputable def Z7Q:Fun:=quietT ZaL
theorem ZsN:CSound Try.prog 34 Z7Q:=Z1L ZsL
theorem ZsO {a0:AV} {a1:AV} {h:Hp} {g:List AObj} {v:AV} (hv:Z6B Try.prog Z16 Z0Z NN (fun v h=>some (v,h)) a0 a1 h=some (v,h++g)) (hp:plain v=true):Z7Q [a0,a1] h=some (v,h):=Z24 (F:=ZaL) (((Z0R _).symm.trans (ZsM (fun v h=>some (v,h)) a0 a1 h)).trans hv) hp
noncomputable def Z1H:DTab:=D0
theorem ZsP:DSound Try.prog Z1H:=DSound.zero
noncomputable def Z0V:Tab:=(updF (updF (updF (updF (updF (updF (updF (updF T0 9 Z7J) 18 Z7K) 21 Z7L) 32 Z7P) 33 Z4P) 34 Z7Q) 35 Z64) 36 Z65)
theorem ZsQ:TSound Try.prog Z0V:=(TSound.upd (TSound.upd (TSound.upd (TSound.upd (TSound.upd (TSound.upd (TSound.upd (TSound.upd TSound.zero ZrJ) Zs2) Zs8) Zsr) Zgu) ZsN) ZsA) ZsF)
@[simp] theorem ZsR:Z0V 9=some Z7J:=rfl
@[simp] theorem ZsS:Z0V 18=some Z7K:=rfl
@[simp] theorem ZsT:Z0V 21=some Z7L:=rfl
@[simp] theorem ZsU:Z0V 32=some Z7P:=rfl
@[simp] theorem Zvs:Z0V 33=some Z4P:=rfl
@[simp] theorem ZsV:Z0V 34=some Z7Q:=rfl
@[simp] theorem ZsW:Z0V 35=some Z64:=rfl
@[simp] theorem ZsX:Z0V 36=some Z65:=rfl
noncomputable def ZaM:Fun:=runF Try.prog Z0V Z1H NN [0,1,2,4,5,6,7,8,10,18,19,20,21,22,30] Try.f7 2
theorem ZsY:CSound Try.prog 7 ZaM:=Z04 ZsQ ZsP mixed Try.func7 (by kernel_rfl) NN
theorem ZsZ {β:Type} (K:AV→Hp→Option β) (a0:AV) (a1:AV) (h:Hp):(ZaM [a0,a1] h).bind (fun p=>K p.1 p.2)=Z6u Try.prog Z0V Z1H NN K a0 a1 h:=by
 rw [← Zk1];exact Z05 rfl
noncomputable def Zcj:Fun:=closedX [.a [none,some 2,some 7], .l 10] [.o] ZaM
theorem F_law43_ReceiverOrder_ok:CSound Try.prog 7 Zcj:=Z0E _ _ ZsY
theorem Zt0 {a0:AV} {a1:AV} {v:AV} (ha:plains [a0,a1]=true) (hv:Z6u Try.prog Z0V Z1H NN (fun v g=>cvt false g v) (nrm (.a [none,some 2,some 7]) a0) (nrm (.l 10) a1) []=some v) (h:Hp):Zcj [a0,a1] h=some (v,h):=by
 have e:(ZaM (nrms [.a [none,some 2,some 7], .l 10] [a0,a1]) []).bind (fun (p:AV × Hp)=>cvt false p.2 p.1)=some v:=(ZsZ (fun v g=>cvt false g v) (nrm (.a [none,some 2,some 7]) a0) (nrm (.l 10) a1) []).trans hv
 exact (Z0F (shr:=[.o]) ha e h).trans (congrArg (fun x=>some (x,h)) (Z0J 1 v))
end Go.AM


namespace Go.AM
set_option linter.unusedVariables false
set_option linter.unusedSimpArgs false
set_option linter.constructorNameAsVariable false
set_option maxRecDepth 30000
variable {β:Type} {P:Program} {kt:TypeId} {kk:IntKind}
end Go.AM


namespace Go.AM
set_option linter.unusedVariables false
def idOf:AV→Option Nat
 | .sl _ id .. => some id
 | _=>none
@[simp] theorem Zvt (sz id off len fr:Nat) (full:Bool):idOf (.sl sz id off len fr full)=some id:=rfl
@[simp] theorem Zvu:idOf nilS=none:=rfl
def Gro {α:Type} (sz:Nat) (f:α→List AV) (h:Hp) (v:AV) (l:List α):Prop:=(l=[]∧v=nilS)∨(l≠[]∧∃k,v = .sl sz k 0 l.length l.length false∧h[k]? = some (.arr sz (l.map f) true false))
section
variable {α β:Type} {sz:Nat} {f:α→List AV} {h h':Hp} {v:AV} {l:List α}
theorem Gro.nil:Gro sz f h nilS [] := .inl ⟨rfl,rfl⟩
theorem Gro.keep (O:Gro sz f h v l) (hk:∀k o,idOf v=some k→h[k]? = some o→h'[k]? = some o):Gro sz f h' v l:=by
 rcases O with O | ⟨h1,k,rfl,h2⟩
 ·exact .inl O
 ·exact .inr ⟨h1,k,rfl,hk k _ rfl h2⟩
theorem Gro.app (O:Gro sz f h v l) (x:List AObj):Gro sz f (h++x) v l:=O.keep fun k o _ hk=>Z08 hk
theorem Gro.lt (O:Gro sz f h v l) {k:Nat} (hk:idOf v=some k):k<h.length:=by
 rcases O with ⟨_,rfl⟩ | ⟨h1,j,rfl,h2⟩
 ·simp at hk
 ·simp at hk;subst hk;exact (List.getElem?_eq_some_iff.1 h2).1
theorem Gro.len (O:Gro sz f h v l) (k:K β):lenK v k=k (I l.length):=by
 rcases O with ⟨rfl,rfl⟩ | ⟨h1,j,rfl,h2⟩<;>simp
theorem Gro.cvts (O:Gro sz f h v l) (hf:∀x st,(f x).all (fun c=>bif st then isS c else plain c)=true):∃w,(∀st,Go.AM.cvt st h v=some w)∧nrm (.l sz) w = .lst sz l.isEmpty (l.map f):=by
 rcases O with ⟨rfl,rfl⟩ | ⟨h1,k,rfl,h2⟩
 ·exact ⟨nilS,fun st=>rfl,rfl⟩
 ·have he:l.isEmpty=false:=by simpa using h1
  refine ⟨.lst sz false (l.map f),fun st=>Z0Y h2 (by simp) (by simp) (Z0U fun x=>hf x st), ?_⟩
  rw [he];rfl
theorem Gro.snoc (β:Type) (O:Gro sz f h v l) {by_ m:Nat} {z:α} {b:Bool} (hm:h[m]? = some (.arr sz [f z] true false)) (hv:idOf v≠some m) (hf:∀x ∈ z::l,(f x).length=sz) (hl:(l.length+1) * by_≤140737488355328):
  ∃v' h',(∀k:AV→Hp→Option β,effK (appE sz by_ v (.sl sz m 0 1 1 b) h h.length) h k=k v' h')∧Gro sz f h' v' (l++[z])∧h.length≤h'.length∧(∀j o,h[j]? = some o→idOf v≠some j→h'[j]? = some o)∧(idOf v'=idOf v∨idOf v'=some h.length):=by
 have hz:(f z).length=sz:=hf z (by simp)
 rcases O with ⟨rfl,rfl⟩ | ⟨h1,k,rfl,h2⟩
 ·have hb:by_≤140737488355328:=by simpa using hl
  refine ⟨.sl sz h.length 0 1 1 false,h++[.arr sz [f z] true false],fun k => ?_, .inr ⟨by simp,h.length,rfl,by simp⟩,by simp,fun j o hj _=>Z08 hj, .inr rfl⟩
  simp [appE,readSl,hm,hz,hb,effK,ap]
 ·have hkl:=(List.getElem?_eq_some_iff.1 h2).1
  refine ⟨.sl sz k 0 (l++[z]).length (l++[z]).length false,h.set k (.arr sz ((l++[z]).map f) true false),fun k' => ?_, .inr ⟨by simp,k,rfl,by simp [hkl]⟩,by simp,fun j o hj hn => ?_, .inl rfl⟩
  ·simp [appE,readSl,hm,h2,hz,hl,effK,ap]
  ·have hkj:k≠j:=by rintro rfl;exact hn rfl
   rw [List.getElem?_set_ne hkj];exact hj
end
theorem Zt1 {shp shr:List Sh} {F:Fun} {h:Hp} {args as' asl:List AV} {v:AV} {h0:Hp} (ha:cvts false h args=some as') (hn:nrms shp as'=nrms shp asl) (hp:plains asl=true) (hF:closedX shp shr F asl h0=some (v,h0)) (hs:scal v=true):closedX shp shr F args h=some (v,h):=by
 unfold closedX at hF ⊢
 rw [Z22 hp] at hF
 rw [ha]
 dsimp only at hF ⊢
 rw [hn]
 split at hF<;>try (simp at hF;done)
 rename_i w g hR
 split at hF<;>try (simp at hF;done)
 rename_i w' hw
 simp only [Option.some.injEq,Prod.mk.injEq] at hF
 obtain ⟨rfl, -⟩:=hF
 rw [hp,Bool.not_true] at hw
 have hw2:∀st,cvt st g w=some w':=fun st=>by
  cases st with
  | false=>exact hw
  | true=>exact Ze9 hw (Zjo hs)
 rw [hw2]
end Go.AM


namespace Go.AM
set_option linter.unusedVariables false
variable {α β:Type} {sz:Nat} {enc:α→List AV} {h:Hp}
structure Part (enc:α→List AV) (h:Hp) (p:AV × List α):Prop where
 read:readSl h p.1=some (p.2.map enc)
 len:lenK p.1 some=some (I p.2.length)
theorem Part.lenK {p:AV × List α} (q:Part enc h p) (k:K β):Go.AM.lenK p.1 k=k (I p.2.length):=by rw [ZcJ,q.len];rfl
theorem Part.app {p:AV × List α} (q:Part enc h p) (g:List AObj):Part enc (h++g) p:=⟨Zb9 q.read fun id _ o ho=>Z08 ho,q.len⟩
theorem Part.nil:Part enc h (nilS,[]):=⟨rfl,rfl⟩
theorem Part.lst (sz:Nat) (b:Bool) (l:List α):Part enc h (.lst sz b (l.map enc),l):=⟨rfl,by simp⟩
theorem Part.sl {sz id n:Nat} {b nl:Bool} {l:List α} (hid:h[id]? = some (.arr sz (l.map enc) true nl)) (hn:l.length=n):Part enc h (.sl sz id 0 n n b,l):=by
 subst hn
 have ht:(l.map enc).take l.length=l.map enc:=List.take_of_length_le (by simp)
 exact ⟨by simp [readSl,hid,ht],by simp⟩
def flat (ps:List (AV × List α)):List α:=ps.flatMap (·.2)
theorem Zt2 {n:Nat} {b:Bool} {l:List α} (hn:n≤l.length) (k:K β):sliceK sz (.lst sz b (l.map enc)) none (some (I n)) none k=k (.lst sz b ((l.take n).map enc)):=by
 simp only [sliceK,boundOr,List.length_map,Int.toNat_natCast]
 rw [if_pos (by omega)]
 simp only []
 rw [if_pos ⟨trivial,by omega,hn,by omega,by simp⟩]
 rw [List.drop_zero,Nat.sub_zero,List.map_take]
end Go.AM
namespace Go.AM
def notBehind {α:Type} (bef:α→α→Bool):Option α→α→Bool
 | some q,p => !bef q p
 | none,_=>false
@[simp] theorem Zvv {α:Type} (bef:α→α→Bool) (q p:α):notBehind bef (some q) p = !bef q p:=rfl
@[simp] theorem Zvw {α:Type} (bef:α→α→Bool) (p:α):notBehind bef none p=false:=rfl
end Go.AM


namespace Go.AM
set_option linter.unusedVariables false
set_option linter.unusedSimpArgs false
section
variable {β:Type}
def Grm {α:Type} (sz:Nat) (f:α→List AV) (h:Hp) (v:AV) (l:List α):Prop:=∃k b,v = .sl sz k 0 l.length l.length b∧h[k]? = some (.arr sz (l.map f) true false)∧(b=true→l=[])
theorem Grm.keep {α:Type} {sz:Nat} {f:α→List AV} {h h':Hp} {v:AV} {l:List α} (O:Grm sz f h v l) (hk:∀k o,idOf v=some k→h[k]? = some o→h'[k]? = some o):Grm sz f h' v l:=by
 obtain ⟨k,b,rfl,h2,h3⟩:=O
 exact ⟨k,b,rfl,hk k _ rfl h2,h3⟩
theorem Grm.app {α:Type} {sz:Nat} {f:α→List AV} {h:Hp} {v:AV} {l:List α} (O:Grm sz f h v l) (x:List AObj):Grm sz f (h++x) v l:=O.keep fun k o _ hk=>Z08 hk
theorem Grm.lt {α:Type} {sz:Nat} {f:α→List AV} {h:Hp} {v:AV} {l:List α} (O:Grm sz f h v l):∃k,idOf v=some k∧k<h.length:=by
 obtain ⟨k,b,rfl,h2,h3⟩:=O
 exact ⟨k,rfl,(List.getElem?_eq_some_iff.1 h2).1⟩
theorem Grm.cvt {α:Type} {sz:Nat} {f:α→List AV} {h:Hp} {v:AV} {l:List α} (O:Grm sz f h v l) (hf:∀x st,(f x).all (fun c=>bif st then isS c else plain c)=true) (st:Bool):Go.AM.cvt st h v=some (.lst sz false (l.map f)):=by
 obtain ⟨k,b,rfl,h2,h3⟩:=O
 exact Z0Y h2 (by simp) (by simp) (Z0U fun x=>hf x st)
theorem Grm.len {α:Type} {sz:Nat} {f:α→List AV} {h:Hp} {v:AV} {l:List α} (O:Grm sz f h v l) (k:Go.AM.K β):lenK v k=k (I l.length):=by
 obtain ⟨j,b,rfl,h2,h3⟩:=O
 simp
end
end Go.AM

