import Derived.Test.YtfpkacmgcaojlaaGreatG5
import Derived.Below
import Derived.ChangeOld
import Derived.Carry
import Derived.OpenShut
set_option linter.unusedSectionVars false
set_option linter.unusedVariables false
set_option linter.unusedSimpArgs false
set_option linter.constructorNameAsVariable false
set_option maxRecDepth 100000
noncomputable section
namespace Go.AM
open Go.RowKit
def mu0(w:World):Mu:=⟨λ_ => .virt none,w,λk=>k<w.heap.size⟩
theorem rel0(w:World):Rel (mu0 w) [] w where
 obj:=λid o h=>by simp at h
 sep:=λi j o p b x c y d h=>by simp at h
 apart:=λi sz es nil b x c h=>by simp at h
 imm:=λk hk=>⟨hk,rfl,λ⟨id,o,off,c,h,_⟩=>by simp at h⟩
theorem own0(w:World)(b:Nat):¬Own (mu0 w) [] b:=λ⟨id,o,off,c,h,_⟩=>by simp at h
theorem below0{w w':World}{μ':Mu}{h':Hp}(s:Step (mu0 w) [] w μ' h' w'):Below w.heap.size w w':=
 ⟨s.frame.os,s.frame.tape,s.frame.output,s.frame.size,λk hk=>s.frame.block k hk (own0 w k)⟩
theorem row_calls{P:Program}{f:FuncId}{F:Fun}{args:List AV}{h':Hp}{b:Bool}{W:World}{cargs:Array Value}(hc:CSound P f F)(hF:F args []=some (.s (.bool b),h'))(hv:VRs (mu0 W) [] args cargs.toList):
  Calls P f cargs W λe W'=>e = .returned (.bool b)∧Below W.heap.size W W':=by
 refine (hc args [] _ h' hF (mu0 W) W cargs (rel0 W) hv).2.mono λe W' => ?_
 rintro ⟨cv,μ',rfl,s,hr⟩
 simp only[VR] at hr;exact ⟨by rw[hr.2],below0 s⟩

inductive Ty where
 | int (k:IntKind)
 | bool
 | str
 | sl (e:List Ty)
def tyFs(f:TypeId→Option (List Ty))(size:TypeId→Nat):List Field→Nat→Option (List Ty)
 | [],_=>some []
 | x::l,pos=>match f x.type,tyFs f size l (pos+size x.type) with
  | some a,some b=>if x.offset=pos∧a.length=size x.type then some (a++b) else none
  | _,_=>none
def tyOf(P:Program):Nat→TypeId→Option (List Ty)
 | 0,_=>none
 | n+1,t=>match P.underlying t with
  | some .bool=>some [.bool]
  | some (.int k)=>some [.int k]
  | some .string=>some [.str]
  | some (.slice e)=>match tyOf P n e with
   | some l=>if l.length=P.cellsOf e∧0<l.length then some [.sl l] else none
   | none=>none
  | some (.struct fs)=>match tyFs (tyOf P n) P.cellsOf fs.toList 0 with
   | some l=>if l.length=P.cellsOf t then some l else none
   | none=>none
  | some (.array m e)=>match tyOf P n e with
   | some l=>if l.length=P.cellsOf e∧m * P.cellsOf e=P.cellsOf t then some (List.replicate m l).flatten else none
   | none=>none
  | _=>none
mutual
def HasT:Ty→AV→Prop
 | .int k,a=>∃n,a = .s (.int k n)∧(Lit.int k n).wf=true
 | .bool,a=>∃b,a = .s (.bool b)
 | .str,a=>∃s:ByteArray,a = .s (.string s)∧s.size≤maxLen
 | .sl ts,a=>∃nil es,a = .lst ts.length nil es∧(nil=true→es=[])∧es.length≤maxLen∧∀e ∈ es,HasTs ts e
def HasTs:List Ty→List AV→Prop
 | [],asl=>asl=[]
 | t::ts,asl=>∃a as',asl=a::as'∧HasT t a∧HasTs ts as'
end
theorem HasTs.app:∀{ts us:List Ty}{asl bs:List AV},HasTs ts asl→HasTs us bs→HasTs (ts++us) (asl++bs)
 | [],us,asl,bs,h,k=>by simp only[HasTs] at h;subst h;exact k
 | t::ts,us,asl,bs,h,k=>by
  simp only[HasTs] at h;obtain ⟨a,as',rfl,h1,h2⟩:=h
  simp only[List.cons_append,HasTs];exact ⟨a,_,rfl,h1,HasTs.app h2 k⟩
theorem HasTs.len:∀{ts:List Ty}{asl:List AV},HasTs ts asl→asl.length=ts.length
 | [],asl,h=>by simp only[HasTs] at h;subst h;rfl
 | t::ts,asl,h=>by
  simp only[HasTs] at h;obtain ⟨a,as',rfl,h1,h2⟩:=h
  simp[HasTs.len h2]
theorem HasT.ok:∀{t:Ty}{a:AV},HasT t a→okC a=true
 | .int k,a,h=>by simp only[HasT] at h;obtain ⟨n,rfl,_⟩:=h;rfl
 | .bool,a,h=>by simp only[HasT] at h;obtain ⟨n,rfl⟩:=h;rfl
 | .str,a,h=>by simp only[HasT] at h;obtain ⟨n,rfl,_⟩:=h;rfl
 | .sl ts,a,h=>by simp only[HasT] at h;obtain ⟨n,es,rfl,_⟩:=h;rfl
theorem HasTs.ok:∀{ts:List Ty}{asl:List AV},HasTs ts asl→∀x ∈ asl,okC x=true
 | [],asl,h,x,hx=>by simp only[HasTs] at h;subst h;simp at hx
 | t::ts,asl,h,x,hx=>by
  simp only[HasTs] at h;obtain ⟨a,as',rfl,h1,h2⟩:=h
  rcases List.mem_cons.1 hx with rfl | hx
  ·exact h1.ok
  ·exact h2.ok x hx
theorem Zeq{μ:Mu}{h:Hp}:∀{asl bs:List AV}{cs ds:List Value},VRs μ h asl cs→VRs μ h bs ds→VRs μ h (asl++bs) (cs++ds)
 | [],bs,cs,ds,h1,h2=>by simp only[VRs] at h1;subst h1;exact h2
 | a::asl,bs,cs,ds,h1,h2=>by
  simp only[VRs] at h1;obtain ⟨v,vs,rfl,h3,h4⟩:=h1
  simp only[List.cons_append,VRs];exact ⟨v,_,rfl,h3,Zeq h4 h2⟩
section
variable {H:Type} {enc:TypeId × Value→H} {P:Program} {w:World} {base:Nat} {spare:Nat→Bool} {held:Bool}
def Opened(w:World)(ts:List Ty)(cs:List Value):Prop:=∃asl,HasTs ts asl∧VRs (mu0 w) [] asl cs∧∀u ∈ cs,u.oneCell'=true
theorem Z46{t:Ty}{u:Value}{a:AV}(h1:HasT t a)(h2:VR (mu0 w) [] a u)(h3:u.oneCell'=true):Opened w [t] [u]:=
 ⟨[a],by simp only[HasTs];exact ⟨a,[],rfl,h1,rfl⟩,by simp only[VRs];exact ⟨u,[],rfl,h2,rfl⟩,by simpa using h3⟩
theorem ZlZ{f:TypeId→Option (List Ty)}{g:TypeId→List Value→Prop}{cs:List Value}(hg:∀t ts cs',f t=some ts→g t cs'→Opened w ts cs'):∀(l:List Field)(pos:Nat)(ts:List Ty),tyFs f P.cellsOf l pos=some ts→
  (∀x ∈ l,g x.type ((cs.drop x.offset).take (P.cellsOf x.type)))→Opened w ts ((cs.drop pos).take ts.length)
 | [],pos,ts,h,_=>by
  simp only[tyFs,Option.some.injEq] at h;subst h
  exact ⟨[],rfl,rfl,by simp⟩
 | x::l,pos,ts,h,hx=>by
  simp only[tyFs] at h;split at h
  ·rename_i a b h1 h2
   split at h
   ·rename_i hc
    simp only[Option.some.injEq] at h;subst h
    obtain ⟨h3,h4⟩:=hc;obtain ⟨asl,p1,p2,p3⟩:=hg _ _ _ h1 (hx x (by simp))
    obtain ⟨bs,q1,q2,q3⟩:=ZlZ hg l _ b h2 (λy hy=>hx y (by simp[hy]))
    have e:(cs.drop pos).take (a++b).length=(cs.drop x.offset).take (P.cellsOf x.type)++(cs.drop (pos+P.cellsOf x.type)).take b.length:=by
     rw[List.length_append,h4,h3, ← List.drop_drop,List.take_add]
    rw[e];refine ⟨asl++bs,p1.app q1,Zeq p2 q2, ?_⟩
    intro u hu;rcases List.mem_append.1 hu with hu | hu
    ·exact p3 u hu
    ·exact q3 u hu
   ·simp at h
  ·simp at h
theorem Zm0{ts:List Ty}{sz:Nat}{cs:List Value}:∀(n i0:Nat),(∀i,i<n→Opened w ts ((cs.drop ((i0+i) * sz)).take sz))→Opened w (List.replicate n ts).flatten ((cs.drop (i0 * sz)).take (n * sz))
 | 0,i0,_=>⟨[],rfl,by simp[VRs],by simp⟩
 | n+1,i0,h=>by
  obtain ⟨asl,p1,p2,p3⟩:=h 0 (by omega)
  obtain ⟨bs,q1,q2,q3⟩:=Zm0 n (i0+1) (λi hi=>by have:=h (i+1) (by omega);rwa [show i0+(i+1)=i0+1+i by omega] at this)
  have e:(cs.drop (i0 * sz)).take ((n+1) * sz)=(cs.drop (i0 * sz)).take sz++(cs.drop ((i0+1) * sz)).take (n * sz):=by
   rw[show (n+1) * sz=sz+n * sz by rw[Nat.add_mul];omega,show (i0+1) * sz=i0 * sz+sz by rw[Nat.add_mul];omega, ← List.drop_drop,List.take_add]
  rw[e,List.replicate_succ,List.flatten_cons];refine ⟨asl++bs,p1.app q1,Zeq p2 q2, ?_⟩
  intro u hu;rcases List.mem_append.1 hu with hu | hu
  ·exact p3 u hu
  ·exact q3 u hu
theorem Zm1{ts:List Ty}{sz b:Nat}(hts:ts.length=sz):∀(n o:Nat),(∀i,i<n→∃cs,Opened w ts cs∧cs.length=sz∧∀j u,cs[j]? = some u→w.cell? ⟨b,o+i * sz+j,none⟩=some u)→
  ∃es vs,es.length=n∧(∀e ∈ es,HasTs ts e)∧VRf (mu0 w) [] es vs∧∀j u,vs[j]? = some u→w.cell? ⟨b,o+j,none⟩=some u∧u.oneCell'=true
 | 0,o,h=>⟨[],[],rfl,by simp,rfl,by simp⟩
 | n+1,o,h=>by
  obtain ⟨cs,⟨asl,h1,h2,h3⟩,h4,h5⟩:=h 0 (by omega)
  obtain ⟨es,vs,k1,k2,k3,k4⟩:=Zm1 hts n (o+sz) (λi hi=>by
   obtain ⟨cs',q1,q2,q3⟩:=h (i+1) (by omega)
   refine ⟨cs',q1,q2,λj u hu => ?_⟩
   rw[← q3 j u hu];congr 2
   rw[Nat.add_mul];omega)
  refine ⟨asl::es,cs++vs,by simp[k1], ?_, ?_, ?_⟩
  ·intro e he
   rcases List.mem_cons.1 he with rfl | he
   ·exact h1
   ·exact k2 e he
  ·simp only[VRf];exact ⟨cs,vs,rfl,h2,k3⟩
  ·intro j u hj
   by_cases hlt:j<cs.length
   ·rw[List.getElem?_append_left hlt] at hj
    have:=h5 j u hj
    exact ⟨by simpa using this,h3 u (List.mem_of_getElem? hj)⟩
   ·rw[List.getElem?_append_right (by omega)] at hj
    have:=k4 _ _ hj
    rw[show o+sz+(j-cs.length)=o+j by omega] at this
    exact this
theorem ZDr{a:Addr}{v:Value}(h:w.cell? a=some v):a.block<w.heap.size:=by
 rcases Nat.lt_or_ge a.block w.heap.size with h1 | h1
 ·exact h1
 ·have:w.heap[a.block]? = none:=by simpa using h1
  simp[World.cell?,this] at h
theorem Z6I:∀(fuel n:Nat)(t:TypeId)(ts:List Ty)(cs:List Value)(x:DataW H × List MemPlace),tyOf P n t=some ts→DataW.trod enc P w base spare held fuel t cs=some x→Opened w ts cs
 | 0,n,t,ts,cs,x,_,h=>by simp[DataW.trod] at h
 | fuel+1,0,t,ts,cs,x,h0,_=>by simp[tyOf] at h0
 | fuel+1,n+1,t,ts,cs,x,h0,h=>by
  unfold tyOf at h0;cases hu:P.underlying t with
  | none=>rw[hu] at h0;simp at h0
  | some T=>
   rw[hu] at h0;cases T with
   | bool=>
    simp only[Option.some.injEq] at h0;subst h0
    obtain ⟨b,rfl,_⟩:=DataW.trod_bool hu h;exact Z46 (a := .s (.bool b)) (by simp[HasT]) (by simp[VR,gv]) rfl
   | int k=>
    simp only[Option.some.injEq] at h0;subst h0
    obtain ⟨m,rfl,_,hw⟩:=DataW.trod_int hu h;exact Z46 (a := .s (.int k m)) (by simp[HasT,hw]) (by simp[VR,gv]) rfl
   | string=>
    simp only[Option.some.injEq] at h0;subst h0
    obtain ⟨s,rfl,_,hs⟩:=DataW.trod_string hu h;exact Z46 (a := .s (.string s)) (by simp[HasT,hs]) (by simp[VR,gv]) rfl
   | slice e=>
    simp only at h0
    cases he:tyOf P n e with
    | none=>rw[he] at h0;simp at h0
    | some l=>
     rw[he] at h0;simp only at h0
     split at h0
     ·rename_i hl
      simp only[Option.some.injEq] at h0;subst h0
      rcases DataW.trod_slice hu h with ⟨rfl,_⟩ | ⟨a,len,cap,elems,rest,m,hm,rfl,_,hb,h1,h2,h3,h4,_,_⟩
      ·refine Z46 (a := .lst l.length true []) ?_ ?_ rfl
       ·simp only[HasT];exact ⟨true,[],rfl,λ_=>rfl,by simp,by simp⟩
       ·simp only[VR]
        exact ⟨none,0,rfl,by simp,by simp,rfl,λ_=>rfl,by simp,by simp⟩
      ·have hm':m=fuel:=by omega
       subst hm'
       have cell:∀i,i<len→∃cs,Opened w l cs∧cs.length=P.cellsOf e∧∀j,j<P.cellsOf e→w.cell? ((a.add (i * P.cellsOf e)).add j)=cs[j]? := by
        intro i hi;have hi':=h4 i hi
        rw[List.getElem?_eq_getElem (by omega),Option.bind_eq_some_iff] at hi'
        obtain ⟨cs,q1,q2⟩:=hi';have q3:=World.cells?_some q1;exact ⟨cs,Z6I m n e l cs _ he q2,q3.2.1,q3.2.2⟩
       obtain ⟨b,off,spot⟩:=a
       have hsp:len≠0→spot=none:=λhn=>by
        obtain ⟨cs,_,q2,q3⟩:=cell 0 (by omega)
        have q4:=q3 0 (by omega)
        rw[List.getElem?_eq_getElem (by omega)] at q4
        simpa [Addr.add] using World.cell?_spot q4
       by_cases hn:len=0
       ·subst hn
        refine Z46 (a := .lst l.length false []) ?_ ?_ rfl
        ·simp only[HasT];exact ⟨false,[],rfl,λ_=>rfl,by simp,by simp⟩
        ·simp only[VR]
         exact ⟨_,cap,rfl,by simp,h2,rfl,by simp,by simp,by simp⟩
       ·have hs:=hsp hn
        subst hs
        obtain ⟨es,vs,k1,k2,k3,k4⟩:=Zm1 (w:=w) (ts:=l) (sz:=P.cellsOf e) (b:=b) hl.1 len off (λi hi=>by
         obtain ⟨cs,q1,q2,q3⟩:=cell i hi;refine ⟨cs,q1,q2,λj u hj => ?_⟩
         have hjl:=(List.getElem?_eq_some_iff.1 hj).1;have:=q3 j (by omega)
         rw[hj] at this;rw[← this,Go.WideShapes.add_plain,Go.WideShapes.add_plain])
        refine Z46 (a := .lst l.length false es) ?_ ?_ rfl
        ·simp only[HasT];exact ⟨false,es,rfl,by simp,by omega,k2⟩
        ·simp only[VR]
         refine ⟨_,cap,by rw[k1],by omega,h2,rfl,by simp,λe' he'=>⟨(k2 e' he').len,(k2 e' he').ok⟩,λ_=>⟨b,off,vs,rfl, ?_,k3,k4⟩⟩
         obtain ⟨cs,q1,q2,q3⟩:=cell 0 (by omega)
         have q4:=q3 0 (by omega)
         rw[List.getElem?_eq_getElem (by omega)] at q4
         show b<w.heap.size;rw[Go.WideShapes.add_plain,Go.WideShapes.add_plain] at q4;exact ZDr q4
     ·simp at h0
   | struct fs=>
    simp only at h0
    cases he:tyFs (tyOf P n) P.cellsOf fs.toList 0 with
    | none=>rw[he] at h0;simp at h0
    | some l=>
     rw[he] at h0;simp only at h0
     split at h0
     ·rename_i hl
      simp only[Option.some.injEq] at h0;subst h0
      obtain ⟨xs,m,hm,_,h2,h3,h4⟩:=DataW.trod_struct hu h;have hm':m=fuel:=by omega
      subst hm'
      have:=ZlZ (w:=w) (P:=P) (f:=tyOf P n) (g:=λt cs'=>∃y,DataW.trod enc P w base spare held m t cs'=some y) (cs:=cs) (λt ts cs' q1 ⟨y,q2⟩=>Z6I m n t ts cs' y q1 q2) fs.toList 0 l he (λy hy=>by
       obtain ⟨i,hi⟩:=List.getElem?_of_mem hy;have hi2:fs[i]? = some y:=by simpa using hi
       have:=h4 i y hi2
       have hlt:i<xs.length:=by rw[h3];exact (Array.getElem?_eq_some_iff.1 hi2).1
       rw[List.getElem?_eq_getElem hlt] at this;exact ⟨_,this⟩)
      rw[List.drop_zero,hl, ← h2,List.take_length] at this;exact this
     ·simp at h0
   | array k e=>
    simp only at h0
    cases he:tyOf P n e with
    | none=>rw[he] at h0;simp at h0
    | some l=>
     rw[he] at h0;simp only at h0
     split at h0
     ·rename_i hl
      simp only[Option.some.injEq] at h0;subst h0
      obtain ⟨xs,m,hm,_,h2,h3,h4⟩:=DataW.trod_array hu h;have hm':m=fuel:=by omega
      subst hm'
      have:=Zm0 (w:=w) (ts:=l) (sz:=P.cellsOf e) (cs:=cs) k 0 (λi hi=>by
       have h5:=h4 i hi;rw[List.getElem?_eq_getElem (by omega)] at h5
       have h6:=Z6I m n e l _ _ he h5
       rwa [Nat.zero_add])
      rw[Nat.zero_mul,List.drop_zero,hl.2, ← h2,List.take_length] at this;exact this
     ·simp at h0
   | _=>simp at h0
theorem open_array{t:TypeId}{m:Nat}{e:TypeId}{r:Reach}{b:Nat}{v:Value}{d:DataW H}{ps:List MemPlace}{n:Nat}{ts:List Ty}(hu:P.underlying t=some (.array m e))(ht:tyOf P n t=some ts)(hval:Value.okWide P w r b t v)
  (hd:DataW.Trod enc P w base spare held t v d ps):∃asl,HasTs ts asl∧VR (mu0 w) [] (.agg asl) v:=by
 have:∃cs,v = .agg cs:=by
  simp only[Value.okWide,hu] at hval;obtain ⟨cs,h1,_⟩:=hval
  exact ⟨cs,h1⟩
 obtain ⟨cs,rfl⟩:=this;obtain ⟨fuel,hf⟩:=hd;obtain ⟨asl,h1,h2,_⟩:=Z6I fuel n t ts _ _ ht hf;exact ⟨asl,h1,by simp only[VR];exact ⟨cs,rfl,h2⟩⟩
theorem open_cell{t:TypeId}{v:Value}{d:DataW H}{ps:List MemPlace}{n:Nat}{ty:Ty}(hv:v.cells = #[v])(ht:tyOf P n t=some [ty])(hd:DataW.Trod enc P w base spare held t v d ps):∃a,HasT ty a∧VR (mu0 w) [] a v:=by
 obtain ⟨fuel,hf⟩:=hd;rw[hv] at hf;obtain ⟨asl,h1,h2,_⟩:=Z6I fuel n t [ty] _ _ ht hf;simp only[HasTs] at h1;obtain ⟨a,as',rfl,h1,rfl⟩:=h1;simp only[VRs] at h2;obtain ⟨v',vs',h3,h4,_⟩:=h2;simp at h3;exact ⟨a,h1,by rw[h3.1];exact h4⟩
end
theorem ZDs{α:Type}{ts:List Ty}{f:α→List AV}(hf:∀cs,HasTs ts cs→∃x,cs=f x){a:AV}(h:HasT (.sl ts) a):∃(l:List α)(b:Bool),a = .lst ts.length (b&&l.isEmpty) (l.map f):=by
 simp only[HasT] at h;obtain ⟨nil,es,rfl,hn,hm,he⟩:=h
 have:∃l:List α,es=l.map f:=by
  clear hn hm;induction es with
  | nil=>exact ⟨[],rfl⟩
  | cons e es ih=>
   obtain ⟨x,hx⟩:=hf e (he e (by simp))
   obtain ⟨l,hl⟩:=ih (λe' h'=>he e' (by simp[h']))
   exact ⟨x::l,by simp[hx,hl]⟩
 obtain ⟨l,rfl⟩:=this;refine ⟨l,nil, ?_⟩;cases nil with
 | false=>rfl
 | true=>
  have:l=[]:=by simpa using hn rfl
  subst this;rfl
end Go.AM


namespace Go.AM
open Go.Proofs
attribute [local congr] Z0w Z0x Z0y Z0z Z0A Z0B Z0C Z0D Z0E Z0F Z0G Z0H Z0I Z0J Z0K Z0L Z0M Z0N Z0O Z0P Z0Q Z0R Z0S Z0T Z0U Z0V Z0W
theorem ZDt{cs:List AV}(h:HasTs [.int .i64,.int .i64,.int .i64,.int .i64] cs):∃p:Fnd,cs=encF p:=by
 simp only[HasTs,HasT] at h;obtain ⟨_,_,rfl,⟨a,rfl,_⟩,_,_,rfl,⟨b,rfl,_⟩,_,_,rfl,⟨c,rfl,_⟩,_,_,rfl,⟨d,rfl,_⟩,rfl⟩:=h
 exact ⟨⟨a,b,c,d⟩,rfl⟩
theorem has_Fnds{a:AV}(h:HasT (.sl [.int .i64,.int .i64,.int .i64,.int .i64]) a):∃(l:List Fnd)(b:Bool),a=SL 4 encF b l:=ZDs (λ_ h=>ZDt h) h
theorem has_Lim{cs:List AV}(h:HasTs [.int .i64,.int .i64] cs):∃p:Int × Int,cs=[I p.1,I p.2]:=by
 simp only[HasTs,HasT] at h;obtain ⟨_,_,rfl,⟨a,rfl,_⟩,_,_,rfl,⟨b,rfl,_⟩,rfl⟩:=h
 exact ⟨⟨a,b⟩,rfl⟩
theorem ZDu{shp shr:List Sh}{F:Fun}{args:List AV}{v:AV}{h h1:Hp}(ha:plains args=true)(hF:closedX shp shr F args h=some (v,h1))(h':Hp):closedX shp shr F args h'=some (v,h'):=by
 unfold closedX at hF ⊢
 rw[Z1P ha] at hF ⊢
 dsimp only at hF ⊢
 cases q:F (nrms shp args) [] with
 | none=>rw[q] at hF;cases hF
 | some p=>
  rw[q] at hF;dsimp only at hF ⊢
  cases q2:cvt (!plains args) p.2 p.1 with
  | none=>rw[q2] at hF;cases hF
  | some w=>
   rw[q2] at hF;injection hF with hF
   injection hF with h1 h2;rw[← h1]
theorem Zm2{c:Bool}{id k:Int}(h:k≠id)(l:List Fnd):ownF c k (remF c id l)=ownF c k l:=by
 unfold ownF remF;rw[List.filter_filter]
 congr 1
 apply List.filter_congr
 intro x _;by_cases q:ofF c x=k
 ·have:ofF c x≠id:=λhh=>h (by rw[← q,hh])
  simp[q,h]
 ·simp[q]
theorem Zm3{c:Bool}{id:Int}{l:List Fnd}{x:Fnd}(h:x ∈ remF c id l):x ∈ l∧ofF c x≠id:=by
 unfold remF at h;rw[List.mem_filter] at h
 exact ⟨h.1,by simpa using h.2⟩
theorem of_ok{l:List Fnd}(hr:rightF l=true){x:Fnd}(hx:x ∈ l):ofS l 2 x.clerk=(ownF false x.clerk l,othF false x.clerk l,0):=by
 unfold ofS;rw[hr,if_neg (by simp),show whoB 2=some false from rfl]
 show (if ownF false x.clerk l=[] then _ else _)=_
 rw[if_neg (λhh:ownF false x.clerk l=[]=>ZCR.1 hh x hx rfl)]
theorem ZDv(l:List Fnd)(b:Bool)(hl:l.length≤14)(h:Hp):Z3Y [.lst 4 b (l.map encF)] h=some (B true,h):=by
 refine ZAo (a0 := .lst 4 b (l.map encF)) rfl ?_ h;rw[show nrm (.l 4) (.lst 4 b (l.map encF)) = .lst 4 b (l.map encF) from rfl];have ln:∀k:KV,lenK (.lst 4 b (l.map encF)) k=k (I l.length):=λk=>by rw[Z0b,List.length_map]
 have c:(l.length:Int)≤14:=by omega
 simp -implicitDefEqProofs only[Z7a,ln,Z74,c,decide_true,Zb6]
 rfl
theorem ZDw{x0:Hp→Option AV}{xr:Kb AV}{l:List Int}{p q:Bool}(hl:l.length<1000000)(h:Hp):∀(n:Nat)(pre post:List Int),l=pre++post→post.length<n→
  Z2a Tryz.prog Z2m Z2l NN x0 xr n (lsz p l) (lsz q l) (I l.length) (I pre.length) h=x0 h:=by
 intro n;induction n with
 | zero=>intro pre post _ h2;omega
 | succ n ih=>
  intro pre post hc hn;show Z3m Tryz.prog Z2m Z2l NN (Z2a Tryz.prog Z2m Z2l NN x0 xr n) x0 xr _ _ _ _ h=_
  cases post with
  | nil=>
   have:l=pre:=by simpa using hc
   subst this;have c1:¬((l.length:Int)<(l.length:Int)):=by omega
   simp -implicitDefEqProofs only[Z3m,Z05,c1,decide_false,Z02,Bool.false_eq_true,if_false]
  | cons x post=>
   have hx:l[pre.length]? = some x:=by rw[hc];simp
   have hi:pre.length<l.length:=by rw[hc];simp
   have hlt:((pre.length:Int)<(l.length:Int)):=by omega
   have hw:IntKind.i64.wrap ((pre.length:Int)+1)=(((pre++[x]).length:Nat):Int):=by rw[wrap64 (by omega) (by omega)];simp
   have ip:∀k:KV,iaK 1 (lsz p l) (I pre.length) k=k (.ep (enL x) 0):=λk=>Z0s pre.length rfl hx k
   have iq:∀k:KV,iaK 1 (lsz q l) (I pre.length) k=k (.ep (enL x) 0):=λk=>Z0s pre.length rfl hx k
   have ld:∀k:KV,ldK 1 false (.ep (enL x) 0) h k=k (I x):=λk=>rfl
   simp -implicitDefEqProofs only[Z3m,Z05,hlt,decide_true,Z02,if_true,ip,iq,ld,Z04,beq_self_eq_true,Bool.true_xor,Bool.not_true,Bool.false_eq_true,if_false,Z08,hw]
   exact ih (pre++[x]) post (by simpa using hc) (by simpa using hn)
theorem F_eqS(l:List Int)(p q:Bool)(hl:l.length<1000000)(h:Hp):Z1s [lsz p l,lsz q l] h=some (B true,h):=by
 refine Zsd (a0:=lsz p l) (a1:=lsz q l) rfl ?_ h;rw[show nrm (.l 1) (lsz p l)=lsz p l from rfl,show nrm (.l 1) (lsz q l)=lsz q l from rfl];have lp:∀k:KV,lenK (lsz p l) k=k (I l.length):=λk=>by rw[Z0b,List.length_map]
 have lq:∀k:KV,lenK (lsz q l) k=k (I l.length):=λk=>by rw[Z0b,List.length_map]
 simp -implicitDefEqProofs only[Z2b,lp,lq,Z04,beq_self_eq_true,Bool.true_xor,Bool.not_true,Z02,Bool.false_eq_true,if_false]
 exact (ZDw hl [] NN [] l rfl (by have:=NN_ge;omega)).trans rfl
theorem cl11{x:Fnd}{who:Int}{n:Nat}{h:Hp}(hn:h[n]? = some (.arr 1 [[I who]] true false)):Z38 [.agg (encF x),.ptr n 0 0 1] h=some (B (x.clerk==who),h):=by
 refine ZBw (g:=[.arr 4 [encF x] true false]) ?_ rfl;obtain ⟨y,hy⟩:∃y,y=h++[AObj.arr 4 [encF x] true false]:=⟨_,rfl⟩;rw[← hy];have bx:∀k:AV→Hp→Option (AV × Hp),effK (boxE 4 (.agg (encF x)) h.length) h k=k (.ptr h.length 0 0 1) y:=λk=>by rw[hy];exact Z0Y 4 h.length _ h k rfl rfl rfl
 have yn:y[n]? = some (.arr 1 [[I who]] true false):=by rw[hy];exact Z07 hn
 have yb:y[h.length]? = some (.arr 4 [encF x] true false):=by rw[hy,Z0n];rfl
 have l1:∀k:Go.AM.K (AV × Hp),ldK 1 false (.ptr n 0 0 1) y k=k (I who):=λk=>by rw[Z0d,yn];rfl
 have l2:∀k:Go.AM.K (AV × Hp),ldK 1 false (.ptr h.length 0 2 1) y k=k (I x.clerk):=λk=>by rw[Z0d,yb];rfl
 simp -implicitDefEqProofs only[Z7i,bx,Z0m,Nat.zero_add,l2,l1,Z04,Bool.false_xor]
theorem cl1F{w:List Fnd}{b:Bool}{who:Int}{n:Nat}{h:Hp}(hw:w.length<1000000)(hn:h[n]? = some (.arr 1 [[I who]] true false))(hx:∃x ∈ w,x.clerk=who):Z6B [SLf b w,.fn 15 [.ptr n 0 0 1]] h=some (B true,h):=by
 have fi:Z6z [SLf b w,.fn 15 [.ptr n 0 0 1]] h=some (I (match w.findIdx? (λm=>m.clerk==who) with | some j=>(j:Int) | none => -1),h):=
  ZBD (g:=[]) (by
   rw[List.append_nil];refine Zeg (l:=w) (p:=λm=>m.clerk==who) (by have:=NN_ge;omega) (by omega) (λk=>by rw[Z0b,List.length_map]) (λi x hx k => ?_) (λx hx k => ?_)
   ·rw[Z0s (f:=encF) i rfl hx];rfl
   ·show callK (Z41 15) [.agg (encF x),.ptr n 0 0 1] h k=_
    simp -implicitDefEqProofs only[ZBz,Z06,cl11 hn]) rfl
 obtain ⟨j,hj⟩:∃j,w.findIdx? (λm=>m.clerk==who)=some j:=by
  obtain ⟨x,hx1,hx2⟩:=hx
  have:(w.findIdx? (λm=>m.clerk==who)).isSome=true:=by
   rw[List.findIdx?_isSome,List.any_eq_true];exact ⟨x,hx1,by simp[hx2]⟩
  exact Option.isSome_iff_exists.1 this
 rw[hj] at fi;refine ZBK (g:=[]) ?_ rfl
 rw[List.append_nil];have c:((j:Nat):Int)≥0:=by omega
 simp -implicitDefEqProofs only[Z7h,ZBG,Z06,fi,Z75,c,decide_true]
theorem cl1{w:List Fnd}{b:Bool}{who clerk:Int}{h:Hp}(hw:w.length<1000000)(h0:h[0]? = some (.arr 1 [[I clerk]] true false))(h2:h[2]? = some (.arr 1 [[SLf b w]] true false))(hx:∃x ∈ w,x.clerk=who)(hne:who≠clerk):Z39 [I who,.ptr 0 0 0 1,.ptr 2 0 0 1] h=some (B false,h):=by
 refine ZBQ (g:=[.arr 1 [[I who]] true false]) ?_ rfl;obtain ⟨y,hy⟩:∃y,y=h++[AObj.arr 1 [[I who]] true false]:=⟨_,rfl⟩;rw[← hy];have bx:∀k:AV→Hp→Option (AV × Hp),effK (boxE 1 (I who) h.length) h k=k (.ptr h.length 0 0 1) y:=λk=>by rw[hy];exact Z0Y 1 h.length _ h k rfl rfl rfl
 have y0:y[0]? = some (.arr 1 [[I clerk]] true false):=by rw[hy];exact Z07 h0
 have y2:y[2]? = some (.arr 1 [[SLf b w]] true false):=by rw[hy];exact Z07 h2
 have yb:y[h.length]? = some (.arr 1 [[I who]] true false):=by rw[hy,Z0n];rfl
 have lb:∀k:Go.AM.K (AV × Hp),ldK 1 false (.ptr h.length 0 0 1) y k=k (I who):=λk=>by rw[Z0d,yb];rfl
 have l0:∀k:Go.AM.K (AV × Hp),ldK 1 false (.ptr 0 0 0 1) y k=k (I clerk):=λk=>by rw[Z0d,y0];rfl
 have l2:∀k:Go.AM.K (AV × Hp),ldK 1 false (.ptr 2 0 0 1) y k=k (SLf b w):=λk=>by rw[Z0d,y2];rfl
 have fc:=cl1F (b:=b) hw yb hx;have c:(who==clerk)=false:=by simp[hne]
 simp -implicitDefEqProofs only[Z7g,bx,lb,l0,Z04,Bool.false_xor,c,Z4n,l2,ZBN,Z06,fc,Z0q,Bool.not_true]
theorem ZDx{x0:Hp→Option (AV × Hp)}{xr:AV→Hp→Option (AV × Hp)}{T:Tab}{D:DTab}{l:List Int}{b:Bool}{fv:AV}{h:Hp}(hl:l.length<1000000)(hp:∀x ∈ l,∀k:AV→Hp→Option (AV × Hp),callVK T fv [I x] h k=k (B false) h):∀(n:Nat)(pre post:List Int),l=pre++post→post.length<n→
  Z2D Tryz.prog T D NN x0 xr n (lsz b l) fv (I l.length) (I pre.length) h=x0 h:=by
 intro n;induction n with
 | zero=>intro pre post _ h2;omega
 | succ n ih=>
  intro pre post hc hn;show Z4L Tryz.prog T D NN (Z2D Tryz.prog T D NN x0 xr n) x0 xr _ _ _ _ h=_
  cases post with
  | nil=>
   have:l=pre:=by simpa using hc
   subst this;have c1:¬((l.length:Int)<(l.length:Int)):=by omega
   simp -implicitDefEqProofs only[Z4L,Z05,c1,decide_false,Z02,Bool.false_eq_true,if_false]
  | cons x post=>
   have hx:l[pre.length]? = some x:=by rw[hc];simp
   have hi:pre.length<l.length:=by rw[hc];simp
   have hlt:((pre.length:Int)<(l.length:Int)):=by omega
   have hw:IntKind.i64.wrap ((pre.length:Int)+1)=(((pre++[x]).length:Nat):Int):=by rw[wrap64 (by omega) (by omega)];simp
   have ip:∀k:Go.AM.K (AV × Hp),iaK 1 (lsz b l) (I pre.length) k=k (.ep (enL x) 0):=λk=>Z0s pre.length rfl hx k
   have ld:∀k:Go.AM.K (AV × Hp),ldK 1 false (.ep (enL x) 0) h k=k (I x):=λk=>rfl
   have hq:=hp x (List.mem_iff_getElem?.2 ⟨_,hx⟩);simp -implicitDefEqProofs only[Z4L,Z05,hlt,decide_true,Z02,if_true,ip,ld,hq,Bool.false_eq_true,if_false,Z08,hw];exact ih (pre++[x]) post (by simpa using hc) (by simpa using hn)
theorem clS{s:List Int}{w:List Fnd}{b:Bool}{clerk:Int}{h:Hp}(hs:s.length<1000000)(hw:w.length<1000000)(h0:h[0]? = some (.arr 1 [[I clerk]] true false))(h2:h[2]? = some (.arr 1 [[SLf b w]] true false))(hx:∀who ∈ s,(∃x ∈ w,x.clerk=who)∧who≠clerk):Z6E [lstZ s,.fn 13 [.ptr 0 0 0 1,.ptr 2 0 0 1]] h=some (B false,h):=by
 have fi:Z6C [lstZ s,.fn 13 [.ptr 0 0 0 1,.ptr 2 0 0 1]] h=some (I (-1),h):=
  ZBX (g:=[]) (by
   rw[List.append_nil];have ln:∀k:Go.AM.K (AV × Hp),lenK (lstZ s) k=k (I s.length):=λk=>by rw[Z0b,List.length_map]
   simp -implicitDefEqProofs only[Z4M,ln]
   refine (ZDx (b:=s.isEmpty) hs (λx hx' k => ?_) NN [] s rfl (by have:=NN_ge;omega)).trans rfl
   show callK (Z43 13) [I x,.ptr 0 0 0 1,.ptr 2 0 0 1] h k=_;simp -implicitDefEqProofs only[ZBT,Z06,cl1 hw h0 h2 (hx x hx').1 (hx x hx').2]) rfl
 refine ZC4 (g:=[]) ?_ rfl;rw[List.append_nil];have c:¬((-1:Int)≥0):=by omega
 simp -implicitDefEqProofs only[Z7f,ZC0,Z06,fi,Z75,c,decide_false]
set_option maxHeartbeats 4000000 in
theorem ZDy{x0:AV→AV→Kb AV}{xr:Kb AV}{X:Option AV}{l w:List Fnd}{b b2:Bool}{clerk:Int}{v9:AV}(hl:l.length<1000)(hw:w=remF false clerk l)(r1:rightF l=true)(r2:rightF w=true)
  (hx:∀h,h[0]? = some (.arr 1 [[I clerk]] true false)→h[2]? = some (.arr 1 [[SLg b2 w]] true false)→x0 (.ptr 0 0 0 1) (.ptr 2 0 0 1) v9 h=X):∀(n:Nat)(pre post:List Fnd)(h:Hp),w=pre++post→post.length<n→h[0]? = some (.arr 1 [[I clerk]] true false)→h[2]? = some (.arr 1 [[SLg b2 w]] true false)→
  Z2w Tryz.prog Z0t Z0o NN x0 xr n (SLg b l) (.ptr 0 0 0 1) (.ptr 2 0 0 1) v9 (SLg b2 w) (I w.length) (I pre.length) h=X:=by
 have hwl:w.length≤l.length:=by rw[hw];exact List.length_filter_le _ _
 intro n;induction n with
 | zero=>intro pre post h _ h2;omega
 | succ n ih=>
  intro pre post h hc hn h0 h2;show Z4t Tryz.prog Z0t Z0o NN (Z2w Tryz.prog Z0t Z0o NN x0 xr n) x0 xr _ _ _ _ _ _ _ h=_
  cases post with
  | nil=>
   have e:w=pre:=by simpa using hc
   have c1:¬((w.length:Int)<(pre.length:Int)):=by rw[e];omega
   have c1:¬((pre.length:Int)<(w.length:Int)):=by rw[e];omega
   simp -implicitDefEqProofs only[Z4t,Z05,c1,decide_false,Z02,Bool.false_eq_true,if_false]
   exact hx h h0 h2
  | cons x post=>
   have hx:w[pre.length]? = some x:=by rw[hc];simp
   have hxw:x ∈ w:=List.mem_iff_getElem?.2 ⟨_,hx⟩;have hxr:x ∈ l∧x.clerk≠clerk:=Zm3 (c:=false) (by rw[hw] at hxw;exact hxw)
   have hi:pre.length<w.length:=by rw[hc];simp
   have hlt:((pre.length:Int)<(w.length:Int)):=by omega
   have hwr:IntKind.i64.wrap ((pre.length:Int)+1)=(((pre++[x]).length:Nat):Int):=by rw[wrap64 (by omega) (by omega)];simp
   have ic:∀k:KV,iaK 4 (SLg b2 w) (I pre.length) k=k (.ep (encF x) 0):=λk=>Z0s pre.length rfl hx k
   have ld:∀k:KV,ldK 4 true (.ep (encF x) 0) h k=k (.agg (encF x)):=λk=>rfl
   obtain ⟨y,hy⟩:∃y,y=h++[AObj.arr 4 [encF x] true false]:=⟨_,rfl⟩;have bx:∀k:Kb AV,effK (boxE 4 (.agg zF) h.length) h k=k (.ptr h.length 0 0 1) (h++[.arr 4 [zF] true false]):=λk=>Z0Y 4 h.length (.agg zF) h k rfl rfl rfl
   have ns:∀k:Kb AV,effK (stE 4 (.ptr h.length 0 0 1) (.agg (encF x)) (h++[.arr 4 [zF] true false])) (h++[.arr 4 [zF] true false]) k=k .u y:=λk=>by
    rw[Z22 (v := .u) (id:=h.length) (o := .arr 4 [encF x] true false) (ft:=[h.length]) (by simp[encF]),Z27,hy];rfl
   have yb:y[h.length]? = some (.arr 4 [encF x] true false):=by rw[hy,Z0n];rfl
   have y0:y[0]? = some (.arr 1 [[I clerk]] true false):=by rw[hy];exact Z07 h0
   have y2:y[2]? = some (.arr 1 [[SLg b2 w]] true false):=by rw[hy];exact Z07 h2
   have l2:∀k:KV,ldK 1 false (.ptr h.length 0 2 1) y k=k (I x.clerk):=λk=>by rw[Z0d,yb];rfl
   have lw:∀k:KV,ldK 1 false (.ptr 2 0 0 1) y k=k (SLg b2 w):=λk=>by rw[Z0d,y2];rfl
   have c1:∀k:AV→Hp→Ent→Option AV,effD (callE (Z0o 8) [SLg b l] y y.length) y k=k (SLg b l) y ([],[]):=λk=>Z1f (λh=>Zay l b (by omega) h) (by simp[idss,ids]) y k
   have c2:∀k:AV→Hp→Ent→Option AV,effD (callE (Z0o 8) [SLg b2 w] y y.length) y k=k (SLg b2 w) y ([],[]):=λk=>Z1f (λh=>Zay w b2 (by omega) h) (by simp[idss,ids]) y k
   obtain ⟨o1,ho1⟩:∃o,o=ofS l 2 x.clerk:=⟨_,rfl⟩;obtain ⟨o2,ho2⟩:∃o,o=ofS w 2 x.clerk:=⟨_,rfl⟩;have f1:∀k:AV→Hp→Ent→Option AV,effD (callE (Z0o 10) [SLg b l,I 2,I x.clerk] y y.length) y k=k (.tup [lstZ o1.1,lstZ o1.2.1,I o1.2.2]) y ([],[]):=λk=>Z1f (λh=>by rw[ho1];exact Z6H l _ 2 x.clerk (by omega) h) (by simp[idss,ids]) y k
   have f2:∀k:AV→Hp→Ent→Option AV,effD (callE (Z0o 10) [SLg b2 w,I 2,I x.clerk] y y.length) y k=k (.tup [lstZ o2.1,lstZ o2.2.1,I o2.2.2]) y ([],[]):=λk=>Z1f (λh=>by rw[ho2];exact Z6H w _ 2 x.clerk (by omega) h) (by simp[idss,ids]) y k
   have t0:∀(a b c:AV)(k:KV),exK (.tup [a,b,c]) 0 k=k a:=λa b c k=>rfl
   have t1:∀(a b c:AV)(k:KV),exK (.tup [a,b,c]) 1 k=k b:=λa b c k=>rfl
   have t2:∀(a b c:AV)(k:KV),exK (.tup [a,b,c]) 2 k=k c:=λa b c k=>rfl
   rw[of_ok r1 hxr.1] at ho1;rw[of_ok r2 hxw] at ho2;have hown:o2.1=o1.1:=by rw[ho1,ho2,hw];exact Zm2 hxr.2 l
   have z1:o1.2.2=0:=by rw[ho1]
   have z2:o2.2.2=0:=by rw[ho2]
   have n1:=ZaA false x.clerk l;have n2:=ZaA false x.clerk w
   have hd:((o1.2.1.length:Int)-(o2.2.1.length:Int))=(l.length:Int)-(w.length:Int):=by
    have e1:o1.2.1=othF false x.clerk l:=by rw[ho1]
    have e2:o2.2.1=othF false x.clerk w:=by rw[ho2]
    have e3:ownF false x.clerk w=ownF false x.clerk l:=by rw[hw];exact Zm2 hxr.2 l
    rw[e1,e2];rw[e3] at n2
    omega
   have hol:o1.1.length≤l.length:=by rw[ho1];exact ZlG _ _ _
   clear ho1 ho2;have fe:∀h,Z1s [lstZ o1.1,lstZ o2.1] h=some (B true,h):=λh=>by rw[hown];exact F_eqS _ _ _ (by omega) h
   have m1:∀k:KV,lenK (lstZ o1.2.1) k=k (I o1.2.1.length):=λk=>by rw[Z0b,List.length_map]
   have m2:∀k:KV,lenK (lstZ o2.2.1) k=k (I o2.2.1.length):=λk=>by rw[Z0b,List.length_map]
   have m3:∀k:KV,lenK (SLg b l) k=k (I l.length):=λk=>by rw[Z0b,List.length_map]
   have m4:∀k:KV,lenK (SLg b2 w) k=k (I w.length):=λk=>by rw[Z0b,List.length_map]
   have dj1:disjAll [(1,3)] [([],[]),(([]:List Nat),([]:List Nat)),([],[]),(idsOf (.ptr h.length 0 2 1),[]),([],[]),([],[]),([],[]),([],[]),([],[]),([],[]),([],[]),([],[])]=true:=by simp[disjAll,disj2,idsOf]
   have dj2:disjAll [(1,3)] [(idsOf (.ptr 2 0 0 1),[]),(([]:List Nat),([]:List Nat)),([],[]),(idsOf (.ptr h.length 0 2 1),[]),([],[]),([],[]),([],[]),([],[]),([],[]),([],[]),([],[]),([],[])]=true:=by simp[disjAll,disj2,idsOf]
   have ih':=ih (pre++[x]) post y (by simpa using hc) (by simpa using hn) y0 y2
   generalize hL:SLg b l=L at *;generalize hW:SLg b2 w=W at *;simp -implicitDefEqProofs only[Z4t,Z05,hlt,decide_true,Z02,if_true,ic,ld,bx,ns,c1,Z0m,Nat.zero_add,l2,f1,t0,t1,t2,dj1,cond_true,lw,c2,f2,dj2,z1,z2,Z04,beq_self_eq_true,Bool.true_xor,Bool.not_true,Z4n,ZC8,Z06,fe,Z0q,m1,m2,Z73,m3,m4,hd,Bool.false_eq_true,if_false,Z08,hwr];exact ih'
set_option maxHeartbeats 4000000 in
theorem cleared_law(l:List Fnd)(b:Bool)(clerk:Int)(x:Int × Int):ZdP [SL 4 encF b l,I clerk,.agg [I x.1,I x.2]] []=some (B true,[]):=by
 obtain ⟨g,wh⟩:=x;refine ZCc (a0:=SLg b l) (a1:=I clerk) (a2 := .agg [I g,I wh]) rfl ?_ [];rw[show nrm (.l 4) (SLg b l)=SLg b l from rfl];obtain ⟨H,hH⟩:∃H:Hp,H=[.arr 1 [[I clerk]] true false,.arr 2 [[I g,I wh]] true false]:=⟨_,rfl⟩;have x0:∀k:Kb AV,effK (boxE 1 (I clerk) ([]:Hp).length) [] k=k (.ptr 0 0 0 1) [.arr 1 [[I clerk]] true false]:=λk=>rfl
 have x1:∀k:Kb AV,effK (boxE 2 (.agg [I g,I wh]) ([AObj.arr 1 [[I clerk]] true false]:Hp).length) [.arr 1 [[I clerk]] true false] k=k (.ptr 1 0 0 1) H:=λk=>by rw[hH];rfl
 have fa:=ZD3;have m3:∀k:KV,lenK (SLg b l) k=k (I l.length):=λk=>by rw[Z0b,List.length_map]
 by_cases h14:l.length≤14
 ·have ff:∀h,Z3Y [SLg b l] h=some (B true,h):=λh=>ZDv l (b&&l.isEmpty) h14 h
  have c:¬((l.length:Int) > 14):=by omega
  have lc:∀k:KV,ldK 1 false (.ptr 0 0 0 1) H k=k (I clerk):=λk=>by rw[hH];rfl
  have c1:∀k:AV→Hp→Ent→Option AV,effD (callE (Z0o 8) [SLg b l] H H.length) H k=k (SLg b l) H ([],[]):=λk=>Z1f (λh=>Zay l b (by omega) h) (by simp[idss,ids]) H k
  obtain ⟨b2,fW0⟩:∃b2,∀h,Z1j [SLg b l,I 2,I clerk] h=some (.tup [SLg b2 (witS l 2 clerk).1,I (witS l 2 clerk).2],h):=by
   obtain ⟨b2,hb2⟩:=ZD0 l b 2 clerk (by omega) []
   exact ⟨b2,ZDu rfl hb2⟩
  obtain ⟨w,hw⟩:∃w,w=(witS l 2 clerk).1:=⟨_,rfl⟩;obtain ⟨e,he⟩:∃e,e=(witS l 2 clerk).2:=⟨_,rfl⟩
  have hgood:e=0→w=remF false clerk l∧rightF l=true:=by
   intro h0;unfold witS at hw he
   by_cases z:(ofS l 2 clerk).2.2=0
   ·rw[if_neg (λhh=>hh z),show whoB 2=some false from rfl] at hw
    refine ⟨hw, ?_⟩;cases hr:rightF l with
    | true=>rfl
    | false=>unfold ofS at z;rw[hr,if_pos rfl] at z;simp at z
   ·rw[if_pos z] at he
    exact absurd (by rw[← he];exact h0) z
  have hbad:e≠0→w=[]:=by
   intro h0;unfold witS at hw he
   by_cases z:(ofS l 2 clerk).2.2=0
   ·rw[if_neg (λhh=>hh z),show whoB 2=some false from rfl] at he
    exact absurd he h0
   ·rw[if_pos z] at hw
    exact hw
  rw[← hw, ← he] at fW0
  have hwl:w.length≤l.length:=by
   by_cases z:e=0
   ·rw[(hgood z).1];exact List.length_filter_le _ _
   ·rw[hbad z];simp
  have fW:∀k:AV→Hp→Ent→Option AV,effD (callE (Z0o 7) [SLg b l,I 2,I clerk] H H.length) H k=k (.tup [SLg b2 w,I e]) H ([],[]):=λk=>Z1f fW0 (by simp[idss,ids]) H k
  have u0:∀(a b:AV)(k:KV),exK (.tup [a,b]) 0 k=k a:=λa b k=>rfl
  have u1:∀(a b:AV)(k:KV),exK (.tup [a,b]) 1 k=k b:=λa b k=>rfl
  obtain ⟨H3,hH3⟩:∃H:Hp,H=[.arr 1 [[I clerk]] true false,.arr 2 [[I g,I wh]] true false,.arr 1 [[SLg b2 w]] true false]:=⟨_,rfl⟩;have x2:∀k:AV→Hp→Ent→Option AV,effD (boxE 1 nilS H.length) H k=k (.ptr 2 0 0 1) (H++[.arr 1 [[nilS]] true false]) ([],[2]):=λk=>by rw[hH];rfl
  have s2:∀k:AV→Hp→Ent→Option AV,effD (stE 1 (.ptr 2 0 0 1) (SLg b2 w) (H++[.arr 1 [[nilS]] true false])) (H++[.arr 1 [[nilS]] true false]) k=k .u H3 ([2],[2]):=λk=>by rw[hH,hH3];rfl
  have dj:disjAll [(1,2),(1,7),(2,7),(3,7)] [([],[]),(([]:List Nat),([]:List Nat)),(idsOf (.ptr 0 0 0 1),[]),([],[]),([],[]),([],[]),([],[]),([],[2]),([2],[2]),([],[])]=true:=rfl;have lw:∀k:KV,ldK 1 false (.ptr 2 0 0 1) H3 k=k (SLg b2 w):=λk=>by rw[hH3];rfl
  have m4:∀k:KV,lenK (SLg b2 w) k=k (I w.length):=λk=>by rw[Z0b,List.length_map]
  have c2:∀k:AV→Hp→Ent→Option AV,effD (callE (Z0o 8) [SLg b2 w] H3 H3.length) H3 k=k (SLg b2 w) H3 ([],[]):=λk=>Z1f (λh=>Zay w b2 (by omega) h) (by simp[idss,ids]) H3 k
  obtain ⟨s,f,a1,a2,asl,a3,fS0⟩:=ZDq w (b2&&w.isEmpty) 2 g wh (by omega)
  have fS:∀k:AV→Hp→Ent→Option AV,effD (callE (Z0o 9) [SLg b2 w,I 2,I g,I wh] H3 H3.length) H3 k=k (.tup [lstZ s,I f]) H3 ([],[]):=λk=>Z1f fS0 (by simp[idss,ids]) H3 k
  have i0:∀k:KV,iaA 1 2 (.ptr 1 0 0 1) (I 0) k=k (.ptr 1 0 0 1):=λk=>rfl
  have i1:∀k:KV,iaA 1 2 (.ptr 1 0 0 1) (I 1) k=k (.ptr 1 0 1 1):=λk=>rfl
  have lg:∀k:KV,ldK 1 false (.ptr 1 0 0 1) H3 k=k (I g):=λk=>by rw[hH3];rfl
  have lh:∀k:KV,ldK 1 false (.ptr 1 0 1 1) H3 k=k (I wh):=λk=>by rw[hH3];rfl
  have dj2:disjAll [(1,3),(1,5)] [(idsOf (.ptr 2 0 0 1),[]),(([]:List Nat),([]:List Nat)),([],[]),(idsOf (.ptr 1 0 0 1),[]),([],[]),(idsOf (.ptr 1 0 1 1),[]),([],[]),([],[]),([],[]),([],[]),([],[]),([],[])]=true:=rfl;have ms:∀k:KV,lenK (lstZ s) k=k (I s.length):=λk=>by rw[Z0b,List.length_map]
  have hround:=λz zf=>ZDy (x0:=λw109_4 w109_7 w109_9 h=>Z4s Tryz.prog Z0t Z0o NN (λv g=>cvt false g v) w109_4 w109_7 w109_9 h) (xr:=λw110_6 h=>cvt false h w110_6) (X:=some (B true)) (l:=l) (w:=w) (b:=b) (b2:=b2) (clerk:=clerk) (v9:=lstZ s) (by omega) (hgood z).1 (hgood z).2 (a2 zf) (λh h0 h2=>by
   have fc:=clS (s:=s) (w:=w) (b:=b2&&w.isEmpty) (clerk:=clerk) (h:=h) (by omega) (by omega) h0 h2 λwho hwho=>by
     obtain ⟨c,hc,y,hy1,hy2⟩:=a3 who hwho;obtain rfl:c=false:=by simpa [whoB] using hc.symm
     refine ⟨⟨y,hy1,hy2⟩, ?_⟩;rw[(hgood z).1] at hy1;rw[← hy2];exact (Zm3 hy1).2
   simp -implicitDefEqProofs only[Z4s,ZC9,Z06,fc,Z0q,Bool.not_false]
   rfl) NN [] w H3 rfl (by have:=NN_ge;omega) (by rw[hH3];rfl) (by rw[hH3];rfl)
  generalize hL:SLg b l=L at *;generalize hW:SLg b2 w=W at *;simp -implicitDefEqProofs only[Z3l,x0,x1,Zlj,ZC7,Z06,fa,Z0q,Bool.not_true,Z02,Bool.false_eq_true,if_false,m3,Z14,c,decide_false,Z4n,ff,c1,lc,fW,u0,u1,x2,s2,dj,cond_true,Z04,Bool.true_xor];by_cases z:e=0
  ·have ez:(!(e==0))=false:=by simp[z]
   simp -implicitDefEqProofs only[ez,Bool.false_eq_true,if_false,lw,c2,i0,lg,i1,lh,fS,u0,u1,dj2,cond_true,Z04,Bool.true_xor,Z02]
   by_cases zf:f=0
   ·have ef:(!(f==0))=false:=by simp[zf]
    simp -implicitDefEqProofs only[ef,Bool.false_eq_true,if_false,lw,m4]
    exact hround z zf
   ·have ef:(!(f==0))=true:=by simp[zf]
    have hs:((s.length:Int)==0)=true:=by rw[a1 zf];rfl
    simp -implicitDefEqProofs only[ef,if_true,ms,Z04,Bool.false_xor,hs]
    rfl
  ·have ez:(!(e==0))=true:=by simp[z]
   have hs:((w.length:Int)==0)=true:=by rw[hbad z];rfl
   simp -implicitDefEqProofs only[ez,if_true,lw,m4,Z04,Bool.false_xor,hs]
   rfl
 ·have c:(l.length:Int) > 14:=by omega
  simp -implicitDefEqProofs only[Z3l,x0,x1,Zlj,Z06,fa,Z0q,Bool.not_true,Z02,Bool.false_eq_true,if_false,m3,Z14,c,decide_true,Zb6,if_true]
  rfl
end Go.AM
end
