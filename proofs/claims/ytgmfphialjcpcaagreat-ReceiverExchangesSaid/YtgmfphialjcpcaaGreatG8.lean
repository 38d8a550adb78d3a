import Derived.Test.YtgmfphialjcpcaaGreatG7
set_option linter.unusedSectionVars false
set_option linter.unusedVariables false
set_option linter.unusedSimpArgs false
set_option linter.constructorNameAsVariable false
set_option maxRecDepth 100000
noncomputable section
namespace Go.AM
open Go.Proofs
attribute [local congr] Z0i Z0j Z0k Z0l Z0m Z0n Z0o Z0p Z0q Z0r Z0s Z0t Z0u Z0v Z0w Z0x Z0y Z0z Z0A Z0B Z0C Z0D Z0E Z0F Z0G Z0H Z0I
structure RTk(c1 c2:Bool)(i:Inbx)(e:Envl)(L:List Hrd)(VM:AV)(h:Hp):Prop where
 g0:h[0]? = some (bxI c1 c2 i)
 g1:h[1]? = some (bxE e)
 g2:h[2]? = some (.arr 3 [zI] true false)
 g3:h[3]? = some (.arr 2 [zH] true false)
 g4:h[4]? = some (.arr 2 [encH ⟨e.frm,e.num⟩] true false)
 g8:h[8]? = some (.arr 2 (L.map encH) true false)
 g11:h[11]? = some (.arr 3 [[I i.node,.sl 2 8 0 L.length L.length false,VM]] true false)
def CVm(h:Hp)(V:AV)(M:List Msg):Prop:=(V = .sl 7 10 0 M.length M.length false∧h[10]? = some (.arr 7 (M.map encM) true false))∨V = .lst 7 false (M.map encM)
section
variable {c1 c2:Bool} {i:Inbx} {e:Envl} {L:List Hrd} {VM:AV} {h:Hp} {M:List Msg}
theorem CVm.cvt(C:CVm h VM M):cvt false h VM=some (.lst 7 false (M.map encM)):=by
 rcases C with ⟨rfl,h1⟩ | rfl
 ·exact Z0X (st:=false) (n:=M.length) (fr:=M.length) (full:=false) h1 (by simp) (by simp) (Z0U λx=>by simp[encM])
 ·exact Zfg ..
theorem RTk.l01(R:RTk c1 c2 i e L VM h)(k:KV):ldK 1 false (.ptr 0 0 1 1) h k=k (SL 2 encH c1 i.heard):=by rw[Z01,R.g0];rfl
theorem RTk.l02(R:RTk c1 c2 i e L VM h)(k:KV):ldK 1 false (.ptr 0 0 2 1) h k=k (SL 7 encM c2 i.msgs):=by rw[Z01,R.g0];rfl
theorem RTk.l13(R:RTk c1 c2 i e L VM h)(k:KV):ldK 7 true (.ptr 1 0 3 1) h k=k (.agg (encM e.msg)):=by rw[Z01,R.g1];rfl
theorem RTk.l4w(R:RTk c1 c2 i e L VM h)(k:KV):ldK 2 true (.ptr 4 0 0 1) h k=k (.agg (encH ⟨e.frm,e.num⟩)):=by rw[Z01,R.g4];rfl
theorem RTk.l111(R:RTk c1 c2 i e L VM h)(k:KV):ldK 1 false (.ptr 11 0 1 1) h k=k (.sl 2 8 0 L.length L.length false):=by rw[Z01,R.g11];rfl
theorem RTk.l112(R:RTk c1 c2 i e L VM h)(C:CVm h VM M)(k:KV):ldK 1 false (.ptr 11 0 2 1) h k=k VM:=by rw[Z01,R.g11];rcases C with ⟨rfl,-⟩ | rfl<;>rfl
theorem RTk.out(R:RTk c1 c2 i e L VM h)(C:CVm h VM M)(fr:Bool):∃h1 h2:Hp,
  (∀(k:AV→Hp→Ent→Option AV),effD (stE 3 (.ptr 2 0 0 1) (.agg [I i.node,.sl 2 8 0 L.length L.length false,VM]) h) h k=k .u h1 ([2],[2])) ∧
  (∀(k:AV→Hp→Ent→Option AV),effD (stE 2 (.ptr 3 0 0 1) (.agg (encH ⟨e.frm,e.num⟩)) h1) h1 k=k .u h2 ([3],[3])) ∧
  (∀k:KV,ldK 3 true (.ptr 11 0 0 1) h k=k (.agg [I i.node,.sl 2 8 0 L.length L.length false,VM])) ∧
  (∀k:KV,ldK 3 true (.ptr 2 0 0 1) h2 k=k (.agg [I i.node,.sl 2 8 0 L.length L.length false,VM])) ∧
  (∀k:KV,ldK 2 true (.ptr 3 0 0 1) h2 k=k (.agg (encH ⟨e.frm,e.num⟩))) ∧
  cvt false h2 (.tup [.agg [I i.node,.sl 2 8 0 L.length L.length false,VM],.agg (encH ⟨e.frm,e.num⟩),B fr,I 0])=some (.tup [.agg [I i.node,.lst 2 false (L.map encH),.lst 7 false (M.map encM)],.agg (encH ⟨e.frm,e.num⟩),B fr,I 0]):=by
 have hs:(∃id n,VM = .sl 7 id 0 n n false)∨∃es,VM = .lst 7 false es:=by
  rcases C with ⟨rfl,-⟩ | rfl
  ·exact .inl ⟨_,_,rfl⟩
  ·exact .inr ⟨_,rfl⟩
 obtain ⟨o,ho⟩:∃o:AObj,o = .arr 3 [[I i.node,.sl 2 8 0 L.length L.length false,VM]] true false:=⟨_,rfl⟩;have a3:(h.set 2 o)[3]? = some (.arr 2 [zH] true false):=getSetN R.g3 (by omega)
 have C2:CVm ((h.set 2 o).set 3 (.arr 2 [encH ⟨e.frm,e.num⟩] true false)) VM M:=by
  rcases C with ⟨rfl,h1⟩ | rfl
  ·exact .inl ⟨rfl,getSetN (getSetN h1 (by omega)) (by omega)⟩
  ·exact .inr rfl
 have g82:((h.set 2 o).set 3 (.arr 2 [encH ⟨e.frm,e.num⟩] true false))[8]? = some (.arr 2 (L.map encH) true false):=getSetN (getSetN R.g8 (by omega)) (by omega)
 refine ⟨h.set 2 o,(h.set 2 o).set 3 (.arr 2 [encH ⟨e.frm,e.num⟩] true false),λk => ?_,λk => ?_,λk => ?_,λk => ?_,λk => ?_, ?_⟩
 ·have:stE 3 (.ptr 2 0 0 1) (.agg [I i.node,.sl 2 8 0 L.length L.length false,VM]) h=some (.u,⟨[(2,o)],[],[2]⟩):=by
   rw[Z0f,R.g2,ho];rcases hs with ⟨id,n,rfl⟩ | ⟨es,rfl⟩<;>simp[putAt]
  exact Z0h this k
 ·have:stE 2 (.ptr 3 0 0 1) (.agg (encH ⟨e.frm,e.num⟩)) (h.set 2 o)=some (.u,⟨[(3,.arr 2 [encH ⟨e.frm,e.num⟩] true false)],[],[3]⟩):=by
   rw[Z0f,a3];simp[putAt,encH]
  exact Z0h this k
 ·rw[Z01,R.g11];rcases hs with ⟨id,n,rfl⟩ | ⟨es,rfl⟩<;>rfl
 ·have:((h.set 2 o).set 3 (.arr 2 [encH ⟨e.frm,e.num⟩] true false))[2]? = some o:=getSetN (getSelfN R.g2) (by omega)
  rw[Z01,this,ho];rcases hs with ⟨id,n,rfl⟩ | ⟨es,rfl⟩<;>rfl
 ·have:((h.set 2 o).set 3 (.arr 2 [encH ⟨e.frm,e.num⟩] true false))[3]? = some (.arr 2 [encH ⟨e.frm,e.num⟩] true false):=getSelfN a3
  rw[Z01,this];rfl
 ·have cw:cvt false ((h.set 2 o).set 3 (.arr 2 [encH ⟨e.frm,e.num⟩] true false)) (.sl 2 8 0 L.length L.length false)=some (.lst 2 false (L.map encH)):=Z0X (st:=false) (n:=L.length) (fr:=L.length) (full:=false) g82 (by simp) (by simp) (Z0U λx=>by simp[encH])
  simp only[Z2Y,Z1b,Z1a,Z3s,cvt_s,C2.cvt,cw]
  rfl
theorem RT_L7{x0:AV→AV→AV→AV→AV→Kb AV}{xr:AV→AV→AV→Kb AV}{X Y:Option AV}(R:RTk c1 c2 i e L VM h)(C:CVm h VM M)(hl:i.heard.length<100000)(hx:x0 (.ptr 0 0 0 1) (.ptr 1 0 0 1) (.ptr 2 0 0 1) (.ptr 3 0 0 1) (.ptr 4 0 0 1) (.ptr 11 0 0 1) h=X) (hr:∀h2,(∀k:KV,ldK 3 true (.ptr 2 0 0 1) h2 k=k (.agg [I i.node,.sl 2 8 0 L.length L.length false,VM]))→(∀k:KV,ldK 2 true (.ptr 3 0 0 1) h2 k=k (.agg (encH ⟨e.frm,e.num⟩)))→
  cvt false h2 (.tup [.agg [I i.node,.sl 2 8 0 L.length L.length false,VM],.agg (encH ⟨e.frm,e.num⟩),B false,I 0])=some (.tup [.agg [I i.node,.lst 2 false (L.map encH),.lst 7 false (M.map encM)],.agg (encH ⟨e.frm,e.num⟩),B false,I 0])→xr (.ptr 2 0 0 1) (.ptr 3 0 0 1) (B false) (I 0) h2=Y):∀(n k:Nat),k≤i.heard.length→i.heard.length<k+n→
  Z4J Tryz.prog Z0T Z0Y NN x0 xr n (.ptr 0 0 0 1) (.ptr 1 0 0 1) (.ptr 2 0 0 1) (.ptr 3 0 0 1) (.ptr 4 0 0 1) (.ptr 11 0 0 1) (I k) h=if (i.heard.drop k).contains ⟨e.frm,e.num⟩=true then Y else X:=by
 intro n;induction n with
 | zero=>intro k h1 h2;omega
 | succ n ih=>
  intro k hk1 hk2;show Z86 Tryz.prog Z0T Z0Y NN (Z4J Tryz.prog Z0T Z0Y NN x0 xr n) x0 xr _ _ _ _ _ _ _ h=_
  have ln:∀k:KV,lenK (SL 2 encH c1 i.heard) k=k (I i.heard.length):=λk=>by rw[SL,Z07,List.length_map]
  rcases Nat.lt_or_ge k i.heard.length with hk | hk
  ·have hlt:((k:Int)<(i.heard.length:Int)):=by omega
   have hw:IntKind.i64.wrap ((k:Int)+1)=((k+1:Nat):Int):=by rw[wrap64 (by omega) (by omega)];omega
   have xa:i.heard[k]? = some i.heard[k]:=List.getElem?_eq_getElem hk;rw[List.drop_eq_getElem_cons hk];have ih':=ih (k+1) hk (by omega)
   generalize i.heard[k]=x at xa;have ia:∀k':KV,iaK 2 (SL 2 encH c1 i.heard) (I k) k'=k' (.ep (encH x) 0):=λk'=>Z0M k rfl xa k'
   have lx:∀k:KV,ldK 2 true (.ep (encH x) 0) h k=k (.agg (encH x)):=λk=>rfl
   obtain ⟨h1,h2,o1,o2,o3,o4,o5,o6⟩:=R.out C false;simp -implicitDefEqProofs only[Z86,Z04,Nat.zero_add,R.l01,ln,Z05,hlt,decide_true,Z00,if_true,ia,lx,R.l4w,Zey,Bool.false_xor];by_cases q:x=⟨e.frm,e.num⟩
   ·have e1:(x==(⟨e.frm,e.num⟩:Hrd))=true:=by simp[q]
    have e2:(x::i.heard.drop (k+1)).contains (⟨e.frm,e.num⟩:Hrd)=true:=by simp[q]
    rw[if_pos e2];have dj:disjAll [(1,2)] [(idsOf (.ptr 11 0 0 1),[]),(idsOf (.ptr 4 0 0 1),[]),([2],[2]),([3],[3]),([],[]),([],[])]=true:=rfl
    simp -implicitDefEqProofs only[e1,if_true,o3,o1,o2,dj,cond_true]
    exact hr h2 o4 o5 o6
   ·have e1:(x==(⟨e.frm,e.num⟩:Hrd))=false:=by simp[q]
    have e2:(x::i.heard.drop (k+1)).contains (⟨e.frm,e.num⟩:Hrd)=(i.heard.drop (k+1)).contains ⟨e.frm,e.num⟩:=by
     rw[List.contains_cons];have:((⟨e.frm,e.num⟩:Hrd)==x)=false:=by simp[Ne.symm q]
     rw[this,Bool.false_or]
    rw[e2, ← ih'];simp -implicitDefEqProofs only[e1,Bool.false_eq_true,if_false,Z0e,hw]
  ·have:k=i.heard.length:=by omega
   subst this;have c3:¬((i.heard.length:Int)<(i.heard.length:Int)):=by omega
   rw[List.drop_length];simp -implicitDefEqProofs only[Z86,Z04,Nat.zero_add,R.l01,ln,Z05,c3,decide_false,Z00,Bool.false_eq_true,if_false,hx]
   simp
theorem RT_L6{x2:AV→AV→AV→AV→AV→AV→Kb AV}(R:RTk c1 c2 i e L VM h)(hl:i.msgs.length<100000):∀(n k:Nat)(b:Bool),k≤i.msgs.length→i.msgs.length<k+n→
  Z4I Tryz.prog Z0T Z0Y NN x2 n (.ptr 0 0 0 1) (.ptr 1 0 0 1) (.ptr 2 0 0 1) (.ptr 3 0 0 1) (.ptr 4 0 0 1) (.ptr 11 0 0 1) (B b) (I k) h=x2 (.ptr 0 0 0 1) (.ptr 1 0 0 1) (.ptr 2 0 0 1) (.ptr 3 0 0 1) (.ptr 4 0 0 1) (.ptr 11 0 0 1) (B (b||(i.msgs.drop k).contains e.msg)) h:=by
 intro n;induction n with
 | zero=>intro k b h1 h2;omega
 | succ n ih=>
  intro k b hk1 hk2;show Z85 Tryz.prog Z0T Z0Y NN (Z4I Tryz.prog Z0T Z0Y NN x2 n) x2 _ _ _ _ _ _ _ _ h=_
  have ln:∀k:KV,lenK (SL 7 encM c2 i.msgs) k=k (I i.msgs.length):=λk=>by rw[SL,Z07,List.length_map]
  rcases Nat.lt_or_ge k i.msgs.length with hk | hk
  ·have hlt:((k:Int)<(i.msgs.length:Int)):=by omega
   have hw:IntKind.i64.wrap ((k:Int)+1)=((k+1:Nat):Int):=by rw[wrap64 (by omega) (by omega)];omega
   have xa:i.msgs[k]? = some i.msgs[k]:=List.getElem?_eq_getElem hk;rw[List.drop_eq_getElem_cons hk];have ih':=ih (k+1) (b||(i.msgs[k]==e.msg)) hk (by omega)
   generalize i.msgs[k]=x at xa ih';have ia:∀k':KV,iaK 7 (SL 7 encM c2 i.msgs) (I k) k'=k' (.ep (encM x) 0):=λk'=>Z0M k rfl xa k'
   have lx:∀k:KV,ldK 7 true (.ep (encM x) 0) h k=k (.agg (encM x)):=λk=>rfl
   have e2:(b||(x::i.msgs.drop (k+1)).contains e.msg)=((b||x==e.msg)||(i.msgs.drop (k+1)).contains e.msg):=by
    rw[List.contains_cons,Bool.or_assoc]
    have:(e.msg==x)=(x==e.msg):=by
     by_cases q:x=e.msg
     ·subst q;rfl
     ·have h1:(x==e.msg)=false:=by simp[q]
      have h2:(e.msg==x)=false:=by simp[Ne.symm q]
      rw[h1,h2]
    rw[this]
   rw[e2, ← ih'];simp -implicitDefEqProofs only[Z85,Z04,Nat.zero_add,R.l02,ln,Z05,hlt,decide_true,Z00,if_true,ia,lx,R.l13,Z4r,Bool.false_xor,Z0J,Z0e,hw]
  ·have:k=i.msgs.length:=by omega
   subst this;have c3:¬((i.msgs.length:Int)<(i.msgs.length:Int)):=by omega
   rw[List.drop_length];simp -implicitDefEqProofs only[Z85,Z04,Nat.zero_add,R.l02,ln,Z05,c3,decide_false,Z00,Bool.false_eq_true,if_false]
   simp
end
end Go.AM


namespace Go.AM
open Go.Proofs
attribute [local congr] Z0i Z0j Z0k Z0l Z0m Z0n Z0o Z0p Z0q Z0r Z0s Z0t Z0u Z0v Z0w Z0x Z0y Z0z Z0A Z0B Z0C Z0D Z0E Z0F Z0G Z0H Z0I
theorem ZmK{A D:List Hrd}{x:Hrd}(h1:∀a ∈ A,ltH a x=true)(h2:∀d ∈ D,ltH x d=true):insH (A++D) x=A++x::D:=by
 have:posH (A++D) x=A.length:=by
  unfold posH;rw[List.findIdx_append]
  have e1:A.findIdx (λy => !ltH y x)=A.length:=List.findIdx_eq_length.2 λa ha=>by simp[h1 a ha]
  rw[e1,if_neg (by omega)]
  cases D with
  | nil=>simp
  | cons d D=>
   have hd:=h2 d (by simp)
   have:ltH d x=false:=by
    cases q:ltH d x with
    | false=>rfl
    | true=>have:=Zew hd q;rw[ZCd] at this;cases this
   simp[List.findIdx_cons,this]
 unfold insH;rw[this,List.take_left,List.drop_left]
theorem stElD{β:Type}{W:List Hrd}{id i n:Nat}{h:Hp}{x:Hrd}(hid:h[id]? = some (.arr 2 (W.map encH) true false))(hn:W.length=n)(hi:i<W.length)(k:AV→Hp→Ent→Option β):effD (stE 2 (.ptr id i 0 n) (.agg (encH x)) h) h k=k .u (h.set id (.arr 2 ((W.set i x).map encH) true false)) ([id],[id]):=by
 have hx:W[i]? = some W[i]:=List.getElem?_eq_getElem hi
 have:stE 2 (.ptr id i 0 n) (.agg (encH x)) h=some (.u,⟨[(id,.arr 2 ((W.map encH).set i (encH x)) true false)],[],[id]⟩):=by
  rw[Z0f,hid];simp[hn,hx,putAt,encH]
 rw[Z0h this,List.map_set]
section
variable {c1 c2:Bool} {i:Inbx} {e:Envl} {L:List Hrd} {VM:AV} {h:Hp} {M:List Msg}
theorem RTk.put8(R:RTk c1 c2 i e L VM h){W:List Hrd}(hW:W.length=L.length):RTk c1 c2 i e W VM (h.set 8 (.arr 2 (W.map encH) true false)):=
 ⟨getSetN R.g0 (by omega),getSetN R.g1 (by omega),getSetN R.g2 (by omega),getSetN R.g3 (by omega),getSetN R.g4 (by omega),getSelfN R.g8,by rw[hW];exact getSetN R.g11 (by omega)⟩
theorem CVm.put8(C:CVm h VM M)(o:AObj):CVm (h.set 8 o) VM M:=by
 rcases C with ⟨rfl,h1⟩ | rfl
 ·exact .inl ⟨rfl,getSetN h1 (by omega)⟩
 ·exact .inr rfl
theorem ZD8{x4:AV→AV→AV→Kb AV}{x:Hrd}{Y:Option AV}(hx:∀h,RTk c1 c2 i e (insH L x) VM h→CVm h VM M→x4 (.ptr 2 0 0 1) (.ptr 3 0 0 1) (.ptr 4 0 0 1) (.ptr 11 0 0 1) h=Y)(hs:AscH L)(hn:x ∉ L)(hl:L.length<100000):∀(n:Nat)(A D:List Hrd)(h:Hp),L=A++D→(∀d ∈ D,ltH x d=true)→A.length<n→RTk c1 c2 i e (A++x::D) VM h→CVm h VM M→
  Z4G Tryz.prog Z0T Z0Y NN x4 n (.ptr 2 0 0 1) (.ptr 3 0 0 1) (.ptr 4 0 0 1) (.ptr 11 0 0 1) (I A.length) h=Y:=by
 intro n;induction n with
 | zero=>intro A D h _ _ h2;omega
 | succ n ih=>
  intro A D h hL hD hn2 R C;show Z84 Tryz.prog Z0T Z0Y NN (Z4G Tryz.prog Z0T Z0Y NN x4 n) x4 _ _ _ _ _ h=_
  rcases List.eq_nil_or_concat A with rfl | ⟨A',y,rfl⟩
  ·have c:¬(((0:Nat):Int) > 0):=by omega
   simp -implicitDefEqProofs only[Z84,List.length_nil,Z0g,c,decide_false,Z5N,Z00,Bool.false_eq_true,if_false]
   have:insH L x=[]++x::D:=by rw[hL];exact ZmK (by simp) hD
   exact hx h (by rw[this];exact R) C
  ·rw[List.concat_eq_append] at *
   obtain ⟨p,hp⟩:∃p,p=A'.length:=⟨_,rfl⟩;have hAl:(A'++[y]).length=p+1:=by simp[hp]
   obtain ⟨W,hW⟩:∃W,W=A'++[y]++x::D:=⟨_,rfl⟩;have hLW:W.length=L.length+1:=by rw[hW,hL];simp;omega
   have hWl:W.length<100002:=by omega
   rw[← hW] at R;have hpW:p+1<W.length:=by rw[hW];simp;omega
   have wy:W[p]? = some y:=by rw[hW,hp];simp
   have wx:W[p+1]? = some x:=by rw[hW,hp];simp
   rw[hAl];have c:(((p+1:Nat):Int) > 0):=by omega
   have hm:IntKind.i64.wrap (((p+1:Nat):Int)-1)=(p:Int):=by rw[wrap64 (by omega) (by omega)];omega
   have ia:∀(m:Nat)(hm:m<W.length)(k':KV),iaK 2 (.sl 2 8 0 W.length W.length false) (I m) k'=k' (.ptr 8 m 0 W.length):=λm hm k'=>by
    have e2:((m:Nat):Int)<((W.length:Nat):Int):=by omega
    simp[iaK,e2]
   have ly:∀k':KV,ldK 2 true (.ptr 8 p 0 W.length) h k'=k' (.agg (encH y)):=λk'=>ldE (f:=encH) (sz:=2) rfl R.g8 rfl wy k'
   have lx:∀k':KV,ldK 2 true (.ptr 8 (p+1) 0 W.length) h k'=k' (.agg (encH x)):=λk'=>ldE (f:=encH) (sz:=2) rfl R.g8 rfl wx k'
   have fb:=ZmD y x
   have hyA:∀a ∈ A',ltH a y=true:=λa ha=>by
    rw[hL] at hs;have h1:=List.pairwise_append.1 (List.pairwise_append.1 hs).1
    exact h1.2.2 a ha y (by simp)
   have hxy:x≠y:=λhh=>hn (by rw[hL,hh];simp)
   simp -implicitDefEqProofs only[Z84,Z0g,c,decide_true,Z04,Nat.zero_add,R.l111,Z1U,hm,ia p (by omega),ia (p+1) hpW,ly,lx,ZzC,Z02,fb,Z0Q,Z00,Bool.true_and]
   cases q:ltH x y with
   | false=>
    have hyx:ltH y x=true:=by
     cases q2:ltH y x with
     | true=>rfl
     | false=>exact absurd (Zmj q q2) hxy
    simp -implicitDefEqProofs only[Bool.false_eq_true,if_false]
    have:insH L x=W:=by
     rw[hL,hW];refine ZmK (λa ha => ?_) hD
     rcases List.mem_append.1 ha with ha | ha
     ·exact Zew (hyA a ha) hyx
     ·simp only[List.mem_singleton] at ha;subst ha;exact hyx
    exact hx h (by rw[this];exact R) C
   | true=>
    have s1:∀k':AV→Hp→Ent→Option AV,effD (stE 2 (.ptr 8 p 0 W.length) (.agg (encH x)) h) h k'=k' .u (h.set 8 (.arr 2 ((W.set p x).map encH) true false)) ([8],[8]):=λk'=>stElD R.g8 rfl (by omega) k'
    have R1:=R.put8 (W:=W.set p x) (by simp)
    have C1:=C.put8 (.arr 2 ((W.set p x).map encH) true false);generalize h.set 8 (.arr 2 ((W.set p x).map encH) true false)=h1 at s1 R1 C1;have s2:∀k':AV→Hp→Ent→Option AV,effD (stE 2 (.ptr 8 (p+1) 0 W.length) (.agg (encH y)) h1) h1 k'=k' .u (h1.set 8 (.arr 2 (((W.set p x).set (p+1) y).map encH) true false)) ([8],[8]):=λk'=>stElD R1.g8 (by simp) (by simp;omega) k'
    have R2:=R1.put8 (W:=(W.set p x).set (p+1) y) (by simp)
    have C2:=C1.put8 (.arr 2 (((W.set p x).set (p+1) y).map encH) true false)
    have hsw:(W.set p x).set (p+1) y=A'++x::y::D:=by
     rw[hW,hp,List.append_assoc];simp[List.set_append]
    generalize h1.set 8 (.arr 2 (((W.set p x).set (p+1) y).map encH) true false)=h2 at s2 R2 C2;rw[hsw] at R2;have dj:disjAll [(5,19)] [([],[]),(idsOf (.ptr 11 0 1 1),[]),([],[]),([],[]),([],[]),(idsOf (.ptr 11 0 1 1),[]),([],[]),([],[]),(idsOf (.ptr 11 0 1 1),[]),([],[]),([],[]),(idsOf (.ptr 8 (p+1) 0 W.length),[]),([],[]),(idsOf (.ptr 11 0 1 1),[]),([],[]),([],[]),([],[]),(idsOf (.ptr 8 p 0 W.length),[]),([],[]),([8],[8]),([],[]),([8],[8])]=true:=rfl;simp -implicitDefEqProofs only[if_true,s1,s2,dj,cond_true]
    have:=ih A' (y::D) h2 (by rw[hL];simp) (λd hd=>by
     rcases List.mem_cons.1 hd with rfl | hd
     ·exact q
     ·exact hD d hd) (by omega) R2 C2
    rw[← hp] at this;exact this
theorem ZD9(R:RTk c1 c2 i e L VM h)(C:CVm h VM M):Z83 Tryz.prog Z0T Z0Y NN (λv g=>cvt false g v) (.ptr 2 0 0 1) (.ptr 3 0 0 1) (.ptr 4 0 0 1) (.ptr 11 0 0 1) h=some (.tup [.agg [I i.node,.lst 2 false (L.map encH),.lst 7 false (M.map encM)],.agg (encH ⟨e.frm,e.num⟩),B true,I 0]):=by
 obtain ⟨h1,h2,o1,o2,o3,o4,o5,o6⟩:=R.out C true;have dj:disjAll [(1,2)] [(idsOf (.ptr 11 0 0 1),[]),(idsOf (.ptr 4 0 0 1),[]),([2],[2]),([3],[3]),([],[]),([],[])]=true:=rfl;simp -implicitDefEqProofs only[Z83,o3,R.l4w,o1,o2,dj,cond_true,o4,o5];exact o6
theorem ZmL(R:RTk c1 c2 i e L VM h)(C:CVm h VM M)(h12:12≤h.length)(hs:AscH L)(hn:(⟨e.frm,e.num⟩:Hrd) ∉ L)(hl:L.length<100000):Z4H Tryz.prog Z0T Z0Y NN (λv g=>cvt false g v) (.ptr 2 0 0 1) (.ptr 3 0 0 1) (.ptr 4 0 0 1) (.ptr 11 0 0 1) h=some (.tup [.agg [I i.node,.lst 2 false ((insH L ⟨e.frm,e.num⟩).map encH),.lst 7 false (M.map encM)],.agg (encH ⟨e.frm,e.num⟩),B true,I 0]):=by
 obtain ⟨x,hx⟩:∃x:Hrd,x=⟨e.frm,e.num⟩:=⟨_,rfl⟩
 have hs':(∃id n,VM = .sl 7 id 0 n n false)∨∃es,VM = .lst 7 false es:=by
  rcases C with ⟨rfl,-⟩ | rfl
  ·exact .inl ⟨_,_,rfl⟩
  ·exact .inr ⟨_,rfl⟩
 have l4:=R.l4w;rw[← hx] at l4 hn;obtain ⟨h1,hh1⟩:∃h1:Hp,h1=h++[AObj.arr 2 [encH x] true false]:=⟨_,rfl⟩;have bs:∀k:Kb AV,effK (bsE 2 zH 1 [(0,.agg (encH x))] h.length) h k=k (.sl 2 h.length 0 1 1 true) h1:=λk=>by rw[hh1];simp[bsE,fillS,encH,effK,ap]
 have g1:h1[h.length]? = some (.arr 2 [encH x] true false):=by rw[hh1,Z0R];rfl
 have R1:RTk c1 c2 i e L VM h1:=by rw[hh1];exact ⟨Z0a R.g0,Z0a R.g1,Z0a R.g2,Z0a R.g3,Z0a R.g4,Z0a R.g8,Z0a R.g11⟩
 have C1:CVm h1 VM M:=by
  rcases C with ⟨rfl,q⟩ | rfl
  ·exact .inl ⟨rfl,by rw[hh1];exact Z0a q⟩
  ·exact .inr rfl
 have rd:readSl h1 (.sl 2 h.length 0 1 1 true)=some [encH x]:=by unfold readSl;simp[g1]
 have ha:appE 2 16 (.sl 2 8 0 L.length L.length false) (.sl 2 h.length 0 1 1 true) h1 h1.length=some (.sl 2 8 0 (L++[x]).length (L++[x]).length false,⟨[(8,.arr 2 ((L++[x]).map encH) true false)],[],[8,h.length]⟩):=by
  unfold appE;rw[rd]
  simp only[R1.g8,List.length_map,List.length_singleton];rw[if_pos ⟨trivial,trivial,by omega,by simp[encH]⟩,if_neg (by simp),if_pos (by simp)]
  simp[idsOf]
 have ap:∀k:Kb AV,effK (appE 2 16 (.sl 2 8 0 L.length L.length false) (.sl 2 h.length 0 1 1 true) h1 h1.length) h1 k=k (.sl 2 8 0 (L++[x]).length (L++[x]).length false) (h1.set 8 (.arr 2 ((L++[x]).map encH) true false)):=λk=>Z0d ha k
 obtain ⟨h2,hh2⟩:∃h2:Hp,h2=h1.set 8 (.arr 2 ((L++[x]).map encH) true false):=⟨_,rfl⟩;rw[← hh2] at ap;obtain ⟨o,ho⟩:∃o:AObj,o = .arr 3 [[I i.node,.sl 2 8 0 (L++[x]).length (L++[x]).length false,VM]] true false:=⟨_,rfl⟩;have g11:h2[11]? = some (.arr 3 [[I i.node,.sl 2 8 0 L.length L.length false,VM]] true false):=by rw[hh2];exact getSetN R1.g11 (by omega)
 have s11:∀k:Kb AV,effK (stE 1 (.ptr 11 0 1 1) (.sl 2 8 0 (L++[x]).length (L++[x]).length false) h2) h2 k=k .u (h2.set 11 o):=λk=>by
  have:stE 1 (.ptr 11 0 1 1) (.sl 2 8 0 (L++[x]).length (L++[x]).length false) h2=some (.u,⟨[(11,o)],[],[11]⟩):=by
   rw[Z0f,g11,ho];simp[putAt]
  rw[Z0d this]
 have R2:RTk c1 c2 i e (L++x::[]) VM (h2.set 11 o):=by
  refine ⟨getSetN ?_ (by omega),getSetN ?_ (by omega),getSetN ?_ (by omega),getSetN ?_ (by omega),getSetN ?_ (by omega),getSetN ?_ (by omega), ?_⟩
  ·rw[hh2];exact getSetN R1.g0 (by omega)
  ·rw[hh2];exact getSetN R1.g1 (by omega)
  ·rw[hh2];exact getSetN R1.g2 (by omega)
  ·rw[hh2];exact getSetN R1.g3 (by omega)
  ·rw[hh2];exact getSetN R1.g4 (by omega)
  ·rw[hh2];exact getSelfN R1.g8
  ·rw[getSelfN g11,ho]
 have C2:CVm (h2.set 11 o) VM M:=by
  rcases C1 with ⟨rfl,q⟩ | rfl
  ·exact .inl ⟨rfl,getSetN (by rw[hh2];exact getSetN q (by omega)) (by omega)⟩
  ·exact .inr rfl
 have hm:IntKind.i64.wrap (((L++[x]).length:Int)-1)=(L.length:Int):=by
  have:(L++[x]).length=L.length+1:=by simp
  rw[wrap64 (by omega) (by omega)];omega
 have ln:∀k:KV,lenK (.sl 2 8 0 (L++[x]).length (L++[x]).length false) k=k (I (L++[x]).length):=λk=>rfl
 rw[← hx];simp -implicitDefEqProofs only[Z4H,Z04,Nat.zero_add,R.l111,l4,bs,ap,s11,R2.l111,ln,Z1U,hm];exact ZD8 (x:=x) (hx:=λh R C=>by rw[ZD9 R C,hx]) hs hn hl NN L [] _ (by simp) (by simp) (by have:=NN_ge;omega) R2 C2
end
end Go.AM


namespace Go.AM
open Go.Proofs
attribute [local congr] Z0i Z0j Z0k Z0l Z0m Z0n Z0o Z0p Z0q Z0r Z0s Z0t Z0u Z0v Z0w Z0x Z0y Z0z Z0A Z0B Z0C Z0D Z0E Z0F Z0G Z0H Z0I
theorem ZmM(e:Envl)(h:Hp):Z5p [.agg (encV e)] h=some (I (formE e),h):=by
 refine ZyJ (by simp[encV]) ?_ h
 have bx:∀k:Kb AV,effK (boxE 10 (.agg (encV e)) ([]:Hp).length) [] k=k (.ptr 0 0 0 1) [.arr 10 [encV e] true false]:=λk=>Z2F 10 0 (.agg (encV e)) [] k rfl rfl rfl
 have m0:∀k:KV,ldK 1 false (.ptr 0 0 0 1) [.arr 10 [encV e] true false] k=k (I e.frm):=λk=>rfl
 have m1:∀k:KV,ldK 1 false (.ptr 0 0 1 1) [.arr 10 [encV e] true false] k=k (I e.to):=λk=>rfl
 have m2:∀k:KV,ldK 1 false (.ptr 0 0 2 1) [.arr 10 [encV e] true false] k=k (I e.num):=λk=>rfl
 have m3:∀k:KV,ldK 7 true (.ptr 0 0 3 1) [.arr 10 [encV e] true false] k=k (.agg (encM e.msg)):=λk=>rfl
 have n1:=Z4p e.frm;have n2:=Z4p e.to;have fc:=ZlL e.msg
 have hr:(((!isNode e.frm || !isNode e.to)||decide (e.num<1))||decide (e.num > 1073741824))=rangeE e:=by
  unfold isNode rangeE;rw[Bool.eq_iff_iff]
  simp only[Bool.or_eq_true,Bool.not_eq_true',Bool.and_eq_false_iff,decide_eq_true_eq,decide_eq_false_iff_not]
  omega
 simp -implicitDefEqProofs only[ZbH,bx,Z04,Nat.zero_add,m0,m1,m2,m3,ZyF,ZyG,Z02,n1,n2,fc,Z0L,Z0J,Z05,Z0g,hr,Z00,Z03,Bool.false_xor,Bool.true_xor]
 unfold formE;cases rangeE e with
 | true=>rfl
 | false=>
  by_cases q1:e.frm=e.to
  ·simp[q1]
  ·by_cases q2:checkM e.msg=0<;>simp[q1,q2]
theorem ZDa(l:List Msg)(hl:l.length<1000)(h0:errM l=0){h:Hp}{v:AV}{b:Bool}(hv:cvts false h [v]=some [.lst 7 b (l.map encM)]):Z3L [v] h=some (.tup [.lst 7 false ((normL l).map encM),I 0],h):=by
 have f1:Z3I [v] h=some (I (errM l),h):=by
  refine Zz5 hv λst => ?_
  simp only[nrm,nrmC];by_cases h1:64<l.length
  ·have c1:((64:Int)<(l.length:Int)):=by omega
   cases st<;>simp[Z3u,c1,errM,h1]
  ·have c1:¬((64:Int)<(l.length:Int)):=by omega
   have:=Zmr (T:=Z3k) (D:=Z3H) (N:=NN) (x0:=λh=>Z8B Tryz.prog Z3k Z3H NN (λv g=>cvt st g v) h) (xr:=λw12_2 h=>cvt st h w12_2) (l:=l) (b:=b) (h:=[]) Zlq (by omega) rfl NN [] l rfl (by have:=NN_ge;omega)
   simp -implicitDefEqProofs only[Z3u,Z07,List.length_map,Z0g,c1,decide_false,Z00,Bool.false_eq_true,if_false,errM,h1]
   exact this.trans rfl
 have f2:Z3K [v] h=some (.lst 7 false ((normL l).map encM),h):=by
  refine (Zzg (v := .lst 7 false ((normL l).map encM)) hv λst => ?_).trans rfl
  simp only[nrm,nrmC];have bs:∀k:Kb AV,effK (bsE 7 zM 0 [] ([]:Hp).length) [] k=k (.sl 7 0 0 0 0 true) [.arr 7 [] true false]:=λk=>by simp[bsE,fillS,effK,ap]
  simp -implicitDefEqProofs only[Z57,bs]
  refine Zmt (T:=Z3l) (D:=Z3J) (N:=NN) (x0:=λw50_3 h=>Z8Y Tryz.prog Z3l Z3J NN (λv g=>cvt st g v) w50_3 h) (X:=some (AV.lst 7 false ((normL l).map encM))) rfl NN_ge hl ?_ NN [] l [] (.sl 7 0 0 0 0 true) [.arr 7 [] true false] rfl (by have:=NN_ge;omega) (by simp) (by simp) (by simp) ⟨0,true,rfl,rfl,λ_=>rfl⟩
  intro v h O;exact O.cvt (λx st=>by cases st<;>simp[encM,isS]) st
 rw[Zzj];simp -implicitDefEqProofs only[Z61,Zlv,Zlw,Z02,f1,f2,Z03,h0,Bool.true_xor,beq_self_eq_true,Bool.not_true,Z00,Bool.false_eq_true,if_false]
set_option maxHeartbeats 4000000 in
theorem ZDb(c1 c2:Bool)(i:Inbx)(e:Envl)(hl:i.heard.length<1000)(hm:i.msgs.length<1000)(h:Hp):∃b1 b2,Z4k [ib c1 c2 i,.agg (encV e)] h=some (takeV b1 b2 (takeI i e),h):=by
 obtain ⟨H0,hH0⟩:∃H0:Hp,H0=[bxI c1 c2 i,bxE e,.arr 3 [zI] true false,.arr 2 [zH] true false]:=⟨_,rfl⟩;have x0:∀k:Kb AV,effK (boxE 3 (ib c1 c2 i) ([]:Hp).length) [] k=k (.ptr 0 0 0 1) [bxI c1 c2 i]:=λk=>rfl
 have x1:∀k:Kb AV,effK (boxE 10 (.agg (encV e)) ([bxI c1 c2 i]:Hp).length) [bxI c1 c2 i] k=k (.ptr 1 0 0 1) [bxI c1 c2 i,bxE e]:=λk=>rfl
 have x2:∀k:Kb AV,effK (boxE 3 (.agg zI) ([bxI c1 c2 i,bxE e]:Hp).length) [bxI c1 c2 i,bxE e] k=k (.ptr 2 0 0 1) [bxI c1 c2 i,bxE e,.arr 3 [zI] true false]:=λk=>rfl
 have x3:∀k:Kb AV,effK (boxE 2 (.agg zH) ([bxI c1 c2 i,bxE e,.arr 3 [zI] true false]:Hp).length) [bxI c1 c2 i,bxE e,.arr 3 [zI] true false] k=k (.ptr 3 0 0 1) H0:=λk=>by rw[hH0];rfl
 have lw:∀k:KV,ldK 3 true (.ptr 0 0 0 1) H0 k=k (ib c1 c2 i):=λk=>by rw[hH0];rfl
 have le:∀k:KV,ldK 10 true (.ptr 1 0 0 1) H0 k=k (.agg (encV e)):=λk=>by rw[hH0];rfl
 have e0:∀k:KV,ldK 1 false (.ptr 1 0 0 1) H0 k=k (I e.frm):=λk=>by rw[hH0];rfl
 have e1:∀k:KV,ldK 1 false (.ptr 1 0 1 1) H0 k=k (I e.to):=λk=>by rw[hH0];rfl
 have e2:∀k:KV,ldK 1 false (.ptr 1 0 2 1) H0 k=k (I e.num):=λk=>by rw[hH0];rfl
 have i0:∀k:KV,ldK 1 false (.ptr 0 0 0 1) H0 k=k (I i.node):=λk=>by rw[hH0];rfl
 have bI:∀k:KV,buildK zI [] k=k (.agg zI):=λk=>rfl
 have bH:∀k:KV,buildK zH [] k=k (.agg zH):=λk=>rfl
 have s2:∀k:Kb AV,effK (stE 3 (.ptr 2 0 0 1) (.agg zI) H0) H0 k=k .u H0:=λk=>by rw[hH0];rfl
 have s3:∀k:Kb AV,effK (stE 2 (.ptr 3 0 0 1) (.agg zH) H0) H0 k=k .u H0:=λk=>by rw[hH0];rfl
 have r2:∀k:KV,ldK 3 true (.ptr 2 0 0 1) H0 k=k (.agg zI):=λk=>by rw[hH0];rfl
 have r3:∀k:KV,ldK 2 true (.ptr 3 0 0 1) H0 k=k (.agg zH):=λk=>by rw[hH0];rfl
 have fC:=ZgG c1 c2 i (by omega) hm
 have fF:=ZmM e;have hnr:nrm (.a [none,some 2,some 7]) (ib c1 c2 i)=ib c1 c2 i:=rfl;have hpl:plains [ib c1 c2 i,.agg (encV e)]=true:=rfl;have fail:∀(E:Int),nrmR [.a [none,some 2,some 7],.o,.o,.o] (.tup [.agg zI,.agg zH,B false,I E])=takeV true true (⟨0,[],[]⟩,⟨0,0⟩,false,E):=λE=>rfl
 unfold takeI;by_cases z:chkI i=0
 ·have ez:(chkI i==0)=true:=by simp[z]
  rw[if_neg (show ¬chkI i≠0 from λhh=>hh z)]
  obtain ⟨k1,k2,k3,k4,k5,k6,k7⟩:=Z7c z;obtain ⟨hasc,-,-⟩:=Zal k4;by_cases z2:formE e=0
  ·have ez2:(formE e==0)=true:=by simp[z2]
   rw[if_neg (show ¬formE e≠0 from λhh=>hh z2)]
   obtain ⟨m1,-⟩:=Zez z2;by_cases q3:e.to=i.node
   ·have e3:(e.to==i.node)=true:=by simp[q3]
    rw[if_neg (show ¬e.to≠i.node from λhh=>hh q3)]
    obtain ⟨hd,hhd⟩:∃hd:Hrd,hd=⟨e.frm,e.num⟩:=⟨_,rfl⟩;have bK:∀k:KV,buildK zH [(some (0,1),I e.frm),(some (1,1),I e.num)] k=k (.agg (encH ⟨e.frm,e.num⟩)):=λk=>rfl
    obtain ⟨H1,hH1⟩:∃H1:Hp,H1=H0++[AObj.arr 2 [encH ⟨e.frm,e.num⟩] true false]:=⟨_,rfl⟩;have x4:∀k:Kb AV,effK (boxE 2 (.agg zH) H0.length) H0 k=k (.ptr 4 0 0 1) (H0++[.arr 2 [zH] true false]):=λk=>by rw[hH0];rfl
    have s4:∀k:Kb AV,effK (stE 2 (.ptr 4 0 0 1) (.agg (encH ⟨e.frm,e.num⟩)) (H0++[.arr 2 [zH] true false])) (H0++[.arr 2 [zH] true false]) k=k .u H1:=λk=>by rw[hH1,hH0];rfl
    have lw1:∀k:KV,ldK 3 true (.ptr 0 0 0 1) H1 k=k (ib c1 c2 i):=λk=>by rw[hH1,hH0];rfl
    have hl1:H1.length=5:=by rw[hH1,hH0];rfl
    obtain ⟨cp,hcp⟩:∃cp:List AV,cp=[I i.node,.sl 2 8 0 i.heard.length i.heard.length false,.sl 7 10 0 i.msgs.length i.msgs.length false]:=⟨_,rfl⟩;obtain ⟨H2,hH2⟩:∃H2:Hp,H2=H1++[bxI c1 c2 i,.arr 3 [cp] true false,.arr 2 [] true false,.arr 2 (i.heard.map encH) true false,.arr 7 [] true false,.arr 7 (i.msgs.map encM) true false]:=⟨_,rfl⟩
    have fP:Z3j [ib c1 c2 i] H1=some (.agg cp,H2):=by
     rw[ZmE c1 c2 i (by omega) (by omega) H1,hl1,hH2,hcp]
    have hl2:H2.length=11:=by rw[hH2];simp[hl1]
    obtain ⟨H3,hH3⟩:∃H3:Hp,H3=H2++[AObj.arr 3 [cp] true false]:=⟨_,rfl⟩;have x5:∀k:Kb AV,effK (boxE 3 (.agg zI) H2.length) H2 k=k (.ptr 11 0 0 1) (H2++[.arr 3 [zI] true false]):=λk=>by rw[bx3 rfl rfl k,hl2]
    have s5:∀k:Kb AV,effK (stE 3 (.ptr 11 0 0 1) (.agg cp) (H2++[.arr 3 [zI] true false])) (H2++[.arr 3 [zI] true false]) k=k .u H3:=λk=>by
     have g:(H2++[AObj.arr 3 [zI] true false])[11]? = some (.arr 3 [zI] true false):=by rw[← hl2,Z0R];rfl
     have:stE 3 (.ptr 11 0 0 1) (.agg cp) (H2++[.arr 3 [zI] true false])=some (.u,⟨[(11,.arr 3 [cp] true false)],[],[11]⟩):=by
      rw[Z0f,g,hcp];simp[putAt]
     rw[Z0d this,hH3, ← hl2,Z3r]
     rfl
    have R:RTk c1 c2 i e i.heard (.sl 7 10 0 i.msgs.length i.msgs.length false) H3:=by
     rw[hH3,hH2,hH1,hH0,hcp];exact ⟨rfl,rfl,rfl,rfl,rfl,rfl,rfl⟩
    have C:CVm H3 (.sl 7 10 0 i.msgs.length i.msgs.length false) i.msgs := .inl ⟨rfl,by rw[hH3,hH2,hH1,hH0];rfl⟩
    have hl3:H3.length=12:=by rw[hH3];simp[hl2]
    have lh:∀k:KV,lenK (SL 2 encH c1 i.heard) k=k (I i.heard.length):=λk=>by rw[SL,Z07,List.length_map]
    have lm:∀k:KV,lenK (SL 7 encM c2 i.msgs) k=k (I i.msgs.length):=λk=>by rw[SL,Z07,List.length_map]
    obtain ⟨K,hK⟩:∃K:Kb AV,K=λv g=>cvt false g v:=⟨_,rfl⟩
    have hn7:=NN_ge
    have L7:=RT_L7 (x0:=λw199_2 w199_3 w199_4 w199_5 w199_9 w199_10 h=>Z5X Tryz.prog Z0T Z0Y NN K w199_2 w199_3 w199_4 w199_5 w199_9 w199_10 h) (xr:=λw200_4 w200_5 w200_6 w200_7 h=>ldK 3 true w200_4 h λr201=>ldK 2 true w200_5 h λr202=>K (.tup [r201,r202,w200_6,w200_7]) h) (Y:=some (.tup [.agg [I i.node,.lst 2 false (i.heard.map encH),.lst 7 false (i.msgs.map encM)],.agg (encH ⟨e.frm,e.num⟩),B false,I 0])) R C (by omega) rfl (λh2 a1 a2 a3=>by
     simp -implicitDefEqProofs only[a1,a2]
     rw[hK];exact a3) NN 0 (by omega) (by omega)
    rw[List.drop_zero] at L7
    have start:∀v:AV,(if i.heard.contains ⟨e.frm,e.num⟩=true then some (.tup [.agg [I i.node,.lst 2 false (i.heard.map encH),.lst 7 false (i.msgs.map encM)],.agg (encH ⟨e.frm,e.num⟩),B false,I 0]) else Z5X Tryz.prog Z0T Z0Y NN K (.ptr 0 0 0 1) (.ptr 1 0 0 1) (.ptr 2 0 0 1) (.ptr 3 0 0 1) (.ptr 4 0 0 1) (.ptr 11 0 0 1) H3)=some v→Z4k [ib c1 c2 i,.agg (encV e)] h=some (nrmR [.a [none,some 2,some 7],.o,.o,.o] v,h):=λv hv=>by
     refine Ze0 hpl ?_ h;rw[hnr, ← hK];rw[← L7] at hv;rw[← hv];simp -implicitDefEqProofs only[Z3X,x0,x1,x2,x3,lw,ZdZ,Z02,fC,Z03,ez,Bool.true_xor,Bool.not_true,Z00,Bool.false_eq_true,if_false,le,Zge,fF,ez2,Z04,Nat.zero_add,e0,e1,e2,i0,e3,bK,x4,s4,lw1,ZzB,fP,x5,s5]
     rfl
    cases q4:i.heard.contains ⟨e.frm,e.num⟩ with
    | true=>
     rw[if_pos rfl];refine ⟨false,false,(start _ (by rw[if_pos q4])).trans rfl⟩
    | false=>
     rw[if_neg (by simp)]
     have hnm:(⟨e.frm,e.num⟩:Hrd) ∉ i.heard:=λhh=>by
      rw[List.contains_iff_mem.2 hh] at q4;cases q4
     have q4n:¬(i.heard.contains ⟨e.frm,e.num⟩=true):=by rw[q4];simp
     have L6:=RT_L6 (x2:=λw179_2 w179_3 w179_4 w179_5 w179_9 w179_10 w179_12 h=>Z3e Tryz.prog Z0T Z0Y NN K w179_2 w179_3 w179_4 w179_5 w179_9 w179_10 w179_12 h) R (by omega) NN 0 false (by omega) (by omega)
     rw[List.drop_zero,Bool.false_or] at L6
     have start2:∀v:AV,Z3e Tryz.prog Z0T Z0Y NN K (.ptr 0 0 0 1) (.ptr 1 0 0 1) (.ptr 2 0 0 1) (.ptr 3 0 0 1) (.ptr 4 0 0 1) (.ptr 11 0 0 1) (B (i.msgs.contains e.msg)) H3=some v→Z4k [ib c1 c2 i,.agg (encV e)] h=some (nrmR [.a [none,some 2,some 7],.o,.o,.o] v,h):=λv hv=>by
      refine start v ?_;rw[if_neg q4n];exact L6.trans hv
     by_cases q5:i.heard.length=256∨(i.msgs.contains e.msg=false∧i.msgs.length=64)
     ·rw[if_pos q5]
      refine ⟨true,true,(start2 (.tup [.agg zI,.agg zH,B false,I 12]) ?_).trans (by rw[fail])⟩
      have g5:((i.heard.length:Int)==256||(!i.msgs.contains e.msg&&(i.msgs.length:Int)==64))=true:=by
       rcases q5 with q5 | ⟨q5,q6⟩
       ·simp[q5]
       ·rw[q5,q6];simp
      have t2:∀k:Kb AV,effK (stE 3 (.ptr 2 0 0 1) (.agg zI) H3) H3 k=k .u H3:=λk=>by
       have:stE 3 (.ptr 2 0 0 1) (.agg zI) H3=some (.u,⟨[(2,.arr 3 [zI] true false)],[],[2]⟩):=by rw[Z0f,R.g2];rfl
       rw[Z0d this,Z15 R.g2]
      have t3:∀k:Kb AV,effK (stE 2 (.ptr 3 0 0 1) (.agg zH) H3) H3 k=k .u H3:=λk=>by
       have:stE 2 (.ptr 3 0 0 1) (.agg zH) H3=some (.u,⟨[(3,.arr 2 [zH] true false)],[],[3]⟩):=by rw[Z0f,R.g3];rfl
       rw[Z0d this,Z15 R.g3]
      have u2:∀k:KV,ldK 3 true (.ptr 2 0 0 1) H3 k=k (.agg zI):=λk=>by rw[Z01,R.g2];rfl
      have u3:∀k:KV,ldK 2 true (.ptr 3 0 0 1) H3 k=k (.agg zH):=λk=>by rw[Z01,R.g3];rfl
      simp -implicitDefEqProofs only[Z3e,Z04,Nat.zero_add,R.l01,R.l02,lh,lm,Z03,Bool.false_xor,Z0L,Z0Q,Z0J,g5,Z00,if_true,bI,bH,t2,t3,u2,u3]
      rw[hK]
      rfl
     ·rw[if_neg q5]
      have g5:((i.heard.length:Int)==256||(!i.msgs.contains e.msg&&(i.msgs.length:Int)==64))=false:=by
       rw[Bool.or_eq_false_iff]
       constructor
       ·rw[beq_eq_false_iff_ne];intro hh;exact q5 (.inl (by omega))
       ·cases hc:i.msgs.contains e.msg with
        | true=>rfl
        | false=>
         simp only[Bool.not_false,Bool.true_and];rw[beq_eq_false_iff_ne];intro hh;exact q5 (.inr ⟨hc,by omega⟩)
      have step:Z3e Tryz.prog Z0T Z0Y NN K (.ptr 0 0 0 1) (.ptr 1 0 0 1) (.ptr 2 0 0 1) (.ptr 3 0 0 1) (.ptr 4 0 0 1) (.ptr 11 0 0 1) (B (i.msgs.contains e.msg)) H3=if i.msgs.contains e.msg=true then Z4H Tryz.prog Z0T Z0Y NN K (.ptr 2 0 0 1) (.ptr 3 0 0 1) (.ptr 4 0 0 1) (.ptr 11 0 0 1) H3 else some (.tup [.agg [I i.node,.lst 2 false ((insH i.heard ⟨e.frm,e.num⟩).map encH),.lst 7 false ((normL (i.msgs++[e.msg])).map encM)],.agg (encH ⟨e.frm,e.num⟩),B true,I 0]):=by
       cases q6:i.msgs.contains e.msg with
       | true=>
        rw[q6] at g5;simp only[Bool.not_true] at g5;simp -implicitDefEqProofs only[Z3e,Z04,Nat.zero_add,R.l01,R.l02,lh,lm,Z03,Bool.false_xor,Z0L,Bool.not_true,Z0Q,Z0J,g5,Z00,Bool.false_eq_true,if_false,if_true]
       | false=>
        rw[q6] at g5;simp only[Bool.not_false] at g5
        have hml:i.msgs.length<64:=by
         rcases Nat.lt_or_ge i.msgs.length 64 with hh | hh
         ·exact hh
         ·exact absurd (.inr ⟨q6,by omega⟩) q5
        have hE0:errM (i.msgs++[e.msg])=0:=by
         refine Z5C.2 ⟨by simp;omega,λm hm => ?_⟩
         rcases List.mem_append.1 hm with hm | hm
         ·exact (Z5C.1 k5).2 m hm
         ·simp only[List.mem_singleton] at hm;subst hm;exact m1
        obtain ⟨H4,hH4⟩:∃H4:Hp,H4=H3++[AObj.arr 7 [encM e.msg] true false]:=⟨_,rfl⟩;have bm:∀k:Kb AV,effK (bsE 7 [I 0,I 0,I 0,I 0,I 0,I 0,I 0] 1 [(0,.agg (encM e.msg))] H3.length) H3 k=k (.sl 7 H3.length 0 1 1 true) H4:=λk=>by rw[hH4];simp[bsE,fillS,encM,effK,ap]
        have g4:H4[H3.length]? = some (.arr 7 [encM e.msg] true false):=by rw[hH4,Z0R];rfl
        have g10:H4[10]? = some (.arr 7 (i.msgs.map encM) true false):=by
         rw[hH4];rcases C with ⟨-,q⟩ | q
         ·exact Z0a q
         ·cases q
        have R4:RTk c1 c2 i e i.heard (.sl 7 10 0 i.msgs.length i.msgs.length false) H4:=by rw[hH4];exact ⟨Z0a R.g0,Z0a R.g1,Z0a R.g2,Z0a R.g3,Z0a R.g4,Z0a R.g8,Z0a R.g11⟩
        have rd:readSl H4 (.sl 7 H3.length 0 1 1 true)=some [encM e.msg]:=by unfold readSl;simp[g4]
        have ha:appE 7 56 (.sl 7 10 0 i.msgs.length i.msgs.length false) (.sl 7 H3.length 0 1 1 true) H4 H4.length=some (.sl 7 10 0 (i.msgs++[e.msg]).length (i.msgs++[e.msg]).length false,⟨[(10,.arr 7 ((i.msgs++[e.msg]).map encM) true false)],[],[10,H3.length]⟩):=by
         unfold appE;rw[rd]
         simp only[g10,List.length_map,List.length_singleton];rw[if_pos ⟨trivial,trivial,by omega,by simp[encM]⟩,if_neg (by simp),if_pos (by simp)]
         simp[idsOf]
        obtain ⟨H5,hH5⟩:∃H5:Hp,H5=H4.set 10 (.arr 7 ((i.msgs++[e.msg]).map encM) true false):=⟨_,rfl⟩;have ap:∀k:Kb AV,effK (appE 7 56 (.sl 7 10 0 i.msgs.length i.msgs.length false) (.sl 7 H3.length 0 1 1 true) H4 H4.length) H4 k=k (.sl 7 10 0 (i.msgs++[e.msg]).length (i.msgs++[e.msg]).length false) H5:=λk=>by rw[hH5];exact Z0d ha k
        have g510:H5[10]? = some (.arr 7 ((i.msgs++[e.msg]).map encM) true false):=by rw[hH5];exact getSelfN g10
        have R5:RTk c1 c2 i e i.heard (.sl 7 10 0 i.msgs.length i.msgs.length false) H5:=by rw[hH5];exact ⟨getSetN R4.g0 (by omega),getSetN R4.g1 (by omega),getSetN R4.g2 (by omega),getSetN R4.g3 (by omega),getSetN R4.g4 (by omega),getSetN R4.g8 (by omega),getSetN R4.g11 (by omega)⟩
        have cw:cvts false H5 [.sl 7 10 0 (i.msgs++[e.msg]).length (i.msgs++[e.msg]).length false]=some [.lst 7 false ((i.msgs++[e.msg]).map encM)]:=by
         simp only[Z1b,Z1a];rw[Z0X (st:=false) (n:=(i.msgs++[e.msg]).length) (fr:=(i.msgs++[e.msg]).length) (full:=false) g510 (by simp) (by simp) (Z0U λx=>by simp[encM])]
        have fN:Z3L [.sl 7 10 0 (i.msgs++[e.msg]).length (i.msgs++[e.msg]).length false] H5=some (.tup [.lst 7 false ((normL (i.msgs++[e.msg])).map encM),I 0],H5):=ZDa (i.msgs++[e.msg]) (by simp;omega) hE0 cw
        have tp:∀(a b:AV)(k:KV),exK (.tup [a,b]) 0 k=k a:=λa b k=>rfl
        have tq:∀(a b:AV)(k:KV),exK (.tup [a,b]) 1 k=k b:=λa b k=>rfl
        obtain ⟨N,hN⟩:∃N:List Msg,N=normL (i.msgs++[e.msg]):=⟨_,rfl⟩;rw[← hN] at fN;obtain ⟨o,ho⟩:∃o:AObj,o = .arr 3 [[I i.node,.sl 2 8 0 i.heard.length i.heard.length false,.lst 7 false (N.map encM)]] true false:=⟨_,rfl⟩
        have s11:∀k:Kb AV,effK (stE 1 (.ptr 11 0 2 1) (.lst 7 false (N.map encM)) H5) H5 k=k .u (H5.set 11 o):=λk=>by
         have:stE 1 (.ptr 11 0 2 1) (.lst 7 false (N.map encM)) H5=some (.u,⟨[(11,o)],[],[11]⟩):=by
          rw[Z0f,R5.g11,ho];simp[putAt]
         rw[Z0d this]
        have R6:RTk c1 c2 i e i.heard (.lst 7 false (N.map encM)) (H5.set 11 o):=⟨getSetN R5.g0 (by omega),getSetN R5.g1 (by omega),getSetN R5.g2 (by omega),getSetN R5.g3 (by omega),getSetN R5.g4 (by omega),getSetN R5.g8 (by omega),by rw[getSelfN R5.g11,ho]⟩
        have C6:CVm (H5.set 11 o) (.lst 7 false (N.map encM)) N := .inr rfl;have J:=ZmL R6 C6 (by rw[List.length_set,hH5,List.length_set,hH4];simp;omega) hasc hnm (by omega)
        rw[← hK] at J;have hl02:∀k:KV,ldK 1 false (.ptr 11 0 2 1) H3 k=k (.sl 7 10 0 i.msgs.length i.msgs.length false):=λk=>R.l112 C k
        rw[if_neg (by simp), ← hN, ← J]
        simp -implicitDefEqProofs only[Z3e,Z04,Nat.zero_add,R.l01,R.l02,lh,lm,Z03,Bool.false_xor,Z0L,Bool.not_false,Z0Q,Z0J,g5,Z00,Bool.false_eq_true,if_false,if_true,hl02,R.l13,bm,ap,ZzD,Z02,fN,tp,tq,s11]
      cases q6:i.msgs.contains e.msg with
      | true=>
       refine ⟨false,false,(start2 (.tup [.agg [I i.node,.lst 2 false ((insH i.heard ⟨e.frm,e.num⟩).map encH),.lst 7 false (i.msgs.map encM)],.agg (encH ⟨e.frm,e.num⟩),B true,I 0]) (step.trans ?_)).trans ?_⟩
       ·rw[if_pos q6,hK]
        exact ZmL R C (by omega) hasc hnm (by omega)
       ·rw[if_pos rfl];rfl
      | false=>
       refine ⟨false,false,(start2 _ (step.trans (by rw[q6,if_neg (by simp)]))).trans ?_⟩
       rw[if_neg (by simp)];rfl
   ·have e3:(e.to==i.node)=false:=by simp[q3]
    rw[if_pos (show e.to≠i.node from q3)];refine ⟨true,true,(Ze0 (v := .tup [.agg zI,.agg zH,B false,I 19]) hpl ?_ h).trans (by rw[fail])⟩
    rw[hnr];simp -implicitDefEqProofs only[Z3X,x0,x1,x2,x3,lw,ZdZ,Z02,fC,Z03,ez,Bool.true_xor,Bool.not_true,Bool.not_false,Z00,Bool.false_eq_true,if_false,if_true,le,Zge,fF,ez2,Z04,Nat.zero_add,e1,i0,e3,bI,bH,s2,s3,r2,r3]
    rfl
  ·have ez2:(formE e==0)=false:=by simp[z2]
   rw[if_pos (show formE e≠0 from z2)];refine ⟨true,true,(Ze0 (v := .tup [.agg zI,.agg zH,B false,I (formE e)]) hpl ?_ h).trans (by rw[fail])⟩
   rw[hnr];simp -implicitDefEqProofs only[Z3X,x0,x1,x2,x3,lw,ZdZ,Z02,fC,Z03,ez,Bool.true_xor,Bool.not_true,Bool.not_false,Z00,Bool.false_eq_true,if_false,if_true,le,Zge,fF,ez2,bI,bH,s2,s3,r2,r3]
   rfl
 ·have ez:(chkI i==0)=false:=by simp[z]
  rw[if_pos (show chkI i≠0 from z)];refine ⟨true,true,(Ze0 (v := .tup [.agg zI,.agg zH,B false,I 1]) hpl ?_ h).trans (by rw[fail])⟩
  rw[hnr];simp -implicitDefEqProofs only[Z3X,x0,x1,x2,x3,lw,ZdZ,Z02,fC,Z03,ez,Bool.true_xor,Bool.not_false,Z00,if_true,bI,bH,s2,s3,r2,r3]
  rfl
theorem ZmN{shp shr:List Sh}{F:Fun}{args:List AV}{v:AV}{h h1:Hp}(ha:plains args=true)(hF:closedX shp shr F args h=some (v,h1))(h':Hp):closedX shp shr F args h'=some (v,h'):=by
 unfold closedX at hF ⊢
 rw[Z38 ha] at hF ⊢
 dsimp only at hF ⊢
 cases q:F (nrms shp args) [] with
 | none=>rw[q] at hF;cases hF
 | some p=>
  rw[q] at hF;dsimp only at hF ⊢
  cases q2:cvt (!plains args) p.2 p.1 with
  | none=>rw[q2] at hF;cases hF
  | some w=>
   rw[q2] at hF;injection hF with hF
   injection hF with h1 h2;rw[← h1]
end Go.AM


namespace Go.AM
open Go.Proofs
theorem Zam{l:List Hrd}{x y:Hrd}:y ∈ insH l x↔y=x∨y ∈ l:=by
 unfold insH;rw[List.mem_append,List.mem_cons]
 have:y ∈ l↔y ∈ l.take (posH l x)∨y ∈ l.drop (posH l x):=by rw[← List.mem_append,List.take_append_drop]
 rw[this]
 constructor
 ·rintro (h | h | h)
  ·exact .inr (.inl h)
  ·exact .inl h
  ·exact .inr (.inr h)
 ·rintro (h | h | h)
  ·exact .inr (.inl h)
  ·exact .inl h
  ·exact .inr (.inr h)
theorem ZDc{l:List Hrd}{x:Hrd}(hs:AscH l)(hn:x ∉ l):AscH (insH l x):=by
 have hlo:∀y ∈ l.take (posH l x),ltH y x=true:=λy hy=>by
  obtain ⟨j,hj,he⟩:=List.mem_iff_getElem.1 hy;rw[List.length_take] at hj;rw[List.getElem_take] at he;have:=Zgy (x:=x) hs (j:=j) (y:=y) (by rw[List.getElem?_eq_some_iff];exact ⟨by omega,he⟩)
  rw[this];simp;omega
 have hhi:∀y ∈ l.drop (posH l x),ltH x y=true:=λy hy=>by
  obtain ⟨j,hj,he⟩:=List.mem_iff_getElem.1 hy;rw[List.length_drop] at hj;rw[List.getElem_drop] at he;have h1:=Zgy (x:=x) hs (j:=posH l x+j) (y:=y) (by rw[List.getElem?_eq_some_iff];exact ⟨by omega,he⟩)
  have h2:ltH y x=false:=by rw[h1];simp
  cases q:ltH x y with
  | true=>rfl
  | false=>
   have:=Zmj q h2
   subst this;exact absurd (List.mem_of_mem_drop hy) hn
 have hsp:AscH (l.take (posH l x)++l.drop (posH l x)):=by rw[List.take_append_drop];exact hs
 obtain ⟨p1,p2,p3⟩:=List.pairwise_append.1 hsp;unfold insH;refine List.pairwise_append.2 ⟨p1,List.pairwise_cons.2 ⟨hhi,p2⟩,λa ha b hb => ?_⟩
 rcases List.mem_cons.1 hb with rfl | hb
 ·exact hlo a ha
 ·exact p3 a ha b hb
theorem ZmO{node:Int}:∀{l:List Hrd}{p:Option Hrd},AscH l→(∀q,p=some q→∀x ∈ l,ltH q x=true)→(∀x ∈ l,isNode x.frm=true∧1≤x.num∧x.num≤1073741824∧x.frm≠node)→chkH node p l=0
 | [],p,_,_,_=>Zgx node p
 | x::r,p,hs,hp,hv=>by
  obtain ⟨v1,v2,v3,v4⟩:=hv x (by simp)
  obtain ⟨q1,q2⟩:=List.pairwise_cons.1 hs
  have e1:(!isNode x.frm||decide (x.num<1)||decide (x.num > 1073741824))=false:=by
   rw[v1];simp;omega
  have e2:lastLt p x=false:=by
   cases p with
   | none=>rfl
   | some q=>simp[lastLt,hp q rfl x (by simp)]
  rw[ZmF,if_neg (by rw[e1];simp),if_neg v4,if_neg (by rw[e2];simp)]
  exact ZmO q2 (λq hq y hy=>by injection hq with hq;subst hq;exact q1 y hy) (λy hy=>hv y (by simp[hy]))
def inI(i:Inbx)(e:Envl):Inbx:=⟨i.node,insH i.heard ⟨e.frm,e.num⟩,if i.msgs.contains e.msg=true then i.msgs else normL (i.msgs++[e.msg])⟩
theorem ZgK(i:Inbx)(e:Envl):((takeI i e).2.2.2≠0∧(takeI i e).1=⟨0,[],[]⟩∧(takeI i e).2.2.1=false) ∨
  (chkI i=0∧formE e=0∧e.to=i.node∧(⟨e.frm,e.num⟩:Hrd) ∈ i.heard∧takeI i e=(i,⟨e.frm,e.num⟩,false,0)) ∨
  (chkI i=0∧formE e=0∧e.to=i.node∧(⟨e.frm,e.num⟩:Hrd) ∉ i.heard∧i.heard.length≠256∧(i.msgs.contains e.msg=false→i.msgs.length≠64)∧takeI i e=(inI i e,⟨e.frm,e.num⟩,true,0)):=by
 unfold takeI;by_cases h1:chkI i=0
 ·rw[if_neg (λhh=>hh h1)]
  by_cases h2:formE e=0
  ·rw[if_neg (λhh=>hh h2)]
   by_cases h3:e.to=i.node
   ·rw[if_neg (λhh=>hh h3)]
    by_cases h4:i.heard.contains ⟨e.frm,e.num⟩=true
    ·rw[if_pos h4]
     exact .inr (.inl ⟨h1,h2,h3,List.contains_iff_mem.1 h4,rfl⟩)
    ·rw[if_neg h4]
     by_cases h5:i.heard.length=256∨(i.msgs.contains e.msg=false∧i.msgs.length=64)
     ·rw[if_pos h5]
      exact .inl ⟨by simp,rfl,rfl⟩
     ·rw[if_neg h5]
      exact .inr (.inr ⟨h1,h2,h3,λhh=>h4 (List.contains_iff_mem.2 hh),λhh=>h5 (.inl hh),λh6 h7=>h5 (.inr ⟨h6,h7⟩),rfl⟩)
   ·rw[if_pos h3];exact .inl ⟨by simp,rfl,rfl⟩
  ·rw[if_pos h2];exact .inl ⟨h2,rfl,rfl⟩
 ·rw[if_pos h1];exact .inl ⟨by simp,rfl,rfl⟩
theorem ZeH(i:Inbx)(e:Envl)(m:Msg):m ∈ (inI i e).msgs↔m ∈ i.msgs∨m=e.msg:=by
 unfold inI;dsimp only
 by_cases h:i.msgs.contains e.msg=true
 ·rw[if_pos h]
  constructor
  ·exact .inl
  ·rintro (h1 | rfl)
   ·exact h1
   ·exact List.contains_iff_mem.1 h
 ·rw[if_neg h,Zgs,List.mem_append,List.mem_singleton]
theorem ZDd(i:Inbx)(e:Envl)(h:normL i.msgs=i.msgs):normL (inI i e).msgs=(inI i e).msgs:=by
 unfold inI;dsimp only
 by_cases q:i.msgs.contains e.msg=true
 ·rw[if_pos q];exact h
 ·rw[if_neg q];exact Zet (Zes _)
theorem ZmP{i:Inbx}{e:Envl}(h1:chkI i=0)(h2:formE e=0)(h3:e.to=i.node)(h4:(⟨e.frm,e.num⟩:Hrd) ∉ i.heard)(h5:i.heard.length≠256)(h6:i.msgs.contains e.msg=false→i.msgs.length≠64):chkI (inI i e)=0:=by
 obtain ⟨k1,k2,k3,k4,k5,k6,k7⟩:=Z7c h1;obtain ⟨hasc,-,hval⟩:=Zal k4;obtain ⟨m1,m2,m3,m4,m5,m6⟩:=Zez h2;have hlen:(inI i e).heard.length=i.heard.length+1:=Zgz _ _
 have hml:(inI i e).msgs.length≤64∧(inI i e).msgs.length≤i.msgs.length+1:=by
  unfold inI;dsimp only
  by_cases q:i.msgs.contains e.msg=true
  ·rw[if_pos q];omega
  ·rw[if_neg q]
   have:=h6 (by simpa using q)
   have l:=Z4s (i.msgs++[e.msg]);simp only[List.length_append,List.length_singleton] at l
   omega
 refine ZeB k1 (by omega) hml.1 (ZmO (ZDc hasc h4) (λq hq=>by cases hq) λx hx => ?_) (Z5C.2 ⟨hml.1,λm hm => ?_⟩) (ZDd i e k6) (by omega)
 ·rcases Zam.1 hx with rfl | hx
  ·exact ⟨m2,m4,m5,λhh=>m6 (hh.trans h3.symm)⟩
  ·exact hval x hx
 ·rcases (ZeH i e m).1 hm with hm | rfl
  ·exact (Z5C.1 k5).2 m hm
  ·exact m1
end Go.AM


namespace Go.AM
open Go.Proofs
attribute [local congr] Z0i Z0j Z0k Z0l Z0m Z0n Z0o Z0p Z0q Z0r Z0s Z0t Z0u Z0v Z0w Z0x Z0y Z0z Z0A Z0B Z0C Z0D Z0E Z0F Z0G Z0H Z0I
def smallI(i:Inbx):Bool:=decide (i.heard.length≤20)&&decide (i.msgs.length≤20)
end Go.AM


namespace Go.AM
open Go.Proofs
def stepT(X:Inbx)(e:Envl):Inbx:=if (takeI X e).2.2.2=0 then (takeI X e).1 else X
theorem ZDe{X:Inbx}{e:Envl}(h:chkI X≠0∨formE e≠0∨e.to≠X.node):stepT X e=X:=by
 unfold stepT;rcases ZgK X e with ⟨h1,-⟩ | ⟨h1,h2,h3,-⟩ | ⟨h1,h2,h3,-⟩
 ·rw[if_neg h1]
 ·rcases h with h | h | h
  ·exact absurd h1 h
  ·exact absurd h2 h
  ·exact absurd h3 h
 ·rcases h with h | h | h
  ·exact absurd h1 h
  ·exact absurd h2 h
  ·exact absurd h3 h
abbrev hdE(e:Envl):Hrd:=⟨e.frm,e.num⟩
structure Behind(i X:Inbx)(P:List Envl):Prop where
 node:X.node=i.node
 ok:chkI X=0
 hrd:∀h,h ∈ X.heard↔h ∈ i.heard∨∃e ∈ P,formE e=0∧e.to=i.node∧hdE e=h
 msg:∀m,m ∈ X.msgs↔m ∈ i.msgs∨∃e ∈ P,formE e=0∧e.to=i.node∧hdE e ∉ i.heard∧e.msg=m
 lh:X.heard.length≤i.heard.length+P.length
 lm:X.msgs.length≤i.msgs.length+P.length
theorem Behind.step{i X:Inbx}{P:List Envl}{e:Envl}(B:Behind i X P)(hs:smallI i=true)(hP:P.length<40)(hu:∀e' ∈ P,hdE e'=hdE e→e'=e):Behind i (stepT X e) (P++[e]):=by
 have hs':=hs;unfold smallI at hs';simp only[Bool.and_eq_true,decide_eq_true_eq] at hs';have lh:=B.lh;have lm:=B.lm;by_cases g:formE e=0∧e.to=i.node
 ·obtain ⟨g1,g2⟩:=g
  rcases ZgK X e with ⟨h1,-⟩ | ⟨h1,h2,h3,h4,h5⟩ | ⟨h1,h2,h3,h4,h5,h6,h7⟩
  ·exfalso
   apply h1
   unfold takeI;rw[if_neg (λhh=>hh B.ok),if_neg (λhh=>hh g1),if_neg (λhh=>hh (g2.trans B.node.symm))]
   by_cases q:X.heard.contains (hdE e)=true
   ·rw[if_pos q]
   ·rw[if_neg q,if_neg (by omega)]
  ·have:stepT X e=X:=by unfold stepT;rw[h5];rfl
   rw[this];refine ⟨B.node,B.ok,λh => ?_,λm => ?_,by simp;omega,by simp;omega⟩
   ·rw[B.hrd]
    constructor
    ·rintro (h | ⟨e',he,r⟩)
     ·exact .inl h
     ·exact .inr ⟨e',by simp[he],r⟩
    ·rintro (h | ⟨e',he,r1,r2,r3⟩)
     ·exact .inl h
     ·rcases List.mem_append.1 he with he | he
      ·exact .inr ⟨e',he,r1,r2,r3⟩
      ·simp only[List.mem_singleton] at he;subst he
       rw[← r3];exact (B.hrd _).1 h4
   ·rw[B.msg]
    constructor
    ·rintro (h | ⟨e',he,r⟩)
     ·exact .inl h
     ·exact .inr ⟨e',by simp[he],r⟩
    ·rintro (h | ⟨e',he,r1,r2,r3,r4⟩)
     ·exact .inl h
     ·rcases List.mem_append.1 he with he | he
      ·exact .inr ⟨e',he,r1,r2,r3,r4⟩
      ·simp only[List.mem_singleton] at he;subst he
       rcases (B.hrd _).1 h4 with q | ⟨e2,he2,q1,q2,q3⟩
       ·exact absurd q r3
       ·have:=hu e2 he2 q3
        subst this;exact .inr ⟨e2,he2,q1,q2,r3,r4⟩
  ·have:stepT X e=inI X e:=by unfold stepT;rw[h7];rfl
   rw[this];have hlen:=ZeA X e
   rw[h7] at hlen;dsimp only at hlen
   refine ⟨B.node,ZmP h1 h2 h3 h4 h5 h6,λh => ?_,λm => ?_,by simp;omega,by simp;omega⟩
   ·rw[show h ∈ (inI X e).heard↔h=hdE e∨h ∈ X.heard from Zam,B.hrd]
    constructor
    ·rintro (h | h | ⟨e',he,r⟩)
     ·exact .inr ⟨e,by simp,g1,g2,h.symm⟩
     ·exact .inl h
     ·exact .inr ⟨e',by simp[he],r⟩
    ·rintro (h | ⟨e',he,r1,r2,r3⟩)
     ·exact .inr (.inl h)
     ·rcases List.mem_append.1 he with he | he
      ·exact .inr (.inr ⟨e',he,r1,r2,r3⟩)
      ·simp only[List.mem_singleton] at he;subst he
       exact .inl r3.symm
   ·rw[ZeH,B.msg]
    constructor
    ·rintro ((h | ⟨e',he,r⟩) | h)
     ·exact .inl h
     ·exact .inr ⟨e',by simp[he],r⟩
     ·exact .inr ⟨e,by simp,g1,g2,λhh=>h4 ((B.hrd _).2 (.inl hh)),h.symm⟩
    ·rintro (h | ⟨e',he,r1,r2,r3,r4⟩)
     ·exact .inl (.inl h)
     ·rcases List.mem_append.1 he with he | he
      ·exact .inl (.inr ⟨e',he,r1,r2,r3,r4⟩)
      ·simp only[List.mem_singleton] at he;subst he
       exact .inr r4.symm
 ·have:stepT X e=X:=ZDe (by
   by_cases q:formE e=0
   ·exact .inr (.inr λhh=>g ⟨q,hh.trans B.node⟩)
   ·exact .inr (.inl q))
  rw[this];refine ⟨B.node,B.ok,λh => ?_,λm => ?_,by simp;omega,by simp;omega⟩
  ·rw[B.hrd]
   constructor
   ·rintro (h | ⟨e',he,r⟩)
    ·exact .inl h
    ·exact .inr ⟨e',by simp[he],r⟩
   ·rintro (h | ⟨e',he,r1,r2,r3⟩)
    ·exact .inl h
    ·rcases List.mem_append.1 he with he | he
     ·exact .inr ⟨e',he,r1,r2,r3⟩
     ·simp only[List.mem_singleton] at he;subst he
      exact absurd ⟨r1,r2⟩ g
  ·rw[B.msg]
   constructor
   ·rintro (h | ⟨e',he,r⟩)
    ·exact .inl h
    ·exact .inr ⟨e',by simp[he],r⟩
   ·rintro (h | ⟨e',he,r1,r2,r3⟩)
    ·exact .inl h
    ·rcases List.mem_append.1 he with he | he
     ·exact .inr ⟨e',he,r1,r2,r3⟩
     ·simp only[List.mem_singleton] at he;subst he
      exact absurd ⟨r1,r2⟩ g
theorem Behind.all{i:Inbx}{L:List Envl}(hs:smallI i=true)(hL:L.length<40)(hu:∀a ∈ L,∀b ∈ L,hdE a=hdE b→a=b):∀(post pre:List Envl)(X:Inbx),L=pre++post→Behind i X pre→Behind i (post.foldl stepT X) L
 | [],pre,X,hc,B=>by
  rw[List.append_nil] at hc;subst hc
  exact B
 | e::post,pre,X,hc,B=>by
  have hlen:L.length=pre.length+post.length+1:=by rw[hc];simp;omega
  exact Behind.all hs hL hu post (pre++[e]) (stepT X e) (by simp[hc]) (B.step hs (by omega) λe' he' hh=>hu e' (by rw[hc];simp[he']) e (by rw[hc];simp) hh)
theorem ZmQ{node next:Int}:∀{l:List Envl}{p:Option Int},l.Pairwise (λa b=>a.num<b.num)→(∀q,p=some q→∀x ∈ l,q<x.num)→(∀x ∈ l,formE x=0∧x.frm=node∧x.num<next)→chkP node next p l=0
 | [],p,_,_,_=>Zgu node next p
 | x::r,p,hs,hp,hv=>by
  obtain ⟨v1,v2,v3⟩:=hv x (by simp)
  obtain ⟨q1,q2⟩:=List.pairwise_cons.1 hs;rw[Zgt,if_neg (λhh=>hh v1),if_neg (λhh=>hh v2)]
  refine (if_neg ?_).trans ?_
  ·cases p with
   | none=>simp;omega
   | some q=>have:=hp q rfl x (by simp);simp;omega
  exact ZmQ q2 (λq hq y hy=>by injection hq with hq;subst hq;exact q1 y hy) (λy hy=>hv y (by simp[hy]))
theorem ZDf{o:Outb}(h:chkO o=0)(f:Envl→Bool):chkO ⟨o.node,o.next,o.pend.filter f⟩=0:=by
 obtain ⟨h1,h2,h3,h4,h5⟩:=Z4t h;obtain ⟨k1,k2,k3⟩:=Z5D h5;unfold chkO;have e:(!isNode o.node||decide (o.next<1)||decide (o.next > 1073741825))=false:=by rw[h1];simp;omega
 have hl:=List.length_filter_le f o.pend;rw[if_neg (by rw[e];simp),if_neg (by dsimp only;omega)]
 exact ZmQ (k1.filter _) (λq hq=>by cases hq) (λx hx=>k3 x (List.mem_filter.1 hx).1)
theorem ZDg{j:Inbx}{x:Envl}(h:(takeI j x).2.2.2=0):chkI j=0∧x.to=j.node∧(takeI j x).2.1=hdE x∧(takeI j x).1.node=j.node∧chkI (takeI j x).1=0∧hdE x ∈ (takeI j x).1.heard∧(∀h ∈ j.heard,h ∈ (takeI j x).1.heard)∧(∀m ∈ j.msgs,m ∈ (takeI j x).1.msgs) ∧
  ∀h ∈ (takeI j x).1.heard,h ∈ j.heard∨(hdE x=h∧x.msg ∈ (takeI j x).1.msgs):=by
 rcases ZgK j x with ⟨h1,-⟩ | ⟨h1,h2,h3,h4,h5⟩ | ⟨h1,h2,h3,h4,h5,h6,h7⟩
 ·exact absurd h h1
 ·rw[h5]
  exact ⟨h1,h3,rfl,rfl,h1,h4,λ_ q=>q,λ_ q=>q,λ_ q => .inl q⟩
 ·rw[h7]
  refine ⟨h1,h3,rfl,rfl,ZmP h1 h2 h3 h4 h5 h6,Zam.2 (.inl rfl),λ_ q=>Zam.2 (.inr q),λm hm=>(ZeH j x m).2 (.inl hm),λh q => ?_⟩
  rcases Zam.1 q with q | q
  ·exact .inr ⟨q.symm,(ZeH j x _).2 (.inr rfl)⟩
  ·exact .inl q
theorem ZDh{p:Outb}{hd:Hrd}(h:chkO p=0)(h1:hd.frm=p.node)(h2:1≤hd.num)(h3:hd.num<p.next):(heardO p hd).1=⟨p.node,p.next,p.pend.filter λx => !(x.num==hd.num)⟩:=by
 unfold heardO;have e:(decide (hd.num<1)||decide (hd.num≥p.next))=false:=by simp;omega
 rw[if_neg (λhh=>hh h),if_neg (λhh=>hh h1),if_neg (by rw[e];simp)]
structure ExF(p:Outb)(j:Inbx)(p':Outb)(j':Inbx)(post:List Envl):Prop where
 nd:p'.node=p.node
 nx:p'.next=p.next
 jn:j'.node=j.node
 co:chkO p'=0
 ci:chkI j'=0
 sub:∀y ∈ p'.pend,y ∈ p.pend
 gone:∀y ∈ p.pend,y ∉ p'.pend→hdE y ∈ j'.heard∧∃x ∈ post,x.num=y.num
 hk:∀h ∈ j.heard,h ∈ j'.heard
 mm:∀m ∈ j.msgs,m ∈ j'.msgs
 hb:∀h ∈ j'.heard,h ∈ j.heard∨∃x ∈ post,hdE x=h∧x.msg ∈ j'.msgs
theorem ZgL{ar an:Nat}:∀(post:List Envl)(k:Nat)(p:Outb)(j:Inbx),chkO p=0→chkI j=0→(∀x ∈ post,x.frm=p.node∧1≤x.num∧x.num<p.next)→(exL ar an k post p j).2.2=0→
  ExF p j (exL ar an k post p j).1 (exL ar an k post p j).2.1 post∧(∀x ∈ post,x.num ∉ []) ∧
   ((∀m,k≤m→m<k+post.length→bitN ar m=true∧bitN an m=true)→∀x ∈ post,hdE x ∈ (exL ar an k post p j).2.1.heard∧∀y ∈ (exL ar an k post p j).1.pend,y.num≠x.num)
 | [],k,p,j,hp,hj,_,_=>⟨⟨rfl,rfl,rfl,hp,hj,λ_ q=>q,λ_ q r=>absurd q r,λ_ q=>q,λ_ q=>q,λ_ q => .inl q⟩,by simp,by simp⟩
 | x::r,k,p,j,hp,hj,hv,he=>by
  rw[exL] at he ⊢
  by_cases q1:bitN ar k=false
  ·rw[if_pos q1] at he ⊢
   obtain ⟨F,-,G⟩:=ZgL r (k+1) p j hp hj (λy hy=>hv y (by simp[hy])) he
   refine ⟨⟨F.nd,F.nx,F.jn,F.co,F.ci,F.sub,λy h1 h2 => ?_,F.hk,F.mm,λh q => ?_⟩,by simp,λhb => ?_⟩
   ·obtain ⟨a,b,c,d⟩:=F.gone y h1 h2
    exact ⟨a,b,by simp[c],d⟩
   ·rcases F.hb h q with q | ⟨y,hy,r⟩
    ·exact .inl q
    ·exact .inr ⟨y,by simp[hy],r⟩
   ·have:=(hb k (Nat.le_refl _) (by simp)).1
    rw[q1] at this;cases this
  ·rw[if_neg q1] at he ⊢
   by_cases q2:(takeI j x).2.2.2≠0
   ·rw[if_pos q2] at he
    exact absurd he q2
   ·rw[if_neg q2] at he ⊢
    have q2':(takeI j x).2.2.2=0:=Classical.byContradiction q2;obtain ⟨-,t2,t3,t4,t5,t6,t7,t8,t9⟩:=ZDg q2';rw[t3] at he ⊢
    obtain ⟨v1,v2,v3⟩:=hv x (by simp)
    obtain ⟨p1,hp1⟩:∃p1,p1=if bitN an k=true then (heardO p (hdE x)).1 else p:=⟨_,rfl⟩
    have f1:p1.node=p.node∧p1.next=p.next∧chkO p1=0∧(∀y ∈ p1.pend,y ∈ p.pend)∧(∀y ∈ p.pend,y ∉ p1.pend→y.num=x.num)∧(bitN an k=true→∀y ∈ p1.pend,y.num≠x.num):=by
     rw[hp1];by_cases q3:bitN an k=true
     ·rw[if_pos q3,ZDh hp v1 v2 v3]
      refine ⟨rfl,rfl,ZDf hp _,λy hy=>(List.mem_filter.1 hy).1,λy hy hn => ?_,λ_ y hy => ?_⟩
      ·refine Classical.byContradiction λhc=>hn (List.mem_filter.2 ⟨hy, ?_⟩)
       simp[hc]
      ·have:=(List.mem_filter.1 hy).2
       simpa using this
     ·rw[if_neg q3]
      exact ⟨rfl,rfl,hp,λ_ q=>q,λ_ q r=>absurd q r,λq=>absurd q q3⟩
    obtain ⟨g1,g2,g3,g4,g5,g6⟩:=f1;rw[← hp1] at he ⊢
    obtain ⟨F,-,G⟩:=ZgL r (k+1) p1 (takeI j x).1 g3 t5 (λy hy=>by rw[g1,g2];exact hv y (by simp[hy])) he
    refine ⟨⟨F.nd.trans g1,F.nx.trans g2,F.jn.trans t4,F.co,F.ci,λy hy=>g4 y (F.sub y hy),λy h1 h2 => ?_,λh q=>F.hk h (t7 h q),λm q=>F.mm m (t8 m q),λh q => ?_⟩,by simp,λhb y hy => ?_⟩
    ·by_cases hy:y ∈ p1.pend
     ·obtain ⟨a,b,c,d⟩:=F.gone y hy h2
      exact ⟨a,b,by simp[c],d⟩
     ·have hn:=g5 y h1 hy
      obtain ⟨-,-,-,-,cp⟩:=Z4t hp;have hyf:=((Z5D cp).2.2 y h1).2.1;have:hdE y=hdE x:=by simp only[hdE,hn,hyf,v1]
      exact ⟨by rw[this];exact F.hk _ t6,x,by simp,hn.symm⟩
    ·rcases F.hb h q with q | ⟨y,hy,r⟩
     ·rcases t9 h q with q | ⟨a,b⟩
      ·exact .inl q
      ·exact .inr ⟨x,by simp,a,F.mm _ b⟩
     ·exact .inr ⟨y,by simp[hy],r⟩
    ·rcases List.mem_cons.1 hy with rfl | hy
     ·refine ⟨F.hk _ t6,λz hz => ?_⟩
      exact g6 (hb k (Nat.le_refl _) (by simp)).2 z (F.sub z hz)
     ·exact G (λm h1 h2=>hb m (by omega) (by simp;omega)) y hy
theorem ZDi{o:Outb}{i:Inbx}{ar an:Nat}(h:(exO o i ar an).2.2=0):chkO o=0∧chkI i=0∧ExF o i (exO o i ar an).1 (exO o i ar an).2.1 (againL i.node o.pend) ∧
  ((∀m,m<(againL i.node o.pend).length→bitN ar m=true∧bitN an m=true)→∀x ∈ againL i.node o.pend,hdE x ∈ (exO o i ar an).2.1.heard∧∀y ∈ (exO o i ar an).1.pend,y.num≠x.num):=by
 unfold exO at h ⊢
 by_cases q1:chkO o≠0∨chkI i≠0
 ·rw[if_pos q1] at h;exact absurd h (by decide)
 ·rw[if_neg q1] at h ⊢
  have c1:chkO o=0:=Classical.byContradiction λhh=>q1 (.inl hh)
  have c2:chkI i=0:=Classical.byContradiction λhh=>q1 (.inr hh)
  by_cases q2:o.node=i.node
  ·rw[if_pos q2] at h;exact absurd h (by decide)
  ·rw[if_neg q2] at h ⊢
   obtain ⟨-,-,-,-,cp⟩:=Z4t c1;have hval:=(Z5D cp).2.2
   obtain ⟨F,-,G⟩:=ZgL (againL i.node o.pend) 0 o i c1 c2 (λx hx=>by
    have hm:=(List.mem_filter.1 hx).1;obtain ⟨a,b,c⟩:=hval x hm;obtain ⟨-,-,-,d,-⟩:=Zez a;exact ⟨b,d,c⟩) h
   exact ⟨c1,c2,F,λhb=>G λm _ h2=>hb m (by omega)⟩
theorem ZDj{o:Outb}(h:chkO o=0){x y:Envl}(hx:x ∈ o.pend)(hy:y ∈ o.pend)(e:x.num=y.num):x=y:=by
 obtain ⟨-,-,-,-,cp⟩:=Z4t h;have hs:=(Z5D cp).1;obtain ⟨j,hj⟩:=List.mem_iff_getElem?.1 hx;obtain ⟨k,hk⟩:=List.mem_iff_getElem?.1 hy;obtain ⟨j1,rfl⟩:=List.getElem?_eq_some_iff.1 hj;obtain ⟨k1,rfl⟩:=List.getElem?_eq_some_iff.1 hk;rcases Nat.lt_trichotomy j k with q | q | q
 ·have:=List.pairwise_iff_getElem.1 hs _ _ j1 k1 q;omega
 ·subst q;rfl
 ·have:=List.pairwise_iff_getElem.1 hs _ _ k1 j1 q;omega
structure Aft(o:Outb)(i:Inbx)(p:Outb)(j:Inbx):Prop where
 nd:p.node=o.node
 nx:p.next=o.next
 jn:j.node=i.node
 sub:∀y ∈ p.pend,y ∈ o.pend
 gone:∀y ∈ o.pend,y ∉ p.pend→y.to=i.node∧hdE y ∈ j.heard
 mm:∀m ∈ i.msgs,m ∈ j.msgs
 hb:∀h ∈ j.heard,h ∈ i.heard∨∃x ∈ o.pend,hdE x=h∧x.msg ∈ j.msgs
theorem Aft.refl(o:Outb)(i:Inbx):Aft o i o i:=⟨rfl,rfl,rfl,λ_ q=>q,λ_ q r=>absurd q r,λ_ q=>q,λ_ q => .inl q⟩
theorem Aft.step{o:Outb}{i:Inbx}{p:Outb}{j:Inbx}{ar an:Nat}(A:Aft o i p j)(hc:chkO o=0)(h:(exO p j ar an).2.2=0):Aft o i (exO p j ar an).1 (exO p j ar an).2.1:=by
 obtain ⟨c1,c2,F,-⟩:=ZDi h;refine ⟨F.nd.trans A.nd,F.nx.trans A.nx,F.jn.trans A.jn,λy hy=>A.sub y (F.sub y hy),λy hy hn => ?_,λm hm=>F.mm m (A.mm m hm),λh hh => ?_⟩
 ·by_cases q:y ∈ p.pend
  ·obtain ⟨g1,x,hx,g2⟩:=F.gone y q hn
   obtain ⟨hxp,hxt⟩:=List.mem_filter.1 hx;have:x=y:=ZDj c1 hxp q g2;subst this;exact ⟨by rw[← A.jn];exact eq_of_beq hxt,g1⟩
  ·obtain ⟨a,b⟩:=A.gone y hy q
   exact ⟨a,F.hk _ b⟩
 ·rcases F.hb h hh with q | ⟨x,hx,e,m⟩
  ·rcases A.hb h q with q | ⟨x,hx,e,m⟩
   ·exact .inl q
   ·exact .inr ⟨x,hx,e,F.mm _ m⟩
  ·exact .inr ⟨x,A.sub x (List.mem_filter.1 hx).1,e,m⟩
end Go.AM


namespace Go.AM
open Go.Proofs
attribute [local congr] Z0i Z0j Z0k Z0l Z0m Z0n Z0o Z0p Z0q Z0r Z0s Z0t Z0u Z0v Z0w Z0x Z0y Z0z Z0A Z0B Z0C Z0D Z0E Z0F Z0G Z0H Z0I
structure TkInv(h H:Hp)(X:Inbx)(b1 b2:Bool):Prop where
 ext:∃g,H=h++g
 g0:H[h.length]? = some (.arr 3 [zI] true false)
 g1:H[h.length+1]? = some (bxI b1 b2 X)
theorem TkInv.app{h H:Hp}{X:Inbx}{b1 b2:Bool}(I:TkInv h H X b1 b2)(g:Hp):TkInv h (H++g) X b1 b2:=by
 obtain ⟨⟨g',rfl⟩,q1,q2⟩:=I;exact ⟨⟨g'++g,by rw[List.append_assoc]⟩,Z0a q1,Z0a q2⟩
theorem TkInv.put{h H:Hp}{X Y:Inbx}{b1 b2 c1 c2:Bool}(I:TkInv h H X b1 b2):TkInv h (H.set (h.length+1) (bxI c1 c2 Y)) Y c1 c2:=by
 obtain ⟨⟨g',rfl⟩,q1,q2⟩:=I;refine ⟨⟨g'.set 1 (bxI c1 c2 Y), ?_⟩,getSetN q1 (by omega),getSelfN q2⟩
 rw[List.set_append_right _ _ (by omega),show h.length+1-h.length=1 by omega]
end Go.AM


namespace Go.AM
open Go.Proofs
section
variable {β:Type} {P:Program} {T:Tab} {D:DTab} {N:Nat} {K:Kb β}
section
variable {x0:AV→Kb β} {x2:Kb β} {ps:List (AV × List Envl)} {nl:Bool}
end
end
attribute [local congr] Z0i Z0j Z0k Z0l Z0m Z0n Z0o Z0p Z0q Z0r Z0s Z0t Z0u Z0v Z0w Z0x Z0y Z0z Z0A Z0B Z0C Z0D Z0E Z0F Z0G Z0H Z0I
end Go.AM


namespace Go.AM
open Go.Proofs
section
variable {β:Type} {P:Program} {T:Tab} {D:DTab} {N:Nat} {K:Kb β}
end
attribute [local congr] Z0i Z0j Z0k Z0l Z0m Z0n Z0o Z0p Z0q Z0r Z0s Z0t Z0u Z0v Z0w Z0x Z0y Z0z Z0A Z0B Z0C Z0D Z0E Z0F Z0G Z0H Z0I
theorem ZmR(b:Bool)(o:Outb)(hl:o.pend.length<100000)(h:Hp):Z4g [ob b o] h=some (ob false o,h):=by
 refine (Zyo (a0:=ob b o) (v:=ob false o) rfl ?_ h).trans rfl;rw[show nrm (.a [none,none,some 10]) (ob b o)=ob b o from rfl];obtain ⟨node,next,pend⟩:=o;dsimp only at hl;obtain ⟨LP,hLP⟩:∃LP:AV,LP=SL 10 encV b pend:=⟨_,rfl⟩;rw[show ob b ⟨node,next,pend⟩ = .agg [I node,I next,LP] by rw[hLP]]
 have x0:∀k:Kb AV,effK (boxE 3 (.agg [I node,I next,LP]) ([]:Hp).length) [] k=k (.ptr 0 0 0 1) [.arr 3 [[I node,I next,LP]] true false]:=λk=>by rw[hLP];rfl
 have x1:∀k:Kb AV,effK (boxE 3 (.agg zO) ([AObj.arr 3 [[I node,I next,LP]] true false]:Hp).length) [.arr 3 [[I node,I next,LP]] true false] k=k (.ptr 1 0 0 1) [.arr 3 [[I node,I next,LP]] true false,.arr 3 [zO] true false]:=λk=>rfl
 have x2:∀k:Kb AV,effK (bsE 10 zE 0 [] ([AObj.arr 3 [[I node,I next,LP]] true false,.arr 3 [zO] true false]:Hp).length) [.arr 3 [[I node,I next,LP]] true false,.arr 3 [zO] true false] k=k (.sl 10 2 0 0 0 true) [.arr 3 [[I node,I next,LP]] true false,.arr 3 [zO] true false,.arr 10 [] true false]:=λk=>rfl
 obtain ⟨H2,hH2⟩:∃H2:Hp,H2=[AObj.arr 3 [[I node,I next,LP]] true false,.arr 3 [zO] true false,.arr 10 [] true false]:=⟨_,rfl⟩;rw[← hH2] at x2;have l2:∀k:KV,ldK 1 false (.ptr 0 0 2 1) H2 k=k LP:=λk=>by rw[hH2,hLP];rfl
 have rP:readSl H2 LP=some (pend.map encV):=by rw[hLP];rfl
 have aP:((pend.map encV).all λe=>e.length==10)=true:=by rw[List.all_eq_true];intro e he;obtain ⟨x,-,rfl⟩:=List.mem_map.1 he;rfl
 have iP:idsOf LP=[]:=by rw[hLP];rfl
 have d2:∀k:Kb AV,effK (appE 10 80 (.sl 10 2 0 0 0 true) LP H2 H2.length) H2 k=k (.sl 10 3 0 pend.length pend.length false) (H2++[.arr 10 (pend.map encV) true false]):=λk=>by
  have:appE 10 80 (.sl 10 2 0 0 0 true) LP H2 H2.length=some (.sl 10 3 0 pend.length pend.length false,⟨[],[.arr 10 (pend.map encV) true false],[2]⟩):=by
   have g2:H2[2]? = some (.arr 10 [] true false):=by rw[hH2];rfl
   have hl3:H2.length=3:=by rw[hH2];rfl
   unfold appE;rw[rP]
   simp only[g2,List.length_map,List.length_nil,hl3];rw[if_pos ⟨trivial,trivial,by omega,aP⟩,if_pos ⟨trivial,by omega,.inl trivial⟩]
   simp[iP]
  rw[this];rfl
 obtain ⟨H3,hH3⟩:∃H3:Hp,H3=H2++[AObj.arr 10 (pend.map encV) true false]:=⟨_,rfl⟩;rw[← hH3] at d2;obtain ⟨c,hc⟩:∃c:List AV,c=[I node,I next,.sl 10 3 0 pend.length pend.length false]:=⟨_,rfl⟩;obtain ⟨H4,hH4⟩:∃H4:Hp,H4=H3.set 0 (.arr 3 [c] true false):=⟨_,rfl⟩
 have s0:∀k:Kb AV,effK (stE 1 (.ptr 0 0 2 1) (.sl 10 3 0 pend.length pend.length false) H3) H3 k=k .u H4:=λk=>by
  have:stE 1 (.ptr 0 0 2 1) (.sl 10 3 0 pend.length pend.length false) H3=some (.u,⟨[(0,.arr 3 [c] true false)],[],[0]⟩):=by
   rw[Z0f,hH3,hH2,hc,hLP];simp[putAt]
  rw[Z0d this,hH4]
 have l4:∀k:KV,ldK 3 true (.ptr 0 0 0 1) H4 k=k (.agg c):=λk=>by rw[hH4,hH3,hH2,hc];rfl
 obtain ⟨H5,hH5⟩:∃H5:Hp,H5=H4.set 1 (.arr 3 [c] true false):=⟨_,rfl⟩
 have s1:∀k:Kb AV,effK (stE 3 (.ptr 1 0 0 1) (.agg c) H4) H4 k=k .u H5:=λk=>by
  have:stE 3 (.ptr 1 0 0 1) (.agg c) H4=some (.u,⟨[(1,.arr 3 [c] true false)],[],[1]⟩):=by
   rw[Z0f,hH4,hH3,hH2,hc];simp[putAt]
  rw[Z0d this,hH5]
 have l5:∀k:KV,ldK 3 true (.ptr 1 0 0 1) H5 k=k (.agg c):=λk=>by rw[hH5,hH4,hH3,hH2,hc];rfl
 have g3:H5[3]? = some (.arr 10 (pend.map encV) true false):=by rw[hH5,hH4,hH3,hH2];rfl
 simp -implicitDefEqProofs only[ZaQ,x0,x1,x2,Z04,Nat.zero_add,l2,d2,s0,l4,s1,l5]
 rw[hc];simp only[Z3s,Z1b,Z1a,cvt_s];rw[Z0X (st:=false) (es:=pend.map encV) (nl:=false) g3 (by simp) (by simp) (Z0U λx=>by simp[encV,encM])]
 rfl
abbrev Bts:=Fin 18446744073709551616 × Fin 18446744073709551616
def encB(p:Bts):List AV:=[.s (.int .u64 (p.1.1:Int)),.s (.int .u64 (p.2.1:Int))]
theorem has_Bits{cs:List AV}(h:HasTs [.int .u64,.int .u64] cs):∃p:Bts,cs=encB p:=by
 simp only[HasTs,HasT] at h;obtain ⟨_,_,rfl,⟨x,rfl,hx⟩,_,_,rfl,⟨y,rfl,hy⟩,rfl⟩:=h
 have h1:=ZmJ hx;have h2:=ZmJ hy;refine ⟨(⟨x.toNat,by omega⟩,⟨y.toNat,by omega⟩), ?_⟩
 unfold encB;dsimp only
 rw[Int.toNat_of_nonneg h1.1,Int.toNat_of_nonneg h2.1]
end Go.AM


namespace Go.AM
open Go.Proofs
section
variable {β:Type} {P:Program} {T:Tab} {D:DTab} {N:Nat} {K:Kb β}
end
attribute [local congr] Z0i Z0j Z0k Z0l Z0m Z0n Z0o Z0p Z0q Z0r Z0s Z0t Z0u Z0v Z0w Z0x Z0y Z0z Z0A Z0B Z0C Z0D Z0E Z0F Z0G Z0H Z0I
def OwnI(h:Hp)(v:AV)(W:List Int):Prop:=(W=[]∧v=nilS)∨∃id,v = .sl 1 id 0 W.length W.length false∧h[id]? = some (.arr 1 (W.map enI) true false)
theorem OwnI.cvt{h:Hp}{v:AV}{W:List Int}(O:OwnI h v W):∃a,cvt false h v=some a∧∃b,nrm (.l 1) a = .lst 1 b (W.map enI):=by
 rcases O with ⟨rfl,rfl⟩ | ⟨id,rfl,h1⟩
 ·exact ⟨nilS,rfl,true,rfl⟩
 ·exact ⟨.lst 1 false (W.map enI),Z0X h1 (by simp) (by simp) (Z0U λx=>by simp),false,rfl⟩
theorem OwnI.len{β:Type}{h:Hp}{v:AV}{W:List Int}(O:OwnI h v W)(k:Go.AM.K β):lenK v k=k (I W.length):=by
 rcases O with ⟨rfl,rfl⟩ | ⟨id,rfl,h1⟩<;>rfl
theorem OwnI.mono{h h':Hp}{v:AV}{W:List Int}(O:OwnI h v W)(hk:∀j<h.length,h'[j]? = h[j]?):OwnI h' v W:=by
 rcases O with O | ⟨id,rfl,h1⟩
 ·exact .inl O
 ·exact .inr ⟨id,rfl,by rw[hk id (List.getElem?_eq_some_iff.1 h1).1,h1]⟩
end Go.AM


namespace Go.AM
open Go.Proofs
section
variable {β:Type} {P:Program} {T:Tab} {D:DTab} {N:Nat} {K:Kb β}
end
attribute [local congr] Z0i Z0j Z0k Z0l Z0m Z0n Z0o Z0p Z0q Z0r Z0s Z0t Z0u Z0v Z0w Z0x Z0y Z0z Z0A Z0B Z0C Z0D Z0E Z0F Z0G Z0H Z0I
def one(p:Prop) [Decidable p]:Int:=if p then 1 else 0
end Go.AM


namespace Go.AM
open Go.Proofs
section
variable {β:Type} {P:Program} {T:Tab} {D:DTab} {N:Nat} {K:Kb β}
end
attribute [local congr] Z0i Z0j Z0k Z0l Z0m Z0n Z0o Z0p Z0q Z0r Z0s Z0t Z0u Z0v Z0w Z0x Z0y Z0z Z0A Z0B Z0C Z0D Z0E Z0F Z0G Z0H Z0I
theorem eqs_V(x y:Envl)(n:Bool)(h:Hp){β:Type}(k:Go.AM.K β):eqK Tryz.prog n 52 (.agg (encV x)) (.agg (encV y)) h k=k (B (xor n (x==y))):=by
 obtain ⟨a0,a1,a2,a3,a4,a5,a6,a7,a8,a9⟩:=x;obtain ⟨b0,b1,b2,b3,b4,b5,b6,b7,b8,b9⟩:=y;simp only[encV,Zpm];congr 4;rw[Bool.eq_iff_iff];simp[Envl.mk.injEq,Msg.mk.injEq]
section
variable {P:Program} {kt:TypeId}
end
end Go.AM


namespace Go.AM
open Go.Proofs
attribute [local congr] Z0i Z0j Z0k Z0l Z0m Z0n Z0o Z0p Z0q Z0r Z0s Z0t Z0u Z0v Z0w Z0x Z0y Z0z Z0A Z0B Z0C Z0D Z0E Z0F Z0G Z0H Z0I
end Go.AM


namespace Go.AM
open Go.Proofs
section
variable {β:Type} {P:Program} {T:Tab} {D:DTab} {N:Nat} {K:Kb β}
theorem ZDk{T:Tab}{D:DTab}{N:Nat}{x0:Hp→Option AV}{xr:Kb AV}{a b:List Envl}{p q:Bool}{h:Hp}(hab:a.length=b.length)(hl:a.length<1000000)(hx:x0 h=xr (B true) h)(heq:∀(x y:Envl)(k:KV),eqK Tryz.prog true 52 (.agg (encV x)) (.agg (encV y)) h k=k (B (!(x==y)))):∀(n i:Nat),i≤a.length→a.length<i+n→
  Z4N Tryz.prog T D N x0 xr n (.lst 10 p (a.map encV)) (.lst 10 q (b.map encV)) (I i) h=xr (B (decide (a.drop i=b.drop i))) h:=by
 intro n;induction n with
 | zero=>intro i h1 h2;omega
 | succ n ih=>
  intro i h1 h2;show Z8e Tryz.prog T D N (Z4N Tryz.prog T D N x0 xr n) x0 xr _ _ _ h=_
  rcases Nat.lt_or_ge i a.length with hi | hi
  ·have c1:((i:Int)<(a.length:Int)):=by omega
   have hw:IntKind.i64.wrap ((i:Int)+1)=((i+1:Nat):Int):=by rw[wrap64 (by omega) (by omega)];omega
   have ia:∀k:KV,iaK 10 (.lst 10 p (a.map encV)) (I i) k=k (.ep (encV a[i]) 0):=λk=>Z0M i rfl (List.getElem?_eq_getElem hi) k
   have ib:∀k:KV,iaK 10 (.lst 10 q (b.map encV)) (I i) k=k (.ep (encV (b[i]'(by omega))) 0):=λk=>Z0M i rfl (List.getElem?_eq_getElem (by omega)) k
   have ld:∀(x:Envl)(k:KV),ldK 10 true (.ep (encV x) 0) h k=k (.agg (encV x)):=λx k=>rfl
   rw[List.drop_eq_getElem_cons hi,List.drop_eq_getElem_cons (show i<b.length by omega)]
   simp -implicitDefEqProofs only[Z8e,Z07,List.length_map,Z05,c1,decide_true,Z00,if_true,ia,ib,ld,heq,Z0e,hw,ih (i+1) (by omega) (by omega),List.cons.injEq,Bool.decide_and]
   by_cases e:a[i]=b[i]
   ·simp[e]
   ·simp[e]
  ·have:i=a.length:=by omega
   subst this;have c1:¬((a.length:Int)<(a.length:Int)):=by omega
   simp -implicitDefEqProofs only[Z8e,Z07,List.length_map,Z05,c1,decide_false,Z00,Bool.false_eq_true,if_false,hx]
   rw[List.drop_eq_nil_of_le (Nat.le_refl _),List.drop_eq_nil_of_le (by omega)]
   rfl
theorem ZDl(a b:List Envl)(p q:Bool)(hl:a.length<1000000)(heq:∀(x y:Envl) (h:Hp) (k:KV),eqK Tryz.prog true 52 (.agg (encV x)) (.agg (encV y)) h k=k (B (!(x==y))))(h:Hp):Z76 [.lst 10 p (a.map encV),.lst 10 q (b.map encV)] h=some (B (decide (a=b)),h):=by
 refine ZAN rfl ?_ h;simp only[nrm,nrmC];by_cases hab:a.length=b.length
 ·have e:((a.length:Int)==(b.length:Int))=true:=by simp[hab]
  have:=ZDk (T:=Z75) (D:=Z74) (N:=NN) (x0:=λh=>Zbm Tryz.prog Z75 Z74 NN (λv g=>cvt false g v) h) (xr:=λw13_4 h=>cvt false h w13_4) (a:=a) (b:=b) (p:=p) (q:=q) (h:=[]) hab hl rfl (λx y k=>heq x y [] k) NN 0 (by omega) (by have:=NN_ge;omega)
  simp only[List.drop_zero] at this;simp -implicitDefEqProofs only[Z5Y,Z07,List.length_map,Z03,e,Bool.true_xor,Bool.not_true,Z00,Bool.false_eq_true,if_false];exact this
 ·have e:((a.length:Int)==(b.length:Int))=false:=by simp;omega
  have hne:a≠b:=λh=>hab (by rw[h])
  simp[Z5Y,e,hne]
end
attribute [local congr] Z0i Z0j Z0k Z0l Z0m Z0n Z0o Z0p Z0q Z0r Z0s Z0t Z0u Z0v Z0w Z0x Z0y Z0z Z0A Z0B Z0C Z0D Z0E Z0F Z0G Z0H Z0I
end Go.AM


namespace Go.AM
open Go.Proofs
attribute [local congr] Z0i Z0j Z0k Z0l Z0m Z0n Z0o Z0p Z0q Z0r Z0s Z0t Z0u Z0v Z0w Z0x Z0y Z0z Z0A Z0B Z0C Z0D Z0E Z0F Z0G Z0H Z0I
def fewO(n:Nat):Bool:=decide (n≤14)||n==65
theorem ZDm(c:Bool)(o:Outb)(h:Hp):Z9W [ob c o] h=some (B (fewO o.pend.length),h):=by
 refine Zyd (a0:=ob c o) rfl ?_ h;rw[show nrm (.a [none,none,some 10]) (ob c o)=ob c o from rfl];have bx:∀k:Kb AV,effK (boxE 3 (ob c o) ([]:Hp).length) [] k=k (.ptr 0 0 0 1) [bxO c o]:=λk=>rfl
 have l2:∀k:KV,ldK 1 false (.ptr 0 0 2 1) [bxO c o] k=k (SL 10 encV c o.pend):=λk=>rfl
 have ln:∀k:KV,lenK (SL 10 encV c o.pend) k=k (I o.pend.length):=λk=>by rw[SL,Z07,List.length_map]
 have e1:decide ((o.pend.length:Int)≤14)=decide (o.pend.length≤14):=by rw[decide_eq_decide];omega
 have e3:((o.pend.length:Int)==65)=(o.pend.length==65):=by rw[Bool.eq_iff_iff,beq_iff_eq,beq_iff_eq];omega
 simp -implicitDefEqProofs only[ZaN,bx,Z04,Nat.zero_add,l2,ln,Z10,Z03,Bool.false_xor,Z0J,e1,e3]
 rfl
theorem ZDn{x0:Hp→Option AV}{xr:Kb AV}{X:Int→Option AV}{o:Outb}{c1:Bool}(hl:o.pend.length<1000000)(h0:∀h,x0 h=X 0)(hr:∀(e:Int) h,xr (I e) h=X e):∀(n:Nat)(pre post:List Envl)(h:Hp),o.pend=pre++post→post.length<n→h[0]? = some (bxO c1 o)→
  Z4C Tryz.prog Z3F Z5q NN x0 xr n (.ptr 0 0 0 1) (I pre.length) h=X (chkP o.node o.next (pre.getLast?.map (·.num)) post):=by
 intro n;induction n with
 | zero=>intro pre post h _ h2;omega
 | succ n ih=>
  intro pre post h hc hn g0;show Z7T Tryz.prog Z3F Z5q NN (Z4C Tryz.prog Z3F Z5q NN x0 xr n) x0 xr _ _ h=_
  have g1:∀k:KV,ldK 1 false (.ptr 0 0 2 1) h k=k (SL 10 encV c1 o.pend):=λk=>by rw[Z01,g0];rfl
  have ln:∀k:KV,lenK (SL 10 encV c1 o.pend) k=k (I o.pend.length):=λk=>by rw[SL,Z07,List.length_map]
  cases post with
  | nil=>
   have:o.pend=pre:=by simpa using hc
   have c1:¬((pre.length:Int)<(o.pend.length:Int)):=by rw[this];omega
   simp -implicitDefEqProofs only[Z7T,Z04,Nat.zero_add,g1,ln,Z05,c1,decide_false,Z00,Bool.false_eq_true,if_false,h0,Zgu]
  | cons x post=>
   have hx:o.pend[pre.length]? = some x:=by rw[hc];simp
   have hi:pre.length<o.pend.length:=by rw[hc];simp
   have hlt:((pre.length:Int)<(o.pend.length:Int)):=by omega
   have hw:IntKind.i64.wrap ((pre.length:Int)+1)=(((pre++[x]).length:Nat):Int):=by rw[wrap64 (by omega) (by omega)];simp
   have ic:∀k:KV,iaK 10 (SL 10 encV c1 o.pend) (I pre.length) k=k (.ep (encV x) 0):=λk=>Z0M pre.length rfl hx k
   have ld:∀k:KV,ldK 10 true (.ep (encV x) 0) h k=k (.agg (encV x)):=λk=>rfl
   obtain ⟨y,hy⟩:∃y,y=h++[AObj.arr 10 [encV x] true false]:=⟨_,rfl⟩;have ns:∀k:Kb AV,effK (stE 10 (.ptr h.length 0 0 1) (.agg (encV x)) (h++[.arr 10 [zE] true false])) (h++[.arr 10 [zE] true false]) k=k .u y:=λk=>by rw[hy];exact nst k
   have lw:∀k:KV,ldK 10 true (.ptr h.length 0 0 1) y k=k (.agg (encV x)):=λk=>by rw[hy];exact nlw k
   have fc:=ZmM x;have hb:y[h.length]? = some (.arr 10 [encV x] true false):=by rw[hy,Z0R];rfl
   have y0:y[0]? = some (bxO c1 o):=by rw[hy];exact Z0a g0
   have l0:∀k:KV,ldK 1 false (.ptr h.length 0 0 1) y k=k (I x.frm):=λk=>by rw[Z01,hb];rfl
   have l2:∀k:KV,ldK 1 false (.ptr h.length 0 2 1) y k=k (I x.num):=λk=>by rw[Z01,hb];rfl
   have b0:∀k:KV,ldK 1 false (.ptr 0 0 0 1) y k=k (I o.node):=λk=>by rw[Z01,y0];rfl
   have b1:∀k:KV,ldK 1 false (.ptr 0 0 1 1) y k=k (I o.next):=λk=>by rw[Z01,y0];rfl
   have b2:∀k:KV,ldK 1 false (.ptr 0 0 2 1) y k=k (SL 10 encV c1 o.pend):=λk=>by rw[Z01,y0];rfl
   rw[Zgt];simp -implicitDefEqProofs only[Z7T,Z04,Nat.zero_add,g1,ln,Z05,hlt,decide_true,Z00,if_true,ic,ld,nbx,ns,lw,ZyN,Z02,fc,Z03,Bool.true_xor];by_cases z:formE x=0
   ·have ez:(!(formE x==0))=false:=by simp[z]
    rw[if_neg (show ¬formE x≠0 from λhh=>hh z)]
    simp -implicitDefEqProofs only[ez,Bool.false_eq_true,if_false,Z04,Nat.zero_add,l0,b0,Z03,Bool.true_xor,Z00]
    by_cases q:x.frm=o.node
    ·have eq':(!(x.frm==o.node))=false:=by simp[q]
     rw[if_neg (show ¬x.frm≠o.node from λhh=>hh q)]
     simp -implicitDefEqProofs only[eq',Bool.false_eq_true,if_false]
     have grp:∀k:Kb AV,(arithK .gtr (I pre.length) (I 0) λx45=>grpK true x45 y (λk46=>ldK 1 false (.ptr 0 0 2 1) y λx48=>arithK .sub (I pre.length) (I 1) λx49=>iaK 10 x48 x49 λx50=>faK 2 x50 λx51=>ldK 1 false x51 y λx52=>ldK 1 false (.ptr h.length 0 2 1) y λx54=>arithK .geq x52 x54 λx55=>k46 x55 y) k)=k (B (match pre.getLast?.map (·.num) with | some q=>decide (x.num≤q) | none=>false)) y:=λk=>by
      by_cases hp:pre.length=0
      ·have:pre=[]:=List.eq_nil_of_length_eq_zero hp
       subst this;simp -implicitDefEqProofs only[Z0g,List.length_nil,show ¬(((0:Nat):Int) > 0) by omega,decide_false]
       rfl
      ·have c0:(pre.length:Int) > 0:=by omega
       obtain ⟨m,hm⟩:∃m,m=pre.length-1:=⟨_,rfl⟩;have hwm:IntKind.i64.wrap ((pre.length:Int)-1)=(m:Int):=by rw[wrap64 (by omega) (by omega)];omega
       obtain ⟨z,hz⟩:∃z,pre.getLast? = some z:=by
        cases hq:pre.getLast? with
        | none=>rw[List.getLast?_eq_none_iff] at hq;rw[hq] at hp;exact absurd rfl hp
        | some z=>exact ⟨z,rfl⟩
       have hzm:o.pend[m]? = some z:=by
        rw[hc,List.getElem?_append_left (by omega),hm, ← List.getLast?_eq_getElem?,hz]
       have im:∀k:KV,iaK 10 (SL 10 encV c1 o.pend) (I m) k=k (.ep (encV z) 0):=λk=>Z0M m rfl hzm k
       have lm:∀k:KV,ldK 1 false (.ep (encV z) 2) y k=k (I z.num):=λk=>rfl
       have fa:∀k:KV,faK 2 (.ep (encV z) 0) k=k (.ep (encV z) 2):=λk=>rfl
       rw[hz];simp -implicitDefEqProofs only[Z0g,c0,decide_true,l2,b2,Z1U,hwm,im,fa,lm,Z0P]
       rfl
     refine (grp _).trans ?_;simp -implicitDefEqProofs only[Z04,Nat.zero_add,l2,b1,Z0P,Z0J,Z00];by_cases hq:((match pre.getLast?.map (·.num) with | some q=>decide (x.num≤q) | none=>false)||decide (o.next≤x.num))=true
     ·rw[if_pos hq]
      simp -implicitDefEqProofs only[hr]
      exact congrArg X (if_pos hq).symm
     ·rw[if_neg hq]
      simp -implicitDefEqProofs only[Z0e,hw]
      refine (ih (pre++[x]) post y (by simpa using hc) (by simpa using hn) y0).trans ?_
      refine Eq.trans ?_ (congrArg X (if_neg hq).symm)
      simp
    ·have eq':(!(x.frm==o.node))=true:=by simp[q]
     rw[if_pos q];simp -implicitDefEqProofs only[eq',if_true,hr]
   ·have ez:(!(formE x==0))=true:=by simp[z]
    rw[if_pos z];simp -implicitDefEqProofs only[ez,if_true,hr]
theorem ZgM(b:Bool)(o:Outb)(hl:o.pend.length<1000000)(h:Hp):Z3G [ob b o] h=some (I (chkO o),h):=by
 refine ZyQ (a0:=ob b o) rfl ?_ h;rw[show nrm (.a [none,none,some 10]) (ob b o)=ob b o from rfl];obtain ⟨H,hH⟩:∃H:Hp,H=[bxO b o]:=⟨_,rfl⟩;have bx:∀k:Kb AV,effK (boxE 3 (ob b o) ([]:Hp).length) [] k=k (.ptr 0 0 0 1) H:=λk=>by rw[hH];rfl
 have H0:H[0]? = some (bxO b o):=by rw[hH];rfl
 have b0:∀k:KV,ldK 1 false (.ptr 0 0 0 1) H k=k (I o.node):=λk=>by rw[Z01,H0];rfl
 have b1:∀k:KV,ldK 1 false (.ptr 0 0 1 1) H k=k (I o.next):=λk=>by rw[Z01,H0];rfl
 have b2:∀k:KV,ldK 1 false (.ptr 0 0 2 1) H k=k (SL 10 encV b o.pend):=λk=>by rw[Z01,H0];rfl
 have ln:∀k:KV,lenK (SL 10 encV b o.pend) k=k (I o.pend.length):=λk=>by rw[SL,Z07,List.length_map]
 have fn:=Z4p;unfold chkO;simp -implicitDefEqProofs only[Z7U,bx,Z04,Nat.zero_add,b0,b1,ZyM,Z02,fn,Z0L,Z05,Z0g,Z0J,Z00]
 split
 ·rfl
 ·simp -implicitDefEqProofs only[b2,ln,Z0g,Z00]
  by_cases h64:64<o.pend.length
  ·have c:(o.pend.length:Int) > 64:=by omega
   rw[if_pos h64];simp -implicitDefEqProofs only[c,decide_true,if_true]
   rfl
  ·have c:¬((o.pend.length:Int) > 64):=by omega
   rw[if_neg h64];simp -implicitDefEqProofs only[c,decide_false,Bool.false_eq_true,if_false];exact ZDn (X:=λe=>some (I e)) hl (λh=>rfl) (λe h=>rfl) NN [] o.pend H rfl (by have:=NN_ge;omega) H0
theorem ZDo(to:Int)(l:List Envl)(x:Envl):againL to (l++[x])=if x.to=to then againL to l++[x] else againL to l:=by
 unfold againL;rw[List.filter_append]
 by_cases q:x.to=to<;>simp[q]
theorem ZDp{x0:Kb AV}{X:Option AV}{o:Outb}{c1:Bool}{to:Int}(hl:o.pend.length<100000)(hx:∀v h,Grm 10 encV h v (againL to o.pend)→x0 v h=X):∀(n:Nat)(pre post:List Envl)(v:AV)(h:Hp),o.pend=pre++post→post.length<n→h[0]? = some (bxO c1 o)→idOf v≠some 0→Grm 10 encV h v (againL to pre)→
  Z4E Tryz.prog Z3N Z5v NN x0 n (I to) (.ptr 0 0 0 1) v (I pre.length) h=X:=by
 intro n;induction n with
 | zero=>intro pre post v h h1 h2;omega
 | succ n ih=>
  intro pre post v h hc hn g0 hv0 G;show Z7Z Tryz.prog Z3N Z5v NN (Z4E Tryz.prog Z3N Z5v NN x0 n) x0 _ _ _ _ h=_
  have g1:∀k:KV,ldK 1 false (.ptr 0 0 2 1) h k=k (SL 10 encV c1 o.pend):=λk=>by rw[Z01,g0];rfl
  have ln:∀k:KV,lenK (SL 10 encV c1 o.pend) k=k (I o.pend.length):=λk=>by rw[SL,Z07,List.length_map]
  cases post with
  | nil=>
   have:o.pend=pre:=by simpa using hc
   have cc:¬((pre.length:Int)<(o.pend.length:Int)):=by rw[this];omega
   simp -implicitDefEqProofs only[Z7Z,Z04,Nat.zero_add,g1,ln,Z05,cc,decide_false,Z00,Bool.false_eq_true,if_false]
   exact hx v h (by rw[this];exact G)
  | cons e post=>
   have he:o.pend[pre.length]? = some e:=by rw[hc];simp
   have hi:pre.length<o.pend.length:=by rw[hc];simp
   have hlt:((pre.length:Int)<(o.pend.length:Int)):=by omega
   have hw:IntKind.i64.wrap ((pre.length:Int)+1)=(((pre++[e]).length:Nat):Int):=by rw[wrap64 (by omega) (by omega)];simp
   have ic:∀k:KV,iaK 10 (SL 10 encV c1 o.pend) (I pre.length) k=k (.ep (encV e) 0):=λk=>Z0M pre.length rfl he k
   have l1:∀k:KV,ldK 1 false (.ep (encV e) 1) h k=k (I e.to):=λk=>rfl
   have lw:∀k:KV,ldK 10 true (.ep (encV e) 0) h k=k (.agg (encV e)):=λk=>rfl
   have hsn:=ZDo to pre e;have hol:(againL to pre).length≤pre.length:=List.length_filter_le _ _;simp -implicitDefEqProofs only[Z7Z,Z04,Nat.zero_add,g1,ln,Z05,hlt,decide_true,Z00,if_true,ic,Z11,l1,Z03,Bool.false_xor];by_cases q:e.to=to
   ·have qb:(e.to==to)=true:=by simpa using q
    rw[if_pos q] at hsn;have bs:∀k:Kb AV,effK (bsE 10 zE 1 [(0,.agg (encV e))] h.length) h k=k (.sl 10 h.length 0 1 1 true) (h++[.arr 10 [encV e] true false]):=λk=>by simp[bsE,fillS,encV,effK,ap]
    obtain ⟨j,hj,hjl⟩:=G.lt;obtain ⟨v',f,a1,a2,a3,a4,a5⟩:=Grm.snocE (f:=encV) (sz:=10) (h:=h++[AObj.arr 10 [encV e] true false]) (by_:=80) (m:=h.length) (z:=e) (b:=true) (G.app [AObj.arr 10 [encV e] true false]) (by rw[Z0R];rfl) (by rw[hj];simp;omega) (λx _=>rfl) (by omega)
    have ae:∀k:Kb AV,effK (appE 10 80 v (.sl 10 h.length 0 1 1 true) (h++[.arr 10 [encV e] true false]) (h++[AObj.arr 10 [encV e] true false]).length) (h++[.arr 10 [encV e] true false]) k=k v' (ap (h++[.arr 10 [encV e] true false]) f):=λk=>by rw[a1];rfl
    simp -implicitDefEqProofs only[qb,if_true,lw,bs,ae,Zbb,Zfn,Z0e,hw]
    refine ih (pre++[e]) post v' _ (by simpa using hc) (by simpa using hn) (a4 0 _ (Z0a g0) hv0) ?_ (by rw[hsn];exact a2)
    rcases a5 with a5 | a5
    ·rw[a5];exact hv0
    ·rw[a5];simp
   ·have qb:(e.to==to)=false:=by simpa using q
    rw[if_neg q] at hsn;simp -implicitDefEqProofs only[qb,Bool.false_eq_true,if_false,Zbb,Zfn,Z0e,hw];exact ih (pre++[e]) post v h (by simpa using hc) (by simpa using hn) g0 hv0 (by rw[hsn];exact G)
theorem ZDq(b:Bool)(o:Outb)(to:Int)(hl:o.pend.length<1000)(h:Hp):∃b',Za7 [ob b o,I to] h=some (.tup [.lst 10 b' ((againO o to).1.map encV),I (againO o to).2],h):=by
 have fC:=ZgM b o (by omega)
 have fn:=Z4p to;obtain ⟨H,hH⟩:∃H:Hp,H=[bxO b o]:=⟨_,rfl⟩;have bx:∀k:Kb AV,effK (boxE 3 (ob b o) ([]:Hp).length) [] k=k (.ptr 0 0 0 1) H:=λk=>by rw[hH];rfl
 have lw:∀k:KV,ldK 3 true (.ptr 0 0 0 1) H k=k (ob b o):=λk=>by rw[hH];rfl
 have hnr:nrm (.a [none,none,some 10]) (ob b o)=ob b o:=rfl;have hp:plains [ob b o,I to]=true:=rfl;unfold againO;by_cases z:chkO o=0
 ·have ez:(chkO o==0)=true:=by simp[z]
  rw[if_neg (show ¬chkO o≠0 from λhh=>hh z)]
  cases hn:isNode to with
  | false=>
   rw[hn] at fn;rw[if_pos rfl];refine ⟨true,(Zgd (a0:=ob b o) (a1:=I to) (v := .tup [nilS,I 2]) hp ?_ h).trans rfl⟩
   rw[hnr];simp -implicitDefEqProofs only[Z4F,bx,lw,Zgc,ZlA,Z02,fC,Z03,ez,Bool.true_xor,Bool.not_true,Z00,Bool.false_eq_true,if_false,fn,Z0L,Bool.not_false,if_true]
   rfl
  | true=>
   rw[hn] at fn;rw[if_neg (by simp)]
   have bs:∀k:Kb AV,effK (bsE 10 zE 0 [] H.length) H k=k (.sl 10 1 0 0 0 true) (H++[.arr 10 [] true false]):=λk=>by rw[hH];simp[bsE,fillS,effK,ap]
   refine ⟨false,(Zgd (a0:=ob b o) (a1:=I to) (v := .tup [.lst 10 false ((againL to o.pend).map encV),I 0]) hp ?_ h).trans rfl⟩;rw[hnr];simp -implicitDefEqProofs only[Z4F,bx,lw,Zgc,ZlA,Z02,fC,Z03,ez,Bool.true_xor,Bool.not_true,Z00,Bool.false_eq_true,if_false,fn,Z0L,bs];refine ZDp (c1:=b) (to:=to) (by omega) (λv h G => ?_) NN [] o.pend _ _ rfl (by have:=NN_ge;omega) (by rw[hH];rfl) (by simp) ⟨1,true,rfl,by rw[hH];rfl,λ_=>rfl⟩
   have:=G.cvt (λx st=>by cases st<;>simp[encV,isS]) false
   simp only[Zba,Z2Y,Z1b,Z1a,this,cvt_s]
   rfl
 ·have ez:(chkO o==0)=false:=by simp[z]
  rw[if_pos (show chkO o≠0 from z)];refine ⟨true,(Zgd (a0:=ob b o) (a1:=I to) (v := .tup [nilS,I 1]) hp ?_ h).trans rfl⟩
  rw[hnr];simp -implicitDefEqProofs only[Z4F,bx,lw,Zgc,Z02,fC,Z03,ez,Bool.true_xor,Bool.not_false,Z00,if_true]
  rfl
theorem ZDr(a c:List Envl)(p q:Bool)(hl:a.length<1000000)(h:Hp):Z76 [.lst 10 p (a.map encV),.lst 10 q (c.map encV)] h=some (B (decide (a=c)),h):=ZDl a c p q hl (λx y h k=>by rw[eqs_V,Bool.true_xor]) h
theorem ZDs(b1 b2:Bool)(o:Outb)(hl:o.pend.length<1000000)(h:Hp):Zaj [ob b1 o,ob b2 o] h=some (B true,h):=by
 refine ZAU (a0:=ob b1 o) (a1:=ob b2 o) rfl ?_ h;rw[show nrm (.a [none,none,some 10]) (ob b1 o)=ob b1 o from rfl,show nrm (.a [none,none,some 10]) (ob b2 o)=ob b2 o from rfl];obtain ⟨H,hH⟩:∃H:Hp,H=[bxO b1 o,bxO b2 o]:=⟨_,rfl⟩;have x0:∀k:Kb AV,effK (boxE 3 (ob b1 o) ([]:Hp).length) [] k=k (.ptr 0 0 0 1) [bxO b1 o]:=λk=>rfl
 have x1:∀k:Kb AV,effK (boxE 3 (ob b2 o) ([bxO b1 o]:Hp).length) [bxO b1 o] k=k (.ptr 1 0 0 1) H:=λk=>by rw[hH];rfl
 have a0:∀k:KV,ldK 1 false (.ptr 0 0 0 1) H k=k (I o.node):=λk=>by rw[hH];rfl
 have a1:∀k:KV,ldK 1 false (.ptr 0 0 1 1) H k=k (I o.next):=λk=>by rw[hH];rfl
 have a2:∀k:KV,ldK 1 false (.ptr 0 0 2 1) H k=k (SL 10 encV b1 o.pend):=λk=>by rw[hH];rfl
 have c0:∀k:KV,ldK 1 false (.ptr 1 0 0 1) H k=k (I o.node):=λk=>by rw[hH];rfl
 have c1:∀k:KV,ldK 1 false (.ptr 1 0 1 1) H k=k (I o.next):=λk=>by rw[hH];rfl
 have c2:∀k:KV,ldK 1 false (.ptr 1 0 2 1) H k=k (SL 10 encV b2 o.pend):=λk=>by rw[hH];rfl
 have fs:=ZDr o.pend o.pend (b1&&o.pend.isEmpty) (b2&&o.pend.isEmpty) hl;simp only[decide_true] at fs;simp -implicitDefEqProofs only[ZaS,x0,x1,Z04,Nat.zero_add,a0,c0,a1,c1,a2,c2,Z03,beq_self_eq_true,Bool.false_xor,Z3b,ZAQ,Z02,fs]
 rfl
structure HIn(b:Bool)(o:Outb)(hd:Hrd)(v:AV)(h:Hp):Prop where
 g0:h[0]? = some (bxO b o)
 g1:h[1]? = some (.arr 2 [encH hd] true false)
 g2:h[2]? = some (.arr 3 [zO] true false)
 g3:h[3]? = some (.arr 3 [[I o.node,I o.next,v]] true false)
 g4:4≤h.length
 gv:∀j,idOf v=some j→4≤j
theorem ZDt(k:Int)(l:List Envl)(x:Envl):((l++[x]).filter λy => !(y.num==k))=if x.num=k then l.filter (λy => !(y.num==k)) else l.filter (λy => !(y.num==k))++[x]:=by
 rw[List.filter_append];by_cases q:x.num=k<;>simp[q]
set_option maxHeartbeats 4000000 in
theorem ZDu{x0:AV→Kb AV}{X:Option AV}{o:Outb}{b:Bool}{hd:Hrd}(hl:o.pend.length<100000)(hx:∀v h,HIn b o hd v h→Gro 10 encV h v (o.pend.filter λy => !(y.num==hd.num))→x0 (.ptr 2 0 0 1) (.ptr 3 0 0 1) h=X):∀(n:Nat)(pre post:List Envl)(v:AV)(h:Hp),o.pend=pre++post→post.length<n→HIn b o hd v h→Gro 10 encV h v (pre.filter λy => !(y.num==hd.num))→
  Z4K Tryz.prog Z4l Z5w NN x0 n (.ptr 0 0 0 1) (.ptr 1 0 0 1) (.ptr 2 0 0 1) (.ptr 3 0 0 1) (I pre.length) h=X:=by
 intro n;induction n with
 | zero=>intro pre post v h h1 h2;omega
 | succ n ih=>
  intro pre post v h hc hn J G;obtain ⟨g0,g1,g2,g3,g4,gv⟩:=J
  show Z88 Tryz.prog Z4l Z5w NN (Z4K Tryz.prog Z4l Z5w NN x0 n) x0 _ _ _ _ _ h=_;have e1:∀k:KV,ldK 1 false (.ptr 0 0 2 1) h k=k (SL 10 encV b o.pend):=λk=>by rw[Z01,g0];rfl
  have ln:∀k:KV,lenK (SL 10 encV b o.pend) k=k (I o.pend.length):=λk=>by rw[SL,Z07,List.length_map]
  cases post with
  | nil=>
   have:o.pend=pre:=by simpa using hc
   have cc:¬((pre.length:Int)<(o.pend.length:Int)):=by rw[this];omega
   simp -implicitDefEqProofs only[Z88,Z04,Nat.zero_add,e1,ln,Z05,cc,decide_false,Z00,Bool.false_eq_true,if_false]
   exact hx v h ⟨g0,g1,g2,g3,g4,gv⟩ (by rw[this];exact G)
  | cons e post=>
   have he:o.pend[pre.length]? = some e:=by rw[hc];simp
   have hi:pre.length<o.pend.length:=by rw[hc];simp
   have hlt:((pre.length:Int)<(o.pend.length:Int)):=by omega
   have hw:IntKind.i64.wrap ((pre.length:Int)+1)=(((pre++[e]).length:Nat):Int):=by rw[wrap64 (by omega) (by omega)];simp
   have ic:∀k:KV,iaK 10 (SL 10 encV b o.pend) (I pre.length) k=k (.ep (encV e) 0):=λk=>Z0M pre.length rfl he k
   have l2:∀k:KV,ldK 1 false (.ep (encV e) 2) h k=k (I e.num):=λk=>rfl
   have l1:∀k:KV,ldK 1 false (.ptr 1 0 1 1) h k=k (I hd.num):=λk=>by rw[Z01,g1];rfl
   have lw:∀k:KV,ldK 10 true (.ep (encV e) 0) h k=k (.agg (encV e)):=λk=>rfl
   have hsn:=ZDt hd.num pre e;have hol:(pre.filter λy => !(y.num==hd.num)).length≤pre.length:=List.length_filter_le _ _
   simp -implicitDefEqProofs only[Z88,Z04,Nat.zero_add,e1,ln,Z05,hlt,decide_true,Z00,if_true,ic,Z11,l2,l1,Z03,Bool.true_xor]
   by_cases q:e.num=hd.num
   ·have qb:(!(e.num==hd.num))=false:=by simp[q]
    rw[if_pos q] at hsn;simp -implicitDefEqProofs only[qb,Bool.false_eq_true,if_false,Zbi,Zfq,Z0e,hw];exact ih (pre++[e]) post v h (by simpa using hc) (by simpa using hn) ⟨g0,g1,g2,g3,g4,gv⟩ (by rw[hsn];exact G)
   ·have qb:(!(e.num==hd.num))=true:=by simp[q]
    rw[if_neg q] at hsn;have l3:∀k:KV,ldK 1 false (.ptr 3 0 2 1) h k=k v:=λk=>by rw[Z01,g3];rfl
    obtain ⟨h1,hh1⟩:∃h1:Hp,h1=h++[AObj.arr 10 [encV e] true false]:=⟨_,rfl⟩
    have bs:∀k:AV→Hp→Ent→Option AV,effD (bsE 10 zE 1 [(0,.agg (encV e))] h.length) h k=k (.sl 10 h.length 0 1 1 true) h1 ([],[h.length]):=λk=>by
     have:bsE 10 zE 1 [(0,.agg (encV e))] h.length=some (.sl 10 h.length 0 1 1 true,⟨[],[.arr 10 [encV e] true false],[]⟩):=by simp[bsE,fillS,encV]
     rw[this,hh1];simp[effD,ap,wrOf]
    have hvn:idOf v≠some h.length:=λhh=>by have:=G.lt hh;omega
    obtain ⟨v',f,a1,a2,a3,a4,a5⟩:=Gro.snocE (f:=encV) (sz:=10) (h:=h1) (by_:=80) (m:=h.length) (z:=e) (b:=true) (by rw[hh1];exact G.app _) (by rw[hh1,Z0R];rfl) hvn (λx _=>rfl) (by omega)
    have hh1l:h1.length=h.length+1:=by rw[hh1];simp
    obtain ⟨ea,hea⟩:∃ea:Ent,ea=(f.foot,wrOf h1.length f):=⟨_,rfl⟩;have ae:∀k:AV→Hp→Ent→Option AV,effD (appE 10 80 v (.sl 10 h.length 0 1 1 true) h1 h1.length) h1 k=k v' (ap h1 f) ea:=λk=>by rw[a1,hea];rfl
    obtain ⟨h2,hh2⟩:∃h2:Hp,h2=ap h1 f:=⟨_,rfl⟩;rw[← hh2] at ae a2 a3 a4;have kp:∀j x,j<4→h[j]? = some x→h2[j]? = some x:=λj x hj hx=>a4 j x (by rw[hh1];exact Z0a hx) (λhh=>by have:=gv _ hh;omega)
    obtain ⟨k',rfl,hk'⟩:∃k',v' = .sl 10 k' 0 ((pre.filter λy => !(y.num==hd.num))++[e]).length ((pre.filter λy => !(y.num==hd.num))++[e]).length false∧h2[k']? = some (.arr 10 (((pre.filter λy => !(y.num==hd.num))++[e]).map encV) true false):=by
     rcases a2 with ⟨qq,-⟩ | ⟨-,k',r1,r2⟩
     ·simp at qq
     ·exact ⟨k',r1,r2⟩
    have hk4:4≤k':=by
     rcases a5 with a5 | a5
     ·exact gv k' (by rw[← a5];rfl)
     ·simp only[ZlJ,Option.some.injEq] at a5;omega
    obtain ⟨w,hww⟩:∃w:AV,w = .sl 10 k' 0 ((pre.filter λy => !(y.num==hd.num))++[e]).length ((pre.filter λy => !(y.num==hd.num))++[e]).length false:=⟨_,rfl⟩
    rw[← hww] at ae
    have st:∀k:AV→Hp→Ent→Option AV,effD (stE 1 (.ptr 3 0 2 1) w h2) h2 k=k .u (h2.set 3 (.arr 3 [[I o.node,I o.next,w]] true false)) ([3],[3]):=λk=>by
     have:stE 1 (.ptr 3 0 2 1) w h2=some (.u,⟨[(3,.arr 3 [[I o.node,I o.next,w]] true false)],[],[3]⟩):=by
      rw[Z0f,kp 3 _ (by omega) g3,hww];simp[putAt]
     rw[Z0h this]
    have hne:¬(h.length=3):=by omega
    have dj:disjAll [(1,7)] [([],[]),(idsOf (.ptr 3 0 2 1),[]),([],[]),(idsOf (.ptr 0 0 2 1),[]),([],[]),([],[]),(idsOf (.ep (encV e) 0),[]),([],[h.length]),ea,([],[]),([3],[3])]=true:=by
     simp[disjAll,disj2,idsOf];omega
    simp -implicitDefEqProofs only[qb,if_true,l3,lw,bs,ae,st,dj,cond_true,Zbi,Zfq,Z0e,hw]
    refine ih (pre++[e]) post w _ (by simpa using hc) (by simpa using hn) ⟨getSetN (kp 0 _ (by omega) g0) (by decide),getSetN (kp 1 _ (by omega) g1) (by decide),getSetN (kp 2 _ (by omega) g2) (by decide),getSelfN (kp 3 _ (by omega) g3),by simp;omega,λj hj => ?_⟩ ?_
    ·rw[hww] at hj;simp only[ZlJ,Option.some.injEq] at hj;omega
    ·rw[hsn]
     exact .inr ⟨by simp,k',hww,getSetN hk' (by omega)⟩
set_option maxHeartbeats 4000000 in
theorem ZDv(b:Bool)(o:Outb)(hd:Hrd)(hl:o.pend.length<1000)(h:Hp):∃b',Za9 [ob b o,.agg (encH hd)] h=some (.tup [ob b' (heardO o hd).1,I (heardO o hd).2],h):=by
 obtain ⟨H,hH⟩:∃H:Hp,H=[bxO b o,.arr 2 [encH hd] true false,.arr 3 [zO] true false]:=⟨_,rfl⟩;have bx:∀k:Kb AV,effK (boxE 3 (ob b o) ([]:Hp).length) [] k=k (.ptr 0 0 0 1) [bxO b o]:=λk=>rfl
 have by_:∀k:Kb AV,effK (boxE 2 (.agg (encH hd)) ([bxO b o]:Hp).length) [bxO b o] k=k (.ptr 1 0 0 1) [bxO b o,.arr 2 [encH hd] true false]:=λk=>rfl
 have bz:∀k:Kb AV,effK (boxE 3 (.agg zO) ([bxO b o,AObj.arr 2 [encH hd] true false]:Hp).length) [bxO b o,.arr 2 [encH hd] true false] k=k (.ptr 2 0 0 1) H:=λk=>by rw[hH];rfl
 have lw:∀k:KV,ldK 3 true (.ptr 0 0 0 1) H k=k (ob b o):=λk=>by rw[hH];rfl
 have l0:∀k:KV,ldK 1 false (.ptr 0 0 0 1) H k=k (I o.node):=λk=>by rw[hH];rfl
 have l1:∀k:KV,ldK 1 false (.ptr 0 0 1 1) H k=k (I o.next):=λk=>by rw[hH];rfl
 have h0:∀k:KV,ldK 1 false (.ptr 1 0 0 1) H k=k (I hd.frm):=λk=>by rw[hH];rfl
 have h1:∀k:KV,ldK 1 false (.ptr 1 0 1 1) H k=k (I hd.num):=λk=>by rw[hH];rfl
 have bd:∀k:KV,buildK zO [] k=k (.agg zO):=λk=>rfl
 have z1:∀k:Kb AV,effK (stE 3 (.ptr 2 0 0 1) (.agg zO) H) H k=k .u H:=λk=>by rw[hH];exact Z0d (v := .u) (id:=2) (o := .arr 3 [zO] true false) (ft:=[2]) rfl k
 have z2:∀k:KV,ldK 3 true (.ptr 2 0 0 1) H k=k (.agg zO):=λk=>by rw[hH];rfl
 have fC:=ZgM b o (by omega)
 have hnr:nrm (.a [none,none,some 10]) (ob b o)=ob b o:=rfl;have hp:plains [ob b o,.agg (encH hd)]=true:=rfl;unfold heardO;by_cases z:chkO o=0
 ·have ez:(chkO o==0)=true:=by simp[z]
  rw[if_neg (show ¬chkO o≠0 from λhh=>hh z)]
  by_cases q1:hd.frm=o.node
  ·have e1:(hd.frm==o.node)=true:=by simp[q1]
   rw[if_neg (show ¬hd.frm≠o.node from λhh=>hh q1)]
   by_cases q2:(decide (hd.num<1)||decide (hd.num≥o.next))=true
   ·rw[if_pos q2]
    refine ⟨true,(Ze3 (a0:=ob b o) (a1 := .agg (encH hd)) (v := .tup [.agg zO,I 2]) hp ?_ h).trans rfl⟩;rw[hnr];simp -implicitDefEqProofs only[Z3Y,bx,by_,bz,lw,Ze1,Z02,fC,Z03,ez,Bool.true_xor,Bool.not_true,Z00,Bool.false_eq_true,if_false,Z04,Nat.zero_add,h0,l0,e1,h1,l1,Z05,Z0P,Z0J,q2,if_true,bd,z1,z2]
    rfl
   ·have q2':(decide (hd.num<1)||decide (hd.num≥o.next))=false:=by simpa using q2
    rw[if_neg q2];obtain ⟨fl,hfl⟩:∃fl,fl=o.pend.filter λy => !(y.num==hd.num):=⟨_,rfl⟩
    rw[← hfl];have bq:∀k:KV,buildK zO [(some (0,1),I o.node),(some (1,1),I o.next)] k=k (.agg [I o.node,I o.next,nilS]):=λk=>rfl
    obtain ⟨H1,hH1⟩:∃H1:Hp,H1=H++[AObj.arr 3 [[I o.node,I o.next,nilS]] true false]:=⟨_,rfl⟩;have b3:∀k:Kb AV,effK (boxE 3 (.agg zO) H.length) H k=k (.ptr 3 0 0 1) (H++[.arr 3 [zO] true false]):=λk=>by rw[hH];rfl
    have s3:∀k:Kb AV,effK (stE 3 (.ptr 3 0 0 1) (.agg [I o.node,I o.next,nilS]) (H++[.arr 3 [zO] true false])) (H++[.arr 3 [zO] true false]) k=k .u H1:=λk=>by rw[hH1,hH];rfl
    obtain ⟨w,hw⟩:∃w:AV,w=if fl=[] then nilS else .lst 10 false (fl.map encV):=⟨_,rfl⟩
    refine ⟨fl.isEmpty,(Ze3 (a0:=ob b o) (a1 := .agg (encH hd)) (v := .tup [.agg [I o.node,I o.next,w],I 0]) hp ?_ h).trans ?_⟩
    ·rw[hnr]
     simp -implicitDefEqProofs only[Z3Y,bx,by_,bz,lw,Ze1,Z02,fC,Z03,ez,Bool.true_xor,Bool.not_true,Z00,Bool.false_eq_true,if_false,Z04,Nat.zero_add,h0,l0,e1,h1,l1,Z05,Z0P,Z0J,q2',bq,b3,s3]
     refine ZDu (b:=b) (o:=o) (hd:=hd) (by omega) (λv g J G => ?_) NN [] o.pend nilS H1 rfl (by have:=NN_ge;omega) ⟨by rw[hH1,hH];rfl,by rw[hH1,hH];rfl,by rw[hH1,hH];rfl,by rw[hH1,hH];rfl,by rw[hH1,hH];simp,λj hj=>by simp at hj⟩ Gro.nil
     obtain ⟨g0,g1,g2,g3,g4,gv⟩:=J;rw[← hfl] at G
     have hvs:v=nilS∨∃id n,v = .sl 10 id 0 n n false:=by
      rcases G with ⟨-,rfl⟩ | ⟨-,k,rfl,-⟩
      ·exact .inl rfl
      ·exact .inr ⟨k,_,rfl⟩
     have la:∀k:KV,ldK 3 true (.ptr 3 0 0 1) g k=k (.agg [I o.node,I o.next,v]):=λk=>by rw[Z01,g3];rfl
     have sa:∀k:Kb AV,effK (stE 3 (.ptr 2 0 0 1) (.agg [I o.node,I o.next,v]) g) g k=k .u (g.set 2 (.arr 3 [[I o.node,I o.next,v]] true false)):=λk=>by
      have:stE 3 (.ptr 2 0 0 1) (.agg [I o.node,I o.next,v]) g=some (.u,⟨[(2,.arr 3 [[I o.node,I o.next,v]] true false)],[],[2]⟩):=by
       rw[Z0f,g2];rcases hvs with rfl | ⟨id,n,rfl⟩<;>simp[putAt]
      exact Z0d this k
     have lb:∀k:KV,ldK 3 true (.ptr 2 0 0 1) (g.set 2 (.arr 3 [[I o.node,I o.next,v]] true false)) k=k (.agg [I o.node,I o.next,v]):=λk=>by rw[Z01,getSelfN g2];rfl
     simp -implicitDefEqProofs only[Zbh,la,sa,lb]
     simp only[Z2Y,Z3s,Z1b,Z1a,cvt_s]
     have hcv:cvt false (g.set 2 (.arr 3 [[I o.node,I o.next,v]] true false)) v=some w:=by
      rcases G with ⟨q,rfl⟩ | ⟨q,k,rfl,hk⟩
      ·rw[hw,if_pos q];rfl
      ·rw[hw,if_neg q]
       have hk4:=gv k rfl;exact Z0X (st:=false) (es:=fl.map encV) (nl:=false) (getSetN hk (by omega)) (by simp) (by simp) (Z0U λx=>by simp[encV,encM])
     rw[hcv]
     rfl
    ·by_cases q:fl=[]
     ·rw[hw,if_pos q,q];rfl
     ·rw[hw,if_neg q]
      show some (AV.tup [.agg [I o.node,I o.next,.lst 10 false (fl.map encV)],I 0],h)=some (AV.tup [.agg [I o.node,I o.next,.lst 10 (fl.isEmpty&&fl.isEmpty) (fl.map encV)],I 0],h);have:fl.isEmpty=false:=by simpa using q
      rw[this];rfl
  ·have e1:(hd.frm==o.node)=false:=by simp[q1]
   rw[if_pos (show hd.frm≠o.node from q1)];refine ⟨true,(Ze3 (a0:=ob b o) (a1 := .agg (encH hd)) (v := .tup [.agg zO,I 10]) hp ?_ h).trans rfl⟩
   rw[hnr];simp -implicitDefEqProofs only[Z3Y,bx,by_,bz,lw,Ze1,Z02,fC,Z03,ez,Bool.true_xor,Bool.not_true,Z00,Bool.false_eq_true,if_false,Z04,Nat.zero_add,h0,l0,e1,Bool.not_false,if_true,bd,z1,z2]
   rfl
 ·have ez:(chkO o==0)=false:=by simp[z]
  rw[if_pos (show chkO o≠0 from z)];refine ⟨true,(Ze3 (a0:=ob b o) (a1 := .agg (encH hd)) (v := .tup [.agg zO,I 1]) hp ?_ h).trans rfl⟩
  rw[hnr];simp -implicitDefEqProofs only[Z3Y,bx,by_,bz,lw,Ze1,Z02,fC,Z03,ez,Bool.true_xor,Bool.not_false,Z00,if_true,bd,z1,z2]
  rfl
theorem ZgN{ar an:Nat}:∀(post:List Envl)(k:Nat)(p:Outb)(j:Inbx),(exL ar an k post p j).1.pend.length≤p.pend.length∧(exL ar an k post p j).2.1.heard.length≤j.heard.length+post.length∧(exL ar an k post p j).2.1.msgs.length≤j.msgs.length+post.length
 | [],k,p,j=>by rw[exL];simp
 | x::r,k,p,j=>by
  rw[exL];simp only[List.length_cons];by_cases q1:bitN ar k=false
  ·rw[if_pos q1]
   have:=ZgN (ar:=ar) (an:=an) r (k+1) p j
   omega
  ·rw[if_neg q1]
   by_cases q2:(takeI j x).2.2.2≠0
   ·rw[if_pos q2];simp
   ·rw[if_neg q2]
    have h1:=ZeA j x;have h2:=ZgA p (takeI j x).2.1;have h3:=ZgN (ar:=ar) (an:=an) r (k+1) (if bitN an k=true then (heardO p (takeI j x).2.1).1 else p) (takeI j x).1
    by_cases q3:bitN an k=true
    ·rw[if_pos q3] at h3 ⊢;omega
    ·rw[if_neg q3] at h3 ⊢;omega
theorem ZDw(o:Outb)(i:Inbx)(ar an:Nat):(exO o i ar an).1.pend.length≤o.pend.length∧(exO o i ar an).2.1.heard.length≤i.heard.length+o.pend.length∧(exO o i ar an).2.1.msgs.length≤i.msgs.length+o.pend.length:=by
 unfold exO;by_cases q1:chkO o≠0∨chkI i≠0
 ·rw[if_pos q1];simp
 ·rw[if_neg q1]
  by_cases q2:o.node=i.node
  ·rw[if_pos q2];simp
  ·rw[if_neg q2]
   have h1:=ZgN (ar:=ar) (an:=an) (againL i.node o.pend) 0 o i;have h2:(againL i.node o.pend).length≤o.pend.length:=List.length_filter_le _ _
   omega
structure LsI(o:Outb)(c:Bool)(i:Inbx)(c1 c2:Bool)(p:Outb)(b:Bool)(j:Inbx)(b1 b2:Bool)(H:Hp):Prop where
 g0:H[0]? = some (bxO c o)
 g1:H[1]? = some (bxI c1 c2 i)
 g2:H[2]? = some (bxO b p)
 g3:H[3]? = some (bxI b1 b2 j)
theorem LsI.app{o p:Outb}{c b c1 c2 b1 b2:Bool}{i j:Inbx}{H:Hp}(J:LsI o c i c1 c2 p b j b1 b2 H)(g:Hp):LsI o c i c1 c2 p b j b1 b2 (H++g):=⟨Z0a J.g0,Z0a J.g1,Z0a J.g2,Z0a J.g3⟩
end Go.AM


namespace Go.AM
open Go.Proofs
section
variable {β:Type} {P:Program} {T:Tab} {D:DTab} {N:Nat} {K:Kb β}
end
attribute [local congr] Z0i Z0j Z0k Z0l Z0m Z0n Z0o Z0p Z0q Z0r Z0s Z0t Z0u Z0v Z0w Z0x Z0y Z0z Z0A Z0B Z0C Z0D Z0E Z0F Z0G Z0H Z0I
theorem ZDx(b1 b2:Bool)(i:Inbx)(hl:i.heard.length<1000)(hm:i.msgs.length<1000)(h:Hp):Zac [ib b1 b2 i] h=some (if chkI i=0 then allV i.msgs else .tup [.lst 7 true [],I 1],h):=by
 have x0:∀k:Kb AV,effK (boxE 3 (ib b1 b2 i) ([]:Hp).length) [] k=k (.ptr 0 0 0 1) [bxI b1 b2 i]:=λk=>rfl
 have l0:∀k:KV,ldK 3 true (.ptr 0 0 0 1) [bxI b1 b2 i] k=k (ib b1 b2 i):=λk=>rfl
 have l2:∀k:KV,ldK 1 false (.ptr 0 0 2 1) [bxI b1 b2 i] k=k (SL 7 encM b2 i.msgs):=λk=>rfl
 have fC:=Z7b b1 b2 i (by omega) hm
 have fA:=ZCW i.msgs b2 hm;by_cases z:chkI i=0
 ·have ez:(!(chkI i==0))=false:=by simp[z]
  refine (ZlE (a0:=ib b1 b2 i) (v:=allV i.msgs) rfl ?_ h).trans (by rw[if_pos z];rfl)
  rw[show nrm (.a [none,some 2,some 7]) (ib b1 b2 i)=ib b1 b2 i from rfl];have t0:∀k:KV,exK (allV i.msgs) 0 k=k (.lst 7 (allS i.msgs).isEmpty ((allS i.msgs).map encDo)):=λk=>rfl
  have t1:∀k:KV,exK (allV i.msgs) 1 k=k (I (errM i.msgs)):=λk=>rfl
  simp -implicitDefEqProofs only[Z7B,x0,l0,ZlD,Z02,fC,Z03,Bool.true_xor,ez,Z00,Bool.false_eq_true,if_false,Z04,Nat.zero_add,l2,ZA7,fA,t0,t1]
  rfl
 ·have ez:(!(chkI i==0))=true:=by simp[z]
  refine (ZlE (a0:=ib b1 b2 i) (v := .tup [nilS,I 1]) rfl ?_ h).trans (by rw[if_neg z];rfl)
  rw[show nrm (.a [none,some 2,some 7]) (ib b1 b2 i)=ib b1 b2 i from rfl];simp -implicitDefEqProofs only[Z7B,x0,l0,ZlD,Z02,fC,Z03,Bool.true_xor,ez,Z00,if_true]
  rfl
structure KpI(i:Inbx)(c1 c2:Bool)(p:Outb)(b:Bool)(j:Inbx)(b1 b2:Bool)(H:Hp):Prop where
 g1:H[1]? = some (bxI c1 c2 i)
 g3:H[3]? = some (bxO b p)
 g4:H[4]? = some (bxI b1 b2 j)
theorem KpI.app{i j:Inbx}{c1 c2 b b1 b2:Bool}{p:Outb}{H:Hp}(J:KpI i c1 c2 p b j b1 b2 H)(g:Hp):KpI i c1 c2 p b j b1 b2 (H++g):=⟨Z0a J.g1,Z0a J.g3,Z0a J.g4⟩
end Go.AM


namespace Go.AM
open Go.Proofs
attribute [local congr] Z0i Z0j Z0k Z0l Z0m Z0n Z0o Z0p Z0q Z0r Z0s Z0t Z0u Z0v Z0w Z0x Z0y Z0z Z0A Z0B Z0C Z0D Z0E Z0F Z0G Z0H Z0I
theorem ZDy{N:Nat}{x0:Kb AV}{X:Option AV}{n:List Msg}(hs:Srt n)(hv:∀m ∈ n,checkM m=0)(hl:n.length<1000)(hx:∀v h,Grm 7 encDo h v (allG n 0 n)→x0 v h=X):∀(k i:Nat)(post:List Msg)(p:Msg)(o:List Docu)(v:AV)(h:Hp),(zeroM::n).drop (i+1)=post→(zeroM::n)[i]? = some p→n.length+1<i+1+k→o++allG n p.mv post=allG n 0 n→o.length≤i→Grm 7 encDo h v o→
  Z4W Tryz.prog Z37 Z4m N x0 k (.lst 7 false ((zeroM::n).map encM)) v (I ((i+1:Nat):Int)) h=X:=by
 intro k;induction k with
 | zero=>intro i post p o v h _ h2 h3;have:=(List.getElem?_eq_some_iff.1 h2).1;simp at this;omega
 | succ k ih=>
  intro i post p o v h hd hp hn ho hol O;have hil:=(List.getElem?_eq_some_iff.1 hp).1
  show Z8E Tryz.prog Z37 Z4m N (Z4W Tryz.prog Z37 Z4m N x0 k) x0 _ _ _ h=_;cases post with
  | nil=>
   have:i+1=(zeroM::n).length:=by
    have:=congrArg List.length hd
    rw[List.length_drop] at this;simp only[List.length_nil] at this
    omega
   have c1:¬(((i+1:Nat):Int)<(((zeroM::n).length:Nat):Int)):=by omega
   simp -implicitDefEqProofs only[Z8E,Z07,List.length_map,Z05,c1,decide_false,Z00,Bool.false_eq_true,if_false]
   simp only[allG,List.append_nil] at ho;exact hx v h (by rw[← ho];exact O)
  | cons m post=>
   have hm:(zeroM::n)[i+1]? = some m:=by
    have:=congrArg (λq=>q[0]?) hd
    simpa using this
   have hil2:=(List.getElem?_eq_some_iff.1 hm).1;have hmn:m ∈ n:=List.mem_of_getElem? (by simpa using hm:n[i]? = some m)
   obtain ⟨-,-,hm1,-⟩:=Z5E (hv m hmn);have hin:i<n.length:=by simpa using hil2
   have hlt:(((i+1:Nat):Int)<(((zeroM::n).length:Nat):Int)):=by omega
   have hw:IntKind.i64.wrap (((i+1:Nat):Int)+1)=((i+1+1:Nat):Int):=by rw[wrap64 (by omega) (by omega)];omega
   have hw1:IntKind.i64.wrap (((i+1:Nat):Int)-1)=((i:Nat):Int):=by rw[wrap64 (by omega) (by omega)];omega
   have ic:∀k:KV,iaK 7 (.lst 7 false ((zeroM::n).map encM)) (I ((i+1:Nat):Int)) k=k (.ep (encM m) 0):=λk=>Z0M (i+1) rfl hm k
   have ip:∀k:KV,iaK 7 (.lst 7 false ((zeroM::n).map encM)) (I ((i:Nat):Int)) k=k (.ep (encM p) 0):=λk=>Z0M i rfl hp k
   have hd2:(zeroM::n).drop (i+1+1)=post:=by
    have:=congrArg (List.drop 1) hd
    simpa [List.drop_drop] using this
   simp -implicitDefEqProofs only[Z8E,Z07,List.length_map,Z05,hlt,decide_true,Z00,if_true,ic,Z11,Nat.add_zero,le0,Z1U,hw1,ip,Z03,Bool.true_xor]
   by_cases hmp:m.mv=p.mv
   ·have e:(m.mv==p.mv)=true:=by simpa using hmp
    simp -implicitDefEqProofs only[e,Bool.not_true,Bool.false_eq_true,if_false,ZbR,Zfz,Z0e,hw]
    simp only[allG,hmp,ne_eq,not_true_eq_false,if_false] at ho;exact ih (i+1) post m o v h hd2 hm (by omega) (by rw[hmp];exact ho) (by omega) O
   ·have e:(m.mv==p.mv)=false:=by simpa using hmp
    have fo:=λh=>ZCJ n false m.mv (by omega) (by omega) h
    rw[ZCL (by omega) hs hv (by omega)] at fo
    obtain ⟨v',h',g1,g2⟩:=ZCT (d:=docS m.mv n) O (by omega)
    simp -implicitDefEqProofs only[e,Bool.not_false,if_true,ZAr,Z02,fo,bsD,g1,ZbR,Zfz,Z0e,hw]
    simp only[allG,if_pos hmp] at ho;exact ih (i+1) post m (o++[docS m.mv n]) v' h' hd2 hm (by omega) (by simpa using ho) (by simp;omega) g2
theorem ZDz(l:List Msg)(b:Bool)(hl:l.length<1000)(he:errM l=0)(h:Hp):Zaf [.lst 7 b (l.map encM)] h=some (.lst 7 false ((allS l).map encDo),h):=by
 refine (ZAv (v := .lst 7 false ((allS l).map encDo)) rfl ?_ h).trans rfl;simp only[nrm,nrmC];have fN:=Zmu l b hl;have hn:=Z4s l;have fG:=λh=>ZCQ (normL l) false (by omega) h
 have bs:∀k:Kb AV,effK (bsE 7 zM 0 [] ([]:Hp).length) [] k=k (.sl 7 0 0 0 0 true) [.arr 7 [] true false]:=λk=>by simp[bsE,fillS,effK,ap]
 simp -implicitDefEqProofs only[Z8F,ZAp,ZAq,Z02,fN,fG,bs]
 refine ZDy (x0:=λw27_4 h=>ZbQ Tryz.prog Z37 Z4m NN (λv g=>cvt false g v) w27_4 h) (X:=some (AV.lst 7 false ((allS l).map encDo))) (Zes l) (ZmC he).2 (by omega) ?_ NN 0 (normL l) zeroM [] (.sl 7 0 0 0 0 true) [.arr 7 [] true false] rfl rfl (by have:=NN_ge;omega) rfl (by simp) ⟨0,true,rfl,rfl,λ_=>rfl⟩
 intro v h O;unfold allS
 rw[if_pos he];exact O.cvt (λx st=>by cases st<;>simp[encDo,isS]) false
def allR(l:List Msg):AV := .tup [.lst 7 (errM l != 0) ((allS l).map encDo),I (errM l)]
theorem ZDA(l:List Msg)(b:Bool)(hl:l.length<1000)(h:Hp):Zag [.lst 7 b (l.map encM)] h=some (allR l,h):=by
 have fS:=Zms l b (by omega)
 by_cases he:errM l=0
 ·have fA:=ZDz l b hl he
  have e:(errM l==0)=true:=by simpa using he
  refine (ZlG (v := .tup [.lst 7 false ((allS l).map encDo),I 0]) rfl ?_ h).trans ?_
  ·simp only[nrm,nrmC]
   simp -implicitDefEqProofs only[Z8c,ZlF,ZAy,Z02,fS,fA,Z03,e,Bool.true_xor,Bool.not_true,Z00,Bool.false_eq_true,if_false]
   rfl
  ·unfold allR;rw[he];rfl
 ·have e:(errM l==0)=false:=by simpa using he
  refine (ZlG (v := .tup [nilS,I (errM l)]) rfl ?_ h).trans ?_
  ·simp only[nrm,nrmC]
   simp -implicitDefEqProofs only[Z8c,ZlF,Z02,fS,Z03,e,Bool.true_xor,Bool.not_false,Z00,if_true]
   rfl
  ·have e2:(errM l != 0)=true:=by simpa using he
   unfold allR;rw[e2,show allS l=[] from if_neg he]
   rfl
theorem ZDB{β:Type}{h:Hp}(a k:Nat)(ha:a<18446744073709551616)(hk:k≤64)(K:Go.AM.K β):(reckK Tryz.prog .shr 29 (.s (.int .u64 (a:Int))) (I k) λx11=>reckK Tryz.prog .and 29 x11 (.s (.int .u64 1)) λx12=>eqK Tryz.prog false 29 x12 (.s (.int .u64 0)) h K)=K (B (!bitN a k)):=by
 have h1:a / 2 ^ k<18446744073709551616:=Nat.lt_of_le_of_lt (Nat.div_le_self _ _) ha;rw[Zmn a k hk];have h2:=Zis (P:=Tryz.prog) (ty:=29) (a / 2 ^ k) 1 h1 (by omega) (λx12=>eqK Tryz.prog false 29 x12 (.s (.int .u64 0)) h K)
 refine h2.trans ?_;rw[Zmo,Z03];rw[Bool.false_xor];congr 3;unfold bitN;have hm2:a / 2 ^ k % 2<2:=Nat.mod_lt _ (by omega)
 generalize a / 2 ^ k % 2=m at *;rcases (show m=0∨m=1 by omega) with rfl | rfl<;>rfl
structure InvE(o:Outb)(i:Inbx)(h:Hp):Prop where
 a2:h[2]? = some (.arr 3 [zO] true false)
 a3:h[3]? = some (.arr 3 [zI] true false)
 a4:∃b,h[4]? = some (.arr 3 [cellsO b o] true false)
 a5:∃b1 b2,h[5]? = some (.arr 3 [cellsI b1 b2 i] true false)
 a6:6≤h.length
set_option maxHeartbeats 8000000 in
theorem ZDC{x0:AV→AV→AV→Kb AV}{xr:AV→AV→Kb AV}{ar an:Nat}(har:ar<18446744073709551616)(han:an<18446744073709551616){b:Bool}{l:List Envl}(hl:l.length≤64)
  (hx:∀b' b1 b2 o i h,h[2]? = some (.arr 3 [zO] true false)→h[3]? = some (.arr 3 [zI] true false)→h[4]? = some (.arr 3 [cellsO b' o] true false)→h[5]? = some (.arr 3 [cellsI b1 b2 i] true false)→x0 (.ptr 2 0 0 1) (.ptr 3 0 0 1) (.ptr 4 0 0 1) (.ptr 5 0 0 1) h=some (exV b' b1 b2 (o,i,0)))
  (hr:∀e h,h[2]? = some (.arr 3 [zO] true false)→h[3]? = some (.arr 3 [zI] true false)→xr (.ptr 2 0 0 1) (.ptr 3 0 0 1) (I e) h=some (.tup [.agg zO,.agg zI,I e])):∀(n:Nat)(pre post:List Envl)(o:Outb)(i:Inbx)(h:Hp),l=pre++post→post.length<n→InvE o i h→i.heard.length+post.length<1000→i.msgs.length+post.length<1000→o.pend.length<1000→
  ∃w b' b1 b2,Z3c Tryz.prog Z0Z Z13 NN x0 xr n (.s (.int .u64 (ar:Int))) (.s (.int .u64 (an:Int))) (.ptr 2 0 0 1) (.ptr 3 0 0 1) (.ptr 4 0 0 1) (.ptr 5 0 0 1) (.lst 10 b (l.map encV)) (I pre.length) h=some w∧nrmR [.a [none,none,some 10],.a [none,some 2,some 7],.o] w=exV b' b1 b2 (exL ar an pre.length post o i):=by
 intro n;induction n with
 | zero=>intro pre post o i h h1 h2;omega
 | succ n ih=>
  intro pre post o i h hc hn J hh hm hp;obtain ⟨a2,a3,⟨bo,a4⟩,⟨c1,c2,a5⟩,a6⟩:=J
  cases post with
  | nil=>
   have:l=pre:=by simpa using hc
   have cc:¬((pre.length:Int)<(l.length:Int)):=by rw[this];omega
   refine ⟨exV bo c1 c2 (o,i,0),bo,c1,c2, ?_,rfl⟩;show Z5S Tryz.prog Z0Z Z13 NN (Z3c Tryz.prog Z0Z Z13 NN x0 xr n) x0 xr _ _ _ _ _ _ _ _ h=_;simp -implicitDefEqProofs only[Z5S,Z07,List.length_map,Z05,cc,decide_false,Z00,Bool.false_eq_true,if_false];exact hx bo c1 c2 o i h a2 a3 a4 a5
  | cons e post=>
   have he:l[pre.length]? = some e:=by rw[hc];simp
   have hi:pre.length<l.length:=by rw[hc];simp
   have hlt:((pre.length:Int)<(l.length:Int)):=by omega
   have hw:IntKind.i64.wrap ((pre.length:Int)+1)=(((pre++[e]).length:Nat):Int):=by rw[wrap64 (by omega) (by omega)];simp
   have hpl:(pre++[e]).length=pre.length+1:=by simp
   simp only[List.length_cons] at hh hm hn
   have step:∀(o':Outb)(i':Inbx)(h':Hp),InvE o' i' h'→i'.heard.length+post.length<1000→i'.msgs.length+post.length<1000→o'.pend.length<1000→∃w b' b1 b2,Z7A Tryz.prog Z0Z Z13 NN (Z3c Tryz.prog Z0Z Z13 NN x0 xr n) x0 xr (.s (.int .u64 (ar:Int))) (.s (.int .u64 (an:Int))) (.ptr 2 0 0 1) (.ptr 3 0 0 1) (.ptr 4 0 0 1) (.ptr 5 0 0 1) (.lst 10 b (l.map encV)) (I pre.length) h'=some w∧nrmR [.a [none,none,some 10],.a [none,some 2,some 7],.o] w=exV b' b1 b2 (exL ar an (pre.length+1) post o' i'):=λo' i' h' J' k1 k2 k3=>by
    obtain ⟨w,b',b1,b2,hq,hq2⟩:=ih (pre++[e]) post o' i' h' (by simpa using hc) (by omega) J' k1 k2 k3
    rw[hpl] at hq hq2;rw[hpl] at hw;refine ⟨w,b',b1,b2, ?_,hq2⟩
    rw[← hq];simp -implicitDefEqProofs only[Z7A,Ziy,Z0e,hw]
   have hbit:=λK:KV=>ZDB (h:=h) ar pre.length har (by omega) K
   have b0:Z3c Tryz.prog Z0Z Z13 NN x0 xr (n+1) (.s (.int .u64 (ar:Int))) (.s (.int .u64 (an:Int))) (.ptr 2 0 0 1) (.ptr 3 0 0 1) (.ptr 4 0 0 1) (.ptr 5 0 0 1) (.lst 10 b (l.map encV)) (I pre.length) h=Z5S Tryz.prog Z0Z Z13 NN (Z3c Tryz.prog Z0Z Z13 NN x0 xr n) x0 xr (.s (.int .u64 (ar:Int))) (.s (.int .u64 (an:Int))) (.ptr 2 0 0 1) (.ptr 3 0 0 1) (.ptr 4 0 0 1) (.ptr 5 0 0 1) (.lst 10 b (l.map encV)) (I pre.length) h:=rfl;rw[b0];clear b0;simp -implicitDefEqProofs only[Z5S,Z07,List.length_map,Z05,hlt,decide_true,Z00,if_true];rw[hbit];cases hb:bitN ar pre.length with
   | false=>
    have ex:exL ar an pre.length (e::post) o i=exL ar an (pre.length+1) post o i:=by rw[exL,if_pos hb]
    rw[ex];simp -implicitDefEqProofs only[Bool.not_false,Z00,if_true];exact step o i h ⟨a2,a3,⟨bo,a4⟩,⟨c1,c2,a5⟩,a6⟩ (by omega) (by omega) hp
   | true=>
    have l5:∀k:KV,ldK 3 true (.ptr 5 0 0 1) h k=k (ib c1 c2 i):=λk=>by rw[Z01,a5];rfl
    have ic:∀k:KV,iaK 10 (.lst 10 b (l.map encV)) (I pre.length) k=k (.ep (encV e) 0):=λk=>Z0M pre.length rfl he k
    have lw:∀k:KV,ldK 10 true (.ep (encV e) 0) h k=k (.agg (encV e)):=λk=>rfl
    obtain ⟨d1,d2,fT⟩:=ZDb c1 c2 i e (by omega) (by omega) []
    obtain ⟨r,hrr⟩:∃r,r=takeI i e:=⟨_,rfl⟩;have hlen:=ZeA i e
    have hex:exL ar an pre.length (e::post) o i=if r.2.2.2≠0 then (⟨0,0,[]⟩,⟨0,[],[]⟩,r.2.2.2) else exL ar an (pre.length+1) post (if bitN an pre.length=true then (heardO o r.2.1).1 else o) r.1:=by
     rw[exL,if_neg (by rw[hb];simp),hrr]
    rw[hex];rw[← hrr] at fT hlen;have gT:∀k:AV→Hp→Ent→Option AV,effD (callE (Z13 34) [ib c1 c2 i,.agg (encV e)] h h.length) h k=k (takeV d1 d2 r) h ([],[]):=Z7e (ZmN rfl fT) (by simp[idss,ZeG,ZD7]) h
    have t0:∀k:KV,exK (takeV d1 d2 r) 0 k=k (ib d1 d2 r.1):=λk=>rfl
    have t1:∀k:KV,exK (takeV d1 d2 r) 1 k=k (.agg (encH r.2.1)):=λk=>rfl
    have t2:∀k:KV,exK (takeV d1 d2 r) 2 k=k (B r.2.2.1):=λk=>rfl
    have t3:∀k:KV,exK (takeV d1 d2 r) 3 k=k (I r.2.2.2):=λk=>rfl
    obtain ⟨z,hz⟩:∃z,z=h++[AObj.arr 3 [cellsI d1 d2 r.1] true false,.arr 2 [encH r.2.1] true false]:=⟨_,rfl⟩;have q1:∀k:AV→Hp→Ent→Option AV,effD (boxE 3 (.agg zI) h.length) h k=k (.ptr h.length 0 0 1) (h++[.arr 3 [zI] true false]) ([],[h.length]):=λk=>by simp[boxE,effD,ap,wrOf]
    have q2:∀k:AV→Hp→Ent→Option AV,effD (boxE 2 (.agg zH) (h++[AObj.arr 3 [zI] true false]).length) (h++[.arr 3 [zI] true false]) k=k (.ptr (h.length+1) 0 0 1) (h++[.arr 3 [zI] true false,.arr 2 [zH] true false]) ([],[h.length+1]):=λk=>by simp[boxE,effD,ap,wrOf]
    have q3:∀k:AV→Hp→Ent→Option AV,effD (stE 3 (.ptr h.length 0 0 1) (ib d1 d2 r.1) (h++[.arr 3 [zI] true false,.arr 2 [zH] true false])) (h++[.arr 3 [zI] true false,.arr 2 [zH] true false]) k=k .u (h++[.arr 3 [cellsI d1 d2 r.1] true false,.arr 2 [zH] true false]) ([h.length],[h.length]):=λk=>by
     have:stE 3 (.ptr h.length 0 0 1) (ib d1 d2 r.1) (h++[.arr 3 [zI] true false,.arr 2 [zH] true false])=some (.u,⟨[(h.length,.arr 3 [cellsI d1 d2 r.1] true false)],[],[h.length]⟩):=by
      rw[Z0f,List.getElem?_append_right (Nat.le_refl _),Nat.sub_self];simp[putAt]
     rw[Z0h this,List.set_append_right _ _ (Nat.le_refl _),Nat.sub_self]
     rfl
    have q4:∀k:AV→Hp→Ent→Option AV,effD (stE 2 (.ptr (h.length+1) 0 0 1) (.agg (encH r.2.1)) (h++[.arr 3 [cellsI d1 d2 r.1] true false,.arr 2 [zH] true false])) (h++[.arr 3 [cellsI d1 d2 r.1] true false,.arr 2 [zH] true false]) k=k .u z ([h.length+1],[h.length+1]):=λk=>by
     have:stE 2 (.ptr (h.length+1) 0 0 1) (.agg (encH r.2.1)) (h++[.arr 3 [cellsI d1 d2 r.1] true false,.arr 2 [zH] true false])=some (.u,⟨[(h.length+1,.arr 2 [encH r.2.1] true false)],[],[h.length+1]⟩):=by
      rw[Z0f,List.getElem?_append_right (by omega),show h.length+1-h.length=1 by omega]
      simp[putAt,encH]
     rw[Z0h this,hz,List.set_append_right _ _ (by omega),show h.length+1-h.length=1 by omega]
     rfl
    have kz:∀j x,h[j]? = some x→z[j]? = some x:=λj x hj=>by rw[hz];exact Z0a hj
    have zb:z[h.length]? = some (.arr 3 [cellsI d1 d2 r.1] true false):=by rw[hz,List.getElem?_append_right (Nat.le_refl _),Nat.sub_self];rfl
    have zb2:z[h.length+1]? = some (.arr 2 [encH r.2.1] true false):=by rw[hz,List.getElem?_append_right (by omega),show h.length+1-h.length=1 by omega];rfl
    have dj:disjAll [(0,11),(4,11),(5,11),(0,12),(4,12),(5,12),(11,12)] [(idsOf (.ptr 5 0 0 1),[]),([],[]),([],[]),([],[]),(idsOf (.ep (encV e) 0),[]),([],[]),([],[]),([],[]),([],[]),([],[]),([],[]),([],[h.length]),([],[h.length+1]),([h.length],[h.length]),([h.length+1],[h.length+1]),([],[]),([],[])]=true:=by
     simp[disjAll,disj2,idsOf];omega
    simp -implicitDefEqProofs only[Bool.not_true,Z00,Bool.false_eq_true,if_false,l5,ic,lw,gT,t0,t1,t2,t3,q1,q2,q3,q4,dj,cond_true,Z03,Bool.true_xor]
    by_cases ee:r.2.2.2=0
    ·have eb:(!(r.2.2.2==0))=false:=by simp[ee]
     rw[if_neg (show ¬r.2.2.2≠0 from λhh=>hh ee)]
     have lz:∀k:KV,ldK 3 true (.ptr h.length 0 0 1) z k=k (ib d1 d2 r.1):=λk=>by rw[Z01,zb];rfl
     obtain ⟨w,hww⟩:∃w:Hp,w=z.set 5 (.arr 3 [cellsI d1 d2 r.1] true false):=⟨_,rfl⟩
     have s5:∀k:Kb AV,effK (stE 3 (.ptr 5 0 0 1) (ib d1 d2 r.1) z) z k=k .u w:=λk=>by
      have:stE 3 (.ptr 5 0 0 1) (ib d1 d2 r.1) z=some (.u,⟨[(5,.arr 3 [cellsI d1 d2 r.1] true false)],[],[5]⟩):=by
       rw[Z0f,kz 5 _ a5];simp[putAt]
      rw[Z0d this,hww]
     have kw:∀j x,h[j]? = some x→j≠5→w[j]? = some x:=λj x hj hne=>by rw[hww];exact getSetN (kz j x hj) (Ne.symm hne)
     have w5:w[5]? = some (.arr 3 [cellsI d1 d2 r.1] true false):=by rw[hww];exact getSelfN (kz 5 _ a5)
     have wb2:w[h.length+1]? = some (.arr 2 [encH r.2.1] true false):=by rw[hww];exact getSetN zb2 (by omega)
     have wl:6≤w.length:=by rw[hww,hz];simp;omega
     have hbit2:=λK:KV=>bit_K (h:=w) an pre.length han (by omega) K
     simp -implicitDefEqProofs only[eb,Bool.false_eq_true,if_false,lz,s5]
     rw[hbit2];cases hb2:bitN an pre.length with
     | false=>
      rw[if_neg (by simp)]
      simp -implicitDefEqProofs only[Z00,Bool.false_eq_true,if_false]
      exact step o r.1 w ⟨kw 2 _ a2 (by decide),kw 3 _ a3 (by decide),⟨bo,kw 4 _ a4 (by decide)⟩,⟨d1,d2,w5⟩,wl⟩ (by omega) (by omega) hp
     | true=>
      rw[if_pos rfl];obtain ⟨b',fH⟩:=ZDv bo o r.2.1 hp w
      have hhl:=ZgA o r.2.1;have l4:∀k:KV,ldK 3 true (.ptr 4 0 0 1) w k=k (ob bo o):=λk=>by rw[Z01,kw 4 _ a4 (by decide)];rfl
      have lh:∀k:KV,ldK 2 true (.ptr (h.length+1) 0 0 1) w k=k (.agg (encH r.2.1)):=λk=>by rw[Z01,wb2];rfl
      obtain ⟨o',ho'⟩:∃o',o'=(heardO o r.2.1).1:=⟨_,rfl⟩;rw[← ho'] at fH hhl ⊢
      have u0:∀k:KV,exK (.tup [ob b' o',I (heardO o r.2.1).2]) 0 k=k (ob b' o'):=λk=>rfl
      have u1:∀k:KV,exK (.tup [ob b' o',I (heardO o r.2.1).2]) 1 k=k (I (heardO o r.2.1).2):=λk=>rfl
      obtain ⟨v,hv⟩:∃v:Hp,v=w.set 4 (.arr 3 [cellsO b' o'] true false):=⟨_,rfl⟩
      have s4:∀k:Kb AV,effK (stE 3 (.ptr 4 0 0 1) (ob b' o') w) w k=k .u v:=λk=>by
       have:stE 3 (.ptr 4 0 0 1) (ob b' o') w=some (.u,⟨[(4,.arr 3 [cellsO b' o'] true false)],[],[4]⟩):=by
        rw[Z0f,kw 4 _ a4 (by decide)]
        simp[putAt]
       rw[Z0d this,hv]
      have kv:∀j x,h[j]? = some x→j≠5→j≠4→v[j]? = some x:=λj x hj h5 h4=>by rw[hv];exact getSetN (kw j x hj h5) (Ne.symm h4)
      simp -implicitDefEqProofs only[Z00,if_true,l4,lh,ZzP,Z02,fH,u0,u1,s4]
      exact step o' r.1 v ⟨kv 2 _ a2 (by decide) (by decide),kv 3 _ a3 (by decide) (by decide),⟨b',by rw[hv];exact getSelfN (kw 4 _ a4 (by decide))⟩,⟨d1,d2,by rw[hv];exact getSetN w5 (by decide)⟩,by rw[hv];simpa using wl⟩ (by omega) (by omega) (by omega)
    ·have eb:(!(r.2.2.2==0))=true:=by simp[ee]
     rw[if_pos (show r.2.2.2≠0 from ee)];refine ⟨.tup [.agg zO,.agg zI,I r.2.2.2],true,true,true, ?_,rfl⟩
     have bO:∀k:KV,buildK zO [] k=k (.agg zO):=λk=>rfl
     have bI:∀k:KV,buildK zI [] k=k (.agg zI):=λk=>rfl
     have s2:∀k:Kb AV,effK (stE 3 (.ptr 2 0 0 1) (.agg zO) z) z k=k .u z:=λk=>by
      have:stE 3 (.ptr 2 0 0 1) (.agg zO) z=some (.u,⟨[(2,.arr 3 [zO] true false)],[],[2]⟩):=by
       rw[Z0f,kz 2 _ a2];rfl
      rw[Z0d this,Z15 (kz 2 _ a2)]
     have s3:∀k:Kb AV,effK (stE 3 (.ptr 3 0 0 1) (.agg zI) z) z k=k .u z:=λk=>by
      have:stE 3 (.ptr 3 0 0 1) (.agg zI) z=some (.u,⟨[(3,.arr 3 [zI] true false)],[],[3]⟩):=by
       rw[Z0f,kz 3 _ a3];rfl
      rw[Z0d this,Z15 (kz 3 _ a3)]
     simp -implicitDefEqProofs only[eb,if_true,bO,bI,s2,s3]
     exact hr _ _ (kz 2 _ a2) (kz 3 _ a3)
set_option maxHeartbeats 4000000 in
theorem ZDD(b:Bool)(o:Outb)(c1 c2:Bool)(i:Inbx)(ar an:Nat)(har:ar<18446744073709551616)(han:an<18446744073709551616)(hp:o.pend.length<900)(hh:i.heard.length<900)(hm:i.msgs.length<900)(h:Hp):∃b' b1 b2,Z70 [ob b o,ib c1 c2 i,.s (.int .u64 (ar:Int)),.s (.int .u64 (an:Int))] h=some (exV b' b1 b2 (exO o i ar an),h):=by
 obtain ⟨H,hH⟩:∃H:Hp,H=[bxO b o,bxI c1 c2 i,AObj.arr 3 [zO] true false,.arr 3 [zI] true false]:=⟨_,rfl⟩;have x0:∀k:Kb AV,effK (boxE 3 (ob b o) ([]:Hp).length) [] k=k (.ptr 0 0 0 1) [bxO b o]:=λk=>rfl
 have x1:∀k:Kb AV,effK (boxE 3 (ib c1 c2 i) ([bxO b o]:Hp).length) [bxO b o] k=k (.ptr 1 0 0 1) [bxO b o,bxI c1 c2 i]:=λk=>rfl
 have x2:∀k:Kb AV,effK (boxE 3 (.agg zO) ([bxO b o,bxI c1 c2 i]:Hp).length) [bxO b o,bxI c1 c2 i] k=k (.ptr 2 0 0 1) [bxO b o,bxI c1 c2 i,AObj.arr 3 [zO] true false]:=λk=>rfl
 have x3:∀k:Kb AV,effK (boxE 3 (.agg zI) ([bxO b o,bxI c1 c2 i,AObj.arr 3 [zO] true false]:Hp).length) [bxO b o,bxI c1 c2 i,AObj.arr 3 [zO] true false] k=k (.ptr 3 0 0 1) H:=λk=>by rw[hH];rfl
 have lo:∀k:KV,ldK 3 true (.ptr 0 0 0 1) H k=k (ob b o):=λk=>by rw[hH];rfl
 have li:∀k:KV,ldK 3 true (.ptr 1 0 0 1) H k=k (ib c1 c2 i):=λk=>by rw[hH];rfl
 have lon:∀k:KV,ldK 1 false (.ptr 0 0 0 1) H k=k (I o.node):=λk=>by rw[hH];rfl
 have lin:∀k:KV,ldK 1 false (.ptr 1 0 0 1) H k=k (I i.node):=λk=>by rw[hH];rfl
 have bO:∀k:KV,buildK zO [] k=k (.agg zO):=λk=>rfl
 have bI:∀k:KV,buildK zI [] k=k (.agg zI):=λk=>rfl
 have s2:∀k:Kb AV,effK (stE 3 (.ptr 2 0 0 1) (.agg zO) H) H k=k .u H:=λk=>by rw[hH];exact Z0d (v := .u) (id:=2) (o := .arr 3 [zO] true false) (ft:=[2]) rfl k
 have s3:∀k:Kb AV,effK (stE 3 (.ptr 3 0 0 1) (.agg zI) H) H k=k .u H:=λk=>by rw[hH];exact Z0d (v := .u) (id:=3) (o := .arr 3 [zI] true false) (ft:=[3]) rfl k
 have r2:∀k:KV,ldK 3 true (.ptr 2 0 0 1) H k=k (.agg zO):=λk=>by rw[hH];rfl
 have r3:∀k:KV,ldK 3 true (.ptr 3 0 0 1) H k=k (.agg zI):=λk=>by rw[hH];rfl
 have fO:=ZgM b o (by omega)
 have fI:=ZgG c1 c2 i (by omega) (by omega)
 have hpl:plains [ob b o,ib c1 c2 i,.s (.int .u64 (ar:Int)),.s (.int .u64 (an:Int))]=true:=rfl;have hn1:nrm (.a [none,none,some 10]) (ob b o)=ob b o:=rfl;have hn2:nrm (.a [none,some 2,some 7]) (ib c1 c2 i)=ib c1 c2 i:=rfl
 have go:∀w,Z3T Tryz.prog Z0Z Z13 NN (λv g=>cvt false g v) (ob b o) (ib c1 c2 i) (.s (.int .u64 (ar:Int))) (.s (.int .u64 (an:Int))) []=some w→Z70 [ob b o,ib c1 c2 i,.s (.int .u64 (ar:Int)),.s (.int .u64 (an:Int))] h=some (nrmR [.a [none,none,some 10],.a [none,some 2,some 7],.o] w,h):=λw hw=>
  ZzT (a0:=ob b o) (a1:=ib c1 c2 i) (a2 := .s (.int .u64 (ar:Int))) (a3 := .s (.int .u64 (an:Int))) (v:=w) hpl (by rw[hn1,hn2];exact hw) h
 unfold exO;by_cases z:chkO o≠0∨chkI i≠0
 ·rw[if_pos z]
  refine ⟨true,true,true,(go (.tup [.agg zO,.agg zI,I 1]) ?_).trans rfl⟩
  have gr:(!(chkO o==0) || !(chkI i==0))=true:=by
   rcases z with z | z
   ·simp[z]
   ·simp[z]
  simp -implicitDefEqProofs only[Z3T,x0,x1,x2,x3,lo,li,Zgg,Zgh,Z02,fO,fI,Z03,Bool.true_xor,Z0J,gr,Z00,if_true,bO,bI,s2,s3,r2,r3]
  rfl
 ·have z1:chkO o=0:=Classical.byContradiction λq=>z (.inl q)
  have z2:chkI i=0:=Classical.byContradiction λq=>z (.inr q)
  rw[if_neg z];have gr:(!(chkO o==0) || !(chkI i==0))=false:=by simp[z1,z2]
  by_cases q:o.node=i.node
  ·have eq':(o.node==i.node)=true:=by simp[q]
   rw[if_pos q];refine ⟨true,true,true,(go (.tup [.agg zO,.agg zI,I 10]) ?_).trans rfl⟩
   simp -implicitDefEqProofs only[Z3T,x0,x1,x2,x3,lo,li,Zgg,Zgh,Z02,fO,fI,Z03,Bool.true_xor,Z0J,gr,Z00,Bool.false_eq_true,if_false,Z04,Nat.zero_add,lon,lin,Bool.false_xor,eq',if_true,bO,bI,s2,s3,r2,r3]
   rfl
  ·have eq':(o.node==i.node)=false:=by simp[q]
   rw[if_neg q];obtain ⟨-,-,-,k4,-⟩:=Z4t z1
   obtain ⟨m1,m2,m3,-⟩:=Z7c z2;obtain ⟨H1,hH1⟩:∃H1:Hp,H1=H++[bxO false o,bxI false false i]:=⟨_,rfl⟩;have y1:∀(h:Hp)(k:AV→Hp→Ent→Option AV),effD (callE (Z13 8) [ob b o] h h.length) h k=k (ob false o) h ([],[]):=Z7e (λh=>ZmR b o (by omega) h) (by simp[idss,ZgJ])
   have y2:∀(h:Hp)(k:AV→Hp→Ent→Option AV),effD (callE (Z13 9) [ib c1 c2 i] h h.length) h k=k (ib false false i) h ([],[]):=Z7e (λh=>ZgF c1 c2 i (by omega) (by omega) h) (by simp[idss,ZeG])
   have y3:∀k:AV→Hp→Ent→Option AV,effD (boxE 3 (.agg zO) H.length) H k=k (.ptr 4 0 0 1) (H++[.arr 3 [zO] true false]) ([],[4]):=λk=>by rw[hH];rfl
   have y4:∀k:AV→Hp→Ent→Option AV,effD (boxE 3 (.agg zI) (H++[AObj.arr 3 [zO] true false]).length) (H++[.arr 3 [zO] true false]) k=k (.ptr 5 0 0 1) (H++[.arr 3 [zO] true false,.arr 3 [zI] true false]) ([],[5]):=λk=>by rw[hH];rfl
   have y5:∀k:AV→Hp→Ent→Option AV,effD (stE 3 (.ptr 4 0 0 1) (ob false o) (H++[.arr 3 [zO] true false,.arr 3 [zI] true false])) (H++[.arr 3 [zO] true false,.arr 3 [zI] true false]) k=k .u (H++[bxO false o,.arr 3 [zI] true false]) ([4],[4]):=λk=>by rw[hH];rfl
   have y6:∀k:AV→Hp→Ent→Option AV,effD (stE 3 (.ptr 5 0 0 1) (ib false false i) (H++[bxO false o,.arr 3 [zI] true false])) (H++[bxO false o,.arr 3 [zI] true false]) k=k .u H1 ([5],[5]):=λk=>by rw[hH1,hH];rfl
   have dj1:disjAll [(1,2),(0,4),(1,4),(2,4),(3,4),(0,5),(1,5),(2,5),(3,5),(4,5)] [(idsOf (.ptr 0 0 0 1),[]),([],[]),(idsOf (.ptr 1 0 0 1),[]),([],[]),([],[4]),([],[5]),([4],[4]),([5],[5])]=true:=rfl;have lo1:∀k:KV,ldK 3 true (.ptr 0 0 0 1) H1 k=k (ob b o):=λk=>by rw[hH1,hH];rfl
   have li1:∀k:KV,ldK 1 false (.ptr 1 0 0 1) H1 k=k (I i.node):=λk=>by rw[hH1,hH];rfl
   obtain ⟨ba,fA⟩:=ZDq b o i.node (by omega) H1
   have hA:againO o i.node=(againL i.node o.pend,0):=by unfold againO;rw[if_neg (λhh=>hh z1),if_neg (by rw[m1];simp)]
   rw[hA] at fA;obtain ⟨L,hL⟩:∃L:List Envl,L=againL i.node o.pend:=⟨_,rfl⟩
   rw[← hL] at fA ⊢
   have hLl:L.length≤64:=by rw[hL];exact Nat.le_trans (List.length_filter_le _ _) k4
   have tp:∀(a b:AV)(k:KV),exK (.tup [a,b]) 0 k=k a:=λa b k=>rfl
   have tq:∀(a b:AV)(k:KV),exK (.tup [a,b]) 1 k=k b:=λa b k=>rfl
   obtain ⟨w,b',b1,b2,hq,hq2⟩:=ZDC (x0:=λw127_8 w127_9 w127_11 w127_12 h=>Z7z Tryz.prog Z0Z Z13 NN (λv g=>cvt false g v) w127_8 w127_9 w127_11 w127_12 h) (xr:=λw128_8 w128_9 w128_10 h=>ldK 3 true w128_8 h λr129=>ldK 3 true w128_9 h λr130=>(λv g=>cvt false g v) (.tup [r129,r130,w128_10]) h) (b:=ba) har han hLl (λb' b1 b2 o i h a2 a3 a4 a5=>by
     have u4:∀k:KV,ldK 3 true (.ptr 4 0 0 1) h k=k (ob b' o):=λk=>by rw[Z01,a4];rfl
     have u5:∀k:KV,ldK 3 true (.ptr 5 0 0 1) h k=k (ib b1 b2 i):=λk=>by rw[Z01,a5];rfl
     obtain ⟨ga,hga⟩:∃ga,ga=h.set 2 (.arr 3 [cellsO b' o] true false):=⟨_,rfl⟩
     have v3:∀k:AV→Hp→Ent→Option AV,effD (stE 3 (.ptr 2 0 0 1) (ob b' o) h) h k=k .u ga ([2],[2]):=λk=>by
      have:stE 3 (.ptr 2 0 0 1) (ob b' o) h=some (.u,⟨[(2,.arr 3 [cellsO b' o] true false)],[],[2]⟩):=by
       rw[Z0f,a2];simp[putAt]
      rw[Z0h this,hga]
     have ga3:ga[3]? = some (.arr 3 [zI] true false):=by rw[hga];exact getSetN a3 (by decide)
     obtain ⟨gb,hgb⟩:∃gb,gb=ga.set 3 (.arr 3 [cellsI b1 b2 i] true false):=⟨_,rfl⟩
     have v4:∀k:AV→Hp→Ent→Option AV,effD (stE 3 (.ptr 3 0 0 1) (ib b1 b2 i) ga) ga k=k .u gb ([3],[3]):=λk=>by
      have:stE 3 (.ptr 3 0 0 1) (ib b1 b2 i) ga=some (.u,⟨[(3,.arr 3 [cellsI b1 b2 i] true false)],[],[3]⟩):=by
       rw[Z0f,ga3];simp[putAt]
      rw[Z0h this,hgb]
     have gb2:gb[2]? = some (.arr 3 [cellsO b' o] true false):=by rw[hgb];exact getSetN (by rw[hga];exact getSelfN a2) (by decide)
     have gb3:gb[3]? = some (.arr 3 [cellsI b1 b2 i] true false):=by rw[hgb];exact getSelfN ga3
     have w2:∀k:KV,ldK 3 true (.ptr 2 0 0 1) gb k=k (ob b' o):=λk=>by rw[Z01,gb2];rfl
     have w3:∀k:KV,ldK 3 true (.ptr 3 0 0 1) gb k=k (ib b1 b2 i):=λk=>by rw[Z01,gb3];rfl
     have dj:disjAll [(1,2)] [(idsOf (.ptr 4 0 0 1),[]),(idsOf (.ptr 5 0 0 1),[]),([2],[2]),([3],[3]),([],[])]=true:=rfl;simp -implicitDefEqProofs only[Z7z,u4,u5,v3,v4,dj,cond_true,w2,w3];rfl) (λe h a2 a3=>by
     have u2:∀k:KV,ldK 3 true (.ptr 2 0 0 1) h k=k (.agg zO):=λk=>by rw[Z01,a2];rfl
     have u3:∀k:KV,ldK 3 true (.ptr 3 0 0 1) h k=k (.agg zI):=λk=>by rw[Z01,a3];rfl
     show (ldK 3 true (.ptr 2 0 0 1) h λr129=>ldK 3 true (.ptr 3 0 0 1) h λr130=>cvt false h (.tup [r129,r130,I e]))=_
     rw[u2,u3];rfl) NN [] L o i H1 rfl (by have:=NN_ge;omega) (by rw[hH1,hH];exact ⟨rfl,rfl,⟨false,rfl⟩,⟨false,false,rfl⟩,by simp⟩) (by omega) (by omega) (by omega)
   refine ⟨b',b1,b2,(go w ?_).trans (by rw[hq2];rfl)⟩
   refine Eq.trans ?_ hq;simp -implicitDefEqProofs only[Z3T,x0,x1,x2,x3,lo,li,Zgg,Zgh,ZzO,Z02,fO,fI,Z03,Bool.true_xor,Z0J,gr,Z00,Bool.false_eq_true,if_false,Z04,Nat.zero_add,lon,lin,Bool.false_xor,eq',y1,y2,y3,y4,y5,y6,dj1,cond_true,lo1,li1,fA,tp,tq]
   rfl
theorem ZDE(b1 b2:Bool)(i:Inbx)(hl:i.heard.length<1000)(hm:i.msgs.length<1000)(h:Hp):Zah [ib b1 b2 i] h=some (if chkI i=0 then allR i.msgs else .tup [.lst 7 true [],I 1],h):=by
 have x0:∀k:Kb AV,effK (boxE 3 (ib b1 b2 i) ([]:Hp).length) [] k=k (.ptr 0 0 0 1) [bxI b1 b2 i]:=λk=>rfl
 have l0:∀k:KV,ldK 3 true (.ptr 0 0 0 1) [bxI b1 b2 i] k=k (ib b1 b2 i):=λk=>rfl
 have l2:∀k:KV,ldK 1 false (.ptr 0 0 2 1) [bxI b1 b2 i] k=k (SL 7 encM b2 i.msgs):=λk=>rfl
 have fC:=ZgG b1 b2 i (by omega) hm
 have fA:=ZDA i.msgs (b2&&i.msgs.isEmpty) hm;by_cases z:chkI i=0
 ·have ez:(!(chkI i==0))=false:=by simp[z]
  obtain ⟨-,-,-,-,m5,-⟩:=Z7c z;refine (ZlI (a0:=ib b1 b2 i) (v:=allR i.msgs) rfl ?_ h).trans (by rw[if_pos z];rfl)
  rw[show nrm (.a [none,some 2,some 7]) (ib b1 b2 i)=ib b1 b2 i from rfl];have t0:∀k:KV,exK (allR i.msgs) 0 k=k (.lst 7 (errM i.msgs != 0) ((allS i.msgs).map encDo)):=λk=>rfl
  have t1:∀k:KV,exK (allR i.msgs) 1 k=k (I (errM i.msgs)):=λk=>rfl
  simp -implicitDefEqProofs only[Z7C,x0,l0,ZlH,Z02,fC,Z03,Bool.true_xor,ez,Z00,Bool.false_eq_true,if_false,Z04,Nat.zero_add,l2,ZAE,fA,t0,t1]
  rfl
 ·have ez:(!(chkI i==0))=true:=by simp[z]
  refine (ZlI (a0:=ib b1 b2 i) (v := .tup [nilS,I 1]) rfl ?_ h).trans (by rw[if_neg z];rfl)
  rw[show nrm (.a [none,some 2,some 7]) (ib b1 b2 i)=ib b1 b2 i from rfl];simp -implicitDefEqProofs only[Z7C,x0,l0,ZlH,Z02,fC,Z03,Bool.true_xor,ez,Z00,if_true]
  rfl
theorem ZDF(l:List Msg)(p q:Bool)(hl:(allS l).length<1000000)(h:Hp):Z4o [.lst 7 p ((allS l).map encDo),.lst 7 q ((allS l).map encDo)] h=some (B true,h):=by
 have:=ZmB (allS l) (allS l) p q hl h
 simpa using this
set_option maxHeartbeats 4000000 in
theorem exchanges_law(o:Outb)(c:Bool)(i:Inbx)(c1 c2:Bool)(x:Bts):Zgi [.agg (cellsO c o),.agg (cellsI c1 c2 i),.agg (encB x)] []=some (B true,[]):=by
 refine ZBm (a0:=ob c o) (a1:=ib c1 c2 i) (a2 := .agg (encB x)) rfl ?_ [];rw[show nrm (.a [none,none,some 10]) (ob c o)=ob c o from rfl,show nrm (.a [none,some 2,some 7]) (ib c1 c2 i)=ib c1 c2 i from rfl];obtain ⟨H,hH⟩:∃H:Hp,H=[bxO c o,bxI c1 c2 i,.arr 2 [encB x] true false]:=⟨_,rfl⟩;have x0:∀k:Kb AV,effK (boxE 3 (ob c o) ([]:Hp).length) [] k=k (.ptr 0 0 0 1) [bxO c o]:=λk=>rfl
 have x1:∀k:Kb AV,effK (boxE 3 (ib c1 c2 i) ([bxO c o]:Hp).length) [bxO c o] k=k (.ptr 1 0 0 1) [bxO c o,bxI c1 c2 i]:=λk=>rfl
 have x2:∀k:Kb AV,effK (boxE 2 (.agg (encB x)) ([bxO c o,bxI c1 c2 i]:Hp).length) [bxO c o,bxI c1 c2 i] k=k (.ptr 2 0 0 1) H:=λk=>by rw[hH];rfl
 have li:∀k:KV,ldK 3 true (.ptr 1 0 0 1) H k=k (ib c1 c2 i):=λk=>by rw[hH];rfl
 have lo:∀k:KV,ldK 3 true (.ptr 0 0 0 1) H k=k (ob c o):=λk=>by rw[hH];rfl
 have b0:∀k:KV,ldK 1 false (.ptr 2 0 0 1) H k=k (.s (.int .u64 (x.1.1:Int))):=λk=>by rw[hH];rfl
 have b1:∀k:KV,ldK 1 false (.ptr 2 0 1 1) H k=k (.s (.int .u64 (x.2.1:Int))):=λk=>by rw[hH];rfl
 have fw:=ZCu;have f1:=ZDm c o;have f2:=ZCX c1 c2 i;simp -implicitDefEqProofs only[ZaL,x0,x1,x2,ZBa,Z02,fw,Z0L,Bool.not_true,Z00,Bool.false_eq_true,if_false,lo,ZBb,f1,li,ZBc,f2,Z0J];by_cases big:fewO o.pend.length=true∧fewI i=true
 ·obtain ⟨q1,q2⟩:=big
  have e:(!fewO o.pend.length || !fewI i)=false:=by rw[q1,q2];rfl
  have hp:o.pend.length<100:=by unfold fewO at q1;simp at q1;omega
  obtain ⟨hh,hm⟩:i.heard.length<300∧i.msgs.length<100:=by unfold fewI at q2;simp at q2;omega
  have k1:∀(h:Hp)(k:AV→Hp→Ent→Option AV),effD (callE (Z3m 8) [ob c o] h h.length) h k=k (ob false o) h ([],[]):=Z7e (λh=>ZmR c o (by omega) h) (by simp[idss,ZgJ])
  have k2:∀(h:Hp)(k:AV→Hp→Ent→Option AV),effD (callE (Z3m 9) [ib c1 c2 i] h h.length) h k=k (ib false false i) h ([],[]):=Z7e (λh=>ZgF c1 c2 i (by omega) (by omega) h) (by simp[idss,ZeG])
  obtain ⟨d,d1,d2,hE⟩:=ZgB false o false false i x.1.1 x.2.1 x.1.2 x.2.2 (by omega) (by omega) (by omega) []
  have hlen:=ZDw o i x.1.1 x.2.1;have hG:=λh=>ZDD c o c1 c2 i x.1.1 x.2.1 x.1.2 x.2.2 (by omega) (by omega) (by omega) h
  generalize exO o i x.1.1 x.2.1=r at hE hlen hG;obtain ⟨p,j,er⟩:=r;unfold exV at hE hG;dsimp only at hE hlen hG;have k3:∀(h:Hp)(k:AV→Hp→Ent→Option AV),effD (callE (Z3m 7) [ob false o,ib false false i,.s (.int .u64 (x.1.1:Int)),.s (.int .u64 (x.2.1:Int))] h h.length) h k=k (.tup [ob d p,ib d1 d2 j,I er]) h ([],[]):=Z7e (ZmN rfl hE) (by simp[idss,ZeG,ZgJ,ids])
  obtain ⟨H5,hH5⟩:∃H5:Hp,H5=[bxO c o,bxI c1 c2 i,.arr 2 [encB x] true false,bxO d p,bxI d1 d2 j]:=⟨_,rfl⟩;have d4:∀k:AV→Hp→Ent→Option AV,effD (boxE 3 (.agg zO) H.length) H k=k (.ptr 3 0 0 1) (H++[.arr 3 [zO] true false]) ([],[3]):=λk=>by rw[hH];rfl
  have d5:∀k:AV→Hp→Ent→Option AV,effD (boxE 3 (.agg zI) (H++[AObj.arr 3 [zO] true false]).length) (H++[.arr 3 [zO] true false]) k=k (.ptr 4 0 0 1) (H++[.arr 3 [zO] true false,.arr 3 [zI] true false]) ([],[4]):=λk=>by rw[hH];rfl
  have d6:∀k:AV→Hp→Ent→Option AV,effD (stE 3 (.ptr 3 0 0 1) (ob d p) (H++[.arr 3 [zO] true false,.arr 3 [zI] true false])) (H++[.arr 3 [zO] true false,.arr 3 [zI] true false]) k=k .u (H++[bxO d p,.arr 3 [zI] true false]) ([3],[3]):=λk=>by rw[hH];rfl
  have d7:∀k:AV→Hp→Ent→Option AV,effD (stE 3 (.ptr 4 0 0 1) (ib d1 d2 j) (H++[bxO d p,.arr 3 [zI] true false])) (H++[bxO d p,.arr 3 [zI] true false]) k=k .u H5 ([4],[4]):=λk=>by rw[hH,hH5];rfl
  have dj:disjAll [(1,2),(1,5),(3,5),(1,7),(3,7),(0,13),(1,13),(2,13),(3,13),(5,13),(7,13),(8,13),(0,14),(1,14),(2,14),(3,14),(5,14),(7,14),(8,14),(13,14)] [(idsOf (.ptr 0 0 0 1),[]),([],[]),(idsOf (.ptr 1 0 0 1),[]),([],[]),([],[]),(idsOf (.ptr 2 0 0 1),[]),([],[]),(idsOf (.ptr 2 0 1 1),[]),([],[]),([],[]),([],[]),([],[]),([],[]),([],[3]),([],[4]),([3],[3]),([4],[4]),([],[])]=true:=rfl;have t0:∀(a b c:AV)(k:KV),exK (.tup [a,b,c]) 0 k=k a:=λa b c k=>rfl
  have t1:∀(a b c:AV)(k:KV),exK (.tup [a,b,c]) 1 k=k b:=λa b c k=>rfl
  have t2:∀(a b c:AV)(k:KV),exK (.tup [a,b,c]) 2 k=k c:=λa b c k=>rfl
  have o5:∀k:KV,ldK 3 true (.ptr 0 0 0 1) H5 k=k (ob c o):=λk=>by rw[hH5];rfl
  have i5:∀k:KV,ldK 3 true (.ptr 1 0 0 1) H5 k=k (ib c1 c2 i):=λk=>by rw[hH5];rfl
  have b50:∀k:KV,ldK 1 false (.ptr 2 0 0 1) H5 k=k (.s (.int .u64 (x.1.1:Int))):=λk=>by rw[hH5];rfl
  have b51:∀k:KV,ldK 1 false (.ptr 2 0 1 1) H5 k=k (.s (.int .u64 (x.2.1:Int))):=λk=>by rw[hH5];rfl
  obtain ⟨g,g1,g2,hG5⟩:=hG H5;obtain ⟨H7,hH7⟩:∃H7:Hp,H7=H5++[bxO g p,bxI g1 g2 j]:=⟨_,rfl⟩;have y4:∀k:Kb AV,effK (boxE 3 (.agg zO) H5.length) H5 k=k (.ptr 5 0 0 1) (H5++[.arr 3 [zO] true false]):=λk=>by rw[hH5];rfl
  have y5:∀k:Kb AV,effK (boxE 3 (.agg zI) (H5++[AObj.arr 3 [zO] true false]).length) (H5++[.arr 3 [zO] true false]) k=k (.ptr 6 0 0 1) (H5++[.arr 3 [zO] true false,.arr 3 [zI] true false]):=λk=>by rw[hH5];rfl
  have y6:∀k:Kb AV,effK (stE 3 (.ptr 5 0 0 1) (ob g p) (H5++[.arr 3 [zO] true false,.arr 3 [zI] true false])) (H5++[.arr 3 [zO] true false,.arr 3 [zI] true false]) k=k .u (H5++[bxO g p,.arr 3 [zI] true false]):=λk=>by rw[hH5];rfl
  have y7:∀k:Kb AV,effK (stE 3 (.ptr 6 0 0 1) (ib g1 g2 j) (H5++[bxO g p,.arr 3 [zI] true false])) (H5++[bxO g p,.arr 3 [zI] true false]) k=k .u H7:=λk=>by rw[hH7,hH5];rfl
  have i7:∀k:KV,ldK 3 true (.ptr 1 0 0 1) H7 k=k (ib c1 c2 i):=λk=>by rw[hH7,hH5];rfl
  have p3:∀k:KV,ldK 3 true (.ptr 3 0 0 1) H7 k=k (ob d p):=λk=>by rw[hH7,hH5];rfl
  have p4:∀k:KV,ldK 3 true (.ptr 4 0 0 1) H7 k=k (ib d1 d2 j):=λk=>by rw[hH7,hH5];rfl
  have p5:∀k:KV,ldK 3 true (.ptr 5 0 0 1) H7 k=k (ob g p):=λk=>by rw[hH7,hH5];rfl
  have p6:∀k:KV,ldK 3 true (.ptr 6 0 0 1) H7 k=k (ib g1 g2 j):=λk=>by rw[hH7,hH5];rfl
  have cI:=λh=>ZgF c1 c2 i (by omega) (by omega) h
  have fD:=ZDx false false i (by omega) (by omega)
  have gD:=ZDE c1 c2 i (by omega) (by omega)
  have s1:=ZDs d g p (by omega)
  have s2:=ZCZ d1 d2 g1 g2 j j (by omega) (by omega)
  simp only[decide_true] at s2;have u0:∀(a b:AV)(k:KV),exK (.tup [a,b]) 0 k=k a:=λa b k=>rfl
  have u1:∀(a b:AV)(k:KV),exK (.tup [a,b]) 1 k=k b:=λa b k=>rfl
  obtain ⟨D1,D2,E,hD1,hD2,hS⟩:∃(D1 D2:AV)(E:Int),(if chkI i=0 then allV i.msgs else AV.tup [.lst 7 true [],I 1]) = .tup [D1,I E]∧(if chkI i=0 then allR i.msgs else AV.tup [.lst 7 true [],I 1]) = .tup [D2,I E]∧∀h,Z4o [D1,D2] h=some (B true,h):=by
   by_cases z:chkI i=0
   ·rw[if_pos z,if_pos z]
    refine ⟨_,_,_,rfl,rfl,λh=>ZDF i.msgs _ _ ?_ h⟩
    have:=ZCR i.msgs
    omega
   ·rw[if_neg z,if_neg z]
    refine ⟨_,_,_,rfl,rfl,λh => ?_⟩
    have:=ZmB [] [] true true (by simp) h
    simpa using this
  rw[hD1] at fD;rw[hD2] at gD;simp -implicitDefEqProofs only[e,Bool.false_eq_true,if_false,lo,k1,li,k2,Z04,Nat.zero_add,b0,b1,k3,t0,t1,t2,d4,d5,d6,d7,dj,cond_true,o5,i5,b50,b51,ZBe,Z02,hG5,y4,y5,y6,y7,i7,ZBd,cI,ZBf,fD,u0,u1,ZBg,gD,p3,p4,p5,p6,ZBh,s1,Z3b,ZBi,s2,Z03,beq_self_eq_true,Bool.false_xor,ZBj,hS]
  rfl
 ·have e:(!fewO o.pend.length || !fewI i)=true:=by
   cases z1:fewO o.pend.length with
   | false=>rfl
   | true=>
    cases z2:fewI i with
    | false=>rfl
    | true=>exact absurd ⟨z1,z2⟩ big
  simp -implicitDefEqProofs only[e,if_true]
  rfl
end Go.AM
end
