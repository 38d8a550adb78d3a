import Derived.Test.YtgmfphialjcpcaaG6
import Derived.Below
import Derived.ChangeOld
import Derived.Carry
import Derived.OpenShut
set_option linter.unusedSectionVars false
set_option linter.unusedVariables false
set_option linter.unusedSimpArgs false
set_option linter.constructorNameAsVariable false
namespace Go.AM
open Go.Proofs
set_option linter.unusedVariables false
set_option linter.unusedSimpArgs false
set_option linter.constructorNameAsVariable false
set_option maxRecDepth 20000
attribute [local congr] Z0j Z0k Z0l Z0m Z0n Z0o Z0p Z0q Z0r Z0s Z0t Z0u Z0v Z0w Z0x Z0y Z0z Z0A Z0B Z0C Z0D Z0E Z0F Z0G Z0H Z0I Z0J
theorem Zw5 {β:Type} {T:Tab} {D:DTab} {N:Nat} {x0:Hp→Option β} {xr:AV→Hp→Option β} {a b:List Int} {h:Hp} (ha:h[2]? = some (.arr 1 (a.map fun z=>[I z]) true false)) (hb:h[3]? = some (.arr 1 (b.map fun z=>[I z]) true false)) (la:a.length=7) (lb:b.length=7) (hx:x0 h=xr (B false) h):∀(n i:Nat),i≤7→7<i+n→
  Z4x Try.prog T D N x0 xr n (.sl 1 2 0 7 7 true) (.sl 1 3 0 7 7 true) (I i) h=xr (B (ltZ (a.drop i) (b.drop i))) h:=by
 intro n
 induction n with
 | zero=>intro i h1 h2;omega
 | succ n ih=>
  intro i h1 h2
  show Z7E Try.prog T D N (Z4x Try.prog T D N x0 xr n) x0 xr _ _ _ h=_
  rcases Nat.lt_or_ge i 7 with hi | hi
  ·have c1:((i:Int)<((7:Nat):Int)):=by omega
   have w2:IntKind.i64.wrap ((i:Int)+1)=((i+1:Nat):Int):=by rw [wrap64 (by omega) (by omega)];omega
   have i1:∀K:Go.AM.K β,iaK 1 (.sl 1 2 0 7 7 true) (I i) K=K (.ptr 2 i 0 7):=fun K=>by rw [Z8X (by omega) (by omega)];simp
   have i2:∀K:Go.AM.K β,iaK 1 (.sl 1 3 0 7 7 true) (I i) K=K (.ptr 3 i 0 7):=fun K=>by rw [Z8X (by omega) (by omega)];simp
   have ea:a[i]? = some a[i]:=List.getElem?_eq_getElem (by omega)
   have eb:b[i]? = some b[i]:=List.getElem?_eq_getElem (by omega)
   have l1:∀K:Go.AM.K β,ldK 1 false (.ptr 2 i 0 7) h K=K (I a[i]):=fun K=>by simp [ha,la,ea]
   have l2:∀K:Go.AM.K β,ldK 1 false (.ptr 3 i 0 7) h K=K (I b[i]):=fun K=>by simp [hb,lb,eb]
   rw [List.drop_eq_getElem_cons (show i<a.length by omega),List.drop_eq_getElem_cons (show i<b.length by omega),Z5J]
   simp -implicitDefEqProofs only [Z7E,Z0O,Z05,c1,decide_true,Z00,if_true,i1,i2,l1,l2,Z04,Bool.true_xor,Z0M,w2]
   by_cases he:a[i]=b[i]
   ·have e:(a[i]==b[i])=true:=by simpa using he
    have hn:¬b[i]<b[i]:=by omega
    simp only [e,Bool.not_true,Bool.false_eq_true,if_false,ih (i+1) (by omega) (by omega)]
    rw [he]
    simp [hn]
   ·have e:(a[i]==b[i])=false:=by simpa using he
    simp [e,he]
  ·have:i=7:=by omega
   subst this
   have c1:¬(((7:Nat):Int)<((7:Nat):Int)):=by omega
   simp -implicitDefEqProofs only [Z7E,Z0O,Z05,c1,decide_false,Z00,Bool.false_eq_true,if_false,hx]
   rw [List.drop_eq_nil_of_le (by omega),List.drop_eq_nil_of_le (by omega)]
   rfl
theorem Zw6 (a b:Msg) (h:Hp):Z5c [.agg (encM a), .agg (encM b)] h=some (B (ltM a b),h):=by
 refine ZtS (by simp [encM]) ?_ h
 unfold ltM
 obtain ⟨a0,a1,a2,a3,a4,a5,a6⟩:=a
 obtain ⟨b0,b1,b2,b3,b4,b5,b6⟩:=b
 have bs2:∀(o0 o1:AObj) (c0 c1 c2 c3 c4 c5 c6:Int) (k:AV→Hp→Option AV),effK (bsE 1 [.s (.int .i64 0)] 7 [(0,I c0),(1,I c1),(2,I c2),(3,I c3),(4,I c4),(5,I c5),(6,I c6)] ([o0,o1]:Hp).length) [o0,o1] k=k (.sl 1 2 0 7 7 true) [o0,o1, .arr 1 [[I c0],[I c1],[I c2],[I c3],[I c4],[I c5],[I c6]] true false]:=fun _ _ _ _ _ _ _ _ _ _=>rfl
 have bs3:∀(o0 o1 o2:AObj) (c0 c1 c2 c3 c4 c5 c6:Int) (k:AV→Hp→Option AV),effK (bsE 1 [.s (.int .i64 0)] 7 [(0,I c0),(1,I c1),(2,I c2),(3,I c3),(4,I c4),(5,I c5),(6,I c6)] ([o0,o1,o2]:Hp).length) [o0,o1,o2] k=k (.sl 1 3 0 7 7 true) [o0,o1,o2, .arr 1 [[I c0],[I c1],[I c2],[I c3],[I c4],[I c5],[I c6]] true false]:=fun _ _ _ _ _ _ _ _ _ _ _=>rfl
 simp -implicitDefEqProofs only [Z7F,encM,encDo,Z06,Z15,Nat.zero_add,Nat.add_zero,Nat.reduceAdd,Z1f,Z1g,Z1h,Z1i,Z1j,Z1k,Z1l,Z1m,Z1n,Z1o,Z1p,Z1q,Z1r,Z1s,Z1t,Z1u,Z1v,Z1w,Z1x,Z1y,Z1z,lw7_0,ew7_0,bx7_0,Z1A,Z1B,Z1C,Z1D,Z1E,Z1F,Z1G,Z1H,Z1I,Z1J,Z1K,Z1L,Z1M,Z1N,Z1O,Z1P,Z1Q,Z1R,Z1S,Z1T,Z1U,lw7_1,ew7_1,bx7_1,Z1V,Z1W,Z1X,Z1Y,Z1Z,Z20,Z21,Z22,Z23,Z24,Z25,Z26,Z27,Z28,Z29,Z2a,Z2b,Z2c,Z2d,Z2e,Z2f,lw7_2,ew7_2,bx7_2,Z2g,Z2h,Z2i,Z2j,Z2k,Z2l,Z2m,Z2n,Z2o,Z2p,Z2q,Z2r,Z2s,Z2t,Z2u,Z2v,Z2w,Z2x,Z2y,Z2z,Z2A,lw7_3,ew7_3,bx7_3,Z16,Z05,Z0Y,Z0e,Z0R,Z0h,Z0N,Z00,Z04,Z0g,Bool.false_xor,Bool.true_xor,Z02,Z13,Z0a,Z0O,Z14,List.length_map,bs2,bs3]
 have:=Zw5 (T:=Z6u) (D:=Z6t) (N:=NN) (x0:=fun h=>Za9 Try.prog Z6u Z6t NN (fun v g=>cvt false g v) h) (xr:=fun w51_4 h=>cvt false h w51_4) (a:=[a0,a1,a2,a3,a4,a5,a6]) (b:=[b0,b1,b2,b3,b4,b5,b6]) (h:=[.arr 7 [[I a0,I a1,I a2,I a3,I a4,I a5,I a6]] true false, .arr 7 [[I b0,I b1,I b2,I b3,I b4,I b5,I b6]] true false, .arr 1 [[I a0],[I a1],[I a2],[I a3],[I a4],[I a5],[I a6]] true false, .arr 1 [[I b0],[I b1],[I b2],[I b3],[I b4],[I b5],[I b6]] true false]) rfl rfl rfl rfl rfl NN 0 (by omega) (by have:=NN_ge;omega)
 exact this.trans rfl
theorem Ziq {T:Tab} {D:DTab} {N:Nat} {x0:Hp→Option AV} {xr:AV→Hp→Option AV} {l:List Msg} {b:Bool} {h:Hp} (hT:T 86=some Z4E) (hl:l.length<1000000) (hx:x0 h=xr (I 0) h):∀(n:Nat) (pre post:List Msg),l=pre++post→post.length<n→
  Z4j Try.prog T D N x0 xr n (.lst 7 b (l.map encM)) (I pre.length) h=xr (I (if (post.any fun m=>checkM m != 0)=true then 1 else 0)) h:=by
 intro n
 induction n with
 | zero=>intro pre post _ h2;omega
 | succ n ih=>
  intro pre post hc hn
  show Z7t Try.prog T D N (Z4j Try.prog T D N x0 xr n) x0 xr _ _ h=_
  cases post with
  | nil=>
   have:l=pre:=by simpa using hc
   subst this
   have c1:¬((l.length:Int)<(l.length:Int)):=by omega
   simp -implicitDefEqProofs only [Z7t,Z0a,List.length_map,Z05,c1,decide_false,Z00,Bool.false_eq_true,if_false,hx]
   rfl
  | cons c post=>
   have hi:pre.length<l.length:=by rw [hc];simp
   have hci:l[pre.length]? = some c:=by rw [hc];simp
   have hlt:((pre.length:Int)<(l.length:Int)):=by omega
   have hw:IntKind.i64.wrap ((pre.length:Int)+1)=(((pre++[c]).length:Nat):Int):=by rw [wrap64 (by omega) (by omega)];simp
   have ic:∀k:Go.AM.K AV,iaK 7 (.lst 7 b (l.map encM)) (I pre.length) k=k (.ep (encM c) 0):=fun k=>Z0P pre.length rfl hci k
   have ld:∀k:Go.AM.K AV,ldK 7 true (.ep (encM c) 0) h k=k (.agg (encM c)):=fun k=>rfl
   have step:=ih (pre++[c]) post (by simpa using hc) (by simpa using hn)
   have fc:=ZhI c
   simp -implicitDefEqProofs only [Z7t,Z0a,List.length_map,Z05,hlt,decide_true,Z00,if_true,ic,ld,hT,Z02,fc,Z04,Bool.true_xor,Z0M,hw,step]
   by_cases h0:checkM c=0
   ·simp [h0]
   ·simp [h0]
theorem Zw7 (l:List Msg) (b:Bool) (hl:l.length<1000000) (h:Hp):Z5b [.lst 7 b (l.map encM)] h=some (I (errM l),h):=by
 refine ZtL rfl ?_ h
 simp only [nrm,nrmC]
 by_cases h1:64<l.length
 ·have c1:((64:Int)<(l.length:Int)):=by omega
  simp [Z3i,c1,errM,h1]
 ·have c1:¬((64:Int)<(l.length:Int)):=by omega
  have:=Ziq (T:=Z39) (D:=Z3r) (N:=NN) (x0:=fun h=>Z7s Try.prog Z39 Z3r NN (fun v g=>cvt false g v) h) (xr:=fun w12_2 h=>cvt false h w12_2) (l:=l) (b:=b) (h:=[]) Zhw hl rfl NN [] l rfl (by have:=NN_ge;omega)
  simp -implicitDefEqProofs only [Z3i,Z0a,List.length_map,Z0e,c1,decide_false,Z00,Bool.false_eq_true,if_false,errM,h1]
  exact this.trans rfl
theorem Zdz {β:Type} {id n:Nat} {b:Bool} {m:Int} (i:Nat) (hm:m=i) (hi:i<n) (k:Go.AM.K β):iaK 7 (.sl 7 id 0 n n b) (I m) k=k (.ptr id i 0 n):=by
 subst hm
 rw [Z8X (by omega) (by omega)]
 simp
theorem Zw8 {A B:List Msg} {x:Msg} (hs:Srt (A++B)) (hB:∀b ∈ B,ltM x b=true) (hA:∀a ∈ A,ltM a x=true):Srt (A++[x]++B):=by
 rw [Srt,List.append_assoc,List.pairwise_append] at *
 refine ⟨hs.1, ?_, ?_⟩
 ·rw [List.singleton_append,List.pairwise_cons]
  exact ⟨hB,hs.2.1⟩
 ·intro a ha b hb
  rcases List.mem_append.1 hb with hb | hb
  ·simp only [List.mem_singleton] at hb;subst hb;exact hA a ha
  ·exact hs.2.2 a ha b hb
theorem Zw9 {β:Type} {T:Tab} {D:DTab} {N:Nat} {x4:AV→AV→AV→Hp→Option β} {v0 v4:AV} {id m:Nat} {fb:Bool} {x:Msg} {h0:Hp} (hT:T 102=some Z5c) (hid:id<h0.length) (hm:m<1000000):∀(n:Nat) (A B:List Msg),A.length<n→(A++B).length+1=m→Srt (A++B)→(∀b ∈ B,ltM x b=true)→x ∉ A++B→
  ∃o:List Msg,Srt o∧o.length=m∧(∀y,y ∈ o↔y ∈ A++B∨y=x) ∧
   Z4n Try.prog T D N x4 n v0 (.sl 7 id 0 m m fb) v4 (I A.length) (h0.set id (.arr 7 ((A++[x]++B).map encM) true false))=x4 v0 (.sl 7 id 0 m m fb) v4 (h0.set id (.arr 7 (o.map encM) true false)):=by
 intro n
 induction n with
 | zero=>intro A B h1;omega
 | succ n ih=>
  intro A B h1 hm2 hs hB hx
  have hget:(h0.set id (.arr 7 ((A++[x]++B).map encM) true false))[id]? = some (.arr 7 ((A++[x]++B).map encM) true false):=by simp [hid]
  have hlen:(A++[x]++B).length=m:=by simp at hm2 ⊢;omega
  have done:(∀a ∈ A,ltM a x=true)→∃o:List Msg,Srt o∧o.length=m∧(∀y,y ∈ o↔y ∈ A++B∨y=x)∧x4 v0 (.sl 7 id 0 m m fb) v4 (h0.set id (.arr 7 ((A++[x]++B).map encM) true false))=x4 v0 (.sl 7 id 0 m m fb) v4 (h0.set id (.arr 7 (o.map encM) true false)):=
   fun hA=>⟨A++[x]++B,Zw8 hs hB hA,hlen,fun y=>by simp only [List.mem_append,List.mem_singleton];exact ⟨fun h=>h.elim (fun h=>h.elim (fun h => .inl (.inl h)) .inr) fun h => .inl (.inr h),fun h=>h.elim (fun h=>h.elim (fun h => .inl (.inl h)) .inr) fun h => .inl (.inr h)⟩,rfl⟩
  show ∃o,_∧_∧_∧Z7w Try.prog T D N (Z4n Try.prog T D N x4 n) x4 _ _ _ _ _=_
  rcases List.eq_nil_or_concat A with rfl | ⟨A',a,rfl⟩
  ·have c1:¬((0:Int)<((0:Nat):Int)):=by omega
   simp -implicitDefEqProofs only [Z7w,List.length_nil,Z0e,c1,decide_false,Z5p,Z00,Bool.false_eq_true,if_false]
   exact done (by simp)
  ·rw [List.concat_eq_append] at *
   have hl2:(A'++[a]).length=A'.length+1:=by simp
   have c1:((0:Int)<(((A'++[a]).length:Nat):Int)):=by rw [hl2];omega
   have w1:IntKind.i64.wrap ((((A'++[a]).length:Nat):Int)-1)=((A'.length:Nat):Int):=by rw [hl2];rw [wrap64 (by omega) (by simp at hm2;omega)];omega
   have gx:(A'++[a]++[x]++B)[(A'++[a]).length]? = some x:=by
    rw [List.append_assoc (A'++[a]),List.getElem?_append_right (Nat.le_refl _)];simp
   have ga:(A'++[a]++[x]++B)[A'.length]? = some a:=by
    rw [List.append_assoc,List.append_assoc,List.getElem?_append_right (Nat.le_refl _)];simp
   have i1:∀K:Go.AM.K β,iaK 7 (.sl 7 id 0 m m fb) (I (((A'++[a]).length:Nat):Int)) K=K (.ptr id (A'++[a]).length 0 m):=fun K=>Zdz _ rfl (by simp at hm2 ⊢;omega) K
   have i2:∀K:Go.AM.K β,iaK 7 (.sl 7 id 0 m m fb) (I ((A'.length:Nat):Int)) K=K (.ptr id A'.length 0 m):=fun K=>Zdz _ rfl (by simp at hm2 ⊢;omega) K
   have l1:=fun K:Go.AM.K β=>ld_el hget hlen gx K
   have l2:=fun K:Go.AM.K β=>ld_el hget hlen ga K
   have s1:=fun K:AV→Hp→Option β=>st_el (i:=A'.length) (x:=x) hget hlen (by simp) K
   have fl:=Zw6 x a
   simp -implicitDefEqProofs only [Z7w,Z0e,c1,decide_true,Z3y,i1,l1,Z31,w1,i2,l2,hT,Z02,fl,Z00,s1]
   cases hlt:ltM x a with
   | false=>
    simp only [Bool.false_eq_true,if_false]
    refine done fun c hc => ?_
    have hax:ltM a x=true:=by
     cases h2:ltM a x with
     | true=>rfl
     | false=>have:=ZbL h2 hlt;subst this;exact absurd (by simp) hx
    rcases List.mem_append.1 hc with hc | hc
    ·refine Zdq ?_ hax
     rw [Srt,List.append_assoc,List.pairwise_append] at hs
     exact hs.2.2 c hc a (by simp)
    ·simp only [List.mem_singleton] at hc;subst hc;exact hax
   | true=>
    have e1:(A'++[a]++[x]++B).set A'.length x=A'++[x]++[x]++B:=by
     rw [List.append_assoc,List.append_assoc,List.set_append_right _ _ (Nat.le_refl _)]
     simp
    have hget2:(h0.set id (.arr 7 ((A'++[x]++[x]++B).map encM) true false))[id]? = some (.arr 7 ((A'++[x]++[x]++B).map encM) true false):=by simp [hid]
    have s2:=fun K:AV→Hp→Option β=>st_el (i:=(A'++[a]).length) (x:=a) hget2 (by simp at hm2 ⊢;omega) (by simp) K
    have e2:(A'++[x]++[x]++B).set (A'++[a]).length a=A'++[x]++(a::B):=by
     rw [hl2,List.append_assoc (A'++[x]),List.set_append_right _ _ (by simp)]
     simp
    simp -implicitDefEqProofs only [if_true,e1,i1,s2,e2,List.set_set,Z31,w1]
    have:=ih A' (a::B) (by simp at h1;omega) (by simpa using hm2) (by simpa using hs) (fun b hb=>by
     rcases List.mem_cons.1 hb with rfl | hb
     ·exact hlt
     ·exact hB b hb) (by simpa using hx)
    obtain ⟨o,g1,g2,g3,g4⟩:=this
    exact ⟨o,g1,g2,fun y=>by rw [g3];simp,g4⟩
theorem Zwa {β:Type} {T:Tab} {D:DTab} {N:Nat} {x2:AV→AV→AV→AV→Hp→Option β} {l o:List Msg} {b fb:Bool} {id j:Nat} {c:Msg} {h:Hp} (hid:h[id]? = some (.arr 7 (o.map encM) true false)) (hj:l[j]? = some c) (ho:o.length<1000000):∀(n i:Nat) (kn:Bool),i≤o.length→o.length<i+n→kn=(o.take i).contains c→
  Z4o Try.prog T D N x2 n (.lst 7 b (l.map encM)) (.sl 7 id 0 o.length o.length fb) (I j) (B kn) (I i) h=x2 (.lst 7 b (l.map encM)) (.sl 7 id 0 o.length o.length fb) (I j) (B (o.contains c)) h:=by
 intro n
 induction n with
 | zero=>intro i kn h1 h2;omega
 | succ n ih=>
  intro i kn h1 h2 hk
  show Z7x Try.prog T D N (Z4o Try.prog T D N x2 n) x2 _ _ _ _ _ h=_
  rcases Nat.lt_or_ge i o.length with hi | hi
  ·have hx:o[i]? = some o[i]:=List.getElem?_eq_getElem hi
   have c1:((i:Int)<(o.length:Int)):=by omega
   have w2:IntKind.i64.wrap ((i:Int)+1)=((i+1:Nat):Int):=by rw [wrap64 (by omega) (by omega)];omega
   have i1:∀K:Go.AM.K β,iaK 7 (.sl 7 id 0 o.length o.length fb) (I i) K=K (.ptr id i 0 o.length):=fun K=>Zdz i rfl hi K
   have l1:=fun K:Go.AM.K β=>ld_el hid rfl hx K
   have ic:∀k:Go.AM.K β,iaK 7 (.lst 7 b (l.map encM)) (I j) k=k (.ep (encM c) 0):=fun k=>Z0P j rfl hj k
   have ld:∀k:Go.AM.K β,ldK 7 true (.ep (encM c) 0) h k=k (.agg (encM c)):=fun k=>rfl
   have step:=ih (i+1) (kn||o[i]==c) (by omega) (by omega) (by
    rw [Z8z hx,hk,List.contains_append]
    rw [show ([o[i]]:List Msg).contains c=(c==o[i]) by simp [List.contains_cons];rw [Bool.eq_iff_iff];simp,Bool.beq_comm (a:=c)])
   simp -implicitDefEqProofs only [Z7x,Z0O,Z05,c1,decide_true,Z00,if_true,i1,l1,ic,ld,Z4K,Bool.false_xor,Z0h,Z0M,w2]
   exact step
  ·have:i=o.length:=by omega
   subst this
   have c1:¬((o.length:Int)<(o.length:Int)):=by omega
   rw [List.take_length] at hk
   simp -implicitDefEqProofs only [Z7x,Z0O,Z05,c1,decide_false,Z00,Bool.false_eq_true,if_false,hk]
theorem Zir {β:Type} {T:Tab} {D:DTab} {N:Nat} {x0:AV→Hp→Option β} {X:Option β} {l:List Msg} {b:Bool} (hT:T 102=some Z5c) (hN:1000000≤N) (hl:l.length<1000) (hx:∀v h,Grm 7 encM h v (normL l)→x0 v h=X):∀(n:Nat) (pre post o:List Msg) (v:AV) (h:Hp),l=pre++post→post.length<n→Srt o→(∀y,y ∈ o↔y ∈ pre)→o.length≤pre.length→Grm 7 encM h v o→
  Z34 Try.prog T D N x0 n (.lst 7 b (l.map encM)) v (I pre.length) h=X:=by
 intro n
 induction n with
 | zero=>intro pre post o v h _ h2;omega
 | succ n ih=>
  intro pre post o v h hc hn hs hm hol O
  show Z7y Try.prog T D N (Z34 Try.prog T D N x0 n) x0 _ _ _ h=_
  cases post with
  | nil=>
   have:l=pre:=by simpa using hc
   subst this
   have c1:¬((l.length:Int)<(l.length:Int)):=by omega
   simp -implicitDefEqProofs only [Z7y,Z0a,List.length_map,Z05,c1,decide_false,Z00,Bool.false_eq_true,if_false]
   exact hx v h (by rw [← Zi2 hs hm];exact O)
  | cons c post=>
   have hi:pre.length<l.length:=by rw [hc];simp
   have hci:l[pre.length]? = some c:=by rw [hc];simp
   have hlt:((pre.length:Int)<(l.length:Int)):=by omega
   have hw:IntKind.i64.wrap ((pre.length:Int)+1)=(((pre++[c]).length:Nat):Int):=by rw [wrap64 (by omega) (by omega)];simp
   have ic:∀k:Go.AM.K β,iaK 7 (.lst 7 b (l.map encM)) (I pre.length) k=k (.ep (encM c) 0):=fun k=>Z0P pre.length rfl hci k
   obtain ⟨id,fb,rfl,hid,hfb⟩:=O
   have kn:=Zwa (T:=T) (D:=D) (N:=N) (x2:=fun w49_0 w49_3 w49_4 w49_5 h=>Z4T Try.prog T D N (Z34 Try.prog T D N x0 n) x0 w49_0 w49_3 w49_4 w49_5 h) (l:=l) (o:=o) (b:=b) (fb:=fb) (id:=id) (j:=pre.length) (c:=c) hid hci (by omega) N 0 false (by omega) (by omega) rfl
   simp -implicitDefEqProofs only [Z7y,Z0a,List.length_map,Z05,hlt,decide_true,Z00,if_true]
   refine Eq.trans kn ?_
   cases hk:o.contains c with
   | true=>
    have hcm:c ∈ o:=by simpa using hk
    have step:=ih (pre++[c]) post o _ h (by simpa using hc) (by simpa using hn) hs (fun y=>by
     rw [hm,List.mem_append,List.mem_singleton]
     exact ⟨.inl,fun q=>q.elim (fun q=>q) fun e=>by rw [e];exact (hm c).1 hcm⟩) (by simp;omega) ⟨id,fb,rfl,hid,hfb⟩
    simp -implicitDefEqProofs only [Z4T,Z00,if_true,Z5I,ZcI,Z0M,hw]
    exact step
   | false=>
    have hcm:c ∉ o:=by simpa using hk
    have bs:∀k:AV→Hp→Option β,effK (bsE 7 zM 1 [(0, .agg (encM c))] h.length) h k=k (.sl 7 h.length 0 1 1 true) (h++[.arr 7 [encM c] true false]):=fun k=>by simp [bsE,fillS,encM,effK,ap]
    have hmget:(h++[AObj.arr 7 [encM c] true false])[h.length]? = some (.arr 7 [encM c] true false):=by simp
    have hlt0:id<h.length:=(List.getElem?_eq_some_iff.1 hid).1
    obtain ⟨v',e,a1,a2,a3,a4,a5,a6,a7⟩:=Grm.snocE (h:=h++[AObj.arr 7 [encM c] true false]) (by_:=56) (m:=h.length) (z:=c) (b:=true) (Grm.app ⟨id,fb,rfl,hid,hfb⟩ [AObj.arr 7 [encM c] true false]) hmget (by simp [idOf];omega) (by simp [encM]) (by omega)
    obtain ⟨id2,fb2,rfl,hid2,hfb2⟩:=a2
    have ld:∀k:Go.AM.K β,ldK 7 true (.ep (encM c) 0) h k=k (.agg (encM c)):=fun k=>rfl
    have hl2:(o++[c]).length=o.length+1:=by simp
    obtain ⟨o',g1,g2,g3,g4⟩:=Zw9 (T:=T) (D:=D) (N:=N) (x4:=fun w37_0 w37_3 w37_4 h=>Z7v Try.prog T D N (Z34 Try.prog T D N x0 n) x0 w37_0 w37_3 w37_4 h) (v0 := .lst 7 b (l.map encM)) (v4:=I pre.length) (id:=id2) (m:=o.length+1) (fb:=fb2) (x:=c) (h0:=ap (h++[AObj.arr 7 [encM c] true false]) e) hT (List.getElem?_eq_some_iff.1 hid2).1 (by omega) N o [] (by omega) (by simp) (by simpa using hs) (by simp) (by simpa using hcm)
    simp only [List.append_nil] at g3 g4
    rw [Z11 hid2] at g4
    have step:=ih (pre++[c]) post o' (.sl 7 id2 0 (o.length+1) (o.length+1) fb2) ((ap (h++[AObj.arr 7 [encM c] true false]) e).set id2 (.arr 7 (o'.map encM) true false)) (by simpa using hc) (by simpa using hn) g1 (fun y=>by
     rw [g3,hm];simp) (by simp [g2];omega) ⟨id2,fb2,by rw [g2],by simp [(List.getElem?_eq_some_iff.1 hid2).1],fun hb=>by have:=hfb2 hb;simp at this⟩
    have ap':∀k:AV→Hp→Option β,effK (appE 7 56 (.sl 7 id 0 o.length o.length fb) (.sl 7 h.length 0 1 1 true) (h++[AObj.arr 7 [encM c] true false]) (h++[AObj.arr 7 [encM c] true false]).length) (h++[AObj.arr 7 [encM c] true false]) k=k (.sl 7 id2 0 (o++[c]).length (o++[c]).length fb2) (ap (h++[AObj.arr 7 [encM c] true false]) e):=fun k=>by rw [a1];rfl
    simp -implicitDefEqProofs only [Z4T,Z00,Bool.false_eq_true,if_false,Z0O,ic,ld,bs,ap',hl2]
    refine g4.trans ?_
    simp -implicitDefEqProofs only [Z7v,Z5I,ZcI,Z0M,hw]
    exact step
theorem Zwb (l:List Msg) (b:Bool) (hl:l.length<1000) (h:Hp):Z5d [.lst 7 b (l.map encM)] h=some (.lst 7 false ((normL l).map encM),h):=by
 refine (ZtX (v := .lst 7 false ((normL l).map encM)) rfl ?_ h).trans rfl
 simp only [nrm,nrmC]
 have bs:∀k:AV→Hp→Option AV,effK (bsE 7 zM 0 [] ([]:Hp).length) [] k=k (.sl 7 0 0 0 0 true) [.arr 7 [] true false]:=fun k=>by simp [bsE,fillS,effK,ap]
 simp -implicitDefEqProofs only [Z4U,bs]
 refine Zir (T:=Z3a) (D:=Z3s) (N:=NN) (x0:=fun w50_3 h=>Z7u Try.prog Z3a Z3s NN (fun v g=>cvt false g v) w50_3 h) (X:=some (AV.lst 7 false ((normL l).map encM))) rfl NN_ge hl ?_ NN [] l [] (.sl 7 0 0 0 0 true) [.arr 7 [] true false] rfl (by have:=NN_ge;omega) (by simp) (by simp) (by simp) ⟨0,true,rfl,rfl,fun _=>rfl⟩
 intro v h O
 exact O.cvt (fun x st=>by cases st<;>simp [encM,isS]) false
def normR' (l:List Msg):AV := .tup [if errM l=0 then .lst 7 false ((normL l).map encM) else .lst 7 true [],I (errM l)]
theorem Zwc (l:List Msg) (b:Bool) (hl:l.length<1000) (h:Hp):Z8v [.lst 7 b (l.map encM)] h=some (normR' l,h):=by
 have f1:=Zw7 l b (by omega)
 have f2:=Zwb l b hl
 refine (Zu3 (v := .tup [if errM l=0 then .lst 7 false ((normL l).map encM) else nilS,I (errM l)]) rfl ?_ h).trans ?_
 ·simp only [nrm,nrmC]
  simp -implicitDefEqProofs only [Z5w,Zhz,ZhA,Z02,f1,f2,Z04,Bool.true_xor,Z00]
  by_cases h0:errM l=0
  ·simp [h0]
  ·simp [h0]
 ·unfold normR'
  by_cases h0:errM l=0
  ·simp only [h0,if_true];rfl
  ·simp only [h0,if_false];rfl
end Go.AM


namespace Go.AM
open Go.Proofs
set_option linter.unusedVariables false
set_option linter.unusedSimpArgs false
set_option linter.constructorNameAsVariable false
set_option maxRecDepth 20000
attribute [local congr] Z0j Z0k Z0l Z0m Z0n Z0o Z0p Z0q Z0r Z0s Z0t Z0u Z0v Z0w Z0x Z0y Z0z Z0A Z0B Z0C Z0D Z0E Z0F Z0G Z0H Z0I Z0J
structure Fol where
 d:Docu
 en:Bool
 an:Int
 cnt:List ((Int × Int) × Int)
def cntP (c:List ((Int × Int) × Int)) (p:Int × Int):Int:=((fndT c p).map (·.2)).getD 0
def bumpP (c:List ((Int × Int) × Int)) (p:Int × Int):List ((Int × Int) × Int):=updT c p (IntKind.i64.wrap (cntP c p+1))
def stepF (mv:Int) (s:Fol) (m:Msg):Fol:=
 if m.mv≠mv then s
 else if m.kind=1 then { s with d:={ s.d with stage:=1,frm:=m.frm,to:=m.to,sent:=m.alc },cnt:=bumpP s.cnt (m.kind,m.num) }
 else if m.kind=2 then { s with d:={ s.d with to:=m.to,chg:=IntKind.i64.wrap (s.d.chg+1) },cnt:=bumpP s.cnt (m.kind,m.num) }
 else if m.kind=3 then { s with d:={ s.d with got:=m.alc },an:=2,cnt:=bumpP s.cnt (m.kind,m.num) }
 else if m.kind=4 then { s with an:=3,cnt:=bumpP s.cnt (3,m.num) }
 else if m.kind=5 then { s with en:=true }
 else { s with cnt:=bumpP s.cnt (m.kind,m.num) }
def begF (mv:Int):Fol:=⟨⟨mv,0,0,0,0,0,0⟩,false,0,[]⟩
def folF (mv:Int) (l:List Msg):Fol:=l.foldl (stepF mv) (begF mv)
def noneD (mv:Int):Docu:=⟨mv,0,0,0,0,0,0⟩
abbrev fI:Int→AV:=fun n => .s (.int .i64 n)
section
variable {β:Type}
theorem get3 {o0 o1 o2 x:AObj} {g t:Hp}:(o0::o1::o2::(g++x::t))[g.length+3]? = some x:=by
 simp [List.getElem?_append_right]
theorem get4 {o0 o1 o2 x y:AObj} {g t:Hp}:(o0::o1::o2::(g++x::y::t))[g.length+4]? = some y:=by
 simp [List.getElem?_append_right]
variable {o0 o1 o2:AObj} {g t:Hp} {m:Msg}
theorem lq (j:Nat) (k:Go.AM.K β) {x:AV} (hx:(encM m)[j]? = some x):ldK 1 false (.ptr (g.length+3) 0 j 1) (o0::o1::o2::(g ++ .arr 7 [encM m] true false::t)) k=k x:=by
 rw [Z01,get3]
 simp [hx]
theorem lq4 (k:Go.AM.K β):ldK 1 false (.ptr (g.length+3) 0 4 1) (o0::o1::o2::(g ++ .arr 7 [encM m] true false::t)) k=k (I m.frm):=lq 4 k rfl
theorem lw2 {x:AObj} {a b:AV} (k:Go.AM.K β):ldK 2 true (.ptr (g.length+4) 0 0 1) (o0::o1::o2::(g++[x, .arr 2 [[a,b]] true false])) k=k (.agg [a,b]):=by
 rw [Z01,get4]
 simp
end
end Go.AM


namespace Go.AM
open Go.Proofs
set_option linter.unusedVariables false
set_option linter.unusedSimpArgs false
set_option linter.constructorNameAsVariable false
set_option maxRecDepth 20000
def ofk (mv k:Int) (l:List Msg):List Msg:=l.filter fun m=>m.mv==mv&&m.kind==k
theorem Z03 (mv k:Int) (l:List Msg) (m:Msg):ofk mv k (l++[m])=if m.mv=mv∧m.kind=k then ofk mv k l++[m] else ofk mv k l:=by
 unfold ofk
 rw [List.filter_append]
 by_cases h:m.mv=mv∧m.kind=k
 ·simp [h]
 ·rw [if_neg h]
  have:(m.mv==mv&&m.kind==k)=false:=by
   rw [Bool.eq_false_iff];intro q;simp at q;exact h q
  simp [this]
theorem ZbS {mv k:Int} {l:List Msg} {m:Msg}:m ∈ ofk mv k l↔m ∈ l∧m.mv=mv∧m.kind=k:=by unfold ofk;simp
theorem Zis {m:Msg} (h:checkM m=0):1≤m.kind∧m.kind≤5∧1≤m.mv∧m.mv≤1073741824∧formM m=true:=by
 unfold checkM at h
 split at h
 ·simp at h
 ·rename_i hr
  split at h
  ·rename_i hf
   simp [rangeM] at hr
   exact ⟨by omega,by omega,by omega,by omega,hf⟩
  ·simp at h
theorem ZbT {a b:Msg} (h:ltM a b=true):a.mv≤b.mv∧(a.mv=b.mv→a.kind≤b.kind∧(a.kind=b.kind→a.num≤b.num)):=by
 unfold ltM cellsM at h
 simp only [Z5J,Bool.or_eq_true,Bool.and_eq_true,decide_eq_true_eq] at h
 omega
def partM (m:Msg):Option (Int × Int):=if m.kind=5 then none else if m.kind=4 then some (3,m.num) else some (m.kind,m.num)
abbrev keysD {α:Type} (c:List ((Int × Int) × α)):Prop:=c.Pairwise fun a b=>a.1≠b.1
theorem Zit {α:Type}:∀ {c:List ((Int × Int) × α)} {p:Int × Int} {x:α} {e:(Int × Int) × α},e ∈ updT c p x→e=(p,x)∨e ∈ c
 | [],p,x,e,h=>by simp [updT] at h;exact .inl h
 | (q,y)::c,p,x,e,h=>by
  simp only [updT] at h
  split at h
  ·rcases List.mem_cons.1 h with h | h
   ·exact .inl h
   ·exact .inr (by simp [h])
  ·rcases List.mem_cons.1 h with h | h
   ·exact .inr (by simp [h])
   ·rcases Zit h with h | h
    ·exact .inl h
    ·exact .inr (by simp [h])
theorem Ziu {α:Type}:∀ {c:List ((Int × Int) × α)} (p:Int × Int) (x:α),keysD c→keysD (updT c p x)
 | [],p,x,h=>by simp [updT]
 | (q,y)::c,p,x,h=>by
  rw [keysD,List.pairwise_cons] at h
  simp only [updT]
  split
  ·rename_i e
   subst e
   rw [keysD,List.pairwise_cons]
   exact h
  ·rename_i e
   rw [keysD,List.pairwise_cons]
   refine ⟨fun z hz => ?_,Ziu p x h.2⟩
   rcases Zit hz with rfl | hz
   ·exact fun q=>e q.symm
   ·exact h.1 z hz
theorem Zwd (c:List ((Int × Int) × Int)) (p q:Int × Int):cntP (bumpP c p) q=if q=p then IntKind.i64.wrap (cntP c p+1) else cntP c q:=by
 unfold cntP bumpP
 rw [ZhW]
 split<;>rfl
structure InF (mv:Int) (l:List Msg) (s:Fol):Prop where
 mve:s.d.mv=mv
 stage:s.d.stage=if ofk mv 1 l=[] then 0 else 1
 frm:s.d.frm=(((ofk mv 1 l).getLast?).map (·.frm)).getD 0
 sent:s.d.sent=(((ofk mv 1 l).getLast?).map (·.alc)).getD 0
 to:s.d.to=match (ofk mv 2 l).getLast? with | some c=>c.to | none=>(((ofk mv 1 l).getLast?).map (·.to)).getD 0
 got:s.d.got=(((ofk mv 3 l).getLast?).map (·.alc)).getD 0
 chg:s.d.chg=(ofk mv 2 l).length
 en:s.en = !(ofk mv 5 l).isEmpty
 an:s.an=if ofk mv 4 l≠[] then 3 else if ofk mv 3 l≠[] then 2 else 0
 cnt:∀p,cntP s.cnt p=(l.countP fun m=>m.mv==mv&&partM m==some p:Nat)
 keys:keysD s.cnt
theorem ZbU (mv k:Int) (l:List Msg):(ofk mv k l).length≤l.length:=List.length_filter_le _ _
theorem InF.step {mv:Int} {l:List Msg} {s:Fol} {m:Msg} (H:InF mv l s) (hs:Srt (l++[m])) (hm:checkM m=0) (hl:l.length<1000000):InF mv (l++[m]) (stepF mv s m):=by
 obtain ⟨k0,k5, -⟩:=Zis hm
 have hlt:∀x ∈ l,ltM x m=true:=fun x hx=>by
  rw [Srt,List.pairwise_append] at hs
  exact hs.2.2 x hx m (by simp)
 by_cases hmv:m.mv=mv
 ·have noK:∀k,m.kind<k→ofk mv k l=[]:=fun k hk=>by
   rw [List.eq_nil_iff_forall_not_mem]
   intro x hx
   obtain ⟨h1,h2,h3⟩:=ZbS.1 hx
   have:=ZbT (hlt x h1)
   have h4:=this.2 (by omega)
   omega
  have wr:IntKind.i64.wrap (((ofk mv 2 l).length:Int)+1)=(((ofk mv 2 l).length+1:Nat):Int):=by
   have:=ZbU mv 2 l
   rw [wrap64 (by omega) (by omega)];rfl
  have cn:∀(p q:Int × Int) (b:Bool),((partM m==some q)=b)→cntP s.cnt q=(l.countP fun m=>m.mv==mv&&partM m==some q:Nat)→(((l++[m]).countP fun m=>m.mv==mv&&partM m==some q:Nat):Int)=cntP s.cnt q+if b=true then 1 else 0:=by
   intro p q b hb hc
   rw [List.countP_append,hc]
   simp [hmv,hb]
   cases b<;>rfl
  have wc:∀q,IntKind.i64.wrap (cntP s.cnt q+1)=cntP s.cnt q+1:=fun q=>by
   have h1:=H.cnt q
   have h2:=List.countP_le_length (p:=fun m:Msg=>m.mv==mv&&partM m==some q) (l:=l)
   rw [wrap64 (by omega) (by omega)]
  have cb:∀p,partM m=some p→∀q,cntP (bumpP s.cnt p) q=((l++[m]).countP fun m=>m.mv==mv&&partM m==some q:Nat):=fun p hp q=>by
   rw [Zwd]
   by_cases e:q=p
   ·subst e
    rw [if_pos rfl,wc,cn q q true (by simp [hp]) (H.cnt q)];simp
   ·rw [if_neg e,cn p q false (by simp [hp];exact fun h=>e h.symm) (H.cnt q)];simp
  have kb:∀p,keysD (bumpP s.cnt p):=fun p=>Ziu p _ H.keys
  have hk:m.kind=1∨m.kind=2∨m.kind=3∨m.kind=4∨m.kind=5:=by omega
  rcases hk with k | k | k | k | k
  ·have e2:=noK 2 (by omega)
   have st:stepF mv s m={ s with d:={ s.d with stage:=1,frm:=m.frm,to:=m.to,sent:=m.alc },cnt:=bumpP s.cnt (m.kind,m.num) }:=by simp [stepF,hmv,k]
   rw [st]
   exact ⟨H.mve,by simp [Z03,hmv,k],by simp [Z03,hmv,k],by simp [Z03,hmv,k],by simp [Z03,hmv,k,e2],by simp [Z03,hmv,k,H.got],by simp [Z03,hmv,k,H.chg],by simp [Z03,hmv,k,H.en],by simp [Z03,hmv,k,H.an],cb _ (by simp [partM,k]),kb _⟩
  ·have st:stepF mv s m={ s with d:={ s.d with to:=m.to,chg:=IntKind.i64.wrap (s.d.chg+1) },cnt:=bumpP s.cnt (m.kind,m.num) }:=by simp [stepF,hmv,k]
   rw [st]
   exact ⟨H.mve,by simp [Z03,hmv,k,H.stage],by simp [Z03,hmv,k,H.frm],by simp [Z03,hmv,k,H.sent],by simp [Z03,hmv,k],by simp [Z03,hmv,k,H.got],by simp [Z03,hmv,k,H.chg,wr],by simp [Z03,hmv,k,H.en],by simp [Z03,hmv,k,H.an],cb _ (by simp [partM,k]),kb _⟩
  ·have e4:=noK 4 (by omega)
   have st:stepF mv s m={ s with d:={ s.d with got:=m.alc },an:=2,cnt:=bumpP s.cnt (m.kind,m.num) }:=by simp [stepF,hmv,k]
   rw [st]
   exact ⟨H.mve,by simp [Z03,hmv,k,H.stage],by simp [Z03,hmv,k,H.frm],by simp [Z03,hmv,k,H.sent],by simp [Z03,hmv,k,H.to],by simp [Z03,hmv,k],by simp [Z03,hmv,k,H.chg],by simp [Z03,hmv,k,H.en],by simp [Z03,hmv,k,e4],cb _ (by simp [partM,k]),kb _⟩
  ·have st:stepF mv s m={ s with an:=3,cnt:=bumpP s.cnt (3,m.num) }:=by simp [stepF,hmv,k]
   rw [st]
   exact ⟨H.mve,by simp [Z03,hmv,k,H.stage],by simp [Z03,hmv,k,H.frm],by simp [Z03,hmv,k,H.sent],by simp [Z03,hmv,k,H.to],by simp [Z03,hmv,k,H.got],by simp [Z03,hmv,k,H.chg],by simp [Z03,hmv,k,H.en],by simp [Z03,hmv,k],cb _ (by simp [partM,k]),kb _⟩
  ·have st:stepF mv s m={ s with en:=true }:=by simp [stepF,hmv,k]
   rw [st]
   exact ⟨H.mve,by simp [Z03,hmv,k,H.stage],by simp [Z03,hmv,k,H.frm],by simp [Z03,hmv,k,H.sent],by simp [Z03,hmv,k,H.to],by simp [Z03,hmv,k,H.got],by simp [Z03,hmv,k,H.chg],by simp [Z03,hmv,k],by simp [Z03,hmv,k,H.an],fun q=>by rw [cn q q false (by simp [partM,k]) (H.cnt q)];simp,H.keys⟩
 ·have st:stepF mv s m=s:=by simp [stepF,hmv]
  have ek:∀k,ofk mv k (l++[m])=ofk mv k l:=fun k=>by rw [Z03,if_neg (by simp [hmv])]
  rw [st]
  exact ⟨H.mve,by rw [ek];exact H.stage,by rw [ek];exact H.frm,by rw [ek];exact H.sent,by rw [ek,ek];exact H.to,by rw [ek];exact H.got,by rw [ek];exact H.chg,by rw [ek];exact H.en,by rw [ek,ek];exact H.an,fun p=>by rw [List.countP_append,H.cnt p];simp [hmv],H.keys⟩
theorem InF.beg (mv:Int):InF mv [] (begF mv):=⟨rfl,rfl,rfl,rfl,rfl,rfl,rfl,rfl,rfl,fun p=>rfl, .nil⟩
theorem InF.all {mv:Int} {l:List Msg} (hs:Srt l) (hv:∀m ∈ l,checkM m=0) (hl:l.length<1000000):∀i,i≤l.length→InF mv (l.take i) (folF mv (l.take i))
 | 0,_=>by rw [List.take_zero];exact InF.beg mv
 | i+1,hi=>by
  have ih:=InF.all (mv:=mv) hs hv hl i (by omega)
  have hx:l[i]? = some l[i]:=List.getElem?_eq_getElem (by omega)
  have ht:=Z8z hx
  have:folF mv (l.take (i+1))=stepF mv (folF mv (l.take i)) l[i]:=by
   unfold folF;rw [ht,List.foldl_append];rfl
  rw [this,ht]
  refine ih.step ?_ (hv _ (List.getElem_mem _)) (by simp;omega)
  rw [← ht]
  exact hs.sublist (List.take_sublist _ _)
end Go.AM


namespace Go.AM
open Go.Proofs
set_option linter.unusedVariables false
set_option linter.unusedSimpArgs false
set_option linter.constructorNameAsVariable false
set_option maxRecDepth 20000
attribute [local congr] Z0j Z0k Z0l Z0m Z0n Z0o Z0p Z0q Z0r Z0s Z0t Z0u Z0v Z0w Z0x Z0y Z0z Z0A Z0B Z0C Z0D Z0E Z0F Z0G Z0H Z0I Z0J
structure Frs where
 d:Docu
 dis:Int
 ans:Int
 en:Int
 cf:Bool
 rf:Bool
def stepR (mv:Int) (p:Msg) (s:Frs) (m:Msg):Frs:=
 if m.mv≠mv then s
 else if m.kind=1 then { s with d:={ s.d with frm:=m.frm,to:=m.to,sent:=m.alc },dis:=IntKind.i64.wrap (s.dis+1) }
 else if m.kind=2 then { s with d:={ s.d with to:=m.to,chg:=IntKind.i64.wrap (s.d.chg+1) },cf:=s.cf||(p.mv==mv&&p.kind==m.kind&&p.num==m.num) }
 else if m.kind=3 then { s with d:={ s.d with got:=m.alc },ans:=IntKind.i64.wrap (s.ans+1) }
 else if m.kind=4 then { s with ans:=IntKind.i64.wrap (s.ans+1),rf:=true }
 else { s with en:=IntKind.i64.wrap (s.en+1) }
def foldR (mv:Int):Msg→Frs→List Msg→Frs
 | _,s,[]=>s
 | p,s,m::l=>foldR mv m (stepR mv p s m) l
def begR (mv:Int):Frs:=⟨noneD mv,0,0,0,false,false⟩
def zeroM:Msg:=⟨0,0,0,0,0,0,0⟩
section
variable {β:Type}
variable {o0 o1:AObj} {g t:Hp} {m:Msg}
end
end Go.AM


namespace Go.AM
open Go.Proofs
set_option linter.unusedVariables false
set_option linter.unusedSimpArgs false
set_option linter.constructorNameAsVariable false
set_option maxRecDepth 20000
structure InR (mv:Int) (l:List Msg) (s:Frs):Prop where
 mve:s.d.mv=mv
 stage:s.d.stage=0
 frm:s.d.frm=(((ofk mv 1 l).getLast?).map (·.frm)).getD 0
 sent:s.d.sent=(((ofk mv 1 l).getLast?).map (·.alc)).getD 0
 to:s.d.to=match (ofk mv 2 l).getLast? with | some c=>c.to | none=>(((ofk mv 1 l).getLast?).map (·.to)).getD 0
 got:s.d.got=(((ofk mv 3 l).getLast?).map (·.alc)).getD 0
 chg:s.d.chg=(ofk mv 2 l).length
 dis:s.dis=(ofk mv 1 l).length
 ans:s.ans=((ofk mv 3 l).length+(ofk mv 4 l).length:Nat)
 en:s.en=(ofk mv 5 l).length
 rf:s.rf = !(ofk mv 4 l).isEmpty
 cf:s.cf=decide (¬((ofk mv 2 l).map (·.num)).Nodup)
theorem Zwe {l:List Msg} {m p x:Msg} (hs:Srt (l++[m])) (hp:(zeroM::l).getLast? = some p) (hx:x ∈ l):p ∈ l∧(x=p∨ltM x p=true):=by
 rcases List.eq_nil_or_concat l with rfl | ⟨l',q,rfl⟩
 ·simp at hx
 ·rw [List.concat_eq_append] at *
  have:p=q:=by rw [← List.cons_append,List.getLast?_append] at hp;simpa using hp.symm
  subst this
  refine ⟨by simp, ?_⟩
  rcases List.mem_append.1 hx with hx | hx
  ·right
   rw [Srt,List.append_assoc,List.pairwise_append] at hs
   exact hs.2.2 x hx p (by simp)
  ·simp at hx;exact .inl hx
theorem InR.step {mv:Int} {l:List Msg} {s:Frs} {m p:Msg} (H:InR mv l s) (hs:Srt (l++[m])) (hm:checkM m=0) (hp:(zeroM::l).getLast? = some p) (h0:mv≠0) (hl:l.length<1000000):InR mv (l++[m]) (stepR mv p s m):=by
 obtain ⟨k0,k5, -⟩:=Zis hm
 have hlt:∀x ∈ l,ltM x m=true:=fun x hx=>by
  rw [Srt,List.pairwise_append] at hs
  exact hs.2.2 x hx m (by simp)
 by_cases hmv:m.mv=mv
 ·have noK:∀k,m.kind<k→ofk mv k l=[]:=fun k hk=>by
   rw [List.eq_nil_iff_forall_not_mem]
   intro x hx
   obtain ⟨h1,h2,h3⟩:=ZbS.1 hx
   have:=ZbT (hlt x h1)
   have h4:=this.2 (by omega)
   omega
  have wr:∀k,IntKind.i64.wrap (((ofk mv k l).length:Int)+1)=((ofk mv k l).length:Int)+1:=fun k=>by
   have:=ZbU mv k l
   rw [wrap64 (by omega) (by omega)]
  have wa:IntKind.i64.wrap (((((ofk mv 3 l).length+(ofk mv 4 l).length:Nat)):Int)+1)=((((ofk mv 3 l).length+(ofk mv 4 l).length:Nat)):Int)+1:=by
   have h3:=ZbU mv 3 l
   have h4:=ZbU mv 4 l
   rw [wrap64 (by omega) (by omega)]
  have hk:m.kind=1∨m.kind=2∨m.kind=3∨m.kind=4∨m.kind=5:=by omega
  rcases hk with k | k | k | k | k
  ·have e2:=noK 2 (by omega)
   have st:stepR mv p s m={ s with d:={ s.d with frm:=m.frm,to:=m.to,sent:=m.alc },dis:=IntKind.i64.wrap (s.dis+1) }:=by simp [stepR,hmv,k]
   rw [st]
   exact ⟨H.mve,H.stage,by simp [Z03,hmv,k],by simp [Z03,hmv,k],by simp [Z03,hmv,k,e2],by simp [Z03,hmv,k,H.got],by simp [Z03,hmv,k,H.chg],by simp [Z03,hmv,k,H.dis,wr],by simp [Z03,hmv,k,H.ans],by simp [Z03,hmv,k,H.en],by simp [Z03,hmv,k,H.rf],by simp [Z03,hmv,k,H.cf]⟩
  ·have st:stepR mv p s m={ s with d:={ s.d with to:=m.to,chg:=IntKind.i64.wrap (s.d.chg+1) },cf:=s.cf||(p.mv==mv&&p.kind==m.kind&&p.num==m.num) }:=by simp [stepR,hmv,k]
   rw [st]
   refine ⟨H.mve,H.stage,by simp [Z03,hmv,k,H.frm],by simp [Z03,hmv,k,H.sent],by simp [Z03,hmv,k],by simp [Z03,hmv,k,H.got],by simp [Z03,hmv,k,H.chg,wr],by simp [Z03,hmv,k,H.dis],by simp [Z03,hmv,k,H.ans],by simp [Z03,hmv,k,H.en],by simp [Z03,hmv,k,H.rf], ?_⟩
   rw [Z03,if_pos ⟨hmv,k⟩,List.map_append,H.cf]
   rw [Bool.eq_iff_iff]
   simp only [Bool.or_eq_true,Bool.and_eq_true,beq_iff_eq,decide_eq_true_eq]
   rw [List.nodup_append]
   have key:(p.mv=mv∧p.kind=m.kind)∧p.num=m.num↔∃x ∈ ofk mv 2 l,x.num=m.num:=by
    constructor
    ·rintro ⟨⟨h1,h2⟩,h3⟩
     have hpl:p ∈ l:=by
      rcases List.eq_nil_or_concat l with rfl | ⟨l',q,rfl⟩
      ·simp at hp;subst hp;exact absurd h1.symm h0
      ·rw [List.concat_eq_append, ← List.cons_append,List.getLast?_append] at hp
       have:q=p:=by simpa using hp
       simp [this]
     exact ⟨p,ZbS.2 ⟨hpl,h1,by omega⟩,h3⟩
    ·rintro ⟨x,hx,h3⟩
     obtain ⟨h1,h2,h4⟩:=ZbS.1 hx
     obtain ⟨hpl,hxp⟩:=Zwe hs hp h1
     rcases hxp with rfl | hxp
     ·exact ⟨⟨h2,by omega⟩,h3⟩
     ·have a1:=ZbT hxp
      have a2:=ZbT (hlt p hpl)
      omega
   constructor
   ·rintro (h | h)
    ·exact fun q=>h q.1
    ·obtain ⟨x,hx,hxn⟩:=key.1 h
     intro q
     exact q.2.2 x.num (List.mem_map.2 ⟨x,hx,rfl⟩) m.num (by simp) hxn
   ·intro h
    by_cases hn:((ofk mv 2 l).map (·.num)).Nodup
    ·right
     refine key.2 ?_
     rcases Classical.em (∃x ∈ ofk mv 2 l,x.num=m.num) with h2 | h2
     ·exact h2
     ·refine absurd ⟨hn,by simp, ?_⟩ h
      intro a ha b hb hab
      obtain ⟨x,hx,rfl⟩:=List.mem_map.1 ha
      simp at hb
      exact h2 ⟨x,hx,by rw [hab,hb]⟩
    ·exact .inl hn
  ·have st:stepR mv p s m={ s with d:={ s.d with got:=m.alc },ans:=IntKind.i64.wrap (s.ans+1) }:=by simp [stepR,hmv,k]
   rw [st]
   exact ⟨H.mve,H.stage,by simp [Z03,hmv,k,H.frm],by simp [Z03,hmv,k,H.sent],by simp [Z03,hmv,k,H.to],by simp [Z03,hmv,k],by simp [Z03,hmv,k,H.chg],by simp [Z03,hmv,k,H.dis],by rw [H.ans,wa,Z03,Z03,if_pos ⟨hmv,k⟩,if_neg (by omega),List.length_append];simp;omega,by simp [Z03,hmv,k,H.en],by simp [Z03,hmv,k,H.rf],by simp [Z03,hmv,k,H.cf]⟩
  ·have st:stepR mv p s m={ s with ans:=IntKind.i64.wrap (s.ans+1),rf:=true }:=by simp [stepR,hmv,k]
   rw [st]
   exact ⟨H.mve,H.stage,by simp [Z03,hmv,k,H.frm],by simp [Z03,hmv,k,H.sent],by simp [Z03,hmv,k,H.to],by simp [Z03,hmv,k,H.got],by simp [Z03,hmv,k,H.chg],by simp [Z03,hmv,k,H.dis],by rw [H.ans,wa,Z03,Z03,if_neg (by omega),if_pos ⟨hmv,k⟩,List.length_append];simp;omega,by simp [Z03,hmv,k,H.en],by simp [Z03,hmv,k],by simp [Z03,hmv,k,H.cf]⟩
  ·have st:stepR mv p s m={ s with en:=IntKind.i64.wrap (s.en+1) }:=by simp [stepR,hmv,k]
   rw [st]
   exact ⟨H.mve,H.stage,by simp [Z03,hmv,k,H.frm],by simp [Z03,hmv,k,H.sent],by simp [Z03,hmv,k,H.to],by simp [Z03,hmv,k,H.got],by simp [Z03,hmv,k,H.chg],by simp [Z03,hmv,k,H.dis],by simp [Z03,hmv,k,H.ans],by simp [Z03,hmv,k,H.en,wr],by simp [Z03,hmv,k,H.rf],by simp [Z03,hmv,k,H.cf]⟩
 ·have st:stepR mv p s m=s:=by simp [stepR,hmv]
  have ek:∀k,ofk mv k (l++[m])=ofk mv k l:=fun k=>by rw [Z03,if_neg (by simp [hmv])]
  rw [st]
  exact ⟨H.mve,H.stage,by rw [ek];exact H.frm,by rw [ek];exact H.sent,by rw [ek,ek];exact H.to,by rw [ek];exact H.got,by rw [ek];exact H.chg,by rw [ek];exact H.dis,by rw [ek,ek];exact H.ans,by rw [ek];exact H.en,by rw [ek];exact H.rf,by rw [ek];exact H.cf⟩
theorem InR.beg (mv:Int):InR mv [] (begR mv):=⟨rfl,rfl,rfl,rfl,rfl,rfl,rfl,rfl,rfl,rfl,rfl,rfl⟩
theorem InR.all {mv:Int} (h0:mv≠0):∀(post pre:List Msg) (p:Msg) (s:Frs),Srt (pre++post)→(∀m ∈ post,checkM m=0)→(pre++post).length<1000000→(zeroM::pre).getLast? = some p→InR mv pre s→InR mv (pre++post) (foldR mv p s post)
 | [],pre,p,s,_,_,_,_,H=>by simpa [foldR] using H
 | m::post,pre,p,s,hs,hv,hl,hp,H=>by
  have e:pre++m::post=(pre++[m])++post:=by simp
  rw [e] at hs hl ⊢
  refine InR.all h0 post (pre++[m]) m (stepR mv p s m) hs (fun x hx=>hv x (by simp [hx])) hl (by rw [← List.cons_append,List.getLast?_append];simp) (H.step ?_ (hv m (by simp)) hp h0 (by simp at hl;omega))
  exact hs.sublist (List.sublist_append_left _ _)
end Go.AM


namespace Go.AM
open Go.Proofs
set_option linter.unusedVariables false
set_option linter.unusedSimpArgs false
set_option linter.constructorNameAsVariable false
set_option maxRecDepth 20000
attribute [local congr] Z0j Z0k Z0l Z0m Z0n Z0o Z0p Z0q Z0r Z0s Z0t Z0u Z0v Z0w Z0x Z0y Z0z Z0A Z0B Z0C Z0D Z0E Z0F Z0G Z0H Z0I Z0J
theorem Zwf {T:Tab} {D:DTab} {N:Nat} {x0:Hp→Option AV} {xr:AV→Hp→Option AV} {a b:List Msg} {p q:Bool} {h:Hp} (hab:a.length=b.length) (hl:a.length<1000000) (hx:x0 h=xr (B true) h) (heq:∀(x y:Msg) (k:Go.AM.K AV),eqK Try.prog true 27 (.agg (encM x)) (.agg (encM y)) h k=k (B (!(x==y)))):∀(n i:Nat),i≤a.length→a.length<i+n→
  Z3Y Try.prog T D N x0 xr n (.lst 7 p (a.map encM)) (.lst 7 q (b.map encM)) (I i) h=xr (B (decide (a.drop i=b.drop i))) h:=by
 intro n
 induction n with
 | zero=>intro i h1 h2;omega
 | succ n ih=>
  intro i h1 h2
  show Z7f Try.prog T D N (Z3Y Try.prog T D N x0 xr n) x0 xr _ _ _ h=_
  rcases Nat.lt_or_ge i a.length with hi | hi
  ·have c1:((i:Int)<(a.length:Int)):=by omega
   have hw:IntKind.i64.wrap ((i:Int)+1)=((i+1:Nat):Int):=by rw [wrap64 (by omega) (by omega)];omega
   have ia:∀k:Go.AM.K AV,iaK 7 (.lst 7 p (a.map encM)) (I i) k=k (.ep (encM a[i]) 0):=fun k=>Z0P i rfl (List.getElem?_eq_getElem hi) k
   have ib:∀k:Go.AM.K AV,iaK 7 (.lst 7 q (b.map encM)) (I i) k=k (.ep (encM (b[i]'(by omega))) 0):=fun k=>Z0P i rfl (List.getElem?_eq_getElem (by omega)) k
   have ld:∀(x:Msg) (k:Go.AM.K AV),ldK 7 true (.ep (encM x) 0) h k=k (.agg (encM x)):=fun x k=>rfl
   rw [List.drop_eq_getElem_cons hi,List.drop_eq_getElem_cons (show i<b.length by omega)]
   simp -implicitDefEqProofs only [Z7f,Z0a,List.length_map,Z05,c1,decide_true,Z00,if_true,ia,ib,ld,heq,Z0M,hw,ih (i+1) (by omega) (by omega),List.cons.injEq,Bool.decide_and]
   by_cases e:a[i]=b[i]
   ·simp [e]
   ·simp [e]
  ·have:i=a.length:=by omega
   subst this
   have c1:¬((a.length:Int)<(a.length:Int)):=by omega
   simp -implicitDefEqProofs only [Z7f,Z0a,List.length_map,Z05,c1,decide_false,Z00,Bool.false_eq_true,if_false,hx]
   rw [List.drop_eq_nil_of_le (Nat.le_refl _),List.drop_eq_nil_of_le (by omega)]
   rfl
theorem Zwg (a b:List Msg) (p q:Bool) (hl:a.length<1000000) (heq:∀(x y:Msg) (h:Hp) (k:Go.AM.K AV),eqK Try.prog true 27 (.agg (encM x)) (.agg (encM y)) h k=k (B (!(x==y)))) (h:Hp):Z4F [.lst 7 p (a.map encM), .lst 7 q (b.map encM)] h=some (B (decide (a=b)),h):=by
 refine Zud rfl ?_ h
 simp only [nrm,nrmC]
 by_cases hab:a.length=b.length
 ·have e:((a.length:Int)==(b.length:Int))=true:=by simp [hab]
  have:=Zwf (T:=Z6w) (D:=Z6v) (N:=NN) (x0:=fun h=>Z9u Try.prog Z6w Z6v NN (fun v g=>cvt false g v) h) (xr:=fun w13_4 h=>cvt false h w13_4) (a:=a) (b:=b) (p:=p) (q:=q) (h:=[]) hab hl rfl (fun x y k=>heq x y [] k) NN 0 (by omega) (by have:=NN_ge;omega)
  simp only [List.drop_zero] at this
  simp -implicitDefEqProofs only [Z5y,Z0a,List.length_map,Z04,e,Bool.true_xor,Bool.not_true,Z00,Bool.false_eq_true,if_false]
  exact this
 ·have e:((a.length:Int)==(b.length:Int))=false:=by simp;omega
  have hne:a≠b:=fun h=>hab (by rw [h])
  simp [Z5y,e,hne]
theorem Ziv (a b:List Msg) (p q:Bool) (hl:a.length<1000000) (h:Hp):Z4F [.lst 7 p (a.map encM), .lst 7 q (b.map encM)] h=some (B (decide (a=b)),h):=Zwg a b p q hl (fun x y h k=>by rw [Z4K,Bool.true_xor]) h
section
variable {β:Type}
end
end Go.AM


namespace Go.AM
open Go.Proofs
set_option linter.unusedVariables false
set_option linter.unusedSimpArgs false
set_option linter.constructorNameAsVariable false
set_option maxRecDepth 20000
attribute [local congr] Z0j Z0k Z0l Z0m Z0n Z0o Z0p Z0q Z0r Z0s Z0t Z0u Z0v Z0w Z0x Z0y Z0z Z0A Z0B Z0C Z0D Z0E Z0F Z0G Z0H Z0I Z0J
def fewI (i:Inbx):Bool:=(decide (i.heard.length≤20)||decide (i.heard.length=257))&&(decide (i.msgs.length≤20)||decide (i.msgs.length=65))
theorem Zwh (b1 b2:Bool) (i:Inbx) (h:Hp):Z8p [ib b1 b2 i] h=some (B (fewI i),h):=by
 refine Ztm (a0:=ib b1 b2 i) rfl ?_ h
 rw [show nrm (.a [none,some 2,some 7]) (ib b1 b2 i)=ib b1 b2 i from rfl]
 obtain ⟨H,hH⟩:∃H:Hp,H=[bxI b1 b2 i]:=⟨_,rfl⟩
 have bx:∀k:AV→Hp→Option AV,effK (boxE 3 (ib b1 b2 i) ([]:Hp).length) [] k=k (.ptr 0 0 0 1) H:=fun k=>by rw [hH];rfl
 have l1:∀k:Go.AM.K AV,ldK 1 false (.ptr 0 0 1 1) H k=k (SL 2 encH b1 i.heard):=fun k=>by rw [hH];rfl
 have l2:∀k:Go.AM.K AV,ldK 1 false (.ptr 0 0 2 1) H k=k (SL 7 encM b2 i.msgs):=fun k=>by rw [hH];rfl
 have e1:decide ((i.heard.length:Int)≤20)=decide (i.heard.length≤20):=by rw [decide_eq_decide];omega
 have e2:decide ((i.msgs.length:Int)≤20)=decide (i.msgs.length≤20):=by rw [decide_eq_decide];omega
 have e3:((i.heard.length:Int)==257)=decide (i.heard.length=257):=by rw [Bool.eq_iff_iff];simp;omega
 have e4:((i.msgs.length:Int)==65)=decide (i.msgs.length=65):=by rw [Bool.eq_iff_iff];simp;omega
 simp -implicitDefEqProofs only [Z90,bx,Z06,Nat.zero_add,l1,l2,SL,Z0a,List.length_map,Z0Y,Z04,Bool.false_xor,Z0h,Z0N,e1,e2,e3,e4]
 rfl
theorem Zwi {i:Inbx} (h:fewI i=true):i.heard.length≤257∧i.msgs.length≤65:=by
 unfold fewI at h
 simp only [Bool.and_eq_true,Bool.or_eq_true,decide_eq_true_eq] at h
 omega
theorem Ziw (a b:Hrd) (h:Hp):Z5f [.agg (encH a), .agg (encH b)] h=some (B (ltH b a),h):=by
 refine Zu8 (by simp [encH]) ?_ h
 obtain ⟨a0,a1⟩:=a
 obtain ⟨b0,b1⟩:=b
 have bx0:∀k:AV→Hp→Option AV,effK (boxE 2 (.agg [I a0,I a1]) ([]:Hp).length) [] k=k (.ptr 0 0 0 1) [.arr 2 [[I a0,I a1]] true false]:=fun k=>rfl
 have bx1:∀k:AV→Hp→Option AV,effK (boxE 2 (.agg [I b0,I b1]) ([AObj.arr 2 [[I a0,I a1]] true false]:Hp).length) [.arr 2 [[I a0,I a1]] true false] k=k (.ptr 1 0 0 1) [.arr 2 [[I a0,I a1]] true false, .arr 2 [[I b0,I b1]] true false]:=fun k=>rfl
 have l00:∀k:Go.AM.K AV,ldK 1 false (.ptr 0 0 0 1) [.arr 2 [[I a0,I a1]] true false, .arr 2 [[I b0,I b1]] true false] k=k (I a0):=fun k=>rfl
 have l01:∀k:Go.AM.K AV,ldK 1 false (.ptr 0 0 1 1) [.arr 2 [[I a0,I a1]] true false, .arr 2 [[I b0,I b1]] true false] k=k (I a1):=fun k=>rfl
 have l10:∀k:Go.AM.K AV,ldK 1 false (.ptr 1 0 0 1) [.arr 2 [[I a0,I a1]] true false, .arr 2 [[I b0,I b1]] true false] k=k (I b0):=fun k=>rfl
 have l11:∀k:Go.AM.K AV,ldK 1 false (.ptr 1 0 1 1) [.arr 2 [[I a0,I a1]] true false, .arr 2 [[I b0,I b1]] true false] k=k (I b1):=fun k=>rfl
 simp -implicitDefEqProofs only [Z9q,encH,bx0,bx1,Z06,Nat.zero_add,l00,l01,l10,l11,Z0e,Z04,Bool.false_xor,Z0N,Z0h]
 have:(decide (a0 > b0)||(a0==b0)&&decide (a1 > b1))=ltH ⟨b0,b1⟩ ⟨a0,a1⟩:=by
  rw [ZvJ,Z5J,Z5J,Bool.eq_iff_iff]
  simp [ltZ,lexZ]
  omega
 rw [this]
 rfl
end Go.AM


namespace Go.AM
open Go.Proofs
set_option linter.unusedVariables false
set_option linter.unusedSimpArgs false
set_option linter.constructorNameAsVariable false
set_option maxRecDepth 20000
attribute [local congr] Z0j Z0k Z0l Z0m Z0n Z0o Z0p Z0q Z0r Z0s Z0t Z0u Z0v Z0w Z0x Z0y Z0z Z0A Z0B Z0C Z0D Z0E Z0F Z0G Z0H Z0I Z0J
theorem Zwj {x0:AV→AV→Hp→Option AV} {xr:AV→Hp→Option AV} {X Y:Option AV} {a b:Inbx} {a1 a2 b1 b2:Bool} {H:Hp} (h0:H[0]? = some (bxI a1 a2 a)) (h1:H[1]? = some (bxI b1 b2 b)) (hl:a.heard.length<100000) (he:a.heard.length=b.heard.length) (hx:x0 (.ptr 0 0 0 1) (.ptr 1 0 0 1) H=X) (hr:xr (B false) H=Y):∀(n i:Nat),i≤a.heard.length→a.heard.length<i+n→
  Z3N Try.prog Z4I Z5h NN x0 xr n (.ptr 0 0 0 1) (.ptr 1 0 0 1) (I i) H=if a.heard.drop i=b.heard.drop i then X else Y:=by
 intro n
 induction n with
 | zero=>intro i h1 h2;omega
 | succ n ih=>
  intro i hi1 hi2
  show Z77 Try.prog Z4I Z5h NN (Z3N Try.prog Z4I Z5h NN x0 xr n) x0 xr _ _ _ H=_
  have la:∀k:Go.AM.K AV,ldK 1 false (.ptr 0 0 1 1) H k=k (SL 2 encH a1 a.heard):=fun k=>by rw [Z01,h0];rfl
  have lb:∀k:Go.AM.K AV,ldK 1 false (.ptr 1 0 1 1) H k=k (SL 2 encH b1 b.heard):=fun k=>by rw [Z01,h1];rfl
  rcases Nat.lt_or_ge i a.heard.length with hi | hi
  ·have hlt:((i:Int)<(a.heard.length:Int)):=by omega
   have hw:IntKind.i64.wrap ((i:Int)+1)=((i+1:Nat):Int):=by rw [wrap64 (by omega) (by omega)];omega
   have xa:a.heard[i]? = some a.heard[i]:=List.getElem?_eq_getElem hi
   have xb:b.heard[i]? = some b.heard[i]:=List.getElem?_eq_getElem (by omega)
   rw [List.drop_eq_getElem_cons hi,List.drop_eq_getElem_cons (by omega:i<b.heard.length)]
   have ih':=ih (i+1) hi (by omega)
   generalize a.heard[i]=x at xa
   generalize b.heard[i]=y at xb
   have ia:∀k:Go.AM.K AV,iaK 2 (SL 2 encH a1 a.heard) (I i) k=k (.ep (encH x) 0):=fun k=>Z0P i rfl xa k
   have ib':∀k:Go.AM.K AV,iaK 2 (SL 2 encH b1 b.heard) (I i) k=k (.ep (encH y) 0):=fun k=>Z0P i rfl xb k
   have lx:∀(z:Hrd) (k:Go.AM.K AV),ldK 2 true (.ep (encH z) 0) H k=k (.agg (encH z)):=fun z k=>rfl
   have ln:∀k:Go.AM.K AV,lenK (SL 2 encH a1 a.heard) k=k (I a.heard.length):=fun k=>by rw [SL,Z0a,List.length_map]
   simp -implicitDefEqProofs only [Z77,Z06,Nat.zero_add,la,ln,Z05,hlt,decide_true,Z00,if_true,lb,ia,ib',lx,Z8A,Bool.true_xor]
   by_cases q:x=y
   ·have e:(!(x==y))=false:=by simp [q]
    simp -implicitDefEqProofs only [e,Bool.false_eq_true,if_false,Z0M,hw]
    rw [ih']
    simp [q]
   ·have e:(!(x==y))=true:=by simp [q]
    have e2:¬(x::a.heard.drop (i+1)=y::b.heard.drop (i+1)):=by simp [q]
    rw [if_neg e2]
    simp -implicitDefEqProofs only [e,if_true,hr]
  ·have:i=a.heard.length:=by omega
   subst this
   have c1:¬((a.heard.length:Int)<(a.heard.length:Int)):=by omega
   have ln:∀k:Go.AM.K AV,lenK (SL 2 encH a1 a.heard) k=k (I a.heard.length):=fun k=>by rw [SL,Z0a,List.length_map]
   rw [List.drop_length,he,List.drop_length,if_pos rfl, ← he]
   simp -implicitDefEqProofs only [Z77,Z06,Nat.zero_add,la,ln,Z05,c1,decide_false,Z00,Bool.false_eq_true,if_false,hx]
theorem Zix (a1 a2 b1 b2:Bool) (a b:Inbx) (hl:a.heard.length<100000) (hm:a.msgs.length<100000) (h:Hp):Z6y [ib a1 a2 a,ib b1 b2 b] h=some (B (decide (a=b)),h):=by
 refine ZuJ (a0:=ib a1 a2 a) (a1:=ib b1 b2 b) rfl ?_ h
 rw [show nrm (.a [none,some 2,some 7]) (ib a1 a2 a)=ib a1 a2 a from rfl,show nrm (.a [none,some 2,some 7]) (ib b1 b2 b)=ib b1 b2 b from rfl]
 obtain ⟨H,hH⟩:∃H:Hp,H=[bxI a1 a2 a,bxI b1 b2 b]:=⟨_,rfl⟩
 have x0:∀k:AV→Hp→Option AV,effK (boxE 3 (ib a1 a2 a) ([]:Hp).length) [] k=k (.ptr 0 0 0 1) [bxI a1 a2 a]:=fun k=>rfl
 have x1:∀k:AV→Hp→Option AV,effK (boxE 3 (ib b1 b2 b) ([bxI a1 a2 a]:Hp).length) [bxI a1 a2 a] k=k (.ptr 1 0 0 1) H:=fun k=>by rw [hH];rfl
 have h0:H[0]? = some (bxI a1 a2 a):=by rw [hH];rfl
 have h1:H[1]? = some (bxI b1 b2 b):=by rw [hH];rfl
 have a0:∀k:Go.AM.K AV,ldK 1 false (.ptr 0 0 0 1) H k=k (I a.node):=fun k=>by rw [hH];rfl
 have b0:∀k:Go.AM.K AV,ldK 1 false (.ptr 1 0 0 1) H k=k (I b.node):=fun k=>by rw [hH];rfl
 have la:∀k:Go.AM.K AV,ldK 1 false (.ptr 0 0 1 1) H k=k (SL 2 encH a1 a.heard):=fun k=>by rw [hH];rfl
 have lb:∀k:Go.AM.K AV,ldK 1 false (.ptr 1 0 1 1) H k=k (SL 2 encH b1 b.heard):=fun k=>by rw [hH];rfl
 have ma:∀k:Go.AM.K AV,ldK 1 false (.ptr 0 0 2 1) H k=k (SL 7 encM a2 a.msgs):=fun k=>by rw [hH];rfl
 have mb:∀k:Go.AM.K AV,ldK 1 false (.ptr 1 0 2 1) H k=k (SL 7 encM b2 b.msgs):=fun k=>by rw [hH];rfl
 have lna:∀k:Go.AM.K AV,lenK (SL 2 encH a1 a.heard) k=k (I a.heard.length):=fun k=>by rw [SL,Z0a,List.length_map]
 have lnb:∀k:Go.AM.K AV,lenK (SL 2 encH b1 b.heard) k=k (I b.heard.length):=fun k=>by rw [SL,Z0a,List.length_map]
 simp -implicitDefEqProofs only [Z78,x0,x1,Z06,Nat.zero_add,a0,b0,Z04,Bool.true_xor,la,lb,lna,lnb,Z0h,Z00]
 by_cases q:a.node=b.node∧a.heard.length=b.heard.length
 ·obtain ⟨q1,q2⟩:=q
  have e:(!(a.node==b.node) || !((a.heard.length:Int)==(b.heard.length:Int)))=false:=by simp [q1,q2]
  simp -implicitDefEqProofs only [e,Bool.false_eq_true,if_false]
  refine (Zwj (X:=some (B (decide (a.msgs=b.msgs)))) (Y:=some (B false)) h0 h1 hl q2 ?_ rfl NN 0 (by omega) (by have:=NN_ge;omega)).trans ?_
  ·have fS:=Ziv a.msgs b.msgs (a2&&a.msgs.isEmpty) (b2&&b.msgs.isEmpty) (by omega) H
   simp -implicitDefEqProofs only [Z9b,Z06,Nat.zero_add,ma,mb,ZuF,Z02,fS]
   rfl
  ·rw [List.drop_zero,List.drop_zero]
   obtain ⟨n1,l1,m1⟩:=a
   obtain ⟨n2,l2,m2⟩:=b
   dsimp only at q1 ⊢
   subst q1
   by_cases e:l1=l2<;>simp [e]
 ·have e:(!(a.node==b.node) || !((a.heard.length:Int)==(b.heard.length:Int)))=true:=by
   cases hc:(!(a.node==b.node) || !((a.heard.length:Int)==(b.heard.length:Int))) with
   | true=>rfl
   | false=>
    simp at hc
    exact absurd hc (fun hh=>q ⟨hh.1,by omega⟩)
  have hne:¬a=b:=fun hh=>q ⟨by rw [hh],by rw [hh]⟩
  simp -implicitDefEqProofs only [e,if_true]
  simp [hne]
theorem Ziy (b1 b2:Bool) (i:Inbx) (hl:i.heard.length<100000) (hm:i.msgs.length<100000) (H:Hp):Z38 [ib b1 b2 i] H=some (.agg [I i.node, .sl 2 (H.length+3) 0 i.heard.length i.heard.length false, .sl 7 (H.length+5) 0 i.msgs.length i.msgs.length false],H++[bxI b1 b2 i, .arr 3 [[I i.node, .sl 2 (H.length+3) 0 i.heard.length i.heard.length false, .sl 7 (H.length+5) 0 i.msgs.length i.msgs.length false]] true false, .arr 2 [] true false, .arr 2 (i.heard.map encH) true false, .arr 7 [] true false, .arr 7 (i.msgs.map encM) true false]):=by
 rw [Ztz]
 obtain ⟨node,heard,msgs⟩:=i
 dsimp only at hl hm ⊢
 obtain ⟨LH,hLH⟩:∃LH:AV,LH=SL 2 encH b1 heard:=⟨_,rfl⟩
 obtain ⟨LM,hLM⟩:∃LM:AV,LM=SL 7 encM b2 msgs:=⟨_,rfl⟩
 obtain ⟨o0,ho0⟩:∃o0:AObj,o0 = .arr 3 [[I node,LH,LM]] true false:=⟨_,rfl⟩
 have eb:bxI b1 b2 ⟨node,heard,msgs⟩=o0:=by rw [ho0,hLH,hLM]
 rw [eb,show ib b1 b2 ⟨node,heard,msgs⟩ = .agg [I node,LH,LM] by rw [hLH,hLM]]
 obtain ⟨n,hn⟩:∃n,n=H.length:=⟨_,rfl⟩
 rw [← hn]
 have x0:∀k:AV→Hp→Option (AV × Hp),effK (boxE 3 (.agg [I node,LH,LM]) H.length) H k=k (.ptr n 0 0 1) (H++[o0]):=fun k=>by rw [hn,ho0];exact bx3 rfl (by rw [hLH,hLM];rfl) k
 have hl1:∀o:AObj,(H++[o]).length=n+1:=fun o=>by rw [hn];simp
 have hl2:∀o p:AObj,(H++[o,p]).length=n+2:=fun o p=>by rw [hn];simp
 have hl3:∀o p q:AObj,(H++[o,p,q]).length=n+3:=fun o p q=>by rw [hn];simp
 have hl4:∀o p q r:AObj,(H++[o,p,q,r]).length=n+4:=fun o p q r=>by rw [hn];simp
 have hl5:∀o p q r s:AObj,(H++[o,p,q,r,s]).length=n+5:=fun o p q r s=>by rw [hn];simp
 have gt:∀(l:List AObj) (j:Nat),(H++l)[n+j]? = l[j]? := fun l j=>by rw [hn,List.getElem?_append_right (by omega),show H.length+j-H.length=j by omega]
 have st':∀(l:List AObj) (j:Nat) (o:AObj),(H++l).set (n+j) o=H++l.set j o:=fun l j o=>by rw [hn,List.set_append_right _ _ (by omega),show H.length+j-H.length=j by omega]
 have x1:∀k:AV→Hp→Option (AV × Hp),effK (boxE 3 (.agg zI) (H++[o0]).length) (H++[o0]) k=k (.ptr (n+1) 0 0 1) (H++[o0, .arr 3 [zI] true false]):=fun k=>by
  refine (bx3 rfl rfl k).trans ?_
  rw [hl1,List.append_assoc];rfl
 have l0:∀(l:List AObj) (k:Go.AM.K (AV × Hp)),ldK 1 false (.ptr n 0 0 1) (H++o0::l) k=k (I node):=fun l k=>by rw [Z01,show n=n+0 from rfl,gt];rw [ho0];rfl
 have l1:∀(l:List AObj) (k:Go.AM.K (AV × Hp)),ldK 1 false (.ptr n 0 1 1) (H++o0::l) k=k LH:=fun l k=>by rw [Z01,show n=n+0 from rfl,gt];rw [ho0,hLH];rfl
 have l2:∀(l:List AObj) (k:Go.AM.K (AV × Hp)),ldK 1 false (.ptr n 0 2 1) (H++o0::l) k=k LM:=fun l k=>by rw [Z01,show n=n+0 from rfl,gt];rw [ho0,hLM];rfl
 have d1:∀k:AV→Hp→Ent→Option (AV × Hp),effD (bsE 2 zH 0 [] (H++[o0, .arr 3 [zI] true false]).length) (H++[o0, .arr 3 [zI] true false]) k=k (.sl 2 (n+2) 0 0 0 true) (H++[o0, .arr 3 [zI] true false, .arr 2 [] true false]) ([],[n+2]):=fun k=>by
  rw [hl2];simp [bsE,fillS,effD,ap,wrOf,hl2]
 have rH:∀h:Hp,readSl h LH=some (heard.map encH):=fun h=>by rw [hLH];rfl
 have rM:∀h:Hp,readSl h LM=some (msgs.map encM):=fun h=>by rw [hLM];rfl
 have aH:((heard.map encH).all fun e=>e.length==2)=true:=by rw [List.all_eq_true];intro e he;obtain ⟨x, -,rfl⟩:=List.mem_map.1 he;rfl
 have aM:((msgs.map encM).all fun e=>e.length==7)=true:=by rw [List.all_eq_true];intro e he;obtain ⟨x, -,rfl⟩:=List.mem_map.1 he;rfl
 have iH:idsOf LH=[]:=by rw [hLH];rfl
 have iM:idsOf LM=[]:=by rw [hLM];rfl
 have d2:∀k:AV→Hp→Ent→Option (AV × Hp),effD (appE 2 16 (.sl 2 (n+2) 0 0 0 true) LH (H++[o0, .arr 3 [zI] true false, .arr 2 [] true false]) (H++[o0,AObj.arr 3 [zI] true false, .arr 2 [] true false]).length) (H++[o0, .arr 3 [zI] true false, .arr 2 [] true false]) k=k (.sl 2 (n+3) 0 heard.length heard.length false) (H++[o0, .arr 3 [zI] true false, .arr 2 [] true false, .arr 2 (heard.map encH) true false]) ([n+2],[n+3]):=fun k=>by
  have:appE 2 16 (.sl 2 (n+2) 0 0 0 true) LH (H++[o0, .arr 3 [zI] true false, .arr 2 [] true false]) (n+3)=some (.sl 2 (n+3) 0 heard.length heard.length false,⟨[],[.arr 2 (heard.map encH) true false],[n+2]⟩):=by
   unfold appE
   rw [rH]
   simp only [gt]
   simp only [List.getElem?_cons_succ,List.getElem?_cons_zero,List.length_map,List.length_nil]
   rw [if_pos ⟨trivial,trivial,by omega,aH⟩,if_pos ⟨trivial,by omega, .inl trivial⟩]
   simp [iH]
  rw [hl3,this]
  simp [effD,ap,wrOf,hl3]
 have d3:∀k:AV→Hp→Ent→Option (AV × Hp),effD (bsE 7 [I 0,I 0,I 0,I 0,I 0,I 0,I 0] 0 [] (H++[o0, .arr 3 [zI] true false, .arr 2 [] true false, .arr 2 (heard.map encH) true false]).length) (H++[o0, .arr 3 [zI] true false, .arr 2 [] true false, .arr 2 (heard.map encH) true false]) k=k (.sl 7 (n+4) 0 0 0 true) (H++[o0, .arr 3 [zI] true false, .arr 2 [] true false, .arr 2 (heard.map encH) true false, .arr 7 [] true false]) ([],[n+4]):=fun k=>by
  rw [hl4];simp [bsE,fillS,effD,ap,wrOf,hl4]
 have d4:∀k:AV→Hp→Ent→Option (AV × Hp),effD (appE 7 56 (.sl 7 (n+4) 0 0 0 true) LM (H++[o0, .arr 3 [zI] true false, .arr 2 [] true false, .arr 2 (heard.map encH) true false, .arr 7 [] true false]) (H++[o0,AObj.arr 3 [zI] true false, .arr 2 [] true false, .arr 2 (heard.map encH) true false, .arr 7 [] true false]).length) (H++[o0, .arr 3 [zI] true false, .arr 2 [] true false, .arr 2 (heard.map encH) true false, .arr 7 [] true false]) k=k (.sl 7 (n+5) 0 msgs.length msgs.length false) (H++[o0, .arr 3 [zI] true false, .arr 2 [] true false, .arr 2 (heard.map encH) true false, .arr 7 [] true false, .arr 7 (msgs.map encM) true false]) ([n+4],[n+5]):=fun k=>by
  have:appE 7 56 (.sl 7 (n+4) 0 0 0 true) LM (H++[o0, .arr 3 [zI] true false, .arr 2 [] true false, .arr 2 (heard.map encH) true false, .arr 7 [] true false]) (n+5)=some (.sl 7 (n+5) 0 msgs.length msgs.length false,⟨[],[.arr 7 (msgs.map encM) true false],[n+4]⟩):=by
   unfold appE
   rw [rM]
   simp only [gt]
   simp only [List.getElem?_cons_succ,List.getElem?_cons_zero,List.length_map,List.length_nil]
   rw [if_pos ⟨trivial,trivial,by omega,aM⟩,if_pos ⟨trivial,by omega, .inl trivial⟩]
   simp [iM]
  rw [hl5,this]
  simp [effD,ap,wrOf,hl5]
 have bK:∀k:Go.AM.K (AV × Hp),buildK zI [(some (0,1),I node),(some (1,1), .sl 2 (n+3) 0 heard.length heard.length false),(some (2,1), .sl 7 (n+5) 0 msgs.length msgs.length false)] k=k (.agg [I node, .sl 2 (n+3) 0 heard.length heard.length false, .sl 7 (n+5) 0 msgs.length msgs.length false]):=fun k=>rfl
 have d5:∀k:AV→Hp→Ent→Option (AV × Hp),effD (stE 3 (.ptr (n+1) 0 0 1) (.agg [I node, .sl 2 (n+3) 0 heard.length heard.length false, .sl 7 (n+5) 0 msgs.length msgs.length false]) (H++[o0, .arr 3 [zI] true false, .arr 2 [] true false, .arr 2 (heard.map encH) true false, .arr 7 [] true false, .arr 7 (msgs.map encM) true false])) (H++[o0, .arr 3 [zI] true false, .arr 2 [] true false, .arr 2 (heard.map encH) true false, .arr 7 [] true false, .arr 7 (msgs.map encM) true false]) k=k .u (H++[o0, .arr 3 [[I node, .sl 2 (n+3) 0 heard.length heard.length false, .sl 7 (n+5) 0 msgs.length msgs.length false]] true false, .arr 2 [] true false, .arr 2 (heard.map encH) true false, .arr 7 [] true false, .arr 7 (msgs.map encM) true false]) ([n+1],[n+1]):=fun k=>by
  have:stE 3 (.ptr (n+1) 0 0 1) (.agg [I node, .sl 2 (n+3) 0 heard.length heard.length false, .sl 7 (n+5) 0 msgs.length msgs.length false]) (H++[o0, .arr 3 [zI] true false, .arr 2 [] true false, .arr 2 (heard.map encH) true false, .arr 7 [] true false, .arr 7 (msgs.map encM) true false])=some (.u,⟨[(n+1, .arr 3 [[I node, .sl 2 (n+3) 0 heard.length heard.length false, .sl 7 (n+5) 0 msgs.length msgs.length false]] true false)],[],[n+1]⟩):=by
   rw [Z0i,gt]
   simp [putAt]
  rw [Z0f this,st']
  rfl
 have dj:disjAll [(1,2),(2,4),(1,5),(1,6),(2,6),(4,6),(5,6),(2,8),(5,8),(6,8),(1,9)] [([],[]),(idsOf (.ptr n 0 0 1),[]),([],[n+2]),([],[]),(idsOf (.ptr n 0 1 1),[]),([n+2],[n+3]),([],[n+4]),([],[]),(idsOf (.ptr n 0 2 1),[]),([n+4],[n+5]),([],[]),([n+1],[n+1])]=true:=by
  simp [disjAll,disj2,idsOf]
 have lw:∀(l:List AObj) (o:AObj) (k:Go.AM.K (AV × Hp)),ldK 3 true (.ptr (n+1) 0 0 1) (H++o :: .arr 3 [[I node, .sl 2 (n+3) 0 heard.length heard.length false, .sl 7 (n+5) 0 msgs.length msgs.length false]] true false::l) k=k (.agg [I node, .sl 2 (n+3) 0 heard.length heard.length false, .sl 7 (n+5) 0 msgs.length msgs.length false]):=fun l o k=>by rw [Z01,gt];rfl
 simp -implicitDefEqProofs only [Z5s,x0,x1,Z06,Nat.zero_add,l0,d1,l1,d2,d3,l2,d4,bK,d5,dj,cond_true,lw]
theorem Zwk (b1 b2:Bool) (i:Inbx) (hl:i.heard.length<100000) (hm:i.msgs.length<100000) (h:Hp):Z6s [ib b1 b2 i] h=some (ib false false i,h):=by
 refine (ZtB (a0:=ib b1 b2 i) (v:=ib false false i) rfl ?_ h).trans rfl
 have hr:=Ziy b1 b2 i hl hm []
 have hK:=(Zde (fun v g=>cvt false g v) (ib b1 b2 i) []).symm
 show Z5s Try.prog Z6r Z6q NN (fun v g=>cvt false g v) (ib b1 b2 i) []=_
 rw [hK,hr]
 show cvt false _ (.agg [I i.node, .sl 2 3 0 i.heard.length i.heard.length false, .sl 7 5 0 i.msgs.length i.msgs.length false])=_
 simp only [Z4M,Z2C,Z2B,cvt_s]
 rw [Z10 (st:=false) (es:=i.heard.map encH) (nl:=false) rfl (by simp) (by simp) (Z0W fun x=>by simp [encH]),Z10 (st:=false) (es:=i.msgs.map encM) (nl:=false) rfl (by simp) (by simp) (Z0W fun x=>by simp [encM])]
 rfl
end Go.AM


namespace Go.AM
open Go.Proofs
set_option linter.unusedVariables false
set_option linter.unusedSimpArgs false
set_option linter.constructorNameAsVariable false
set_option maxRecDepth 20000
attribute [local congr] Z0j Z0k Z0l Z0m Z0n Z0o Z0p Z0q Z0r Z0s Z0t Z0u Z0v Z0w Z0x Z0y Z0z Z0A Z0B Z0C Z0D Z0E Z0F Z0G Z0H Z0I Z0J
def lastLt (p:Option Hrd) (x:Hrd):Bool:=match p with | some q => !ltH q x | none=>false
theorem Zwl (node:Int) (p:Option Hrd) (x:Hrd) (r:List Hrd):chkH node p (x::r)=if (!isNode x.frm||decide (x.num<1)||decide (x.num > 1073741824))=true then 2 else if x.frm=node then 10 else if lastLt p x=true then 5 else chkH node (some x) r:=by
 rw [Zi6]
 cases p with
 | none=>rfl
 | some q=>
  have:decide (cmpH q x≥0)=lastLt (some q) x:=by
   unfold lastLt ltH
   by_cases h:cmpH q x<0
   ·simp [h]
   ·simp [h];omega
  simp only [this]
theorem Zwm {x0:AV→Hp→Option AV} {xr:AV→Hp→Option AV} {X:Option AV} {X2:Int→Option AV} {i:Inbx} {c1 c2:Bool} (hl:i.heard.length<1000000) (h0:∀h:Hp,h[0]? = some (bxI c1 c2 i)→x0 (.ptr 0 0 0 1) h=X) (hr:∀(e:Int) h,xr (I e) h=X2 e):∀(n:Nat) (pre post:List Hrd) (h:Hp),i.heard=pre++post→post.length<n→h[0]? = some (bxI c1 c2 i)→
  Z3L Try.prog Z2P Z5g NN x0 xr n (.ptr 0 0 0 1) (I pre.length) h=if chkH i.node pre.getLast? post=0 then X else X2 (chkH i.node pre.getLast? post):=by
 intro n
 induction n with
 | zero=>intro pre post h _ h2;omega
 | succ n ih=>
  intro pre post h hc hn g0
  show Z75 Try.prog Z2P Z5g NN (Z3L Try.prog Z2P Z5g NN x0 xr n) x0 xr _ _ h=_
  have g1:∀k:Go.AM.K AV,ldK 1 false (.ptr 0 0 1 1) h k=k (SL 2 encH c1 i.heard):=fun k=>by rw [Z01,g0];rfl
  have ln:∀k:Go.AM.K AV,lenK (SL 2 encH c1 i.heard) k=k (I i.heard.length):=fun k=>by rw [SL,Z0a,List.length_map]
  cases post with
  | nil=>
   have:i.heard=pre:=by simpa using hc
   have c1:¬((pre.length:Int)<(i.heard.length:Int)):=by rw [this];omega
   simp -implicitDefEqProofs only [Z75,Z06,Nat.zero_add,g1,ln,Z05,c1,decide_false,Z00,Bool.false_eq_true,if_false,Zi7,if_true]
   exact h0 h g0
  | cons x post=>
   have hx:i.heard[pre.length]? = some x:=by rw [hc];simp
   have hi:pre.length<i.heard.length:=by rw [hc];simp
   have hlt:((pre.length:Int)<(i.heard.length:Int)):=by omega
   have hw:IntKind.i64.wrap ((pre.length:Int)+1)=(((pre++[x]).length:Nat):Int):=by rw [wrap64 (by omega) (by omega)];simp
   have ic:∀k:Go.AM.K AV,iaK 2 (SL 2 encH c1 i.heard) (I pre.length) k=k (.ep (encH x) 0):=fun k=>Z0P pre.length rfl hx k
   have ld:∀k:Go.AM.K AV,ldK 2 true (.ep (encH x) 0) h k=k (.agg (encH x)):=fun k=>rfl
   obtain ⟨y,hy⟩:∃y,y=h++[AObj.arr 2 [encH x] true false]:=⟨_,rfl⟩
   have bx:∀k:AV→Hp→Option AV,effK (boxE 2 (.agg zH) h.length) h k=k (.ptr h.length 0 0 1) (h++[.arr 2 [zH] true false]):=fun k=>Z3e 2 h.length (.agg zH) h k rfl rfl rfl
   have ns:∀k:AV→Hp→Option AV,effK (stE 2 (.ptr h.length 0 0 1) (.agg (encH x)) (h++[.arr 2 [zH] true false])) (h++[.arr 2 [zH] true false]) k=k .u y:=fun k=>by
    rw [Z0d (v := .u) (id:=h.length) (o := .arr 2 [encH x] true false) (ft:=[h.length]) (by simp [encH]),Z3z,hy];rfl
   have hb:y[h.length]? = some (.arr 2 [encH x] true false):=by rw [hy,Z0S];rfl
   have y0:y[0]? = some (bxI c1 c2 i):=by rw [hy];exact Z09 g0
   have l0:∀k:Go.AM.K AV,ldK 1 false (.ptr h.length 0 0 1) y k=k (I x.frm):=fun k=>by rw [Z01,hb];rfl
   have l1:∀k:Go.AM.K AV,ldK 1 false (.ptr h.length 0 1 1) y k=k (I x.num):=fun k=>by rw [Z01,hb];rfl
   have lw:∀k:Go.AM.K AV,ldK 2 true (.ptr h.length 0 0 1) y k=k (.agg (encH x)):=fun k=>by rw [Z01,hb];rfl
   have b0:∀k:Go.AM.K AV,ldK 1 false (.ptr 0 0 0 1) y k=k (I i.node):=fun k=>by rw [Z01,y0];rfl
   have b1:∀k:Go.AM.K AV,ldK 1 false (.ptr 0 0 1 1) y k=k (SL 2 encH c1 i.heard):=fun k=>by rw [Z01,y0];rfl
   have fn:=Z5i x.frm
   have grp:∀k:AV→Hp→Option AV,(arithK .gtr (I pre.length) (I 0) fun x75=>grpK true x75 y (fun k76=>ldK 2 true (.ptr h.length 0 0 1) y fun x77=>ldK 1 false (.ptr 0 0 1 1) y fun x79=>arithK .sub (I pre.length) (I 1) fun x80=>iaK 2 x79 x80 fun x81=>ldK 2 true x81 y fun x82=>callK (Z2P 57) [x77,x82] y fun x83 h84=>notK x83 fun x85=>k76 x85 h84) k)=k (B (lastLt pre.getLast? x)) y:=fun k=>by
    by_cases hp:pre.length=0
    ·have:pre=[]:=List.eq_nil_of_length_eq_zero hp
     subst this
     simp -implicitDefEqProofs only [Z0e,List.length_nil,show ¬(((0:Nat):Int) > 0) by omega,decide_false]
     rfl
    ·have c0:(pre.length:Int) > 0:=by omega
     obtain ⟨p,hm⟩:∃p,p=pre.length-1:=⟨_,rfl⟩
     have hwm:IntKind.i64.wrap ((pre.length:Int)-1)=(p:Int):=by rw [wrap64 (by omega) (by omega)];omega
     obtain ⟨z,hz⟩:∃z,pre.getLast? = some z:=by
      cases hq:pre.getLast? with
      | none=>rw [List.getLast?_eq_none_iff] at hq;rw [hq] at hp;exact absurd rfl hp
      | some z=>exact ⟨z,rfl⟩
     have hzm:i.heard[p]? = some z:=by
      rw [hc,List.getElem?_append_left (by omega),hm, ← List.getLast?_eq_getElem?,hz]
     have im:∀k:Go.AM.K AV,iaK 2 (SL 2 encH c1 i.heard) (I p) k=k (.ep (encH z) 0):=fun k=>Z0P p rfl hzm k
     have lm:∀k:Go.AM.K AV,ldK 2 true (.ep (encH z) 0) y k=k (.agg (encH z)):=fun k=>rfl
     have fh:=Ziw x z
     rw [hz]
     simp -implicitDefEqProofs only [Z0e,c0,decide_true,b1,Z31,hwm,im,lm,lw,Zuh,Z02,fh,Z0g]
     rfl
   rw [Zwl]
   simp -implicitDefEqProofs only [Z75,Z06,Nat.zero_add,g1,ln,Z05,hlt,decide_true,Z00,if_true,ic,ld,bx,ns,l0,ZhF,Z02,fn,Z0g,l1,Z0e,Z0h]
   by_cases q1:(!isNode x.frm||decide (x.num<1)||decide (x.num > 1073741824))=true
   ·rw [if_pos q1,if_pos q1]
    simp -implicitDefEqProofs only [hr]
    rfl
   ·rw [if_neg q1,if_neg q1]
    simp -implicitDefEqProofs only [b0,Z04,Bool.false_xor,Z00]
    by_cases q2:x.frm=i.node
    ·have e2:(x.frm==i.node)=true:=by simp [q2]
     rw [if_pos q2]
     simp -implicitDefEqProofs only [e2,if_true,hr]
     rfl
    ·have e2:(x.frm==i.node)=false:=by simp [q2]
     rw [if_neg q2]
     simp -implicitDefEqProofs only [e2,Bool.false_eq_true,if_false]
     simp only [Z0e] at grp
     rw [grp]
     simp -implicitDefEqProofs only [Z00]
     by_cases q3:lastLt pre.getLast? x=true
     ·rw [if_pos q3,if_pos q3]
      simp -implicitDefEqProofs only [hr]
      rfl
     ·rw [if_neg q3,if_neg q3]
      simp -implicitDefEqProofs only [Z0M,hw]
      refine (ih (pre++[x]) post y (by simpa using hc) (by simpa using hn) y0).trans ?_
      simp
theorem Ziz (b1 b2:Bool) (i:Inbx) (hl:i.heard.length<1000000) (hm:i.msgs.length<1000) (h:Hp):Z4G [ib b1 b2 i] h=some (I (chkI i),h):=by
 refine Zum (a0:=ib b1 b2 i) rfl ?_ h
 rw [show nrm (.a [none,some 2,some 7]) (ib b1 b2 i)=ib b1 b2 i from rfl]
 obtain ⟨H,hH⟩:∃H:Hp,H=[bxI b1 b2 i]:=⟨_,rfl⟩
 have bx:∀k:AV→Hp→Option AV,effK (boxE 3 (ib b1 b2 i) ([]:Hp).length) [] k=k (.ptr 0 0 0 1) H:=fun k=>by rw [hH];rfl
 have ld:∀(H:Hp),H[0]? = some (bxI b1 b2 i)→(∀k:Go.AM.K AV,ldK 1 false (.ptr 0 0 0 1) H k=k (I i.node))∧(∀k:Go.AM.K AV,ldK 1 false (.ptr 0 0 1 1) H k=k (SL 2 encH b1 i.heard))∧(∀k:Go.AM.K AV,ldK 1 false (.ptr 0 0 2 1) H k=k (SL 7 encM b2 i.msgs)):=fun H H0=>⟨fun k=>by rw [Z01,H0];rfl,fun k=>by rw [Z01,H0];rfl,fun k=>by rw [Z01,H0];rfl⟩
 have H0:H[0]? = some (bxI b1 b2 i):=by rw [hH];rfl
 obtain ⟨l0,l1,l2⟩:=ld H H0
 have fn:=Z5i i.node
 have lna:∀k:Go.AM.K AV,lenK (SL 2 encH b1 i.heard) k=k (I i.heard.length):=fun k=>by rw [SL,Z0a,List.length_map]
 have lnb:∀k:Go.AM.K AV,lenK (SL 7 encM b2 i.msgs) k=k (I i.msgs.length):=fun k=>by rw [SL,Z0a,List.length_map]
 unfold chkI
 simp -implicitDefEqProofs only [Z76,bx,Z06,Nat.zero_add,l0,l1,l2,ZhF,Z02,fn,Z0g,Z00,lna,lnb,Z0e,Z0h]
 cases hn:isNode i.node with
 | false=>rfl
 | true=>
  simp -implicitDefEqProofs only [Bool.not_true,Bool.false_eq_true,if_false]
  by_cases h8:256<i.heard.length∨64<i.msgs.length
  ·have e:(decide ((i.heard.length:Int) > 256)||decide ((i.msgs.length:Int) > 64))=true:=by simp;omega
   rw [if_pos h8]
   simp -implicitDefEqProofs only [e,if_true]
   rfl
  ·have e:(decide ((i.heard.length:Int) > 256)||decide ((i.msgs.length:Int) > 64))=false:=by simp;omega
   rw [if_neg (show ¬(true=false) by simp),if_neg h8]
   simp -implicitDefEqProofs only [e,Bool.false_eq_true,if_false]
   refine (Zwm (c1:=b1) (c2:=b2) (X:=some (I (if errM i.msgs≠0∨normL i.msgs≠i.msgs then 1 else if i.heard.length<i.msgs.length then 10 else 0))) (X2:=fun e=>some (I e)) hl (fun h hh => ?_) (fun e h=>rfl) NN [] i.heard H rfl (by have:=NN_ge;omega) H0).trans ?_
   ·obtain ⟨k0,k1,k2⟩:=ld h hh
    have fN:=Zwc i.msgs (b2&&i.msgs.isEmpty) (by omega)
    have tp:∀(a b:AV) (k:Go.AM.K AV),exK (.tup [a,b]) 0 k=k a:=fun a b k=>rfl
    have tq:∀(a b:AV) (k:Go.AM.K AV),exK (.tup [a,b]) 1 k=k b:=fun a b k=>rfl
    unfold normR' at fN
    simp -implicitDefEqProofs only [Z99,Z06,Nat.zero_add,k1,k2,Zug,Z02,fN,tp,tq,Z04,Bool.true_xor]
    by_cases z:errM i.msgs=0
    ·have ez:(!(errM i.msgs==0))=false:=by simp [z]
     have hnl:=Zdo i.msgs
     have fE:=Ziv (normL i.msgs) i.msgs false (b2&&i.msgs.isEmpty) (by omega)
     have ex:(if errM i.msgs=0 then AV.lst 7 false ((normL i.msgs).map encM) else .lst 7 true []) = .lst 7 false ((normL i.msgs).map encM):=if_pos z
     simp -implicitDefEqProofs only [ez,ex,Zcu,Zui,Z02,fE,Z0g,Z00,lna,lnb,Z0e]
     by_cases q:normL i.msgs=i.msgs
     ·have e1:(!decide (normL i.msgs=i.msgs))=false:=by simp [q]
      have rr:¬(errM i.msgs≠0∨normL i.msgs≠i.msgs):=by simp [z,q]
      simp -implicitDefEqProofs only [e1,Bool.false_eq_true,if_false]
      by_cases q2:i.heard.length<i.msgs.length
      ·have c:(i.msgs.length:Int) > (i.heard.length:Int):=by omega
       simp -implicitDefEqProofs only [k1,k2,lna,lnb,Z0e,Z00,c,decide_true,if_true,if_neg rr,if_pos q2]
       rfl
      ·have c:¬((i.msgs.length:Int) > (i.heard.length:Int)):=by omega
       simp -implicitDefEqProofs only [k1,k2,lna,lnb,Z0e,Z00,c,decide_false,Bool.false_eq_true,if_false,if_neg rr,if_neg q2]
       rfl
     ·have e1:(!decide (normL i.msgs=i.msgs))=true:=by simp [q]
      have rr:(errM i.msgs≠0∨normL i.msgs≠i.msgs) := .inr q
      simp -implicitDefEqProofs only [e1,if_true,if_pos rr]
      rfl
    ·have ez:(!(errM i.msgs==0))=true:=by simp [z]
     have rr:(errM i.msgs≠0∨normL i.msgs≠i.msgs) := .inl z
     simp -implicitDefEqProofs only [ez,Zct,Z00,if_true,if_pos rr]
     rfl
   ·show (if chkH i.node none i.heard=0 then _ else _)=_
    by_cases z:chkH i.node none i.heard=0
    ·rw [if_pos z,if_neg (show ¬chkH i.node none i.heard≠0 from fun hh=>hh z)]
    ·rw [if_neg z,if_pos (show chkH i.node none i.heard≠0 from z)];rfl
end Go.AM


namespace Go.AM
open Go.RowKit
set_option linter.unusedVariables false
def mu0 (w:World):Mu:=⟨fun _ => .virt none,w,fun k=>k<w.heap.size⟩
theorem rel0 (w:World):Rel (mu0 w) [] w where
 obj:=fun id o h=>by simp at h
 sep:=fun i j o p b x c y d h=>by simp at h
 apart:=fun i sz es nil b x c h=>by simp at h
 imm:=fun k hk=>⟨hk,rfl,fun ⟨id,o,off,c,h,_⟩=>by simp at h⟩
theorem own0 (w:World) (b:Nat):¬Own (mu0 w) [] b:=fun ⟨id,o,off,c,h,_⟩=>by simp at h
theorem below0 {w w':World} {μ':Mu} {h':Hp} (s:Step (mu0 w) [] w μ' h' w'):Below w.heap.size w w':=
 ⟨s.frame.os,s.frame.tape,s.frame.output,s.frame.size,fun k hk=>s.frame.block k hk (own0 w k)⟩
theorem row_calls {P:Program} {f:FuncId} {F:Fun} {args:List AV} {h':Hp} {b:Bool} {W:World} {cargs:Array Value} (hc:CSound P f F) (hF:F args []=some (.s (.bool b),h')) (hv:VRs (mu0 W) [] args cargs.toList):
  Calls P f cargs W fun e W'=>e = .returned (.bool b)∧Below W.heap.size W W':=by
 refine (hc args [] _ h' hF (mu0 W) W cargs (rel0 W) hv).2.mono fun e W' => ?_
 rintro ⟨cv,μ',rfl,s,hr⟩
 simp only [VR] at hr
 exact ⟨by rw [hr.2],below0 s⟩

inductive Ty where
 | int (k:IntKind)
 | bool
 | str
 | sl (e:List Ty)
def tyFs (f:TypeId→Option (List Ty)) (size:TypeId→Nat):List Field→Nat→Option (List Ty)
 | [],_=>some []
 | x::l,pos=>match f x.type,tyFs f size l (pos+size x.type) with
  | some a,some b=>if x.offset=pos∧a.length=size x.type then some (a++b) else none
  | _,_=>none
def tyOf (P:Program):Nat→TypeId→Option (List Ty)
 | 0,_=>none
 | n+1,t=>match P.underlying t with
  | some .bool=>some [.bool]
  | some (.int k)=>some [.int k]
  | some .string=>some [.str]
  | some (.slice e)=>match tyOf P n e with
   | some l=>if l.length=P.cellsOf e∧0<l.length then some [.sl l] else none
   | none=>none
  | some (.struct fs)=>match tyFs (tyOf P n) P.cellsOf fs.toList 0 with
   | some l=>if l.length=P.cellsOf t then some l else none
   | none=>none
  | some (.array m e)=>match tyOf P n e with
   | some l=>if l.length=P.cellsOf e∧m * P.cellsOf e=P.cellsOf t then some (List.replicate m l).flatten else none
   | none=>none
  | _=>none
mutual
def HasT:Ty→AV→Prop
 | .int k,a=>∃n,a = .s (.int k n)∧(Lit.int k n).wf=true
 | .bool,a=>∃b,a = .s (.bool b)
 | .str,a=>∃s:ByteArray,a = .s (.string s)∧s.size≤maxLen
 | .sl ts,a=>∃nil es,a = .lst ts.length nil es∧(nil=true→es=[])∧es.length≤maxLen∧∀e ∈ es,HasTs ts e
def HasTs:List Ty→List AV→Prop
 | [],asl=>asl=[]
 | t::ts,asl=>∃a as',asl=a::as'∧HasT t a∧HasTs ts as'
end
theorem HasTs.app:∀ {ts us:List Ty} {asl bs:List AV},HasTs ts asl→HasTs us bs→HasTs (ts++us) (asl++bs)
 | [],us,asl,bs,h,k=>by simp only [HasTs] at h;subst h;exact k
 | t::ts,us,asl,bs,h,k=>by
  simp only [HasTs] at h
  obtain ⟨a,as',rfl,h1,h2⟩:=h
  simp only [List.cons_append,HasTs]
  exact ⟨a,_,rfl,h1,HasTs.app h2 k⟩
theorem HasTs.len:∀ {ts:List Ty} {asl:List AV},HasTs ts asl→asl.length=ts.length
 | [],asl,h=>by simp only [HasTs] at h;subst h;rfl
 | t::ts,asl,h=>by
  simp only [HasTs] at h
  obtain ⟨a,as',rfl,h1,h2⟩:=h
  simp [HasTs.len h2]
theorem HasT.ok:∀ {t:Ty} {a:AV},HasT t a→okC a=true
 | .int k,a,h=>by simp only [HasT] at h;obtain ⟨n,rfl,_⟩:=h;rfl
 | .bool,a,h=>by simp only [HasT] at h;obtain ⟨n,rfl⟩:=h;rfl
 | .str,a,h=>by simp only [HasT] at h;obtain ⟨n,rfl,_⟩:=h;rfl
 | .sl ts,a,h=>by simp only [HasT] at h;obtain ⟨n,es,rfl,_⟩:=h;rfl
theorem HasTs.ok:∀ {ts:List Ty} {asl:List AV},HasTs ts asl→∀x ∈ asl,okC x=true
 | [],asl,h,x,hx=>by simp only [HasTs] at h;subst h;simp at hx
 | t::ts,asl,h,x,hx=>by
  simp only [HasTs] at h
  obtain ⟨a,as',rfl,h1,h2⟩:=h
  rcases List.mem_cons.1 hx with rfl | hx
  ·exact h1.ok
  ·exact h2.ok x hx
theorem ZdA {μ:Mu} {h:Hp}:∀ {asl bs:List AV} {cs ds:List Value},VRs μ h asl cs→VRs μ h bs ds→VRs μ h (asl++bs) (cs++ds)
 | [],bs,cs,ds,h1,h2=>by simp only [VRs] at h1;subst h1;exact h2
 | a::asl,bs,cs,ds,h1,h2=>by
  simp only [VRs] at h1
  obtain ⟨v,vs,rfl,h3,h4⟩:=h1
  simp only [List.cons_append,VRs]
  exact ⟨v,_,rfl,h3,ZdA h4 h2⟩
section
variable {H:Type} {enc:TypeId × Value→H} {P:Program} {w:World} {base:Nat} {spare:Nat→Bool} {held:Bool}
def Opened (w:World) (ts:List Ty) (cs:List Value):Prop:=∃asl,HasTs ts asl∧VRs (mu0 w) [] asl cs∧∀u ∈ cs,u.oneCell'=true
theorem Z6B {t:Ty} {u:Value} {a:AV} (h1:HasT t a) (h2:VR (mu0 w) [] a u) (h3:u.oneCell'=true):Opened w [t] [u]:=
 ⟨[a],by simp only [HasTs];exact ⟨a,[],rfl,h1,rfl⟩,by simp only [VRs];exact ⟨u,[],rfl,h2,rfl⟩,by simpa using h3⟩
theorem ZiA {f:TypeId→Option (List Ty)} {g:TypeId→List Value→Prop} {cs:List Value} (hg:∀t ts cs',f t=some ts→g t cs'→Opened w ts cs'):∀(l:List Field) (pos:Nat) (ts:List Ty),tyFs f P.cellsOf l pos=some ts→
  (∀x ∈ l,g x.type ((cs.drop x.offset).take (P.cellsOf x.type)))→Opened w ts ((cs.drop pos).take ts.length)
 | [],pos,ts,h,_=>by
  simp only [tyFs,Option.some.injEq] at h
  subst h
  exact ⟨[],rfl,rfl,by simp⟩
 | x::l,pos,ts,h,hx=>by
  simp only [tyFs] at h
  split at h
  ·rename_i a b h1 h2
   split at h
   ·rename_i hc
    simp only [Option.some.injEq] at h
    subst h
    obtain ⟨h3,h4⟩:=hc
    obtain ⟨asl,p1,p2,p3⟩:=hg _ _ _ h1 (hx x (by simp))
    obtain ⟨bs,q1,q2,q3⟩:=ZiA hg l _ b h2 (fun y hy=>hx y (by simp [hy]))
    have e:(cs.drop pos).take (a++b).length=(cs.drop x.offset).take (P.cellsOf x.type)++(cs.drop (pos+P.cellsOf x.type)).take b.length:=by
     rw [List.length_append,h4,h3, ← List.drop_drop,List.take_add]
    rw [e]
    refine ⟨asl++bs,p1.app q1,ZdA p2 q2, ?_⟩
    intro u hu
    rcases List.mem_append.1 hu with hu | hu
    ·exact p3 u hu
    ·exact q3 u hu
   ·simp at h
  ·simp at h
theorem ZiB {ts:List Ty} {sz:Nat} {cs:List Value}:∀(n i0:Nat),(∀i,i<n→Opened w ts ((cs.drop ((i0+i) * sz)).take sz))→Opened w (List.replicate n ts).flatten ((cs.drop (i0 * sz)).take (n * sz))
 | 0,i0,_=>⟨[],rfl,by simp [VRs],by simp⟩
 | n+1,i0,h=>by
  obtain ⟨asl,p1,p2,p3⟩:=h 0 (by omega)
  obtain ⟨bs,q1,q2,q3⟩:=ZiB n (i0+1) (fun i hi=>by have:=h (i+1) (by omega);rwa [show i0+(i+1)=i0+1+i by omega] at this)
  have e:(cs.drop (i0 * sz)).take ((n+1) * sz)=(cs.drop (i0 * sz)).take sz++(cs.drop ((i0+1) * sz)).take (n * sz):=by
   rw [show (n+1) * sz=sz+n * sz by rw [Nat.add_mul];omega,show (i0+1) * sz=i0 * sz+sz by rw [Nat.add_mul];omega, ← List.drop_drop,List.take_add]
  rw [e,List.replicate_succ,List.flatten_cons]
  refine ⟨asl++bs,p1.app q1,ZdA p2 q2, ?_⟩
  intro u hu
  rcases List.mem_append.1 hu with hu | hu
  ·exact p3 u hu
  ·exact q3 u hu
theorem ZiC {ts:List Ty} {sz b:Nat} (hts:ts.length=sz):∀(n o:Nat),(∀i,i<n→∃cs,Opened w ts cs∧cs.length=sz∧∀j u,cs[j]? = some u→w.cell? ⟨b,o+i * sz+j,none⟩=some u)→
  ∃es vs,es.length=n∧(∀e ∈ es,HasTs ts e)∧VRf (mu0 w) [] es vs∧∀j u,vs[j]? = some u→w.cell? ⟨b,o+j,none⟩=some u∧u.oneCell'=true
 | 0,o,h=>⟨[],[],rfl,by simp,rfl,by simp⟩
 | n+1,o,h=>by
  obtain ⟨cs,⟨asl,h1,h2,h3⟩,h4,h5⟩:=h 0 (by omega)
  obtain ⟨es,vs,k1,k2,k3,k4⟩:=ZiC hts n (o+sz) (fun i hi=>by
   obtain ⟨cs',q1,q2,q3⟩:=h (i+1) (by omega)
   refine ⟨cs',q1,q2,fun j u hu => ?_⟩
   rw [← q3 j u hu]
   congr 2
   rw [Nat.add_mul];omega)
  refine ⟨asl::es,cs++vs,by simp [k1], ?_, ?_, ?_⟩
  ·intro e he
   rcases List.mem_cons.1 he with rfl | he
   ·exact h1
   ·exact k2 e he
  ·simp only [VRf];exact ⟨cs,vs,rfl,h2,k3⟩
  ·intro j u hj
   by_cases hlt:j<cs.length
   ·rw [List.getElem?_append_left hlt] at hj
    have:=h5 j u hj
    exact ⟨by simpa using this,h3 u (List.mem_of_getElem? hj)⟩
   ·rw [List.getElem?_append_right (by omega)] at hj
    have:=k4 _ _ hj
    rw [show o+sz+(j-cs.length)=o+j by omega] at this
    exact this
theorem Zwn {a:Addr} {v:Value} (h:w.cell? a=some v):a.block<w.heap.size:=by
 rcases Nat.lt_or_ge a.block w.heap.size with h1 | h1
 ·exact h1
 ·have:w.heap[a.block]? = none:=by simpa using h1
  simp [World.cell?,this] at h
theorem ZbV:∀(fuel n:Nat) (t:TypeId) (ts:List Ty) (cs:List Value) (x:DataW H × List MemPlace),tyOf P n t=some ts→DataW.trod enc P w base spare held fuel t cs=some x→Opened w ts cs
 | 0,n,t,ts,cs,x,_,h=>by simp [DataW.trod] at h
 | fuel+1,0,t,ts,cs,x,h0,_=>by simp [tyOf] at h0
 | fuel+1,n+1,t,ts,cs,x,h0,h=>by
  unfold tyOf at h0
  cases hu:P.underlying t with
  | none=>rw [hu] at h0;simp at h0
  | some T=>
   rw [hu] at h0
   cases T with
   | bool=>
    simp only [Option.some.injEq] at h0
    subst h0
    obtain ⟨b,rfl,_⟩:=DataW.trod_bool hu h
    exact Z6B (a := .s (.bool b)) (by simp [HasT]) (by simp [VR,gv]) rfl
   | int k=>
    simp only [Option.some.injEq] at h0
    subst h0
    obtain ⟨m,rfl,_,hw⟩:=DataW.trod_int hu h
    exact Z6B (a := .s (.int k m)) (by simp [HasT,hw]) (by simp [VR,gv]) rfl
   | string=>
    simp only [Option.some.injEq] at h0
    subst h0
    obtain ⟨s,rfl,_,hs⟩:=DataW.trod_string hu h
    exact Z6B (a := .s (.string s)) (by simp [HasT,hs]) (by simp [VR,gv]) rfl
   | slice e=>
    simp only at h0
    cases he:tyOf P n e with
    | none=>rw [he] at h0;simp at h0
    | some l=>
     rw [he] at h0
     simp only at h0
     split at h0
     ·rename_i hl
      simp only [Option.some.injEq] at h0
      subst h0
      rcases DataW.trod_slice hu h with ⟨rfl,_⟩ | ⟨a,len,cap,elems,rest,m,hm,rfl,_,hb,h1,h2,h3,h4,_,_⟩
      ·refine Z6B (a := .lst l.length true []) ?_ ?_ rfl
       ·simp only [HasT];exact ⟨true,[],rfl,fun _=>rfl,by simp,by simp⟩
       ·simp only [VR]
        exact ⟨none,0,rfl,by simp,by simp,rfl,fun _=>rfl,by simp,by simp⟩
      ·have hm':m=fuel:=by omega
       subst hm'
       have cell:∀i,i<len→∃cs,Opened w l cs∧cs.length=P.cellsOf e∧∀j,j<P.cellsOf e→w.cell? ((a.add (i * P.cellsOf e)).add j)=cs[j]? := by
        intro i hi
        have hi':=h4 i hi
        rw [List.getElem?_eq_getElem (by omega),Option.bind_eq_some_iff] at hi'
        obtain ⟨cs,q1,q2⟩:=hi'
        have q3:=World.cells?_some q1
        exact ⟨cs,ZbV m n e l cs _ he q2,q3.2.1,q3.2.2⟩
       obtain ⟨b,off,spot⟩:=a
       have hsp:len≠0→spot=none:=fun hn=>by
        obtain ⟨cs,_,q2,q3⟩:=cell 0 (by omega)
        have q4:=q3 0 (by omega)
        rw [List.getElem?_eq_getElem (by omega)] at q4
        simpa [Addr.add] using World.cell?_spot q4
       by_cases hn:len=0
       ·subst hn
        refine Z6B (a := .lst l.length false []) ?_ ?_ rfl
        ·simp only [HasT];exact ⟨false,[],rfl,fun _=>rfl,by simp,by simp⟩
        ·simp only [VR]
         exact ⟨_,cap,rfl,by simp,h2,rfl,by simp,by simp,by simp⟩
       ·have hs:=hsp hn
        subst hs
        obtain ⟨es,vs,k1,k2,k3,k4⟩:=ZiC (w:=w) (ts:=l) (sz:=P.cellsOf e) (b:=b) hl.1 len off (fun i hi=>by
         obtain ⟨cs,q1,q2,q3⟩:=cell i hi
         refine ⟨cs,q1,q2,fun j u hj => ?_⟩
         have hjl:=(List.getElem?_eq_some_iff.1 hj).1
         have:=q3 j (by omega)
         rw [hj] at this
         rw [← this,Go.WideShapes.add_plain,Go.WideShapes.add_plain])
        refine Z6B (a := .lst l.length false es) ?_ ?_ rfl
        ·simp only [HasT];exact ⟨false,es,rfl,by simp,by omega,k2⟩
        ·simp only [VR]
         refine ⟨_,cap,by rw [k1],by omega,h2,rfl,by simp,fun e' he'=>⟨(k2 e' he').len,(k2 e' he').ok⟩,fun _=>⟨b,off,vs,rfl, ?_,k3,k4⟩⟩
         obtain ⟨cs,q1,q2,q3⟩:=cell 0 (by omega)
         have q4:=q3 0 (by omega)
         rw [List.getElem?_eq_getElem (by omega)] at q4
         show b<w.heap.size
         rw [Go.WideShapes.add_plain,Go.WideShapes.add_plain] at q4
         exact Zwn q4
     ·simp at h0
   | struct fs=>
    simp only at h0
    cases he:tyFs (tyOf P n) P.cellsOf fs.toList 0 with
    | none=>rw [he] at h0;simp at h0
    | some l=>
     rw [he] at h0
     simp only at h0
     split at h0
     ·rename_i hl
      simp only [Option.some.injEq] at h0
      subst h0
      obtain ⟨xs,m,hm,_,h2,h3,h4⟩:=DataW.trod_struct hu h
      have hm':m=fuel:=by omega
      subst hm'
      have:=ZiA (w:=w) (P:=P) (f:=tyOf P n) (g:=fun t cs'=>∃y,DataW.trod enc P w base spare held m t cs'=some y) (cs:=cs) (fun t ts cs' q1 ⟨y,q2⟩=>ZbV m n t ts cs' y q1 q2) fs.toList 0 l he (fun y hy=>by
       obtain ⟨i,hi⟩:=List.getElem?_of_mem hy
       have hi2:fs[i]? = some y:=by simpa using hi
       have:=h4 i y hi2
       have hlt:i<xs.length:=by rw [h3];exact (Array.getElem?_eq_some_iff.1 hi2).1
       rw [List.getElem?_eq_getElem hlt] at this
       exact ⟨_,this⟩)
      rw [List.drop_zero,hl, ← h2,List.take_length] at this
      exact this
     ·simp at h0
   | array k e=>
    simp only at h0
    cases he:tyOf P n e with
    | none=>rw [he] at h0;simp at h0
    | some l=>
     rw [he] at h0
     simp only at h0
     split at h0
     ·rename_i hl
      simp only [Option.some.injEq] at h0
      subst h0
      obtain ⟨xs,m,hm,_,h2,h3,h4⟩:=DataW.trod_array hu h
      have hm':m=fuel:=by omega
      subst hm'
      have:=ZiB (w:=w) (ts:=l) (sz:=P.cellsOf e) (cs:=cs) k 0 (fun i hi=>by
       have h5:=h4 i hi
       rw [List.getElem?_eq_getElem (by omega)] at h5
       have h6:=ZbV m n e l _ _ he h5
       rwa [Nat.zero_add])
      rw [Nat.zero_mul,List.drop_zero,hl.2, ← h2,List.take_length] at this
      exact this
     ·simp at h0
   | _=>simp at h0
theorem open_agg {t:TypeId} {fs:Array Field} {r:Reach} {b:Nat} {v:Value} {d:DataW H} {ps:List MemPlace} {n:Nat} {ts:List Ty} (hu:P.underlying t=some (.struct fs)) (ht:tyOf P n t=some ts) (hval:Value.okWide P w r b t v)
  (hd:DataW.Trod enc P w base spare held t v d ps):∃asl,HasTs ts asl∧VR (mu0 w) [] (.agg asl) v:=by
 obtain ⟨cs,rfl,_⟩:=WideShapes.okWide_struct hu hval
 obtain ⟨fuel,hf⟩:=hd
 obtain ⟨asl,h1,h2,_⟩:=ZbV fuel n t ts _ _ ht hf
 exact ⟨asl,h1,by simp only [VR];exact ⟨cs,rfl,h2⟩⟩
end
theorem ZiD {α:Type} {ts:List Ty} {f:α→List AV} (hf:∀cs,HasTs ts cs→∃x,cs=f x) {a:AV} (h:HasT (.sl ts) a):∃(l:List α) (b:Bool),a = .lst ts.length (b&&l.isEmpty) (l.map f):=by
 simp only [HasT] at h
 obtain ⟨nil,es,rfl,hn,hm,he⟩:=h
 have:∃l:List α,es=l.map f:=by
  clear hn hm
  induction es with
  | nil=>exact ⟨[],rfl⟩
  | cons e es ih=>
   obtain ⟨x,hx⟩:=hf e (he e (by simp))
   obtain ⟨l,hl⟩:=ih (fun e' h'=>he e' (by simp [h']))
   exact ⟨x::l,by simp [hx,hl]⟩
 obtain ⟨l,rfl⟩:=this
 refine ⟨l,nil, ?_⟩
 cases nil with
 | false=>rfl
 | true=>
  have:l=[]:=by simpa using hn rfl
  subst this;rfl
end Go.AM


namespace Go.AM
open Go.Proofs
set_option linter.unusedVariables false
set_option linter.unusedSimpArgs false
set_option linter.constructorNameAsVariable false
set_option maxRecDepth 20000
attribute [local congr] Z0j Z0k Z0l Z0m Z0n Z0o Z0p Z0q Z0r Z0s Z0t Z0u Z0v Z0w Z0x Z0y Z0z Z0A Z0B Z0C Z0D Z0E Z0F Z0G Z0H Z0I Z0J
theorem Zwo {cs:List AV} (h:HasTs [.int .i64, .int .i64, .int .i64, .int .i64, .int .i64, .int .i64, .int .i64] cs):∃p:Msg,cs=encM p:=by
 simp only [HasTs,HasT] at h
 obtain ⟨_,_,rfl,⟨a,rfl,_⟩,_,_,rfl,⟨b,rfl,_⟩,_,_,rfl,⟨c,rfl,_⟩,_,_,rfl,⟨d,rfl,_⟩,_,_,rfl,⟨e,rfl,_⟩,_,_,rfl,⟨f,rfl,_⟩,_,_,rfl,⟨g,rfl,_⟩,rfl⟩:=h
 exact ⟨⟨a,b,c,d,e,f,g⟩,rfl⟩
theorem Zwp {cs:List AV} (h:HasTs [.int .i64, .int .i64] cs):∃p:Hrd,cs=encH p:=by
 simp only [HasTs,HasT] at h
 obtain ⟨_,_,rfl,⟨a,rfl,_⟩,_,_,rfl,⟨b,rfl,_⟩,rfl⟩:=h
 exact ⟨⟨a,b⟩,rfl⟩
theorem has_Inbx {cs:List AV} (h:HasTs [.int .i64, .sl [.int .i64, .int .i64], .sl [.int .i64, .int .i64, .int .i64, .int .i64, .int .i64, .int .i64, .int .i64]] cs):∃(i:Inbx) (b1 b2:Bool),cs=cellsI b1 b2 i:=by
 obtain ⟨_,_,rfl,h1,_,_,rfl,h2,_,_,rfl,h3,rfl⟩:=h
 obtain ⟨n,rfl, -⟩:=h1
 obtain ⟨l,b1,rfl⟩:=ZiD (fun _ h=>Zwp h) h2
 obtain ⟨m,b2,rfl⟩:=ZiD (fun _ h=>Zwo h) h3
 exact ⟨⟨n,l,m⟩,b1,b2,rfl⟩
theorem has_EnvI {cs:List AV} (h:HasTs [.int .i64, .int .i64, .int .i64, .int .i64, .int .i64, .int .i64, .int .i64, .int .i64, .int .i64, .int .i64] cs):∃p:Envl,cs=encV p:=by
 simp only [HasTs,HasT] at h
 obtain ⟨_,_,rfl,⟨x,rfl,_⟩,_,_,rfl,⟨y,rfl,_⟩,_,_,rfl,⟨z,rfl,_⟩,_,_,rfl,⟨a,rfl,_⟩,_,_,rfl,⟨b,rfl,_⟩,_,_,rfl,⟨c,rfl,_⟩,_,_,rfl,⟨d,rfl,_⟩,_,_,rfl,⟨e,rfl,_⟩,_,_,rfl,⟨f,rfl,_⟩,_,_,rfl,⟨g,rfl,_⟩,rfl⟩:=h
 exact ⟨⟨x,y,z,⟨a,b,c,d,e,f,g⟩⟩,rfl⟩
theorem Zwq {β:Type} (neq a b:Bool) (h:Hp) (k:Go.AM.K β):eqK Try.prog neq 4 (B a) (B b) h k=k (B (xor neq (a==b))):=by
 have:Try.prog.underlying 4=some .bool:=by kernel_rfl
 simp [eqK,this]
theorem Zwr {β:Type} (v:AV) (h:Hp) (k:AV→Hp→Ent→Option β):effD (some (v,EF [])) h k=k v h ([],[]):=by
 simp [effD,ap,wrOf,EF]
theorem Z6C {β:Type} {shp shr:List Sh} {F:Fun} {args:List AV} {v:AV} (hF:∀h,closedX shp shr F args h=some (v,h)) (hi:idss args=[]) (h:Hp) (k:AV→Hp→Ent→Option β):effD (callE (some (closedXD shp shr F)) args h h.length) h k=k v h ([],[]):=by
 show effD (closedXD shp shr F args h h.length) h k=_
 rw [Z30 (hF h) h.length,hi]
 exact Zwr v h k
theorem Z6D (b1 b2:Bool) (i:Inbx):ids (ib b1 b2 i)=[]:=by simp [ids,idss,SL]
theorem Zws (e:Envl):ids (.agg (encV e))=[]:=by simp [ids,idss,encV,encM]
end Go.AM


namespace Go.AM
open Go.Proofs
set_option linter.unusedVariables false
set_option linter.unusedSimpArgs false
set_option linter.constructorNameAsVariable false
set_option maxRecDepth 20000
attribute [local congr] Z0j Z0k Z0l Z0m Z0n Z0o Z0p Z0q Z0r Z0s Z0t Z0u Z0v Z0w Z0x Z0y Z0z Z0A Z0B Z0C Z0D Z0E Z0F Z0G Z0H Z0I Z0J
theorem Zwt (n:Int) (h:Hp):Z6p [I n] h=some (if isNode n=true then .tup [ib true true ⟨n,[],[]⟩,I 0] else .tup [ib true true ⟨0,[],[]⟩,I 2],h):=by
 have fn:=Z5i n
 have bx:∀k:AV→Hp→Option AV,effK (boxE 3 (.agg zI) ([]:Hp).length) [] k=k (.ptr 0 0 0 1) [.arr 3 [zI] true false]:=fun k=>rfl
 cases q:isNode n with
 | false=>
  refine (Zhr (a0:=I n) (v := .tup [.agg zI,I 2]) rfl ?_ h).trans rfl
  simp -implicitDefEqProofs only [Z6Y,bx,Zhq,Z02,fn,q,Z0g,Bool.not_false,Z00,if_true]
  rfl
 | true=>
  refine (Zhr (a0:=I n) (v := .tup [.agg [I n,nilS,nilS],I 0]) rfl ?_ h).trans rfl
  simp -implicitDefEqProofs only [Z6Y,bx,Zhq,Z02,fn,q,Z0g,Bool.not_true,Z00,Bool.false_eq_true,if_false]
  rfl
structure RTk (c1 c2:Bool) (i:Inbx) (e:Envl) (L:List Hrd) (VM:AV) (h:Hp):Prop where
 g0:h[0]? = some (bxI c1 c2 i)
 g1:h[1]? = some (bxE e)
 g2:h[2]? = some (.arr 3 [zI] true false)
 g3:h[3]? = some (.arr 2 [zH] true false)
 g4:h[4]? = some (.arr 2 [encH ⟨e.frm,e.num⟩] true false)
 g8:h[8]? = some (.arr 2 (L.map encH) true false)
 g11:h[11]? = some (.arr 3 [[I i.node, .sl 2 8 0 L.length L.length false,VM]] true false)
def CVm (h:Hp) (V:AV) (M:List Msg):Prop:=(V = .sl 7 10 0 M.length M.length false∧h[10]? = some (.arr 7 (M.map encM) true false))∨V = .lst 7 false (M.map encM)
section
variable {c1 c2:Bool} {i:Inbx} {e:Envl} {L:List Hrd} {VM:AV} {h:Hp} {M:List Msg}
theorem CVm.cvt (C:CVm h VM M):cvt false h VM=some (.lst 7 false (M.map encM)):=by
 rcases C with ⟨rfl,h1⟩ | rfl
 ·exact Z10 (st:=false) (n:=M.length) (fr:=M.length) (full:=false) h1 (by simp) (by simp) (Z0W fun x=>by simp [encM])
 ·exact Zcx ..
theorem RTk.l01 (R:RTk c1 c2 i e L VM h) (k:Go.AM.K AV):ldK 1 false (.ptr 0 0 1 1) h k=k (SL 2 encH c1 i.heard):=by rw [Z01,R.g0];rfl
theorem RTk.l02 (R:RTk c1 c2 i e L VM h) (k:Go.AM.K AV):ldK 1 false (.ptr 0 0 2 1) h k=k (SL 7 encM c2 i.msgs):=by rw [Z01,R.g0];rfl
theorem RTk.l13 (R:RTk c1 c2 i e L VM h) (k:Go.AM.K AV):ldK 7 true (.ptr 1 0 3 1) h k=k (.agg (encM e.msg)):=by rw [Z01,R.g1];rfl
theorem RTk.l4w (R:RTk c1 c2 i e L VM h) (k:Go.AM.K AV):ldK 2 true (.ptr 4 0 0 1) h k=k (.agg (encH ⟨e.frm,e.num⟩)):=by rw [Z01,R.g4];rfl
theorem RTk.l111 (R:RTk c1 c2 i e L VM h) (k:Go.AM.K AV):ldK 1 false (.ptr 11 0 1 1) h k=k (.sl 2 8 0 L.length L.length false):=by rw [Z01,R.g11];rfl
theorem RTk.l112 (R:RTk c1 c2 i e L VM h) (C:CVm h VM M) (k:Go.AM.K AV):ldK 1 false (.ptr 11 0 2 1) h k=k VM:=by rw [Z01,R.g11];rcases C with ⟨rfl, -⟩ | rfl<;>rfl
theorem RTk.out (R:RTk c1 c2 i e L VM h) (C:CVm h VM M) (fr:Bool):∃h1 h2:Hp,
  (∀(k:AV→Hp→Ent→Option AV),effD (stE 3 (.ptr 2 0 0 1) (.agg [I i.node, .sl 2 8 0 L.length L.length false,VM]) h) h k=k .u h1 ([2],[2])) ∧
  (∀(k:AV→Hp→Ent→Option AV),effD (stE 2 (.ptr 3 0 0 1) (.agg (encH ⟨e.frm,e.num⟩)) h1) h1 k=k .u h2 ([3],[3])) ∧
  (∀k:Go.AM.K AV,ldK 3 true (.ptr 11 0 0 1) h k=k (.agg [I i.node, .sl 2 8 0 L.length L.length false,VM])) ∧
  (∀k:Go.AM.K AV,ldK 3 true (.ptr 2 0 0 1) h2 k=k (.agg [I i.node, .sl 2 8 0 L.length L.length false,VM])) ∧
  (∀k:Go.AM.K AV,ldK 2 true (.ptr 3 0 0 1) h2 k=k (.agg (encH ⟨e.frm,e.num⟩))) ∧
  cvt false h2 (.tup [.agg [I i.node, .sl 2 8 0 L.length L.length false,VM], .agg (encH ⟨e.frm,e.num⟩),B fr,I 0])=some (.tup [.agg [I i.node, .lst 2 false (L.map encH), .lst 7 false (M.map encM)], .agg (encH ⟨e.frm,e.num⟩),B fr,I 0]):=by
 have hs:(∃id n,VM = .sl 7 id 0 n n false)∨∃es,VM = .lst 7 false es:=by
  rcases C with ⟨rfl, -⟩ | rfl
  ·exact .inl ⟨_,_,rfl⟩
  ·exact .inr ⟨_,rfl⟩
 obtain ⟨o,ho⟩:∃o:AObj,o = .arr 3 [[I i.node, .sl 2 8 0 L.length L.length false,VM]] true false:=⟨_,rfl⟩
 have a3:(h.set 2 o)[3]? = some (.arr 2 [zH] true false):=getSetN R.g3 (by omega)
 have C2:CVm ((h.set 2 o).set 3 (.arr 2 [encH ⟨e.frm,e.num⟩] true false)) VM M:=by
  rcases C with ⟨rfl,h1⟩ | rfl
  ·exact .inl ⟨rfl,getSetN (getSetN h1 (by omega)) (by omega)⟩
  ·exact .inr rfl
 have g82:((h.set 2 o).set 3 (.arr 2 [encH ⟨e.frm,e.num⟩] true false))[8]? = some (.arr 2 (L.map encH) true false):=getSetN (getSetN R.g8 (by omega)) (by omega)
 refine ⟨h.set 2 o,(h.set 2 o).set 3 (.arr 2 [encH ⟨e.frm,e.num⟩] true false),fun k => ?_,fun k => ?_,fun k => ?_,fun k => ?_,fun k => ?_, ?_⟩
 ·have:stE 3 (.ptr 2 0 0 1) (.agg [I i.node, .sl 2 8 0 L.length L.length false,VM]) h=some (.u,⟨[(2,o)],[],[2]⟩):=by
   rw [Z0i,R.g2,ho]
   rcases hs with ⟨id,n,rfl⟩ | ⟨es,rfl⟩<;>simp [putAt]
  exact Z0f this k
 ·have:stE 2 (.ptr 3 0 0 1) (.agg (encH ⟨e.frm,e.num⟩)) (h.set 2 o)=some (.u,⟨[(3, .arr 2 [encH ⟨e.frm,e.num⟩] true false)],[],[3]⟩):=by
   rw [Z0i,a3]
   simp [putAt,encH]
  exact Z0f this k
 ·rw [Z01,R.g11];rcases hs with ⟨id,n,rfl⟩ | ⟨es,rfl⟩<;>rfl
 ·have:((h.set 2 o).set 3 (.arr 2 [encH ⟨e.frm,e.num⟩] true false))[2]? = some o:=getSetN (getSelfN R.g2) (by omega)
  rw [Z01,this,ho];rcases hs with ⟨id,n,rfl⟩ | ⟨es,rfl⟩<;>rfl
 ·have:((h.set 2 o).set 3 (.arr 2 [encH ⟨e.frm,e.num⟩] true false))[3]? = some (.arr 2 [encH ⟨e.frm,e.num⟩] true false):=getSelfN a3
  rw [Z01,this];rfl
 ·have cw:cvt false ((h.set 2 o).set 3 (.arr 2 [encH ⟨e.frm,e.num⟩] true false)) (.sl 2 8 0 L.length L.length false)=some (.lst 2 false (L.map encH)):=Z10 (st:=false) (n:=L.length) (fr:=L.length) (full:=false) g82 (by simp) (by simp) (Z0W fun x=>by simp [encH])
  simp only [Z3A,Z2C,Z2B,Z4M,cvt_s,C2.cvt,cw]
  rfl
theorem RT_L7 {x0:AV→AV→AV→AV→AV→AV→Hp→Option AV} {xr:AV→AV→AV→AV→Hp→Option AV} {X Y:Option AV} (R:RTk c1 c2 i e L VM h) (C:CVm h VM M) (hl:i.heard.length<100000) (hx:x0 (.ptr 0 0 0 1) (.ptr 1 0 0 1) (.ptr 2 0 0 1) (.ptr 3 0 0 1) (.ptr 4 0 0 1) (.ptr 11 0 0 1) h=X) (hr:∀h2,(∀k:Go.AM.K AV,ldK 3 true (.ptr 2 0 0 1) h2 k=k (.agg [I i.node, .sl 2 8 0 L.length L.length false,VM]))→(∀k:Go.AM.K AV,ldK 2 true (.ptr 3 0 0 1) h2 k=k (.agg (encH ⟨e.frm,e.num⟩)))→
  cvt false h2 (.tup [.agg [I i.node, .sl 2 8 0 L.length L.length false,VM], .agg (encH ⟨e.frm,e.num⟩),B false,I 0])=some (.tup [.agg [I i.node, .lst 2 false (L.map encH), .lst 7 false (M.map encM)], .agg (encH ⟨e.frm,e.num⟩),B false,I 0])→xr (.ptr 2 0 0 1) (.ptr 3 0 0 1) (B false) (I 0) h2=Y):∀(n k:Nat),k≤i.heard.length→i.heard.length<k+n→
  Z3G Try.prog Z0Q Z0V NN x0 xr n (.ptr 0 0 0 1) (.ptr 1 0 0 1) (.ptr 2 0 0 1) (.ptr 3 0 0 1) (.ptr 4 0 0 1) (.ptr 11 0 0 1) (I k) h=if (i.heard.drop k).contains ⟨e.frm,e.num⟩=true then Y else X:=by
 intro n
 induction n with
 | zero=>intro k h1 h2;omega
 | succ n ih=>
  intro k hk1 hk2
  show Z72 Try.prog Z0Q Z0V NN (Z3G Try.prog Z0Q Z0V NN x0 xr n) x0 xr _ _ _ _ _ _ _ h=_
  have ln:∀k:Go.AM.K AV,lenK (SL 2 encH c1 i.heard) k=k (I i.heard.length):=fun k=>by rw [SL,Z0a,List.length_map]
  rcases Nat.lt_or_ge k i.heard.length with hk | hk
  ·have hlt:((k:Int)<(i.heard.length:Int)):=by omega
   have hw:IntKind.i64.wrap ((k:Int)+1)=((k+1:Nat):Int):=by rw [wrap64 (by omega) (by omega)];omega
   have xa:i.heard[k]? = some i.heard[k]:=List.getElem?_eq_getElem hk
   rw [List.drop_eq_getElem_cons hk]
   have ih':=ih (k+1) hk (by omega)
   generalize i.heard[k]=x at xa
   have ia:∀k':Go.AM.K AV,iaK 2 (SL 2 encH c1 i.heard) (I k) k'=k' (.ep (encH x) 0):=fun k'=>Z0P k rfl xa k'
   have lx:∀k:Go.AM.K AV,ldK 2 true (.ep (encH x) 0) h k=k (.agg (encH x)):=fun k=>rfl
   obtain ⟨h1,h2,o1,o2,o3,o4,o5,o6⟩:=R.out C false
   simp -implicitDefEqProofs only [Z72,Z06,Nat.zero_add,R.l01,ln,Z05,hlt,decide_true,Z00,if_true,ia,lx,R.l4w,Z8A,Bool.false_xor]
   by_cases q:x=⟨e.frm,e.num⟩
   ·have e1:(x==(⟨e.frm,e.num⟩:Hrd))=true:=by simp [q]
    have e2:(x::i.heard.drop (k+1)).contains (⟨e.frm,e.num⟩:Hrd)=true:=by simp [q]
    rw [if_pos e2]
    have dj:disjAll [(1,2)] [(idsOf (.ptr 11 0 0 1),[]),(idsOf (.ptr 4 0 0 1),[]),([2],[2]),([3],[3]),([],[]),([],[])]=true:=rfl
    simp -implicitDefEqProofs only [e1,if_true,o3,o1,o2,dj,cond_true]
    exact hr h2 o4 o5 o6
   ·have e1:(x==(⟨e.frm,e.num⟩:Hrd))=false:=by simp [q]
    have e2:(x::i.heard.drop (k+1)).contains (⟨e.frm,e.num⟩:Hrd)=(i.heard.drop (k+1)).contains ⟨e.frm,e.num⟩:=by
     rw [List.contains_cons]
     have:((⟨e.frm,e.num⟩:Hrd)==x)=false:=by simp [Ne.symm q]
     rw [this,Bool.false_or]
    rw [e2, ← ih']
    simp -implicitDefEqProofs only [e1,Bool.false_eq_true,if_false,Z0M,hw]
  ·have:k=i.heard.length:=by omega
   subst this
   have c3:¬((i.heard.length:Int)<(i.heard.length:Int)):=by omega
   rw [List.drop_length]
   simp -implicitDefEqProofs only [Z72,Z06,Nat.zero_add,R.l01,ln,Z05,c3,decide_false,Z00,Bool.false_eq_true,if_false,hx]
   simp
theorem RT_L6 {x2:AV→AV→AV→AV→AV→AV→AV→Hp→Option AV} (R:RTk c1 c2 i e L VM h) (hl:i.msgs.length<100000):∀(n k:Nat) (b:Bool),k≤i.msgs.length→i.msgs.length<k+n→
  Z3F Try.prog Z0Q Z0V NN x2 n (.ptr 0 0 0 1) (.ptr 1 0 0 1) (.ptr 2 0 0 1) (.ptr 3 0 0 1) (.ptr 4 0 0 1) (.ptr 11 0 0 1) (B b) (I k) h=x2 (.ptr 0 0 0 1) (.ptr 1 0 0 1) (.ptr 2 0 0 1) (.ptr 3 0 0 1) (.ptr 4 0 0 1) (.ptr 11 0 0 1) (B (b||(i.msgs.drop k).contains e.msg)) h:=by
 intro n
 induction n with
 | zero=>intro k b h1 h2;omega
 | succ n ih=>
  intro k b hk1 hk2
  show Z71 Try.prog Z0Q Z0V NN (Z3F Try.prog Z0Q Z0V NN x2 n) x2 _ _ _ _ _ _ _ _ h=_
  have ln:∀k:Go.AM.K AV,lenK (SL 7 encM c2 i.msgs) k=k (I i.msgs.length):=fun k=>by rw [SL,Z0a,List.length_map]
  rcases Nat.lt_or_ge k i.msgs.length with hk | hk
  ·have hlt:((k:Int)<(i.msgs.length:Int)):=by omega
   have hw:IntKind.i64.wrap ((k:Int)+1)=((k+1:Nat):Int):=by rw [wrap64 (by omega) (by omega)];omega
   have xa:i.msgs[k]? = some i.msgs[k]:=List.getElem?_eq_getElem hk
   rw [List.drop_eq_getElem_cons hk]
   have ih':=ih (k+1) (b||(i.msgs[k]==e.msg)) hk (by omega)
   generalize i.msgs[k]=x at xa ih'
   have ia:∀k':Go.AM.K AV,iaK 7 (SL 7 encM c2 i.msgs) (I k) k'=k' (.ep (encM x) 0):=fun k'=>Z0P k rfl xa k'
   have lx:∀k:Go.AM.K AV,ldK 7 true (.ep (encM x) 0) h k=k (.agg (encM x)):=fun k=>rfl
   have e2:(b||(x::i.msgs.drop (k+1)).contains e.msg)=((b||x==e.msg)||(i.msgs.drop (k+1)).contains e.msg):=by
    rw [List.contains_cons,Bool.or_assoc]
    have:(e.msg==x)=(x==e.msg):=by
     by_cases q:x=e.msg
     ·subst q;rfl
     ·have h1:(x==e.msg)=false:=by simp [q]
      have h2:(e.msg==x)=false:=by simp [Ne.symm q]
      rw [h1,h2]
    rw [this]
   rw [e2, ← ih']
   simp -implicitDefEqProofs only [Z71,Z06,Nat.zero_add,R.l02,ln,Z05,hlt,decide_true,Z00,if_true,ia,lx,R.l13,Z4K,Bool.false_xor,Z0h,Z0M,hw]
  ·have:k=i.msgs.length:=by omega
   subst this
   have c3:¬((i.msgs.length:Int)<(i.msgs.length:Int)):=by omega
   rw [List.drop_length]
   simp -implicitDefEqProofs only [Z71,Z06,Nat.zero_add,R.l02,ln,Z05,c3,decide_false,Z00,Bool.false_eq_true,if_false]
   simp
end
end Go.AM


namespace Go.AM
open Go.Proofs
set_option linter.unusedVariables false
set_option linter.unusedSimpArgs false
set_option linter.constructorNameAsVariable false
set_option maxRecDepth 20000
attribute [local congr] Z0j Z0k Z0l Z0m Z0n Z0o Z0p Z0q Z0r Z0s Z0t Z0u Z0v Z0w Z0x Z0y Z0z Z0A Z0B Z0C Z0D Z0E Z0F Z0G Z0H Z0I Z0J
theorem ZiE {A D:List Hrd} {x:Hrd} (h1:∀a ∈ A,ltH a x=true) (h2:∀d ∈ D,ltH x d=true):insH (A++D) x=A++x::D:=by
 have:posH (A++D) x=A.length:=by
  unfold posH
  rw [List.findIdx_append]
  have e1:A.findIdx (fun y => !ltH y x)=A.length:=List.findIdx_eq_length.2 fun a ha=>by simp [h1 a ha]
  rw [e1,if_neg (by omega)]
  cases D with
  | nil=>simp
  | cons d D=>
   have hd:=h2 d (by simp)
   have:ltH d x=false:=by
    cases q:ltH d x with
    | false=>rfl
    | true=>have:=ZbP hd q;rw [ZvK] at this;cases this
   simp [List.findIdx_cons,this]
 unfold insH
 rw [this,List.take_left,List.drop_left]
theorem stElD {β:Type} {W:List Hrd} {id i n:Nat} {h:Hp} {x:Hrd} (hid:h[id]? = some (.arr 2 (W.map encH) true false)) (hn:W.length=n) (hi:i<W.length) (k:AV→Hp→Ent→Option β):effD (stE 2 (.ptr id i 0 n) (.agg (encH x)) h) h k=k .u (h.set id (.arr 2 ((W.set i x).map encH) true false)) ([id],[id]):=by
 have hx:W[i]? = some W[i]:=List.getElem?_eq_getElem hi
 have:stE 2 (.ptr id i 0 n) (.agg (encH x)) h=some (.u,⟨[(id, .arr 2 ((W.map encH).set i (encH x)) true false)],[],[id]⟩):=by
  rw [Z0i,hid]
  simp [hn,hx,putAt,encH]
 rw [Z0f this,List.map_set]
section
variable {c1 c2:Bool} {i:Inbx} {e:Envl} {L:List Hrd} {VM:AV} {h:Hp} {M:List Msg}
theorem RTk.put8 (R:RTk c1 c2 i e L VM h) {W:List Hrd} (hW:W.length=L.length):RTk c1 c2 i e W VM (h.set 8 (.arr 2 (W.map encH) true false)):=
 ⟨getSetN R.g0 (by omega),getSetN R.g1 (by omega),getSetN R.g2 (by omega),getSetN R.g3 (by omega),getSetN R.g4 (by omega),getSelfN R.g8,by rw [hW];exact getSetN R.g11 (by omega)⟩
theorem CVm.put8 (C:CVm h VM M) (o:AObj):CVm (h.set 8 o) VM M:=by
 rcases C with ⟨rfl,h1⟩ | rfl
 ·exact .inl ⟨rfl,getSetN h1 (by omega)⟩
 ·exact .inr rfl
theorem Zwu {x4:AV→AV→AV→AV→Hp→Option AV} {x:Hrd} {Y:Option AV} (hx:∀h,RTk c1 c2 i e (insH L x) VM h→CVm h VM M→x4 (.ptr 2 0 0 1) (.ptr 3 0 0 1) (.ptr 4 0 0 1) (.ptr 11 0 0 1) h=Y) (hs:AscH L) (hn:x ∉ L) (hl:L.length<100000):∀(n:Nat) (A D:List Hrd) (h:Hp),L=A++D→(∀d ∈ D,ltH x d=true)→A.length<n→RTk c1 c2 i e (A++x::D) VM h→CVm h VM M→
  Z3E Try.prog Z0Q Z0V NN x4 n (.ptr 2 0 0 1) (.ptr 3 0 0 1) (.ptr 4 0 0 1) (.ptr 11 0 0 1) (I A.length) h=Y:=by
 intro n
 induction n with
 | zero=>intro A D h _ _ h2;omega
 | succ n ih=>
  intro A D h hL hD hn2 R C
  show Z70 Try.prog Z0Q Z0V NN (Z3E Try.prog Z0Q Z0V NN x4 n) x4 _ _ _ _ _ h=_
  rcases List.eq_nil_or_concat A with rfl | ⟨A',y,rfl⟩
  ·have c:¬(((0:Nat):Int) > 0):=by omega
   simp -implicitDefEqProofs only [Z70,List.length_nil,Z0e,c,decide_false,Z5p,Z00,Bool.false_eq_true,if_false]
   have:insH L x=[]++x::D:=by rw [hL];exact ZiE (by simp) hD
   exact hx h (by rw [this];exact R) C
  ·rw [List.concat_eq_append] at *
   obtain ⟨p,hp⟩:∃p,p=A'.length:=⟨_,rfl⟩
   have hAl:(A'++[y]).length=p+1:=by simp [hp]
   obtain ⟨W,hW⟩:∃W,W=A'++[y]++x::D:=⟨_,rfl⟩
   have hLW:W.length=L.length+1:=by rw [hW,hL];simp;omega
   have hWl:W.length<100002:=by omega
   rw [← hW] at R
   have hpW:p+1<W.length:=by rw [hW];simp;omega
   have wy:W[p]? = some y:=by rw [hW,hp];simp
   have wx:W[p+1]? = some x:=by rw [hW,hp];simp
   rw [hAl]
   have c:(((p+1:Nat):Int) > 0):=by omega
   have hm:IntKind.i64.wrap (((p+1:Nat):Int)-1)=(p:Int):=by rw [wrap64 (by omega) (by omega)];omega
   have ia:∀(m:Nat) (hm:m<W.length) (k':Go.AM.K AV),iaK 2 (.sl 2 8 0 W.length W.length false) (I m) k'=k' (.ptr 8 m 0 W.length):=fun m hm k'=>by
    have e2:((m:Nat):Int)<((W.length:Nat):Int):=by omega
    simp [iaK,e2]
   have ly:∀k':Go.AM.K AV,ldK 2 true (.ptr 8 p 0 W.length) h k'=k' (.agg (encH y)):=fun k'=>ldE (f:=encH) (sz:=2) rfl R.g8 rfl wy k'
   have lx:∀k':Go.AM.K AV,ldK 2 true (.ptr 8 (p+1) 0 W.length) h k'=k' (.agg (encH x)):=fun k'=>ldE (f:=encH) (sz:=2) rfl R.g8 rfl wx k'
   have fb:=Ziw y x
   have hyA:∀a ∈ A',ltH a y=true:=fun a ha=>by
    rw [hL] at hs
    have h1:=List.pairwise_append.1 (List.pairwise_append.1 hs).1
    exact h1.2.2 a ha y (by simp)
   have hxy:x≠y:=fun hh=>hn (by rw [hL,hh];simp)
   simp -implicitDefEqProofs only [Z70,Z0e,c,decide_true,Z06,Nat.zero_add,R.l111,Z31,hm,ia p (by omega),ia (p+1) hpW,ly,lx,Zuz,Z02,fb,Z0N,Z00,Bool.true_and]
   cases q:ltH x y with
   | false=>
    have hyx:ltH y x=true:=by
     cases q2:ltH y x with
     | true=>rfl
     | false=>exact absurd (ZvL q q2) hxy
    simp -implicitDefEqProofs only [Bool.false_eq_true,if_false]
    have:insH L x=W:=by
     rw [hL,hW]
     refine ZiE (fun a ha => ?_) hD
     rcases List.mem_append.1 ha with ha | ha
     ·exact ZbP (hyA a ha) hyx
     ·simp only [List.mem_singleton] at ha;subst ha;exact hyx
    exact hx h (by rw [this];exact R) C
   | true=>
    have s1:∀k':AV→Hp→Ent→Option AV,effD (stE 2 (.ptr 8 p 0 W.length) (.agg (encH x)) h) h k'=k' .u (h.set 8 (.arr 2 ((W.set p x).map encH) true false)) ([8],[8]):=fun k'=>stElD R.g8 rfl (by omega) k'
    have R1:=R.put8 (W:=W.set p x) (by simp)
    have C1:=C.put8 (.arr 2 ((W.set p x).map encH) true false)
    generalize h.set 8 (.arr 2 ((W.set p x).map encH) true false)=h1 at s1 R1 C1
    have s2:∀k':AV→Hp→Ent→Option AV,effD (stE 2 (.ptr 8 (p+1) 0 W.length) (.agg (encH y)) h1) h1 k'=k' .u (h1.set 8 (.arr 2 (((W.set p x).set (p+1) y).map encH) true false)) ([8],[8]):=fun k'=>stElD R1.g8 (by simp) (by simp;omega) k'
    have R2:=R1.put8 (W:=(W.set p x).set (p+1) y) (by simp)
    have C2:=C1.put8 (.arr 2 (((W.set p x).set (p+1) y).map encH) true false)
    have hsw:(W.set p x).set (p+1) y=A'++x::y::D:=by
     rw [hW,hp,List.append_assoc]
     simp [List.set_append]
    generalize h1.set 8 (.arr 2 (((W.set p x).set (p+1) y).map encH) true false)=h2 at s2 R2 C2
    rw [hsw] at R2
    have dj:disjAll [(5,19)] [([],[]),(idsOf (.ptr 11 0 1 1),[]),([],[]),([],[]),([],[]),(idsOf (.ptr 11 0 1 1),[]),([],[]),([],[]),(idsOf (.ptr 11 0 1 1),[]),([],[]),([],[]),(idsOf (.ptr 8 (p+1) 0 W.length),[]),([],[]),(idsOf (.ptr 11 0 1 1),[]),([],[]),([],[]),([],[]),(idsOf (.ptr 8 p 0 W.length),[]),([],[]),([8],[8]),([],[]),([8],[8])]=true:=rfl
    simp -implicitDefEqProofs only [if_true,s1,s2,dj,cond_true]
    have:=ih A' (y::D) h2 (by rw [hL];simp) (fun d hd=>by
     rcases List.mem_cons.1 hd with rfl | hd
     ·exact q
     ·exact hD d hd) (by omega) R2 C2
    rw [← hp] at this
    exact this
theorem Zwv (R:RTk c1 c2 i e L VM h) (C:CVm h VM M):Z6Z Try.prog Z0Q Z0V NN (fun v g=>cvt false g v) (.ptr 2 0 0 1) (.ptr 3 0 0 1) (.ptr 4 0 0 1) (.ptr 11 0 0 1) h=some (.tup [.agg [I i.node, .lst 2 false (L.map encH), .lst 7 false (M.map encM)], .agg (encH ⟨e.frm,e.num⟩),B true,I 0]):=by
 obtain ⟨h1,h2,o1,o2,o3,o4,o5,o6⟩:=R.out C true
 have dj:disjAll [(1,2)] [(idsOf (.ptr 11 0 0 1),[]),(idsOf (.ptr 4 0 0 1),[]),([2],[2]),([3],[3]),([],[]),([],[])]=true:=rfl
 simp -implicitDefEqProofs only [Z6Z,o3,R.l4w,o1,o2,dj,cond_true,o4,o5]
 exact o6
theorem ZiF (R:RTk c1 c2 i e L VM h) (C:CVm h VM M) (h12:12≤h.length) (hs:AscH L) (hn:(⟨e.frm,e.num⟩:Hrd) ∉ L) (hl:L.length<100000):Z4O Try.prog Z0Q Z0V NN (fun v g=>cvt false g v) (.ptr 2 0 0 1) (.ptr 3 0 0 1) (.ptr 4 0 0 1) (.ptr 11 0 0 1) h=some (.tup [.agg [I i.node, .lst 2 false ((insH L ⟨e.frm,e.num⟩).map encH), .lst 7 false (M.map encM)], .agg (encH ⟨e.frm,e.num⟩),B true,I 0]):=by
 obtain ⟨x,hx⟩:∃x:Hrd,x=⟨e.frm,e.num⟩:=⟨_,rfl⟩
 have hs':(∃id n,VM = .sl 7 id 0 n n false)∨∃es,VM = .lst 7 false es:=by
  rcases C with ⟨rfl, -⟩ | rfl
  ·exact .inl ⟨_,_,rfl⟩
  ·exact .inr ⟨_,rfl⟩
 have l4:=R.l4w
 rw [← hx] at l4 hn
 obtain ⟨h1,hh1⟩:∃h1:Hp,h1=h++[AObj.arr 2 [encH x] true false]:=⟨_,rfl⟩
 have bs:∀k:AV→Hp→Option AV,effK (bsE 2 zH 1 [(0, .agg (encH x))] h.length) h k=k (.sl 2 h.length 0 1 1 true) h1:=fun k=>by rw [hh1];simp [bsE,fillS,encH,effK,ap]
 have g1:h1[h.length]? = some (.arr 2 [encH x] true false):=by rw [hh1,Z0S];rfl
 have R1:RTk c1 c2 i e L VM h1:=by rw [hh1];exact ⟨Z09 R.g0,Z09 R.g1,Z09 R.g2,Z09 R.g3,Z09 R.g4,Z09 R.g8,Z09 R.g11⟩
 have C1:CVm h1 VM M:=by
  rcases C with ⟨rfl,q⟩ | rfl
  ·exact .inl ⟨rfl,by rw [hh1];exact Z09 q⟩
  ·exact .inr rfl
 have rd:readSl h1 (.sl 2 h.length 0 1 1 true)=some [encH x]:=by unfold readSl;simp [g1]
 have ha:appE 2 16 (.sl 2 8 0 L.length L.length false) (.sl 2 h.length 0 1 1 true) h1 h1.length=some (.sl 2 8 0 (L++[x]).length (L++[x]).length false,⟨[(8, .arr 2 ((L++[x]).map encH) true false)],[],[8,h.length]⟩):=by
  unfold appE
  rw [rd]
  simp only [R1.g8,List.length_map,List.length_singleton]
  rw [if_pos ⟨trivial,trivial,by omega,by simp [encH]⟩,if_neg (by simp),if_pos (by simp)]
  simp [idsOf]
 have ap:∀k:AV→Hp→Option AV,effK (appE 2 16 (.sl 2 8 0 L.length L.length false) (.sl 2 h.length 0 1 1 true) h1 h1.length) h1 k=k (.sl 2 8 0 (L++[x]).length (L++[x]).length false) (h1.set 8 (.arr 2 ((L++[x]).map encH) true false)):=fun k=>Z0d ha k
 obtain ⟨h2,hh2⟩:∃h2:Hp,h2=h1.set 8 (.arr 2 ((L++[x]).map encH) true false):=⟨_,rfl⟩
 rw [← hh2] at ap
 obtain ⟨o,ho⟩:∃o:AObj,o = .arr 3 [[I i.node, .sl 2 8 0 (L++[x]).length (L++[x]).length false,VM]] true false:=⟨_,rfl⟩
 have g11:h2[11]? = some (.arr 3 [[I i.node, .sl 2 8 0 L.length L.length false,VM]] true false):=by rw [hh2];exact getSetN R1.g11 (by omega)
 have s11:∀k:AV→Hp→Option AV,effK (stE 1 (.ptr 11 0 1 1) (.sl 2 8 0 (L++[x]).length (L++[x]).length false) h2) h2 k=k .u (h2.set 11 o):=fun k=>by
  have:stE 1 (.ptr 11 0 1 1) (.sl 2 8 0 (L++[x]).length (L++[x]).length false) h2=some (.u,⟨[(11,o)],[],[11]⟩):=by
   rw [Z0i,g11,ho]
   simp [putAt]
  rw [Z0d this]
 have R2:RTk c1 c2 i e (L++x::[]) VM (h2.set 11 o):=by
  refine ⟨getSetN ?_ (by omega),getSetN ?_ (by omega),getSetN ?_ (by omega),getSetN ?_ (by omega),getSetN ?_ (by omega),getSetN ?_ (by omega), ?_⟩
  ·rw [hh2];exact getSetN R1.g0 (by omega)
  ·rw [hh2];exact getSetN R1.g1 (by omega)
  ·rw [hh2];exact getSetN R1.g2 (by omega)
  ·rw [hh2];exact getSetN R1.g3 (by omega)
  ·rw [hh2];exact getSetN R1.g4 (by omega)
  ·rw [hh2];exact getSelfN R1.g8
  ·rw [getSelfN g11,ho]
 have C2:CVm (h2.set 11 o) VM M:=by
  rcases C1 with ⟨rfl,q⟩ | rfl
  ·exact .inl ⟨rfl,getSetN (by rw [hh2];exact getSetN q (by omega)) (by omega)⟩
  ·exact .inr rfl
 have hm:IntKind.i64.wrap (((L++[x]).length:Int)-1)=(L.length:Int):=by
  have:(L++[x]).length=L.length+1:=by simp
  rw [wrap64 (by omega) (by omega)];omega
 have ln:∀k:Go.AM.K AV,lenK (.sl 2 8 0 (L++[x]).length (L++[x]).length false) k=k (I (L++[x]).length):=fun k=>rfl
 rw [← hx]
 simp -implicitDefEqProofs only [Z4O,Z06,Nat.zero_add,R.l111,l4,bs,ap,s11,R2.l111,ln,Z31,hm]
 exact Zwu (x:=x) (hx:=fun h R C=>by rw [Zwv R C,hx]) hs hn hl NN L [] _ (by simp) (by simp) (by have:=NN_ge;omega) R2 C2
end
end Go.AM


namespace Go.AM
open Go.Proofs
set_option linter.unusedVariables false
set_option linter.unusedSimpArgs false
set_option linter.constructorNameAsVariable false
set_option maxRecDepth 20000
attribute [local congr] Z0j Z0k Z0l Z0m Z0n Z0o Z0p Z0q Z0r Z0s Z0t Z0u Z0v Z0w Z0x Z0y Z0z Z0A Z0B Z0C Z0D Z0E Z0F Z0G Z0H Z0I Z0J
end Go.AM


namespace Go.AM
open Go.Proofs
set_option linter.unusedVariables false
set_option linter.unusedSimpArgs false
set_option linter.constructorNameAsVariable false
set_option maxRecDepth 20000
attribute [local congr] Z0j Z0k Z0l Z0m Z0n Z0o Z0p Z0q Z0r Z0s Z0t Z0u Z0v Z0w Z0x Z0y Z0z Z0A Z0B Z0C Z0D Z0E Z0F Z0G Z0H Z0I Z0J
theorem Zww (e:Envl) (h:Hp):Z8x [.agg (encV e)] h=some (I (formE e),h):=by
 refine Zuu (by simp [encV]) ?_ h
 have bx:∀k:AV→Hp→Option AV,effK (boxE 10 (.agg (encV e)) ([]:Hp).length) [] k=k (.ptr 0 0 0 1) [.arr 10 [encV e] true false]:=fun k=>Z3e 10 0 (.agg (encV e)) [] k rfl rfl rfl
 have m0:∀k:Go.AM.K AV,ldK 1 false (.ptr 0 0 0 1) [.arr 10 [encV e] true false] k=k (I e.frm):=fun k=>rfl
 have m1:∀k:Go.AM.K AV,ldK 1 false (.ptr 0 0 1 1) [.arr 10 [encV e] true false] k=k (I e.to):=fun k=>rfl
 have m2:∀k:Go.AM.K AV,ldK 1 false (.ptr 0 0 2 1) [.arr 10 [encV e] true false] k=k (I e.num):=fun k=>rfl
 have m3:∀k:Go.AM.K AV,ldK 7 true (.ptr 0 0 3 1) [.arr 10 [encV e] true false] k=k (.agg (encM e.msg)):=fun k=>rfl
 have n1:=Z5i e.frm
 have n2:=Z5i e.to
 have fc:=ZhI e.msg
 have hr:(((!isNode e.frm || !isNode e.to)||decide (e.num<1))||decide (e.num > 1073741824))=rangeE e:=by
  unfold isNode rangeE
  rw [Bool.eq_iff_iff]
  simp only [Bool.or_eq_true,Bool.not_eq_true',Bool.and_eq_false_iff,decide_eq_true_eq,decide_eq_false_iff_not]
  omega
 simp -implicitDefEqProofs only [Z9p,bx,Z06,Nat.zero_add,m0,m1,m2,m3,Zup,Zuq,Z02,n1,n2,fc,Z0g,Z0h,Z05,Z0e,hr,Z00,Z04,Bool.false_xor,Bool.true_xor]
 unfold formE
 cases rangeE e with
 | true=>rfl
 | false=>
  by_cases q1:e.frm=e.to
  ·simp [q1]
  ·by_cases q2:checkM e.msg=0<;>simp [q1,q2]
end Go.AM


namespace Go.AM
open Go.Proofs
set_option linter.unusedVariables false
set_option linter.unusedSimpArgs false
set_option linter.constructorNameAsVariable false
set_option maxRecDepth 20000
attribute [local congr] Z0j Z0k Z0l Z0m Z0n Z0o Z0p Z0q Z0r Z0s Z0t Z0u Z0v Z0w Z0x Z0y Z0z Z0A Z0B Z0C Z0D Z0E Z0F Z0G Z0H Z0I Z0J
theorem Zwx (l:List Msg) (hl:l.length<1000) (h0:errM l=0) {h:Hp} {v:AV} {b:Bool} (hv:cvts false h [v]=some [.lst 7 b (l.map encM)]):Z3t [v] h=some (.tup [.lst 7 false ((normL l).map encM),I 0],h):=by
 have f1:Z5b [v] h=some (I (errM l),h):=by
  refine ZtM hv fun st => ?_
  simp only [nrm,nrmC]
  by_cases h1:64<l.length
  ·have c1:((64:Int)<(l.length:Int)):=by omega
   cases st<;>simp [Z3i,c1,errM,h1]
  ·have c1:¬((64:Int)<(l.length:Int)):=by omega
   have:=Ziq (T:=Z39) (D:=Z3r) (N:=NN) (x0:=fun h=>Z7s Try.prog Z39 Z3r NN (fun v g=>cvt st g v) h) (xr:=fun w12_2 h=>cvt st h w12_2) (l:=l) (b:=b) (h:=[]) Zhw (by omega) rfl NN [] l rfl (by have:=NN_ge;omega)
   simp -implicitDefEqProofs only [Z3i,Z0a,List.length_map,Z0e,c1,decide_false,Z00,Bool.false_eq_true,if_false,errM,h1]
   exact this.trans rfl
 have f2:Z5d [v] h=some (.lst 7 false ((normL l).map encM),h):=by
  refine (ZtY (v := .lst 7 false ((normL l).map encM)) hv fun st => ?_).trans rfl
  simp only [nrm,nrmC]
  have bs:∀k:AV→Hp→Option AV,effK (bsE 7 zM 0 [] ([]:Hp).length) [] k=k (.sl 7 0 0 0 0 true) [.arr 7 [] true false]:=fun k=>by simp [bsE,fillS,effK,ap]
  simp -implicitDefEqProofs only [Z4U,bs]
  refine Zir (T:=Z3a) (D:=Z3s) (N:=NN) (x0:=fun w50_3 h=>Z7u Try.prog Z3a Z3s NN (fun v g=>cvt st g v) w50_3 h) (X:=some (AV.lst 7 false ((normL l).map encM))) rfl NN_ge hl ?_ NN [] l [] (.sl 7 0 0 0 0 true) [.arr 7 [] true false] rfl (by have:=NN_ge;omega) (by simp) (by simp) (by simp) ⟨0,true,rfl,rfl,fun _=>rfl⟩
  intro v h O
  exact O.cvt (fun x st=>by cases st<;>simp [encM,isS]) st
 rw [Zu1]
 simp -implicitDefEqProofs only [Z5w,Zhz,ZhA,Z02,f1,f2,Z04,h0,Bool.true_xor,beq_self_eq_true,Bool.not_true,Z00,Bool.false_eq_true,if_false]
set_option maxHeartbeats 4000000 in
theorem Zwy (c1 c2:Bool) (i:Inbx) (e:Envl) (hl:i.heard.length<1000) (hm:i.msgs.length<1000) (h:Hp):∃b1 b2,Z4H [ib c1 c2 i, .agg (encV e)] h=some (takeV b1 b2 (takeI i e),h):=by
 obtain ⟨H0,hH0⟩:∃H0:Hp,H0=[bxI c1 c2 i,bxE e, .arr 3 [zI] true false, .arr 2 [zH] true false]:=⟨_,rfl⟩
 have x0:∀k:AV→Hp→Option AV,effK (boxE 3 (ib c1 c2 i) ([]:Hp).length) [] k=k (.ptr 0 0 0 1) [bxI c1 c2 i]:=fun k=>rfl
 have x1:∀k:AV→Hp→Option AV,effK (boxE 10 (.agg (encV e)) ([bxI c1 c2 i]:Hp).length) [bxI c1 c2 i] k=k (.ptr 1 0 0 1) [bxI c1 c2 i,bxE e]:=fun k=>rfl
 have x2:∀k:AV→Hp→Option AV,effK (boxE 3 (.agg zI) ([bxI c1 c2 i,bxE e]:Hp).length) [bxI c1 c2 i,bxE e] k=k (.ptr 2 0 0 1) [bxI c1 c2 i,bxE e, .arr 3 [zI] true false]:=fun k=>rfl
 have x3:∀k:AV→Hp→Option AV,effK (boxE 2 (.agg zH) ([bxI c1 c2 i,bxE e, .arr 3 [zI] true false]:Hp).length) [bxI c1 c2 i,bxE e, .arr 3 [zI] true false] k=k (.ptr 3 0 0 1) H0:=fun k=>by rw [hH0];rfl
 have lw:∀k:Go.AM.K AV,ldK 3 true (.ptr 0 0 0 1) H0 k=k (ib c1 c2 i):=fun k=>by rw [hH0];rfl
 have le:∀k:Go.AM.K AV,ldK 10 true (.ptr 1 0 0 1) H0 k=k (.agg (encV e)):=fun k=>by rw [hH0];rfl
 have e0:∀k:Go.AM.K AV,ldK 1 false (.ptr 1 0 0 1) H0 k=k (I e.frm):=fun k=>by rw [hH0];rfl
 have e1:∀k:Go.AM.K AV,ldK 1 false (.ptr 1 0 1 1) H0 k=k (I e.to):=fun k=>by rw [hH0];rfl
 have e2:∀k:Go.AM.K AV,ldK 1 false (.ptr 1 0 2 1) H0 k=k (I e.num):=fun k=>by rw [hH0];rfl
 have i0:∀k:Go.AM.K AV,ldK 1 false (.ptr 0 0 0 1) H0 k=k (I i.node):=fun k=>by rw [hH0];rfl
 have bI:∀k:Go.AM.K AV,buildK zI [] k=k (.agg zI):=fun k=>rfl
 have bH:∀k:Go.AM.K AV,buildK zH [] k=k (.agg zH):=fun k=>rfl
 have s2:∀k:AV→Hp→Option AV,effK (stE 3 (.ptr 2 0 0 1) (.agg zI) H0) H0 k=k .u H0:=fun k=>by rw [hH0];rfl
 have s3:∀k:AV→Hp→Option AV,effK (stE 2 (.ptr 3 0 0 1) (.agg zH) H0) H0 k=k .u H0:=fun k=>by rw [hH0];rfl
 have r2:∀k:Go.AM.K AV,ldK 3 true (.ptr 2 0 0 1) H0 k=k (.agg zI):=fun k=>by rw [hH0];rfl
 have r3:∀k:Go.AM.K AV,ldK 2 true (.ptr 3 0 0 1) H0 k=k (.agg zH):=fun k=>by rw [hH0];rfl
 have fC:=Ziz c1 c2 i (by omega) hm
 have fF:=Zww e
 have hnr:nrm (.a [none,some 2,some 7]) (ib c1 c2 i)=ib c1 c2 i:=rfl
 have hpl:plains [ib c1 c2 i, .agg (encV e)]=true:=rfl
 have fail:∀(E:Int),nrmR [.a [none,some 2,some 7], .o, .o, .o] (.tup [.agg zI, .agg zH,B false,I E])=takeV true true (⟨0,[],[]⟩,⟨0,0⟩,false,E):=fun E=>rfl
 unfold takeI
 by_cases z:chkI i=0
 ·have ez:(chkI i==0)=true:=by simp [z]
  rw [if_neg (show ¬chkI i≠0 from fun hh=>hh z)]
  obtain ⟨k1,k2,k3,k4,k5,k6,k7⟩:=Zdx z
  obtain ⟨hasc, -, -⟩:=ZbR k4
  by_cases z2:formE e=0
  ·have ez2:(formE e==0)=true:=by simp [z2]
   rw [if_neg (show ¬formE e≠0 from fun hh=>hh z2)]
   obtain ⟨m1, -⟩:=Zih z2
   by_cases q3:e.to=i.node
   ·have e3:(e.to==i.node)=true:=by simp [q3]
    rw [if_neg (show ¬e.to≠i.node from fun hh=>hh q3)]
    obtain ⟨hd,hhd⟩:∃hd:Hrd,hd=⟨e.frm,e.num⟩:=⟨_,rfl⟩
    have bK:∀k:Go.AM.K AV,buildK zH [(some (0,1),I e.frm),(some (1,1),I e.num)] k=k (.agg (encH ⟨e.frm,e.num⟩)):=fun k=>rfl
    obtain ⟨H1,hH1⟩:∃H1:Hp,H1=H0++[AObj.arr 2 [encH ⟨e.frm,e.num⟩] true false]:=⟨_,rfl⟩
    have x4:∀k:AV→Hp→Option AV,effK (boxE 2 (.agg zH) H0.length) H0 k=k (.ptr 4 0 0 1) (H0++[.arr 2 [zH] true false]):=fun k=>by rw [hH0];rfl
    have s4:∀k:AV→Hp→Option AV,effK (stE 2 (.ptr 4 0 0 1) (.agg (encH ⟨e.frm,e.num⟩)) (H0++[.arr 2 [zH] true false])) (H0++[.arr 2 [zH] true false]) k=k .u H1:=fun k=>by rw [hH1,hH0];rfl
    have lw1:∀k:Go.AM.K AV,ldK 3 true (.ptr 0 0 0 1) H1 k=k (ib c1 c2 i):=fun k=>by rw [hH1,hH0];rfl
    have hl1:H1.length=5:=by rw [hH1,hH0];rfl
    obtain ⟨cp,hcp⟩:∃cp:List AV,cp=[I i.node, .sl 2 8 0 i.heard.length i.heard.length false, .sl 7 10 0 i.msgs.length i.msgs.length false]:=⟨_,rfl⟩
    obtain ⟨H2,hH2⟩:∃H2:Hp,H2=H1++[bxI c1 c2 i, .arr 3 [cp] true false, .arr 2 [] true false, .arr 2 (i.heard.map encH) true false, .arr 7 [] true false, .arr 7 (i.msgs.map encM) true false]:=⟨_,rfl⟩
    have fP:Z38 [ib c1 c2 i] H1=some (.agg cp,H2):=by
     rw [Ziy c1 c2 i (by omega) (by omega) H1,hl1,hH2,hcp]
    have hl2:H2.length=11:=by rw [hH2];simp [hl1]
    obtain ⟨H3,hH3⟩:∃H3:Hp,H3=H2++[AObj.arr 3 [cp] true false]:=⟨_,rfl⟩
    have x5:∀k:AV→Hp→Option AV,effK (boxE 3 (.agg zI) H2.length) H2 k=k (.ptr 11 0 0 1) (H2++[.arr 3 [zI] true false]):=fun k=>by rw [bx3 rfl rfl k,hl2]
    have s5:∀k:AV→Hp→Option AV,effK (stE 3 (.ptr 11 0 0 1) (.agg cp) (H2++[.arr 3 [zI] true false])) (H2++[.arr 3 [zI] true false]) k=k .u H3:=fun k=>by
     have g:(H2++[AObj.arr 3 [zI] true false])[11]? = some (.arr 3 [zI] true false):=by rw [← hl2,Z0S];rfl
     have:stE 3 (.ptr 11 0 0 1) (.agg cp) (H2++[.arr 3 [zI] true false])=some (.u,⟨[(11, .arr 3 [cp] true false)],[],[11]⟩):=by
      rw [Z0i,g,hcp]
      simp [putAt]
     rw [Z0d this,hH3, ← hl2,Z3z]
     rfl
    have R:RTk c1 c2 i e i.heard (.sl 7 10 0 i.msgs.length i.msgs.length false) H3:=by
     rw [hH3,hH2,hH1,hH0,hcp]
     exact ⟨rfl,rfl,rfl,rfl,rfl,rfl,rfl⟩
    have C:CVm H3 (.sl 7 10 0 i.msgs.length i.msgs.length false) i.msgs := .inl ⟨rfl,by rw [hH3,hH2,hH1,hH0];rfl⟩
    have hl3:H3.length=12:=by rw [hH3];simp [hl2]
    have lh:∀k:Go.AM.K AV,lenK (SL 2 encH c1 i.heard) k=k (I i.heard.length):=fun k=>by rw [SL,Z0a,List.length_map]
    have lm:∀k:Go.AM.K AV,lenK (SL 7 encM c2 i.msgs) k=k (I i.msgs.length):=fun k=>by rw [SL,Z0a,List.length_map]
    obtain ⟨K,hK⟩:∃K:AV→Hp→Option AV,K=fun v g=>cvt false g v:=⟨_,rfl⟩
    have hn7:=NN_ge
    have L7:=RT_L7 (x0:=fun w199_2 w199_3 w199_4 w199_5 w199_9 w199_10 h=>Z5t Try.prog Z0Q Z0V NN K w199_2 w199_3 w199_4 w199_5 w199_9 w199_10 h) (xr:=fun w200_4 w200_5 w200_6 w200_7 h=>ldK 3 true w200_4 h fun r201=>ldK 2 true w200_5 h fun r202=>K (.tup [r201,r202,w200_6,w200_7]) h) (Y:=some (.tup [.agg [I i.node, .lst 2 false (i.heard.map encH), .lst 7 false (i.msgs.map encM)], .agg (encH ⟨e.frm,e.num⟩),B false,I 0])) R C (by omega) rfl (fun h2 a1 a2 a3=>by
     simp -implicitDefEqProofs only [a1,a2]
     rw [hK];exact a3) NN 0 (by omega) (by omega)
    rw [List.drop_zero] at L7
    have start:∀v:AV,(if i.heard.contains ⟨e.frm,e.num⟩=true then some (.tup [.agg [I i.node, .lst 2 false (i.heard.map encH), .lst 7 false (i.msgs.map encM)], .agg (encH ⟨e.frm,e.num⟩),B false,I 0]) else Z5t Try.prog Z0Q Z0V NN K (.ptr 0 0 0 1) (.ptr 1 0 0 1) (.ptr 2 0 0 1) (.ptr 3 0 0 1) (.ptr 4 0 0 1) (.ptr 11 0 0 1) H3)=some v→Z4H [ib c1 c2 i, .agg (encV e)] h=some (nrmR [.a [none,some 2,some 7], .o, .o, .o] v,h):=fun v hv=>by
     refine ZbH hpl ?_ h
     rw [hnr, ← hK]
     rw [← L7] at hv
     rw [← hv]
     simp -implicitDefEqProofs only [Z3H,x0,x1,x2,x3,lw,ZbF,Z02,fC,Z04,ez,Bool.true_xor,Bool.not_true,Z00,Bool.false_eq_true,if_false,le,Zdi,fF,ez2,Z06,Nat.zero_add,e0,e1,e2,i0,e3,bK,x4,s4,lw1,Zux,fP,x5,s5]
     rfl
    cases q4:i.heard.contains ⟨e.frm,e.num⟩ with
    | true=>
     rw [if_pos rfl]
     refine ⟨false,false,(start _ (by rw [if_pos q4])).trans rfl⟩
    | false=>
     rw [if_neg (by simp)]
     have hnm:(⟨e.frm,e.num⟩:Hrd) ∉ i.heard:=fun hh=>by
      rw [List.contains_iff_mem.2 hh] at q4;cases q4
     have q4n:¬(i.heard.contains ⟨e.frm,e.num⟩=true):=by rw [q4];simp
     have L6:=RT_L6 (x2:=fun w179_2 w179_3 w179_4 w179_5 w179_9 w179_10 w179_12 h=>Z33 Try.prog Z0Q Z0V NN K w179_2 w179_3 w179_4 w179_5 w179_9 w179_10 w179_12 h) R (by omega) NN 0 false (by omega) (by omega)
     rw [List.drop_zero,Bool.false_or] at L6
     have start2:∀v:AV,Z33 Try.prog Z0Q Z0V NN K (.ptr 0 0 0 1) (.ptr 1 0 0 1) (.ptr 2 0 0 1) (.ptr 3 0 0 1) (.ptr 4 0 0 1) (.ptr 11 0 0 1) (B (i.msgs.contains e.msg)) H3=some v→Z4H [ib c1 c2 i, .agg (encV e)] h=some (nrmR [.a [none,some 2,some 7], .o, .o, .o] v,h):=fun v hv=>by
      refine start v ?_
      rw [if_neg q4n]
      exact L6.trans hv
     by_cases q5:i.heard.length=256∨(i.msgs.contains e.msg=false∧i.msgs.length=64)
     ·rw [if_pos q5]
      refine ⟨true,true,(start2 (.tup [.agg zI, .agg zH,B false,I 12]) ?_).trans (by rw [fail])⟩
      have g5:((i.heard.length:Int)==256||(!i.msgs.contains e.msg&&(i.msgs.length:Int)==64))=true:=by
       rcases q5 with q5 | ⟨q5,q6⟩
       ·simp [q5]
       ·rw [q5,q6];simp
      have t2:∀k:AV→Hp→Option AV,effK (stE 3 (.ptr 2 0 0 1) (.agg zI) H3) H3 k=k .u H3:=fun k=>by
       have:stE 3 (.ptr 2 0 0 1) (.agg zI) H3=some (.u,⟨[(2, .arr 3 [zI] true false)],[],[2]⟩):=by rw [Z0i,R.g2];rfl
       rw [Z0d this,Z11 R.g2]
      have t3:∀k:AV→Hp→Option AV,effK (stE 2 (.ptr 3 0 0 1) (.agg zH) H3) H3 k=k .u H3:=fun k=>by
       have:stE 2 (.ptr 3 0 0 1) (.agg zH) H3=some (.u,⟨[(3, .arr 2 [zH] true false)],[],[3]⟩):=by rw [Z0i,R.g3];rfl
       rw [Z0d this,Z11 R.g3]
      have u2:∀k:Go.AM.K AV,ldK 3 true (.ptr 2 0 0 1) H3 k=k (.agg zI):=fun k=>by rw [Z01,R.g2];rfl
      have u3:∀k:Go.AM.K AV,ldK 2 true (.ptr 3 0 0 1) H3 k=k (.agg zH):=fun k=>by rw [Z01,R.g3];rfl
      simp -implicitDefEqProofs only [Z33,Z06,Nat.zero_add,R.l01,R.l02,lh,lm,Z04,Bool.false_xor,Z0g,Z0N,Z0h,g5,Z00,if_true,bI,bH,t2,t3,u2,u3]
      rw [hK]
      rfl
     ·rw [if_neg q5]
      have g5:((i.heard.length:Int)==256||(!i.msgs.contains e.msg&&(i.msgs.length:Int)==64))=false:=by
       rw [Bool.or_eq_false_iff]
       constructor
       ·rw [beq_eq_false_iff_ne];intro hh;exact q5 (.inl (by omega))
       ·cases hc:i.msgs.contains e.msg with
        | true=>rfl
        | false=>
         simp only [Bool.not_false,Bool.true_and]
         rw [beq_eq_false_iff_ne];intro hh;exact q5 (.inr ⟨hc,by omega⟩)
      have step:Z33 Try.prog Z0Q Z0V NN K (.ptr 0 0 0 1) (.ptr 1 0 0 1) (.ptr 2 0 0 1) (.ptr 3 0 0 1) (.ptr 4 0 0 1) (.ptr 11 0 0 1) (B (i.msgs.contains e.msg)) H3=if i.msgs.contains e.msg=true then Z4O Try.prog Z0Q Z0V NN K (.ptr 2 0 0 1) (.ptr 3 0 0 1) (.ptr 4 0 0 1) (.ptr 11 0 0 1) H3 else some (.tup [.agg [I i.node, .lst 2 false ((insH i.heard ⟨e.frm,e.num⟩).map encH), .lst 7 false ((normL (i.msgs++[e.msg])).map encM)], .agg (encH ⟨e.frm,e.num⟩),B true,I 0]):=by
       cases q6:i.msgs.contains e.msg with
       | true=>
        rw [q6] at g5
        simp only [Bool.not_true] at g5
        simp -implicitDefEqProofs only [Z33,Z06,Nat.zero_add,R.l01,R.l02,lh,lm,Z04,Bool.false_xor,Z0g,Bool.not_true,Z0N,Z0h,g5,Z00,Bool.false_eq_true,if_false,if_true]
       | false=>
        rw [q6] at g5
        simp only [Bool.not_false] at g5
        have hml:i.msgs.length<64:=by
         rcases Nat.lt_or_ge i.msgs.length 64 with hh | hh
         ·exact hh
         ·exact absurd (.inr ⟨q6,by omega⟩) q5
        have hE0:errM (i.msgs++[e.msg])=0:=by
         refine ZbM.2 ⟨by simp;omega,fun m hm => ?_⟩
         rcases List.mem_append.1 hm with hm | hm
         ·exact (ZbM.1 k5).2 m hm
         ·simp only [List.mem_singleton] at hm;subst hm;exact m1
        obtain ⟨H4,hH4⟩:∃H4:Hp,H4=H3++[AObj.arr 7 [encM e.msg] true false]:=⟨_,rfl⟩
        have bm:∀k:AV→Hp→Option AV,effK (bsE 7 [I 0,I 0,I 0,I 0,I 0,I 0,I 0] 1 [(0, .agg (encM e.msg))] H3.length) H3 k=k (.sl 7 H3.length 0 1 1 true) H4:=fun k=>by rw [hH4];simp [bsE,fillS,encM,effK,ap]
        have g4:H4[H3.length]? = some (.arr 7 [encM e.msg] true false):=by rw [hH4,Z0S];rfl
        have g10:H4[10]? = some (.arr 7 (i.msgs.map encM) true false):=by
         rw [hH4]
         rcases C with ⟨-,q⟩ | q
         ·exact Z09 q
         ·cases q
        have R4:RTk c1 c2 i e i.heard (.sl 7 10 0 i.msgs.length i.msgs.length false) H4:=by rw [hH4];exact ⟨Z09 R.g0,Z09 R.g1,Z09 R.g2,Z09 R.g3,Z09 R.g4,Z09 R.g8,Z09 R.g11⟩
        have rd:readSl H4 (.sl 7 H3.length 0 1 1 true)=some [encM e.msg]:=by unfold readSl;simp [g4]
        have ha:appE 7 56 (.sl 7 10 0 i.msgs.length i.msgs.length false) (.sl 7 H3.length 0 1 1 true) H4 H4.length=some (.sl 7 10 0 (i.msgs++[e.msg]).length (i.msgs++[e.msg]).length false,⟨[(10, .arr 7 ((i.msgs++[e.msg]).map encM) true false)],[],[10,H3.length]⟩):=by
         unfold appE
         rw [rd]
         simp only [g10,List.length_map,List.length_singleton]
         rw [if_pos ⟨trivial,trivial,by omega,by simp [encM]⟩,if_neg (by simp),if_pos (by simp)]
         simp [idsOf]
        obtain ⟨H5,hH5⟩:∃H5:Hp,H5=H4.set 10 (.arr 7 ((i.msgs++[e.msg]).map encM) true false):=⟨_,rfl⟩
        have ap:∀k:AV→Hp→Option AV,effK (appE 7 56 (.sl 7 10 0 i.msgs.length i.msgs.length false) (.sl 7 H3.length 0 1 1 true) H4 H4.length) H4 k=k (.sl 7 10 0 (i.msgs++[e.msg]).length (i.msgs++[e.msg]).length false) H5:=fun k=>by rw [hH5];exact Z0d ha k
        have g510:H5[10]? = some (.arr 7 ((i.msgs++[e.msg]).map encM) true false):=by rw [hH5];exact getSelfN g10
        have R5:RTk c1 c2 i e i.heard (.sl 7 10 0 i.msgs.length i.msgs.length false) H5:=by rw [hH5];exact ⟨getSetN R4.g0 (by omega),getSetN R4.g1 (by omega),getSetN R4.g2 (by omega),getSetN R4.g3 (by omega),getSetN R4.g4 (by omega),getSetN R4.g8 (by omega),getSetN R4.g11 (by omega)⟩
        have cw:cvts false H5 [.sl 7 10 0 (i.msgs++[e.msg]).length (i.msgs++[e.msg]).length false]=some [.lst 7 false ((i.msgs++[e.msg]).map encM)]:=by
         simp only [Z2C,Z2B]
         rw [Z10 (st:=false) (n:=(i.msgs++[e.msg]).length) (fr:=(i.msgs++[e.msg]).length) (full:=false) g510 (by simp) (by simp) (Z0W fun x=>by simp [encM])]
        have fN:Z3t [.sl 7 10 0 (i.msgs++[e.msg]).length (i.msgs++[e.msg]).length false] H5=some (.tup [.lst 7 false ((normL (i.msgs++[e.msg])).map encM),I 0],H5):=Zwx (i.msgs++[e.msg]) (by simp;omega) hE0 cw
        have tp:∀(a b:AV) (k:Go.AM.K AV),exK (.tup [a,b]) 0 k=k a:=fun a b k=>rfl
        have tq:∀(a b:AV) (k:Go.AM.K AV),exK (.tup [a,b]) 1 k=k b:=fun a b k=>rfl
        obtain ⟨N,hN⟩:∃N:List Msg,N=normL (i.msgs++[e.msg]):=⟨_,rfl⟩
        rw [← hN] at fN
        obtain ⟨o,ho⟩:∃o:AObj,o = .arr 3 [[I i.node, .sl 2 8 0 i.heard.length i.heard.length false, .lst 7 false (N.map encM)]] true false:=⟨_,rfl⟩
        have s11:∀k:AV→Hp→Option AV,effK (stE 1 (.ptr 11 0 2 1) (.lst 7 false (N.map encM)) H5) H5 k=k .u (H5.set 11 o):=fun k=>by
         have:stE 1 (.ptr 11 0 2 1) (.lst 7 false (N.map encM)) H5=some (.u,⟨[(11,o)],[],[11]⟩):=by
          rw [Z0i,R5.g11,ho]
          simp [putAt]
         rw [Z0d this]
        have R6:RTk c1 c2 i e i.heard (.lst 7 false (N.map encM)) (H5.set 11 o):=⟨getSetN R5.g0 (by omega),getSetN R5.g1 (by omega),getSetN R5.g2 (by omega),getSetN R5.g3 (by omega),getSetN R5.g4 (by omega),getSetN R5.g8 (by omega),by rw [getSelfN R5.g11,ho]⟩
        have C6:CVm (H5.set 11 o) (.lst 7 false (N.map encM)) N := .inr rfl
        have J:=ZiF R6 C6 (by rw [List.length_set,hH5,List.length_set,hH4];simp;omega) hasc hnm (by omega)
        rw [← hK] at J
        have hl02:∀k:Go.AM.K AV,ldK 1 false (.ptr 11 0 2 1) H3 k=k (.sl 7 10 0 i.msgs.length i.msgs.length false):=fun k=>R.l112 C k
        rw [if_neg (by simp), ← hN, ← J]
        simp -implicitDefEqProofs only [Z33,Z06,Nat.zero_add,R.l01,R.l02,lh,lm,Z04,Bool.false_xor,Z0g,Bool.not_false,Z0N,Z0h,g5,Z00,Bool.false_eq_true,if_false,if_true,hl02,R.l13,bm,ap,Zuy,Z02,fN,tp,tq,s11]
      cases q6:i.msgs.contains e.msg with
      | true=>
       refine ⟨false,false,(start2 (.tup [.agg [I i.node, .lst 2 false ((insH i.heard ⟨e.frm,e.num⟩).map encH), .lst 7 false (i.msgs.map encM)], .agg (encH ⟨e.frm,e.num⟩),B true,I 0]) (step.trans ?_)).trans ?_⟩
       ·rw [if_pos q6,hK]
        exact ZiF R C (by omega) hasc hnm (by omega)
       ·rw [if_pos rfl];rfl
      | false=>
       refine ⟨false,false,(start2 _ (step.trans (by rw [q6,if_neg (by simp)]))).trans ?_⟩
       rw [if_neg (by simp)];rfl
   ·have e3:(e.to==i.node)=false:=by simp [q3]
    rw [if_pos (show e.to≠i.node from q3)]
    refine ⟨true,true,(ZbH (v := .tup [.agg zI, .agg zH,B false,I 19]) hpl ?_ h).trans (by rw [fail])⟩
    rw [hnr]
    simp -implicitDefEqProofs only [Z3H,x0,x1,x2,x3,lw,ZbF,Z02,fC,Z04,ez,Bool.true_xor,Bool.not_true,Bool.not_false,Z00,Bool.false_eq_true,if_false,if_true,le,Zdi,fF,ez2,Z06,Nat.zero_add,e1,i0,e3,bI,bH,s2,s3,r2,r3]
    rfl
  ·have ez2:(formE e==0)=false:=by simp [z2]
   rw [if_pos (show formE e≠0 from z2)]
   refine ⟨true,true,(ZbH (v := .tup [.agg zI, .agg zH,B false,I (formE e)]) hpl ?_ h).trans (by rw [fail])⟩
   rw [hnr]
   simp -implicitDefEqProofs only [Z3H,x0,x1,x2,x3,lw,ZbF,Z02,fC,Z04,ez,Bool.true_xor,Bool.not_true,Bool.not_false,Z00,Bool.false_eq_true,if_false,if_true,le,Zdi,fF,ez2,bI,bH,s2,s3,r2,r3]
   rfl
 ·have ez:(chkI i==0)=false:=by simp [z]
  rw [if_pos (show chkI i≠0 from z)]
  refine ⟨true,true,(ZbH (v := .tup [.agg zI, .agg zH,B false,I 1]) hpl ?_ h).trans (by rw [fail])⟩
  rw [hnr]
  simp -implicitDefEqProofs only [Z3H,x0,x1,x2,x3,lw,ZbF,Z02,fC,Z04,ez,Bool.true_xor,Bool.not_false,Z00,if_true,bI,bH,s2,s3,r2,r3]
  rfl
end Go.AM


namespace Go.AM
open Go.Proofs
set_option linter.unusedVariables false
set_option linter.unusedSimpArgs false
set_option linter.constructorNameAsVariable false
set_option maxRecDepth 20000
attribute [local congr] Z0j Z0k Z0l Z0m Z0n Z0o Z0p Z0q Z0r Z0s Z0t Z0u Z0v Z0w Z0x Z0y Z0z Z0A Z0B Z0C Z0D Z0E Z0F Z0G Z0H Z0I Z0J
theorem ZiG {shp shr:List Sh} {F:Fun} {args:List AV} {v:AV} {h h1:Hp} (ha:plains args=true) (hF:closedX shp shr F args h=some (v,h1)) (h':Hp):closedX shp shr F args h'=some (v,h'):=by
 unfold closedX at hF ⊢
 rw [Z3w ha] at hF ⊢
 dsimp only at hF ⊢
 cases q:F (nrms shp args) [] with
 | none=>rw [q] at hF;cases hF
 | some p=>
  rw [q] at hF
  dsimp only at hF ⊢
  cases q2:cvt (!plains args) p.2 p.1 with
  | none=>rw [q2] at hF;cases hF
  | some w=>
   rw [q2] at hF
   injection hF with hF
   injection hF with h1 h2
   rw [← h1]
set_option maxHeartbeats 4000000 in
theorem takes_law (i:Inbx) (c1 c2:Bool) (e:Envl):Zdk [.agg (cellsI c1 c2 i), .agg (encV e)] []=some (B true,[]):=by
 refine ZuT (a0:=ib c1 c2 i) (a1 := .agg (encV e)) rfl ?_ []
 rw [show nrm (.a [none,some 2,some 7]) (ib c1 c2 i)=ib c1 c2 i from rfl]
 obtain ⟨H,hH⟩:∃H:Hp,H=[bxI c1 c2 i,bxE e]:=⟨_,rfl⟩
 have x0:∀k:AV→Hp→Option AV,effK (boxE 3 (ib c1 c2 i) ([]:Hp).length) [] k=k (.ptr 0 0 0 1) [bxI c1 c2 i]:=fun k=>rfl
 have x1:∀k:AV→Hp→Option AV,effK (boxE 10 (.agg (encV e)) ([bxI c1 c2 i]:Hp).length) [bxI c1 c2 i] k=k (.ptr 1 0 0 1) H:=fun k=>by rw [hH];rfl
 have la:∀k:Go.AM.K AV,ldK 3 true (.ptr 0 0 0 1) H k=k (ib c1 c2 i):=fun k=>by rw [hH];rfl
 have le:∀k:Go.AM.K AV,ldK 1 false (.ptr 1 0 1 1) H k=k (I e.to):=fun k=>by rw [hH];rfl
 have fw:=Zw4
 have f1:=Zwh c1 c2 i
 simp -implicitDefEqProofs only [Z8Y,x0,x1,ZuM,ZuN,Z02,fw,Z0g,Bool.not_true,Z00,Bool.false_eq_true,if_false,la,f1]
 cases q:fewI i with
 | false=>
  simp -implicitDefEqProofs only [Bool.not_false,if_true]
  rfl
 | true=>
  obtain ⟨a3,a4⟩:=Zwi q
  obtain ⟨A,f,hA1,hA2,hA3⟩:∃(A:Inbx) (f:Int),A.heard.length=0∧A.msgs.length=0∧(if isNode e.to=true then AV.tup [ib true true ⟨e.to,[],[]⟩,I 0] else .tup [ib true true ⟨0,[],[]⟩,I 2]) = .tup [ib true true A,I f]:=by
   cases isNode e.to with
   | true=>exact ⟨_,_,rfl,rfl,rfl⟩
   | false=>exact ⟨_,_,rfl,rfl,rfl⟩
  have n1:∀h,Z3j [I e.to] h=some (.tup [ib true true A,I f],h):=fun h=>by rw [Zin,hA3]
  have n2:∀h,Z6p [I e.to] h=some (.tup [ib true true A,I f],h):=fun h=>by rw [Zwt,hA3]
  have tp:∀(a b:AV) (k:Go.AM.K AV),exK (.tup [a,b]) 0 k=k a:=fun a b k=>rfl
  have tq:∀(a b:AV) (k:Go.AM.K AV),exK (.tup [a,b]) 1 k=k b:=fun a b k=>rfl
  have u0:∀(a b c d:AV) (k:Go.AM.K AV),exK (.tup [a,b,c,d]) 0 k=k a:=fun a b c d k=>rfl
  have u1:∀(a b c d:AV) (k:Go.AM.K AV),exK (.tup [a,b,c,d]) 1 k=k b:=fun a b c d k=>rfl
  have u2:∀(a b c d:AV) (k:Go.AM.K AV),exK (.tup [a,b,c,d]) 2 k=k c:=fun a b c d k=>rfl
  have u3:∀(a b c d:AV) (k:Go.AM.K AV),exK (.tup [a,b,c,d]) 3 k=k d:=fun a b c d k=>rfl
  have hlen:=Zil i e
  obtain ⟨b1,b2,hT⟩:=Zij false false i e (by omega) (by omega) []
  obtain ⟨b3,b4,hT'⟩:=Zwy c1 c2 i e (by omega) (by omega) []
  generalize takeI i e=r at hlen hT hT'
  obtain ⟨x,p,u,kk⟩:=r
  dsimp only at hlen
  unfold takeV at hT hT'
  dsimp only at hT hT'
  have fT:∀h,Z36 [ib false false i, .agg (encV e)] h=some (.tup [ib b1 b2 x, .agg (encH p),B u,I kk],h):=ZiG rfl hT
  have fT':∀h,Z4H [ib c1 c2 i, .agg (encV e)] h=some (.tup [ib b3 b4 x, .agg (encH p),B u,I kk],h):=ZiG rfl hT'
  obtain ⟨H3,hH3⟩:∃H3:Hp,H3=[bxI c1 c2 i,bxE e,bxI true true A]:=⟨_,rfl⟩
  obtain ⟨H4,hH4⟩:∃H4:Hp,H4=[bxI c1 c2 i,bxE e,bxI true true A,bxI true true A]:=⟨_,rfl⟩
  obtain ⟨H6,hH6⟩:∃H6:Hp,H6=[bxI c1 c2 i,bxE e,bxI true true A,bxI true true A,bxI b1 b2 x, .arr 2 [encH p] true false]:=⟨_,rfl⟩
  obtain ⟨H8,hH8⟩:∃H8:Hp,H8=[bxI c1 c2 i,bxE e,bxI true true A,bxI true true A,bxI b1 b2 x, .arr 2 [encH p] true false,bxI b3 b4 x, .arr 2 [encH p] true false]:=⟨_,rfl⟩
  have x2:∀k:AV→Hp→Option AV,effK (boxE 3 (.agg zI) H.length) H k=k (.ptr 2 0 0 1) (H++[.arr 3 [zI] true false]):=fun k=>by rw [hH];rfl
  have s2:∀k:AV→Hp→Option AV,effK (stE 3 (.ptr 2 0 0 1) (ib true true A) (H++[.arr 3 [zI] true false])) (H++[.arr 3 [zI] true false]) k=k .u H3:=fun k=>by rw [hH,hH3];rfl
  have x3:∀k:AV→Hp→Option AV,effK (boxE 3 (.agg zI) H3.length) H3 k=k (.ptr 3 0 0 1) (H3++[.arr 3 [zI] true false]):=fun k=>by rw [hH3];rfl
  have s3:∀k:AV→Hp→Option AV,effK (stE 3 (.ptr 3 0 0 1) (ib true true A) (H3++[.arr 3 [zI] true false])) (H3++[.arr 3 [zI] true false]) k=k .u H4:=fun k=>by rw [hH3,hH4];rfl
  have le3:∀k:Go.AM.K AV,ldK 1 false (.ptr 1 0 1 1) H3 k=k (I e.to):=fun k=>by rw [hH3];rfl
  have l4:∀k:Go.AM.K AV,ldK 3 true (.ptr 0 0 0 1) H4 k=k (ib c1 c2 i):=fun k=>by rw [hH4];rfl
  have m4:∀k:Go.AM.K AV,ldK 10 true (.ptr 1 0 0 1) H4 k=k (.agg (encV e)):=fun k=>by rw [hH4];rfl
  have d4:∀k:AV→Hp→Ent→Option AV,effD (boxE 3 (.agg zI) H4.length) H4 k=k (.ptr 4 0 0 1) (H4++[.arr 3 [zI] true false]) ([],[4]):=fun k=>by rw [hH4];rfl
  have d5:∀k:AV→Hp→Ent→Option AV,effD (boxE 2 (.agg zH) (H4++[AObj.arr 3 [zI] true false]).length) (H4++[.arr 3 [zI] true false]) k=k (.ptr 5 0 0 1) (H4++[.arr 3 [zI] true false, .arr 2 [zH] true false]) ([],[5]):=fun k=>by rw [hH4];rfl
  have d6:∀k:AV→Hp→Ent→Option AV,effD (stE 3 (.ptr 4 0 0 1) (ib b1 b2 x) (H4++[.arr 3 [zI] true false, .arr 2 [zH] true false])) (H4++[.arr 3 [zI] true false, .arr 2 [zH] true false]) k=k .u (H4++[bxI b1 b2 x, .arr 2 [zH] true false]) ([4],[4]):=fun k=>by rw [hH4];rfl
  have d7:∀k:AV→Hp→Ent→Option AV,effD (stE 2 (.ptr 5 0 0 1) (.agg (encH p)) (H4++[bxI b1 b2 x, .arr 2 [zH] true false])) (H4++[bxI b1 b2 x, .arr 2 [zH] true false]) k=k .u H6 ([5],[5]):=fun k=>by rw [hH4,hH6];rfl
  have dj1:disjAll [(1,2),(0,9),(1,9),(2,9),(3,9),(0,10),(1,10),(2,10),(3,10),(9,10)] [(idsOf (.ptr 0 0 0 1),[]),([],[]),(idsOf (.ptr 1 0 0 1),[]),([],[]),([],[]),([],[]),([],[]),([],[]),([],[]),([],[4]),([],[5]),([4],[4]),([5],[5]),([],[]),([],[])]=true:=rfl
  have l6:∀k:Go.AM.K AV,ldK 3 true (.ptr 0 0 0 1) H6 k=k (ib c1 c2 i):=fun k=>by rw [hH6];rfl
  have m6:∀k:Go.AM.K AV,ldK 10 true (.ptr 1 0 0 1) H6 k=k (.agg (encV e)):=fun k=>by rw [hH6];rfl
  have x6:∀k:AV→Hp→Option AV,effK (boxE 3 (.agg zI) H6.length) H6 k=k (.ptr 6 0 0 1) (H6++[.arr 3 [zI] true false]):=fun k=>by rw [hH6];rfl
  have x7:∀k:AV→Hp→Option AV,effK (boxE 2 (.agg zH) (H6++[AObj.arr 3 [zI] true false]).length) (H6++[.arr 3 [zI] true false]) k=k (.ptr 7 0 0 1) (H6++[.arr 3 [zI] true false, .arr 2 [zH] true false]):=fun k=>by rw [hH6];rfl
  have s6:∀k:AV→Hp→Option AV,effK (stE 3 (.ptr 6 0 0 1) (ib b3 b4 x) (H6++[.arr 3 [zI] true false, .arr 2 [zH] true false])) (H6++[.arr 3 [zI] true false, .arr 2 [zH] true false]) k=k .u (H6++[bxI b3 b4 x, .arr 2 [zH] true false]):=fun k=>by rw [hH6];rfl
  have s7:∀k:AV→Hp→Option AV,effK (stE 2 (.ptr 7 0 0 1) (.agg (encH p)) (H6++[bxI b3 b4 x, .arr 2 [zH] true false])) (H6++[bxI b3 b4 x, .arr 2 [zH] true false]) k=k .u H8:=fun k=>by rw [hH6,hH8];rfl
  have c1':∀(h:Hp) (k:AV→Hp→Ent→Option AV),effD (callE (Z19 14) [ib c1 c2 i] h h.length) h k=k (ib false false i) h ([],[]):=Z6C (fun h=>Zwk c1 c2 i (by omega) (by omega) h) (by simp [idss,Z6D])
  have c2':∀(h:Hp) (k:AV→Hp→Ent→Option AV),effD (callE (Z19 13) [ib false false i, .agg (encV e)] h h.length) h k=k (.tup [ib b1 b2 x, .agg (encH p),B u,I kk]) h ([],[]):=Z6C fT (by simp [idss,Z6D,Zws])
  have c3:∀(h:Hp) (k:AV→Hp→Ent→Option AV),effD (callE (Z19 16) [ib false false i] h h.length) h k=k (I (chkI i)) h ([],[]):=Z6C (fun h=>Z6A false false i (by omega) (by omega) h) (by simp [idss,Z6D])
  have c4:∀(h:Hp) (k:AV→Hp→Ent→Option AV),effD (callE (Z19 17) [ib c1 c2 i] h h.length) h k=k (I (chkI i)) h ([],[]):=Z6C (fun h=>Ziz c1 c2 i (by omega) (by omega) h) (by simp [idss,Z6D])
  have c5:∀(h:Hp) (k:AV→Hp→Ent→Option AV),effD (callE (Z19 18) [ib true true A,ib true true A] h h.length) h k=k (B true) h ([],[]):=Z6C (fun h=>by rw [show closedX _ _ _ _ h=_ from Zix true true true true A A (by omega) (by omega) h];simp) (by simp [idss,Z6D])
  have c6:∀(h:Hp) (k:AV→Hp→Ent→Option AV),effD (callE (Z19 18) [ib b1 b2 x,ib b3 b4 x] h h.length) h k=k (B true) h ([],[]):=Z6C (fun h=>by rw [show closedX _ _ _ _ h=_ from Zix b1 b2 b3 b4 x x (by omega) (by omega) h];simp) (by simp [idss,Z6D])
  have r0:∀k:Go.AM.K AV,ldK 3 true (.ptr 0 0 0 1) H8 k=k (ib c1 c2 i):=fun k=>by rw [hH8];rfl
  have r2:∀k:Go.AM.K AV,ldK 3 true (.ptr 2 0 0 1) H8 k=k (ib true true A):=fun k=>by rw [hH8];rfl
  have r3:∀k:Go.AM.K AV,ldK 3 true (.ptr 3 0 0 1) H8 k=k (ib true true A):=fun k=>by rw [hH8];rfl
  have r4:∀k:Go.AM.K AV,ldK 3 true (.ptr 4 0 0 1) H8 k=k (ib b1 b2 x):=fun k=>by rw [hH8];rfl
  have r5:∀k:Go.AM.K AV,ldK 2 true (.ptr 5 0 0 1) H8 k=k (.agg (encH p)):=fun k=>by rw [hH8];rfl
  have r6:∀k:Go.AM.K AV,ldK 3 true (.ptr 6 0 0 1) H8 k=k (ib b3 b4 x):=fun k=>by rw [hH8];rfl
  have r7:∀k:Go.AM.K AV,ldK 2 true (.ptr 7 0 0 1) H8 k=k (.agg (encH p)):=fun k=>by rw [hH8];rfl
  have dj2:disjAll [(1,3),(2,3)] [(idsOf (.ptr 0 0 0 1),[]),([],[]),([],[]),(idsOf (.ptr 0 0 0 1),[]),([],[]),([],[]),([],[]),(idsOf (.ptr 2 0 0 1),[]),(idsOf (.ptr 3 0 0 1),[]),([],[]),([],[]),([],[]),([],[]),([],[]),([],[]),([],[]),([],[]),(idsOf (.ptr 4 0 0 1),[]),(idsOf (.ptr 6 0 0 1),[]),([],[]),([],[]),([],[]),(idsOf (.ptr 5 0 0 1),[]),(idsOf (.ptr 7 0 0 1),[]),([],[]),([],[]),([],[]),([],[]),([],[]),([],[]),([],[]),([],[]),([],[]),([],[]),([],[]),([],[]),([],[])]=true:=rfl
  simp -implicitDefEqProofs only [Bool.not_true,Bool.false_eq_true,if_false,Z06,Nat.zero_add,le,ZuO,ZuP,Z02,n1,n2,tp,tq,x2,s2,x3,s3,le3,l4,c1',m4,c2',u0,u1,u2,u3,d4,d5,d6,d7,dj1,cond_true,l6,m6,ZuQ,fT',x6,x7,s6,s7,r0,c3,c4,Z04,Bool.false_xor,beq_self_eq_true,Zfd,r2,r3,c5,Zfb,if_true,r4,r6,c6,r5,r7,Z8A,Zwq,dj2]
  rfl
end Go.AM

