import Derived.Test.YtgmfphialjcpcaaGreatG5
import Derived.Lib.Mul64
set_option linter.unusedSectionVars false
set_option linter.unusedVariables false
set_option linter.unusedSimpArgs false
set_option linter.constructorNameAsVariable false
set_option maxRecDepth 100000
noncomputable section
namespace Go.AM
open Go.Proofs
attribute [local congr] Z0i Z0j Z0k Z0l Z0m Z0n Z0o Z0p Z0q Z0r Z0s Z0t Z0u Z0v Z0w Z0x Z0y Z0z Z0A Z0B Z0C Z0D Z0E Z0F Z0G Z0H Z0I
def isNode(n:Int):Bool:=decide (1≤n)&&decide (n≤99)
def formM(m:Msg):Bool:=
 if m.kind=1 then m.num==0&&isNode m.frm&&isNode m.to&&m.frm != m.to&&decide (1≤m.alc)&&decide (m.alc≤10737418240000)
 else if m.kind=2 then decide (1≤m.num)&&decide (m.num≤64)&&m.frm==0&&isNode m.to&&m.alc==0
 else if m.kind=3 then m.num==0&&m.frm==0&&m.to==0&&decide (0≤m.alc)&&decide (m.alc≤10737418240000)
 else m.num==0&&m.frm==0&&m.to==0&&m.alc==0
def rangeM(m:Msg):Bool:=decide (m.mv<1)||decide (1073741824<m.mv)||decide (m.kind<1)||decide (5<m.kind)||decide (m.day<0)||decide (100000<m.day)
def checkM(m:Msg):Int:=if rangeM m=true then 2 else if formM m=true then 0 else 1
theorem ZlK(n:Int)(h:Hp):Z9l [I n] h=some (B (isNode n),h):=ZtZ rfl (by simp[ZbS,isNode]) h
theorem Z4p(n:Int)(h:Hp):Z2L [I n] h=some (B (isNode n),h):=Zyx rfl (by simp[ZbG,isNode]) h
theorem Zgj(m:Msg)(h:Hp):Z3h [.agg (encM m)] h=some (I (checkM m),h):=by
 refine Zu4 (by simp[encM]) ?_ h
 obtain ⟨mv,kind,num,day,frm,to,alc⟩:=m;obtain ⟨r,hr⟩:∃r,rangeM ⟨mv,kind,num,day,frm,to,alc⟩=r:=⟨_,rfl⟩;have hr':=hr;simp only[rangeM] at hr';simp only[checkM,hr];have b0:∀k:KV,buildK [I 0,I 0,I 0,I 0,I 0,I 0,I 0] [(some (0,1),I mv),(some (1,1),I kind),(some (3,1),I day)] k=k (.agg [I mv,I kind,I 0,I day,I 0,I 0,I 0]):=λk=>rfl
 simp only[Zbq,encM,encDo,Z04,Z11,Nat.zero_add,Nat.add_zero,Nat.reduceAdd,Z1Z,Z20,Z21,Z22,Z23,Z24,Z25,Z26,Z27,Z28,Z29,Z2a,Z2b,Z2c,Z2d,Z2e,Z2f,Z2g,Z2h,Z2i,Z2j,lw7_0,ew7_0,bx7_0,Z1c,Z1d,Z1e,Z1f,Z14,Z1g,Z1h,Z1i,Z1j,Z1k,Z1l,Z1m,Z1n,Z1o,Z1p,Z1q,Z1r,Z1s,Z1t,Z1u,Z1v,lw7_1,ew7_1,bx7_1,Z1w,Z1x,Z1y,Z17,Z18,Z1z,Z1A,Z1B,Z1C,Z1D,Z1E,Z1F,Z1G,Z1H,Z1I,Z1J,Z1K,Z1L,Z1M,Z1N,Z1O,lw7_2,ew7_2,bx7_2,Z2k,Z2l,Z2m,Z2n,Z2o,Z2p,Z2q,Z2r,Z2s,Z2t,Z2u,Z2v,Z2w,Z2x,Z2y,Z2z,Z2A,Z2B,Z2C,Z2D,Z2E,lw7_3,ew7_3,bx7_3,Z1S,Z05,Z10,Z0g,Z0P,Z0J,Z0Q,Z00,Z03,Z0L,Bool.false_xor,Bool.true_xor,Z02,Z16,Z07,Z0S,Z1R,List.length_map,hr',b0];have n1:=ZlK frm
 have n2:=ZlK to;clear hr hr';cases r with
 | true=>rfl
 | false=>
  by_cases k1:kind=1
  ·subst k1
   simp only[if_true,Bool.false_eq_true,if_false,beq_self_eq_true,ZfQ,Z02,Z3Z,Z8h,n1,n2,encM,encDo,Z04,Z11,Nat.zero_add,Nat.add_zero,Nat.reduceAdd,Z1Z,Z20,Z21,Z22,Z23,Z24,Z25,Z26,Z27,Z28,Z29,Z2a,Z2b,Z2c,Z2d,Z2e,Z2f,Z2g,Z2h,Z2i,Z2j,lw7_0,ew7_0,bx7_0,Z1c,Z1d,Z1e,Z1f,Z14,Z1g,Z1h,Z1i,Z1j,Z1k,Z1l,Z1m,Z1n,Z1o,Z1p,Z1q,Z1r,Z1s,Z1t,Z1u,Z1v,lw7_1,ew7_1,bx7_1,Z1w,Z1x,Z1y,Z17,Z18,Z1z,Z1A,Z1B,Z1C,Z1D,Z1E,Z1F,Z1G,Z1H,Z1I,Z1J,Z1K,Z1L,Z1M,Z1N,Z1O,lw7_2,ew7_2,bx7_2,Z2k,Z2l,Z2m,Z2n,Z2o,Z2p,Z2q,Z2r,Z2s,Z2t,Z2u,Z2v,Z2w,Z2x,Z2y,Z2z,Z2A,Z2B,Z2C,Z2D,Z2E,lw7_3,ew7_3,bx7_3,Z1S,Z05,Z10,Z0g,Z0P,Z0J,Z0Q,Z00,Z03,Z0L,Bool.false_xor,Bool.true_xor,Z02,Z16,Z07,Z0S,Z1R,List.length_map,formM,show (disjAll [(3,7),(5,7),(5,9)] [([],[]),(idsOf (AV.ptr 0 0 4 1),[]),([],[]),(idsOf (AV.ptr 0 0 5 1),[]),([],[]),(idsOf (AV.ptr 0 0 6 1),[]),([],[]),([1],[1]),([],[]),([1],[1]),([],[]),([1],[1])])=true from rfl,cond_true,Z7x]
   clear n1 n2 b0;by_cases h1:num=0
   ·subst h1
    simp only[beq_self_eq_true,Bool.true_and,Bool.and_self,Bool.not_true,Bool.or_false,show (frm != to) = !(frm==to) from rfl];generalize (isNode frm&&isNode to && !(frm==to)&&decide (1≤alc)&&decide (alc≤10737418240000))=e
    cases e<;>rfl
   ·simp[h1]
  by_cases k2:kind=2
  ·subst k2
   simp only[if_true,Bool.false_eq_true,if_false,beq_self_eq_true,ZfQ,Z02,Z3Z,Z8h,n1,n2,encM,encDo,Z04,Z11,Nat.zero_add,Nat.add_zero,Nat.reduceAdd,Z1Z,Z20,Z21,Z22,Z23,Z24,Z25,Z26,Z27,Z28,Z29,Z2a,Z2b,Z2c,Z2d,Z2e,Z2f,Z2g,Z2h,Z2i,Z2j,lw7_0,ew7_0,bx7_0,Z1c,Z1d,Z1e,Z1f,Z14,Z1g,Z1h,Z1i,Z1j,Z1k,Z1l,Z1m,Z1n,Z1o,Z1p,Z1q,Z1r,Z1s,Z1t,Z1u,Z1v,lw7_1,ew7_1,bx7_1,Z1w,Z1x,Z1y,Z17,Z18,Z1z,Z1A,Z1B,Z1C,Z1D,Z1E,Z1F,Z1G,Z1H,Z1I,Z1J,Z1K,Z1L,Z1M,Z1N,Z1O,lw7_2,ew7_2,bx7_2,Z2k,Z2l,Z2m,Z2n,Z2o,Z2p,Z2q,Z2r,Z2s,Z2t,Z2u,Z2v,Z2w,Z2x,Z2y,Z2z,Z2A,Z2B,Z2C,Z2D,Z2E,lw7_3,ew7_3,bx7_3,Z1S,Z05,Z10,Z0g,Z0P,Z0J,Z0Q,Z00,Z03,Z0L,Bool.false_xor,Bool.true_xor,Z02,Z16,Z07,Z0S,Z1R,List.length_map,formM,show (disjAll [(3,5)] [([],[]),(idsOf (AV.ptr 0 0 2 1),[]),([],[]),(idsOf (AV.ptr 0 0 5 1),[]),([],[]),([1],[1]),([],[]),([1],[1])])=true from rfl,cond_true,Z7x,show ((2:Int)==1)=false from rfl,show ¬((2:Int)=1) by decide]
   clear n1 n2 b0;by_cases h1:frm=0
   ·by_cases h2:alc=0
    ·subst h1 h2
     simp only[beq_self_eq_true,Bool.true_and,Bool.and_true,Bool.not_true,Bool.or_false];generalize (decide (1≤num)&&decide (num≤64)&&isNode to)=e
     cases e<;>rfl
    ·simp[h1,h2]
   ·simp[h1]
  by_cases k3:kind=3
  ·subst k3
   simp only[if_true,Bool.false_eq_true,if_false,beq_self_eq_true,ZfQ,Z02,Z3Z,Z8h,n1,n2,encM,encDo,Z04,Z11,Nat.zero_add,Nat.add_zero,Nat.reduceAdd,Z1Z,Z20,Z21,Z22,Z23,Z24,Z25,Z26,Z27,Z28,Z29,Z2a,Z2b,Z2c,Z2d,Z2e,Z2f,Z2g,Z2h,Z2i,Z2j,lw7_0,ew7_0,bx7_0,Z1c,Z1d,Z1e,Z1f,Z14,Z1g,Z1h,Z1i,Z1j,Z1k,Z1l,Z1m,Z1n,Z1o,Z1p,Z1q,Z1r,Z1s,Z1t,Z1u,Z1v,lw7_1,ew7_1,bx7_1,Z1w,Z1x,Z1y,Z17,Z18,Z1z,Z1A,Z1B,Z1C,Z1D,Z1E,Z1F,Z1G,Z1H,Z1I,Z1J,Z1K,Z1L,Z1M,Z1N,Z1O,lw7_2,ew7_2,bx7_2,Z2k,Z2l,Z2m,Z2n,Z2o,Z2p,Z2q,Z2r,Z2s,Z2t,Z2u,Z2v,Z2w,Z2x,Z2y,Z2z,Z2A,Z2B,Z2C,Z2D,Z2E,lw7_3,ew7_3,bx7_3,Z1S,Z05,Z10,Z0g,Z0P,Z0J,Z0Q,Z00,Z03,Z0L,Bool.false_xor,Bool.true_xor,Z02,Z16,Z07,Z0S,Z1R,List.length_map,formM,Z7x,show ((3:Int)==1)=false from rfl,show ((3:Int)==2)=false from rfl,show ¬((3:Int)=1) by decide,show ¬((3:Int)=2) by decide]
   clear n1 n2 b0;generalize hE:(decide (0≤alc)&&decide (alc≤10737418240000))=e
   have hA:∀x:Bool,(x&&decide (0≤alc)&&decide (alc≤10737418240000))=(x&&e):=λx=>by rw[Bool.and_assoc,hE]
   rw[hA];by_cases h1:num=0<;>by_cases h2:frm=0<;>by_cases h3:to=0<;>simp[h1,h2,h3]<;>cases e<;>simp
  ·have e1:(kind==1)=false:=by simpa using k1
   have e2:(kind==2)=false:=by simpa using k2
   have e3:(kind==3)=false:=by simpa using k3
   simp only[if_true,Bool.false_eq_true,if_false,beq_self_eq_true,Z3Z,Z8h,encM,encDo,Z04,Z11,Nat.zero_add,Nat.add_zero,Nat.reduceAdd,Z1Z,Z20,Z21,Z22,Z23,Z24,Z25,Z26,Z27,Z28,Z29,Z2a,Z2b,Z2c,Z2d,Z2e,Z2f,Z2g,Z2h,Z2i,Z2j,lw7_0,ew7_0,bx7_0,Z1c,Z1d,Z1e,Z1f,Z14,Z1g,Z1h,Z1i,Z1j,Z1k,Z1l,Z1m,Z1n,Z1o,Z1p,Z1q,Z1r,Z1s,Z1t,Z1u,Z1v,lw7_1,ew7_1,bx7_1,Z1w,Z1x,Z1y,Z17,Z18,Z1z,Z1A,Z1B,Z1C,Z1D,Z1E,Z1F,Z1G,Z1H,Z1I,Z1J,Z1K,Z1L,Z1M,Z1N,Z1O,lw7_2,ew7_2,bx7_2,Z2k,Z2l,Z2m,Z2n,Z2o,Z2p,Z2q,Z2r,Z2s,Z2t,Z2u,Z2v,Z2w,Z2x,Z2y,Z2z,Z2A,Z2B,Z2C,Z2D,Z2E,lw7_3,ew7_3,bx7_3,Z1S,Z05,Z10,Z0g,Z0P,Z0J,Z0Q,Z00,Z03,Z0L,Bool.false_xor,Bool.true_xor,Z02,Z16,Z07,Z0S,Z1R,List.length_map,formM,Z7x,e1,e2,e3,k1,k2,k3]
   clear n1 n2 b0;by_cases h1:num=0<;>by_cases h2:frm=0<;>by_cases h3:to=0<;>by_cases h4:alc=0<;>simp[h1,h2,h3,h4]
theorem ZlL(m:Msg)(h:Hp):Z4i [.agg (encM m)] h=some (I (checkM m),h):=by
 refine ZyC (by simp[encM]) ?_ h
 obtain ⟨mv,kind,num,day,frm,to,alc⟩:=m;obtain ⟨r,hr⟩:∃r,rangeM ⟨mv,kind,num,day,frm,to,alc⟩=r:=⟨_,rfl⟩;have hr':=hr;simp only[rangeM] at hr';simp only[checkM,hr];simp only[Zcc,encM,encDo,Z04,Z11,Nat.zero_add,Nat.add_zero,Nat.reduceAdd,Z1Z,Z20,Z21,Z22,Z23,Z24,Z25,Z26,Z27,Z28,Z29,Z2a,Z2b,Z2c,Z2d,Z2e,Z2f,Z2g,Z2h,Z2i,Z2j,lw7_0,ew7_0,bx7_0,Z1c,Z1d,Z1e,Z1f,Z14,Z1g,Z1h,Z1i,Z1j,Z1k,Z1l,Z1m,Z1n,Z1o,Z1p,Z1q,Z1r,Z1s,Z1t,Z1u,Z1v,lw7_1,ew7_1,bx7_1,Z1w,Z1x,Z1y,Z17,Z18,Z1z,Z1A,Z1B,Z1C,Z1D,Z1E,Z1F,Z1G,Z1H,Z1I,Z1J,Z1K,Z1L,Z1M,Z1N,Z1O,lw7_2,ew7_2,bx7_2,Z2k,Z2l,Z2m,Z2n,Z2o,Z2p,Z2q,Z2r,Z2s,Z2t,Z2u,Z2v,Z2w,Z2x,Z2y,Z2z,Z2A,Z2B,Z2C,Z2D,Z2E,lw7_3,ew7_3,bx7_3,Z1S,Z05,Z10,Z0g,Z0P,Z0J,Z0Q,Z00,Z03,Z0L,Bool.false_xor,Bool.true_xor,Z02,Z16,Z07,Z0S,Z1R,List.length_map,hr']
 have n1:=Z4p frm;have n2:=Z4p to;clear hr hr';cases r with
 | true=>rfl
 | false=>
  by_cases k1:kind=1
  ·subst k1
   simp only[if_true,Bool.false_eq_true,if_false,beq_self_eq_true,Zll,Z02,Z48,Z8U,n1,n2,encM,encDo,Z04,Z11,Nat.zero_add,Nat.add_zero,Nat.reduceAdd,Z1Z,Z20,Z21,Z22,Z23,Z24,Z25,Z26,Z27,Z28,Z29,Z2a,Z2b,Z2c,Z2d,Z2e,Z2f,Z2g,Z2h,Z2i,Z2j,lw7_0,ew7_0,bx7_0,Z1c,Z1d,Z1e,Z1f,Z14,Z1g,Z1h,Z1i,Z1j,Z1k,Z1l,Z1m,Z1n,Z1o,Z1p,Z1q,Z1r,Z1s,Z1t,Z1u,Z1v,lw7_1,ew7_1,bx7_1,Z1w,Z1x,Z1y,Z17,Z18,Z1z,Z1A,Z1B,Z1C,Z1D,Z1E,Z1F,Z1G,Z1H,Z1I,Z1J,Z1K,Z1L,Z1M,Z1N,Z1O,lw7_2,ew7_2,bx7_2,Z2k,Z2l,Z2m,Z2n,Z2o,Z2p,Z2q,Z2r,Z2s,Z2t,Z2u,Z2v,Z2w,Z2x,Z2y,Z2z,Z2A,Z2B,Z2C,Z2D,Z2E,lw7_3,ew7_3,bx7_3,Z1S,Z05,Z10,Z0g,Z0P,Z0J,Z0Q,Z00,Z03,Z0L,Bool.false_xor,Bool.true_xor,Z02,Z16,Z07,Z0S,Z1R,List.length_map,formM]
   clear n1 n2;rw[show (frm != to) = !(frm==to) from rfl]
   generalize (num==0&&isNode frm&&isNode to && !(frm==to)&&decide (1≤alc)&&decide (alc≤10737418240000))=e;cases e<;>rfl
  by_cases k2:kind=2
  ·subst k2
   simp only[if_true,Bool.false_eq_true,if_false,beq_self_eq_true,Zll,Z02,Z48,Z8U,n1,n2,encM,encDo,Z04,Z11,Nat.zero_add,Nat.add_zero,Nat.reduceAdd,Z1Z,Z20,Z21,Z22,Z23,Z24,Z25,Z26,Z27,Z28,Z29,Z2a,Z2b,Z2c,Z2d,Z2e,Z2f,Z2g,Z2h,Z2i,Z2j,lw7_0,ew7_0,bx7_0,Z1c,Z1d,Z1e,Z1f,Z14,Z1g,Z1h,Z1i,Z1j,Z1k,Z1l,Z1m,Z1n,Z1o,Z1p,Z1q,Z1r,Z1s,Z1t,Z1u,Z1v,lw7_1,ew7_1,bx7_1,Z1w,Z1x,Z1y,Z17,Z18,Z1z,Z1A,Z1B,Z1C,Z1D,Z1E,Z1F,Z1G,Z1H,Z1I,Z1J,Z1K,Z1L,Z1M,Z1N,Z1O,lw7_2,ew7_2,bx7_2,Z2k,Z2l,Z2m,Z2n,Z2o,Z2p,Z2q,Z2r,Z2s,Z2t,Z2u,Z2v,Z2w,Z2x,Z2y,Z2z,Z2A,Z2B,Z2C,Z2D,Z2E,lw7_3,ew7_3,bx7_3,Z1S,Z05,Z10,Z0g,Z0P,Z0J,Z0Q,Z00,Z03,Z0L,Bool.false_xor,Bool.true_xor,Z02,Z16,Z07,Z0S,Z1R,List.length_map,formM,show ((2:Int)==1)=false from rfl,show ¬((2:Int)=1) by decide]
   clear n1 n2;cases (decide (1≤num)&&decide (num≤64)&&frm==0&&isNode to&&alc==0)<;>simp_all
  by_cases k3:kind=3
  ·subst k3
   simp only[if_true,Bool.false_eq_true,if_false,beq_self_eq_true,Z48,Z8U,encM,encDo,Z04,Z11,Nat.zero_add,Nat.add_zero,Nat.reduceAdd,Z1Z,Z20,Z21,Z22,Z23,Z24,Z25,Z26,Z27,Z28,Z29,Z2a,Z2b,Z2c,Z2d,Z2e,Z2f,Z2g,Z2h,Z2i,Z2j,lw7_0,ew7_0,bx7_0,Z1c,Z1d,Z1e,Z1f,Z14,Z1g,Z1h,Z1i,Z1j,Z1k,Z1l,Z1m,Z1n,Z1o,Z1p,Z1q,Z1r,Z1s,Z1t,Z1u,Z1v,lw7_1,ew7_1,bx7_1,Z1w,Z1x,Z1y,Z17,Z18,Z1z,Z1A,Z1B,Z1C,Z1D,Z1E,Z1F,Z1G,Z1H,Z1I,Z1J,Z1K,Z1L,Z1M,Z1N,Z1O,lw7_2,ew7_2,bx7_2,Z2k,Z2l,Z2m,Z2n,Z2o,Z2p,Z2q,Z2r,Z2s,Z2t,Z2u,Z2v,Z2w,Z2x,Z2y,Z2z,Z2A,Z2B,Z2C,Z2D,Z2E,lw7_3,ew7_3,bx7_3,Z1S,Z05,Z10,Z0g,Z0P,Z0J,Z0Q,Z00,Z03,Z0L,Bool.false_xor,Bool.true_xor,Z02,Z16,Z07,Z0S,Z1R,List.length_map,formM,show ((3:Int)==1)=false from rfl,show ((3:Int)==2)=false from rfl,show ¬((3:Int)=1) by decide,show ¬((3:Int)=2) by decide]
   cases (num==0&&frm==0&&to==0&&decide (0≤alc)&&decide (alc≤10737418240000))<;>simp_all
  ·have e1:(kind==1)=false:=by simpa using k1
   have e2:(kind==2)=false:=by simpa using k2
   have e3:(kind==3)=false:=by simpa using k3
   simp only[if_true,Bool.false_eq_true,if_false,beq_self_eq_true,Z48,Z8U,encM,encDo,Z04,Z11,Nat.zero_add,Nat.add_zero,Nat.reduceAdd,Z1Z,Z20,Z21,Z22,Z23,Z24,Z25,Z26,Z27,Z28,Z29,Z2a,Z2b,Z2c,Z2d,Z2e,Z2f,Z2g,Z2h,Z2i,Z2j,lw7_0,ew7_0,bx7_0,Z1c,Z1d,Z1e,Z1f,Z14,Z1g,Z1h,Z1i,Z1j,Z1k,Z1l,Z1m,Z1n,Z1o,Z1p,Z1q,Z1r,Z1s,Z1t,Z1u,Z1v,lw7_1,ew7_1,bx7_1,Z1w,Z1x,Z1y,Z17,Z18,Z1z,Z1A,Z1B,Z1C,Z1D,Z1E,Z1F,Z1G,Z1H,Z1I,Z1J,Z1K,Z1L,Z1M,Z1N,Z1O,lw7_2,ew7_2,bx7_2,Z2k,Z2l,Z2m,Z2n,Z2o,Z2p,Z2q,Z2r,Z2s,Z2t,Z2u,Z2v,Z2w,Z2x,Z2y,Z2z,Z2A,Z2B,Z2C,Z2D,Z2E,lw7_3,ew7_3,bx7_3,Z1S,Z05,Z10,Z0g,Z0P,Z0J,Z0Q,Z00,Z03,Z0L,Bool.false_xor,Bool.true_xor,Z02,Z16,Z07,Z0S,Z1R,List.length_map,formM,e1,e2,e3,k1,k2,k3]
   cases (num==0&&frm==0&&to==0&&alc==0)<;>simp_all
def cellsM(m:Msg):List Int:=[m.mv,m.kind,m.num,m.day,m.frm,m.to,m.alc]
def cmpZ(a b:Int):Int:=if a<b then -1 else if b<a then 1 else 0
theorem ZBo(a:Int)(h:Hp):Z9i [I a] h=some (B false,h):=ZtC rfl (by simp[Zch]) h
theorem ZBp(a b:Int)(h:Hp):Z4c [I a,I b] h=some (I (cmpZ a b),h):=by
 refine ZtH rfl ?_ h;have n1:=ZBo;by_cases h1:a<b
 ·simp[Z8I,n1,h1,cmpZ]
 ·by_cases h2:b<a<;>simp[Z8I,n1,h1,h2,cmpZ]
theorem ZlM(a b:Int)(h:Hp)(base:Nat):Z6g [I a,I b] h base=some (I (cmpZ a b),EF []):=(Z3a (ZBp a b h) base).trans (by simp[idss,ids])
def orZ:List Int→Int
 | []=>0
 | a::l=>if a≠0 then a else orZ l
theorem Or_L2{T:Tab}{D:DTab}{N:Nat}{x0:Kb AV}{xr:Kb AV}{h:Hp}(l:List Int)(b:Bool)(hx:∀z,x0 (I z) h=xr (I z) h)(hl:l.length<1000):∀(n:Nat)(pre post:List Int),l=pre++post→post.length<n→
  Z4X Tryz.prog T D N x0 xr n (I 0) (.lst 1 b (l.map λz=>[I z])) (I l.length) (I pre.length) h=xr (I (orZ post)) h:=by
 intro n;induction n with
 | zero=>intro pre post _ h2;omega
 | succ n ih=>
  intro pre post hc hn;show Z63 Tryz.prog T D N (Z4X Tryz.prog T D N x0 xr n) x0 xr _ _ _ _ h=_
  cases post with
  | nil=>
   have:l=pre:=by simpa using hc
   subst this;simp only[Z63,encM,encDo,Z04,Z11,Nat.zero_add,Nat.add_zero,Nat.reduceAdd,Z1Z,Z20,Z21,Z22,Z23,Z24,Z25,Z26,Z27,Z28,Z29,Z2a,Z2b,Z2c,Z2d,Z2e,Z2f,Z2g,Z2h,Z2i,Z2j,lw7_0,ew7_0,bx7_0,Z1c,Z1d,Z1e,Z1f,Z14,Z1g,Z1h,Z1i,Z1j,Z1k,Z1l,Z1m,Z1n,Z1o,Z1p,Z1q,Z1r,Z1s,Z1t,Z1u,Z1v,lw7_1,ew7_1,bx7_1,Z1w,Z1x,Z1y,Z17,Z18,Z1z,Z1A,Z1B,Z1C,Z1D,Z1E,Z1F,Z1G,Z1H,Z1I,Z1J,Z1K,Z1L,Z1M,Z1N,Z1O,lw7_2,ew7_2,bx7_2,Z2k,Z2l,Z2m,Z2n,Z2o,Z2p,Z2q,Z2r,Z2s,Z2t,Z2u,Z2v,Z2w,Z2x,Z2y,Z2z,Z2A,Z2B,Z2C,Z2D,Z2E,lw7_3,ew7_3,bx7_3,Z1S,Z05,Z10,Z0g,Z0P,Z0J,Z0Q,Z00,Z03,Z0L,Bool.false_xor,Bool.true_xor,Z02,Z16,Z07,Z0S,Z1R,List.length_map]
   simp[orZ,hx]
  | cons c post=>
   have hi:pre.length<l.length:=by rw[hc];simp
   have hci:l[pre.length]? = some c:=by rw[hc];simp
   have hlt:((pre.length:Int)<(l.length:Int)):=by omega
   have hw:IntKind.i64.wrap ((pre.length:Int)+1)=(((pre++[c]).length:Nat):Int):=by rw[wrap64 (by omega) (by omega)];simp
   have ic:∀k:KV,iaK 1 (.lst 1 b (l.map λz=>[I z])) (I pre.length) k=k (.ep [I c] 0):=λk=>Z0M pre.length rfl hci k
   have step:=ih (pre++[c]) post (by simpa using hc) (by simpa using hn)
   by_cases h0:c=0
   ·simp[Z63,hlt,ic,h0,hw,orZ] at step ⊢
    exact step
   ·simp[Z63,hlt,ic,h0,orZ]
theorem Zgk:∀{n:Nat}{a b:List Int},a.length=n→b.length=n→orZ (List.zipWith cmpZ a b)=lexZ a b
 | 0,a,b,ha,hb=>by rw[List.eq_nil_of_length_eq_zero ha,List.eq_nil_of_length_eq_zero hb];rfl
 | n+1,[],b,ha,hb=>by simp at ha
 | n+1,a::l,[],ha,hb=>by simp at hb
 | n+1,a::l,b::r,ha,hb=>by
  have ih:=Zgk (n:=n) (a:=l) (b:=r) (by simpa using ha) (by simpa using hb)
  simp only[List.zipWith_cons_cons,orZ,lexZ,ih,cmpZ];by_cases h1:a<b
  ·simp[h1]
  ·by_cases h2:b<a<;>simp[h1,h2]
theorem Z4q{β:Type}(v:AV)(ft:List Nat)(h:Hp)(k:AV→Hp→Ent→Option β):effD (some (v,EF ft)) h k=k v h (ft,[]):=by simp[effD,ap,wrOf]
theorem ZlN{β:Type}(v:AV)(o:AObj)(h:Hp)(k:AV→Hp→Ent→Option β):effD (some (v,EN o)) h k=k v (h++[o]) ([],[h.length]):=by simp[effD,ap,wrOf]
theorem ZlO(c:List Int)(hl:c.length<1000){h:Hp}{id n:Nat}{b:Bool}(hid:h[id]? = some (.arr 1 (c.map λz=>[I z]) true false))(hn:c.length=n):Z4b [.sl 1 id 0 n n b] h=some (I (orZ c),h):=by
 subst hn;refine (Ztw (a0 := .lst 1 false (c.map λz=>[I z])) ?_ λst => ?_)
 ·rw[Z1b,Z0X hid (by simp) (by simp) (Z0U λx=>rfl),Z1a]
 ·have:=Or_L2 (T:=Z6f) (D:=Z6e) (N:=NN) (x0:=λw7_3 h=>ZbU Tryz.prog Z6f Z6e NN (λv g=>cvt st g v) w7_3 h) (xr:=λw8_2 h=>cvt st h w8_2) (h:=[]) c false (λz=>rfl) hl NN [] c rfl (by have:=NN_ge;omega)
  simp only[nrm,nrmC,Z8H,Z07,List.length_map];exact this.trans rfl
theorem ZBq(a b:Msg)(h:Hp):Z5f [.agg (encM a),.agg (encM b)] h=some (I (lexZ (cellsM a) (cellsM b)),h):=by
 refine Zuu (by simp[encM]) ?_ h
 obtain ⟨a0,a1,a2,a3,a4,a5,a6⟩:=a;obtain ⟨b0,b1,b2,b3,b4,b5,b6⟩:=b;have g:=ZlM;have bs:∀(c0 c1 c2 c3 c4 c5 c6:Int),bsE 1 [I 0] 7 [(0,I c0),(1,I c1),(2,I c2),(3,I c3),(4,I c4),(5,I c5),(6,I c6)] ([AObj.arr 7 [[I a0,I a1,I a2,I a3,I a4,I a5,I a6]] true false,.arr 7 [[I b0,I b1,I b2,I b3,I b4,I b5,I b6]] true false]:Hp).length=some (.sl 1 2 0 7 7 true,EN (.arr 1 [[I c0],[I c1],[I c2],[I c3],[I c4],[I c5],[I c6]] true false)):=λ_ _ _ _ _ _ _=>rfl
 have go:∀(c0 c1 c2 c3 c4 c5 c6:Int)(o0 o1:AObj)(base:Nat),Z5c [.sl 1 2 0 7 7 true] [o0,o1,.arr 1 [[I c0],[I c1],[I c2],[I c3],[I c4],[I c5],[I c6]] true false] base=some (I (orZ [c0,c1,c2,c3,c4,c5,c6]),EF [2]):=λc0 c1 c2 c3 c4 c5 c6 o0 o1 base=>
  (Z3a (ZlO [c0,c1,c2,c3,c4,c5,c6] (by simp) rfl rfl) base).trans rfl
 simp -implicitDefEqProofs only[ZbX,encM,encDo,Z04,Z11,Nat.zero_add,Nat.add_zero,Nat.reduceAdd,Z1Z,Z20,Z21,Z22,Z23,Z24,Z25,Z26,Z27,Z28,Z29,Z2a,Z2b,Z2c,Z2d,Z2e,Z2f,Z2g,Z2h,Z2i,Z2j,lw7_0,ew7_0,bx7_0,Z1c,Z1d,Z1e,Z1f,Z14,Z1g,Z1h,Z1i,Z1j,Z1k,Z1l,Z1m,Z1n,Z1o,Z1p,Z1q,Z1r,Z1s,Z1t,Z1u,Z1v,lw7_1,ew7_1,bx7_1,Z1w,Z1x,Z1y,Z17,Z18,Z1z,Z1A,Z1B,Z1C,Z1D,Z1E,Z1F,Z1G,Z1H,Z1I,Z1J,Z1K,Z1L,Z1M,Z1N,Z1O,lw7_2,ew7_2,bx7_2,Z2k,Z2l,Z2m,Z2n,Z2o,Z2p,Z2q,Z2r,Z2s,Z2t,Z2u,Z2v,Z2w,Z2x,Z2y,Z2z,Z2A,Z2B,Z2C,Z2D,Z2E,lw7_3,ew7_3,bx7_3,Z1S,Z05,Z10,Z0g,Z0P,Z0J,Z0Q,Z00,Z03,Z0L,Bool.false_xor,Bool.true_xor,Z02,Z16,Z07,Z0S,Z1R,List.length_map,Zuq,Zup,Z2N,g,Z4q,bs,ZlN,List.cons_append,List.nil_append,go]
 have:=Zgk (n:=7) (a:=[a0,a1,a2,a3,a4,a5,a6]) (b:=[b0,b1,b2,b3,b4,b5,b6]) rfl rfl
 simp only[List.zipWith_cons_cons,List.zipWith_nil_left] at this;rw[this]
 rfl
theorem ZBr(x y:Docu)(n:Bool)(h:Hp){β:Type}(k:Go.AM.K β):eqK Tryz.prog n 78 (.agg (encDo x)) (.agg (encDo y)) h k=k (B (xor n (x==y))):=by
 obtain ⟨a0,a1,a2,a3,a4,a5,a6⟩:=x;obtain ⟨b0,b1,b2,b3,b4,b5,b6⟩:=y
 have:((⟨a0,a1,a2,a3,a4,a5,a6⟩:Docu)==⟨b0,b1,b2,b3,b4,b5,b6⟩)=((a0==b0)&&((a1==b1)&&((a2==b2)&&((a3==b3)&&((a4==b4)&&((a5==b5)&&((a6==b6)&&true))))))):=by
  rw[Bool.eq_iff_iff];simp
 simp only[encDo,Zpo,this]
theorem Z4r(x y:Msg)(n:Bool)(h:Hp){β:Type}(k:Go.AM.K β):eqK Tryz.prog n 50 (.agg (encM x)) (.agg (encM y)) h k=k (B (xor n (x==y))):=by
 obtain ⟨a0,a1,a2,a3,a4,a5,a6⟩:=x;obtain ⟨b0,b1,b2,b3,b4,b5,b6⟩:=y
 have:((⟨a0,a1,a2,a3,a4,a5,a6⟩:Msg)==⟨b0,b1,b2,b3,b4,b5,b6⟩)=((a0==b0)&&((a1==b1)&&((a2==b2)&&((a3==b3)&&((a4==b4)&&((a5==b5)&&((a6==b6)&&true))))))):=by
  rw[Bool.eq_iff_iff];simp
 simp only[encM,Z7x,this]
def compL:List Msg→List Msg
 | []=>[]
 | [a]=>[a]
 | a::b::l=>if a=b then compL (b::l) else a::compL (b::l)
theorem Zgl(y x:Msg):∀q:List Msg,compL (q++[y]++[x])=if y=x then compL (q++[y]) else compL (q++[y])++[x]
 | []=>by
  simp only[List.nil_append,List.cons_append,compL]
  split
  ·rename_i e;rw[e]
  ·rfl
 | [a]=>by
  have ih:=Zgl y x [];simp only[List.nil_append,List.cons_append,compL] at ih ⊢
  split<;>split<;>simp_all
 | a::b::q=>by
  have ih:=Zgl y x (b::q);simp only[List.cons_append,compL] at ih ⊢
  rw[ih];split<;>split<;>simp_all
theorem Zen:∀l:List Msg,(compL l).length≤l.length
 | []=>by simp[compL]
 | [a]=>by simp[compL]
 | a::b::l=>by
  have:=Zen (b::l)
  simp only[compL,List.length_cons] at this ⊢
  split<;>simp at * <;> omega
theorem Z79{l:List Msg}{i:Nat}{x:Msg}(hx:l[i]? = some x):l.take (i+1)=l.take i++[x]:=by
 rw[List.take_add_one,hx];rfl
theorem ZlP{l:List Msg}{i:Nat}{x y:Msg}(hi:1≤i)(hx:l[i]? = some x)(hy:l[i-1]? = some y):compL (l.take (i+1))=if y=x then compL (l.take i) else compL (l.take i)++[x]:=by
 obtain ⟨j,rfl⟩:∃j,i=j+1:=⟨i-1,by omega⟩
 rw[Z79 hx,Z79 (by simpa using hy),Zgl]
theorem ld_el{β:Type}{W:List Msg}{id i n:Nat}{h:Hp}{b:Bool}{x:Msg}(hid:h[id]? = some (.arr 7 (W.map encM) true b))(hn:W.length=n)(hx:W[i]? = some x)(k:Go.AM.K β):ldK 7 true (.ptr id i 0 n) h k=k (.agg (encM x)):=by
 simp[hid,hn,hx,encM]
theorem st_el{β:Type}{W:List Msg}{id i n:Nat}{h:Hp}{b:Bool}{x:Msg}(hid:h[id]? = some (.arr 7 (W.map encM) true b))(hn:W.length=n)(hi:i<W.length)(k:Kb β):effK (stE 7 (.ptr id i 0 n) (.agg (encM x)) h) h k=k .u (h.set id (.arr 7 ((W.set i x).map encM) true b)):=by
 have hx:W[i]? = some W[i]:=List.getElem?_eq_getElem hi
 have:stE 7 (.ptr id i 0 n) (.agg (encM x)) h=some (.u,⟨[(id,.arr 7 ((W.map encM).set i (encM x)) true b)],[],[id]⟩):=by
  simp[hid,hn,hx,encM]
 rw[this,Z0N rfl,List.map_set]
theorem ia_sl{β:Type}{id off len fr:Nat}{b:Bool}{m:Int}(i:Nat)(hm:m=i)(hi:i<len)(k:Go.AM.K β):iaK 7 (.sl 7 id off len fr b) (I m) k=k (.ptr id (off+i) 0 fr):=by
 subst hm;rw[ZaK (by omega) (by omega)]
 simp
theorem sl_lo{β:Type}{id n k:Nat}(hk:k≤n)(K:Go.AM.K β):sliceK 7 (.sl 7 id 0 n n false) (some (I k)) none none K=K (.sl 7 id k (n-k) n false):=by
 have:(0:Int)≤(k:Int):=by omega
 simp[sliceK,boundOr,hk]
theorem sl_hi{β:Type}{id n k:Nat}(hk:k≤n)(K:Go.AM.K β):sliceK 7 (.sl 7 id 0 n n false) none (some (I k)) none K=K (.sl 7 id 0 k n false):=by
 have:(0:Int)≤(k:Int):=by omega
 simp[sliceK,boundOr,hk]
abbrev zM:List AV:=zz7
theorem ZBs{β:Type}{T:Tab}{D:DTab}{N:Nat}{x2:AV→Kb β}{l:List Msg}{id k:Nat}{h0:Hp}(hid:id<h0.length)(hl:l.length<1000000):∀(n i:Nat)(W:List Msg)(w:Nat),1≤i→k+i≤l.length→l.length<k+i+n→
  W.length=l.length→w=(compL (l.take (k+i))).length→w+1≤k+i→W.take w=compL (l.take (k+i))→W.drop (k+i-1)=l.drop (k+i-1)→
  ∃W':List Msg,W'.length=l.length∧W'.take (compL l).length=compL l ∧
   Z46 Tryz.prog T D N x2 n (.sl 7 id 0 l.length l.length false) (I w) (.sl 7 id k (l.length-k) l.length false) (I i) (h0.set id (.arr 7 (W.map encM) true false)) =
    x2 (.sl 7 id 0 l.length l.length false) (I (compL l).length) (h0.set id (.arr 7 (W'.map encM) true false)):=by
 intro n;induction n with
 | zero=>intro i W w _ h2 h3;omega
 | succ n ih=>
  intro i W w hi h2 h3 hW hw hwi ht hd;have hget:(h0.set id (.arr 7 (W.map encM) true false))[id]? = some (.arr 7 (W.map encM) true false):=by simp[hid]
  rcases Nat.lt_or_ge (k+i) l.length with hlt | hge
  ·have hx:l[k+i]? = some l[k+i]:=List.getElem?_eq_getElem hlt
   have hy:l[k+i-1]? = some l[k+i-1]:=List.getElem?_eq_getElem (by omega)
   have hWx:W[k+i]? = some l[k+i]:=by
    have:=congrArg (λq=>q[1]?) hd
    simp only[List.getElem?_drop] at this;rw[show k+i-1+1=k+i by omega] at this
    rw[this,hx]
   have hWy:W[k+i-1]? = some l[k+i-1]:=by
    have:=congrArg (λq=>q[0]?) hd
    simp only[List.getElem?_drop,Nat.add_zero] at this;rw[this,hy]
   have hnx:=ZlP (by omega) hx hy
   generalize hxx:l[k+i]=x at *;generalize hyy:l[k+i-1]=y at *;have c1:((i:Int)<((l.length-k:Nat):Int)):=by omega
   have w1:IntKind.i64.wrap ((i:Int)-1)=((i-1:Nat):Int):=by rw[wrap64 (by omega) (by omega)];omega
   have w2:IntKind.i64.wrap ((i:Int)+1)=((i+1:Nat):Int):=by rw[wrap64 (by omega) (by omega)];omega
   have w3:IntKind.i64.wrap ((w:Int)+1)=((w+1:Nat):Int):=by rw[wrap64 (by omega) (by omega)];omega
   have i1:∀K:Go.AM.K β,iaK 7 (.sl 7 id k (l.length-k) l.length false) (I i) K=K (.ptr id (k+i) 0 l.length):=λK=>ia_sl i rfl (by omega) K
   have i2:∀K:Go.AM.K β,iaK 7 (.sl 7 id k (l.length-k) l.length false) (I ((i-1:Nat):Int)) K=K (.ptr id (k+(i-1)) 0 l.length):=λK=>ia_sl (i-1) rfl (by omega) K
   have i3:∀K:Go.AM.K β,iaK 7 (.sl 7 id 0 l.length l.length false) (I w) K=K (.ptr id (0+w) 0 l.length):=λK=>ia_sl w rfl (by omega) K
   have l1:=λK:Go.AM.K β=>ld_el hget hW hWx K
   have l2:=λK:Go.AM.K β=>ld_el (i:=k+(i-1)) hget hW (by rw[show k+(i-1)=k+i-1 by omega];exact hWy) K
   have s1:=λK:Kb β=>st_el (i:=0+w) (x:=x) hget hW (by omega) K
   show ∃W',_∧_∧Z65 Tryz.prog T D N (Z46 Tryz.prog T D N x2 n) x2 _ _ _ _ _=_;simp -implicitDefEqProofs only[Z65,Z0S,Z05,c1,decide_true,Z00,if_true,i1,l1,Z1U,w1,i2,l2,Z4r,Bool.true_xor,i3,s1,Z0e,w3,ZfA,ZjW,w2,List.set_set];by_cases hxy:y=x
   ·have e:(x==y)=true:=by simp[hxy]
    rw[if_pos hxy] at hnx;simp only[e,Bool.not_true,Bool.false_eq_true,if_false];have hkk:k+(i+1)=k+i+1:=by omega
    obtain ⟨W',g1,g2,g3⟩:=ih (i+1) W w (by omega) (by omega) (by omega) hW (by rw[hkk,hnx];exact hw) (by omega) (by rw[hkk,hnx];exact ht) (by
     have:=congrArg (List.drop 1) hd
     simp only[List.drop_drop] at this;rw[show k+(i+1)-1=k+i-1+1 by omega]
     exact this)
    exact ⟨W',g1,g2,g3⟩
   ·have e:(x==y)=false:=by simpa using Ne.symm hxy
    rw[if_neg hxy] at hnx;simp only[e,Bool.not_false,if_true];have hkk:k+(i+1)=k+i+1:=by omega
    rw[Nat.zero_add]
    obtain ⟨W',g1,g2,g3⟩:=ih (i+1) (W.set w x) (w+1) (by omega) (by omega) (by omega) (by simpa using hW) (by rw[hkk,hnx,List.length_append, ← hw];rfl) (by omega) (by
     rw[hkk,hnx, ← ht];rw[List.take_add_one,List.take_set_of_le (Nat.le_refl _),List.getElem?_set_self (by omega)]
     rfl) (by
     have:=congrArg (List.drop 1) hd
     simp only[List.drop_drop] at this;rw[show k+(i+1)-1=k+i-1+1 by omega,List.drop_set_of_lt (by omega)]
     exact this)
    exact ⟨W',g1,g2,g3⟩
  ·have hN:k+i=l.length:=by omega
   have c1:¬((i:Int)<((l.length-k:Nat):Int)):=by omega
   refine ⟨W,hW, ?_, ?_⟩
   ·rw[hN,List.take_length] at ht hw
    rw[← hw];exact ht
   ·show Z65 Tryz.prog T D N (Z46 Tryz.prog T D N x2 n) x2 _ _ _ _ _=_
    rw[hN,List.take_length] at hw;simp only[Z65,Z0S,Z05,c1,decide_false,Z00,Bool.false_eq_true,if_false];rw[hw]
theorem ZBt{β:Type}{T:Tab}{D:DTab}{N:Nat}{xn:AV→Kb β}{x0:Kb β}{xr:Kb β}{W:List Msg}{id w n:Nat}{h:Hp}(hid:h[id]? = some (.arr 7 (W.map encM) true false))(hW:W.length=n)(hw:w≤n):
  Z64 Tryz.prog T D N xn x0 xr (.sl 7 id 0 n n false) (I w) h=xr (.sl 7 id 0 w n false) (h.set id (.arr 7 ((W.take w).map encM++List.replicate (n-w) zM) true false)):=by
 have hc:clrE 7 zM (.sl 7 id w (n-w) n false) h=some (.tup [],⟨[(id,.arr 7 ((W.map encM).take w++List.replicate (n-w) zM++(W.map encM).drop (w+(n-w))) true false)],[],[id]⟩):=by
  simp only[clrE,hid];rw[if_pos (by simp[hW];omega)]
 simp only[Z64,sl_lo hw,sl_hi hw];rw[hc,Z0N rfl];rw[show (W.map encM).drop (w+(n-w))=[] from List.drop_eq_nil_of_le (by simp;omega),List.append_nil,List.map_take]
theorem ZBu{β:Type}{T:Tab}{D:DTab}{N:Nat}{x0:Kb β}{xr:Kb β}{l:List Msg}{id:Nat}{h:Hp}(hid:h[id]? = some (.arr 7 (l.map encM) true false))(hl:l.length<1000000)(hN:1000000≤N)(hx:∀v h,x0 v h=xr v h):∀(n i:Nat),1≤i→i≤l.length→l.length<i+n→compL (l.take i)=l.take i→
  Z47 Tryz.prog T D N x0 xr n (.sl 7 id 0 l.length l.length false) (I i) h=xr (.sl 7 id 0 (compL l).length l.length false) (h.set id (.arr 7 ((compL l).map encM++List.replicate (l.length-(compL l).length) zM) true false)):=by
 intro n;have hlt0:id<h.length:=(List.getElem?_eq_some_iff.1 hid).1
 induction n with
 | zero=>intro i h1 h2 h3;omega
 | succ n ih=>
  intro i h1 h2 h3 hc;show Z8M Tryz.prog T D N (Z47 Tryz.prog T D N x0 xr n) x0 xr _ _ _=_
  rcases Nat.lt_or_ge i l.length with hlt | hge
  ·have hx':l[i]? = some l[i]:=List.getElem?_eq_getElem hlt
   have hy:l[i-1]? = some l[i-1]:=List.getElem?_eq_getElem (by omega)
   have hnx:=ZlP h1 hx' hy;generalize hxx:l[i]=x at *;generalize hyy:l[i-1]=y at *;have c1:((i:Int)<(l.length:Int)):=by omega
   have w1:IntKind.i64.wrap ((i:Int)-1)=((i-1:Nat):Int):=by rw[wrap64 (by omega) (by omega)];omega
   have w2:IntKind.i64.wrap ((i:Int)+1)=((i+1:Nat):Int):=by rw[wrap64 (by omega) (by omega)];omega
   have i1:∀K:Go.AM.K β,iaK 7 (.sl 7 id 0 l.length l.length false) (I i) K=K (.ptr id (0+i) 0 l.length):=λK=>ia_sl i rfl (by omega) K
   have i2:∀K:Go.AM.K β,iaK 7 (.sl 7 id 0 l.length l.length false) (I ((i-1:Nat):Int)) K=K (.ptr id (0+(i-1)) 0 l.length):=λK=>ia_sl (i-1) rfl (by omega) K
   have l1:=λK:Go.AM.K β=>ld_el (i:=0+i) hid rfl (by simpa using hx') K
   have l2:=λK:Go.AM.K β=>ld_el (i:=0+(i-1)) hid rfl (by simpa using hy) K
   simp -implicitDefEqProofs only[Z8M,Z0S,Z05,c1,decide_true,Z00,if_true,i1,l1,Z1U,w1,i2,l2,Z4r,Bool.false_xor,Zc1,Z0e,w2,sl_lo (Nat.le_of_lt hlt)]
   by_cases hxy:y=x
   ·have e:(x==y)=true:=by simp[hxy]
    rw[if_pos hxy] at hnx;simp only[e,if_true];have hs:h=h.set id (.arr 7 (l.map encM) true false):=(Z15 hid).symm
    obtain ⟨W',g1,g2,g3⟩:=ZBs (T:=T) (D:=D) (N:=N) (x2:=λw32_0 w32_3 h=>Z64 Tryz.prog T D N (Z47 Tryz.prog T D N x0 xr n) x0 xr w32_0 w32_3 h) (l:=l) (id:=id) (k:=i) (h0:=h) hlt0 hl N 1 l i (by omega) (by omega) (by omega) rfl (by rw[hnx,hc];simp;omega) (by omega) (by rw[hnx,hc]) rfl
    rw[← hs] at g3;refine g3.trans ?_
    rw[ZBt (W:=W') (by simp[hlt0]) g1 (Zen l),List.set_set,g2]
   ·have e:(x==y)=false:=by simpa using Ne.symm hxy
    rw[if_neg hxy] at hnx;simp only[e,Bool.false_eq_true,if_false];exact ih (i+1) (by omega) (by omega) (by omega) (by rw[hnx,hc,Z79 hx'])
  ·have hN:i=l.length:=by omega
   subst hN;have c1:¬((l.length:Int)<(l.length:Int)):=by omega
   rw[List.take_length] at hc;simp only[Z8M,Z0S,Z05,c1,decide_false,Z00,Bool.false_eq_true,if_false,hx,hc,Nat.sub_self,List.replicate_zero,List.append_nil];rw[Z15 hid]
theorem ZBv{l:List Msg}{id:Nat}{h:Hp}(hid:h[id]? = some (.arr 7 (l.map encM) true false))(hl:l.length<1000000):Z5g [.sl 7 id 0 l.length l.length false] h=some (.sl 7 id 0 (compL l).length l.length false,h.set id (.arr 7 ((compL l).map encM++List.replicate (l.length-(compL l).length) zM) true false)):=by
 rw[ZkL];by_cases h2:l.length<2
 ·have hc:compL l=l:=by
   match l,h2 with
   | [],_=>rfl
   | [a],_=>rfl
  have c1:((l.length:Int)<2):=by omega
  simp only[Z4Y,Z0S,Z05,c1,decide_true,Z00,if_true,hc,Nat.sub_self,List.replicate_zero,List.append_nil];rw[Z15 hid]
 ·have c1:¬((l.length:Int)<2):=by omega
  simp only[Z4Y,Z0S,Z05,c1,decide_false,Z00,Bool.false_eq_true,if_false]
  have:=ZBu (T:=Z6o) (D:=Z6n) (N:=NN) (x0:=λw33_0 h=>Zc0 Tryz.prog Z6o Z6n NN (λv h=>some (v,h)) w33_0 h) (xr:=λw34_2 h=>some (w34_2,h)) hid hl NN_ge (λv h=>rfl) NN 1 (by omega) (by omega) (by have:=NN_ge;omega) (by
   match l,h2 with
   | a::l,_=>rfl)
  exact this
theorem ZBw(h:Hp):Z5g [nilS] h=some (nilS,h):=by
 rw[ZkL];simp[Z4Y]
theorem Zeo(l:List Msg)(b:Bool)(hl:l.length<1000000)(h:Hp):Z1T [SLm b l] h=if (b&&l.isEmpty)=true then some (nilS,h) else some (.sl 7 (h.length+1) 0 l.length l.length false,h++[.arr 7 [] true false,.arr 7 (l.map encM) true false]):=by
 rw[ZtR];by_cases hb:(b&&l.isEmpty)=true
 ·simp[Z4B,hb]
 ·have hb':(b&&l.isEmpty)=false:=by simpa using hb
  have hle:l.length * 56≤140737488355328:=by omega
  have h2:((l.map encM).all λe=>e.length==7)=true:=by simp[encM]
  simp[Z4B,hb',bsE,fillS,appE,readSl,hle,h2,ap]
def ltM(a b:Msg):Bool:=ltZ (cellsM a) (cellsM b)
def sortM(l:List Msg):List Msg:=l.mergeSort λx y => !ltM y x
theorem ZBx(x y:List Int)(hx:x.length=7)(hy:y.length=7):Z5f [.agg (encZ x),.agg (encZ y)] []=some (.s (.int .i64 (lexZ x y)),[]):=by
 match x,hx,y,hy with
 | [a0,a1,a2,a3,a4,a5,a6],_,[b0,b1,b2,b3,b4,b5,b6],_=>exact ZBq ⟨a0,a1,a2,a3,a4,a5,a6⟩ ⟨b0,b1,b2,b3,b4,b5,b6⟩ []
theorem ZBy{l:List Msg}{id:Nat}{h:Hp}{b:Bool}(hid:h[id]? = some (.arr 7 (l.map encM) true b))(hl:l.length<1000000):Z9s [.sl 7 id 0 l.length l.length false,.fn 70 []] h=some (.tup [],h.set id (.arr 7 ((sortM l).map encM) true b)):=by
 have e1:((l.map encM).drop 0).take l.length=(l.map cellsM).map encZ:=by
  rw[List.drop_zero,List.map_map,List.take_of_length_le (by simp)]
  rfl
 refine (Zth (g:=70) ZBx hid (by simp) (by simp) (by omega) (l:=l.map cellsM) (by simp[cellsM]) e1).trans ?_
 have e2:(l.map cellsM).mergeSort (λx y => !ltZ y x)=(sortM l).map cellsM:=by
  unfold sortM;rw[List.map_mergeSort]
  intro a _ b _
  rfl
 rw[e2,List.map_map,show encZ ∘ cellsM=encM from rfl,List.take_zero,List.nil_append,List.drop_eq_nil_of_le (by simp),List.append_nil]
theorem ZBz(h:Hp):Z9s [nilS,.fn 70 []] h=some (.tup [],h):=rfl
def normL(l:List Msg):List Msg:=compL (sortM l)
section
variable {β:Type} {P:Program} {T:Tab} {D:DTab} {N:Nat} {K:Kb β}
theorem ZBA{x0:Qb β}{xr:Kb β}{l:List Msg}{b:Bool}{fv:AV}{h:Hp}{p:Msg→Bool}(hl:l.length<4611686018427387904)(hp:∀x ∈ l,∀k:Kb β,callVK T fv [.agg (encM x)] h k=k (B (p x)) h):
  ∀(n i:Nat),i≤l.length→l.length<i+n→Z58 P T D N x0 xr n (.lst 7 b (l.map encM)) fv (I l.length) (I i) h=match (l.drop i).findIdx? p with | some j=>xr (I ((i+j:Nat):Int)) h | none=>x0 h:=by
 intro n;induction n with
 | zero=>intro i h1 h2;omega
 | succ n ih=>
  intro i h1 h2;show Zck P T D N (Z58 P T D N x0 xr n) x0 xr _ _ _ _ h=_
  unfold Zck;rcases Nat.lt_or_ge i l.length with hi | hi
  ·have hx:l[i]? = some l[i]:=List.getElem?_eq_getElem hi
   have hlt:((i:Int)<(l.length:Int)):=by omega
   have hw:IntKind.i64.wrap ((i:Int)+1)=((i+1:Nat):Int):=by rw[wrap64 (by omega) (by omega)];omega
   have hpx:=hp l[i] (List.getElem_mem hi);rw[List.drop_eq_getElem_cons hi,List.findIdx?_cons];simp[hlt,hx,hw,encM] at hpx ⊢
   rw[hpx];cases hc:p l[i] with
   | true=>simp
   | false=>
    have h3:=ih (i+1) hi (by omega)
    rw[show ((i:Int)+1)=((i+1:Nat):Int) by omega]
    simp only[Bool.false_eq_true,if_false];refine h3.trans ?_
    cases (List.drop (i+1) l).findIdx? p with
    | none=>rfl
    | some j=>
     show xr (I ((i+1+j:Nat):Int)) h=xr (I ((i+(j+1):Nat):Int)) h;rw[show i+1+j=i+(j+1) by omega]
  ·have:i=l.length:=by omega
   subst this
   simp
theorem ZBB{l:List Msg}{b:Bool}{fv:AV}{h:Hp}{p:Msg→Bool}{K:Kb β}(hl:l.length<N)(hN:N<4611686018427387904)(hp:∀x ∈ l,∀k:Kb β,callVK T fv [.agg (encM x)] h k=k (B (p x)) h):
  Z6a P T D N K (.lst 7 b (l.map encM)) fv h=K (I (match l.findIdx? p with | some j=>(j:Int) | none => -1)) h:=by
 unfold Z6a;simp only[Z07,List.length_map]
 have:=ZBA (P:=P) (D:=D) (N:=N) (b:=b) (x0:=λh=>Zcj P T D N K h) (xr:=λa h=>K a h) (by omega) hp N 0 (Nat.zero_le _) (by omega)
 simp only[List.drop_zero] at this;refine this.trans ?_
 cases l.findIdx? p with
 | none=>rfl
 | some j=>simp
end
theorem ZBC(m:Msg)(h:Hp):Z5e [.agg (encM m)] h=some (B (checkM m != 0),h):=by
 refine Zua (by simp[encM]) ?_ h
 have f:=Zgj m;obtain ⟨a0,a1,a2,a3,a4,a5,a6⟩:=m;simp only[encM] at f;simp -implicitDefEqProofs only[ZbW,encM,encDo,Z04,Z11,Nat.zero_add,Nat.add_zero,Nat.reduceAdd,Z1Z,Z20,Z21,Z22,Z23,Z24,Z25,Z26,Z27,Z28,Z29,Z2a,Z2b,Z2c,Z2d,Z2e,Z2f,Z2g,Z2h,Z2i,Z2j,lw7_0,ew7_0,bx7_0,Z1c,Z1d,Z1e,Z1f,Z14,Z1g,Z1h,Z1i,Z1j,Z1k,Z1l,Z1m,Z1n,Z1o,Z1p,Z1q,Z1r,Z1s,Z1t,Z1u,Z1v,lw7_1,ew7_1,bx7_1,Z1w,Z1x,Z1y,Z17,Z18,Z1z,Z1A,Z1B,Z1C,Z1D,Z1E,Z1F,Z1G,Z1H,Z1I,Z1J,Z1K,Z1L,Z1M,Z1N,Z1O,lw7_2,ew7_2,bx7_2,Z2k,Z2l,Z2m,Z2n,Z2o,Z2p,Z2q,Z2r,Z2s,Z2t,Z2u,Z2v,Z2w,Z2x,Z2y,Z2z,Z2A,Z2B,Z2C,Z2D,Z2E,lw7_3,ew7_3,bx7_3,Z1S,Z05,Z10,Z0g,Z0P,Z0J,Z0Q,Z00,Z03,Z0L,Bool.false_xor,Bool.true_xor,Z02,Z16,Z07,Z0S,Z1R,List.length_map,Zu7,f]
 rfl
theorem ZBD(l:List Msg)(hl:l.length<1000000)(b:Bool)(h:Hp):Z9r [SLm b l,.fn 68 []] h=some (B (l.any λm=>checkM m != 0),h):=by
 have e:∀h,Z9p [SLm b l,.fn 68 []] h=some (I (match l.findIdx? (λm=>checkM m != 0) with | some j=>(j:Int) | none => -1),h):=
  Zug rfl (by
   simp only[nrm,nrmC];rw[ZBB (p:=λm=>checkM m != 0) (by have:=NN_ge;omega) NN_lt (λx hx k=>by simp[ZBC])]
   rfl)
 refine Zun rfl ?_ h;simp only[nrm,nrmC,ZbV,Zuj,Z02,e];have:(l.any λm=>checkM m != 0)=(l.findIdx? λm=>checkM m != 0).isSome:=by rw[List.findIdx?_isSome]
 rw[this];cases l.findIdx? (λm=>checkM m != 0)<;>simp
def errM(l:List Msg):Int:=if 64<l.length then 8 else if (l.any λm=>checkM m != 0)=true then 1 else 0
theorem Z4s(l:List Msg):(normL l).length≤l.length:=by
 have:=Zen (sortM l)
 unfold normL;unfold sortM at this ⊢
 rwa [List.length_mergeSort] at this
theorem ZlQ{l:List Msg}:compL l=[]↔l=[]:=by
 match l with
 | []=>simp[compL]
 | [a]=>simp[compL]
 | a::b::l=>
  have ih:=@ZlQ (b::l);simp only[compL];split<;>simp_all
theorem ZlR(l:List Msg):(sortM l).length=l.length:=by unfold sortM;rw[List.length_mergeSort]
theorem ZlS(l:List Msg):(normL l).isEmpty=l.isEmpty:=by
 rw[Bool.eq_iff_iff,List.isEmpty_iff,List.isEmpty_iff];unfold normL
 rw[ZlQ, ← List.length_eq_zero_iff,ZlR,List.length_eq_zero_iff]
def normR(b:Bool)(l:List Msg):AV := .tup [if errM l=0 then SLm b (normL l) else .lst 7 true [],I (errM l)]
theorem ZlT(l:List Msg)(b:Bool)(hl:l.length<1000000):∀st,(Z40 Tryz.prog Z2Q Z6p NN (λv g=>cvt st g v) (SLm b l) [])=some (.tup [if errM l=0 then (if (b&&l.isEmpty)=true then nilS else SLm b (normL l)) else nilS,I (errM l)]):=by
 intro st;have f1:=ZBD l hl b
 have f2:=Zeo l b hl;by_cases h1:64<l.length
 ·have c1:((64:Int)<(l.length:Int)):=by omega
  simp[Z40,c1,errM,h1]
 ·have c1:¬((64:Int)<(l.length:Int)):=by omega
  cases h2:(l.any λm=>checkM m != 0) with
  | true=>
   rw[h2] at f1;simp only[Z40,Z07,List.length_map,Z0g,c1,decide_false,Z00,Bool.false_eq_true,if_false,ZkM,Z02,f1,if_true,errM,h1,h2]
   rfl
  | false=>
   rw[h2] at f1;simp only[Z40,Z07,List.length_map,Z0g,c1,decide_false,Z00,Bool.false_eq_true,if_false,ZkM,ZuC,ZuD,ZuE,Z02,f1,errM,h1,h2,f2,if_true];by_cases hb:(b&&l.isEmpty)=true
   ·simp only[hb,if_true,ZBz,ZBw]
    rfl
   ·have hb':(b&&l.isEmpty)=false:=by simpa using hb
    simp only[hb',Bool.false_eq_true,if_false,List.length_nil,Nat.zero_add,List.nil_append];rw[ZBy (l:=l) (b:=false) rfl hl];simp only[List.set_cons_succ,List.set_cons_zero];have hs:=ZlR l
    have:=ZBv (l:=sortM l) (id:=1) (h:=[.arr 7 [] true false,.arr 7 ((sortM l).map encM) true false]) rfl (by omega)
    rw[hs] at this;rw[this];simp only[List.set_cons_succ,List.set_cons_zero,Z2Y,Z1b,Z1a,cvt_s];have hn:(compL (sortM l)).length≤l.length:=by have:=Zen (sortM l);omega
    have:cvt st [.arr 7 [] true false,.arr 7 ((compL (sortM l)).map encM++List.replicate (l.length-(compL (sortM l)).length) zM) true false] (.sl 7 1 0 (compL (sortM l)).length l.length false)=some (.lst 7 false ((compL (sortM l)).map encM)):=by
     have ok:okE st ((compL (sortM l)).map encM)=true:=Z0U λx=>by cases st<;>simp[encM,isS]
     have tk:(((compL (sortM l)).map encM++List.replicate (l.length-(compL (sortM l)).length) zM).drop 0).take (compL (sortM l)).length=(compL (sortM l)).map encM:=by
      rw[List.drop_zero,List.take_append_of_le_length (by simp),List.take_of_length_le (by simp)]
     have hg:([.arr 7 [] true false,.arr 7 ((compL (sortM l)).map encM++List.replicate (l.length-(compL (sortM l)).length) zM) true false]:Hp)[1]? = some (.arr 7 ((compL (sortM l)).map encM++List.replicate (l.length-(compL (sortM l)).length) zM) true false):=rfl;unfold cvt;rw[hg];simp only[];rw[if_pos (by simp;omega),tk,if_pos ok]
    rw[this];show some (AV.tup [AV.lst 7 false ((normL l).map encM),I 0])=some (.tup [.lst 7 (b&&(normL l).isEmpty) ((normL l).map encM),I 0])
    rw[ZlS,hb']
theorem ZlU(l:List Msg)(b:Bool)(h:Hp):(some (nrmR [.l 7,.o] (AV.tup [if errM l=0 then (if (b&&l.isEmpty)=true then nilS else SLm b (normL l)) else nilS,I (errM l)]),h):Option (AV × Hp))=some (normR b l,h):=by
 unfold normR;by_cases h0:errM l=0
 ·simp only[h0,if_true]
  by_cases hb:(b&&l.isEmpty)=true
  ·have hb2:(b&&(normL l).isEmpty)=true:=by rw[ZlS];exact hb
   have hn:normL l=[]:=by simpa using (Bool.and_eq_true_iff.1 hb2).2
   have hb1:=(Bool.and_eq_true_iff.1 hb).1;subst hb1;simp only[hb,if_true,SLm,hn,List.map_nil]
   rfl
  ·rw[if_neg hb]
   rfl
 ·simp only[h0,if_false]
  rfl
theorem ZBE(l:List Msg)(b:Bool)(hl:l.length<1000000)(h:Hp):Z33 [SLm b l] h=some (normR b l,h):=
 (ZuG (a0:=SLm b l) rfl (ZlT l b hl false) h).trans (ZlU l b h)
theorem ZlV(l:List Msg){b:Bool}(hl:l.length<1000000){h:Hp}{v a:AV}(hv:cvts false h [v]=some [a])(ha:nrm (.l 7) a=SLm b l):Z33 [v] h=some (normR b l,h):=
 (ZuH (a0:=a) hv (λst=>by rw[ha];exact ZlT l b hl st)).trans (ZlU l b h)
end Go.AM


namespace Go.AM
section
variable {β α:Type}
theorem Z0d{r:R}{v:AV}{id:Nat}{o:AObj}{ft:List Nat}{h:Hp}(hr:r=some (v,⟨[(id,o)],[],ft⟩))(k:Kb β):effK r h k=k v (h.set id o):=by subst hr;simp[effK,ap]
theorem ldE{f:α→List AV}{sz:Nat}{W:List α}{id i n:Nat}{h:Hp}{b:Bool}{x:α}(hf:(f x).length=sz)(hid:h[id]? = some (.arr sz (W.map f) true b))(hn:W.length=n)(hx:W[i]? = some x)(k:K β):ldK sz true (.ptr id i 0 n) h k=k (.agg (f x)):=by
 subst hf;simp[hid,hn,hx,pickC]
theorem stEl{f:α→List AV}{sz:Nat}{W:List α}{id i n:Nat}{h:Hp}{b:Bool}{x:α}(hf:∀x,(f x).length=sz)(ho:(f x).all okC=true)(hid:h[id]? = some (.arr sz (W.map f) true b))(hn:W.length=n)(hi:i<W.length)(k:Kb β):effK (stE sz (.ptr id i 0 n) (.agg (f x)) h) h k=k .u (h.set id (.arr sz ((W.set i x).map f) true b)):=by
 have hx:W[i]? = some W[i]:=List.getElem?_eq_getElem hi
 have:stE sz (.ptr id i 0 n) (.agg (f x)) h=some (.u,⟨[(id,.arr sz ((W.map f).set i (f x)) true b)],[],[id]⟩):=by
  have e1:=hf x;have e2:=hf W[i];rw[Z0f,hid];simp only[List.length_map,hn,cellsOf,e1,ho,List.getElem?_map,hx,Option.map_some,e2,Nat.zero_add,Nat.le_refl,if_true,true_and,and_self];simp only[putAt,e1,List.take_zero,List.nil_append,Nat.zero_add];rw[List.drop_eq_nil_of_le (by omega),List.append_nil]
 rw[Z0d this,List.map_set]
end
structure Kept(h hh:Hp)(k:Nat):Prop where
 len:h.length≤hh.length
 same:∀j,j≠k→j<h.length→hh[j]? = h[j]?
theorem Kept.refl(h:Hp)(k:Nat):Kept h h k:=⟨Nat.le_refl _,λ_ _ _=>rfl⟩
theorem Kept.app{h hh:Hp}{k:Nat}(K:Kept h hh k)(g:Hp):Kept h (hh++g) k:=⟨by have:=K.len;simp;omega,λj h1 h2=>by rw[List.getElem?_append_left (by have:=K.len;omega)];exact K.same j h1 h2⟩
theorem Kept.set{h hh:Hp}{k:Nat}(K:Kept h hh k)(o:AObj):Kept h (hh.set k o) k:=⟨by have:=K.len;simpa using this,λj h1 h2=>by rw[List.getElem?_set_ne (Ne.symm h1)];exact K.same j h1 h2⟩
structure DelInv{α:Type}(f:α→List AV)(p:α→Bool)(sz:Nat)(l:List α)(h:Hp)(k i w:Nat)(hh:Hp)(W:List α):Prop where
 kept:Kept h hh k
 at_:hh[k]? = some (.arr sz (W.map f) true false)
 len:W.length=l.length
 hw:w=((l.take i).filter λx => !p x).length
 pre:W.take w=(l.take i).filter λx => !p x
 post:W.drop i=l.drop i
section
variable {α:Type} {f:α→List AV} {p:α→Bool} {sz:Nat} {l:List α} {h:Hp} {k i w:Nat} {hh:Hp} {W:List α}
theorem DelInv.wi(I:DelInv f p sz l h k i w hh W):w≤i:=by
 rw[I.hw];exact Nat.le_trans (List.length_filter_le _ _) (by rw[List.length_take];omega)
theorem DelInv.wl(I:DelInv f p sz l h k i w hh W):w≤l.length:=by
 rw[I.hw];exact Nat.le_trans (List.length_filter_le _ _) (by rw[List.length_take];omega)
theorem DelInv.get(I:DelInv f p sz l h k i w hh W){x:α}(hx:l[i]? = some x):W[i]? = some x:=by
 have:=congrArg (λq=>q[0]?) I.post
 simpa [hx] using this
theorem ZlW{l:List α}{i:Nat}{x:α}(hx:l[i]? = some x):l.take (i+1)=l.take i++[x]:=by rw[List.take_add_one,hx];rfl
theorem DelInv.skip(I:DelInv f p sz l h k i w hh W){x:α}(hx:l[i]? = some x)(hp:p x=true)(g:Hp):DelInv f p sz l h k (i+1) w (hh++g) W:=by
 have e:(l.take (i+1)).filter (λx => !p x)=(l.take i).filter λx => !p x:=by rw[ZlW hx];simp[hp]
 refine ⟨I.kept.app g,Z0a I.at_,I.len,by rw[e];exact I.hw,by rw[e];exact I.pre, ?_⟩
 have:=congrArg (List.drop 1) I.post
 simpa [List.drop_drop] using this
theorem DelInv.keep(I:DelInv f p sz l h k i w hh W){x:α}(hx:l[i]? = some x)(hp:p x=false)(g:Hp):DelInv f p sz l h k (i+1) (w+1) ((hh++g).set k (.arr sz ((W.set w x).map f) true false)) (W.set w x):=by
 have hi:=(List.getElem?_eq_some_iff.1 hx).1;have hw:=I.wi;have hl:=I.len;have e:(l.take (i+1)).filter (λx => !p x)=((l.take i).filter λx => !p x)++[x]:=by rw[ZlW hx];simp[hp]
 refine ⟨(I.kept.app g).set _, ?_,by simpa using hl,by rw[e,List.length_append, ← I.hw];rfl, ?_, ?_⟩
 ·have:=(List.getElem?_eq_some_iff.1 (Z0a (g:=g) I.at_)).1
  rw[List.getElem?_set_self this]
 ·rw[e, ← I.pre,List.take_add_one,List.take_set,List.getElem?_set_self (by omega),List.set_eq_of_length_le (by rw[List.length_take];omega)]
  rfl
 ·rw[List.drop_set_of_lt (by omega)]
  have:=congrArg (List.drop 1) I.post
  simpa [List.drop_drop] using this
theorem ZlX{β:Type}{z:List AV}{fr:Nat}{full:Bool}(hat:hh[k]? = some (.arr sz (W.map f) true false))(hw:w≤W.length)(hfr:fr=W.length)(K:Kb β):
  effK (clrE sz z (.sl sz k w (W.length-w) fr full) hh) hh K=K (.tup []) (hh.set k (.arr sz ((W.take w).map f++List.replicate (W.length-w) z) true false)):=by
 have:clrE sz z (.sl sz k w (W.length-w) fr full) hh=some (.tup [],⟨[(k,.arr sz ((W.take w).map f++List.replicate (W.length-w) z) true false)],[],[k]⟩):=by
  have e:w+(W.length-w)=W.length:=by omega
  simp only[clrE,hat,List.length_map,hfr,e,Nat.le_refl,and_self,if_true];rw[List.drop_eq_nil_of_le (by simp),List.append_nil,List.map_take]
 rw[Z0d this]
end
end Go.AM


namespace Go.AM
variable {β:Type} {P:Program} {kt:TypeId} {kk:IntKind}
structure TwoInts(P:Program)(kt:TypeId)(t:TypeId):Prop where
 st : ∃ fs : Array Field, P.underlying kt = some (.struct fs) ∧ ∃ f0 f1 : Field, fs = #[f0, f1] ∧ f0.type = t ∧ f1.type = t ∧ f0.offset = 0 ∧ f1.offset = 1 ∧ (f0.name = "_") = False ∧ (f1.name = "_") = False
 it:P.underlying t=some (.int .i64)
 held:P.stoodInHeld kt=false
theorem Z7a{t:TypeId}(it:P.underlying t=some (.int .i64))(cs:Array Value)(i:Nat){v:Value}(hv:cs[i]? = some v):pureVal P (part t cs i)=some v:=by
 unfold part;rw[Z2G]
 have:pureVal P (isAgg t)=some false:=by
  unfold isAgg;rw[Z2G,Z4v it]
  rfl
 rw[this,Option.bind_some];simp[hv]
 rfl
theorem ZlY{t:TypeId}(it:P.underlying t=some (.int .i64))(d:Nat)(a b:Int):pureVal P (Op.equalIn (d+1) t (.int .i64 a) (.int .i64 b))=some (a==b):=by
 unfold Op.equalIn
 rw[Z2G,Z4v it]
 rfl
theorem ZBF{t:TypeId}(H:TwoInts P kt t)(a b c e:Int):pureVal P (Op.equal kt (.agg #[.int .i64 a,.int .i64 b]) (.agg #[.int .i64 c,.int .i64 e]))=some (a==c&&b==e):=by
 obtain ⟨⟨fs,hu,f0,f1,rfl,t0,t1,o0,o1,q0,q1⟩,it,hh⟩:=H;unfold Op.equal;rw[show Op.maxDepth=(Op.maxDepth-2)+1+1 from rfl];unfold Op.equalIn;rw[Z2G,Z4v hu];simp only[Option.bind_some];have pp:pureVal P program=some P:=rfl;have e0:=Z7a it #[.int .i64 a,.int .i64 b] 0 (v := .int .i64 a) rfl;have e1:=Z7a it #[.int .i64 a,.int .i64 b] 1 (v := .int .i64 b) rfl;have e2:=Z7a it #[.int .i64 c,.int .i64 e] 0 (v := .int .i64 c) rfl;have e3:=Z7a it #[.int .i64 c,.int .i64 e] 1 (v := .int .i64 e) rfl;have g0:=ZlY it (Op.maxDepth-2) a c;have g1:=ZlY it (Op.maxDepth-2) b e;rw[Z2G,pp,Option.bind_some,hh];simp only[Bool.false_eq_true,if_false, ← Array.forIn_toList,List.forIn_cons,List.forIn_nil,Z2G,t0,t1,o0,o1,q0,q1,e0,e1,e2,e3,g0,g1,Option.bind_some,ne_eq,not_false_eq_true,if_true]
 cases h1:(a==c)<;>cases h2:(b==e)<;>simp[h1,h2,Z2G,Zit,e1,e3,g1]
theorem Zgm{t:TypeId}(H:TwoInts P kt t)(a b c e:Int):keyEq P kt (.agg #[.int .i64 a,.int .i64 b]) (.agg #[.int .i64 c,.int .i64 e])=some (decide ((a,b)=(c,e))):=by
 unfold keyEq;rw[ZBF H]
 by_cases h1:a=c
 ·by_cases h2:b=e
  ·subst h1 h2
   have:Instr.sameBits 10000 (.agg #[.int .i64 a,.int .i64 b]) (.agg #[.int .i64 a,.int .i64 b])=true:=by simp[Instr.sameBits]
   simp[this]
  ·have:(b==e)=false:=by simpa using h2
   rw[this];simp[h2]
 ·have:(a==c)=false:=by simpa using h1
  rw[this];simp[h1]
theorem Zep{t:TypeId}(H:TwoInts P kt t)(a b:Int):keyOk P kt (.agg #[.int .i64 a,.int .i64 b])=true:=by
 obtain ⟨⟨fs,hu,f0,f1,rfl,t0,t1,o0,o1,q0,q1⟩,it,hh⟩:=H
 have ck:∀(m:Bool)(n:Nat)(v:Int),pureVal P (Instr.checkKey m (n+1) t (.int .i64 v))=some ():=by
  intro m n v;unfold Instr.checkKey
  rw[Z2G,Z4v it]
  rfl
 have e0:=Z7a it #[.int .i64 a,.int .i64 b] 0 (v := .int .i64 a) rfl;have e1:=Z7a it #[.int .i64 a,.int .i64 b] 1 (v := .int .i64 b) rfl
 have key:∀m,pureVal P (Instr.checkKey m 10000 kt (.agg #[.int .i64 a,.int .i64 b]))=some ():=by
  intro m;rw[show (10000:Nat)=9998+1+1 from rfl]
  unfold Instr.checkKey
  rw[Z2G,Z4v hu];simp only[Option.bind_some];simp only[← Array.forIn_toList,List.forIn_cons,List.forIn_nil,Z2G,t0,t1,o0,o1,q0,q1,e0,e1,ck,Option.bind_some,ne_eq,not_false_eq_true,if_true,Zit]
 unfold keyOk;rw[key,key]
 rfl
abbrev keyT(p:Int × Int):Value := .agg #[.int .i64 p.1,.int .i64 p.2]
abbrev keyA(p:Int × Int):AV := .agg [.s (.int .i64 p.1),.s (.int .i64 p.2)]
section
variable {α:Type}
def kvT(f:α→AV)(c:List ((Int × Int) × α)):List (Value × AV):=c.map λe=>(keyT e.1,f e.2)
def fndT:List ((Int × Int) × α)→Int × Int→Option (Nat × α)
 | [],_=>none
 | (q,x)::r,p=>if p=q then some (0,x) else (fndT r p).map λy=>(y.1+1,y.2)
def updT:List ((Int × Int) × α)→Int × Int→α→List ((Int × Int) × α)
 | [],p,x=>[(p,x)]
 | (q,y)::r,p,x=>if p=q then (p,x)::r else (q,y)::updT r p x
theorem Zgn:∀{c:List ((Int × Int) × α)}{p:Int × Int}{j:Nat}{x:α},fndT c p=some (j,x)→c[j]? = some (p,x)∧∀y,updT c p y=c.set j (p,y)
 | [],p,j,x,h=>by simp[fndT] at h
 | (q,y)::r,p,j,x,h=>by
  simp only[fndT] at h;by_cases e:p=q
  ·rw[if_pos e] at h
   simp only[Option.some.injEq,Prod.mk.injEq] at h;obtain ⟨rfl,rfl⟩:=h
   subst e;exact ⟨rfl,λz=>by simp[updT]⟩
  ·rw[if_neg e] at h
   simp only[Option.map_eq_some_iff,Prod.mk.injEq] at h;obtain ⟨⟨i,z⟩,h1,rfl,rfl⟩:=h
   obtain ⟨h2,h3⟩:=Zgn h1;exact ⟨by simpa using h2,λw=>by simp only[updT,if_neg e,h3];rfl⟩
theorem ZlZ:∀{c:List ((Int × Int) × α)}{p:Int × Int},fndT c p=none→(∀y,updT c p y=c++[(p,y)])∧∀y,fndT (c++[(p,y)]) p=some (c.length,y)
 | [],p,_=>⟨λ_=>rfl,λ_=>by simp[fndT]⟩
 | (q,z)::r,p,h=>by
  simp only[fndT] at h;by_cases e:p=q
  ·rw[if_pos e] at h;cases h
  ·rw[if_neg e,Option.map_eq_none_iff] at h
   obtain ⟨h1,h2⟩:=ZlZ h;exact ⟨λy=>by simp only[updT,if_neg e,h1];rfl,λy=>by simp only[List.cons_append,fndT,if_neg e,h2];rfl⟩
theorem Zm0:∀(c:List ((Int × Int) × α))(p q:Int × Int)(x:α),(fndT (updT c p x) q).map (·.2)=if q=p then some x else (fndT c q).map (·.2)
 | [],p,q,x=>by simp only[updT,fndT];by_cases e:q=p<;>simp[e]
 | (r,y)::c,p,q,x=>by
  have ih:=Zm0 c p q x;simp only[updT];by_cases e:p=r
  ·subst e
   simp only[if_true,fndT];by_cases e2:q=p<;>simp[e2]
  ·simp only[if_neg e,fndT]
   by_cases e2:q=r
   ·subst e2
    simp[Ne.symm e]
   ·simp only[if_neg e2,Option.map_map]
    rw[show ((λx:Nat × α=>x.2) ∘ λy:Nat × α=>(y.1+1,y.2))=λx=>x.2 from rfl]
    exact ih
variable {f:α→AV} {t:TypeId}
theorem Zeq(H:TwoInts P kt t)(p:Int × Int):∀c:List ((Int × Int) × α),findKV (kvT f c) (keyEq P kt) (keyT p)=some ((fndT c p).map λr=>(r.1,f r.2))
 | []=>rfl
 | (q,x)::c=>by
  have ih:=Zeq H p c;simp only[kvT,List.map_cons,findKV,Zgm H,fndT] at ih ⊢
  by_cases e:p=q
  ·subst e;simp
  ·have hd:decide ((p.1,p.2)=(q.1,q.2))=false:=decide_eq_false e
   simp only[hd,if_neg e,ih,Option.map_some,Option.map_map]
   rfl
theorem Zm1(H:TwoInts P kt t)(p:Int × Int):∀c:List ((Int × Int) × α),lookupKV (kvT f c) (keyEq P kt) (keyT p)=some ((fndT c p).map λr=>f r.2)
 | []=>rfl
 | (q,x)::c=>by
  have ih:=Zm1 H p c;simp only[kvT,List.map_cons,lookupKV,Zgm H,fndT] at ih ⊢
  by_cases e:p=q
  ·subst e;simp
  ·have hd:decide ((p.1,p.2)=(q.1,q.2))=false:=decide_eq_false e
   simp only[hd,if_neg e,ih,Option.map_map]
   rfl
theorem Zm2(H:TwoInts P kt t)(p:Int × Int)(x:α):∀c:List ((Int × Int) × α),updateKV (kvT f c) (keyEq P kt) (keyT p) (f x)=some (kvT f (updT c p x))
 | []=>rfl
 | (q,y)::c=>by
  have ih:=Zm2 H p x c;simp only[kvT,List.map_cons,updateKV,Zgm H,updT] at ih ⊢
  by_cases e:p=q
  ·subst e;simp
  ·have hd:decide ((p.1,p.2)=(q.1,q.2))=false:=decide_eq_false e
   simp only[hd,if_neg e,ih,Option.map_some,List.map_cons]
theorem Zm3{h:Hp}{id:Nat}{c:List ((Int × Int) × α)}{z:AV}{ok:Bool}{p:Int × Int}(H:TwoInts P kt t)(hid:h[id]? = some (.map (kvT f c)))(k:K β):
  lookK P kt z ok (.mp id) (keyA p) h k=match fndT c p with
   | some r=>k (if ok then .tup [f r.2,.s (.bool true)] else f r.2)
   | none=>k (if ok then .tup [z,.s (.bool false)] else z):=by
 unfold lookK;have e:toV (keyA p)=some (keyT p):=rfl
 simp only[e,hid,Zep H,Zm1 H p c,if_true];cases fndT c p<;>rfl
theorem ZBG{h:Hp}{id:Nat}{c:List ((Int × Int) × α)}{p:Int × Int}{x:α}(H:TwoInts P kt t)(hid:h[id]? = some (.map (kvT f c))):
  mupE P kt (.mp id) (keyA p) (f x) h=some (.u,⟨[(id,.map (kvT f (updT c p x)))],[],[id]⟩):=by
 unfold mupE;have e:toV (keyA p)=some (keyT p):=rfl
 simp only[e,hid,Zep H,Zm2 H p x c,if_true]
theorem ZBH{h:Hp}{id:Nat}{c:List ((Int × Int) × α)}{p:Int × Int}{z x:α}(H:TwoInts P kt t)(hid:h[id]? = some (.map (kvT f c))):
  ∃(b:AV)(j:Nat)(c1:List ((Int × Int) × α)),mentE P kt (f z) (.mp id) (keyA p) h=some (.tup [b,.s (.int .i64 j)],⟨[(id,.map (kvT f c1))],[],[id]⟩) ∧
   ∀h1:Hp,h1[id]? = some (.map (kvT f c1))→estE (.mp id) (.s (.int .i64 j)) (f x) h1=some (.u,⟨[(id,.map (kvT f (updT c p x)))],[],[id]⟩):=by
 have e:toV (keyA p)=some (keyT p):=rfl;cases hf:fndT c p with
 | some r=>
  obtain ⟨j,y⟩:=r;obtain ⟨g1,g2⟩:=Zgn hf;have gk:(kvT f c)[j]? = some (keyT p,f y):=by simp[kvT,g1]
  have gs:(kvT f c).set j (keyT p,f y)=kvT f c:=Z15 gk;refine ⟨f y,j,c, ?_,λh1 hh => ?_⟩
  ·unfold mentE
   simp only[e,hid,Zep H,Zeq H p c,hf,Option.map_some,if_true,gs]
  ·unfold estE
   simp only[hh];rw[if_pos (by omega),Int.toNat_natCast,gk]
   simp only[kvT,g2,List.map_set]
 | none=>
  obtain ⟨g1,g2⟩:=ZlZ hf;have ga:kvT f c++[(keyT p,f z)]=kvT f (c++[(p,z)]):=by simp[kvT]
  have gl:(kvT f c).length=c.length:=by simp[kvT]
  refine ⟨f z,c.length,c++[(p,z)], ?_,λh1 hh => ?_⟩
  ·unfold mentE
   simp only[e,hid,Zep H,Zeq H p c,hf,Option.map_none,if_true,ga,Zeq H p (c++[(p,z)]),g2,Option.map_some,gl]
  ·unfold estE
   simp only[hh];rw[if_pos (by omega),Int.toNat_natCast]
   have:(kvT f (c++[(p,z)]))[c.length]? = some (keyT p,f z):=by simp[kvT]
   rw[this];simp[kvT,g1]
end
theorem Zgo{n j:Nat}{seen:List Nat}:j ∈ leftIt n seen↔j<n∧j ∉ seen:=by
 unfold leftIt;rw[List.mem_filter,List.mem_range]
 simp
theorem ZBI{n j:Nat}{seen:List Nat}(hj:j ∈ leftIt n seen):(leftIt n (seen++[j])).length<(leftIt n seen).length:=by
 obtain ⟨h1,h2⟩:=Zgo.1 hj;unfold leftIt
 have:(List.range n).filter (λi => !(seen++[j]).contains i)=((List.range n).filter λi => !seen.contains i).filter λi=>i != j:=by
  rw[List.filter_filter];congr 1
  funext i
  simp[List.contains_append];by_cases e:i=j<;>simp[e]
 rw[this];exact List.length_filter_lt_length_iff_exists.2 ⟨j,hj,by simp⟩
theorem ZBJ{d x:Option β}{l:List (Option β)}(h0:l=[]→d=x)(h:∀y ∈ l,y=x):allSame d l=x:=by
 cases l with
 | nil=>exact h0 rfl
 | cons y ys=>
  simp only[allSame];rw[if_pos λz hz=>by rw[h z (by simp[hz]),h y (by simp)]]
  exact h y (by simp)
theorem ZBK{h:Hp}{id m n:Nat}{seen:List Nat}{kvs:List (Value × AV)}{X:Option β}(hid:h[id]? = some (.iter m n seen))(hm:h[m]? = some (.map kvs))(hn:kvs.length=n)(k:Kb β)
  (h0:leftIt n seen=[]→k (.tup [.s (.bool false)]) h=X) (h1:∀j ∈ leftIt n seen,k (.tup [.s (.bool true),.u,.u]) (h.set id (.iter m n (seen++[j])))=X):nextK (.it id) h k=X:=by
 unfold nextK;simp only[hid,hm,hn,if_true]
 refine ZBJ (λe=>h0 (by simpa using e)) λy hy => ?_
 obtain ⟨j,hj,rfl⟩:=List.mem_map.1 hy;exact h1 j hj
theorem ZBL{h:Hp}{id m n j:Nat}{seen:List Nat}{kvs:List (Value × AV)}{ky:Value}{v:AV}(hid:h[id]? = some (.iter m n (seen++[j])))(hm:h[m]? = some (.map kvs))(hn:kvs.length=n)(hj:kvs[j]? = some (ky,v))(k:K β):entryK (.it id) h k=k (.tup [keyAV ky,v]):=by
 unfold entryK;simp only[hid,hm,List.getLast?_append,List.getLast?_singleton,Option.some_or,hn,if_true,hj]
end Go.AM


namespace Go.AM
open Go.Proofs
attribute [local congr] Z0i Z0j Z0k Z0l Z0m Z0n Z0o Z0p Z0q Z0r Z0s Z0t Z0u Z0v Z0w Z0x Z0y Z0z Z0A Z0B Z0C Z0D Z0E Z0F Z0G Z0H Z0I
structure Envl where
 frm:Int
 to:Int
 num:Int
 msg:Msg
deriving DecidableEq
def encV(e:Envl):List AV:=[I e.frm,I e.to,I e.num,I e.msg.mv,I e.msg.kind,I e.msg.num,I e.msg.day,I e.msg.frm,I e.msg.to,I e.msg.alc]
abbrev zE:List AV:=[I 0,I 0,I 0,I 0,I 0,I 0,I 0,I 0,I 0,I 0]
section
variable {β:Type}
theorem nbx{h:Hp}(k:Kb β):effK (boxE 10 (.agg zE) h.length) h k=k (.ptr h.length 0 0 1) (h++[.arr 10 [zE] true false]):=Z2F 10 h.length (.agg zE) h k rfl rfl rfl
theorem nst{h:Hp}{m:Envl}(k:Kb β):effK (stE 10 (.ptr h.length 0 0 1) (.agg (encV m)) (h++[.arr 10 [zE] true false])) (h++[.arr 10 [zE] true false]) k=k .u (h++[.arr 10 [encV m] true false]):=by
 rw[Z0d (v := .u) (id:=h.length) (o := .arr 10 [encV m] true false) (ft:=[h.length]) (by simp[encV]),Z3r];rfl
theorem nl0{h:Hp}{m:Envl}(k:Go.AM.K β):ldK 1 false (.ptr h.length 0 0 1) (h++[.arr 10 [encV m] true false]) k=k (I m.frm):=by simp[encV]
theorem nl1{h:Hp}{m:Envl}(k:Go.AM.K β):ldK 1 false (.ptr h.length 0 1 1) (h++[.arr 10 [encV m] true false]) k=k (I m.to):=by simp[encV]
theorem nl2{h:Hp}{m:Envl}(k:Go.AM.K β):ldK 1 false (.ptr h.length 0 2 1) (h++[.arr 10 [encV m] true false]) k=k (I m.num):=by simp[encV]
theorem nl3{h:Hp}{m:Envl}(k:Go.AM.K β):ldK 7 true (.ptr h.length 0 3 1) (h++[.arr 10 [encV m] true false]) k=k (.agg (encM m.msg)):=by simp[encV,encM]
theorem nlw{h:Hp}{m:Envl}(k:Go.AM.K β):ldK 10 true (.ptr h.length 0 0 1) (h++[.arr 10 [encV m] true false]) k=k (.agg (encV m)):=by simp[encV]
end
def rangeE(e:Envl):Bool:=decide (e.frm<1)||decide (99<e.frm)||decide (e.to<1)||decide (99<e.to)||decide (e.num<1)||decide (1073741824<e.num)
def formE(e:Envl):Int:=if rangeE e=true then 2 else if e.frm=e.to then 10 else if checkM e.msg≠0 then 1 else 0
abbrev fU:Unit→AV:=λ_=>B true
theorem twoN:TwoInts Tryz.prog 107 3:=⟨⟨_,Tryz.underlying107,_,_,rfl,rfl,rfl,rfl,rfl,eq_false (by decide),eq_false (by decide)⟩,Tryz.underlying3,by kernel_rfl⟩
def chkE:List ((Int × Int) × Unit)→Nat→List Envl→Int × Int
 | _,_,[]=>(-1,0)
 | c,i,x::l=>if formE x≠0 then ((i:Int),formE x) else if (fndT c (x.frm,x.num)).isSome=true then ((i:Int),6) else chkE (updT c (x.frm,x.num) ()) (i+1) l
def chkS(l:List Envl):Int × Int:=if 64<l.length then (-1,8) else chkE [] 0 l
theorem ZBM{T:Tab}{D:DTab}{N:Nat}{x0:Hp→Option AV}{xr:AV→Kb AV}{X:Int × Int→Option AV}{l:List Envl}{b:Bool}(hT:T 41=some Z3h)(hl:l.length<1000000)(h0:∀h,x0 h=X (-1,0))(hr:∀(i e:Int) h,xr (I i) (I e) h=X (i,e)):∀(n:Nat)(pre post:List Envl)(c:List ((Int × Int) × Unit))(h:Hp),l=pre++post→post.length<n→h[0]? = some (.map (kvT fU c))→
  Z4Q Tryz.prog T D N x0 xr n (.mp 0) (.lst 10 b (l.map encV)) (I l.length) (I pre.length) h=X (chkE c pre.length post):=by
 intro n;induction n with
 | zero=>intro pre post c h _ h2;omega
 | succ n ih=>
  intro pre post c h hc hn hm;show Z8m Tryz.prog T D N (Z4Q Tryz.prog T D N x0 xr n) x0 xr _ _ _ _ h=_
  cases post with
  | nil=>
   have:l=pre:=by simpa using hc
   subst this;have c1:¬((l.length:Int)<(l.length:Int)):=by omega
   simp -implicitDefEqProofs only[Z8m,Z05,c1,decide_false,Z00,Bool.false_eq_true,if_false]
   exact h0 h
  | cons x post=>
   have hi:pre.length<l.length:=by rw[hc];simp
   have hx:l[pre.length]? = some x:=by rw[hc];simp
   have hlt:((pre.length:Int)<(l.length:Int)):=by omega
   have hw:IntKind.i64.wrap ((pre.length:Int)+1)=(((pre++[x]).length:Nat):Int):=by rw[wrap64 (by omega) (by omega)];simp
   have ic:∀k:KV,iaK 10 (.lst 10 b (l.map encV)) (I pre.length) k=k (.ep (encV x) 0):=λk=>Z0M pre.length rfl hx k
   have ld:∀k:KV,ldK 10 true (.ep (encV x) 0) h k=k (.agg (encV x)):=λk=>rfl
   obtain ⟨h1,hh1⟩:∃h1,h1=h++[AObj.arr 10 [encV x] true false]:=⟨_,rfl⟩;have hm1:h1[0]? = some (.map (kvT fU c)):=by rw[hh1];exact Z0a hm
   have m0:∀k:KV,ldK 1 false (.ptr h.length 0 0 1) h1 k=k (I x.frm):=λk=>by rw[hh1];exact nl0 k
   have m1:∀k:KV,ldK 1 false (.ptr h.length 0 1 1) h1 k=k (I x.to):=λk=>by rw[hh1];exact nl1 k
   have m2:∀k:KV,ldK 1 false (.ptr h.length 0 2 1) h1 k=k (I x.num):=λk=>by rw[hh1];exact nl2 k
   have m3:∀k:KV,ldK 7 true (.ptr h.length 0 3 1) h1 k=k (.agg (encM x.msg)):=λk=>by rw[hh1];exact nl3 k
   have bd:∀k:KV,buildK zz2 [(some (0,1),I x.frm),(some (1,1),I x.num)] k=k (keyA (x.frm,x.num)):=λk=>rfl
   have lk:∀k:KV,lookK Tryz.prog 107 (.s (.bool false)) false (.mp 0) (keyA (x.frm,x.num)) h1 k=k (B (fndT c (x.frm,x.num)).isSome):=λk=>by
    rw[Zm3 (p:=(x.frm,x.num)) (f:=fU) (c:=c) twoN hm1];cases fndT c (x.frm,x.num)<;>rfl
   have mu:∀k:Kb AV,effK (mupE Tryz.prog 107 (.mp 0) (keyA (x.frm,x.num)) (.s (.bool true)) h1) h1 k=k .u (h1.set 0 (.map (kvT fU (updT c (x.frm,x.num) ())))):=λk=>
    Z0d (ZBG (p:=(x.frm,x.num)) (f:=fU) (x:=()) (c:=c) twoN hm1) k
   have fd:=Zgj x.msg;have ns:∀k:Kb AV,effK (stE 10 (.ptr h.length 0 0 1) (.agg (encV x)) (h++[.arr 10 [zE] true false])) (h++[.arr 10 [zE] true false]) k=k .u h1:=λk=>by rw[hh1];exact nst k
   have rg:((((decide (x.frm<1)||decide (x.frm > 99))||decide (x.to<1))||decide (x.to > 99))||decide (x.num<1)||decide (x.num > 1073741824))=rangeE x:=rfl
   simp -implicitDefEqProofs only[Z8m,Z05,hlt,decide_true,Z00,if_true,ic,ld,nbx,ns,Z04,Nat.zero_add,m0,m1,m2,m3,Z0g,Z0J,rg,Z03,Bool.false_xor,Bool.true_xor,hT,Z02,fd,bd,lk,mu,Z0e,hw,hr]
   have ih1:=ih (pre++[x]) post (updT c (x.frm,x.num) ()) (h1.set 0 (.map (kvT fU (updT c (x.frm,x.num) ())))) (by simpa using hc) (by simpa using hn) (List.getElem?_set_self (List.getElem?_eq_some_iff.1 hm1).1)
   rw[show (pre++[x]).length=pre.length+1 by simp] at ih1 ⊢
   simp only[chkE];cases hrg:rangeE x with
   | true=>simp[formE,hrg]
   | false=>
    by_cases e1:x.frm=x.to
    ·simp[formE,hrg,e1]
    ·by_cases e2:checkM x.msg=0
     ·cases e3:(fndT c (x.frm,x.num)).isSome with
      | true=>simp[formE,hrg,e1,e2]
      | false=>
       simp[formE,hrg,e1,e2];simpa using ih1
     ·simp[formE,hrg,e1,e2]
def tupP(r:Int × Int):AV := .tup [I r.1,I r.2]
theorem ZBN(l:List Envl)(b:Bool)(hl:l.length<1000000)(h:Hp):Z4d [.lst 10 b (l.map encV)] h=some (tupP (chkS l),h):=by
 refine ZuZ (a0 := .lst 10 b (l.map encV)) (v:=tupP (chkS l)) rfl ?_ h;unfold chkS;simp only[nrm,nrmC];simp -implicitDefEqProofs only[Z8n,Z07,List.length_map,Z0g,Z00];by_cases h64:64<l.length
 ·have c:(l.length:Int) > 64:=by omega
  simp only[c,decide_true,if_true,if_pos h64]
  rfl
 ·have c:¬(l.length:Int) > 64:=by omega
  have em:∀k:Kb AV,effK (some (.mp ([]:Hp).length,EN (.map []))) [] k=k (.mp 0) [.map []]:=λk=>rfl
  simp only[c,decide_false,Bool.false_eq_true,if_false,if_neg h64,em];exact ZBM (X:=λr=>some (tupP r)) rfl hl (λh=>rfl) (λi e h=>rfl) NN [] l [] [.map []] rfl (by have:=NN_ge;omega) rfl
end Go.AM


namespace Go.AM
open Go.Proofs
attribute [local congr] Z0i Z0j Z0k Z0l Z0m Z0n Z0o Z0p Z0q Z0r Z0s Z0t Z0u Z0v Z0w Z0x Z0y Z0z Z0A Z0B Z0C Z0D Z0E Z0F Z0G Z0H Z0I
abbrev enI(n:Int):List AV:=[I n]
section
variable {β:Type} {P:Program} {T:Tab} {D:DTab} {N:Nat} {K:Kb β}
end
end Go.AM


namespace Go.AM
open Go.Proofs
attribute [local congr] Z0i Z0j Z0k Z0l Z0m Z0n Z0o Z0p Z0q Z0r Z0s Z0t Z0u Z0v Z0w Z0x Z0y Z0z Z0A Z0B Z0C Z0D Z0E Z0F Z0G Z0H Z0I
theorem ZBO{h:Hp}{g:List AObj}{id:Nat}{x o:AObj}(hid:h[id]? = some x):(h++g).set id o=h.set id o++g:=by
 rw[List.set_append_left _ _ (List.getElem?_eq_some_iff.1 hid).1]
theorem beginN{β:Type}{h:Hp}{g:List AObj}{L m:Nat}{ps:Array Tmp}{asg body:Code}{ts:Tm}{pend:Option Code}(hL:h[L]? = some (.loop m ps asg body ts .ready pend))(k:Qb β):
  beginX L m ps asg body ts (h++g) k=k (h.set L (.loop m ps asg body ts .busy pend)++g):=by
 unfold beginX;rw[Z0a hL]
 simp only
 rw[ZBO hL]
theorem getSetN{h:Hp}{i j:Nat}{x o:AObj}(hj:h[j]? = some x)(hij:i≠j):(h.set i o)[j]? = some x:=by rw[List.getElem?_set_ne hij];exact hj
theorem getSelfN{h:Hp}{i:Nat}{x o:AObj}(hi:h[i]? = some x):(h.set i o)[i]? = some o:=List.getElem?_set_self (List.getElem?_eq_some_iff.1 hi).1
theorem ZBP{β:Type}{T:Tab}{F:Fun}{f:FuncId}{caps:List AV}{h h':Hp}{m:Nat}{ps:Array Tmp}{asg body:Code}{ts:Tm}{v:AV}{pend:Option Code}{k:Option Code→Qb β}(hT:T f=some F)(hF:F (.yl h.length::caps) (h++[.loop m ps asg body ts .ready none])=some (v,h'))(hl:h'[h.length]? = some (.loop m ps asg body ts .ready pend)):
  rangeX T (.fn f caps) m ps asg body ts h k=k pend (h'.set h.length (.loop m ps asg body ts .exhausted pend)):=by
 unfold rangeX;simp only[hT,Z02,hF,hl]
section
variable {β:Type} {P:Program} {kt:TypeId}
end
end Go.AM


namespace Go.AM
open Go.Proofs
attribute [local congr] Z0i Z0j Z0k Z0l Z0m Z0n Z0o Z0p Z0q Z0r Z0s Z0t Z0u Z0v Z0w Z0x Z0y Z0z Z0A Z0B Z0C Z0D Z0E Z0F Z0G Z0H Z0I
theorem Kept.trans{h h1 h2:Hp}{k:Nat}(a:Kept h h1 k)(b:Kept h1 h2 k):Kept h h2 k:=⟨by have:=a.len;have:=b.len;omega,λj h1 h2=>by rw[b.same j h1 (by have:=a.len;omega),a.same j h1 h2]⟩
end Go.AM


namespace Go.AM
open Go.Proofs
section
variable {β:Type} {P:Program} {T:Tab} {D:DTab} {N:Nat} {K:Kb β}
theorem ZBQ{T:Tab}{D:DTab}{N:Nat}{x0:Qb β}{xr:Kb β}{l:List Msg}{b:Bool}{v:Msg}{h:Hp}{m:Nat}(hm:h[m]? = some (.arr 7 [encM v] true false))(hl:l.length<4611686018427387904)(heq:∀(x y:Msg)(h:Hp)(k:Go.AM.K β),eqK Tryz.prog false 50 (.agg (encM x)) (.agg (encM y)) h k=k (B (x==y))):
  ∀(n i:Nat),i≤l.length→l.length<i+n→Z51 Tryz.prog T D N x0 xr n (.lst 7 b (l.map encM)) (.ptr m 0 0 1) (I l.length) (I i) h=match (l.drop i).findIdx? (λy=>v==y) with | some j=>xr (I ((i+j:Nat):Int)) h | none=>x0 h:=by
 intro n;induction n with
 | zero=>intro i h1 h2;omega
 | succ n ih=>
  intro i h1 h2;show Zca Tryz.prog T D N (Z51 Tryz.prog T D N x0 xr n) x0 xr _ _ _ _ h=_
  unfold Zca;rcases Nat.lt_or_ge i l.length with hi | hi
  ·have hx:l[i]? = some l[i]:=List.getElem?_eq_getElem hi
   have hlt:((i:Int)<(l.length:Int)):=by omega
   have hw:IntKind.i64.wrap ((i:Int)+1)=((i+1:Nat):Int):=by rw[wrap64 (by omega) (by omega)];omega
   have hpx:=λk=>heq v l[i] h k
   have h3:=ih (i+1) hi (by omega)
   have ic:∀k:Go.AM.K β,iaK 7 (.lst 7 b (l.map encM)) (I i) k=k (.ep (encM l[i]) 0):=λk=>Z0M i rfl hx k
   have ld:∀k:Go.AM.K β,ldK 7 true (.ep (encM l[i]) 0) h k=k ((λy => .agg (encM y)) l[i]):=λk=>by simp[encM]
   rw[List.drop_eq_getElem_cons hi,List.findIdx?_cons];have lv:∀k:Go.AM.K β,ldK 7 true (.ptr m 0 0 1) h k=k ((λx => .agg (encM x)) v):=λk=>by simp[hm,encM]
   dsimp only at h3 ld lv ⊢
   simp only[Z05,hlt,decide_true,Z00,if_true,ic,ld,lv,hpx];cases hc:(v==l[i]) with
   | true=>simp
   | false=>
    simp only[Bool.false_eq_true,if_false,Z0e,hw];refine h3.trans ?_
    cases (List.drop (i+1) l).findIdx? (λy=>v==y) with
    | none=>rfl
    | some j=>
     show xr (I ((i+1+j:Nat):Int)) h=xr (I ((i+(j+1):Nat):Int)) h;rw[show i+1+j=i+(j+1) by omega]
  ·have:i=l.length:=by omega
   subst this
   simp
theorem ZBR(l:List Msg)(b:Bool)(v:Msg)(hl:l.length<1000000)(heq:∀(x y:Msg) (h:Hp) (k:KV),eqK Tryz.prog false 50 (.agg (encM x)) (.agg (encM y)) h k=k (B (x==y)))(h:Hp):Z9H [.lst 7 b (l.map encM),(λx => .agg (encM x)) v] h=some (B (l.contains v),h):=by
 have e:∀h,Z9F [.lst 7 b (l.map encM),(λx => .agg (encM x)) v] h=some (I (match l.findIdx? (λy=>v==y) with | some j=>(j:Int) | none => -1),h):=
  Zw5 rfl (by
   have:=ZBQ (l:=l) (T:=Z6y) (D:=Z6x) (N:=NN) (b:=b) (v:=v) (h:=[.arr 7 [encM v] true false]) (m:=0) (x0:=λh=>Zc9 Tryz.prog Z6y Z6x NN (λv g=>cvt false g v) h) (xr:=λa h=>cvt false h a) rfl (by omega) heq NN 0 (Nat.zero_le _) (by have:=NN_ge;omega)
   have bx:∀k:Kb AV,effK (boxE 7 ((λx => .agg (encM x)) v) ([]:Hp).length) [] k=k (.ptr 0 0 0 1) [.arr 7 [encM v] true false]:=λk=>by simp[boxE,encM]
   simp only[nrm,nrmC,Z8R,Z07,List.length_map,bx];simp only[List.drop_zero] at this;refine this.trans ?_
   cases l.findIdx? (λy=>v==y) with
   | none=>rfl
   | some j=>simp)
 have bx:∀k:Kb AV,effK (boxE 7 ((λx => .agg (encM x)) v) ([]:Hp).length) [] k=k (.ptr 0 0 0 1) [.arr 7 [encM v] true false]:=λk=>by simp[boxE,encM]
 have lv:∀k:KV,ldK 7 true (.ptr 0 0 0 1) [.arr 7 [encM v] true false] k=k ((λx => .agg (encM x)) v):=λk=>by simp[encM]
 refine Zwc rfl ?_ h;simp only[nrm,nrmC,ZbB,bx,lv,Zw8,Z02,e];have:l.contains v=(l.findIdx? (λy=>v==y)).isSome:=by rw[List.findIdx?_isSome,List.contains_eq_any_beq]
 rw[this];cases l.findIdx? (λy=>v==y)<;>simp
end
attribute [local congr] Z0i Z0j Z0k Z0l Z0m Z0n Z0o Z0p Z0q Z0r Z0s Z0t Z0u Z0v Z0w Z0x Z0y Z0z Z0A Z0B Z0C Z0D Z0E Z0F Z0G Z0H Z0I
end Go.AM


namespace Go.AM
open Go.Proofs
theorem Zgp(a:Msg):ltM a a=false:=ZfN _
theorem Zgq{a b c:Msg}(h1:ltM a b=true)(h2:ltM b c=true):ltM a c=true:=Z9f (n:=7) rfl rfl rfl h1 h2
theorem Zer{a b:Msg}(h1:ltM a b=false)(h2:ltM b a=false):a=b:=by
 have:=Z9g (n:=7) (a:=cellsM a) (b:=cellsM b) rfl rfl h1 h2
 obtain ⟨a0,a1,a2,a3,a4,a5,a6⟩:=a;obtain ⟨b0,b1,b2,b3,b4,b5,b6⟩:=b;simpa [cellsM] using this
theorem Zm4{a b:Msg}(h:ltM a b=true):ltM b a=false:=by
 cases h2:ltM b a with
 | false=>rfl
 | true=>have:=Zgq h h2;rw[Zgp] at this;cases this
abbrev Srt(l:List Msg):Prop:=l.Pairwise λa b=>ltM a b=true
theorem Zm5:∀{a b:List Msg},Srt a→Srt b→(∀x,x ∈ a↔x ∈ b)→a=b
 | [],[],_,_,_=>rfl
 | [],y::b,_,_,h=>by have:=(h y).2 (by simp);simp at this
 | x::a,[],_,_,h=>by have:=(h x).1 (by simp);simp at this
 | x::a,y::b,ha,hb,h=>by
  rw[Srt,List.pairwise_cons] at ha hb
  have e:x=y:=by
   rcases List.mem_cons.1 ((h x).1 (by simp)) with e | h1
   ·exact e
   ·rcases List.mem_cons.1 ((h y).2 (by simp)) with e | h2
    ·exact e.symm
    ·have h3:=hb.1 x h1
     have h4:=ha.1 y h2;have:=Zm4 h3;rw[h4] at this;cases this
  subst e;rw[Zm5 ha.2 hb.2 λz => ?_]
  have hz:=h z;simp only[List.mem_cons] at hz
  constructor
  ·intro hm
   rcases hz.1 (.inr hm) with rfl | h1
   ·have:=ha.1 z hm;rw[Zgp] at this;cases this
   ·exact h1
  ·intro hm
   rcases hz.2 (.inr hm) with rfl | h1
   ·have:=hb.1 z hm;rw[Zgp] at this;cases this
   ·exact h1
theorem Zgr:∀{l:List Msg}{x:Msg},x ∈ compL l↔x ∈ l
 | [],x=>by simp[compL]
 | [a],x=>by simp[compL]
 | a::b::l,x=>by
  have ih:=@Zgr (b::l) x;simp only[compL]
  split
  ·rename_i e
   subst e;rw[ih];simp
  ·rw[List.mem_cons,ih,List.mem_cons (a:=x) (b:=a)]
theorem Zm6:∀{l:List Msg},l.Pairwise (λa b=>ltM b a=false)→Srt (compL l)
 | [],_=>by simp[compL]
 | [a],_=>by simp[compL]
 | a::b::l,h=>by
  rw[List.pairwise_cons] at h;have ih:=Zm6 h.2
  simp only[compL]
  split
  ·exact ih
  ·rename_i hne
   rw[Srt,List.pairwise_cons];refine ⟨λx hx => ?_,ih⟩
   rw[Zgr] at hx;cases h1:ltM a x with
   | true=>rfl
   | false=>
    have e:=Zer h1 (h.1 x hx);subst e;rcases List.mem_cons.1 hx with e | hx
    ·exact absurd e hne
    ·rw[List.pairwise_cons] at h
     exact absurd (Zer (h.2.1 a hx) (h.1 b (by simp))) hne
theorem ZBS(l:List Msg):(sortM l).Pairwise λa b=>ltM b a=false:=by
 have:=List.pairwise_mergeSort (le:=λx y:Msg => !ltM y x) (λa b c h1 h2 => ?_) (λa b => ?_) l
 ·exact this.imp λh=>by simpa using h
 ·simp only[Bool.not_eq_true'] at h1 h2 ⊢
  cases h3:ltM c a with
  | false=>rfl
  | true=>
   cases h4:ltM a b with
   | true=>rw[Zgq h3 h4] at h2;cases h2
   | false=>
    have:=Zer h4 h1
    subst this;rw[h3] at h2;cases h2
 ·cases h1:ltM b a with
  | false=>rfl
  | true=>simp[Zm4 h1]
theorem ZBT{l:List Msg}{x:Msg}:x ∈ sortM l↔x ∈ l:=by
 unfold sortM;exact (List.mergeSort_perm l _).mem_iff
theorem Zes(l:List Msg):Srt (normL l):=Zm6 (ZBS l)
theorem Zgs{l:List Msg}{x:Msg}:x ∈ normL l↔x ∈ l:=by unfold normL;rw[Zgr,ZBT]
theorem Zm7{l o:List Msg}(h1:Srt o)(h2:∀x,x ∈ o↔x ∈ l):o=normL l:=Zm5 h1 (Zes l) λx=>by rw[h2,Zgs]
theorem Zet{l:List Msg}(h:Srt l):normL l=l:=(Zm7 h λ_=>Iff.rfl).symm
theorem Z5C{l:List Msg}:errM l=0↔l.length≤64∧∀m ∈ l,checkM m=0:=by
 unfold errM
 constructor
 ·intro h
  split at h
  ·simp at h
  ·split at h
   ·simp at h
   ·rename_i h1 h2
    refine ⟨by omega,λm hm => ?_⟩
    simp only[Bool.not_eq_true,List.any_eq_false] at h2;simpa using h2 m hm
 ·rintro ⟨h1,h2⟩
  rw[if_neg (by omega),if_neg]
  simp only[Bool.not_eq_true,List.any_eq_false];intro m hm
  simpa using h2 m hm
abbrev SL{α:Type}(sz:Nat)(f:α→List AV)(b:Bool)(l:List α):AV := .lst sz (b&&l.isEmpty) (l.map f)
section
variable {β:Type} {P:Program} {T:Tab} {D:DTab} {N:Nat} {K:Kb β}
theorem ZBU(l:List Envl)(b:Bool)(hl:l.length<1000000)(h:Hp):Z5j [SL 10 encV b l] h=some (SL 10 encV b l,h):=by
 refine (Zvb (v:=if b&&l.isEmpty then nilS else SL 10 encV b l) rfl ?_ h).trans ?_
 ·by_cases hb:(b&&l.isEmpty)=true
  ·simp[Z3V,hb]
  ·have hb':(b&&l.isEmpty)=false:=by simpa using hb
   have hle:l.length * 80≤140737488355328:=by omega
   have h2:((l.map encV).all λe=>e.length==10)=true:=by simp[encV]
   have h3:okE false (l.map encV)=true:=Z0U (by intro x;simp[encV])
   simp[Z3V,hb',bsE,fillS,appE,readSl,hle,h2,ap];rw[Z0X rfl (by simp) (by simp) h3,SL,hb']
 ·by_cases hb:(b&&l.isEmpty)=true
  ·obtain ⟨rfl,hl0⟩:=Bool.and_eq_true_iff.1 hb
   have:l=[]:=by simpa using hl0
   subst this
   rfl
  ·rw[if_neg hb]
   rfl
end
attribute [local congr] Z0i Z0j Z0k Z0l Z0m Z0n Z0o Z0p Z0q Z0r Z0s Z0t Z0u Z0v Z0w Z0x Z0y Z0z Z0A Z0B Z0C Z0D Z0E Z0F Z0G Z0H Z0I
abbrev g1:Envl:=⟨1,2,1,⟨1,1,0,0,1,2,10⟩⟩
abbrev g2:Envl:=⟨1,2,2,⟨2,1,0,0,1,2,10⟩⟩
abbrev g3:Envl:=⟨1,2,3,⟨3,1,0,0,1,2,10⟩⟩
end Go.AM


namespace Go.AM
open Go.Proofs
attribute [local congr] Z0i Z0j Z0k Z0l Z0m Z0n Z0o Z0p Z0q Z0r Z0s Z0t Z0u Z0v Z0w Z0x Z0y Z0z Z0A Z0B Z0C Z0D Z0E Z0F Z0G Z0H Z0I
structure Outb where
 node:Int
 next:Int
 pend:List Envl
deriving DecidableEq
abbrev cellsO(b:Bool)(o:Outb):List AV:=[I o.node,I o.next,SL 10 encV b o.pend]
abbrev ob(b:Bool)(o:Outb):AV := .agg (cellsO b o)
theorem Zm8(x:Envl):(chkS [x]).2=formE x:=by
 unfold chkS;rw[if_neg (by simp)]
 simp only[chkE]
 split
 ·rfl
 ·rename_i h
  have:formE x=0:=Classical.byContradiction h
  rw[this];rfl
def chkP(node next:Int):Option Int→List Envl→Int
 | _,[]=>0
 | p,x::r=>if formE x≠0 then formE x else if x.frm≠node then 10 else if ((match p with | some q=>decide (x.num≤q) | none=>false)||decide (next≤x.num))=true then 5 else chkP node next (some x.num) r
theorem Zgt(node next:Int)(p:Option Int)(x:Envl)(r:List Envl):chkP node next p (x::r)=if formE x≠0 then formE x else if x.frm≠node then 10 else if ((match p with | some q=>decide (x.num≤q) | none=>false)||decide (next≤x.num))=true then 5 else chkP node next (some x.num) r:=by cases p<;>rfl
theorem Zgu(node next:Int)(p:Option Int):chkP node next p []=0:=by cases p<;>rfl
def chkO(o:Outb):Int:=if (!isNode o.node||decide (o.next<1)||decide (o.next > 1073741825))=true then 2 else if 64<o.pend.length then 8 else chkP o.node o.next none o.pend
theorem Zeu(n:Int)(h:Hp):Z34 [I n] h=some (B (isNode n),h):=by
 refine ZuU (a0:=I n) rfl ?_ h;simp -implicitDefEqProofs only[Zbp,Z0P,Z0Q,Z10]
 rfl
theorem Zgv(n:Int)(h:Hp):Z5a [I n] h=some (B (isNode n),h):=by
 refine Ztm (a0:=I n) rfl ?_ h;simp -implicitDefEqProofs only[Zbr,Z0P,Z0Q,Z10]
 rfl
theorem Zm9{x:Envl}{h:Hp}{id:Nat}(hid:h[id]? = some (.arr 10 [encV x] true false)):Z4d [.sl 10 id 0 1 1 true] h=some (tupP (chkS [x]),h):=
 ZBn (as':=[.lst 10 false [encV x]]) (asl:=[.lst 10 false ([x].map encV)]) (by simp only[Z1b,Z1a,Z0X (st:=false) (n:=1) (fr:=1) (full:=true) hid rfl rfl (Z0U (l:=[x]) (f:=encV) λx=>by simp[encV])]) rfl rfl (ZBN [x] false (by simp) []) rfl
theorem ZBV{x0:Hp→Option AV}{xr:Kb AV}{X:Int→Option AV}{node next:Int}{l:List Envl}{b:Bool}(hl:l.length<1000000)(h0:∀h,x0 h=X 0)(hr:∀(e:Int) h,xr (I e) h=X e):∀(n:Nat)(pre post:List Envl)(h:Hp),l=pre++post→post.length<n→h[0]? = some (.arr 3 [[I node,I next,.lst 10 b (l.map encV)]] true false)→
  Z4A Tryz.prog Z3z Z5i NN x0 xr n (.ptr 0 0 0 1) (.lst 10 b (l.map encV)) (I l.length) (I pre.length) h=X (chkP node next (pre.getLast?.map (·.num)) post):=by
 intro n;induction n with
 | zero=>intro pre post h _ h2;omega
 | succ n ih=>
  intro pre post h hc hn g0;show Z7Q Tryz.prog Z3z Z5i NN (Z4A Tryz.prog Z3z Z5i NN x0 xr n) x0 xr _ _ _ _ h=_
  cases post with
  | nil=>
   have:l=pre:=by simpa using hc
   subst this;have c1:¬((l.length:Int)<(l.length:Int)):=by omega
   simp -implicitDefEqProofs only[Z7Q,Z05,c1,decide_false,Z00,Bool.false_eq_true,if_false,h0,Zgu]
  | cons x post=>
   have hx:l[pre.length]? = some x:=by rw[hc];simp
   have hi:pre.length<l.length:=by rw[hc];simp
   have hlt:((pre.length:Int)<(l.length:Int)):=by omega
   have hw:IntKind.i64.wrap ((pre.length:Int)+1)=(((pre++[x]).length:Nat):Int):=by rw[wrap64 (by omega) (by omega)];simp
   have ic:∀k:KV,iaK 10 (.lst 10 b (l.map encV)) (I pre.length) k=k (.ep (encV x) 0):=λk=>Z0M pre.length rfl hx k
   have ld:∀k:KV,ldK 10 true (.ep (encV x) 0) h k=k (.agg (encV x)):=λk=>rfl
   obtain ⟨g,hg⟩:∃g,g=h++[AObj.arr 10 [encV x] true false]:=⟨_,rfl⟩;have ns:∀k:Kb AV,effK (stE 10 (.ptr h.length 0 0 1) (.agg (encV x)) (h++[.arr 10 [zE] true false])) (h++[.arr 10 [zE] true false]) k=k .u g:=λk=>by rw[hg];exact nst k
   have lw:∀k:KV,ldK 10 true (.ptr h.length 0 0 1) g k=k (.agg (encV x)):=λk=>by rw[hg];exact nlw k
   obtain ⟨y,hy⟩:∃y,y=g++[AObj.arr 10 [encV x] true false]:=⟨_,rfl⟩;have bs:∀k:Kb AV,effK (bsE 10 zE 1 [(0,.agg (encV x))] g.length) g k=k (.sl 10 g.length 0 1 1 true) y:=λk=>by rw[hy];simp[bsE,fillS,encV,effK,ap]
   have fc:=Zm9 (x:=x) (h:=y) (id:=g.length) (by rw[hy,Z0R];rfl)
   have hb:y[h.length]? = some (.arr 10 [encV x] true false):=by rw[hy];exact Z0a (by rw[hg,Z0R];rfl)
   have y0:y[0]? = some (.arr 3 [[I node,I next,.lst 10 b (l.map encV)]] true false):=by rw[hy,hg];exact Z0a (Z0a g0)
   have l0:∀k:KV,ldK 1 false (.ptr h.length 0 0 1) y k=k (I x.frm):=λk=>by rw[Z01,hb];rfl
   have l2:∀k:KV,ldK 1 false (.ptr h.length 0 2 1) y k=k (I x.num):=λk=>by rw[Z01,hb];rfl
   have b0:∀k:KV,ldK 1 false (.ptr 0 0 0 1) y k=k (I node):=λk=>by rw[Z01,y0];rfl
   have b1:∀k:KV,ldK 1 false (.ptr 0 0 1 1) y k=k (I next):=λk=>by rw[Z01,y0];rfl
   have b2:∀k:KV,ldK 1 false (.ptr 0 0 2 1) y k=k (.lst 10 b (l.map encV)):=λk=>by rw[Z01,y0];rfl
   have t0:∀(k:KV),exK (tupP (chkS [x])) 0 k=k (I (chkS [x]).1):=λk=>rfl
   have t1:∀(k:KV),exK (tupP (chkS [x])) 1 k=k (I (formE x)):=λk=>by rw[← Zm8];rfl
   rw[Zgt];simp -implicitDefEqProofs only[Z7Q,Z05,hlt,decide_true,Z00,if_true,ic,ld,nbx,ns,lw,bs,Zv3,Z02,fc,t0,t1,Z03,Bool.true_xor];by_cases z:formE x=0
   ·have ez:(!(formE x==0))=false:=by simp[z]
    rw[if_neg (show ¬formE x≠0 from λhh=>hh z)]
    simp -implicitDefEqProofs only[ez,Bool.false_eq_true,if_false,Z04,Nat.zero_add,l0,b0,Z03,Bool.true_xor,Z00]
    by_cases q:x.frm=node
    ·have eq':(!(x.frm==node))=false:=by simp[q]
     rw[if_neg (show ¬x.frm≠node from λhh=>hh q)]
     simp -implicitDefEqProofs only[eq',Bool.false_eq_true,if_false]
     have grp:∀k:Kb AV,(arithK .gtr (I pre.length) (I 0) λx47=>grpK true x47 y (λk48=>ldK 1 false (.ptr h.length 0 2 1) y λx50=>ldK 1 false (.ptr 0 0 2 1) y λx52=>arithK .sub (I pre.length) (I 1) λx53=>iaK 10 x52 x53 λx54=>faK 2 x54 λx55=>ldK 1 false x55 y λx56=>arithK .leq x50 x56 λx57=>k48 x57 y) k)=k (B (match pre.getLast?.map (·.num) with | some q=>decide (x.num≤q) | none=>false)) y:=λk=>by
      by_cases hp:pre.length=0
      ·have:pre=[]:=List.eq_nil_of_length_eq_zero hp
       subst this;simp -implicitDefEqProofs only[Z0g,List.length_nil,show ¬(((0:Nat):Int) > 0) by omega,decide_false]
       rfl
      ·have c0:(pre.length:Int) > 0:=by omega
       obtain ⟨m,hm⟩:∃m,m=pre.length-1:=⟨_,rfl⟩;have hwm:IntKind.i64.wrap ((pre.length:Int)-1)=(m:Int):=by rw[wrap64 (by omega) (by omega)];omega
       obtain ⟨z,hz⟩:∃z,pre.getLast? = some z:=by
        cases hq:pre.getLast? with
        | none=>rw[List.getLast?_eq_none_iff] at hq;rw[hq] at hp;exact absurd rfl hp
        | some z=>exact ⟨z,rfl⟩
       have hzm:l[m]? = some z:=by
        rw[hc,List.getElem?_append_left (by omega),hm, ← List.getLast?_eq_getElem?,hz]
       have im:∀k:KV,iaK 10 (.lst 10 b (l.map encV)) (I m) k=k (.ep (encV z) 0):=λk=>Z0M m rfl hzm k
       have lm:∀k:KV,ldK 1 false (.ep (encV z) 2) y k=k (I z.num):=λk=>rfl
       have fa:∀k:KV,faK 2 (.ep (encV z) 0) k=k (.ep (encV z) 2):=λk=>rfl
       rw[hz];simp -implicitDefEqProofs only[Z0g,c0,decide_true,l2,b2,Z1U,hwm,im,fa,lm,Z10]
       rfl
     rw[grp];simp -implicitDefEqProofs only[l2,b1,Z0P,Z0J,Z00];by_cases hq:((match pre.getLast?.map (·.num) with | some q=>decide (x.num≤q) | none=>false)||decide (next≤x.num))=true
     ·rw[if_pos hq,if_pos hq]
      simp -implicitDefEqProofs only[hr]
     ·rw[if_neg hq,if_neg hq]
      simp -implicitDefEqProofs only[Z0e,hw]
      refine (ih (pre++[x]) post y (by simpa using hc) (by simpa using hn) y0).trans ?_
      simp
    ·have eq':(!(x.frm==node))=true:=by simp[q]
     rw[if_pos q];simp -implicitDefEqProofs only[eq',if_true,hr]
   ·have ez:(!(formE x==0))=true:=by simp[z]
    rw[if_pos z];simp -implicitDefEqProofs only[ez,if_true,hr]
theorem Zev(b:Bool)(o:Outb)(hl:o.pend.length<1000000)(h:Hp):Z2S [ob b o] h=some (I (chkO o),h):=by
 refine Zv6 (a0:=ob b o) rfl ?_ h;obtain ⟨node,next,pend⟩:=o;dsimp only at hl ⊢
 have hnr:nrm (.a [none,none,some 10]) (ob b ⟨node,next,pend⟩)=ob b ⟨node,next,pend⟩:=rfl;rw[hnr];obtain ⟨H,hH⟩:∃H:Hp,H=[AObj.arr 3 [[I node,I next,.lst 10 (b&&pend.isEmpty) (pend.map encV)]] true false]:=⟨_,rfl⟩;have bx:∀k:Kb AV,effK (boxE 3 (.agg [I node,I next,.lst 10 (b&&pend.isEmpty) (pend.map encV)]) ([]:Hp).length) [] k=k (.ptr 0 0 0 1) H:=λk=>by rw[hH];rfl
 have H0:H[0]? = some (.arr 3 [[I node,I next,.lst 10 (b&&pend.isEmpty) (pend.map encV)]] true false):=by rw[hH];rfl
 have b0:∀k:KV,ldK 1 false (.ptr 0 0 0 1) H k=k (I node):=λk=>by rw[Z01,H0];rfl
 have b1:∀k:KV,ldK 1 false (.ptr 0 0 1 1) H k=k (I next):=λk=>by rw[Z01,H0];rfl
 have b2:∀k:KV,ldK 1 false (.ptr 0 0 2 1) H k=k (.lst 10 (b&&pend.isEmpty) (pend.map encV)):=λk=>by rw[Z01,H0];rfl
 have fn:=Zeu;unfold chkO;simp -implicitDefEqProofs only[Z7R,ob,cellsO,SL,bx,Z04,Nat.zero_add,b0,b1,Zv2,Z02,fn,Z0L,Z05,Z0g,Z0J,Z00]
 split
 ·rfl
 ·simp -implicitDefEqProofs only[b2,Z07,List.length_map,Z0g,Z00]
  by_cases h64:64<pend.length
  ·have c:(pend.length:Int) > 64:=by omega
   rw[if_pos h64];simp -implicitDefEqProofs only[c,decide_true,if_true]
   rfl
  ·have c:¬((pend.length:Int) > 64):=by omega
   rw[if_neg h64];simp -implicitDefEqProofs only[c,decide_false,Bool.false_eq_true,if_false];exact ZBV (X:=λe=>some (I e)) hl (λh=>rfl) (λe h=>rfl) NN [] pend H rfl (by have:=NN_ge;omega) H0
end Go.AM


namespace Go.AM
open Go.Proofs
theorem ZBW{T:Tab}{D:DTab}{N:Nat}{x0:Hp→Option AV}{xr:Kb AV}{a b:List Msg}{p q:Bool}{h:Hp}(hab:a.length=b.length)(hl:a.length<1000000)(hx:x0 h=xr (B true) h)(heq:∀(x y:Msg)(k:KV),eqK Tryz.prog true 50 (.agg (encM x)) (.agg (encM y)) h k=k (B (!(x==y)))):∀(n i:Nat),i≤a.length→a.length<i+n→
  Z4P Tryz.prog T D N x0 xr n (.lst 7 p (a.map encM)) (.lst 7 q (b.map encM)) (I a.length) (I i) h=xr (B (decide (a.drop i=b.drop i))) h:=by
 intro n;induction n with
 | zero=>intro i h1 h2;omega
 | succ n ih=>
  intro i h1 h2;show Z8k Tryz.prog T D N (Z4P Tryz.prog T D N x0 xr n) x0 xr _ _ _ _ h=_
  rcases Nat.lt_or_ge i a.length with hi | hi
  ·have c1:((i:Int)<(a.length:Int)):=by omega
   have hw:IntKind.i64.wrap ((i:Int)+1)=((i+1:Nat):Int):=by rw[wrap64 (by omega) (by omega)];omega
   have ia:∀k:KV,iaK 7 (.lst 7 p (a.map encM)) (I i) k=k (.ep (encM a[i]) 0):=λk=>Z0M i rfl (List.getElem?_eq_getElem hi) k
   have ib:∀k:KV,iaK 7 (.lst 7 q (b.map encM)) (I i) k=k (.ep (encM (b[i]'(by omega))) 0):=λk=>Z0M i rfl (List.getElem?_eq_getElem (by omega)) k
   have ld:∀(x:Msg)(k:KV),ldK 7 true (.ep (encM x) 0) h k=k (.agg (encM x)):=λx k=>rfl
   rw[List.drop_eq_getElem_cons hi,List.drop_eq_getElem_cons (show i<b.length by omega)]
   simp -implicitDefEqProofs only[Z8k,Z07,List.length_map,Z05,c1,decide_true,Z00,if_true,ia,ib,ld,heq,Z0e,hw,ih (i+1) (by omega) (by omega),List.cons.injEq,Bool.decide_and]
   by_cases e:a[i]=b[i]
   ·simp[e]
   ·simp[e]
  ·have:i=a.length:=by omega
   subst this;have c1:¬((a.length:Int)<(a.length:Int)):=by omega
   simp -implicitDefEqProofs only[Z8k,Z07,List.length_map,Z05,c1,decide_false,Z00,Bool.false_eq_true,if_false,hx]
   rw[List.drop_eq_nil_of_le (Nat.le_refl _),List.drop_eq_nil_of_le (by omega)]
   rfl
theorem Zma(a b:List Msg)(p q:Bool)(hl:a.length<1000000)(heq:∀(x y:Msg) (h:Hp) (k:KV),eqK Tryz.prog true 50 (.agg (encM x)) (.agg (encM y)) h k=k (B (!(x==y))))(h:Hp):Z5b [.lst 7 p (a.map encM),.lst 7 q (b.map encM)] h=some (B (decide (a=b)),h):=by
 refine Ztr rfl ?_ h;simp only[nrm,nrmC];by_cases hab:a.length=b.length
 ·have e:((a.length:Int)==(b.length:Int))=true:=by simp[hab]
  have:=ZBW (T:=Z6d) (D:=Z6c) (N:=NN) (x0:=λh=>Zbt Tryz.prog Z6d Z6c NN (λv g=>cvt false g v) h) (xr:=λw13_4 h=>cvt false h w13_4) (a:=a) (b:=b) (p:=p) (q:=q) (h:=[]) hab hl rfl (λx y k=>heq x y [] k) NN 0 (by omega) (by have:=NN_ge;omega)
  simp only[List.drop_zero] at this;simp -implicitDefEqProofs only[Z60,Z07,List.length_map,Z03,e,Bool.true_xor,Bool.not_true,Z00,Bool.false_eq_true,if_false];exact this
 ·have e:((a.length:Int)==(b.length:Int))=false:=by simp;omega
  have hne:a≠b:=λh=>hab (by rw[h])
  simp[Z60,e,hne]
attribute [local congr] Z0i Z0j Z0k Z0l Z0m Z0n Z0o Z0p Z0q Z0r Z0s Z0t Z0u Z0v Z0w Z0x Z0y Z0z Z0A Z0B Z0C Z0D Z0E Z0F Z0G Z0H Z0I
structure Hrd where
 frm:Int
 num:Int
deriving DecidableEq
def encH(e:Hrd):List AV:=[I e.frm,I e.num]
structure Inbx where
 node:Int
 heard:List Hrd
 msgs:List Msg
deriving DecidableEq
abbrev cellsI(b1 b2:Bool)(i:Inbx):List AV:=[I i.node,SL 2 encH b1 i.heard,SL 7 encM b2 i.msgs]
abbrev ib(b1 b2:Bool)(i:Inbx):AV := .agg (cellsI b1 b2 i)
abbrev zH:List AV:=[I 0,I 0]
def cmpH(a b:Hrd):Int:=lexZ [a.frm,a.num] [b.frm,b.num]
theorem Zgw(a b:Hrd)(h:Hp):Z3y [.agg (encH a),.agg (encH b)] h=some (I (cmpH a b),h):=by
 refine ZtO (by simp[encH]) ?_ h
 obtain ⟨a0,a1⟩:=a;obtain ⟨b0,b1⟩:=b;have g:=ZlM;have bx0:∀k:Kb AV,effK (boxE 2 (.agg [I a0,I a1]) ([]:Hp).length) [] k=k (.ptr 0 0 0 1) [.arr 2 [[I a0,I a1]] true false]:=λk=>rfl
 have bx1:∀k:Kb AV,effK (boxE 2 (.agg [I b0,I b1]) ([AObj.arr 2 [[I a0,I a1]] true false]:Hp).length) [.arr 2 [[I a0,I a1]] true false] k=k (.ptr 1 0 0 1) [.arr 2 [[I a0,I a1]] true false,.arr 2 [[I b0,I b1]] true false]:=λk=>rfl
 have l00:∀k:KV,ldK 1 false (.ptr 0 0 0 1) [.arr 2 [[I a0,I a1]] true false,.arr 2 [[I b0,I b1]] true false] k=k (I a0):=λk=>rfl
 have l01:∀k:KV,ldK 1 false (.ptr 0 0 1 1) [.arr 2 [[I a0,I a1]] true false,.arr 2 [[I b0,I b1]] true false] k=k (I a1):=λk=>rfl
 have l10:∀k:KV,ldK 1 false (.ptr 1 0 0 1) [.arr 2 [[I a0,I a1]] true false,.arr 2 [[I b0,I b1]] true false] k=k (I b0):=λk=>rfl
 have l11:∀k:KV,ldK 1 false (.ptr 1 0 1 1) [.arr 2 [[I a0,I a1]] true false,.arr 2 [[I b0,I b1]] true false] k=k (I b1):=λk=>rfl
 have bs:∀(c0 c1:Int),bsE 1 [I 0] 2 [(0,I c0),(1,I c1)] ([AObj.arr 2 [[I a0,I a1]] true false,.arr 2 [[I b0,I b1]] true false]:Hp).length=some (.sl 1 2 0 2 2 true,EN (.arr 1 [[I c0],[I c1]] true false)):=λ_ _=>rfl
 have go:∀(c0 c1:Int)(o0 o1:AObj)(base:Nat),Z5c [.sl 1 2 0 2 2 true] [o0,o1,.arr 1 [[I c0],[I c1]] true false] base=some (I (orZ [c0,c1]),EF [2]):=λc0 c1 o0 o1 base=>
  (Z3a (ZlO [c0,c1] (by simp) rfl rfl) base).trans rfl
 simp -implicitDefEqProofs only[Zbu,encH,bx0,bx1,Z04,Nat.zero_add,l00,l01,l10,l11,ZtK,ZtJ,Z2N,g,Z4q,bs,ZlN,List.cons_append,List.nil_append,go]
 have:=Zgk (n:=2) (a:=[a0,a1]) (b:=[b0,b1]) rfl rfl
 simp only[List.zipWith_cons_cons,List.zipWith_nil_left] at this;rw[this]
 rfl
def chkH(node:Int):Option Hrd→List Hrd→Int
 | _,[]=>0
 | p,x::r=>if (!isNode x.frm||decide (x.num<1)||decide (x.num > 1073741824))=true then 2 else if x.frm=node then 10 else if (match p with | some q=>decide (cmpH q x≥0) | none=>false)=true then 5 else chkH node (some x) r
theorem Zmb(node:Int)(p:Option Hrd)(x:Hrd)(r:List Hrd):chkH node p (x::r)=if (!isNode x.frm||decide (x.num<1)||decide (x.num > 1073741824))=true then 2 else if x.frm=node then 10 else if (match p with | some q=>decide (cmpH q x≥0) | none=>false)=true then 5 else chkH node (some x) r:=by cases p<;>rfl
theorem Zgx(node:Int)(p:Option Hrd):chkH node p []=0:=by cases p<;>rfl
def chkI(i:Inbx):Int:=if isNode i.node=false then 2 else if 256<i.heard.length∨64<i.msgs.length then 8 else if chkH i.node none i.heard≠0 then chkH i.node none i.heard else if errM i.msgs≠0∨normL i.msgs≠i.msgs then 1 else if i.heard.length<i.msgs.length then 10 else 0
theorem ZBX{x0:Kb AV}{xr:Kb AV}{X:Option AV}{X2:Int→Option AV}{node:Int}{l:List Hrd}{b:Bool}{m:AV}(hl:l.length<1000000)(h0:∀h:Hp,h[0]? = some (.arr 3 [[I node,.lst 2 b (l.map encH),m]] true false)→x0 (.ptr 0 0 0 1) h=X)(hr:∀(e:Int) h,xr (I e) h=X2 e):∀(n:Nat)(pre post:List Hrd)(h:Hp),l=pre++post→post.length<n→h[0]? = some (.arr 3 [[I node,.lst 2 b (l.map encH),m]] true false)→
  Z4z Tryz.prog Z2R Z5h NN x0 xr n (.ptr 0 0 0 1) (.lst 2 b (l.map encH)) (I l.length) (I pre.length) h=if chkH node pre.getLast? post=0 then X else X2 (chkH node pre.getLast? post):=by
 intro n;induction n with
 | zero=>intro pre post h _ h2;omega
 | succ n ih=>
  intro pre post h hc hn g0;show Z7N Tryz.prog Z2R Z5h NN (Z4z Tryz.prog Z2R Z5h NN x0 xr n) x0 xr _ _ _ _ h=_
  cases post with
  | nil=>
   have:l=pre:=by simpa using hc
   subst this;have c1:¬((l.length:Int)<(l.length:Int)):=by omega
   simp -implicitDefEqProofs only[Z7N,Z05,c1,decide_false,Z00,Bool.false_eq_true,if_false,Zgx,if_true]
   exact h0 h g0
  | cons x post=>
   have hx:l[pre.length]? = some x:=by rw[hc];simp
   have hi:pre.length<l.length:=by rw[hc];simp
   have hlt:((pre.length:Int)<(l.length:Int)):=by omega
   have hw:IntKind.i64.wrap ((pre.length:Int)+1)=(((pre++[x]).length:Nat):Int):=by rw[wrap64 (by omega) (by omega)];simp
   have ic:∀k:KV,iaK 2 (.lst 2 b (l.map encH)) (I pre.length) k=k (.ep (encH x) 0):=λk=>Z0M pre.length rfl hx k
   have ld:∀k:KV,ldK 2 true (.ep (encH x) 0) h k=k (.agg (encH x)):=λk=>rfl
   obtain ⟨y,hy⟩:∃y,y=h++[AObj.arr 2 [encH x] true false]:=⟨_,rfl⟩;have bx:∀k:Kb AV,effK (boxE 2 (.agg zH) h.length) h k=k (.ptr h.length 0 0 1) (h++[.arr 2 [zH] true false]):=λk=>Z2F 2 h.length (.agg zH) h k rfl rfl rfl
   have ns:∀k:Kb AV,effK (stE 2 (.ptr h.length 0 0 1) (.agg (encH x)) (h++[.arr 2 [zH] true false])) (h++[.arr 2 [zH] true false]) k=k .u y:=λk=>by
    rw[Z0d (v := .u) (id:=h.length) (o := .arr 2 [encH x] true false) (ft:=[h.length]) (by simp[encH]),Z3r,hy];rfl
   have hb:y[h.length]? = some (.arr 2 [encH x] true false):=by rw[hy,Z0R];rfl
   have y0:y[0]? = some (.arr 3 [[I node,.lst 2 b (l.map encH),m]] true false):=by rw[hy];exact Z0a g0
   have l0:∀k:KV,ldK 1 false (.ptr h.length 0 0 1) y k=k (I x.frm):=λk=>by rw[Z01,hb];rfl
   have l1:∀k:KV,ldK 1 false (.ptr h.length 0 1 1) y k=k (I x.num):=λk=>by rw[Z01,hb];rfl
   have lw:∀k:KV,ldK 2 true (.ptr h.length 0 0 1) y k=k (.agg (encH x)):=λk=>by rw[Z01,hb];rfl
   have b0:∀k:KV,ldK 1 false (.ptr 0 0 0 1) y k=k (I node):=λk=>by rw[Z01,y0];rfl
   have b1:∀k:KV,ldK 1 false (.ptr 0 0 1 1) y k=k (.lst 2 b (l.map encH)):=λk=>by rw[Z01,y0];rfl
   have fn:=Zgv x.frm
   have grp:∀k:Kb AV,(arithK .gtr (I pre.length) (I 0) λx73=>grpK true x73 y (λk74=>ldK 1 false (.ptr 0 0 1 1) y λx76=>arithK .sub (I pre.length) (I 1) λx77=>iaK 2 x76 x77 λx78=>ldK 2 true x78 y λx79=>ldK 2 true (.ptr h.length 0 0 1) y λx80=>callK (Z2R 45) [x79,x80] y λx81 h82=>arithK .geq x81 (I 0) λx83=>k74 x83 h82) k)=k (B (match pre.getLast? with | some q=>decide (cmpH q x≥0) | none=>false)) y:=λk=>by
    by_cases hp:pre.length=0
    ·have:pre=[]:=List.eq_nil_of_length_eq_zero hp
     subst this;simp -implicitDefEqProofs only[Z0g,List.length_nil,show ¬(((0:Nat):Int) > 0) by omega,decide_false]
     rfl
    ·have c0:(pre.length:Int) > 0:=by omega
     obtain ⟨p,hm⟩:∃p,p=pre.length-1:=⟨_,rfl⟩;have hwm:IntKind.i64.wrap ((pre.length:Int)-1)=(p:Int):=by rw[wrap64 (by omega) (by omega)];omega
     obtain ⟨z,hz⟩:∃z,pre.getLast? = some z:=by
      cases hq:pre.getLast? with
      | none=>rw[List.getLast?_eq_none_iff] at hq;rw[hq] at hp;exact absurd rfl hp
      | some z=>exact ⟨z,rfl⟩
     have hzm:l[p]? = some z:=by
      rw[hc,List.getElem?_append_left (by omega),hm, ← List.getLast?_eq_getElem?,hz]
     have im:∀k:KV,iaK 2 (.lst 2 b (l.map encH)) (I p) k=k (.ep (encH z) 0):=λk=>Z0M p rfl hzm k
     have lm:∀k:KV,ldK 2 true (.ep (encH z) 0) y k=k (.agg (encH z)):=λk=>rfl
     have fh:=Zgw z x;rw[hz];simp -implicitDefEqProofs only[Z0g,c0,decide_true,b1,Z1U,hwm,im,lm,lw,ZuL,Z02,fh,Z0P]
     rfl
   rw[Zmb];simp -implicitDefEqProofs only[Z7N,Z05,hlt,decide_true,Z00,if_true,ic,ld,bx,ns,Z04,Nat.zero_add,l0,ZkO,Z02,fn,Z0L,l1,Z0g,Z0J];by_cases q1:(!isNode x.frm||decide (x.num<1)||decide (x.num > 1073741824))=true
   ·rw[if_pos q1,if_pos q1]
    simp -implicitDefEqProofs only[hr]
    rfl
   ·rw[if_neg q1,if_neg q1]
    simp -implicitDefEqProofs only[b0,Z03,Bool.false_xor,Z00]
    by_cases q2:x.frm=node
    ·have e2:(x.frm==node)=true:=by simp[q2]
     rw[if_pos q2];simp -implicitDefEqProofs only[e2,if_true,hr]
     rfl
    ·have e2:(x.frm==node)=false:=by simp[q2]
     rw[if_neg q2];simp -implicitDefEqProofs only[e2,Bool.false_eq_true,if_false];simp only[Z0g] at grp;rw[grp];simp -implicitDefEqProofs only[Z00];by_cases q3:(match pre.getLast? with | some q=>decide (cmpH q x≥0) | none=>false)=true
     ·rw[if_pos q3,if_pos q3]
      simp -implicitDefEqProofs only[hr]
      rfl
     ·rw[if_neg q3,if_neg q3]
      simp -implicitDefEqProofs only[Z0e,hw]
      refine (ih (pre++[x]) post y (by simpa using hc) (by simpa using hn) y0).trans ?_
      simp
theorem Z7b(b1 b2:Bool)(i:Inbx)(hl:i.heard.length<1000000)(hm:i.msgs.length<1000)(h:Hp):Z1V [ib b1 b2 i] h=some (I (chkI i),h):=by
 refine ZuP (a0:=ib b1 b2 i) rfl ?_ h;obtain ⟨node,heard,msgs⟩:=i;dsimp only at hl hm ⊢
 have hnr:nrm (.a [none,some 2,some 7]) (ib b1 b2 ⟨node,heard,msgs⟩)=ib b1 b2 ⟨node,heard,msgs⟩:=rfl;rw[hnr];obtain ⟨H,hH⟩:∃H:Hp,H=[AObj.arr 3 [[I node,.lst 2 (b1&&heard.isEmpty) (heard.map encH),.lst 7 (b2&&msgs.isEmpty) (msgs.map encM)]] true false]:=⟨_,rfl⟩;have bx:∀k:Kb AV,effK (boxE 3 (.agg [I node,.lst 2 (b1&&heard.isEmpty) (heard.map encH),.lst 7 (b2&&msgs.isEmpty) (msgs.map encM)]) ([]:Hp).length) [] k=k (.ptr 0 0 0 1) H:=λk=>by rw[hH];rfl
 have ld:∀(H:Hp),H[0]? = some (.arr 3 [[I node,.lst 2 (b1&&heard.isEmpty) (heard.map encH),.lst 7 (b2&&msgs.isEmpty) (msgs.map encM)]] true false)→(∀k:KV,ldK 1 false (.ptr 0 0 0 1) H k=k (I node))∧(∀k:KV,ldK 1 false (.ptr 0 0 1 1) H k=k (.lst 2 (b1&&heard.isEmpty) (heard.map encH)))∧(∀k:KV,ldK 1 false (.ptr 0 0 2 1) H k=k (.lst 7 (b2&&msgs.isEmpty) (msgs.map encM))):=λH H0=>⟨λk=>by rw[Z01,H0];rfl,λk=>by rw[Z01,H0];rfl,λk=>by rw[Z01,H0];rfl⟩
 have H0:H[0]? = some (.arr 3 [[I node,.lst 2 (b1&&heard.isEmpty) (heard.map encH),.lst 7 (b2&&msgs.isEmpty) (msgs.map encM)]] true false):=by rw[hH];rfl
 obtain ⟨l0,l1,l2⟩:=ld H H0;have fn:=Zgv node;unfold chkI;simp -implicitDefEqProofs only[Z7O,ib,cellsI,SL,bx,Z04,Nat.zero_add,l0,l1,l2,ZkO,Z02,fn,Z0L,Z00,Z07,List.length_map,Z0g,Z0J];cases hn:isNode node with
 | false=>rfl
 | true=>
  simp -implicitDefEqProofs only[Bool.not_true,Bool.false_eq_true,if_false]
  by_cases h8:256<heard.length∨64<msgs.length
  ·have e:(decide ((heard.length:Int) > 256)||decide ((msgs.length:Int) > 64))=true:=by simp;omega
   rw[if_pos h8];simp -implicitDefEqProofs only[e,if_true]
   rfl
  ·have e:(decide ((heard.length:Int) > 256)||decide ((msgs.length:Int) > 64))=false:=by simp;omega
   rw[if_neg (show ¬(true=false) by simp),if_neg h8]
   simp -implicitDefEqProofs only[e,Bool.false_eq_true,if_false]
   refine (ZBX (X:=some (I (if errM msgs≠0∨normL msgs≠msgs then 1 else if heard.length<msgs.length then 10 else 0))) (X2:=λe=>some (I e)) hl (λh hh => ?_) (λe h=>rfl) NN [] heard H rfl (by have:=NN_ge;omega) H0).trans ?_
   ·obtain ⟨k0,k1,k2⟩:=ld h hh
    have fN:=ZlV msgs (b:=b2) (by omega) (h:=h) (v := .lst 7 (b2&&msgs.isEmpty) (msgs.map encM)) (a := .lst 7 (b2&&msgs.isEmpty) (msgs.map encM)) rfl rfl
    have tp:∀(a b:AV)(k:KV),exK (.tup [a,b]) 0 k=k a:=λa b k=>rfl
    have tq:∀(a b:AV)(k:KV),exK (.tup [a,b]) 1 k=k b:=λa b k=>rfl
    unfold normR at fN;simp -implicitDefEqProofs only[Zb3,Z04,Nat.zero_add,k1,k2,ZuM,Z02,fN,tp,tq,Z03,Bool.true_xor]
    by_cases z:errM msgs=0
    ·have ez:(!(errM msgs==0))=false:=by simp[z]
     have hnl:=Z4s msgs;have fE:=Zma (normL msgs) msgs (b2&&(normL msgs).isEmpty) (b2&&msgs.isEmpty) (by omega) (λx y h k=>by rw[Z4r,Bool.true_xor])
     have ex:(if errM msgs=0 then SLm b2 (normL msgs) else .lst 7 true []) = .lst 7 (b2&&(normL msgs).isEmpty) ((normL msgs).map encM):=if_pos z
     simp -implicitDefEqProofs only[ez,ex,ZaJ,ZuK,Z02,fE,Z0L,Z00,Z07,List.length_map,Z0g]
     by_cases q:normL msgs=msgs
     ·have e1:(!decide (normL msgs=msgs))=false:=by simp[q]
      have rr:¬(errM msgs≠0∨normL msgs≠msgs):=by simp[z,q]
      simp -implicitDefEqProofs only[e1,Bool.false_eq_true,if_false]
      by_cases q2:heard.length<msgs.length
      ·have c:(msgs.length:Int) > (heard.length:Int):=by omega
       simp -implicitDefEqProofs only[k1,k2,Z07,List.length_map,Z0g,Z00,c,decide_true,if_true,if_neg rr,if_pos q2]
       rfl
      ·have c:¬((msgs.length:Int) > (heard.length:Int)):=by omega
       simp -implicitDefEqProofs only[k1,k2,Z07,List.length_map,Z0g,Z00,c,decide_false,Bool.false_eq_true,if_false,if_neg rr,if_neg q2]
       rfl
     ·have e1:(!decide (normL msgs=msgs))=true:=by simp[q]
      have rr:(errM msgs≠0∨normL msgs≠msgs) := .inr q;simp -implicitDefEqProofs only[e1,if_true,if_pos rr]
      rfl
    ·have ez:(!(errM msgs==0))=true:=by simp[z]
     have rr:(errM msgs≠0∨normL msgs≠msgs) := .inl z;simp -implicitDefEqProofs only[ez,Zfd,Z00,if_true,if_pos rr]
     rfl
   ·show (if chkH node none heard=0 then _ else _)=_
    by_cases z:chkH node none heard=0
    ·rw[if_pos z,if_neg (show ¬chkH node none heard≠0 from λhh=>hh z)]
    ·rw[if_neg z,if_pos (show chkH node none heard≠0 from z)];rfl
end Go.AM


namespace Go.AM
open Go.Proofs
attribute [local congr] Z0i Z0j Z0k Z0l Z0m Z0n Z0o Z0p Z0q Z0r Z0s Z0t Z0u Z0v Z0w Z0x Z0y Z0z Z0A Z0B Z0C Z0D Z0E Z0F Z0G Z0H Z0I
theorem Zmc(l:List Envl)(b:Bool)(hl:l.length<1000000)(h:Hp):Z2T [SL 10 encV b l] h=if (b&&l.isEmpty)=true then some (nilS,h) else some (.sl 10 (h.length+1) 0 l.length l.length false,h++[.arr 10 [] true false,.arr 10 (l.map encV) true false]):=by
 rw[Zv9];by_cases hb:(b&&l.isEmpty)=true
 ·simp[Z3V,hb]
 ·have hb':(b&&l.isEmpty)=false:=by simpa using hb
  have hle:l.length * 80≤140737488355328:=by omega
  have h2:((l.map encV).all λe=>e.length==10)=true:=by simp[encV]
  simp[Z3V,hb',bsE,fillS,appE,readSl,hle,h2,ap]
abbrev zO:List AV:=[I 0,I 0,nilS]
theorem bx3{β:Type}{c:List AV}{h:Hp}(hc:c.length=3)(ho:c.all okC=true)(k:Kb β):effK (boxE 3 (.agg c) h.length) h k=k (.ptr h.length 0 0 1) (h++[.arr 3 [c] true false]):=Z2F 3 h.length (.agg c) h k rfl hc ho
theorem R_own(b:Bool)(o:Outb)(hl:o.pend.length<1000000)(H:Hp):∃g,Z2K [ob b o] H=some (.agg [I o.node,I o.next,if (b&&o.pend.isEmpty)=true then nilS else .sl 10 (H.length+3) 0 o.pend.length o.pend.length false],H++g)∧((b&&o.pend.isEmpty)=false→g[3]? = some (.arr 10 (o.pend.map encV) true false)):=by
 obtain ⟨node,next,pend⟩:=o;rw[ZwA];dsimp only at hl ⊢
 obtain ⟨L,hL⟩:∃L:AV,L=SL 10 encV b pend:=⟨_,rfl⟩;have hok:okC L=true:=by rw[hL];rfl
 obtain ⟨h1,hh1⟩:∃h1:Hp,h1=H++[AObj.arr 3 [[I node,I next,L]] true false]:=⟨_,rfl⟩;have hl1:h1.length=H.length+1:=by rw[hh1];simp
 obtain ⟨h2,hh2⟩:∃h2:Hp,h2=h1++[AObj.arr 3 [zO] true false]:=⟨_,rfl⟩;have hl2:h2.length=H.length+2:=by rw[hh2];simp[hl1]
 have b1:∀k:AV→Hp→Option (AV × Hp),effK (boxE 3 (.agg [I node,I next,L]) H.length) H k=k (.ptr H.length 0 0 1) h1:=λk=>by rw[hh1];exact bx3 rfl (by rw[hL];rfl) k
 have b2:∀k:AV→Hp→Option (AV × Hp),effK (boxE 3 (.agg zO) h1.length) h1 k=k (.ptr h1.length 0 0 1) h2:=λk=>by rw[hh2];exact bx3 rfl rfl k
 have g0:h2[H.length]? = some (.arr 3 [[I node,I next,L]] true false):=by rw[hh2];exact Z0a (by rw[hh1,Z0R];rfl)
 have g1:h2[h1.length]? = some (.arr 3 [zO] true false):=by rw[hh2,Z0R];rfl
 have l2:∀k:Go.AM.K (AV × Hp),ldK 1 false (.ptr H.length 0 2 1) h2 k=k L:=λk=>by rw[Z01,g0];rfl
 have fc:=Zmc pend b hl h2;rw[← hL] at fc
 -- the clone,the two boxes
 have key:∀(v:AV)(h3 g:Hp),h3=h2++g→(v=nilS∨∃id n,v = .sl 10 id 0 n n false)→Z2T [L] h2=some (v,h3)→Z8i Tryz.prog Z6D Z9K NN (λv h=>some (v,h)) (.agg [I node,I next,L]) H=some (.agg [I node,I next,v],H++([.arr 3 [[I node,I next,v]] true false,.arr 3 [[I node,I next,v]] true false]++g)):=λv h3 g he hv hf=>by
  have k0:h3[H.length]? = some (.arr 3 [[I node,I next,L]] true false):=by rw[he];exact Z0a g0
  have k1:h3[h1.length]? = some (.arr 3 [zO] true false):=by rw[he];exact Z0a g1
  obtain ⟨h4,hh4⟩:∃h4:Hp,h4=h3.set H.length (.arr 3 [[I node,I next,v]] true false):=⟨_,rfl⟩
  have s1:∀k:AV→Hp→Option (AV × Hp),effK (stE 1 (.ptr H.length 0 2 1) v h3) h3 k=k .u h4:=λk=>by
   have:stE 1 (.ptr H.length 0 2 1) v h3=some (.u,⟨[(H.length,.arr 3 [[I node,I next,v]] true false)],[],[H.length]⟩):=by
    rw[Z0f,k0];rcases hv with rfl | ⟨id,n,rfl⟩<;>simp[putAt]
   rw[Z0d this,hh4]
  have m0:h4[H.length]? = some (.arr 3 [[I node,I next,v]] true false):=by rw[hh4];exact getSelfN k0
  have m1:h4[h1.length]? = some (.arr 3 [zO] true false):=by rw[hh4];exact getSetN k1 (by omega)
  have lw:∀k:Go.AM.K (AV × Hp),ldK 3 true (.ptr H.length 0 0 1) h4 k=k (.agg [I node,I next,v]):=λk=>by rw[Z01,m0];rfl
  obtain ⟨h5,hh5⟩:∃h5:Hp,h5=h4.set h1.length (.arr 3 [[I node,I next,v]] true false):=⟨_,rfl⟩
  have s2:∀k:AV→Hp→Option (AV × Hp),effK (stE 3 (.ptr h1.length 0 0 1) (.agg [I node,I next,v]) h4) h4 k=k .u h5:=λk=>by
   have:stE 3 (.ptr h1.length 0 0 1) (.agg [I node,I next,v]) h4=some (.u,⟨[(h1.length,.arr 3 [[I node,I next,v]] true false)],[],[h1.length]⟩):=by
    rw[Z0f,m1];rcases hv with rfl | ⟨id,n,rfl⟩<;>simp[putAt]
   rw[Z0d this,hh5]
  have n1:h5[h1.length]? = some (.arr 3 [[I node,I next,v]] true false):=by rw[hh5];exact getSelfN m1
  have lw2:∀k:Go.AM.K (AV × Hp),ldK 3 true (.ptr h1.length 0 0 1) h5 k=k (.agg [I node,I next,v]):=λk=>by rw[Z01,n1];rfl
  simp -implicitDefEqProofs only[Z8i,b1,b2,Z04,Nat.zero_add,l2,Zwy,Z02,hf,s1,lw,s2,lw2]
  congr 2
  rw[hh5,hh4,he,hh2,hh1];have e1:(H++[AObj.arr 3 [[I node,I next,L]] true false]).length=H.length+1:=by simp
  rw[e1]
  simp
 by_cases hb:(b&&pend.isEmpty)=true
 ·rw[if_pos hb] at fc
  rw[if_pos hb];refine ⟨[.arr 3 [[I node,I next,nilS]] true false,.arr 3 [[I node,I next,nilS]] true false]++[], ?_,λh=>by rw[hb] at h;cases h⟩
  rw[show ob b ⟨node,next,pend⟩ = .agg [I node,I next,L] by rw[hL]]
  exact key nilS h2 [] (by simp) (.inl rfl) fc
 ·rw[if_neg hb] at fc
  rw[if_neg hb];refine ⟨[.arr 3 [[I node,I next,.sl 10 (H.length+3) 0 pend.length pend.length false]] true false,.arr 3 [[I node,I next,.sl 10 (H.length+3) 0 pend.length pend.length false]] true false]++[.arr 10 [] true false,.arr 10 (pend.map encV) true false], ?_,λ_ => ?_⟩
  ·rw[show ob b ⟨node,next,pend⟩ = .agg [I node,I next,L] by rw[hL]]
   have:=key _ _ [.arr 10 [] true false,.arr 10 (pend.map encV) true false] rfl (.inr ⟨_,_,rfl⟩) fc
   rw[hl2] at this;exact this
  ·rfl
theorem own_D(b:Bool)(o:Outb)(hl:o.pend.length<1000000)(h:Hp)(base:Nat):newA Z2K [ob b o] h base=if (b&&o.pend.isEmpty)=true then some (.agg [I o.node,I o.next,nilS],⟨[],[],[]⟩) else some (.agg [I o.node,I o.next,.sl 10 base 0 o.pend.length o.pend.length false],⟨[],[.arr 10 (o.pend.map encV) true false],[]⟩):=by
 by_cases hb:(b&&o.pend.isEmpty)=true
 ·rw[if_pos hb]
  refine Zkt ⟨rfl,λH => ?_⟩ h base
  obtain ⟨g,h1,-⟩:=R_own b o hl H;rw[if_pos hb] at h1;exact ⟨g,h1⟩
 ·rw[if_neg hb]
  refine Zks (x:=([I o.node,I o.next],10,o.pend.map encV,o.pend.length,o.pend.length,false)) ⟨rfl,λe he c hc => ?_,λH => ?_⟩ h base
  ·obtain ⟨x,-,rfl⟩:=List.mem_map.1 he
   simp only[encV,List.mem_cons,List.not_mem_nil,or_false] at hc;rcases hc with rfl | rfl | rfl | rfl | rfl | rfl | rfl | rfl | rfl | rfl<;>rfl
  ·obtain ⟨g,h1,h2⟩:=R_own b o hl H
   rw[if_neg hb] at h1;exact ⟨g,3,h1,h2 (by simpa using hb)⟩
theorem ZBY(n:Int)(h:Hp):Z6L [I n] h=some (if isNode n=true then .tup [ob true ⟨n,1,[]⟩,I 0] else .tup [ob true ⟨0,0,[]⟩,I 2],h):=by
 have fn:=Zeu n;have bx:∀k:Kb AV,effK (boxE 3 (.agg zO) ([]:Hp).length) [] k=k (.ptr 0 0 0 1) [.arr 3 [zO] true false]:=λk=>rfl
 have b1:∀k:KV,buildK zO [(some (0,1),I n),(some (1,1),I 1)] k=k (.agg [I n,I 1,nilS]):=λk=>rfl
 have b2:∀k:KV,buildK zO [] k=k (.agg zO):=λk=>rfl
 have st:∀(a b:Int)(k:Kb AV),effK (stE 3 (.ptr 0 0 0 1) (.agg [I a,I b,nilS]) [.arr 3 [zO] true false]) [.arr 3 [zO] true false] k=k .u [.arr 3 [[I a,I b,nilS]] true false]:=λa b k=>Z0d (v := .u) (id:=0) (o := .arr 3 [[I a,I b,nilS]] true false) (ft:=[0]) rfl k
 have ld:∀(a b:Int)(k:KV),ldK 3 true (.ptr 0 0 0 1) [.arr 3 [[I a,I b,nilS]] true false] k=k (.agg [I a,I b,nilS]):=λa b k=>rfl
 cases hn:isNode n with
 | true=>
  rw[hn] at fn;refine (Zld (a0:=I n) (v := .tup [.agg [I n,I 1,nilS],I 0]) rfl ?_ h).trans rfl
  simp -implicitDefEqProofs only[Z7I,bx,Zlc,Z02,fn,Z0L,Bool.not_true,Z00,Bool.false_eq_true,if_false,b1,st,ld]
  rfl
 | false=>
  rw[hn] at fn;refine (Zld (a0:=I n) (v := .tup [.agg zO,I 2]) rfl ?_ h).trans rfl
  simp -implicitDefEqProofs only[Z7I,bx,Zlc,Z02,fn,Z0L,Bool.not_false,Z00,if_true,b2,st,ld]
  rfl
end Go.AM


namespace Go.AM
open Go.Proofs
section
variable {β:Type} {P:Program} {T:Tab} {D:DTab} {N:Nat} {K:Kb β}
theorem ZBZ{x0:Qb β}{xr:Kb β}{l:List Envl}{v fv:AV}{h:Hp}{p:Envl→Bool}(hl:l.length<4611686018427387904)(hE:∀(i:Nat) (x:Envl),l[i]? = some x→∀k:Go.AM.K β,iaK 10 v (I i) (λq=>ldK 10 true q h k)=k (.agg (encV x)))(hp:∀x ∈ l,∀k:Kb β,callVK T fv [.agg (encV x)] h k=k (B (p x)) h):
  ∀(n i:Nat),i≤l.length→l.length<i+n→Z4Z P T D N x0 xr n v fv (I l.length) (I i) h=match (l.drop i).findIdx? p with | some j=>xr (I ((i+j:Nat):Int)) h | none=>x0 h:=by
 intro n;induction n with
 | zero=>intro i h1 h2;omega
 | succ n ih=>
  intro i h1 h2;show Zc4 P T D N (Z4Z P T D N x0 xr n) x0 xr _ _ _ _ h=_
  unfold Zc4;rcases Nat.lt_or_ge i l.length with hi | hi
  ·have hx:l[i]? = some l[i]:=List.getElem?_eq_getElem hi
   have hlt:((i:Int)<(l.length:Int)):=by omega
   have hw:IntKind.i64.wrap ((i:Int)+1)=((i+1:Nat):Int):=by rw[wrap64 (by omega) (by omega)];omega
   have hpx:=hp l[i] (List.getElem_mem hi);have hex:=hE i l[i] hx;rw[List.drop_eq_getElem_cons hi,List.findIdx?_cons];simp -implicitDefEqProofs only[Z05,hlt,decide_true,Z00,if_true,hex,hpx,Z0e,hw];cases hc:p l[i] with
   | true=>simp
   | false=>
    have h3:=ih (i+1) hi (by omega)
    simp only[Bool.false_eq_true,if_false];refine h3.trans ?_
    cases (List.drop (i+1) l).findIdx? p with
    | none=>rfl
    | some j=>
     show xr (I ((i+1+j:Nat):Int)) h=xr (I ((i+(j+1):Nat):Int)) h;rw[show i+1+j=i+(j+1) by omega]
  ·have:i=l.length:=by omega
   subst this;have c1:¬((l.length:Int)<(l.length:Int)):=by omega
   simp[c1]
theorem Zmd{l:List Envl}{v fv:AV}{h:Hp}{p:Envl→Bool}{K:Kb β}(hl:l.length<N)(hN:l.length<4611686018427387904)(hL:∀k:Go.AM.K β,lenK v k=k (I l.length))(hE:∀(i:Nat) (x:Envl),l[i]? = some x→∀k:Go.AM.K β,iaK 10 v (I i) (λq=>ldK 10 true q h k)=k (.agg (encV x)))(hp:∀x ∈ l,∀k:Kb β,callVK T fv [.agg (encV x)] h k=k (B (p x)) h):
  Z66 P T D N K v fv h=K (I (match l.findIdx? p with | some j=>(j:Int) | none => -1)) h:=by
 unfold Z66;simp only[hL]
 have:=ZBZ (P:=P) (D:=D) (N:=N) (x0:=λh=>Zc3 P T D N K h) (xr:=λa h=>K a h) hN hE hp N 0 (Nat.zero_le _) (by omega)
 simp only[List.drop_zero] at this;refine this.trans ?_
 cases l.findIdx? p with
 | none=>rfl
 | some j=>simp
theorem ZC0{x0:AV→Kb β}{l:List Envl}{k:Nat}{fv:AV}{h:Hp}{p:Envl→Bool}(hl:l.length<4611686018427387904)(hp:∀x ∈ l,∀hh:Hp,Kept h hh k→∀K:Kb β,callVK T fv [.agg (encV x)] hh K=K (B (p x)) hh):
  ∀(n i w:Nat)(hh:Hp)(W:List Envl),i≤l.length→l.length<i+n→DelInv encV p 10 l h k i w hh W→
  ∃(w':Nat)(hh':Hp)(W':List Envl),Z3f P T D N x0 n (.sl 10 k 0 l.length l.length false) fv (I w) (I i) hh=x0 (.sl 10 k 0 l.length l.length false) (I w') hh'∧DelInv encV p 10 l h k l.length w' hh' W':=by
 intro n;induction n with
 | zero=>intro i w hh W h1 h2;omega
 | succ n ih=>
  intro i w hh W h1 h2 J;have lL:∀k':Go.AM.K β,lenK (.sl 10 k 0 l.length l.length false) k'=k' (I l.length):=λk'=>rfl
  rcases Nat.lt_or_ge i l.length with hi | hi
  ·have hx:l[i]? = some l[i]:=List.getElem?_eq_getElem hi
   have hxl:l[i] ∈ l:=List.getElem_mem hi;generalize l[i]=x at hx hxl;have hlt:((i:Int)<(l.length:Int)):=by omega
   have hw:IntKind.i64.wrap ((i:Int)+1)=((i+1:Nat):Int):=by rw[wrap64 (by omega) (by omega)];omega
   have hwi:=J.wi;have hw1:IntKind.i64.wrap ((w:Int)+1)=((w+1:Nat):Int):=by rw[wrap64 (by omega) (by omega)];omega
   have ia:∀(m:Nat)(hm:m<l.length)(k':Go.AM.K β),iaK 10 (.sl 10 k 0 l.length l.length false) (I m) k'=k' (.ptr k m 0 l.length):=λm hm k'=>by
    have e1:(0:Int)≤(m:Int):=by omega
    have e2:((m:Nat):Int)<((l.length:Nat):Int):=by omega
    simp[iaK,e2]
   have l1:∀k':Go.AM.K β,ldK 10 true (.ptr k i 0 l.length) hh k'=k' (.agg (encV x)):=λk'=>ldE (f:=encV) (by simp[encV]) J.at_ J.len (J.get hx) k'
   have bx:∀k':Kb β,effK (boxE 10 (.agg [I 0,I 0,I 0,I 0,I 0,I 0,I 0,I 0,I 0,I 0]) hh.length) hh k'=k' (.ptr hh.length 0 0 1) (hh++[.arr 10 [[I 0,I 0,I 0,I 0,I 0,I 0,I 0,I 0,I 0,I 0]] true false]):=λk'=>Z2F 10 hh.length (.agg [I 0,I 0,I 0,I 0,I 0,I 0,I 0,I 0,I 0,I 0]) hh k' rfl rfl rfl
   have sb:∀k':Kb β,effK (stE 10 (.ptr hh.length 0 0 1) (.agg (encV x)) (hh++[.arr 10 [[I 0,I 0,I 0,I 0,I 0,I 0,I 0,I 0,I 0,I 0]] true false])) (hh++[.arr 10 [[I 0,I 0,I 0,I 0,I 0,I 0,I 0,I 0,I 0,I 0]] true false]) k'=k' .u (hh++[.arr 10 [encV x] true false]):=λk'=>by
    rw[Z0d (v := .u) (id:=hh.length) (o := .arr 10 [encV x] true false) (ft:=[hh.length]) (by simp[encV]),Z3r];rfl
   have lb:∀k':Go.AM.K β,ldK 10 true (.ptr hh.length 0 0 1) (hh++[.arr 10 [encV x] true false]) k'=k' (.agg (encV x)):=λk'=>by simp[encV]
   have cp:=hp x hxl (hh++[AObj.arr 10 [encV x] true false]) (J.kept.app _)
   have sw:∀k':Kb β,effK (stE 10 (.ptr k w 0 l.length) (.agg (encV x)) (hh++[.arr 10 [encV x] true false])) (hh++[.arr 10 [encV x] true false]) k'=k' .u ((hh++[AObj.arr 10 [encV x] true false]).set k (.arr 10 ((W.set w x).map encV) true false)):=λk'=>
    stEl (f:=encV) (i:=w) (λx=>by simp[encV]) (by simp[encV]) (Z0a J.at_) J.len (by have:=J.len;omega) k'
   have body:∀(w':Nat)(hh':Hp)(W':List Envl),DelInv encV p 10 l h k (i+1) w' hh' W'→∃(w'':Nat)(hh'':Hp)(W'':List Envl),Z3f P T D N x0 n (.sl 10 k 0 l.length l.length false) fv (I w') (I ((i+1:Nat):Int)) hh'=x0 (.sl 10 k 0 l.length l.length false) (I w'') hh''∧DelInv encV p 10 l h k l.length w'' hh'' W'':=λw' hh' W' J'=>ih (i+1) w' hh' W' hi (by omega) J'
   cases hc:p x with
   | true=>
    obtain ⟨w',hh',W',e1,e2⟩:=body w _ W (J.skip hx hc [AObj.arr 10 [encV x] true false]);refine ⟨w',hh',W', ?_,e2⟩;rw[← e1];show Z41 P T D N (Z3f P T D N x0 n) x0 _ _ _ _ hh=_;simp -implicitDefEqProofs only[Z41,lL,Z05,hlt,decide_true,Z00,if_true,ia i hi,l1,bx,sb,lb,cp,hc,Z0L,Bool.not_true,Bool.false_eq_true,if_false,Zbx,Zft,Z0e,hw]
   | false=>
    obtain ⟨w',hh',W',e1,e2⟩:=body (w+1) _ _ (J.keep hx hc [AObj.arr 10 [encV x] true false]);refine ⟨w',hh',W', ?_,e2⟩;rw[← e1];show Z41 P T D N (Z3f P T D N x0 n) x0 _ _ _ _ hh=_;simp -implicitDefEqProofs only[Z41,lL,Z05,hlt,decide_true,Z00,if_true,ia i hi,ia w (by omega),l1,bx,sb,lb,cp,hc,Z0L,Bool.not_false,sw,Zbx,Zft,Z0e,hw,hw1]
  ·have:i=l.length:=by omega
   subst this;have c1:¬((l.length:Int)<(l.length:Int)):=by omega
   refine ⟨w,hh,W, ?_,J⟩;show Z41 P T D N (Z3f P T D N x0 n) x0 _ _ _ _ hh=_;simp -implicitDefEqProofs only[Z41,lL,Z05,c1,decide_false,Z00,Bool.false_eq_true,if_false]
theorem ZC1{l:List Envl}{k:Nat}{fv:AV}{h:Hp}{p:Envl→Bool}{K:Kb β}(hk:h[k]? = some (.arr 10 (l.map encV) true false))(hl:l.length<N)(hN:l.length<1000000)
  (hi:∀K:Kb β,callK (T 72) [.sl 10 k 0 l.length l.length false,fv] h K=K (I (match l.findIdx? p with | some j=>(j:Int) | none => -1)) h)
  (hp:∀x ∈ l,∀hh:Hp,Kept h hh k→∀K:Kb β,callVK T fv [.agg (encV x)] hh K=K (B (p x)) hh):
  ∃hh:Hp,Z42 P T D N K (.sl 10 k 0 l.length l.length false) fv h=K (.sl 10 k 0 (l.filter λx => !p x).length l.length false) hh∧hh[k]? = some (.arr 10 ((l.filter λx => !p x).map encV++List.replicate (l.length-(l.filter λx => !p x).length) [I 0,I 0,I 0,I 0,I 0,I 0,I 0,I 0,I 0,I 0]) true false)∧Kept h hh k:=by
 cases hf:l.findIdx? p with
 | none=>
  have hno:∀x ∈ l,p x=false:=λx hx=>by have:=List.findIdx?_eq_none_iff.1 hf x hx;simpa using this
  have e:(l.filter λx => !p x)=l:=List.filter_eq_self.2 λx hx=>by simp[hno x hx]
  rw[e];refine ⟨h, ?_,by rw[Nat.sub_self,List.replicate_zero,List.append_nil];exact hk,.refl h k⟩
  rw[hf] at hi;simp -implicitDefEqProofs only[Z42,hi,Z03,beq_self_eq_true,Bool.false_xor,Z00,if_true]
 | some j=>
  rw[hf] at hi;obtain ⟨hj,hpj,hbef⟩:=List.findIdx?_eq_some_iff_getElem.1 hf
  have hx:l[j]? = some l[j]:=List.getElem?_eq_getElem hj
  have hnb:∀x ∈ l.take j,p x=false:=λx hx=>by
   obtain ⟨i,hi,rfl⟩:=List.getElem_of_mem hx;rw[List.length_take] at hi;have:=hbef i (by omega)
   rw[List.getElem_take];simpa using this
  have e:((l.take j).filter λx => !p x)=l.take j:=List.filter_eq_self.2 λx hx=>by simp[hnb x hx]
  have J0:DelInv encV p 10 l h k j j h l:=⟨.refl h k,hk,rfl,by rw[e,List.length_take];omega,by rw[e],rfl⟩
  have J1:DelInv encV p 10 l h k (j+1) j h l:=by have:=J0.skip hx hpj [];rwa [List.append_nil] at this
  obtain ⟨w,hh,W,e1,e2⟩:=ZC0 (P:=P) (T:=T) (D:=D) (x0:=λw27_0 w27_5 h=>Z8p P T D N K w27_0 w27_5 h) (by omega) hp N (j+1) j h l hj (by omega) J1
  have hw:w=(l.filter λx => !p x).length:=by have:=e2.hw;rwa [List.take_length] at this
  have hpre:W.take w=l.filter λx => !p x:=by have:=e2.pre;rwa [List.take_length] at this
  have hwl:w≤W.length:=by rw[e2.len];exact e2.wl
  have hj1:((j:Int) == -1)=false:=by rw[beq_eq_false_iff_ne];omega
  have wj:IntKind.i64.wrap ((j:Int)+1)=((j+1:Nat):Int):=by rw[wrap64 (by omega) (by omega)];omega
  have sl1:∀k':Go.AM.K β,sliceK 10 (.sl 10 k 0 l.length l.length false) (some (I w)) none none k'=k' (.sl 10 k w (l.length-w) l.length false):=λk'=>by
   have:=e2.wl
   simp[sliceK,boundOr,this]
  have sl2:∀k':Go.AM.K β,sliceK 10 (.sl 10 k 0 l.length l.length false) none (some (I w)) none k'=k' (.sl 10 k 0 w l.length false):=λk'=>by
   have:=e2.wl
   simp[sliceK,boundOr,this]
  have cl:=λk'=>ZlX (β:=β) (z:=[I 0,I 0,I 0,I 0,I 0,I 0,I 0,I 0,I 0,I 0]) (fr:=l.length) (full:=false) e2.at_ hwl e2.len.symm k'
  rw[e2.len] at cl;refine ⟨hh.set k (.arr 10 ((W.take w).map encV++List.replicate (l.length-w) [I 0,I 0,I 0,I 0,I 0,I 0,I 0,I 0,I 0,I 0]) true false), ?_, ?_,e2.kept.set _⟩
  ·simp -implicitDefEqProofs only[Z42,hi,Z03,hj1,Bool.false_xor,Z00,Bool.false_eq_true,if_false,Z0e,wj]
   refine e1.trans ?_;simp -implicitDefEqProofs only[Z8p,sl1,sl2,cl];rw[hw]
  ·rw[List.getElem?_set_self (List.getElem?_eq_some_iff.1 e2.at_).1,hpre,hw]
end
attribute [local congr] Z0i Z0j Z0k Z0l Z0m Z0n Z0o Z0p Z0q Z0r Z0s Z0t Z0u Z0v Z0w Z0x Z0y Z0z Z0A Z0B Z0C Z0D Z0E Z0F Z0G Z0H Z0I
theorem Zme{st:Bool}{h:Hp}{sz id w fr:Nat}{full nl:Bool}{es rest:List (List AV)}(hid:h[id]? = some (.arr sz (es++rest) true nl))(hw:es.length=w)(hf:(es++rest).length=fr)(ok:okE st es=true):cvt st h (.sl sz id 0 w fr full)=some (.lst sz nl es):=by
 subst hw hf;have e:((es++rest).drop 0).take es.length=es:=by rw[List.drop_zero,List.take_left]
 simp[cvt,hid,ok]
def againL(to:Int)(l:List Envl):List Envl:=l.filter λx=>x.to==to
theorem Zmf{x:Envl}{to:Int}{h:Hp}{id:Nat}(h1:h[id]? = some (.arr 1 [[I to]] true false)):Z3A [.agg (encV x),.ptr id 0 0 1] h=some (B (!(x.to==to)),h):=by
 refine Zvg (g:=[.arr 10 [encV x] true false]) ?_ rfl;have bx:∀k:AV→Hp→Option (AV × Hp),effK (boxE 10 (.agg (encV x)) h.length) h k=k (.ptr h.length 0 0 1) (h++[.arr 10 [encV x] true false]):=λk=>Z2F 10 h.length _ h k rfl rfl rfl
 have e1:∀k:Go.AM.K (AV × Hp),ldK 1 false (.ptr id 0 0 1) (h++[.arr 10 [encV x] true false]) k=k (I to):=λk=>by rw[Z01,Z0a h1];rfl
 simp -implicitDefEqProofs only[Zby,bx,Z04,Nat.zero_add,nl1,e1,Z03,Bool.true_xor]
theorem ZC2(l:List Envl)(b:Bool)(to:Int)(hl:l.length<1000)(h:Hp){id:Nat}(h0:h[id]? = some (.arr 1 [[I to]] true false)):∃c hc v hh,Z2T [SL 10 encV b l] h=some (c,hc)∧Z6s [c,.fn 49 [.ptr id 0 0 1]] hc=some (v,hh)∧(∃w,(∀st,cvt st hh v=some w)∧nrm (.l 10) w = .lst 10 (b&&l.isEmpty) ((againL to l).map encV)):=by
 have hN:=NN_ge;have rC:=Zmc l b (by omega) h
 by_cases hb:(b&&l.isEmpty)=true
 ·rw[if_pos hb] at rC
  obtain ⟨rfl,hl0⟩:=Bool.and_eq_true_iff.1 hb;have:l=[]:=by simpa using hl0
  subst this
  have fi:Z6r [nilS,.fn 49 [.ptr id 0 0 1]] h=some (I (-1),h):=
   ZkR (g:=[]) (by rw[List.append_nil];exact Zmd (l:=[]) (p:=λ_=>true) (by have:=NN_ge;simp;omega) (by simp) (λ_=>rfl) (by simp) (by simp)) rfl
  refine ⟨nilS,h,nilS,h,rC, ?_,nilS,λst=>rfl,rfl⟩
  rw[ZkT];simp -implicitDefEqProofs only[Z42,ZkS,Z02,fi,Z03,beq_self_eq_true,Bool.false_xor,Z00,if_true]
 ·rw[if_neg hb] at rC
  obtain ⟨hc,hhc⟩:∃hc:Hp,hc=h++[.arr 10 [] true false,.arr 10 (l.map encV) true false]:=⟨_,rfl⟩;have hlen:hc.length=h.length+2:=by rw[hhc];simp
  have hk:hc[h.length+1]? = some (.arr 10 (l.map encV) true false):=by rw[hhc,Zff];rfl
  have hid:id<h.length:=(List.getElem?_eq_some_iff.1 h0).1;have h0c:hc[id]? = some (.arr 1 [[I to]] true false):=by rw[hhc,List.getElem?_append_left hid,h0]
  rw[← hhc] at rC
  have fi:Z6r [.sl 10 (h.length+1) 0 l.length l.length false,.fn 49 [.ptr id 0 0 1]] hc=some (I (match l.findIdx? (λm => !(m.to==to)) with | some j=>(j:Int) | none => -1),hc):=
   ZkR (g:=[]) (by
    rw[List.append_nil];refine Zmd (l:=l) (p:=λm => !(m.to==to)) (by omega) (by omega) (λ_=>rfl) (λi x hx k => ?_) (λx hx k => ?_)
    ·have hi:=(List.getElem?_eq_some_iff.1 hx).1
     have e2:((i:Nat):Int)<((l.length:Nat):Int):=by omega
     have ia:∀k':Go.AM.K (AV × Hp),iaK 10 (.sl 10 (h.length+1) 0 l.length l.length false) (I i) k'=k' (.ptr (h.length+1) i 0 l.length):=λk'=>by simp[iaK,e2]
     rw[ia];exact ldE (f:=encV) rfl hk rfl hx k
    ·show callK (Z6q 49) [.agg (encV x),.ptr id 0 0 1] hc k=_
     simp -implicitDefEqProofs only[Zvj,Z02,Zmf h0c]) rfl
  have cb:∀x ∈ l,∀hh:Hp,Kept hc hh (h.length+1)→∀K:AV→Hp→Option (AV × Hp),callVK Z3B (.fn 49 [.ptr id 0 0 1]) [.agg (encV x)] hh K=K (B (!(x.to==to))) hh:=λx hx hh J K=>by
   have h0h:hh[id]? = some (.arr 1 [[I to]] true false):=by rw[J.same id (by omega) (by omega),h0c]
   show callK (Z3B 49) [.agg (encV x),.ptr id 0 0 1] hh K=_;simp -implicitDefEqProofs only[Zvp,Z02,Zmf h0h]
  obtain ⟨hh,e1,e2,e3⟩:=ZC1 (P:=Tryz.prog) (T:=Z3B) (D:=Z9y) (N:=NN) (K:=λv h=>some (v,h)) (fv := .fn 49 [.ptr id 0 0 1]) hk (by omega) (by omega) (λK=>by
   simp -implicitDefEqProofs only[ZkS,Z02,fi]<;>rfl) cb
  rw[show (l.filter λx => !(!(x.to==to)))=againL to l by unfold againL;congr 1;funext x;simp] at e1 e2
  have hw:(againL to l).length≤l.length:=List.length_filter_le _ _;refine ⟨_,_,_,hh,rC,by rw[ZkT];exact e1,.lst 10 false ((againL to l).map encV),λst => ?_,by rw[Bool.eq_false_iff.2 hb];rfl⟩
  exact Zme e2 (by simp) (by simp;omega) (Z0U λx=>by cases st<;>simp[encV,isS])
def againO(o:Outb)(to:Int):List Envl × Int:=if chkO o≠0 then ([],1) else if isNode to=false then ([],2) else (againL to o.pend,0)
theorem ZC3(b:Bool)(o:Outb)(to:Int)(hl:o.pend.length<1000)(h:Hp):∃b',Z6t [ob b o,I to] h=some (.tup [.lst 10 b' ((againO o to).1.map encV),I (againO o to).2],h):=by
 obtain ⟨node,next,pend⟩:=o;dsimp only at hl ⊢
 obtain ⟨L,hL⟩:∃L:AV,L=SL 10 encV b pend:=⟨_,rfl⟩;obtain ⟨H,hH⟩:∃H:Hp,H=[AObj.arr 3 [[I node,I next,L]] true false,.arr 1 [[I to]] true false]:=⟨_,rfl⟩;have bx:∀k:Kb AV,effK (boxE 3 (.agg [I node,I next,L]) ([]:Hp).length) [] k=k (.ptr 0 0 0 1) [.arr 3 [[I node,I next,L]] true false]:=λk=>by rw[hL];rfl
 have by_:∀k:Kb AV,effK (boxE 1 (I to) ([AObj.arr 3 [[I node,I next,L]] true false]:Hp).length) [.arr 3 [[I node,I next,L]] true false] k=k (.ptr 1 0 0 1) H:=λk=>by rw[hH];rfl
 have lw:∀k:KV,ldK 3 true (.ptr 0 0 0 1) H k=k (.agg [I node,I next,L]):=λk=>by rw[hH];rfl
 have l2:∀k:KV,ldK 1 false (.ptr 0 0 2 1) H k=k L:=λk=>by rw[hH];rfl
 have lt:∀k:KV,ldK 1 false (.ptr 1 0 0 1) H k=k (I to):=λk=>by rw[hH];rfl
 have fC:=Zev b ⟨node,next,pend⟩ (by dsimp only;omega)
 rw[show ob b ⟨node,next,pend⟩ = .agg [I node,I next,L] by rw[hL]] at fC ⊢
 have fn:=Zeu to;have hnr:nrm (.a [none,none,some 10]) (.agg [I node,I next,L]) = .agg [I node,I next,L]:=by rw[hL];rfl
 have hp:plains [.agg [I node,I next,L],I to]=true:=by rw[hL];rfl
 unfold againO;by_cases z:chkO ⟨node,next,pend⟩=0
 ·have ez:(chkO ⟨node,next,pend⟩==0)=true:=by simp[z]
  rw[if_neg (show ¬chkO ⟨node,next,pend⟩≠0 from λhh=>hh z)]
  cases hn:isNode to with
  | false=>
   rw[hn] at fn;rw[if_pos rfl];refine ⟨true,(ZfW (a0 := .agg [I node,I next,L]) (a1:=I to) (v := .tup [nilS,I 2]) hp ?_ h).trans rfl⟩
   rw[hnr];simp -implicitDefEqProofs only[Z5V,bx,by_,lw,ZfV,ZkU,Z02,fC,Z03,ez,Bool.true_xor,Bool.not_true,Z00,Bool.false_eq_true,if_false,lt,fn,Z0L,Bool.not_false,if_true]
   rfl
  | true=>
   rw[hn] at fn;rw[if_neg (by simp)]
   obtain ⟨c,hc,v,hh,r1,r2,w,w1,w2⟩:=ZC2 pend b to hl H (id:=1) (by rw[hH];rfl)
   rw[← hL] at r1;refine ⟨b&&pend.isEmpty,(ZfW (a0 := .agg [I node,I next,L]) (a1:=I to) (v := .tup [w,I 0]) hp ?_ h).trans ?_⟩
   ·rw[hnr]
    simp -implicitDefEqProofs only[Z5V,bx,by_,lw,ZfV,ZkU,Zvu,Zvv,Z02,fC,Z03,ez,Bool.true_xor,Bool.not_true,Z00,Bool.false_eq_true,if_false,lt,fn,Z0L,Z04,Nat.zero_add,l2,r1,r2]
    simp only[Z2Y,Z1b,Z1a,w1,cvt_s]
    rfl
   ·show some (AV.tup [nrm (.l 10) w,I 0],h)=_
    rw[w2]
 ·have ez:(chkO ⟨node,next,pend⟩==0)=false:=by simp[z]
  rw[if_pos (show chkO ⟨node,next,pend⟩≠0 from z)];refine ⟨true,(ZfW (a0 := .agg [I node,I next,L]) (a1:=I to) (v := .tup [nilS,I 1]) hp ?_ h).trans rfl⟩
  rw[hnr];simp -implicitDefEqProofs only[Z5V,bx,by_,lw,ZfV,Z02,fC,Z03,ez,Bool.true_xor,Bool.not_false,Z00,if_true]
  rfl
end Go.AM


namespace Go.AM
open Go.Proofs
theorem Zmg{node next t:Int}{x:Envl}{c:Bool}(h:(if formE x≠0 then formE x else if x.frm≠node then 10 else if (c||decide (next≤x.num))=true then 5 else t)=0):formE x=0∧x.frm=node∧c=false∧x.num<next∧t=0:=by
 by_cases z:formE x≠0
 ·rw[if_pos z] at h;exact absurd h z
 ·rw[if_neg z] at h
  by_cases q:x.frm≠node
  ·rw[if_pos q] at h;exact absurd h (by decide)
  ·rw[if_neg q] at h
   by_cases q2:(c||decide (next≤x.num))=true
   ·rw[if_pos q2] at h;exact absurd h (by decide)
   ·rw[if_neg q2] at h
    simp only[Bool.or_eq_true,decide_eq_true_eq,not_or,Bool.not_eq_true] at q2;exact ⟨Classical.byContradiction z,Classical.byContradiction q,q2.1,by omega,h⟩
theorem Z5D{node next:Int}:∀{l:List Envl}{p:Option Int},chkP node next p l=0→l.Pairwise (λa b=>a.num<b.num)∧(∀q,p=some q→∀x ∈ l,q<x.num)∧∀x ∈ l,formE x=0∧x.frm=node∧x.num<next
 | [],p,_=>⟨.nil,by simp,by simp⟩
 | x::r,none,h=>by
  obtain ⟨k1,k2,-,k4,k5⟩:=Zmg (c:=false) h;obtain ⟨h1,h2,h3⟩:=Z5D k5;refine ⟨.cons (h2 _ rfl) h1,λq hq=>(by cases hq),λy hy => ?_⟩
  rcases List.mem_cons.1 hy with rfl | hy
  ·exact ⟨k1,k2,k4⟩
  ·exact h3 y hy
 | x::r,some q,h=>by
  obtain ⟨k1,k2,k3,k4,k5⟩:=Zmg (c:=decide (x.num≤q)) h;obtain ⟨h1,h2,h3⟩:=Z5D k5;have k3':¬x.num≤q:=by simpa using k3
  refine ⟨.cons (h2 _ rfl) h1,λq' hq y hy => ?_,λy hy => ?_⟩
  ·injection hq with hq
   subst hq;rcases List.mem_cons.1 hy with rfl | hy
   ·omega
   ·have:=h2 _ rfl y hy;omega
  ·rcases List.mem_cons.1 hy with rfl | hy
   ·exact ⟨k1,k2,k4⟩
   ·exact h3 y hy
def fromN(l:List Envl)(v:Int):Nat:=l.findIdx λx=>decide (v≤x.num)
theorem Zmh(l:List Envl)(v:Int):fromN l v≤l.length:=List.findIdx_le_length
theorem Zmi{l:List Envl}{v:Int}(hs:l.Pairwise λa b=>a.num<b.num){j:Nat}{x:Envl}(hx:l[j]? = some x):decide (v≤x.num)=decide (fromN l v≤j):=by
 obtain ⟨hj,rfl⟩:=List.getElem?_eq_some_iff.1 hx;rw[decide_eq_decide]
 constructor
 ·intro h
  exact Nat.le_of_not_lt λhc=>by
   have:=List.not_of_lt_findIdx hc
   simp at this
   omega
 ·intro h
  have hc:fromN l v<l.length:=by omega
  have h0:v≤l[fromN l v].num:=by have:=List.findIdx_getElem (xs:=l) (p:=λx:Envl=>decide (v≤x.num)) (w:=hc);unfold fromN;simpa using this
  rcases Nat.lt_or_ge (fromN l v) j with hlt | hge
  ·have:=List.pairwise_iff_getElem.1 hs _ _ hc hj hlt
   omega
  ·have:fromN l v=j:=by omega
   subst this;exact h0
def hasN(l:List Envl)(v:Int):Bool:=match l[fromN l v]? with | some x=>x.num==v | none=>false
theorem ZC4{l:List Envl}{v:Int}(hs:l.Pairwise λa b=>a.num<b.num):(l.filter λx => !(x.num==v))=if hasN l v=true then l.eraseIdx (fromN l v) else l:=by
 have hd:=λ(j:Nat)(x:Envl)(hx:l[j]? = some x)=>Zmi (v:=v) hs hx
 have one:∀(j:Nat)(x:Envl),l[j]? = some x→x.num=v→j=fromN l v:=λj x hx hv=>by
  have h1:=hd j x hx;have h2:fromN l v≤j:=by rw[decide_eq_decide] at h1;exact h1.1 (by omega)
  obtain ⟨hj,rfl⟩:=List.getElem?_eq_some_iff.1 hx;rcases Nat.lt_or_ge (fromN l v) j with hlt | hge
  ·have hc:fromN l v<l.length:=by omega
   have h3:=List.pairwise_iff_getElem.1 hs _ _ hc hj hlt;have h4:=hd (fromN l v) _ (List.getElem?_eq_getElem hc);rw[decide_eq_decide] at h4;have:=h4.2 (Nat.le_refl _)
   omega
  ·omega
 by_cases q:hasN l v=true
 ·rw[if_pos q]
  unfold hasN at q;cases hx:l[fromN l v]? with
  | none=>rw[hx] at q;cases q
  | some x=>
   rw[hx] at q;simp only[beq_iff_eq] at q;obtain ⟨hc,hxe⟩:=List.getElem?_eq_some_iff.1 hx
   rw[List.eraseIdx_eq_take_drop_succ]
   have hsplit:l=l.take (fromN l v)++x::l.drop (fromN l v+1):=by
    conv=>lhs;rw[← List.take_append_drop (fromN l v) l]
    rw[List.drop_eq_getElem_cons hc,hxe]
   conv=>lhs;rw[hsplit]
   have k1:((l.take (fromN l v)).filter λx => !(x.num==v))=l.take (fromN l v):=List.filter_eq_self.2 λy hy=>by
    obtain ⟨i,hi⟩:=List.getElem?_of_mem hy;rw[List.getElem?_take] at hi;split at hi
    ·rename_i hlt
     cases hyv:(y.num==v) with
     | false=>rfl
     | true=>have:=one i y hi (by simpa using hyv);omega
    ·cases hi
   have k2:((l.drop (fromN l v+1)).filter λx => !(x.num==v))=l.drop (fromN l v+1):=List.filter_eq_self.2 λy hy=>by
    obtain ⟨i,hi⟩:=List.getElem?_of_mem hy;rw[List.getElem?_drop] at hi;cases hyv:(y.num==v) with
    | false=>rfl
    | true=>have:=one _ y hi (by simpa using hyv);omega
   rw[List.filter_append,List.filter_cons_of_neg (by simp[q]),k1,k2]
 ·rw[if_neg q]
  unfold hasN at q;refine List.filter_eq_self.2 λy hy => ?_
  obtain ⟨i,hi⟩:=List.getElem?_of_mem hy;cases hyv:(y.num==v) with
  | false=>rfl
  | true=>
   have e:=one i y hi (by simpa using hyv)
   subst e;rw[hi] at q
   exact absurd hyv q
def heardO(o:Outb)(hd:Hrd):Outb × Int:=if chkO o≠0 then (⟨0,0,[]⟩,1) else if hd.frm≠o.node then (⟨0,0,[]⟩,10) else if (decide (hd.num<1)||decide (hd.num≥o.next))=true then (⟨0,0,[]⟩,2) else (⟨o.node,o.next,o.pend.filter λx => !(x.num==hd.num)⟩,0)
theorem Z4t{o:Outb}(h:chkO o=0):isNode o.node=true∧1≤o.next∧o.next≤1073741825∧o.pend.length≤64∧chkP o.node o.next none o.pend=0:=by
 unfold chkO at h;by_cases q1:(!isNode o.node||decide (o.next<1)||decide (o.next > 1073741825))=true
 ·rw[if_pos q1] at h;exact absurd h (by decide)
 ·rw[if_neg q1] at h
  simp only[Bool.or_eq_true,decide_eq_true_eq,not_or,Bool.not_eq_true'] at q1;by_cases q2:64<o.pend.length
  ·rw[if_pos q2] at h;exact absurd h (by decide)
  ·rw[if_neg q2] at h
   exact ⟨by simpa using q1.1.1,by omega,by omega,by omega,h⟩
section
variable {β:Type} {T:Tab} {D:DTab} {N:Nat} {K:Kb β}
theorem ZC5{x0:Kb β}{fv:AV}{h:Hp}{n c:Nat}(hn:n<1000000)(hc:c≤n)(hp:∀j,j<n→∀k:Kb β,callVK T fv [I (j:Nat)] h k=k (B (decide (c≤j))) h):∀(m i j:Nat),i≤c→c≤j→j≤n→j-i<m→
  Z4R Tryz.prog T D N x0 m fv (I i) (I j) h=x0 (I c) h:=by
 intro m;induction m with
 | zero=>intro i j _ _ _ h;omega
 | succ m ih=>
  intro i j h1 h2 h3 h4;show Z8v Tryz.prog T D N (Z4R Tryz.prog T D N x0 m) x0 _ _ _ h=_
  by_cases hij:i<j
  ·have hij':(i:Int)<(j:Int):=by omega
   obtain ⟨q,hq⟩:∃q,q=(i+j) / 2:=⟨_,rfl⟩;have w1:IntKind.i64.wrap ((i:Int)+(j:Int))=((i+j:Nat):Int):=by rw[wrap64 (by omega) (by omega)];omega
   have w2:IntKind.u64.wrap ((i+j:Nat):Int)=((i+j:Nat):Int):=wrapU (by omega) (by omega)
   have w3:IntKind.i64.wrap (q:Int)=(q:Int):=wrap64 (by omega) (by omega)
   have w4:IntKind.i64.wrap ((q:Int)+1)=((q+1:Nat):Int):=by rw[wrap64 (by omega) (by omega)];omega
   have hs:∀k:Go.AM.K β,reckK Tryz.prog .shr 114 (.s (.int .u64 ((i+j:Nat):Int))) (.s (.int .u64 1)) k=k (.s (.int .u64 (q:Int))):=λk=>by
    have:=Zir (P:=Tryz.prog) (ty:=114) (i+j) 1 (by omega) k
    rw[hq];exact this
   have hpq:=hp q (by omega)
   have a1:∀k:Go.AM.K β,arithK .add (I i) (I j) k=k (I ((i+j:Nat):Int)):=λk=>by rw[Z0e,w1]
   have a2:∀k:Go.AM.K β,convK Tryz.prog 3 114 (I ((i+j:Nat):Int)) k=k (.s (.int .u64 ((i+j:Nat):Int))):=λk=>by rw[Z5O un_3 Z5P,w2]
   have a3:∀k:Go.AM.K β,convK Tryz.prog 114 3 (.s (.int .u64 (q:Int))) k=k (I q):=λk=>by rw[Z5O Z5P un_3,w3]
   simp only[Z8v,Zfu,Z05,hij',decide_true,Z00,if_true,a1,a2,hs,a3,hpq,Z0L];by_cases hcq:c≤q
   ·rw[decide_eq_true hcq]
    simp only[Bool.not_true,Bool.false_eq_true,if_false];exact ih i q h1 hcq (by omega) (by omega)
   ·rw[decide_eq_false hcq]
    simp only[Bool.not_false,if_true,Z0e,w4];exact ih (q+1) j (by omega) h2 h3 (by omega)
  ·have:i=j:=by omega
   have:i=c:=by omega
   subst this;have hij':¬(i:Int)<(j:Int):=by omega
   simp[Z8v,hij']
theorem ZC6{K:Kb β}{fv:AV}{h:Hp}{n c:Nat}(hn:n<1000000)(hN:n<N)(hc:c≤n)(hp:∀j,j<n→∀k:Kb β,callVK T fv [I (j:Nat)] h k=k (B (decide (c≤j))) h):
  Z8w Tryz.prog T D N K (I n) fv h=K (I c) h:=by
 have:=ZC5 (D:=D) (N:=N) (x0:=λw10_5 h=>ZbD Tryz.prog T D N K w10_5 h) hn hc hp N 0 n (by omega) hc (Nat.le_refl _) (by omega)
 exact this
end
attribute [local congr] Z0i Z0j Z0k Z0l Z0m Z0n Z0o Z0p Z0q Z0r Z0s Z0t Z0u Z0v Z0w Z0x Z0y Z0z Z0A Z0B Z0C Z0D Z0E Z0F Z0G Z0H Z0I
def OwnV(h:Hp)(v:AV)(l:List Envl):Prop:=(l=[]∧v=nilS)∨∃id,v = .sl 10 id 0 l.length l.length false∧h[id]? = some (.arr 10 (l.map encV) true false)
theorem OwnV.len{β:Type}{h:Hp}{v:AV}{l:List Envl}(O:OwnV h v l)(k:Go.AM.K β):lenK v k=k (I l.length):=by
 rcases O with ⟨rfl,rfl⟩ | ⟨id,rfl,-⟩<;>rfl
theorem ZC7{l:List Envl}{v:AV}{hd:Hrd}{node next:Int}{h:Hp}{i1 i2 j:Nat}{x:Envl}(O:OwnV h v l)(hx:l[j]? = some x)(h1:h[i1]? = some (.arr 3 [[I node,I next,v]] true false))(h2:h[i2]? = some (.arr 2 [encH hd] true false)):
  Z5o [I j,.ptr i1 0 0 1,.ptr i2 0 0 1] h=some (B (decide (x.num≥hd.num)),h):=by
 refine ZwF (g:=[]) ?_ rfl;rw[List.append_nil];obtain ⟨hj,-⟩:=List.getElem?_eq_some_iff.1 hx;rcases O with ⟨rfl,rfl⟩ | ⟨id,rfl,hid⟩
 ·simp at hj
 have e2:((j:Nat):Int)<((l.length:Nat):Int):=by omega
 have l1:∀k:Go.AM.K (AV × Hp),ldK 1 false (.ptr i1 0 2 1) h k=k (.sl 10 id 0 l.length l.length false):=λk=>by rw[Z01,h1];rfl
 have ia:∀k:Go.AM.K (AV × Hp),iaK 10 (.sl 10 id 0 l.length l.length false) (I j) k=k (.ptr id j 0 l.length):=λk=>by simp[iaK,e2]
 have lx:∀k:Go.AM.K (AV × Hp),ldK 1 false (.ptr id j 2 l.length) h k=k (I x.num):=λk=>by simp[hid,hx,pickC,encV]
 have l2:∀k:Go.AM.K (AV × Hp),ldK 1 false (.ptr i2 0 1 1) h k=k (I hd.num):=λk=>by rw[Z01,h2];rfl
 simp -implicitDefEqProofs only[ZbE,Z04,Nat.zero_add,l1,ia,lx,l2,Z0P]
theorem ZC8{l:List Envl}{v:AV}{hd:Hrd}{node next:Int}{h:Hp}{i1 i2:Nat}(hs:l.Pairwise λa b=>a.num<b.num)(hl:l.length<1000000)(O:OwnV h v l)(h1:h[i1]? = some (.arr 3 [[I node,I next,v]] true false))(h2:h[i2]? = some (.arr 2 [encH hd] true false)):
  Z9L [I l.length,.fn 55 [.ptr i1 0 0 1,.ptr i2 0 0 1]] h=some (I (fromN l hd.num),h):=by
 refine ZwM (g:=[]) ?_ rfl;rw[List.append_nil];refine ZC6 hl (by have:=NN_ge;omega) (Zmh l hd.num) λj hj k => ?_
 have hx:=List.getElem?_eq_getElem hj;have:=ZC7 O hx h1 h2;show callK (Z6E 55) [I j,.ptr i1 0 0 1,.ptr i2 0 0 1] h k=_;rw[← Zmi hs hx];simp -implicitDefEqProofs only[ZwI,Z02,this]
theorem ZC9{l:List Envl}{h:Hp}{id i:Nat}(hid:h[id]? = some (.arr 10 (l.map encV) true false))(hi:i<l.length)(hl:l.length<100000):Z6F [.sl 10 id 0 l.length l.length false,I i,I ((i+1:Nat):Int)] h=some (.sl 10 id 0 (l.eraseIdx i).length l.length false,h.set id (.arr 10 ((l.eraseIdx i).map encV++[zE]) true false)):=by
 obtain ⟨n,hn⟩:∃n,n=l.length:=⟨_,rfl⟩;have hle:(l.eraseIdx i).length=n-1:=by rw[List.length_eraseIdx];simp[hi,hn]
 obtain ⟨j,hj⟩:∃j,j=i+1:=⟨_,rfl⟩;rw[← hn,hle, ← hj,ZwR];have hA:j≤n:=by omega
 have hB:i≤n:=by omega
 have hC:i≤j:=by omega
 have hD:n-1≤n:=by omega
 have ln:∀(m:Nat)(k:Go.AM.K (AV × Hp)),lenK (.sl 10 id 0 m n false) k=k (I m):=λm k=>rfl
 have s1:∀k:Go.AM.K (AV × Hp),sliceK 10 (.sl 10 id 0 n n false) (some (I i)) (some (I j)) (some (I n)) k=k (.sl 10 id i (j-i) n (n==j)):=λk=>by
  simp[sliceK,boundOr,hA,hB,hC]
 have s2:∀k:Go.AM.K (AV × Hp),sliceK 10 (.sl 10 id 0 n n false) none (some (I i)) none k=k (.sl 10 id 0 i n false):=λk=>by
  simp[sliceK,boundOr,hA,hB,hC]
 have s3:∀k:Go.AM.K (AV × Hp),sliceK 10 (.sl 10 id 0 n n false) (some (I j)) none none k=k (.sl 10 id j (n-j) n false):=λk=>by
  simp[sliceK,boundOr,hA,hB,hC]
 have s4:∀k:Go.AM.K (AV × Hp),sliceK 10 (.sl 10 id 0 (n-1) n false) (some (I ((n-1:Nat):Int))) (some (I n)) none k=k (.sl 10 id (n-1) (n-(n-1)) n false):=λk=>by
  simp[sliceK,boundOr,hD]
 have ne:((i:Int)==(j:Int))=false:=by rw[beq_eq_false_iff_ne];omega
 obtain ⟨W,hW⟩:∃W:List Envl,W=l.eraseIdx i++l.drop (n-1):=⟨_,rfl⟩;have hWl:W.length=n:=by rw[hW,List.length_append,hle,List.length_drop];omega
 have rd:readSl h (.sl 10 id j (n-j) n false)=some ((l.drop j).map encV):=by
  unfold readSl;simp only[hid]
  rw[if_pos ⟨by simp[hn],trivial,by simp;omega⟩,List.take_of_length_le (by simp;omega),List.map_drop]
 have hall:(((l.drop j).map encV).all λe=>e.length==10)=true:=by
  rw[List.all_eq_true];intro e he
  obtain ⟨x,-,rfl⟩:=List.mem_map.1 he
  rfl
 have ap1:appE 10 80 (.sl 10 id 0 i n false) (.sl 10 id j (n-j) n false) h h.length=some (.sl 10 id 0 (n-1) n false,⟨[(id,.arr 10 (W.map encV) true false)],[],[id,id]⟩):=by
  unfold appE;rw[rd]
  simp only[hid,List.length_map,List.length_drop];rw[if_pos ⟨by omega,trivial,by omega,hall⟩,if_neg (by simp),if_neg (by simp;omega),if_pos ⟨trivial,trivial,by omega⟩]
  have e1:i+(l.length-j)=n-1:=by omega
  have e2:0+i+(l.length-j)=n-1:=by omega
  rw[e1,e2,Nat.zero_add,hW,List.eraseIdx_eq_take_drop_succ, ← hj,List.map_append,List.map_append,List.map_take,List.map_drop,List.map_drop]
  rfl
 have e1:∀k:AV→Hp→Option (AV × Hp),effK (appE 10 80 (.sl 10 id 0 i n false) (.sl 10 id j (n-j) n false) h h.length) h k=k (.sl 10 id 0 (n-1) n false) (h.set id (.arr 10 (W.map encV) true false)):=λk=>Z0d ap1 k
 have hset:(h.set id (.arr 10 (W.map encV) true false))[id]? = some (.arr 10 (W.map encV) true false):=getSelfN hid;have cl:=λk:AV→Hp→Option (AV × Hp)=>ZlX (z:=zE) (w:=n-1) (fr:=n) (full:=false) hset (by omega) hWl.symm k
 rw[hWl] at cl;have e5:W.take (n-1)=l.eraseIdx i:=by rw[hW, ← hle,List.take_left]
 rw[e5,show n-(n-1)=1 by omega] at cl
 rw[show n-(n-1)=1 by omega] at s4
 simp -implicitDefEqProofs only[ZbF,ln,s1,Z03,ne,Bool.false_xor,Z00,Bool.false_eq_true,if_false,s2,s3,e1,s4,cl,List.set_set]
 rfl
theorem ZCa(b:Bool)(o:Outb)(hl:o.pend.length<1000000)(H:Hp):∃v g,Z2K [ob b o] H=some (.agg [I o.node,I o.next,v],H++g)∧OwnV (H++g) v o.pend∧(v=nilS∨∃id n,v = .sl 10 id 0 n n false):=by
 obtain ⟨g,h1,h2⟩:=R_own b o hl H;by_cases hb:(b&&o.pend.isEmpty)=true
 ·rw[if_pos hb] at h1
  exact ⟨nilS,g,h1,.inl ⟨by simpa using (Bool.and_eq_true_iff.1 hb).2,rfl⟩,.inl rfl⟩
 ·rw[if_neg hb] at h1
  refine ⟨_,g,h1,.inr ⟨H.length+3,rfl, ?_⟩,.inr ⟨_,_,rfl⟩⟩;rw[List.getElem?_append_right (by omega),show H.length+3-H.length=3 by omega]
  exact h2 (by simpa using hb)
theorem ZCb(b:Bool)(o:Outb)(hd:Hrd)(hl:o.pend.length<1000)(h:Hp):∃b',Z6H [ob b o,.agg (encH hd)] h=some (.tup [ob b' (heardO o hd).1,I (heardO o hd).2],h):=by
 obtain ⟨node,next,pend⟩:=o;dsimp only at hl;obtain ⟨L,hL⟩:∃L:AV,L=SL 10 encV b pend:=⟨_,rfl⟩;obtain ⟨H,hH⟩:∃H:Hp,H=[AObj.arr 3 [[I node,I next,L]] true false,.arr 2 [encH hd] true false,.arr 3 [zO] true false]:=⟨_,rfl⟩;have bx:∀k:Kb AV,effK (boxE 3 (.agg [I node,I next,L]) ([]:Hp).length) [] k=k (.ptr 0 0 0 1) [.arr 3 [[I node,I next,L]] true false]:=λk=>by rw[hL];rfl
 have by_:∀k:Kb AV,effK (boxE 2 (.agg (encH hd)) ([AObj.arr 3 [[I node,I next,L]] true false]:Hp).length) [.arr 3 [[I node,I next,L]] true false] k=k (.ptr 1 0 0 1) [.arr 3 [[I node,I next,L]] true false,.arr 2 [encH hd] true false]:=λk=>rfl
 have bz:∀k:Kb AV,effK (boxE 3 (.agg zO) ([AObj.arr 3 [[I node,I next,L]] true false,.arr 2 [encH hd] true false]:Hp).length) [.arr 3 [[I node,I next,L]] true false,.arr 2 [encH hd] true false] k=k (.ptr 2 0 0 1) H:=λk=>by rw[hH];rfl
 have lw:∀k:KV,ldK 3 true (.ptr 0 0 0 1) H k=k (.agg [I node,I next,L]):=λk=>by rw[hH];rfl
 have l0:∀k:KV,ldK 1 false (.ptr 0 0 0 1) H k=k (I node):=λk=>by rw[hH];rfl
 have l1:∀k:KV,ldK 1 false (.ptr 0 0 1 1) H k=k (I next):=λk=>by rw[hH];rfl
 have h0:∀k:KV,ldK 1 false (.ptr 1 0 0 1) H k=k (I hd.frm):=λk=>by rw[hH];rfl
 have h1:∀k:KV,ldK 1 false (.ptr 1 0 1 1) H k=k (I hd.num):=λk=>by rw[hH];rfl
 have bd:∀k:KV,buildK zO [] k=k (.agg zO):=λk=>rfl
 have fC:=Zev b ⟨node,next,pend⟩ (by dsimp only;omega)
 have eo:ob b ⟨node,next,pend⟩ = .agg [I node,I next,L]:=by rw[hL]
 have hnr:nrm (.a [none,none,some 10]) (.agg [I node,I next,L]) = .agg [I node,I next,L]:=by rw[hL];rfl
 have hp:plains [.agg [I node,I next,L],.agg (encH hd)]=true:=by rw[hL];rfl
 -- the answer's box
 have stz:∀(h:Hp),h[2]? = some (.arr 3 [zO] true false)→∀v:AV,(v=nilS∨∃id n m,v = .sl 10 id 0 n m false)→(∀k:Kb AV,effK (stE 3 (.ptr 2 0 0 1) (.agg [I node,I next,v]) h) h k=k .u (h.set 2 (.arr 3 [[I node,I next,v]] true false))):=λh g v hv k=>by
  have:stE 3 (.ptr 2 0 0 1) (.agg [I node,I next,v]) h=some (.u,⟨[(2,.arr 3 [[I node,I next,v]] true false)],[],[2]⟩):=by
   rw[Z0f,g];rcases hv with rfl | ⟨id,n,m,rfl⟩<;>simp[putAt]
  exact Z0d this k
 have zero:∀e:Int,(∀k:Kb AV,effK (stE 3 (.ptr 2 0 0 1) (.agg zO) H) H k=k .u H)∧(∀k:KV,ldK 3 true (.ptr 2 0 0 1) H k=k (.agg zO)):=λe=>⟨λk=>by rw[hH];exact Z0d (v := .u) (id:=2) (o := .arr 3 [zO] true false) (ft:=[2]) rfl k,λk=>by rw[hH];rfl⟩
 obtain ⟨z1,z2⟩:=zero 0;rw[eo] at fC ⊢
 unfold heardO;by_cases z:chkO ⟨node,next,pend⟩=0
 ·have ez:(chkO ⟨node,next,pend⟩==0)=true:=by simp[z]
  rw[if_neg (show ¬chkO ⟨node,next,pend⟩≠0 from λhh=>hh z)]
  by_cases q1:hd.frm=node
  ·have e1:(hd.frm==node)=true:=by simp[q1]
   rw[if_neg (show ¬hd.frm≠node from λhh=>hh q1)]
   by_cases q2:(decide (hd.num<1)||decide (hd.num≥next))=true
   ·rw[if_pos q2]
    refine ⟨true,(Z6I (a0 := .agg [I node,I next,L]) (a1 := .agg (encH hd)) (v := .tup [.agg zO,I 2]) hp ?_ h).trans rfl⟩;rw[hnr];simp -implicitDefEqProofs only[Z3t,bx,by_,bz,lw,Z6G,Z02,fC,Z03,ez,Bool.true_xor,Bool.not_true,Z00,Bool.false_eq_true,if_false,Z04,Nat.zero_add,h0,l0,e1,h1,l1,Z05,Z0P,Z0J,q2,if_true,bd,z1,z2]
    rfl
   ·have q2':(decide (hd.num<1)||decide (hd.num≥next))=false:=by simpa using q2
    rw[if_neg q2];obtain ⟨k1,k2,k3,k4,k5⟩:=Z4t z
    dsimp only at k1 k2 k3 k4 k5;obtain ⟨hs,-,-⟩:=Z5D k5
    obtain ⟨v,g,r1,O,hv⟩:=ZCa b ⟨node,next,pend⟩ (by dsimp only;omega) H
    rw[eo] at r1;dsimp only at r1 O
    obtain ⟨H1,hH1⟩:∃H1:Hp,H1=H++g:=⟨_,rfl⟩;rw[← hH1] at r1 O;obtain ⟨H2,hH2⟩:∃H2:Hp,H2=H1++[AObj.arr 3 [[I node,I next,v]] true false]:=⟨_,rfl⟩;have bq:∀k:Kb AV,effK (boxE 3 (.agg zO) H1.length) H1 k=k (.ptr H1.length 0 0 1) (H1++[.arr 3 [zO] true false]):=λk=>bx3 rfl rfl k
    have sq:∀k:Kb AV,effK (stE 3 (.ptr H1.length 0 0 1) (.agg [I node,I next,v]) (H1++[.arr 3 [zO] true false])) (H1++[.arr 3 [zO] true false]) k=k .u H2:=λk=>by
     have:stE 3 (.ptr H1.length 0 0 1) (.agg [I node,I next,v]) (H1++[.arr 3 [zO] true false])=some (.u,⟨[(H1.length,.arr 3 [[I node,I next,v]] true false)],[],[H1.length]⟩):=by
      rw[Z0f,Z0R];rcases hv with rfl | ⟨id,n,rfl⟩<;>simp[putAt]
     rw[Z0d this,hH2,Z3r];rfl
    have O2:OwnV H2 v pend:=by
     rcases O with O | ⟨id,rfl,hid⟩
     ·exact .inl O
     ·exact .inr ⟨id,rfl,by rw[hH2];exact Z0a hid⟩
    have gb:H2[H1.length]? = some (.arr 3 [[I node,I next,v]] true false):=by rw[hH2,Z0R];rfl
    have g1:H2[1]? = some (.arr 2 [encH hd] true false):=by rw[hH2];exact Z0a (by rw[hH1];exact Z0a (by rw[hH];rfl))
    have g2:H2[2]? = some (.arr 3 [zO] true false):=by rw[hH2];exact Z0a (by rw[hH1];exact Z0a (by rw[hH];rfl))
    have hlt:2<H1.length:=by rw[hH1,hH];simp
    have fs:=ZC8 (hd:=hd) hs (by omega) O2 gb g1
    have lv:∀k:KV,ldK 1 false (.ptr H1.length 0 2 1) H2 k=k v:=λk=>by rw[Z01,gb];rcases hv with rfl | ⟨id,n,rfl⟩<;>rfl
    have hlen:=λk:KV=>O.len k
    have lh:∀k:KV,ldK 1 false (.ptr 1 0 1 1) H2 k=k (I hd.num):=λk=>by rw[Z01,g1];rfl
    have lq:∀k:KV,ldK 3 true (.ptr H1.length 0 0 1) H2 k=k (.agg [I node,I next,v]):=λk=>by rw[Z01,gb];rcases hv with rfl | ⟨id,n,rfl⟩<;>rfl
    have hfl:=Zmh pend hd.num;have hcut:=ZC4 (v:=hd.num) hs
    -- it stays as it is
    have stay:hasN pend hd.num=false→∃b',∃w,Z5W Tryz.prog Z3i Z9M NN (λv g=>cvt false g v) (.ptr 2 0 0 1) (.ptr H1.length 0 0 1) H2=some w∧nrmR [.a [none,none,some 10],.o] w = .tup [ob b' ⟨node,next,pend.filter λx => !(x.num==hd.num)⟩,I 0]:=λhno=>by
     rw[hcut,if_neg (by rw[hno];simp)]
     have hv':v=nilS∨∃id n m,v = .sl 10 id 0 n m false:=by
      rcases hv with rfl | ⟨id,n,rfl⟩
      ·exact .inl rfl
      ·exact .inr ⟨id,n,n,rfl⟩
     have s2:=stz H2 g2 v hv';have g3:(H2.set 2 (.arr 3 [[I node,I next,v]] true false))[2]? = some (.arr 3 [[I node,I next,v]] true false):=getSelfN g2;have l3:∀k:KV,ldK 3 true (.ptr 2 0 0 1) (H2.set 2 (.arr 3 [[I node,I next,v]] true false)) k=k (.agg [I node,I next,v]):=λk=>by rw[Z01,g3];rcases hv with rfl | ⟨id,n,rfl⟩<;>rfl
     rcases O2 with ⟨rfl,rfl⟩ | ⟨id,rfl,hid⟩
     ·refine ⟨true,.tup [.agg [I node,I next,nilS],I 0], ?_,rfl⟩
      simp -implicitDefEqProofs only[Z5W,lq,s2,l3]
      rfl
     ·have hne:2≠id:=by rintro rfl;rw[g2] at hid;injection hid with hid;injection hid with e _;cases e
      have hid2:(H2.set 2 (.arr 3 [[I node,I next,.sl 10 id 0 pend.length pend.length false]] true false))[id]? = some (.arr 10 (pend.map encV) true false):=getSetN hid hne;refine ⟨false,.tup [.agg [I node,I next,.lst 10 false (pend.map encV)],I 0], ?_,rfl⟩;simp -implicitDefEqProofs only[Z5W,lq,s2,l3];simp only[Z2Y,Z1b,Z1a,Z3s,cvt_s,Z0X (st:=false) (n:=pend.length) (fr:=pend.length) (full:=false) hid2 (by simp) (by simp) (Z0U λx=>by simp[encV])]
      rfl
    by_cases q3:fromN pend hd.num<pend.length
    ·have c3:(((fromN pend hd.num:Nat):Int)<(pend.length:Int)):=by omega
     have hx:pend[fromN pend hd.num]? = some pend[fromN pend hd.num]:=List.getElem?_eq_getElem q3;generalize pend[fromN pend hd.num]=x at hx
     obtain ⟨id,rfl,hid⟩:∃id,v = .sl 10 id 0 pend.length pend.length false∧H2[id]? = some (.arr 10 (pend.map encV) true false):=by
      rcases O2 with ⟨rfl,-⟩ | O2
      ·simp at q3
      ·exact O2
     have ia:∀k:KV,iaK 10 (.sl 10 id 0 pend.length pend.length false) (I (fromN pend hd.num)) k=k (.ptr id (fromN pend hd.num) 0 pend.length):=λk=>by simp[iaK,c3]
     have lx:∀k:KV,ldK 1 false (.ptr id (fromN pend hd.num) 2 pend.length) H2 k=k (I x.num):=λk=>by simp[hid,hx,pickC,encV]
     cases q4:x.num==hd.num with
     | true=>
      rw[hcut,if_pos (by unfold hasN;rw[hx];exact q4)]
      have hD:=ZC9 hid q3 (by omega)
      obtain ⟨H3,hH3⟩:∃H3:Hp,H3=H2.set id (.arr 10 ((pend.eraseIdx (fromN pend hd.num)).map encV++[zE]) true false):=⟨_,rfl⟩;rw[← hH3] at hD;have ne1:id≠H1.length:=by rintro rfl;rw[gb] at hid;injection hid with hid;injection hid with e _;cases e
      have ne2:id≠2:=by rintro rfl;rw[g2] at hid;injection hid with hid;injection hid with e _;cases e
      have gb3:H3[H1.length]? = some (.arr 3 [[I node,I next,.sl 10 id 0 pend.length pend.length false]] true false):=by rw[hH3];exact getSetN gb ne1
      have g23:H3[2]? = some (.arr 3 [zO] true false):=by rw[hH3];exact getSetN g2 ne2
      have hid3:H3[id]? = some (.arr 10 ((pend.eraseIdx (fromN pend hd.num)).map encV++[zE]) true false):=by rw[hH3];exact getSelfN hid
      obtain ⟨V,hV⟩:∃V:AV,V = .sl 10 id 0 (pend.eraseIdx (fromN pend hd.num)).length pend.length false:=⟨_,rfl⟩;rw[← hV] at hD;obtain ⟨H4,hH4⟩:∃H4:Hp,H4=H3.set H1.length (.arr 3 [[I node,I next,V]] true false):=⟨_,rfl⟩
      have s3:∀k:Kb AV,effK (stE 1 (.ptr H1.length 0 2 1) V H3) H3 k=k .u H4:=λk=>by
       have:stE 1 (.ptr H1.length 0 2 1) V H3=some (.u,⟨[(H1.length,.arr 3 [[I node,I next,V]] true false)],[],[H1.length]⟩):=by
        rw[Z0f,gb3,hV];simp[putAt]
       rw[Z0d this,hH4]
      have gb4:H4[H1.length]? = some (.arr 3 [[I node,I next,V]] true false):=by rw[hH4];exact getSelfN gb3
      have g24:H4[2]? = some (.arr 3 [zO] true false):=by rw[hH4];exact getSetN g23 (by omega)
      have hid4:H4[id]? = some (.arr 10 ((pend.eraseIdx (fromN pend hd.num)).map encV++[zE]) true false):=by rw[hH4];exact getSetN hid3 (Ne.symm ne1)
      have lq4:∀k:KV,ldK 3 true (.ptr H1.length 0 0 1) H4 k=k (.agg [I node,I next,V]):=λk=>by rw[Z01,gb4,hV];rfl
      have s4:=stz H4 g24 V (.inr ⟨_,_,_,hV⟩);have g5:(H4.set 2 (.arr 3 [[I node,I next,V]] true false))[2]? = some (.arr 3 [[I node,I next,V]] true false):=getSelfN g24;have l5:∀k:KV,ldK 3 true (.ptr 2 0 0 1) (H4.set 2 (.arr 3 [[I node,I next,V]] true false)) k=k (.agg [I node,I next,V]):=λk=>by rw[Z01,g5,hV];rfl
      have hid5:(H4.set 2 (.arr 3 [[I node,I next,V]] true false))[id]? = some (.arr 10 ((pend.eraseIdx (fromN pend hd.num)).map encV++[zE]) true false):=getSetN hid4 (Ne.symm ne2);have hel:(pend.eraseIdx (fromN pend hd.num)).length+1=pend.length:=by rw[List.length_eraseIdx];simp[q3];omega
      have w1:IntKind.i64.wrap (((fromN pend hd.num:Nat):Int)+1)=((fromN pend hd.num+1:Nat):Int):=by rw[wrap64 (by omega) (by omega)];omega
      refine ⟨false,(Z6I (a0 := .agg [I node,I next,L]) (a1 := .agg (encH hd)) (v := .tup [.agg [I node,I next,.lst 10 false ((pend.eraseIdx (fromN pend hd.num)).map encV)],I 0]) hp ?_ h).trans rfl⟩;rw[hnr];simp -implicitDefEqProofs only[Z3t,bx,by_,bz,lw,Z6G,Zg3,Zg4,ZwU,Z02,fC,Z03,ez,Bool.true_xor,Bool.not_true,Z00,Bool.false_eq_true,if_false,Z04,Nat.zero_add,h0,l0,e1,h1,l1,Z05,Z0P,Z0J,q2',r1,bq,sq,lv,hlen,fs,c3,decide_true,Z3b,ia,lx,lh,q4,Bool.false_xor,if_true,Z0e,w1,hD,s3,Z5W,lq4,s4,l5];simp only[Z2Y,Z1b,Z1a,Z3s,cvt_s];rw[hV,Zme (st:=false) (hV ▸ hid5) (by simp) (by simp;omega) (Z0U λx=>by simp[encV])]
      rfl
     | false=>
      obtain ⟨b',w,w1,w2⟩:=stay (by unfold hasN;rw[hx];exact q4)
      refine ⟨b',(Z6I (a0 := .agg [I node,I next,L]) (a1 := .agg (encH hd)) (v:=w) hp ?_ h).trans (by rw[w2])⟩
      rw[hnr];simp -implicitDefEqProofs only[Z3t,bx,by_,bz,lw,Z6G,Zg3,Zg4,Z02,fC,Z03,ez,Bool.true_xor,Bool.not_true,Z00,Bool.false_eq_true,if_false,Z04,Nat.zero_add,h0,l0,e1,h1,l1,Z05,Z0P,Z0J,q2',r1,bq,sq,lv,hlen,fs,c3,decide_true,Z3b,ia,lx,lh,q4,Bool.false_xor];exact w1
    ·have c3:¬(((fromN pend hd.num:Nat):Int)<(pend.length:Int)):=by omega
     obtain ⟨b',w,w1,w2⟩:=stay (by unfold hasN;rw[List.getElem?_eq_none (by omega)])
     refine ⟨b',(Z6I (a0 := .agg [I node,I next,L]) (a1 := .agg (encH hd)) (v:=w) hp ?_ h).trans (by rw[w2])⟩
     rw[hnr];simp -implicitDefEqProofs only[Z3t,bx,by_,bz,lw,Z6G,Zg3,Zg4,Z02,fC,Z03,ez,Bool.true_xor,Bool.not_true,Z00,Bool.false_eq_true,if_false,Z04,Nat.zero_add,h0,l0,e1,h1,l1,Z05,Z0P,Z0J,q2',r1,bq,sq,lv,hlen,fs,c3,decide_false,Z5N];exact w1
  ·have e1:(hd.frm==node)=false:=by simp[q1]
   rw[if_pos (show hd.frm≠node from q1)];refine ⟨true,(Z6I (a0 := .agg [I node,I next,L]) (a1 := .agg (encH hd)) (v := .tup [.agg zO,I 10]) hp ?_ h).trans rfl⟩
   rw[hnr];simp -implicitDefEqProofs only[Z3t,bx,by_,bz,lw,Z6G,Z02,fC,Z03,ez,Bool.true_xor,Bool.not_true,Z00,Bool.false_eq_true,if_false,Z04,Nat.zero_add,h0,l0,e1,Bool.not_false,if_true,bd,z1,z2]
   rfl
 ·have ez:(chkO ⟨node,next,pend⟩==0)=false:=by simp[z]
  rw[if_pos (show chkO ⟨node,next,pend⟩≠0 from z)];refine ⟨true,(Z6I (a0 := .agg [I node,I next,L]) (a1 := .agg (encH hd)) (v := .tup [.agg zO,I 1]) hp ?_ h).trans rfl⟩
  rw[hnr];simp -implicitDefEqProofs only[Z3t,bx,by_,bz,lw,Z6G,Z02,fC,Z03,ez,Bool.true_xor,Bool.not_false,Z00,if_true,bd,z1,z2]
  rfl
end Go.AM


namespace Go.AM
open Go.Proofs
def ltH(a b:Hrd):Bool:=decide (cmpH a b<0)
theorem ZCc(a b:Hrd):ltH a b=ltZ [a.frm,a.num] [b.frm,b.num]:=rfl
theorem Zew{a b c:Hrd}(h1:ltH a b=true)(h2:ltH b c=true):ltH a c=true:=Z9f (n:=2) rfl rfl rfl h1 h2
theorem ZCd(a:Hrd):ltH a a=false:=ZfN _
theorem Zmj{a b:Hrd}(h1:ltH a b=false)(h2:ltH b a=false):a=b:=by
 have:=Z9g (n:=2) (a:=[a.frm,a.num]) (b:=[b.frm,b.num]) rfl rfl h1 h2
 obtain ⟨a1,a2⟩:=a;obtain ⟨b1,b2⟩:=b;simp only[List.cons.injEq,and_true] at this;rw[this.1,this.2]
abbrev AscH(l:List Hrd):Prop:=l.Pairwise λa b=>ltH a b=true
def posH(l:List Hrd)(x:Hrd):Nat:=l.findIdx λy => !ltH y x
theorem Zex(l:List Hrd)(x:Hrd):posH l x≤l.length:=List.findIdx_le_length
theorem Zgy{l:List Hrd}{x:Hrd}(hs:AscH l){j:Nat}{y:Hrd}(hy:l[j]? = some y):ltH y x=decide (j<posH l x):=by
 obtain ⟨hj,rfl⟩:=List.getElem?_eq_some_iff.1 hy;rcases Nat.lt_or_ge j (posH l x) with h | h
 ·have:=List.not_of_lt_findIdx h
  rw[decide_eq_true h];simpa using this
 ·rw[decide_eq_false (by omega)]
  have hc:posH l x<l.length:=by omega
  have h0:ltH l[posH l x] x=false:=by
   have:=List.findIdx_getElem (xs:=l) (p:=λy:Hrd => !ltH y x) (w:=hc)
   unfold posH;simpa using this
  rcases Nat.lt_or_ge (posH l x) j with hlt | hge
  ·have h1:=List.pairwise_iff_getElem.1 hs _ _ hc hj hlt
   cases h2:ltH l[j] x with
   | false=>rfl
   | true=>rw[Zew h1 h2] at h0;cases h0
  ·have:posH l x=j:=by omega
   subst this;exact h0
def insH(l:List Hrd)(x:Hrd):List Hrd:=l.take (posH l x)++x::l.drop (posH l x)
attribute [local congr] Z0i Z0j Z0k Z0l Z0m Z0n Z0o Z0p Z0q Z0r Z0s Z0t Z0u Z0v Z0w Z0x Z0y Z0z Z0A Z0B Z0C Z0D Z0E Z0F Z0G Z0H Z0I
theorem ZCe{x0:AV→AV→AV→AV→Kb AV}{l:List Hrd}{b:Bool}{x:Hrd}{h:Hp}{k n c:Nat}(hn:n=l.length)(hl:l.length<1000000)(hc:c≤n)(hk:h[k]? = some (.arr 2 [encH x] true false))(hp:∀(j:Nat)(y:Hrd),l[j]? = some y→ltH y x=decide (j<c)):∀(m i j:Nat),i≤c→c≤j→j≤n→j-i<m→
  Z52 Tryz.prog Z2I Z4e NN x0 m (.lst 2 b (l.map encH)) (.fn 45 []) (.ptr k 0 0 1) (I n) (I i) (I j) h=x0 (.lst 2 b (l.map encH)) (.fn 45 []) (.ptr k 0 0 1) (I n) (I c) h:=by
 intro m;induction m with
 | zero=>intro i j _ _ _ h;omega
 | succ m ih=>
  intro i j h1 h2 h3 h4;show Z8T Tryz.prog Z2I Z4e NN (Z52 Tryz.prog Z2I Z4e NN x0 m) x0 _ _ _ _ _ _ h=_
  by_cases hij:i<j
  ·have hij':(i:Int)<(j:Int):=by omega
   obtain ⟨q,hq⟩:∃q,q=(i+j) / 2:=⟨_,rfl⟩;have w1:IntKind.i64.wrap ((i:Int)+(j:Int))=((i+j:Nat):Int):=by rw[wrap64 (by omega) (by omega)];omega
   have w2:IntKind.u64.wrap ((i+j:Nat):Int)=((i+j:Nat):Int):=wrapU (by omega) (by omega)
   have w3:IntKind.i64.wrap (q:Int)=(q:Int):=wrap64 (by omega) (by omega)
   have w4:IntKind.i64.wrap ((q:Int)+1)=((q+1:Nat):Int):=by rw[wrap64 (by omega) (by omega)];omega
   have hs:∀k:KV,reckK Tryz.prog .shr 114 (.s (.int .u64 ((i+j:Nat):Int))) (.s (.int .u64 1)) k=k (.s (.int .u64 (q:Int))):=λk=>by
    have:=Zir (P:=Tryz.prog) (ty:=114) (i+j) 1 (by omega) k
    rw[hq];exact this
   have a1:∀k:KV,arithK .add (I i) (I j) k=k (I ((i+j:Nat):Int)):=λk=>by rw[Z0e,w1]
   have a2:∀k:KV,convK Tryz.prog 3 114 (I ((i+j:Nat):Int)) k=k (.s (.int .u64 ((i+j:Nat):Int))):=λk=>by rw[Z5O un_3 Z5P,w2]
   have a3:∀k:KV,convK Tryz.prog 114 3 (.s (.int .u64 (q:Int))) k=k (I q):=λk=>by rw[Z5O Z5P un_3,w3]
   have hy:l[q]? = some l[q]:=List.getElem?_eq_getElem (by omega)
   have hpq:=hp q _ hy;generalize l[q]=y at hy hpq;have iq:∀k:KV,iaK 2 (.lst 2 b (l.map encH)) (I q) k=k (.ep (encH y) 0):=λk=>Z0M q rfl hy k
   have lq:∀k:KV,ldK 2 true (.ep (encH y) 0) h k=k (.agg (encH y)):=λk=>rfl
   have lx:∀k':KV,ldK 2 true (.ptr k 0 0 1) h k'=k' (.agg (encH x)):=λk'=>by rw[Z01,hk];rfl
   have fh:=Zgw y x
   have cv:∀k':Kb AV,callVK Z2I (.fn 45 []) [.agg (encH y),.agg (encH x)] h k'=k' (I (cmpH y x)) h:=λk'=>by
    show callK (Z2I 45) [.agg (encH y),.agg (encH x)] h k'=_;simp -implicitDefEqProofs only[Zl0,Z02,fh]
   simp -implicitDefEqProofs only[Z8T,ZfB,Z05,hij',decide_true,Z00,if_true,a1,a2,hs,a3,iq,lq,lx,cv]
   have hpq':decide (cmpH y x<0)=decide (q<c):=hpq;rw[hpq'];by_cases hcq:q<c
   ·rw[decide_eq_true hcq]
    simp -implicitDefEqProofs only[if_true,Z0e,w4]
    exact ih (q+1) j (by omega) h2 h3 (by omega)
   ·rw[decide_eq_false hcq]
    simp -implicitDefEqProofs only[Bool.false_eq_true,if_false]
    exact ih i q h1 (by omega) (by omega) (by omega)
  ·have:i=j:=by omega
   have:i=c:=by omega
   subst this;have hij':¬(i:Int)<(j:Int):=by omega
   simp -implicitDefEqProofs only[Z8T,Z05,hij',decide_false,Z00,Bool.false_eq_true,if_false]
theorem ZCf{l:List Hrd}{b:Bool}{x:Hrd}(hs:AscH l)(hl:l.length<1000000)(h:Hp):∃f,Z9I [.lst 2 b (l.map encH),.agg (encH x),.fn 45 []] h=some (.tup [I (posH l x),B f],h):=by
 have hN:=NN_ge;obtain ⟨H,hH⟩:∃H:Hp,H=[AObj.arr 2 [encH x] true false]:=⟨_,rfl⟩;have bx:∀k:Kb AV,effK (boxE 2 (.agg (encH x)) ([]:Hp).length) [] k=k (.ptr 0 0 0 1) H:=λk=>by rw[hH];rfl
 have hk:H[0]? = some (.arr 2 [encH x] true false):=by rw[hH];rfl
 have lx:∀k':KV,ldK 2 true (.ptr 0 0 0 1) H k'=k' (.agg (encH x)):=λk'=>by rw[Z01,hk];rfl
 have hp:=Zex l x;have L2:=ZCe (x0:=λw26_0 w26_2 w26_4 w26_8 w26_9 h=>Z67 Tryz.prog Z2I Z4e NN (λv g=>cvt false g v) w26_0 w26_2 w26_4 w26_8 w26_9 h) (l:=l) (b:=b) (x:=x) (h:=H) (k:=0) (n:=l.length) (c:=posH l x) rfl hl hp hk (λj y hy=>Zgy hs hy) NN 0 l.length (by omega) hp (Nat.le_refl _) (by omega)
 by_cases q:posH l x<l.length
 ·have c3:(((posH l x:Nat):Int)<(l.length:Int)):=by omega
  have hy:l[posH l x]? = some l[posH l x]:=List.getElem?_eq_getElem q;generalize l[posH l x]=y at hy;have iq:∀k:KV,iaK 2 (.lst 2 b (l.map encH)) (I (posH l x)) k=k (.ep (encH y) 0):=λk=>Z0M _ rfl hy k
  have lq:∀k:KV,ldK 2 true (.ep (encH y) 0) H k=k (.agg (encH y)):=λk=>rfl
  have fh:=Zgw y x
  have cv:∀k':Kb AV,callVK Z2I (.fn 45 []) [.agg (encH y),.agg (encH x)] H k'=k' (I (cmpH y x)) H:=λk'=>by
   show callK (Z2I 45) [.agg (encH y),.agg (encH x)] H k'=_;simp -implicitDefEqProofs only[Zl0,Z02,fh]
  refine ⟨cmpH y x==0,Zl1 (a0 := .lst 2 b (l.map encH)) (a1 := .agg (encH x)) (a2 := .fn 45 []) rfl ?_ h⟩;simp only[nrm,nrmC];simp -implicitDefEqProofs only[Z68,bx,Z07,List.length_map];refine L2.trans ?_;simp -implicitDefEqProofs only[Z67,Z05,c3,decide_true,Z3b,iq,lq,lx,cv,Z03,Bool.false_xor]
  rfl
 ·have c3:¬(((posH l x:Nat):Int)<(l.length:Int)):=by omega
  refine ⟨false,Zl1 (a0 := .lst 2 b (l.map encH)) (a1 := .agg (encH x)) (a2 := .fn 45 []) rfl ?_ h⟩;simp only[nrm,nrmC];simp -implicitDefEqProofs only[Z68,bx,Z07,List.length_map];refine L2.trans ?_;simp -implicitDefEqProofs only[Z67,Z05,c3,decide_false,Z5N]
  rfl
theorem Zmk(l:List Hrd)(b:Bool)(hl:l.length<1000000)(h:Hp):Z1W [SL 2 encH b l] h=if (b&&l.isEmpty)=true then some (nilS,h) else some (.sl 2 (h.length+1) 0 l.length l.length false,h++[.arr 2 [] true false,.arr 2 (l.map encH) true false]):=by
 rw[ZvB];by_cases hb:(b&&l.isEmpty)=true
 ·simp[Z3W,hb]
 ·have hb':(b&&l.isEmpty)=false:=by simpa using hb
  have hle:l.length * 16≤140737488355328:=by omega
  have h2:((l.map encH).all λe=>e.length==2)=true:=by simp[encH]
  simp[Z3W,hb',bsE,fillS,appE,readSl,hle,h2,ap]
theorem ZCg(l:List Hrd)(b:Bool)(hl:l.length<1000000)(h:Hp)(base:Nat):newD Z1W [SL 2 encH b l] h base=if (b&&l.isEmpty)=true then some (nilS,⟨[],[],[]⟩) else some (.sl 2 base 0 l.length l.length false,⟨[],[.arr 2 (l.map encH) true false],[]⟩):=by
 by_cases hb:(b&&l.isEmpty)=true
 ·rw[if_pos hb]
  exact ZfI (λH=>by rw[Zmk l b hl,if_pos hb]) h base
 ·rw[if_neg hb]
  refine ZfH (x:=(2,l.map encH,l.length,l.length,false)) ⟨λe he c hc => ?_,λH=>⟨[.arr 2 [] true false,.arr 2 (l.map encH) true false],1,by rw[Zmk l b hl,if_neg hb],rfl⟩⟩ h base
  obtain ⟨n,-,rfl⟩:=List.mem_map.1 he;simp only[encH,List.mem_cons,List.not_mem_nil,or_false] at hc;rcases hc with rfl | rfl<;>rfl
theorem ZCh{l:List Hrd}{b:Bool}{x:Hrd}(hs:AscH l)(hl:l.length<100000)(h:Hp):Z9J [SL 2 encH b l,.agg (encH x),.fn 45 []] h=some (.lst 2 false ((insH l x).map encH),h):=by
 refine (Zwp (a0:=SL 2 encH b l) (a1 := .agg (encH x)) (a2 := .fn 45 []) (v := .lst 2 false ((insH l x).map encH)) rfl ?_ h).trans rfl;simp only[nrm,nrmC];obtain ⟨L,hL⟩:∃L:AV,L=SL 2 encH b l:=⟨_,rfl⟩;obtain ⟨H,hH⟩:∃H:Hp,H=[AObj.arr 2 [encH x] true false]:=⟨_,rfl⟩;have bx:∀k:Kb AV,effK (boxE 2 (.agg (encH x)) ([]:Hp).length) [] k=k (.ptr 0 0 0 1) H:=λk=>by rw[hH];rfl
 have lx:∀k':KV,ldK 2 true (.ptr 0 0 0 1) H k'=k' (.agg (encH x)):=λk'=>by rw[hH];rfl
 obtain ⟨f,fB⟩:=ZCf (b:=b&&l.isEmpty) (x:=x) hs (by omega) H
 have tp:∀(a b:AV)(k:KV),exK (.tup [a,b]) 0 k=k a:=λa b k=>rfl
 have tq:∀(a b:AV)(k:KV),exK (.tup [a,b]) 1 k=k b:=λa b k=>rfl
 have gC:=ZCg l b (by omega) H H.length
 have hHl:H.length=1:=by rw[hH];rfl
 by_cases hb:(b&&l.isEmpty)=true
 ·rw[if_pos hb] at gC
  have hl0:l=[]:=by simpa using (Bool.and_eq_true_iff.1 hb).2
  subst hl0;have ef:∀k:AV→Hp→Ent→Option AV,effD (newD Z1W [SL 2 encH b []] H H.length) H k=k nilS H ([],[]):=λk=>by rw[gC];simp[effD,ap,wrOf]
  obtain ⟨H2,hH2⟩:∃H2:Hp,H2=H++[AObj.arr 2 [encH x] true false]:=⟨_,rfl⟩;have bs:∀k:AV→Hp→Ent→Option AV,effD (bsE 2 zH 1 [(0,.agg (encH x))] H.length) H k=k (.sl 2 1 0 1 1 true) H2 ([],[1]):=λk=>by rw[hH2,hH];simp[bsE,fillS,encH,effD,ap,wrOf]
  have hx2:H2[1]? = some (.arr 2 [encH x] true false):=by rw[hH2,hH];rfl
  have hins:=Zt0 (f:=encH) (k:=2) (by_:=16) (full:=true) hx2 (λx=>rfl) (by omega) H2.length
  have hi:∀k:AV→Hp→Ent→Option AV,effD (insE 2 16 [nilS,I (posH [] x),.sl 2 1 0 1 1 true] H2 H2.length) H2 k=k (.sl 2 2 0 1 1 false) (H2++[.arr 2 [encH x] true false]) ([1],[2]):=λk=>by
   have e0:I ((posH [] x:Nat):Int)=I 0:=rfl;have hl2:H2.length=2:=by rw[hH2,hH];rfl
   rw[e0,hins,hl2];simp[effD,ap,wrOf,hl2]
  have hc3:(H2++[AObj.arr 2 [encH x] true false])[2]? = some (.arr 2 ([x].map encH) true false):=by rw[hH2,hH];rfl
  simp -implicitDefEqProofs only[Z8t,bx,lx,Zl5,Z02,fB,tp,tq,Zl3,Zl4,Z2N,ef,bs,hi]
  have dj:disjAll [(1,3),(1,4)] [([],[]),([],[]),([],[]),(idsOf (.ptr 0 0 0 1),[]),([],[1]),([1],[2]),([],[])]=true:=rfl;rw[dj,cond_true];exact Z0X (st:=false) hc3 rfl rfl (Z0U λx=>by simp[encH])
 ·rw[if_neg hb] at gC
  obtain ⟨H1,hH1⟩:∃H1:Hp,H1=H++[AObj.arr 2 (l.map encH) true false]:=⟨_,rfl⟩;have hl1:H1.length=2:=by rw[hH1,hH];rfl
  have ef:∀k:AV→Hp→Ent→Option AV,effD (newD Z1W [SL 2 encH b l] H H.length) H k=k (.sl 2 1 0 l.length l.length false) H1 ([],[1]):=λk=>by rw[gC,hHl];simp[effD,ap,wrOf,hH1,hHl]
  have lx1:∀k':KV,ldK 2 true (.ptr 0 0 0 1) H1 k'=k' (.agg (encH x)):=λk'=>by rw[hH1,hH];rfl
  obtain ⟨H2,hH2⟩:∃H2:Hp,H2=H1++[AObj.arr 2 [encH x] true false]:=⟨_,rfl⟩;have bs:∀k:AV→Hp→Ent→Option AV,effD (bsE 2 zH 1 [(0,.agg (encH x))] H1.length) H1 k=k (.sl 2 2 0 1 1 true) H2 ([],[2]):=λk=>by rw[hl1,hH2];simp[bsE,fillS,encH,effD,ap,wrOf,hl1]
  have hid:H2[1]? = some (.arr 2 (l.map encH) true false):=by rw[hH2];exact Z0a (by rw[hH1,hH];rfl)
  have hx2:H2[2]? = some (.arr 2 [encH x] true false):=by rw[hH2, ← hl1,Z0R];rfl
  have hins:=ZsZ (f:=encH) (k:=2) (by_:=16) (full:=true) hid hx2 (by omega) (λx=>rfl) (Zex l x) (by omega) H2.length
  have hi:∀k:AV→Hp→Ent→Option AV,effD (insE 2 16 [.sl 2 1 0 l.length l.length false,I (posH l x),.sl 2 2 0 1 1 true] H2 H2.length) H2 k=k (.sl 2 1 0 (l.length+1) (l.length+1) false) (H2.set 1 (.arr 2 ((l.take (posH l x)++[x]++l.drop (posH l x)).map encH) true false)) ([1,2],[1]):=λk=>by
   rw[hins];simp[effD,ap,wrOf]
  have hc3:(H2.set 1 (.arr 2 ((l.take (posH l x)++[x]++l.drop (posH l x)).map encH) true false))[1]? = some (.arr 2 ((l.take (posH l x)++[x]++l.drop (posH l x)).map encH) true false):=List.getElem?_set_self (List.getElem?_eq_some_iff.1 hid).1;have hlen:((l.take (posH l x)++[x]++l.drop (posH l x)).map encH).length=l.length+1:=by have:=Zex l x;simp;omega
  simp -implicitDefEqProofs only[Z8t,bx,lx,Zl5,Z02,fB,tp,tq,Zl3,Zl4,Z2N,ef,lx1,bs,hi]
  have dj:disjAll [(1,3),(1,4)] [([],[]),([],[1]),([],[]),(idsOf (.ptr 0 0 0 1),[]),([],[2]),([1,2],[1]),([],[])]=true:=rfl;rw[dj,cond_true];refine (Z0X (st:=false) hc3 hlen hlen (Z0U λx=>by simp[encH])).trans ?_
  unfold insH;rw[List.append_assoc]
  rfl
end Go.AM


namespace Go.AM
open Go.Proofs
section
variable {β:Type} {P:Program} {T:Tab} {D:DTab} {N:Nat} {K:Kb β}
theorem Zml(l:List Hrd)(b:Bool)(hl:l.length<1000000)(h:Hp):Z3D [SL 2 encH b l] h=some (SL 2 encH b l,h):=by
 refine (ZvC (v:=if b&&l.isEmpty then nilS else SL 2 encH b l) rfl ?_ h).trans ?_
 ·by_cases hb:(b&&l.isEmpty)=true
  ·simp[Z3W,hb]
  ·have hb':(b&&l.isEmpty)=false:=by simpa using hb
   have hle:l.length * 16≤140737488355328:=by omega
   have h2:((l.map encH).all λe=>e.length==2)=true:=by simp[encH]
   have h3:okE false (l.map encH)=true:=Z0U (by intro x;simp[encH])
   simp[Z3W,hb',bsE,fillS,appE,readSl,hle,h2,ap];rw[Z0X rfl (by simp) (by simp) h3,SL,hb']
 ·by_cases hb:(b&&l.isEmpty)=true
  ·obtain ⟨rfl,hl0⟩:=Bool.and_eq_true_iff.1 hb
   have:l=[]:=by simpa using hl0
   subst this
   rfl
  ·rw[if_neg hb]
   rfl
theorem ZCi{T:Tab}{D:DTab}{N:Nat}{x0:Qb β}{xr:Kb β}{l:List Hrd}{b:Bool}{v:Hrd}{h:Hp}{m:Nat}(hm:h[m]? = some (.arr 2 [encH v] true false))(hl:l.length<4611686018427387904)(heq:∀(x y:Hrd)(h:Hp)(k:Go.AM.K β),eqK Tryz.prog false 60 (.agg (encH x)) (.agg (encH y)) h k=k (B (x==y))):
  ∀(n i:Nat),i≤l.length→l.length<i+n→Z50 Tryz.prog T D N x0 xr n (.lst 2 b (l.map encH)) (.ptr m 0 0 1) (I l.length) (I i) h=match (l.drop i).findIdx? (λy=>v==y) with | some j=>xr (I ((i+j:Nat):Int)) h | none=>x0 h:=by
 intro n;induction n with
 | zero=>intro i h1 h2;omega
 | succ n ih=>
  intro i h1 h2;show Zc7 Tryz.prog T D N (Z50 Tryz.prog T D N x0 xr n) x0 xr _ _ _ _ h=_
  unfold Zc7;rcases Nat.lt_or_ge i l.length with hi | hi
  ·have hx:l[i]? = some l[i]:=List.getElem?_eq_getElem hi
   have hlt:((i:Int)<(l.length:Int)):=by omega
   have hw:IntKind.i64.wrap ((i:Int)+1)=((i+1:Nat):Int):=by rw[wrap64 (by omega) (by omega)];omega
   have hpx:=λk=>heq v l[i] h k
   have h3:=ih (i+1) hi (by omega)
   have ic:∀k:Go.AM.K β,iaK 2 (.lst 2 b (l.map encH)) (I i) k=k (.ep (encH l[i]) 0):=λk=>Z0M i rfl hx k
   have ld:∀k:Go.AM.K β,ldK 2 true (.ep (encH l[i]) 0) h k=k ((λy => .agg (encH y)) l[i]):=λk=>by simp[encH]
   rw[List.drop_eq_getElem_cons hi,List.findIdx?_cons];have lv:∀k:Go.AM.K β,ldK 2 true (.ptr m 0 0 1) h k=k ((λx => .agg (encH x)) v):=λk=>by simp[hm,encH]
   dsimp only at h3 ld lv ⊢
   simp only[Z05,hlt,decide_true,Z00,if_true,ic,ld,lv,hpx];cases hc:(v==l[i]) with
   | true=>simp
   | false=>
    simp only[Bool.false_eq_true,if_false,Z0e,hw];refine h3.trans ?_
    cases (List.drop (i+1) l).findIdx? (λy=>v==y) with
    | none=>rfl
    | some j=>
     show xr (I ((i+1+j:Nat):Int)) h=xr (I ((i+(j+1):Nat):Int)) h;rw[show i+1+j=i+(j+1) by omega]
  ·have:i=l.length:=by omega
   subst this
   simp
theorem ZCj(l:List Hrd)(b:Bool)(v:Hrd)(hl:l.length<1000000)(heq:∀(x y:Hrd) (h:Hp) (k:KV),eqK Tryz.prog false 60 (.agg (encH x)) (.agg (encH y)) h k=k (B (x==y)))(h:Hp):Z9E [.lst 2 b (l.map encH),(λx => .agg (encH x)) v] h=some (B (l.contains v),h):=by
 have e:∀h,Z9C [.lst 2 b (l.map encH),(λx => .agg (encH x)) v] h=some (I (match l.findIdx? (λy=>v==y) with | some j=>(j:Int) | none => -1),h):=
  ZvS rfl (by
   have:=ZCi (l:=l) (T:=Z6w) (D:=Z6v) (N:=NN) (b:=b) (v:=v) (h:=[.arr 2 [encH v] true false]) (m:=0) (x0:=λh=>Zc6 Tryz.prog Z6w Z6v NN (λv g=>cvt false g v) h) (xr:=λa h=>cvt false h a) rfl (by omega) heq NN 0 (Nat.zero_le _) (by have:=NN_ge;omega)
   have bx:∀k:Kb AV,effK (boxE 2 ((λx => .agg (encH x)) v) ([]:Hp).length) [] k=k (.ptr 0 0 0 1) [.arr 2 [encH v] true false]:=λk=>by simp[boxE,encH]
   simp only[nrm,nrmC,Z8P,Z07,List.length_map,bx];simp only[List.drop_zero] at this;refine this.trans ?_
   cases l.findIdx? (λy=>v==y) with
   | none=>rfl
   | some j=>simp)
 have bx:∀k:Kb AV,effK (boxE 2 ((λx => .agg (encH x)) v) ([]:Hp).length) [] k=k (.ptr 0 0 0 1) [.arr 2 [encH v] true false]:=λk=>by simp[boxE,encH]
 have lv:∀k:KV,ldK 2 true (.ptr 0 0 0 1) [.arr 2 [encH v] true false] k=k ((λx => .agg (encH x)) v):=λk=>by simp[encH]
 refine ZvZ rfl ?_ h;simp only[nrm,nrmC,ZbA,bx,lv,ZvV,Z02,e];have:l.contains v=(l.findIdx? (λy=>v==y)).isSome:=by rw[List.findIdx?_isSome,List.contains_eq_any_beq]
 rw[this];cases l.findIdx? (λy=>v==y)<;>simp
end
theorem Zey(x y:Hrd)(n:Bool)(h:Hp){β:Type}(k:Go.AM.K β):eqK Tryz.prog n 60 (.agg (encH x)) (.agg (encH y)) h k=k (B (xor n (x==y))):=by
 obtain ⟨a0,a1⟩:=x;obtain ⟨b0,b1⟩:=y
 have:((⟨a0,a1⟩:Hrd)==⟨b0,b1⟩)=((a0==b0)&&((a1==b1)&&true)):=by
  rw[Bool.eq_iff_iff];simp
 simp only[encH,Zpn,this]
theorem Zal{node:Int}:∀{l:List Hrd}{p:Option Hrd},chkH node p l=0→AscH l∧(∀q,p=some q→∀x ∈ l,ltH q x=true)∧∀x ∈ l,isNode x.frm=true∧1≤x.num∧x.num≤1073741824∧x.frm≠node
 | [],p,_=>⟨.nil,by simp,by simp⟩
 | x::r,p,h=>by
  have step:∀(c:Bool)(t:Int),(if (!isNode x.frm||decide (x.num<1)||decide (x.num > 1073741824))=true then 2 else if x.frm=node then 10 else if c=true then 5 else t)=0→isNode x.frm=true∧1≤x.num∧x.num≤1073741824∧x.frm≠node∧c=false∧t=0:=λc t h=>by
   by_cases q1:(!isNode x.frm||decide (x.num<1)||decide (x.num > 1073741824))=true
   ·rw[if_pos q1] at h;exact absurd h (by decide)
   ·rw[if_neg q1] at h
    simp only[Bool.or_eq_true,decide_eq_true_eq,not_or,Bool.not_eq_true'] at q1;by_cases q2:x.frm=node
    ·rw[if_pos q2] at h;exact absurd h (by decide)
    ·rw[if_neg q2] at h
     cases c with
     | true=>rw[if_pos rfl] at h;exact absurd h (by decide)
     | false=>exact ⟨by simpa using q1.1.1,by omega,by omega,q2,rfl,by rw[if_neg (by simp)] at h;exact h⟩
  cases p with
  | none=>
   obtain ⟨k1,k2,k3,k4,-,k6⟩:=step false _ h;obtain ⟨h1,h2,h3⟩:=Zal k6;refine ⟨.cons (h2 _ rfl) h1,λq hq=>(by cases hq),λy hy => ?_⟩
   rcases List.mem_cons.1 hy with rfl | hy
   ·exact ⟨k1,k2,k3,k4⟩
   ·exact h3 y hy
  | some q=>
   obtain ⟨k1,k2,k3,k4,k5,k6⟩:=step (decide (cmpH q x≥0)) _ h;obtain ⟨h1,h2,h3⟩:=Zal k6
   have kq:ltH q x=true:=by
    unfold ltH;simp only[decide_eq_false_iff_not,ge_iff_le] at k5
    exact decide_eq_true (by omega)
   refine ⟨.cons (h2 _ rfl) h1,λq' hq y hy => ?_,λy hy => ?_⟩
   ·injection hq with hq
    subst hq;rcases List.mem_cons.1 hy with rfl | hy
    ·exact kq
    ·exact Zew kq (h2 _ rfl y hy)
   ·rcases List.mem_cons.1 hy with rfl | hy
    ·exact ⟨k1,k2,k3,k4⟩
    ·exact h3 y hy
theorem Z7c{i:Inbx}(h:chkI i=0):isNode i.node=true∧i.heard.length≤256∧i.msgs.length≤64∧chkH i.node none i.heard=0∧errM i.msgs=0∧normL i.msgs=i.msgs∧i.msgs.length≤i.heard.length:=by
 unfold chkI at h;by_cases q1:isNode i.node=false
 ·rw[if_pos q1] at h;exact absurd h (by decide)
 ·rw[if_neg q1] at h
  by_cases q2:256<i.heard.length∨64<i.msgs.length
  ·rw[if_pos q2] at h;exact absurd h (by decide)
  ·rw[if_neg q2] at h
   by_cases q3:chkH i.node none i.heard≠0
   ·rw[if_pos q3] at h;exact absurd h q3
   ·rw[if_neg q3] at h
    by_cases q4:errM i.msgs≠0∨normL i.msgs≠i.msgs
    ·rw[if_pos q4] at h;exact absurd h (by decide)
    ·rw[if_neg q4] at h
     by_cases q5:i.heard.length<i.msgs.length
     ·rw[if_pos q5] at h;exact absurd h (by decide)
     ·exact ⟨by simpa using q1,by omega,by omega,Classical.byContradiction q3,Classical.byContradiction λhh=>q4 (.inl hh),Classical.byContradiction λhh=>q4 (.inr hh),by omega⟩
theorem Zez{e:Envl}(h:formE e=0):checkM e.msg=0∧isNode e.frm=true∧isNode e.to=true∧1≤e.num∧e.num≤1073741824∧e.frm≠e.to:=by
 unfold formE at h;by_cases q1:rangeE e=true
 ·rw[if_pos q1] at h;exact absurd h (by decide)
 ·rw[if_neg q1] at h
  by_cases q2:e.frm=e.to
  ·rw[if_pos q2] at h;exact absurd h (by decide)
  ·rw[if_neg q2] at h
   by_cases q3:checkM e.msg≠0
   ·rw[if_pos q3] at h;exact absurd h (by decide)
   ·unfold rangeE at q1
    simp only[Bool.or_eq_true,decide_eq_true_eq,not_or] at q1;refine ⟨Classical.byContradiction q3, ?_, ?_,by omega,by omega,q2⟩<;>(unfold isNode;simp only[Bool.and_eq_true,decide_eq_true_eq];omega)
def takeI(i:Inbx)(e:Envl):Inbx × Hrd × Bool × Int:=
 if chkI i≠0 then (⟨0,[],[]⟩,⟨0,0⟩,false,1)
 else if formE e≠0 then (⟨0,[],[]⟩,⟨0,0⟩,false,formE e)
 else if e.to≠i.node then (⟨0,[],[]⟩,⟨0,0⟩,false,19)
 else if i.heard.contains ⟨e.frm,e.num⟩=true then (i,⟨e.frm,e.num⟩,false,0)
 else if i.heard.length=256∨(i.msgs.contains e.msg=false∧i.msgs.length=64) then (⟨0,[],[]⟩,⟨0,0⟩,false,12)
 else (⟨i.node,insH i.heard ⟨e.frm,e.num⟩,if i.msgs.contains e.msg=true then i.msgs else normL (i.msgs++[e.msg])⟩,⟨e.frm,e.num⟩,true,0)
def takeV(b1 b2:Bool)(r:Inbx × Hrd × Bool × Int):AV := .tup [ib b1 b2 r.1,.agg (encH r.2.1),B r.2.2.1,I r.2.2.2]
def OwnQ(h:Hp)(v:AV)(l:List Msg):Prop:=(l=[]∧v=nilS)∨∃id,v = .sl 7 id 0 l.length l.length false∧h[id]? = some (.arr 7 (l.map encM) true false)
theorem OwnQ.shape{h:Hp}{v:AV}{l:List Msg}(O:OwnQ h v l):v=nilS∨∃id n,v = .sl 7 id 0 n n false:=by
 rcases O with ⟨-,rfl⟩ | ⟨id,rfl,-⟩
 ·exact .inl rfl
 ·exact .inr ⟨_,_,rfl⟩
theorem OwnQ.keep{h h':Hp}{v:AV}{l:List Msg}(O:OwnQ h v l)(hk:∀(j:Nat)(x:List (List AV)),h[j]? = some (AObj.arr 7 x true false)→h'[j]? = some (AObj.arr 7 x true false)):OwnQ h' v l:=by
 rcases O with O | ⟨id,rfl,h1⟩
 ·exact .inl O
 ·exact .inr ⟨id,rfl,hk _ _ h1⟩
theorem OwnQ.cvt{h:Hp}{v:AV}{l:List Msg}(O:OwnQ h v l):∃w b,cvt false h v=some w∧nrm (.l 7) w=SLm b l∧(w=nilS∨w=SLm b l):=by
 rcases O with ⟨rfl,rfl⟩ | ⟨id,rfl,h1⟩
 ·exact ⟨nilS,true,rfl,rfl,.inl rfl⟩
 ·exact ⟨.lst 7 false (l.map encM),false,Z0X (st:=false) (n:=l.length) (fr:=l.length) (full:=false) h1 (by simp) (by simp) (Z0U λx=>by simp[encM]),rfl,.inr rfl⟩
theorem OwnQ.snoc{h:Hp}{v:AV}{l:List Msg}{m:Msg}{p:Nat}(O:OwnQ h v l)(hm:h[p]? = some (.arr 7 [encM m] true false))(hne:∀id,idOf v=some id→id≠p)(hl:l.length<100000):∃v' h',(∀k:Kb AV,effK (appE 7 56 v (.sl 7 p 0 1 1 true) h h.length) h k=k v' h')∧OwnQ h' v' (l++[m])∧∀(j:Nat)(o:AObj),h[j]? = some o→(∀x,o≠AObj.arr 7 x true false)→h'[j]? = some o:=by
 have rd:readSl h (.sl 7 p 0 1 1 true)=some [encM m]:=by unfold readSl;simp[hm]
 rcases O with ⟨rfl,rfl⟩ | ⟨id,rfl,h1⟩
 ·have ha:appE 7 56 nilS (.sl 7 p 0 1 1 true) h h.length=some (.sl 7 h.length 0 1 1 false,⟨[],[.arr 7 [encM m] true false],[p]⟩):=by
   unfold appE;rw[rd]
   simp[idsOf,encM]
  refine ⟨_,h++[.arr 7 [encM m] true false],λk=>by rw[ha];rfl,.inr ⟨h.length,rfl,by rw[Z0R];rfl⟩,λj o hj _=>Z0a hj⟩
 ·have ha:appE 7 56 (.sl 7 id 0 l.length l.length false) (.sl 7 p 0 1 1 true) h h.length=some (.sl 7 id 0 (l++[m]).length (l++[m]).length false,⟨[(id,.arr 7 ((l++[m]).map encM) true false)],[],[id,p]⟩):=by
   unfold appE;rw[rd]
   simp only[h1,List.length_map,List.length_singleton];rw[if_pos ⟨trivial,trivial,by omega,by simp[encM]⟩,if_neg (by simp),if_pos (by simp)]
   simp[idsOf]
  refine ⟨_,h.set id (.arr 7 ((l++[m]).map encM) true false),λk=>Z0d ha k,.inr ⟨id,rfl,getSelfN h1⟩,λj o hj ho=>getSetN hj ?_⟩
  rintro rfl
  rw[h1] at hj;injection hj with hj
  exact ho _ hj.symm
theorem ZCk(l:List Msg)(b:Bool)(hl:l.length<1000000)(h:Hp)(base:Nat):newD Z1T [SLm b l] h base=if (b&&l.isEmpty)=true then some (nilS,⟨[],[],[]⟩) else some (.sl 7 base 0 l.length l.length false,⟨[],[.arr 7 (l.map encM) true false],[]⟩):=by
 by_cases hb:(b&&l.isEmpty)=true
 ·rw[if_pos hb]
  exact ZfI (λH=>by rw[Zeo l b hl,if_pos hb]) h base
 ·rw[if_neg hb]
  refine ZfH (x:=(7,l.map encM,l.length,l.length,false)) ⟨λe he c hc => ?_,λH=>⟨[.arr 7 [] true false,.arr 7 (l.map encM) true false],1,by rw[Zeo l b hl,if_neg hb],rfl⟩⟩ h base
  obtain ⟨n,-,rfl⟩:=List.mem_map.1 he;simp only[encM,List.mem_cons,List.not_mem_nil,or_false] at hc;rcases hc with rfl | rfl | rfl | rfl | rfl | rfl | rfl<;>rfl
abbrev zI:List AV:=[I 0,nilS,nilS]
attribute [local congr] Z0i Z0j Z0k Z0l Z0m Z0n Z0o Z0p Z0q Z0r Z0s Z0t Z0u Z0v Z0w Z0x Z0y Z0z Z0A Z0B Z0C Z0D Z0E Z0F Z0G Z0H Z0I
theorem ZCl{msgs:List Msg}{b2:Bool}{node:Int}{LH:AV}(hLH:okC LH=true)(hLH2:∀c,c=LH→cellsOf c=[c])(hl:msgs.length<1000000)(H:Hp):∃(V:AV)(Ha:Hp)(e1:Ent)(H3:Hp),(∀k:AV→Hp→Ent→Option AV,effD (newD Z1T [SLm b2 msgs] H H.length) H k=k V Ha e1)∧(∀k:AV→Hp→Ent→Option AV,effD (boxE 3 (.agg zI) Ha.length) Ha k=k (.ptr Ha.length 0 0 1) (Ha++[.arr 3 [zI] true false]) ([],[Ha.length]))∧(∀k:AV→Hp→Ent→Option AV,effD (stE 3 (.ptr Ha.length 0 0 1) (.agg [I node,LH,V]) (Ha++[.arr 3 [zI] true false])) (Ha++[.arr 3 [zI] true false]) k=k .u H3 ([Ha.length],[Ha.length]))∧H3[Ha.length]? = some (.arr 3 [[I node,LH,V]] true false)∧OwnQ H3 V msgs∧(∀(j:Nat)(o:AObj),H[j]? = some o→Ha[j]? = some o∧H3[j]? = some o)∧H.length≤Ha.length∧(e1=([],[])∨(e1=([],[H.length])∧Ha.length=H.length+1)):=by
 have gC:=ZCk msgs b2 hl H H.length
 have st:∀(V:AV)(Ha:Hp),(V=nilS∨∃id n,V = .sl 7 id 0 n n false)→∀k:AV→Hp→Ent→Option AV,effD (stE 3 (.ptr Ha.length 0 0 1) (.agg [I node,LH,V]) (Ha++[.arr 3 [zI] true false])) (Ha++[.arr 3 [zI] true false]) k=k .u (Ha++[.arr 3 [[I node,LH,V]] true false]) ([Ha.length],[Ha.length]):=λV Ha hV k=>by
  have:stE 3 (.ptr Ha.length 0 0 1) (.agg [I node,LH,V]) (Ha++[.arr 3 [zI] true false])=some (.u,⟨[(Ha.length,.arr 3 [[I node,LH,V]] true false)],[],[Ha.length]⟩):=by
   rw[Z0f,Z0R]
   have hok:([I node,LH,V].all okC)=true:=by
    rcases hV with rfl | ⟨id,n,rfl⟩<;>simp[hLH]<;>exact hLH
   rcases hV with rfl | ⟨id,n,rfl⟩<;>simp[putAt]<;>exact hLH
  rw[this];simp only[effD,wrOf,ap,List.foldl_cons,List.foldl_nil,List.append_nil,Z3r]
  rfl
 have bx:∀(Ha:Hp)(k:AV→Hp→Ent→Option AV),effD (boxE 3 (.agg zI) Ha.length) Ha k=k (.ptr Ha.length 0 0 1) (Ha++[.arr 3 [zI] true false]) ([],[Ha.length]):=λHa k=>by simp[effD,boxE,ap,wrOf]
 by_cases hb:(b2&&msgs.isEmpty)=true
 ·rw[if_pos hb] at gC
  have hl0:msgs=[]:=by simpa using (Bool.and_eq_true_iff.1 hb).2
  refine ⟨nilS,H,([],[]),_,λk=>by rw[gC];simp[effD,ap,wrOf],bx H,st nilS H (.inl rfl),by rw[Z0R];rfl,.inl ⟨hl0,rfl⟩,λj o hj=>⟨hj,Z0a hj⟩,Nat.le_refl _,.inl rfl⟩
 ·rw[if_neg hb] at gC
  obtain ⟨Ha,hHa⟩:∃Ha:Hp,Ha=H++[AObj.arr 7 (msgs.map encM) true false]:=⟨_,rfl⟩;refine ⟨_,Ha,([],[H.length]),_,λk=>by rw[gC,hHa];simp[effD,ap,wrOf],bx Ha,st _ Ha (.inr ⟨_,_,rfl⟩),by rw[Z0R];rfl,.inr ⟨H.length,rfl,Z0a (by rw[hHa,Z0R];rfl)⟩,λj o hj=>⟨by rw[hHa];exact Z0a hj,Z0a (by rw[hHa];exact Z0a hj)⟩,by rw[hHa];simp,.inr ⟨rfl,by rw[hHa];simp⟩⟩
end Go.AM


namespace Go.AM
open Go.Proofs
attribute [local congr] Z0i Z0j Z0k Z0l Z0m Z0n Z0o Z0p Z0q Z0r Z0s Z0t Z0u Z0v Z0w Z0x Z0y Z0z Z0A Z0B Z0C Z0D Z0E Z0F Z0G Z0H Z0I
structure BsT(i:Inbx)(e:Envl)(LH LM:AV)(h:Hp):Prop where
 g0:h[0]? = some (.arr 3 [[I i.node,LH,LM]] true false)
 g1:h[1]? = some (.arr 10 [encV e] true false)
 g2:h[2]? = some (.arr 3 [zI] true false)
 g3:h[3]? = some (.arr 2 [zH] true false)
 g4:h[4]? = some (.arr 3 [zI] true false)
 g5:h[5]? = some (.arr 2 [[I e.frm,I e.num]] true false)
theorem BsT.mono{i:Inbx}{e:Envl}{LH LM:AV}{h h':Hp}(B:BsT i e LH LM h)(hk:∀(j:Nat)(o:AObj),j<6→h[j]? = some o→h'[j]? = some o):BsT i e LH LM h':=
 ⟨hk _ _ (by omega) B.g0,hk _ _ (by omega) B.g1,hk _ _ (by omega) B.g2,hk _ _ (by omega) B.g3,hk _ _ (by omega) B.g4,hk _ _ (by omega) B.g5⟩
section
variable {i:Inbx} {e:Envl} {LH LM:AV} {h:Hp}
theorem BsT.l00(B:BsT i e LH LM h)(k:KV):ldK 1 false (.ptr 0 0 0 1) h k=k (I i.node):=by rw[Z01,B.g0];rfl
theorem BsT.l13(B:BsT i e LH LM h)(k:KV):ldK 7 true (.ptr 1 0 3 1) h k=k (.agg (encM e.msg)):=by rw[Z01,B.g1];rfl
theorem BsT.l1w(B:BsT i e LH LM h)(k:KV):ldK 10 true (.ptr 1 0 0 1) h k=k (.agg (encV e)):=by rw[Z01,B.g1];rfl
theorem BsT.l11(B:BsT i e LH LM h)(k:KV):ldK 1 false (.ptr 1 0 1 1) h k=k (I e.to):=by rw[Z01,B.g1];rfl
theorem BsT.l5w(B:BsT i e LH LM h)(k:KV):ldK 2 true (.ptr 5 0 0 1) h k=k (.agg (encH ⟨e.frm,e.num⟩)):=by rw[Z01,B.g5];rfl
theorem BsT.l4w(B:BsT i e LH LM h)(k:KV):ldK 3 true (.ptr 4 0 0 1) h k=k (.agg zI):=by rw[Z01,B.g4];rfl
theorem BsT.l2w(B:BsT i e LH LM h)(k:KV):ldK 3 true (.ptr 2 0 0 1) h k=k (.agg zI):=by rw[Z01,B.g2];rfl
theorem BsT.l3w(B:BsT i e LH LM h)(k:KV):ldK 2 true (.ptr 3 0 0 1) h k=k (.agg zH):=by rw[Z01,B.g3];rfl
theorem BsT.s2(B:BsT i e LH LM h)(k:Kb AV):effK (stE 3 (.ptr 2 0 0 1) (.agg zI) h) h k=k .u h:=by
 have:stE 3 (.ptr 2 0 0 1) (.agg zI) h=some (.u,⟨[(2,.arr 3 [zI] true false)],[],[2]⟩):=by rw[Z0f,B.g2];rfl
 rw[Z0d this,Z15 B.g2]
theorem BsT.s3(B:BsT i e LH LM h)(k:Kb AV):effK (stE 2 (.ptr 3 0 0 1) (.agg zH) h) h k=k .u h:=by
 have:stE 2 (.ptr 3 0 0 1) (.agg zH) h=some (.u,⟨[(3,.arr 2 [zH] true false)],[],[3]⟩):=by rw[Z0f,B.g3];rfl
 rw[Z0d this,Z15 B.g3]
end
theorem Zmm{i:Inbx}{e:Envl}{LH LM:AV}{h:Hp}(Q:BsT i e LH LM h){p:Nat}{H:List Hrd}{bh:Bool}{V:AV}{msgs:List Msg}(hp:h[p]? = some (.arr 3 [[I i.node,.lst 2 bh (H.map encH),V]] true false))(hp6:6≤p)(O:OwnQ h V msgs)(fr:Bool):
  ∃w b,cvt false ((h.set 2 (.arr 3 [[I i.node,.lst 2 bh (H.map encH),V]] true false)).set 3 (.arr 2 [encH ⟨e.frm,e.num⟩] true false)) (.tup [.agg [I i.node,.lst 2 bh (H.map encH),V],.agg (encH ⟨e.frm,e.num⟩),B fr,I 0])=some w∧nrmR [.a [none,some 2,some 7],.o,.o,.o] w = .tup [.agg [I i.node,.lst 2 bh (H.map encH),SLm b msgs],.agg (encH ⟨e.frm,e.num⟩),B fr,I 0] ∧
   (∀(k:AV→Hp→Ent→Option AV),effD (stE 3 (.ptr 2 0 0 1) (.agg [I i.node,.lst 2 bh (H.map encH),V]) h) h k=k .u (h.set 2 (.arr 3 [[I i.node,.lst 2 bh (H.map encH),V]] true false)) ([2],[2])) ∧
   (∀(k:AV→Hp→Ent→Option AV),effD (stE 2 (.ptr 3 0 0 1) (.agg (encH ⟨e.frm,e.num⟩)) (h.set 2 (.arr 3 [[I i.node,.lst 2 bh (H.map encH),V]] true false))) (h.set 2 (.arr 3 [[I i.node,.lst 2 bh (H.map encH),V]] true false)) k=k .u ((h.set 2 (.arr 3 [[I i.node,.lst 2 bh (H.map encH),V]] true false)).set 3 (.arr 2 [encH ⟨e.frm,e.num⟩] true false)) ([3],[3])) ∧
   (∀k:KV,ldK 3 true (.ptr p 0 0 1) h k=k (.agg [I i.node,.lst 2 bh (H.map encH),V])) ∧
   (∀k:KV,ldK 3 true (.ptr 2 0 0 1) ((h.set 2 (.arr 3 [[I i.node,.lst 2 bh (H.map encH),V]] true false)).set 3 (.arr 2 [encH ⟨e.frm,e.num⟩] true false)) k=k (.agg [I i.node,.lst 2 bh (H.map encH),V])) ∧
   (∀k:KV,ldK 2 true (.ptr 3 0 0 1) ((h.set 2 (.arr 3 [[I i.node,.lst 2 bh (H.map encH),V]] true false)).set 3 (.arr 2 [encH ⟨e.frm,e.num⟩] true false)) k=k (.agg (encH ⟨e.frm,e.num⟩))):=by
 have hs:=O.shape;have a2:=Q.g2;have a3:(h.set 2 (.arr 3 [[I i.node,.lst 2 bh (H.map encH),V]] true false))[3]? = some (.arr 2 [zH] true false):=getSetN Q.g3 (by omega)
 have O2:OwnQ ((h.set 2 (.arr 3 [[I i.node,.lst 2 bh (H.map encH),V]] true false)).set 3 (.arr 2 [encH ⟨e.frm,e.num⟩] true false)) V msgs:=O.keep λj x hj=>by
  have n2:2≠j:=by rintro rfl;rw[Q.g2] at hj;injection hj with hj;injection hj with q _;cases q
  have n3:3≠j:=by rintro rfl;rw[Q.g3] at hj;injection hj with hj;injection hj with q _;cases q
  exact getSetN (getSetN hj n2) n3
 obtain ⟨w,b,c1,c2,c3⟩:=O2.cvt;refine ⟨.tup [.agg [I i.node,.lst 2 bh (H.map encH),w],.agg (encH ⟨e.frm,e.num⟩),B fr,I 0],b, ?_, ?_,λk => ?_,λk => ?_,λk => ?_,λk => ?_,λk => ?_⟩
 ·simp only[Z2Y,Z1b,Z1a,Z3s,cvt_s,Zfg,c1]
  rfl
 ·show AV.tup [.agg [I i.node,.lst 2 bh (H.map encH),nrm (.l 7) w],.agg (encH ⟨e.frm,e.num⟩),B fr,I 0]=_
  rw[c2]
 ·have:stE 3 (.ptr 2 0 0 1) (.agg [I i.node,.lst 2 bh (H.map encH),V]) h=some (.u,⟨[(2,.arr 3 [[I i.node,.lst 2 bh (H.map encH),V]] true false)],[],[2]⟩):=by
   rw[Z0f,a2];rcases hs with rfl | ⟨id,n,rfl⟩<;>simp[putAt]
  exact Z0h this k
 ·have:stE 2 (.ptr 3 0 0 1) (.agg (encH ⟨e.frm,e.num⟩)) (h.set 2 (.arr 3 [[I i.node,.lst 2 bh (H.map encH),V]] true false))=some (.u,⟨[(3,.arr 2 [encH ⟨e.frm,e.num⟩] true false)],[],[3]⟩):=by
   rw[Z0f,a3];simp[putAt,encH]
  exact Z0h this k
 ·rw[Z01,hp];rcases hs with rfl | ⟨id,n,rfl⟩<;>rfl
 ·have:((h.set 2 (.arr 3 [[I i.node,.lst 2 bh (H.map encH),V]] true false)).set 3 (.arr 2 [encH ⟨e.frm,e.num⟩] true false))[2]? = some (.arr 3 [[I i.node,.lst 2 bh (H.map encH),V]] true false):=getSetN (getSelfN a2) (by omega)
  rw[Z01,this];rcases hs with rfl | ⟨id,n,rfl⟩<;>rfl
 ·have:((h.set 2 (.arr 3 [[I i.node,.lst 2 bh (H.map encH),V]] true false)).set 3 (.arr 2 [encH ⟨e.frm,e.num⟩] true false))[3]? = some (.arr 2 [encH ⟨e.frm,e.num⟩] true false):=getSelfN a3
  rw[Z01,this];rfl
set_option maxHeartbeats 4000000 in
theorem ZCm(c1 c2:Bool)(i:Inbx)(e:Envl)(hl:i.heard.length<1000)(hm:i.msgs.length<1000)(h:Hp):∃b1 b2,Z6C [ib c1 c2 i,.agg (encV e)] h=some (takeV b1 b2 (takeI i e),h):=by
 obtain ⟨LH,hLH⟩:∃LH:AV,LH=SL 2 encH c1 i.heard:=⟨_,rfl⟩;obtain ⟨LM,hLM⟩:∃LM:AV,LM=SL 7 encM c2 i.msgs:=⟨_,rfl⟩;have eib:ib c1 c2 i = .agg [I i.node,LH,LM]:=by rw[hLH,hLM]
 obtain ⟨H1,hH1⟩:∃H1:Hp,H1=[AObj.arr 3 [[I i.node,LH,LM]] true false,.arr 10 [encV e] true false,.arr 3 [zI] true false,.arr 2 [zH] true false,.arr 3 [zI] true false,.arr 2 [[I e.frm,I e.num]] true false]:=⟨_,rfl⟩;have hl1:H1.length=6:=by rw[hH1];rfl
 have B1:BsT i e LH LM H1:=by rw[hH1];exact ⟨rfl,rfl,rfl,rfl,rfl,rfl⟩
 have x0:∀k:Kb AV,effK (boxE 3 (.agg [I i.node,LH,LM]) ([]:Hp).length) [] k=k (.ptr 0 0 0 1) [.arr 3 [[I i.node,LH,LM]] true false]:=λk=>by rw[hLH,hLM];rfl
 have x1:∀k:Kb AV,effK (boxE 10 (.agg (encV e)) ([AObj.arr 3 [[I i.node,LH,LM]] true false]:Hp).length) [.arr 3 [[I i.node,LH,LM]] true false] k=k (.ptr 1 0 0 1) [.arr 3 [[I i.node,LH,LM]] true false,.arr 10 [encV e] true false]:=λk=>rfl
 have x2:∀k:Kb AV,effK (boxE 3 (.agg zI) ([AObj.arr 3 [[I i.node,LH,LM]] true false,.arr 10 [encV e] true false]:Hp).length) [.arr 3 [[I i.node,LH,LM]] true false,.arr 10 [encV e] true false] k=k (.ptr 2 0 0 1) [.arr 3 [[I i.node,LH,LM]] true false,.arr 10 [encV e] true false,.arr 3 [zI] true false]:=λk=>rfl
 have x3:∀k:Kb AV,effK (boxE 2 (.agg zH) ([AObj.arr 3 [[I i.node,LH,LM]] true false,.arr 10 [encV e] true false,.arr 3 [zI] true false]:Hp).length) [.arr 3 [[I i.node,LH,LM]] true false,.arr 10 [encV e] true false,.arr 3 [zI] true false] k=k (.ptr 3 0 0 1) [.arr 3 [[I i.node,LH,LM]] true false,.arr 10 [encV e] true false,.arr 3 [zI] true false,.arr 2 [zH] true false]:=λk=>rfl
 obtain ⟨H0,hH0⟩:∃H0:Hp,H0=[AObj.arr 3 [[I i.node,LH,LM]] true false,.arr 10 [encV e] true false,.arr 3 [zI] true false,.arr 2 [zH] true false]:=⟨_,rfl⟩;rw[← hH0] at x3;have y0:∀k:KV,ldK 1 false (.ptr 1 0 0 1) H0 k=k (I e.frm):=λk=>by rw[hH0];rfl
 have y2:∀k:KV,ldK 1 false (.ptr 1 0 2 1) H0 k=k (I e.num):=λk=>by rw[hH0];rfl
 have bI:∀k:KV,buildK zI [] k=k (.agg zI):=λk=>rfl
 have bH:∀k:KV,buildK zH [] k=k (.agg zH):=λk=>rfl
 have bK:∀k:KV,buildK zH [(some (0,1),I e.frm),(some (1,1),I e.num)] k=k (.agg [I e.frm,I e.num]):=λk=>rfl
 have d1:∀k:AV→Hp→Ent→Option AV,effD (boxE 3 (.agg zI) H0.length) H0 k=k (.ptr 4 0 0 1) (H0++[.arr 3 [zI] true false]) ([],[4]):=λk=>by rw[hH0];rfl
 have d2:∀k:AV→Hp→Ent→Option AV,effD (boxE 2 (.agg zH) (H0++[AObj.arr 3 [zI] true false]).length) (H0++[.arr 3 [zI] true false]) k=k (.ptr 5 0 0 1) (H0++[.arr 3 [zI] true false,.arr 2 [zH] true false]) ([],[5]):=λk=>by rw[hH0];rfl
 have d3:∀k:AV→Hp→Ent→Option AV,effD (stE 3 (.ptr 4 0 0 1) (.agg zI) (H0++[.arr 3 [zI] true false,.arr 2 [zH] true false])) (H0++[.arr 3 [zI] true false,.arr 2 [zH] true false]) k=k .u (H0++[.arr 3 [zI] true false,.arr 2 [zH] true false]) ([4],[4]):=λk=>by rw[hH0];rfl
 have d4:∀k:AV→Hp→Ent→Option AV,effD (stE 2 (.ptr 5 0 0 1) (.agg [I e.frm,I e.num]) (H0++[.arr 3 [zI] true false,.arr 2 [zH] true false])) (H0++[.arr 3 [zI] true false,.arr 2 [zH] true false]) k=k .u H1 ([5],[5]):=λk=>by rw[hH0,hH1];rfl
 have dj1:disjAll [(2,6),(4,6),(2,7),(4,7),(6,7),(2,8),(4,8)] [([],[]),([],[]),(idsOf (.ptr 1 0 0 1),[]),([],[]),(idsOf (.ptr 1 0 2 1),[]),([],[]),([],[4]),([],[5]),([4],[4]),([5],[5])]=true:=rfl;have lw:∀k:KV,ldK 3 true (.ptr 0 0 0 1) H1 k=k (.agg [I i.node,LH,LM]):=λk=>by rw[Z01,B1.g0,hLH,hLM];rfl
 have fC:=Z7b c1 c2 i (by omega) hm
 rw[eib] at fC;have hnr:nrm (.a [none,some 2,some 7]) (.agg [I i.node,LH,LM]) = .agg [I i.node,LH,LM]:=by rw[hLH,hLM];rfl
 have hpl:plains [.agg [I i.node,LH,LM],.agg (encV e)]=true:=by rw[hLH,hLM];rfl
 rw[eib];unfold takeI
 by_cases z:chkI i=0
 ·have ez:(chkI i==0)=true:=by simp[z]
  rw[if_neg (show ¬chkI i≠0 from λhh=>hh z)]
  obtain ⟨k1,k2,k3,k4,k5,k6,k7⟩:=Z7c z;obtain ⟨hasc,-,-⟩:=Zal k4;obtain ⟨H2,hH2⟩:∃H2:Hp,H2=H1++[AObj.arr 10 [encV e] true false]:=⟨_,rfl⟩;have hl2:H2.length=7:=by rw[hH2];simp[hl1]
  have B2:BsT i e LH LM H2:=B1.mono λj o _ hj=>by rw[hH2];exact Z0a hj
  have bs:∀k:Kb AV,effK (bsE 10 zE 1 [(0,.agg (encV e))] H1.length) H1 k=k (.sl 10 H1.length 0 1 1 true) H2:=λk=>by rw[hH2];simp[bsE,fillS,encV,effK,ap]
  have fc:=Zm9 (x:=e) (h:=H2) (id:=H1.length) (by rw[hH2,Z0R];rfl)
  have t0:∀(k:KV),exK (tupP (chkS [e])) 0 k=k (I (chkS [e]).1):=λk=>rfl
  have t1:∀(k:KV),exK (tupP (chkS [e])) 1 k=k (I (formE e)):=λk=>by rw[← Zm8];rfl
  by_cases z2:formE e=0
  ·have ez2:(formE e==0)=true:=by simp[z2]
   rw[if_neg (show ¬formE e≠0 from λhh=>hh z2)]
   obtain ⟨m1,-⟩:=Zez z2;by_cases q3:e.to=i.node
   ·have e3:(e.to==i.node)=true:=by simp[q3]
    rw[if_neg (show ¬e.to≠i.node from λhh=>hh q3)]
    have gH:∀h base,Z5k [LH] h base=some (LH,EF []):=λh base=>by
     rw[hLH];exact (Z3a (Zml i.heard c1 (by omega) h) base).trans (by simp[SL,idss,ids])
    obtain ⟨V,Ha,e1,H3,p1,p2,p3,p4,p5,p6,p7,p8⟩:=ZCl (msgs:=i.msgs) (b2:=c2) (node:=i.node) (LH:=LH) (by rw[hLH];rfl) (λc hc=>by rw[hc,hLH];rfl) (by omega) H2
    have hLM2:SLm c2 i.msgs=LM:=hLM.symm;rw[hLM2] at p1;have h20:∀k:KV,ldK 1 false (.ptr 0 0 1 1) H2 k=k LH:=λk=>by rw[Z01,B2.g0,hLH];rfl
    have h22:∀k:KV,ldK 1 false (.ptr 0 0 2 1) H2 k=k LM:=λk=>by rw[Z01,B2.g0,hLM];rfl
    have bI3:∀k:KV,buildK zI [(some (0,1),I i.node),(some (1,1),LH),(some (2,1),V)] k=k (.agg [I i.node,LH,V]):=λk=>by
     rcases p5.shape with rfl | ⟨id,n,rfl⟩<;>(rw[hLH];rfl)
    have hpa:7≤Ha.length:=by omega
    have dj2:disjAll [(1,4),(4,6),(1,7),(1,9),(3,9),(4,9),(6,9),(7,9)] [([],[]),(idsOf (.ptr 0 0 0 1),[]),([],[]),(idsOf (.ptr 0 0 1 1),[]),([],[]),([],[]),(idsOf (.ptr 0 0 2 1),[]),e1,([],[]),([],[Ha.length]),([Ha.length],[Ha.length])]=true:=by
     have n0:(0==Ha.length)=false:=by rw[beq_eq_false_iff_ne];omega
     rcases p8 with rfl | ⟨rfl,q⟩
     ·simp[disjAll,disj2,idsOf]
      rintro rfl
      simp at hpa
     ·simp[disjAll,disj2,idsOf]
      refine ⟨?_, ?_,by omega⟩
      ·rintro rfl;simp at hl2
      ·rintro rfl;simp at hpa
    have B3:BsT i e LH LM H3:=B2.mono λj o _ hj=>(p6 j o hj).2
    have h30:∀k:KV,ldK 1 false (.ptr 0 0 1 1) H3 k=k LH:=λk=>by rw[Z01,B3.g0,hLH];rfl
    have h32:∀k:KV,ldK 1 false (.ptr 0 0 2 1) H3 k=k LM:=λk=>by rw[Z01,B3.g0,hLM];rfl
    have fH:=ZCj i.heard (c1&&i.heard.isEmpty) ⟨e.frm,e.num⟩ (by omega) (λx y h k=>by rw[Zey,Bool.false_xor])
    have fM:=ZBR i.msgs (c2&&i.msgs.isEmpty) e.msg (by omega) (λx y h k=>by rw[Z4r,Bool.false_xor])
    rw[show AV.lst 2 (c1&&i.heard.isEmpty) (i.heard.map encH)=LH from hLH.symm] at fH;rw[show AV.lst 7 (c2&&i.msgs.isEmpty) (i.msgs.map encM)=LM from hLM.symm] at fM;have lenH:∀k:KV,lenK LH k=k (I i.heard.length):=λk=>by rw[hLH,SL,Z07,List.length_map]
    have lenM:∀k:KV,lenK LM k=k (I i.msgs.length):=λk=>by rw[hLM,SL,Z07,List.length_map]
    cases q4:i.heard.contains ⟨e.frm,e.num⟩ with
    | true=>
     rw[if_pos rfl];rw[hLH] at p4;obtain ⟨w,b,o1,o2,o3,o4,o5,o6,o7⟩:=Zmm B3 p4 (by omega) p5 false
     rw[show AV.lst 2 (c1&&i.heard.isEmpty) (i.heard.map encH)=LH from hLH.symm] at o1 o2 o3 o4 o5 o6 o7;refine ⟨c1,b,(Z5n (a0 := .agg [I i.node,LH,LM]) (a1 := .agg (encV e)) (v:=w) hpl ?_ h).trans ?_⟩
     ·rw[hnr]
      simp -implicitDefEqProofs only[Z3d,x0,x1,x2,x3,bI,Z04,Nat.zero_add,y0,y2,bK,d1,d2,d3,d4,dj1,cond_true,lw,Z5m,Z02,fC,Z03,ez,Bool.true_xor,Bool.not_true,Z00,Bool.false_eq_true,if_false,B1.l1w,bs,Z6B,fc,t0,t1,ez2,B2.l11,B2.l00,e3,h20,Zdd,Zde,Z2N,gH,Z4q,h22,p1,bI3,p2,p3,dj2,h30,B3.l5w,Zdf,fH,q4,if_true,o5,o3,o4,o6,o7]
      have dj3:disjAll [(1,2)] [(idsOf (.ptr Ha.length 0 0 1),[]),(idsOf (.ptr 5 0 0 1),[]),([2],[2]),([3],[3]),([],[]),([],[])]=true:=rfl;rw[dj3,cond_true];exact o1
     ·rw[o2,hLH]
      rfl
    | false=>
     rw[if_neg (by simp)]
     obtain ⟨fresh,hfr⟩:∃fresh,fresh = !i.msgs.contains e.msg:=⟨_,rfl⟩;by_cases q5:i.heard.length=256∨(i.msgs.contains e.msg=false∧i.msgs.length=64)
     ·rw[if_pos q5]
      refine ⟨true,true,(Z5n (a0 := .agg [I i.node,LH,LM]) (a1 := .agg (encV e)) (v := .tup [.agg zI,.agg zH,B false,I 12]) hpl ?_ h).trans rfl⟩;rw[hnr]
      have g5:((i.heard.length:Int)==256||(!i.msgs.contains e.msg&&(i.msgs.length:Int)==64))=true:=by
       rcases q5 with q5 | ⟨q5,q6⟩
       ·simp[q5]
       ·rw[q5,q6];simp
      simp -implicitDefEqProofs only[Z3d,x0,x1,x2,x3,bI,Z04,Nat.zero_add,y0,y2,bK,d1,d2,d3,d4,dj1,cond_true,lw,Z5m,Z02,fC,Z03,ez,Bool.true_xor,Bool.not_true,Z00,Bool.false_eq_true,if_false,B1.l1w,bs,Z6B,fc,t0,t1,ez2,B2.l11,B2.l00,e3,h20,Zdd,Zde,Z2N,gH,Z4q,h22,p1,bI3,p2,p3,dj2,h30,B3.l5w,Zdf,fH,q4,h32,B3.l13,Zg1,fM,Z0L,lenH,lenM,Bool.false_xor,Z0Q,Z0J,g5,if_true,B3.l4w,bH,B3.s2,B3.s3,B3.l2w,B3.l3w]
      rfl
     ·rw[if_neg q5]
      have g5:((i.heard.length:Int)==256||(!i.msgs.contains e.msg&&(i.msgs.length:Int)==64))=false:=by
       rw[Bool.or_eq_false_iff]
       constructor
       ·rw[beq_eq_false_iff_ne];intro hh;exact q5 (.inl (by omega))
       ·cases hc:i.msgs.contains e.msg with
        | true=>rfl
        | false=>
         simp only[Bool.not_false,Bool.true_and];rw[beq_eq_false_iff_ne];intro hh;exact q5 (.inr ⟨hc,by omega⟩)
      have fI:=ZCh (b:=c1) (x:=⟨e.frm,e.num⟩) hasc (by omega) H3
      rw[show SL 2 encH c1 i.heard=LH from hLH.symm] at fI;obtain ⟨LI,hLI⟩:∃LI:AV,LI = .lst 2 false ((insH i.heard ⟨e.frm,e.num⟩).map encH):=⟨_,rfl⟩
      rw[← hLI] at fI;obtain ⟨H4,hH4⟩:∃H4:Hp,H4=H3.set Ha.length (.arr 3 [[I i.node,LI,V]] true false):=⟨_,rfl⟩
      have s4:∀k:Kb AV,effK (stE 1 (.ptr Ha.length 0 1 1) LI H3) H3 k=k .u H4:=λk=>by
       have:stE 1 (.ptr Ha.length 0 1 1) LI H3=some (.u,⟨[(Ha.length,.arr 3 [[I i.node,LI,V]] true false)],[],[Ha.length]⟩):=by
        rw[Z0f,p4,hLI];simp[putAt]
       rw[Z0d this,hH4]
      have B4:BsT i e LH LM H4:=B3.mono λj o hj6 hj=>by rw[hH4];exact getSetN hj (by omega)
      have p44:H4[Ha.length]? = some (.arr 3 [[I i.node,LI,V]] true false):=by rw[hH4];exact getSelfN p4
      have O4:OwnQ H4 V i.msgs:=p5.keep λj x hj=>by
       rw[hH4];refine getSetN hj ?_
       rintro rfl
       rw[p4] at hj;injection hj with hj;injection hj with q _;cases q
      cases q6:i.msgs.contains e.msg with
      | true=>
       rw[hLI] at p44;obtain ⟨w,b,o1,o2,o3,o4,o5,o6,o7⟩:=Zmm B4 p44 (by omega) O4 true
       rw[← hLI] at o1 o2 o3 o4 o5 o6 o7;refine ⟨false,b,(Z5n (a0 := .agg [I i.node,LH,LM]) (a1 := .agg (encV e)) (v:=w) hpl ?_ h).trans ?_⟩
       ·rw[hnr]
        rw[q6] at g5;simp only[Bool.not_true] at g5;simp -implicitDefEqProofs only[Z3d,x0,x1,x2,x3,bI,Z04,Nat.zero_add,y0,y2,bK,d1,d2,d3,d4,dj1,cond_true,lw,Z5m,Z02,fC,Z03,ez,Bool.true_xor,Bool.not_true,Z00,Bool.false_eq_true,if_false,B1.l1w,bs,Z6B,fc,t0,t1,ez2,B2.l11,B2.l00,e3,h20,Zdd,Zde,Z2N,gH,Z4q,h22,p1,bI3,p2,p3,dj2,h30,B3.l5w,Zdf,fH,q4,h32,B3.l13,Zg1,fM,q6,Z0L,lenH,lenM,Bool.false_xor,Z0Q,Z0J,g5,Zl6,fI,s4,Zb5,o5,B4.l5w,o3,o4,o6,o7];have dj3:disjAll [(1,2)] [(idsOf (.ptr Ha.length 0 0 1),[]),(idsOf (.ptr 5 0 0 1),[]),([2],[2]),([3],[3]),([],[]),([],[])]=true:=rfl
        rw[dj3,cond_true];exact o1
       ·rw[o2,hLI]
        rfl
      | false=>
       have hml:i.msgs.length<64:=by
        rcases Nat.lt_or_ge i.msgs.length 64 with hh | hh
        ·exact hh
        ·exact absurd (.inr ⟨q6,by omega⟩) q5
       have hE0:errM (i.msgs++[e.msg])=0:=by
        refine Z5C.2 ⟨by simp;omega,λm hm => ?_⟩
        rcases List.mem_append.1 hm with hm | hm
        ·exact (Z5C.1 k5).2 m hm
        ·simp only[List.mem_singleton] at hm;subst hm;exact m1
       have lV:∀k:KV,ldK 1 false (.ptr Ha.length 0 2 1) H4 k=k V:=λk=>by rw[Z01,p44];rcases p5.shape with rfl | ⟨id,n,rfl⟩<;>rfl
       obtain ⟨H5,hH5⟩:∃H5:Hp,H5=H4++[AObj.arr 7 [encM e.msg] true false]:=⟨_,rfl⟩;have bm:∀k:Kb AV,effK (bsE 7 [I 0,I 0,I 0,I 0,I 0,I 0,I 0] 1 [(0,.agg (encM e.msg))] H4.length) H4 k=k (.sl 7 H4.length 0 1 1 true) H5:=λk=>by rw[hH5];simp[bsE,fillS,encM,effK,ap]
       have O5:OwnQ H5 V i.msgs:=O4.keep λj x hj=>by rw[hH5];exact Z0a hj
       obtain ⟨V',H6,a1,a2,a3⟩:=O5.snoc (m:=e.msg) (p:=H4.length) (by rw[hH5,Z0R];rfl) (λid hid=>by
        rcases O4 with ⟨-,rfl⟩ | ⟨id',rfl,hh⟩
        ·simp[idOf] at hid
        ·simp only[idOf,Option.some.injEq] at hid
         have:=(List.getElem?_eq_some_iff.1 hh).1
         omega) (by omega)
       have B6:BsT i e LH LM H6:=by
        have B5:BsT i e LH LM H5:=B4.mono λj o _ hj=>by rw[hH5];exact Z0a hj
        exact ⟨a3 _ _ B5.g0 (λx hx=>by injection hx with q _;cases q),a3 _ _ B5.g1 (λx hx=>by injection hx with q _;cases q),a3 _ _ B5.g2 (λx hx=>by injection hx with q _;cases q),a3 _ _ B5.g3 (λx hx=>by injection hx with q _;cases q),a3 _ _ B5.g4 (λx hx=>by injection hx with q _;cases q),a3 _ _ B5.g5 (λx hx=>by injection hx with q _;cases q)⟩
       have p46:H6[Ha.length]? = some (.arr 3 [[I i.node,LI,V]] true false):=a3 _ _ (by rw[hH5];exact Z0a p44) (λx hx=>by injection hx with q _;cases q)
       obtain ⟨w5,bb,u1,u2,-⟩:=a2.cvt;have fN:=ZlV (i.msgs++[e.msg]) (b:=bb) (by simp;omega) (h:=H6) (v:=V') (a:=w5) (by simp only[Z1b,Z1a,u1]) u2
       obtain ⟨N,hN⟩:∃N:List Msg,N=normL (i.msgs++[e.msg]):=⟨_,rfl⟩;obtain ⟨bn,hbn⟩:∃bn,bn=(bb&&N.isEmpty):=⟨_,rfl⟩;have nV:normR bb (i.msgs++[e.msg]) = .tup [.lst 7 bn (N.map encM),I 0]:=by unfold normR;rw[hE0,if_pos rfl, ← hN,hbn]
       rw[nV] at fN;have tp:∀(a b:AV)(k:KV),exK (.tup [a,b]) 0 k=k a:=λa b k=>rfl
       have tq:∀(a b:AV)(k:KV),exK (.tup [a,b]) 1 k=k b:=λa b k=>rfl
       obtain ⟨H7,hH7⟩:∃H7:Hp,H7=H6.set Ha.length (.arr 3 [[I i.node,LI,.lst 7 bn (N.map encM)]] true false):=⟨_,rfl⟩
       have s7:∀k:Kb AV,effK (stE 1 (.ptr Ha.length 0 2 1) (.lst 7 bn (N.map encM)) H6) H6 k=k .u H7:=λk=>by
        have:stE 1 (.ptr Ha.length 0 2 1) (.lst 7 bn (N.map encM)) H6=some (.u,⟨[(Ha.length,.arr 3 [[I i.node,LI,.lst 7 bn (N.map encM)]] true false)],[],[Ha.length]⟩):=by
         rw[Z0f,p46,hLI];simp[putAt]
        rw[Z0d this,hH7]
       have B7:BsT i e LH LM H7:=B6.mono λj o hj6 hj=>by rw[hH7];exact getSetN hj (by omega)
       have p47:H7[Ha.length]? = some (.arr 3 [[I i.node,LI,.lst 7 bn (N.map encM)]] true false):=by rw[hH7];exact getSelfN p46
       obtain ⟨H8,hH8⟩:∃H8:Hp,H8=H7.set 2 (.arr 3 [[I i.node,LI,.lst 7 bn (N.map encM)]] true false):=⟨_,rfl⟩;obtain ⟨H9,hH9⟩:∃H9:Hp,H9=H8.set 3 (.arr 2 [encH ⟨e.frm,e.num⟩] true false):=⟨_,rfl⟩;have c83:H8[3]? = some (.arr 2 [zH] true false):=by rw[hH8];exact getSetN B7.g3 (by omega)
       have o3:∀(k:AV→Hp→Ent→Option AV),effD (stE 3 (.ptr 2 0 0 1) (.agg [I i.node,LI,.lst 7 bn (N.map encM)]) H7) H7 k=k .u H8 ([2],[2]):=λk=>by
        have:stE 3 (.ptr 2 0 0 1) (.agg [I i.node,LI,.lst 7 bn (N.map encM)]) H7=some (.u,⟨[(2,.arr 3 [[I i.node,LI,.lst 7 bn (N.map encM)]] true false)],[],[2]⟩):=by
         rw[Z0f,B7.g2,hLI];simp[putAt]
        rw[Z0h this,hH8]
       have o4:∀(k:AV→Hp→Ent→Option AV),effD (stE 2 (.ptr 3 0 0 1) (.agg (encH ⟨e.frm,e.num⟩)) H8) H8 k=k .u H9 ([3],[3]):=λk=>by
        have:stE 2 (.ptr 3 0 0 1) (.agg (encH ⟨e.frm,e.num⟩)) H8=some (.u,⟨[(3,.arr 2 [encH ⟨e.frm,e.num⟩] true false)],[],[3]⟩):=by
         rw[Z0f,c83];simp[putAt,encH]
        rw[Z0h this,hH9]
       have o5:∀k:KV,ldK 3 true (.ptr Ha.length 0 0 1) H7 k=k (.agg [I i.node,LI,.lst 7 bn (N.map encM)]):=λk=>by rw[Z01,p47,hLI];rfl
       have c92:H9[2]? = some (.arr 3 [[I i.node,LI,.lst 7 bn (N.map encM)]] true false):=by rw[hH9];exact getSetN (by rw[hH8];exact getSelfN B7.g2) (by omega)
       have c93:H9[3]? = some (.arr 2 [encH ⟨e.frm,e.num⟩] true false):=by rw[hH9];exact getSelfN c83
       have o6:∀k:KV,ldK 3 true (.ptr 2 0 0 1) H9 k=k (.agg [I i.node,LI,.lst 7 bn (N.map encM)]):=λk=>by rw[Z01,c92,hLI];rfl
       have o7:∀k:KV,ldK 2 true (.ptr 3 0 0 1) H9 k=k (.agg (encH ⟨e.frm,e.num⟩)):=λk=>by rw[Z01,c93];rfl
       refine ⟨false,bb,(Z5n (a0 := .agg [I i.node,LH,LM]) (a1 := .agg (encV e)) (v := .tup [.agg [I i.node,LI,.lst 7 bn (N.map encM)],.agg (encH ⟨e.frm,e.num⟩),B true,I 0]) hpl ?_ h).trans ?_⟩
       ·rw[hnr]
        rw[q6] at g5;simp only[Bool.not_false] at g5;simp -implicitDefEqProofs only[Z3d,x0,x1,x2,x3,bI,Z04,Nat.zero_add,y0,y2,bK,d1,d2,d3,d4,dj1,cond_true,lw,Z5m,Z02,fC,Z03,ez,Bool.true_xor,Bool.not_true,Z00,Bool.false_eq_true,if_false,B1.l1w,bs,Z6B,fc,t0,t1,ez2,B2.l11,B2.l00,e3,h20,Zdd,Zde,Z2N,gH,Z4q,h22,p1,bI3,p2,p3,dj2,h30,B3.l5w,Zdf,fH,q4,h32,B3.l13,Zg1,fM,q6,Z0L,lenH,lenM,Bool.false_xor,Z0Q,Z0J,g5,Zl6,fI,s4,Bool.not_false,if_true,lV,B4.l13,bm,a1,Zws,fN,tp,tq,s7,Zb5,o5,B7.l5w,o3,o4,o6,o7];have dj3:disjAll [(1,2)] [(idsOf (.ptr Ha.length 0 0 1),[]),(idsOf (.ptr 5 0 0 1),[]),([2],[2]),([3],[3]),([],[]),([],[])]=true:=rfl
        rw[dj3,cond_true,hLI]
        rfl
       ·rw[hLI]
        unfold takeV ib cellsI;rw[if_neg (by simp), ← hN,hbn]
        rfl
   ·have e3:(e.to==i.node)=false:=by simp[q3]
    rw[if_pos (show e.to≠i.node from q3)];refine ⟨true,true,(Z5n (a0 := .agg [I i.node,LH,LM]) (a1 := .agg (encV e)) (v := .tup [.agg zI,.agg zH,B false,I 19]) hpl ?_ h).trans rfl⟩
    rw[hnr];simp -implicitDefEqProofs only[Z3d,x0,x1,x2,x3,bI,Z04,Nat.zero_add,y0,y2,bK,d1,d2,d3,d4,dj1,cond_true,lw,Z5m,Z02,fC,Z03,ez,Bool.true_xor,Bool.not_true,Z00,Bool.false_eq_true,if_false,B1.l1w,bs,Z6B,fc,t0,t1,ez2,B2.l11,B2.l00,e3,Bool.not_false,if_true,B2.l4w,bH,B2.s2,B2.s3,B2.l2w,B2.l3w]
    rfl
  ·have ez2:(formE e==0)=false:=by simp[z2]
   rw[if_pos (show formE e≠0 from z2)];refine ⟨true,true,(Z5n (a0 := .agg [I i.node,LH,LM]) (a1 := .agg (encV e)) (v := .tup [.agg zI,.agg zH,B false,I (formE e)]) hpl ?_ h).trans rfl⟩
   rw[hnr];simp -implicitDefEqProofs only[Z3d,x0,x1,x2,x3,bI,Z04,Nat.zero_add,y0,y2,bK,d1,d2,d3,d4,dj1,cond_true,lw,Z5m,Z02,fC,Z03,ez,Bool.true_xor,Bool.not_true,Z00,Bool.false_eq_true,if_false,B1.l1w,bs,Z6B,fc,t0,t1,ez2,Bool.not_false,if_true,B2.l4w,bH,B2.s2,B2.s3,B2.l2w,B2.l3w]
   rfl
 ·have ez:(chkI i==0)=false:=by simp[z]
  rw[if_pos (show chkI i≠0 from z)];refine ⟨true,true,(Z5n (a0 := .agg [I i.node,LH,LM]) (a1 := .agg (encV e)) (v := .tup [.agg zI,.agg zH,B false,I 1]) hpl ?_ h).trans rfl⟩
  rw[hnr];simp -implicitDefEqProofs only[Z3d,x0,x1,x2,x3,bI,Z04,Nat.zero_add,y0,y2,bK,d1,d2,d3,d4,dj1,cond_true,lw,Z5m,Z02,fC,Z03,ez,Bool.true_xor,Bool.not_false,Z00,if_true,B1.l4w,bH,B1.s2,B1.s3,B1.l2w,B1.l3w]
  rfl
end Go.AM


namespace Go.AM.Div
end Go.AM.Div


namespace Go.AM
open Go.Proofs
section
variable {β:Type} {P:Program} {T:Tab} {D:DTab} {N:Nat}
variable {K:Kb β}
end
end Go.AM
end
