import Derived.Test.YtgmfphialjcpcaaG4
set_option linter.unusedSectionVars false
set_option linter.unusedVariables false
set_option linter.unusedSimpArgs false
set_option linter.constructorNameAsVariable false
namespace Go.AM
open Go.Proofs
set_option linter.unusedVariables false
set_option maxRecDepth 100000
theorem mixed:Try.prog.follows .mixedOrders=true:=by kernel_rfl
theorem NN_ex:∃n:Nat,1000000≤n∧n<4611686018427387904:=⟨1000000,by omega,by omega⟩
noncomputable def NN:Nat:=NN_ex.choose
theorem NN_ge:1000000≤NN:=NN_ex.choose_spec.1
theorem NN_lt:NN<4611686018427387904:=NN_ex.choose_spec.2
noncomputable def Za1:DTab:=D0
theorem Zot:DSound Try.prog Za1:=DSound.zero
noncomputable def Za2:Tab:=T0
theorem Zou:TSound Try.prog Za2:=TSound.zero
noncomputable def Za3:Fun:=runF Try.prog Za2 Za1 NN [0,2] Try.f47 1
theorem Zov:CSound Try.prog 47 Za3:=Z04 Zou Zot mixed Try.func47 (by kernel_rfl) NN
theorem Zow {β:Type} (K:AV→Hp→Option β) (a0:AV) (h:Hp):(Za3 [a0] h).bind (fun p=>K p.1 p.2)=Z9b Try.prog Za2 Za1 NN K a0 h:=by
 rw [← Zm2];exact Z05 rfl
noncomputable def Z4D:Fun:=closedX [.o] [.o] Za3
theorem ZgW:CSound Try.prog 47 Z4D:=Z0b _ _ Zov
theorem Zox {a0:AV} {v:AV} (ha:plains [a0]=true) (hv:Z9b Try.prog Za2 Za1 NN (fun v g=>cvt false g v) a0 []=some v) (h:Hp):Z4D [a0] h=some (v,h):=by
 have e:(Za3 (nrms [.o] [a0]) []).bind (fun (p:AV × Hp)=>cvt false p.2 p.1)=some v:=(Zow (fun v g=>cvt false g v) a0 []).trans hv
 exact (Z0c (shr:=[.o]) ha e h).trans (congrArg (fun x=>some (x,h)) (Z0K 1 v))
noncomputable def Za4:DTab:=D0
theorem Zoy:DSound Try.prog Za4:=DSound.zero
noncomputable def Z7l:Tab:=(updF T0 47 Z4D)
theorem Zoz:TSound Try.prog Z7l:=(TSound.upd TSound.zero ZgW)
@[simp] theorem ZgX:Z7l 47=some Z4D:=rfl
noncomputable def Za5:Fun:=runF Try.prog Z7l Za4 NN [0,2,3,6] Try.f11 1
theorem ZoA:CSound Try.prog 11 Za5:=Z04 Zoz Zoy mixed Try.func11 (by kernel_rfl) NN
theorem ZoB {β:Type} (K:AV→Hp→Option β) (a0:AV) (h:Hp):(Za5 [a0] h).bind (fun p=>K p.1 p.2)=Z6M Try.prog Z7l Za4 NN K a0 h:=by
 rw [← Zlx];exact Z05 rfl
noncomputable def Z5w:Fun:=closedX [.o] [.a [none,some 2,some 7], .o] Za5
theorem ZoC:CSound Try.prog 11 Z5w:=Z0b _ _ ZoA
theorem ZgY {a0:AV} {v:AV} (ha:plains [a0]=true) (hv:Z6M Try.prog Z7l Za4 NN (fun v g=>cvt false g v) a0 []=some v) (h:Hp):Z5w [a0] h=some ((nrmR [.a [none,some 2,some 7], .o] v),h):=by
 have e:(Za5 (nrms [.o] [a0]) []).bind (fun (p:AV × Hp)=>cvt false p.2 p.1)=some v:=(ZoB (fun v g=>cvt false g v) a0 []).trans hv
 exact (Z0c (shr:=[.a [none,some 2,some 7], .o]) ha e h).trans (congrArg (fun x=>some (x,h)) rfl)
noncomputable def Z5x:DTab:=D0
theorem ZoD:DSound Try.prog Z5x:=DSound.zero
noncomputable def Z5y:Tab:=T0
theorem ZoE:TSound Try.prog Z5y:=TSound.zero
noncomputable def Z7m:Fun:=runF Try.prog Z5y Z5x NN [0,2,3,5,6,7,8,9,14] Try.f80 1
theorem ZoF:CSound Try.prog 80 Z7m:=Z04 ZoE ZoD mixed Try.func80 (by kernel_rfl) NN
theorem ZoG {β:Type} (K:AV→Hp→Option β) (a0:AV) (h:Hp):(Z7m [a0] h).bind (fun p=>K p.1 p.2)=Z77 Try.prog Z5y Z5x NN K a0 h:=by
 rw [← Znc];exact Z05 rfl
noncomputable def Z4n:Fun:=closedX [.l 1] [.o] Z7m
theorem Za6:CSound Try.prog 80 Z4n:=Z0b _ _ ZoF
noncomputable def Z4E:DFun:=closedXD [.l 1] [.o] Z7m
theorem ZgZ:Ro Z4n Z4E:=Z3d _ _ _
theorem ZoH {a0:AV} {x0:AV} {h:Hp} {v:AV} (ha:cvts false h [x0]=some [a0]) (hv:∀st,Z77 Try.prog Z5y Z5x NN (fun v g=>cvt st g v) (nrm (.l 1) a0) []=some v):Z4n [x0] h=some (v,h):=by
 have e:∀st,(Z7m (nrms [.l 1] [a0]) []).bind (fun (p:AV × Hp)=>cvt st p.2 p.1)=some v:=fun st=>(ZoG (fun v g=>cvt st g v) (nrm (.l 1) a0) []).trans (hv st)
 exact (Zfo (shr:=[.o]) ha e).trans (congrArg (fun x=>some (x,h)) (Z0K 1 v))
noncomputable def Za7:DTab:=D0
theorem ZoI:DSound Try.prog Za7:=DSound.zero
noncomputable def Za8:Tab:=T0
theorem ZoJ:TSound Try.prog Za8:=TSound.zero
noncomputable def Za9:Fun:=runF Try.prog Za8 Za7 NN [0,2] Try.f99 1
theorem ZoK:CSound Try.prog 99 Za9:=Z04 ZoJ ZoI mixed Try.func99 (by kernel_rfl) NN
theorem ZoL {β:Type} (K:AV→Hp→Option β) (a0:AV) (h:Hp):(Za9 [a0] h).bind (fun p=>K p.1 p.2)=Z9Z Try.prog Za8 Za7 NN K a0 h:=by
 rw [← ZnU];exact Z05 rfl
noncomputable def Z7n:Fun:=closedX [.o] [.o] Za9
theorem ZoM:CSound Try.prog 99 Z7n:=Z0b _ _ ZoK
theorem ZoN {a0:AV} {v:AV} (ha:plains [a0]=true) (hv:Z9Z Try.prog Za8 Za7 NN (fun v g=>cvt false g v) a0 []=some v) (h:Hp):Z7n [a0] h=some (v,h):=by
 have e:(Za9 (nrms [.o] [a0]) []).bind (fun (p:AV × Hp)=>cvt false p.2 p.1)=some v:=(ZoL (fun v g=>cvt false g v) a0 []).trans hv
 exact (Z0c (shr:=[.o]) ha e h).trans (congrArg (fun x=>some (x,h)) (Z0K 1 v))
noncomputable def Zaa:DTab:=D0
theorem ZoO:DSound Try.prog Zaa:=DSound.zero
noncomputable def Z7o:Tab:=(updF T0 99 Z7n)
theorem ZoP:TSound Try.prog Z7o:=(TSound.upd TSound.zero ZoM)
@[simp] theorem Zxv:Z7o 99=some Z7n:=rfl
noncomputable def Z7p:Fun:=runF Try.prog Z7o Zaa NN [0,1,4,5,6,11,12,13,16,19] Try.f81 2
theorem ZoQ:CSound Try.prog 81 Z7p:=Z04 ZoP ZoO mixed Try.func81 (by kernel_rfl) NN
theorem ZoR {β:Type} (K:AV→Hp→Option β) (a0:AV) (a1:AV) (h:Hp):(Z7p [a0,a1] h).bind (fun p=>K p.1 p.2)=Z78 Try.prog Z7o Zaa NN K a0 a1 h:=by
 rw [← Znd];exact Z05 rfl
noncomputable def Z4o:Fun:=closedX [.o, .o] [.o] Z7p
theorem Zab:CSound Try.prog 81 Z4o:=Z0b _ _ ZoQ
noncomputable def Z5z:DFun:=closedXD [.o, .o] [.o] Z7p
theorem Zh0:Ro Z4o Z5z:=Z3d _ _ _
theorem ZoS {a0:AV} {a1:AV} {v:AV} (ha:plains [a0,a1]=true) (hv:Z78 Try.prog Z7o Zaa NN (fun v g=>cvt false g v) a0 a1 []=some v) (h:Hp):Z4o [a0,a1] h=some (v,h):=by
 have e:(Z7p (nrms [.o, .o] [a0,a1]) []).bind (fun (p:AV × Hp)=>cvt false p.2 p.1)=some v:=(ZoR (fun v g=>cvt false g v) a0 a1 []).trans hv
 exact (Z0c (shr:=[.o]) ha e h).trans (congrArg (fun x=>some (x,h)) (Z0K 1 v))
noncomputable def Z5A:DTab:=(updD (updD D0 80 Z4E) 81 Z5z)
theorem ZoT:DSound Try.prog Z5A:=(DSound.ro (DSound.ro DSound.zero ZgZ Za6) Zh0 Zab)
@[simp] theorem ZoU:Z5A 80=some Z4E:=rfl
@[simp] theorem ZoV:Z5A 81=some Z5z:=rfl
noncomputable def Z5B:Tab:=(updF (updF T0 80 Z4n) 81 Z4o)
theorem ZoW:TSound Try.prog Z5B:=(TSound.upd (TSound.upd TSound.zero Za6) Zab)
@[simp] theorem Zxw:Z5B 80=some Z4n:=rfl
@[simp] theorem Zxx:Z5B 81=some Z4o:=rfl
noncomputable def Zac:Fun:=runF Try.prog Z5B Z5A NN [0,1,2,3,4] Try.f53 2
theorem ZoX:CSound Try.prog 53 Zac:=Z04 ZoW ZoT mixed Try.func53 (by kernel_rfl) NN
theorem ZoY {β:Type} (K:AV→Hp→Option β) (a0:AV) (a1:AV) (h:Hp):(Zac [a0,a1] h).bind (fun p=>K p.1 p.2)=Z9d Try.prog Z5B Z5A NN K a0 a1 h:=by
 rw [← Zmb];exact Z05 rfl
noncomputable def Z3l:Fun:=closedX [.o, .o] [.o] Zac
theorem ZcV:CSound Try.prog 53 Z3l:=Z0b _ _ ZoX
theorem ZoZ {a0:AV} {a1:AV} {v:AV} (ha:plains [a0,a1]=true) (hv:Z9d Try.prog Z5B Z5A NN (fun v g=>cvt false g v) a0 a1 []=some v) (h:Hp):Z3l [a0,a1] h=some (v,h):=by
 have e:(Zac (nrms [.o, .o] [a0,a1]) []).bind (fun (p:AV × Hp)=>cvt false p.2 p.1)=some v:=(ZoY (fun v g=>cvt false g v) a0 a1 []).trans hv
 exact (Z0c (shr:=[.o]) ha e h).trans (congrArg (fun x=>some (x,h)) (Z0K 1 v))
noncomputable def Zad:DTab:=D0
theorem Zp0:DSound Try.prog Zad:=DSound.zero
noncomputable def Zae:Tab:=T0
theorem Zp1:TSound Try.prog Zae:=TSound.zero
noncomputable def Zaf:Fun:=runF Try.prog Zae Zad NN [0,2] Try.f96 1
theorem Zp2:CSound Try.prog 96 Zaf:=Z04 Zp1 Zp0 mixed Try.func96 (by kernel_rfl) NN
theorem Zp3 {β:Type} (K:AV→Hp→Option β) (a0:AV) (h:Hp):(Zaf [a0] h).bind (fun p=>K p.1 p.2)=Z9Y Try.prog Zae Zad NN K a0 h:=by
 rw [← ZnT];exact Z05 rfl
noncomputable def Z7q:Fun:=closedX [.o] [.o] Zaf
theorem Zp4:CSound Try.prog 96 Z7q:=Z0b _ _ Zp2
theorem Zp5 {a0:AV} {v:AV} (ha:plains [a0]=true) (hv:Z9Y Try.prog Zae Zad NN (fun v g=>cvt false g v) a0 []=some v) (h:Hp):Z7q [a0] h=some (v,h):=by
 have e:(Zaf (nrms [.o] [a0]) []).bind (fun (p:AV × Hp)=>cvt false p.2 p.1)=some v:=(Zp3 (fun v g=>cvt false g v) a0 []).trans hv
 exact (Z0c (shr:=[.o]) ha e h).trans (congrArg (fun x=>some (x,h)) (Z0K 1 v))
noncomputable def Zag:DTab:=D0
theorem Zp6:DSound Try.prog Zag:=DSound.zero
noncomputable def Z7r:Tab:=(updF T0 96 Z7q)
theorem Zp7:TSound Try.prog Z7r:=(TSound.upd TSound.zero Zp4)
@[simp] theorem ZcW:Z7r 96=some Z7q:=rfl
noncomputable def Zah:Fun:=runF Try.prog Z7r Zag NN [0,1,2,3,4,32,41,42,78,99,118] Try.f76 1
theorem Zp8:CSound Try.prog 76 Zah:=Z04 Zp7 Zp6 mixed Try.func76 (by kernel_rfl) NN
theorem Zp9 {β:Type} (K:AV→Hp→Option β) (a0:AV) (h:Hp):(Zah [a0] h).bind (fun p=>K p.1 p.2)=Z9B Try.prog Z7r Zag NN K a0 h:=by
 rw [← Zn1];exact Z05 rfl
noncomputable def Z26:Fun:=closedX [.o] [.o] Zah
theorem ZcX:CSound Try.prog 76 Z26:=Z0b _ _ Zp8
theorem Zpa {a0:AV} {v:AV} (ha:plains [a0]=true) (hv:Z9B Try.prog Z7r Zag NN (fun v g=>cvt false g v) a0 []=some v) (h:Hp):Z26 [a0] h=some (v,h):=by
 have e:(Zah (nrms [.o] [a0]) []).bind (fun (p:AV × Hp)=>cvt false p.2 p.1)=some v:=(Zp9 (fun v g=>cvt false g v) a0 []).trans hv
 exact (Z0c (shr:=[.o]) ha e h).trans (congrArg (fun x=>some (x,h)) (Z0K 1 v))
noncomputable def Zai:DTab:=D0
theorem Zpb:DSound Try.prog Zai:=DSound.zero
noncomputable def Z7s:Tab:=(updF T0 76 Z26)
theorem Zpc:TSound Try.prog Z7s:=(TSound.upd TSound.zero ZcX)
@[simp] theorem Zpd:Z7s 76=some Z26:=rfl
noncomputable def Zaj:Fun:=runF Try.prog Z7s Zai NN [0,1,2] Try.f82 1
theorem Zpe:CSound Try.prog 82 Zaj:=Z04 Zpc Zpb mixed Try.func82 (by kernel_rfl) NN
theorem Zpf {β:Type} (K:AV→Hp→Option β) (a0:AV) (h:Hp):(Zaj [a0] h).bind (fun p=>K p.1 p.2)=Z9F Try.prog Z7s Zai NN K a0 h:=by
 rw [← Zne];exact Z05 rfl
noncomputable def Z4F:Fun:=closedX [.o] [.o] Zaj
theorem Zh1:CSound Try.prog 82 Z4F:=Z0b _ _ Zpe
theorem Zpg {a0:AV} {v:AV} (ha:plains [a0]=true) (hv:Z9F Try.prog Z7s Zai NN (fun v g=>cvt false g v) a0 []=some v) (h:Hp):Z4F [a0] h=some (v,h):=by
 have e:(Zaj (nrms [.o] [a0]) []).bind (fun (p:AV × Hp)=>cvt false p.2 p.1)=some v:=(Zpf (fun v g=>cvt false g v) a0 []).trans hv
 exact (Z0c (shr:=[.o]) ha e h).trans (congrArg (fun x=>some (x,h)) (Z0K 1 v))
noncomputable def Zak:DTab:=D0
theorem Zph:DSound Try.prog Zak:=DSound.zero
noncomputable def Z7t:Tab:=(updF T0 82 Z4F)
theorem Zpi:TSound Try.prog Z7t:=(TSound.upd TSound.zero Zh1)
@[simp] theorem Zxy:Z7t 82=some Z4F:=rfl
noncomputable def Zal:Fun:=runF Try.prog Z7t Zak NN [0,1,4,5,7,8,9,16] Try.f62 2
theorem Zpj:CSound Try.prog 62 Zal:=Z04 Zpi Zph mixed Try.func62 (by kernel_rfl) NN
theorem Zpk {β:Type} (K:AV→Hp→Option β) (a0:AV) (a1:AV) (h:Hp):(Zal [a0,a1] h).bind (fun p=>K p.1 p.2)=Z25 Try.prog Z7t Zak NN K a0 a1 h:=by
 rw [← ZfV];exact Z05 rfl
noncomputable def Z7u:Fun:=closedX [.l 7, .o] [.o] Zal
theorem Zpl:CSound Try.prog 62 Z7u:=Z0b _ _ Zpj
theorem Zpm {a0:AV} {a1:AV} {v:AV} (ha:plains [a0,a1]=true) (hv:Z25 Try.prog Z7t Zak NN (fun v g=>cvt false g v) (nrm (.l 7) a0) a1 []=some v) (h:Hp):Z7u [a0,a1] h=some (v,h):=by
 have e:(Zal (nrms [.l 7, .o] [a0,a1]) []).bind (fun (p:AV × Hp)=>cvt false p.2 p.1)=some v:=(Zpk (fun v g=>cvt false g v) (nrm (.l 7) a0) a1 []).trans hv
 exact (Z0c (shr:=[.o]) ha e h).trans (congrArg (fun x=>some (x,h)) (Z0K 1 v))
noncomputable def Zam:DTab:=D0
theorem Zpn:DSound Try.prog Zam:=DSound.zero
noncomputable def Z7v:Tab:=(updF T0 62 Z7u)
theorem Zpo:TSound Try.prog Z7v:=(TSound.upd TSound.zero Zpl)
@[simp] theorem Zpp:Z7v 62=some Z7u:=rfl
noncomputable def Zan:Fun:=runF Try.prog Z7v Zam NN [0,1,4] Try.f24 2
theorem Zpq:CSound Try.prog 24 Zan:=Z04 Zpo Zpn mixed Try.func24 (by kernel_rfl) NN
theorem Zpr {β:Type} (K:AV→Hp→Option β) (a0:AV) (a1:AV) (h:Hp):(Zan [a0,a1] h).bind (fun p=>K p.1 p.2)=Z4x Try.prog Z7v Zam NN K a0 a1 h:=by
 rw [← ZfB];exact Z05 rfl
noncomputable def Z7w:Fun:=closedX [.l 7, .o] [.o] Zan
theorem Zps:CSound Try.prog 24 Z7w:=Z0b _ _ Zpq
theorem Zpt {a0:AV} {a1:AV} {v:AV} (ha:plains [a0,a1]=true) (hv:Z4x Try.prog Z7v Zam NN (fun v g=>cvt false g v) (nrm (.l 7) a0) a1 []=some v) (h:Hp):Z7w [a0,a1] h=some (v,h):=by
 have e:(Zan (nrms [.l 7, .o] [a0,a1]) []).bind (fun (p:AV × Hp)=>cvt false p.2 p.1)=some v:=(Zpr (fun v g=>cvt false g v) (nrm (.l 7) a0) a1 []).trans hv
 exact (Z0c (shr:=[.o]) ha e h).trans (congrArg (fun x=>some (x,h)) (Z0K 1 v))
noncomputable def Z5C:DTab:=D0
theorem Zpu:DSound Try.prog Z5C:=DSound.zero
noncomputable def Z5D:Tab:=T0
theorem Zpv:TSound Try.prog Z5D:=TSound.zero
noncomputable def Z13:Fun:=runF Try.prog Z5D Z5C NN [0,2,4] Try.f51 1
theorem Zao:CSound Try.prog 51 Z13:=Z04 Zpv Zpu mixed Try.func51 (by kernel_rfl) NN
theorem ZcY {β:Type} (K:AV→Hp→Option β) (a0:AV) (h:Hp):(Z13 [a0] h).bind (fun p=>K p.1 p.2)=Z4y Try.prog Z5D Z5C NN K a0 h:=by
 rw [← Zm9];exact Z05 rfl
theorem Zpw (a0:AV) (h:Hp):Z13 [a0] h=Z4y Try.prog Z5D Z5C NN (fun v h=>some (v,h)) a0 h:=(Z0S _).symm.trans (ZcY (fun v h=>some (v,h)) a0 h)
noncomputable def Z4G:Fun:=closedX [.l 7] [.l 7] Z13
theorem Zh2:CSound Try.prog 51 Z4G:=Z0b _ _ Zao
noncomputable def Zap:DFun:=closedXD [.l 7] [.l 7] Z13
theorem Zpx:Ro Z4G Zap:=Z3d _ _ _
theorem Zpy {a0:AV} {v:AV} (ha:plains [a0]=true) (hv:Z4y Try.prog Z5D Z5C NN (fun v g=>cvt false g v) (nrm (.l 7) a0) []=some v) (h:Hp):Z4G [a0] h=some ((nrmR [.l 7] v),h):=by
 have e:(Z13 (nrms [.l 7] [a0]) []).bind (fun (p:AV × Hp)=>cvt false p.2 p.1)=some v:=(ZcY (fun v g=>cvt false g v) (nrm (.l 7) a0) []).trans hv
 exact (Z0c (shr:=[.l 7]) ha e h).trans (congrArg (fun x=>some (x,h)) rfl)
noncomputable def Z5E:DTab:=(updD (updD D0 80 Z4E) 81 Z5z)
theorem Zpz:DSound Try.prog Z5E:=(DSound.ro (DSound.ro DSound.zero ZgZ Za6) Zh0 Zab)
@[simp] theorem ZpA:Z5E 80=some Z4E:=rfl
@[simp] theorem ZpB:Z5E 81=some Z5z:=rfl
noncomputable def Z5F:Tab:=(updF (updF T0 80 Z4n) 81 Z4o)
theorem ZpC:TSound Try.prog Z5F:=(TSound.upd (TSound.upd TSound.zero Za6) Zab)
@[simp] theorem Zxz:Z5F 80=some Z4n:=rfl
@[simp] theorem ZxA:Z5F 81=some Z4o:=rfl
noncomputable def Zaq:Fun:=runF Try.prog Z5F Z5E NN [0,1,2,3,4] Try.f84 2
theorem ZpD:CSound Try.prog 84 Zaq:=Z04 ZpC Zpz mixed Try.func84 (by kernel_rfl) NN
theorem ZpE {β:Type} (K:AV→Hp→Option β) (a0:AV) (a1:AV) (h:Hp):(Zaq [a0,a1] h).bind (fun p=>K p.1 p.2)=Z9G Try.prog Z5F Z5E NN K a0 a1 h:=by
 rw [← Znf];exact Z05 rfl
noncomputable def Z4H:Fun:=closedX [.o, .o] [.o] Zaq
theorem Zh3:CSound Try.prog 84 Z4H:=Z0b _ _ ZpD
theorem ZpF {a0:AV} {a1:AV} {v:AV} (ha:plains [a0,a1]=true) (hv:Z9G Try.prog Z5F Z5E NN (fun v g=>cvt false g v) a0 a1 []=some v) (h:Hp):Z4H [a0,a1] h=some (v,h):=by
 have e:(Zaq (nrms [.o, .o] [a0,a1]) []).bind (fun (p:AV × Hp)=>cvt false p.2 p.1)=some v:=(ZpE (fun v g=>cvt false g v) a0 a1 []).trans hv
 exact (Z0c (shr:=[.o]) ha e h).trans (congrArg (fun x=>some (x,h)) (Z0K 1 v))
noncomputable def Z7x:Fun:=sortF 7 okI 84 Z4H
theorem ZpG:CSound Try.prog 83 Z7x:=Zon (ρ:=Try.sort83_ren) Try.sort83 Try.isAgg27 Try.sizeOf27 ⟨Try.f83,Try.func83,by kernel_rfl,by kernel_rfl⟩ (by decide) Zh3 ⟨Try.f84,Try.func84,by kernel_rfl,by kernel_rfl⟩
noncomputable def Z5G:DTab:=D0
theorem ZpH:DSound Try.prog Z5G:=DSound.zero
noncomputable def Z5H:Tab:=T0
theorem ZpI:TSound Try.prog Z5H:=TSound.zero
noncomputable def Z4I:Fun:=runF Try.prog Z5H Z5G NN [0,2,3,4,5,8,13,25,32,44] Try.f85 1
theorem ZpJ:CSound Try.prog 85 Z4I:=Z04 ZpI ZpH mixed Try.func85 (by kernel_rfl) NN
theorem ZpK {β:Type} (K:AV→Hp→Option β) (a0:AV) (h:Hp):(Z4I [a0] h).bind (fun p=>K p.1 p.2)=Z4A Try.prog Z5H Z5G NN K a0 h:=by
 rw [← Zno];exact Z05 rfl
theorem Zh4 (a0:AV) (h:Hp):Z4I [a0] h=Z4A Try.prog Z5H Z5G NN (fun v h=>some (v,h)) a0 h:=(Z0S _).symm.trans (ZpK (fun v h=>some (v,h)) a0 h)
noncomputable def Z5I:DTab:=D0
theorem ZpL:DSound Try.prog Z5I:=DSound.zero
noncomputable def Z1J:Tab:=(updF (updF (updF (updF (updF (updF T0 24 Z7w) 51 Z13) 82 Z4F) 83 Z7x) 84 Z4H) 85 Z4I)
theorem ZpM:TSound Try.prog Z1J:=(TSound.upd (TSound.upd (TSound.upd (TSound.upd (TSound.upd (TSound.upd TSound.zero Zps) Zao) Zh1) ZpG) Zh3) ZpJ)
@[simp] theorem Zh5:Z1J 24=some Z7w:=rfl
@[simp] theorem ZpN:Z1J 51=some Z13:=rfl
@[simp] theorem ZxB:Z1J 82=some Z4F:=rfl
@[simp] theorem ZpO:Z1J 83=some Z7x:=rfl
@[simp] theorem ZxC:Z1J 84=some Z4H:=rfl
@[simp] theorem ZpP:Z1J 85=some Z4I:=rfl
noncomputable def Z7y:Fun:=runF Try.prog Z1J Z5I NN [0,2,3,4,7,9] Try.f54 1
theorem ZpQ:CSound Try.prog 54 Z7y:=Z04 ZpM ZpL mixed Try.func54 (by kernel_rfl) NN
theorem Zh6 {β:Type} (K:AV→Hp→Option β) (a0:AV) (h:Hp):(Z7y [a0] h).bind (fun p=>K p.1 p.2)=Z3L Try.prog Z1J Z5I NN K a0 h:=by
 rw [← Zmc];exact Z05 rfl
noncomputable def Z1X:Fun:=closedX [.l 7] [.l 7, .o] Z7y
theorem ZcZ:CSound Try.prog 54 Z1X:=Z0b _ _ ZpQ
theorem ZpR {a0:AV} {v:AV} (ha:plains [a0]=true) (hv:Z3L Try.prog Z1J Z5I NN (fun v g=>cvt false g v) (nrm (.l 7) a0) []=some v) (h:Hp):Z1X [a0] h=some ((nrmR [.l 7, .o] v),h):=by
 have e:(Z7y (nrms [.l 7] [a0]) []).bind (fun (p:AV × Hp)=>cvt false p.2 p.1)=some v:=(Zh6 (fun v g=>cvt false g v) (nrm (.l 7) a0) []).trans hv
 exact (Z0c (shr:=[.l 7, .o]) ha e h).trans (congrArg (fun x=>some (x,h)) rfl)
theorem ZpS {a0:AV} {x0:AV} {h:Hp} {v:AV} (ha:cvts false h [x0]=some [a0]) (hv:∀st,Z3L Try.prog Z1J Z5I NN (fun v g=>cvt st g v) (nrm (.l 7) a0) []=some v):Z1X [x0] h=some ((nrmR [.l 7, .o] v),h):=by
 have e:∀st,(Z7y (nrms [.l 7] [a0]) []).bind (fun (p:AV × Hp)=>cvt st p.2 p.1)=some v:=fun st=>(Zh6 (fun v g=>cvt st g v) (nrm (.l 7) a0) []).trans (hv st)
 exact (Zfo (shr:=[.l 7, .o]) ha e).trans (congrArg (fun x=>some (x,h)) rfl)
noncomputable def Z5J:DTab:=D0
theorem ZpT:DSound Try.prog Z5J:=DSound.zero
noncomputable def Z5K:Tab:=T0
theorem ZpU:TSound Try.prog Z5K:=TSound.zero
noncomputable def Zar:Fun:=runF Try.prog Z5K Z5J NN [0,1,4,5,10,12,13,14,24] Try.f58 2
theorem ZpV:CSound Try.prog 58 Zar:=Z04 ZpU ZpT mixed Try.func58 (by kernel_rfl) NN
theorem ZpW {β:Type} (K:AV→Hp→Option β) (a0:AV) (a1:AV) (h:Hp):(Zar [a0,a1] h).bind (fun p=>K p.1 p.2)=Z5l Try.prog Z5K Z5J NN K a0 a1 h:=by
 rw [← Zmh];exact Z05 rfl
noncomputable def Z4J:Fun:=closedX [.l 7, .l 7] [.o] Zar
theorem Zh7:CSound Try.prog 58 Z4J:=Z0b _ _ ZpV
theorem ZpX {a0:AV} {a1:AV} {v:AV} (ha:plains [a0,a1]=true) (hv:Z5l Try.prog Z5K Z5J NN (fun v g=>cvt false g v) (nrm (.l 7) a0) (nrm (.l 7) a1) []=some v) (h:Hp):Z4J [a0,a1] h=some (v,h):=by
 have e:(Zar (nrms [.l 7, .l 7] [a0,a1]) []).bind (fun (p:AV × Hp)=>cvt false p.2 p.1)=some v:=(ZpW (fun v g=>cvt false g v) (nrm (.l 7) a0) (nrm (.l 7) a1) []).trans hv
 exact (Z0c (shr:=[.o]) ha e h).trans (congrArg (fun x=>some (x,h)) (Z0K 1 v))
noncomputable def Z4K:DTab:=D0
theorem ZpY:DSound Try.prog Z4K:=DSound.zero
noncomputable def Z1K:Tab:=(updF (updF (updF (updF T0 47 Z4D) 53 Z3l) 54 Z1X) 58 Z4J)
theorem ZpZ:TSound Try.prog Z1K:=(TSound.upd (TSound.upd (TSound.upd (TSound.upd TSound.zero ZgW) ZcV) ZcZ) Zh7)
@[simp] theorem Zh8:Z1K 47=some Z4D:=rfl
@[simp] theorem Zq0:Z1K 53=some Z3l:=rfl
@[simp] theorem Zq1:Z1K 54=some Z1X:=rfl
@[simp] theorem Zq2:Z1K 58=some Z4J:=rfl
noncomputable def Zas:Fun:=runF Try.prog Z1K Z4K NN [0,1,2,3,4,5,6,7,12,24,25,26,27,31,46,52,73,83] Try.f16 1
theorem Zq3:CSound Try.prog 16 Zas:=Z04 ZpZ ZpY mixed Try.func16 (by kernel_rfl) NN
theorem Zq4 {β:Type} (K:AV→Hp→Option β) (a0:AV) (h:Hp):(Zas [a0] h).bind (fun p=>K p.1 p.2)=Z6O Try.prog Z1K Z4K NN K a0 h:=by
 rw [← ZlE];exact Z05 rfl
noncomputable def Z19:Fun:=closedX [.a [none,some 2,some 7]] [.o] Zas
theorem Z7z:CSound Try.prog 16 Z19:=Z0b _ _ Zq3
theorem Zq5 {a0:AV} {v:AV} (ha:plains [a0]=true) (hv:Z6O Try.prog Z1K Z4K NN (fun v g=>cvt false g v) (nrm (.a [none,some 2,some 7]) a0) []=some v) (h:Hp):Z19 [a0] h=some (v,h):=by
 have e:(Zas (nrms [.a [none,some 2,some 7]] [a0]) []).bind (fun (p:AV × Hp)=>cvt false p.2 p.1)=some v:=(Zq4 (fun v g=>cvt false g v) (nrm (.a [none,some 2,some 7]) a0) []).trans hv
 exact (Z0c (shr:=[.o]) ha e h).trans (congrArg (fun x=>some (x,h)) (Z0K 1 v))
noncomputable def Zat:DTab:=D0
theorem Zq6:DSound Try.prog Zat:=DSound.zero
noncomputable def Z5L:Tab:=(updF (updF T0 16 Z19) 58 Z4J)
theorem Zq7:TSound Try.prog Z5L:=(TSound.upd (TSound.upd TSound.zero Z7z) Zh7)
@[simp] theorem Zq8:Z5L 16=some Z19:=rfl
@[simp] theorem Zq9:Z5L 58=some Z4J:=rfl
noncomputable def Zau:Fun:=runF Try.prog Z5L Zat NN [0,1,2,3,4] Try.f19 2
theorem Zqa:CSound Try.prog 19 Zau:=Z04 Zq7 Zq6 mixed Try.func19 (by kernel_rfl) NN
theorem Zqb {β:Type} (K:AV→Hp→Option β) (a0:AV) (a1:AV) (h:Hp):(Zau [a0,a1] h).bind (fun p=>K p.1 p.2)=Z8U Try.prog Z5L Zat NN K a0 a1 h:=by
 rw [← ZlF];exact Z05 rfl
noncomputable def Z7A:Fun:=closedX [.a [none,some 2,some 7], .a [none,some 2,some 7]] [.o] Zau
theorem Zqc:CSound Try.prog 19 Z7A:=Z0b _ _ Zqa
theorem Zqd {a0:AV} {a1:AV} {v:AV} (ha:plains [a0,a1]=true) (hv:Z8U Try.prog Z5L Zat NN (fun v g=>cvt false g v) (nrm (.a [none,some 2,some 7]) a0) (nrm (.a [none,some 2,some 7]) a1) []=some v) (h:Hp):Z7A [a0,a1] h=some (v,h):=by
 have e:(Zau (nrms [.a [none,some 2,some 7], .a [none,some 2,some 7]] [a0,a1]) []).bind (fun (p:AV × Hp)=>cvt false p.2 p.1)=some v:=(Zqb (fun v g=>cvt false g v) (nrm (.a [none,some 2,some 7]) a0) (nrm (.a [none,some 2,some 7]) a1) []).trans hv
 exact (Z0c (shr:=[.o]) ha e h).trans (congrArg (fun x=>some (x,h)) (Z0K 1 v))
noncomputable def Z5M:DTab:=D0
theorem Zqe:DSound Try.prog Z5M:=DSound.zero
noncomputable def Z5N:Tab:=T0
theorem Zqf:TSound Try.prog Z5N:=TSound.zero
noncomputable def Zav:Fun:=runF Try.prog Z5N Z5M NN [0,1,3,4,5,7,8,9,16] Try.f60 2
theorem Zqg:CSound Try.prog 60 Zav:=Z04 Zqf Zqe mixed Try.func60 (by kernel_rfl) NN
theorem Zqh {β:Type} (K:AV→Hp→Option β) (a0:AV) (a1:AV) (h:Hp):(Zav [a0,a1] h).bind (fun p=>K p.1 p.2)=Z6W Try.prog Z5N Z5M NN K a0 a1 h:=by
 rw [← Zmm];exact Z05 rfl
noncomputable def Z7B:Fun:=closedX [.l 2, .o] [.o] Zav
theorem Zqi:CSound Try.prog 60 Z7B:=Z0b _ _ Zqg
theorem Zqj {a0:AV} {a1:AV} {v:AV} (ha:plains [a0,a1]=true) (hv:Z6W Try.prog Z5N Z5M NN (fun v g=>cvt false g v) (nrm (.l 2) a0) a1 []=some v) (h:Hp):Z7B [a0,a1] h=some (v,h):=by
 have e:(Zav (nrms [.l 2, .o] [a0,a1]) []).bind (fun (p:AV × Hp)=>cvt false p.2 p.1)=some v:=(Zqh (fun v g=>cvt false g v) (nrm (.l 2) a0) a1 []).trans hv
 exact (Z0c (shr:=[.o]) ha e h).trans (congrArg (fun x=>some (x,h)) (Z0K 1 v))
noncomputable def Zaw:DTab:=D0
theorem Zqk:DSound Try.prog Zaw:=DSound.zero
noncomputable def Z7C:Tab:=(updF T0 60 Z7B)
theorem Zql:TSound Try.prog Z7C:=(TSound.upd TSound.zero Zqi)
@[simp] theorem Zqm:Z7C 60=some Z7B:=rfl
noncomputable def Zax:Fun:=runF Try.prog Z7C Zaw NN [0,1,3,4] Try.f22 2
theorem Zqn:CSound Try.prog 22 Zax:=Z04 Zql Zqk mixed Try.func22 (by kernel_rfl) NN
theorem Zqo {β:Type} (K:AV→Hp→Option β) (a0:AV) (a1:AV) (h:Hp):(Zax [a0,a1] h).bind (fun p=>K p.1 p.2)=Z8W Try.prog Z7C Zaw NN K a0 a1 h:=by
 rw [← ZlH];exact Z05 rfl
noncomputable def Z4p:Fun:=closedX [.l 2, .o] [.o] Zax
theorem Zh9:CSound Try.prog 22 Z4p:=Z0b _ _ Zqn
theorem Zqp {a0:AV} {a1:AV} {v:AV} (ha:plains [a0,a1]=true) (hv:Z8W Try.prog Z7C Zaw NN (fun v g=>cvt false g v) (nrm (.l 2) a0) a1 []=some v) (h:Hp):Z4p [a0,a1] h=some (v,h):=by
 have e:(Zax (nrms [.l 2, .o] [a0,a1]) []).bind (fun (p:AV × Hp)=>cvt false p.2 p.1)=some v:=(Zqo (fun v g=>cvt false g v) (nrm (.l 2) a0) a1 []).trans hv
 exact (Z0c (shr:=[.o]) ha e h).trans (congrArg (fun x=>some (x,h)) (Z0K 1 v))
noncomputable def Z5O:DTab:=D0
theorem Zqq:DSound Try.prog Z5O:=DSound.zero
noncomputable def Z5P:Tab:=T0
theorem Zqr:TSound Try.prog Z5P:=TSound.zero
noncomputable def Zay:Fun:=runF Try.prog Z5P Z5O NN [0,1,3,4,5,7,8,9,16] Try.f61 2
theorem Zqs:CSound Try.prog 61 Zay:=Z04 Zqr Zqq mixed Try.func61 (by kernel_rfl) NN
theorem Zqt {β:Type} (K:AV→Hp→Option β) (a0:AV) (a1:AV) (h:Hp):(Zay [a0,a1] h).bind (fun p=>K p.1 p.2)=Z6X Try.prog Z5P Z5O NN K a0 a1 h:=by
 rw [← Zmr];exact Z05 rfl
noncomputable def Z7D:Fun:=closedX [.l 7, .o] [.o] Zay
theorem Zqu:CSound Try.prog 61 Z7D:=Z0b _ _ Zqs
theorem Zqv {a0:AV} {a1:AV} {v:AV} (ha:plains [a0,a1]=true) (hv:Z6X Try.prog Z5P Z5O NN (fun v g=>cvt false g v) (nrm (.l 7) a0) a1 []=some v) (h:Hp):Z7D [a0,a1] h=some (v,h):=by
 have e:(Zay (nrms [.l 7, .o] [a0,a1]) []).bind (fun (p:AV × Hp)=>cvt false p.2 p.1)=some v:=(Zqt (fun v g=>cvt false g v) (nrm (.l 7) a0) a1 []).trans hv
 exact (Z0c (shr:=[.o]) ha e h).trans (congrArg (fun x=>some (x,h)) (Z0K 1 v))
noncomputable def Zaz:DTab:=D0
theorem Zqw:DSound Try.prog Zaz:=DSound.zero
noncomputable def Z7E:Tab:=(updF T0 61 Z7D)
theorem Zqx:TSound Try.prog Z7E:=(TSound.upd TSound.zero Zqu)
@[simp] theorem Zqy:Z7E 61=some Z7D:=rfl
noncomputable def ZaA:Fun:=runF Try.prog Z7E Zaz NN [0,1,3,4] Try.f23 2
theorem Zqz:CSound Try.prog 23 ZaA:=Z04 Zqx Zqw mixed Try.func23 (by kernel_rfl) NN
theorem ZqA {β:Type} (K:AV→Hp→Option β) (a0:AV) (a1:AV) (h:Hp):(ZaA [a0,a1] h).bind (fun p=>K p.1 p.2)=Z8X Try.prog Z7E Zaz NN K a0 a1 h:=by
 rw [← ZlI];exact Z05 rfl
noncomputable def Z4q:Fun:=closedX [.l 7, .o] [.o] ZaA
theorem Zha:CSound Try.prog 23 Z4q:=Z0b _ _ Zqz
theorem ZqB {a0:AV} {a1:AV} {v:AV} (ha:plains [a0,a1]=true) (hv:Z8X Try.prog Z7E Zaz NN (fun v g=>cvt false g v) (nrm (.l 7) a0) a1 []=some v) (h:Hp):Z4q [a0,a1] h=some (v,h):=by
 have e:(ZaA (nrms [.l 7, .o] [a0,a1]) []).bind (fun (p:AV × Hp)=>cvt false p.2 p.1)=some v:=(ZqA (fun v g=>cvt false g v) (nrm (.l 7) a0) a1 []).trans hv
 exact (Z0c (shr:=[.o]) ha e h).trans (congrArg (fun x=>some (x,h)) (Z0K 1 v))
noncomputable def ZaB:DTab:=D0
theorem ZqC:DSound Try.prog ZaB:=DSound.zero
noncomputable def Z7F:Tab:=(updF T0 76 Z26)
theorem ZqD:TSound Try.prog Z7F:=(TSound.upd TSound.zero ZcX)
@[simp] theorem ZxD:Z7F 76=some Z26:=rfl
noncomputable def ZaC:Fun:=runF Try.prog Z7F ZaB NN [0,2,3,4,5,6,9,11,12,13,14,18,48,55,61] Try.f49 1
theorem ZqE:CSound Try.prog 49 ZaC:=Z04 ZqD ZqC mixed Try.func49 (by kernel_rfl) NN
theorem ZqF {β:Type} (K:AV→Hp→Option β) (a0:AV) (h:Hp):(ZaC [a0] h).bind (fun p=>K p.1 p.2)=Z6T Try.prog Z7F ZaB NN K a0 h:=by
 rw [← Zm7];exact Z05 rfl
noncomputable def Z4r:Fun:=closedX [.l 10] [.o, .o] ZaC
theorem Zhb:CSound Try.prog 49 Z4r:=Z0b _ _ ZqE
theorem ZqG {a0:AV} {v:AV} (ha:plains [a0]=true) (hv:Z6T Try.prog Z7F ZaB NN (fun v g=>cvt false g v) (nrm (.l 10) a0) []=some v) (h:Hp):Z4r [a0] h=some (v,h):=by
 have e:(ZaC (nrms [.l 10] [a0]) []).bind (fun (p:AV × Hp)=>cvt false p.2 p.1)=some v:=(ZqF (fun v g=>cvt false g v) (nrm (.l 10) a0) []).trans hv
 exact (Z0c (shr:=[.o, .o]) ha e h).trans (congrArg (fun x=>some (x,h)) (Z0K 2 v))
noncomputable def Z7G:DTab:=D0
theorem ZqH:DSound Try.prog Z7G:=DSound.zero
noncomputable def Z7H:Tab:=T0
theorem ZqI:TSound Try.prog Z7H:=TSound.zero
noncomputable def Z1a:Fun:=runF Try.prog Z7H Z7G NN [0,2,4] Try.f50 1
theorem Zd0:CSound Try.prog 50 Z1a:=Z04 ZqI ZqH mixed Try.func50 (by kernel_rfl) NN
theorem Zhc {β:Type} (K:AV→Hp→Option β) (a0:AV) (h:Hp):(Z1a [a0] h).bind (fun p=>K p.1 p.2)=Z3K Try.prog Z7H Z7G NN K a0 h:=by
 rw [← Zm8];exact Z05 rfl
theorem ZqJ (a0:AV) (h:Hp):Z1a [a0] h=Z3K Try.prog Z7H Z7G NN (fun v h=>some (v,h)) a0 h:=(Z0S _).symm.trans (Zhc (fun v h=>some (v,h)) a0 h)
noncomputable def Z3m:Fun:=closedX [.l 2] [.l 2] Z1a
theorem ZaD:CSound Try.prog 50 Z3m:=Z0b _ _ Zd0
noncomputable def Z4L:DFun:=closedXD [.l 2] [.l 2] Z1a
theorem Zhd:Ro Z3m Z4L:=Z3d _ _ _
theorem ZqK {a0:AV} {v:AV} (ha:plains [a0]=true) (hv:Z3K Try.prog Z7H Z7G NN (fun v g=>cvt false g v) (nrm (.l 2) a0) []=some v) (h:Hp):Z3m [a0] h=some ((nrmR [.l 2] v),h):=by
 have e:(Z1a (nrms [.l 2] [a0]) []).bind (fun (p:AV × Hp)=>cvt false p.2 p.1)=some v:=(Zhc (fun v g=>cvt false g v) (nrm (.l 2) a0) []).trans hv
 exact (Z0c (shr:=[.l 2]) ha e h).trans (congrArg (fun x=>some (x,h)) rfl)
noncomputable def Z4s:DTab:=D0
theorem ZqL:DSound Try.prog Z4s:=DSound.zero
noncomputable def Z1i:Tab:=(updF T0 53 Z3l)
theorem ZqM:TSound Try.prog Z1i:=(TSound.upd TSound.zero ZcV)
@[simp] theorem Zhe:Z1i 53=some Z3l:=rfl
noncomputable def ZaE:Fun:=runF Try.prog Z1i Z4s NN [0,1,2,4,6,7,8,9,10,11,17,31] Try.f78 3
theorem ZqN:CSound Try.prog 78 ZaE:=Z04 ZqM ZqL mixed Try.func78 (by kernel_rfl) NN
theorem ZqO {β:Type} (K:AV→Hp→Option β) (a0:AV) (a1:AV) (a2:AV) (h:Hp):(ZaE [a0,a1,a2] h).bind (fun p=>K p.1 p.2)=Z5r Try.prog Z1i Z4s NN K a0 a1 a2 h:=by
 rw [← Zn7];exact Z05 rfl
noncomputable def Z7I:Fun:=closedX [.l 2, .o, .o] [.o, .o] ZaE
theorem ZqP:CSound Try.prog 78 Z7I:=Z0b _ _ ZqN
theorem Zhf {a0:AV} {a1:AV} {a2:AV} {v:AV} (ha:plains [a0,a1,a2]=true) (hv:Z5r Try.prog Z1i Z4s NN (fun v g=>cvt false g v) (nrm (.l 2) a0) a1 a2 []=some v) (h:Hp):Z7I [a0,a1,a2] h=some (v,h):=by
 have e:(ZaE (nrms [.l 2, .o, .o] [a0,a1,a2]) []).bind (fun (p:AV × Hp)=>cvt false p.2 p.1)=some v:=(ZqO (fun v g=>cvt false g v) (nrm (.l 2) a0) a1 a2 []).trans hv
 exact (Z0c (shr:=[.o, .o]) ha e h).trans (congrArg (fun x=>some (x,h)) (Z0K 2 v))
def Zhg:Fun:=insF 2 16
theorem ZqQ:CSound Try.prog 79 Zhg:=ZgM ZgP
def Zd1:Fun:=Zhg
theorem ZqR:CSound Try.prog 79 Zd1:=ZqQ
noncomputable def Z5Q:DTab:=(updD (updD D0 50 (newD Z1a)) 79 (insE 2 16))
theorem ZqS:DSound Try.prog Z5Q:=(DSound.ins (DSound.new DSound.zero Zd0) ZgP)
@[simp] theorem Zhh:Z5Q 50=some (newD Z1a):=rfl
@[simp] theorem Zhi:Z5Q 79=some (insE 2 16):=rfl
noncomputable def Z4M:Tab:=(updF (updF (updF T0 50 Z1a) 78 Z7I) 79 Zd1)
theorem ZqT:TSound Try.prog Z4M:=(TSound.upd (TSound.upd (TSound.upd TSound.zero Zd0) ZqP) ZqR)
@[simp] theorem ZxE:Z4M 50=some Z1a:=rfl
@[simp] theorem Zhj:Z4M 78=some Z7I:=rfl
@[simp] theorem ZxF:Z4M 79=some Zd1:=rfl
noncomputable def ZaF:Fun:=runF Try.prog Z4M Z5Q NN [0,1,2,4,6,7] Try.f52 3
theorem ZqU:CSound Try.prog 52 ZaF:=Z04 ZqT ZqS mixed Try.func52 (by kernel_rfl) NN
theorem ZqV {β:Type} (K:AV→Hp→Option β) (a0:AV) (a1:AV) (a2:AV) (h:Hp):(ZaF [a0,a1,a2] h).bind (fun p=>K p.1 p.2)=Z6U Try.prog Z4M Z5Q NN K a0 a1 a2 h:=by
 rw [← Zma];exact Z05 rfl
noncomputable def Z7J:Fun:=closedX [.l 2, .o, .o] [.l 2] ZaF
theorem ZqW:CSound Try.prog 52 Z7J:=Z0b _ _ ZqU
theorem ZqX {a0:AV} {a1:AV} {a2:AV} {v:AV} (ha:plains [a0,a1,a2]=true) (hv:Z6U Try.prog Z4M Z5Q NN (fun v g=>cvt false g v) (nrm (.l 2) a0) a1 a2 []=some v) (h:Hp):Z7J [a0,a1,a2] h=some ((nrmR [.l 2] v),h):=by
 have e:(ZaF (nrms [.l 2, .o, .o] [a0,a1,a2]) []).bind (fun (p:AV × Hp)=>cvt false p.2 p.1)=some v:=(ZqV (fun v g=>cvt false g v) (nrm (.l 2) a0) a1 a2 []).trans hv
 exact (Z0c (shr:=[.l 2]) ha e h).trans (congrArg (fun x=>some (x,h)) rfl)
noncomputable def Z5R:DTab:=(updD (updD D0 50 Z4L) 51 (newD Z13))
theorem ZqY:DSound Try.prog Z5R:=(DSound.new (DSound.ro DSound.zero Zhd ZaD) Zao)
@[simp] theorem ZaG:Z5R 50=some Z4L:=rfl
@[simp] theorem ZaH:Z5R 51=some (newD Z13):=rfl
noncomputable def Z1j:Tab:=(updF (updF (updF (updF (updF (updF (updF (updF (updF T0 16 Z19) 22 Z4p) 23 Z4q) 49 Z4r) 50 Z3m) 51 Z13) 52 Z7J) 53 Z3l) 54 Z1X)
theorem ZqZ:TSound Try.prog Z1j:=(TSound.upd (TSound.upd (TSound.upd (TSound.upd (TSound.upd (TSound.upd (TSound.upd (TSound.upd (TSound.upd TSound.zero Z7z) Zh9) Zha) Zhb) ZaD) Zao) ZqW) ZcV) ZcZ)
@[simp] theorem Z4N:Z1j 16=some Z19:=rfl
@[simp] theorem ZaI:Z1j 22=some Z4p:=rfl
@[simp] theorem Zd2:Z1j 23=some Z4q:=rfl
@[simp] theorem Z5S:Z1j 49=some Z4r:=rfl
@[simp] theorem ZxG:Z1j 50=some Z3m:=rfl
@[simp] theorem ZxH:Z1j 51=some Z13:=rfl
@[simp] theorem Zhk:Z1j 52=some Z7J:=rfl
@[simp] theorem ZxI:Z1j 53=some Z3l:=rfl
@[simp] theorem Zr0:Z1j 54=some Z1X:=rfl
noncomputable def ZaJ:Fun:=runF Try.prog Z1j Z5R NN [0,1,2,3,4,5,6,7,8,9,11,12,13,22,32,40,55,76,84] Try.f13 2
theorem Zr1:CSound Try.prog 13 ZaJ:=Z04 ZqZ ZqY mixed Try.func13 (by kernel_rfl) NN
theorem Zr2 {β:Type} (K:AV→Hp→Option β) (a0:AV) (a1:AV) (h:Hp):(ZaJ [a0,a1] h).bind (fun p=>K p.1 p.2)=Z23 Try.prog Z1j Z5R NN K a0 a1 h:=by
 rw [← Zly];exact Z05 rfl
noncomputable def Z5T:Fun:=closedX [.a [none,some 2,some 7], .o] [.a [none,some 2,some 7], .o, .o, .o] ZaJ
theorem Zr3:CSound Try.prog 13 Z5T:=Z0b _ _ Zr1
theorem Z4O {a0:AV} {a1:AV} {v:AV} (ha:plains [a0,a1]=true) (hv:Z23 Try.prog Z1j Z5R NN (fun v g=>cvt false g v) (nrm (.a [none,some 2,some 7]) a0) a1 []=some v) (h:Hp):Z5T [a0,a1] h=some ((nrmR [.a [none,some 2,some 7], .o, .o, .o] v),h):=by
 have e:(ZaJ (nrms [.a [none,some 2,some 7], .o] [a0,a1]) []).bind (fun (p:AV × Hp)=>cvt false p.2 p.1)=some v:=(Zr2 (fun v g=>cvt false g v) (nrm (.a [none,some 2,some 7]) a0) a1 []).trans hv
 exact (Z0c (shr:=[.a [none,some 2,some 7], .o, .o, .o]) ha e h).trans (congrArg (fun x=>some (x,h)) rfl)
noncomputable def ZaK:DTab:=D0
theorem Zr4:DSound Try.prog ZaK:=DSound.zero
noncomputable def ZaL:Tab:=T0
theorem Zr5:TSound Try.prog ZaL:=TSound.zero
noncomputable def ZaM:Fun:=runF Try.prog ZaL ZaK NN [0,2] Try.f75 1
theorem Zr6:CSound Try.prog 75 ZaM:=Z04 Zr5 Zr4 mixed Try.func75 (by kernel_rfl) NN
theorem Zr7 {β:Type} (K:AV→Hp→Option β) (a0:AV) (h:Hp):(ZaM [a0] h).bind (fun p=>K p.1 p.2)=Z9A Try.prog ZaL ZaK NN K a0 h:=by
 rw [← Zn0];exact Z05 rfl
noncomputable def Z1Y:Fun:=closedX [.o] [.o] ZaM
theorem ZaN:CSound Try.prog 75 Z1Y:=Z0b _ _ Zr6
theorem Zr8 {a0:AV} {v:AV} (ha:plains [a0]=true) (hv:Z9A Try.prog ZaL ZaK NN (fun v g=>cvt false g v) a0 []=some v) (h:Hp):Z1Y [a0] h=some (v,h):=by
 have e:(ZaM (nrms [.o] [a0]) []).bind (fun (p:AV × Hp)=>cvt false p.2 p.1)=some v:=(Zr7 (fun v g=>cvt false g v) a0 []).trans hv
 exact (Z0c (shr:=[.o]) ha e h).trans (congrArg (fun x=>some (x,h)) (Z0K 1 v))
noncomputable def Z4P:DTab:=D0
theorem Zr9:DSound Try.prog Z4P:=DSound.zero
noncomputable def Z3n:Tab:=(updF (updF T0 49 Z4r) 75 Z1Y)
theorem Zra:TSound Try.prog Z3n:=(TSound.upd (TSound.upd TSound.zero Zhb) ZaN)
@[simp] theorem Zrb:Z3n 49=some Z4r:=rfl
@[simp] theorem Zrc:Z3n 75=some Z1Y:=rfl
noncomputable def ZaO:Fun:=runF Try.prog Z3n Z4P NN [0,1,2,3,4,6,7,22,28,29,30,31,41,45,51] Try.f64 1
theorem Zrd:CSound Try.prog 64 ZaO:=Z04 Zra Zr9 mixed Try.func64 (by kernel_rfl) NN
theorem Zre {β:Type} (K:AV→Hp→Option β) (a0:AV) (h:Hp):(ZaO [a0] h).bind (fun p=>K p.1 p.2)=Z70 Try.prog Z3n Z4P NN K a0 h:=by
 rw [← ZmA];exact Z05 rfl
noncomputable def Z1L:Fun:=closedX [.a [none,none,some 10]] [.o] ZaO
theorem ZaP:CSound Try.prog 64 Z1L:=Z0b _ _ Zrd
theorem Zrf {a0:AV} {v:AV} (ha:plains [a0]=true) (hv:Z70 Try.prog Z3n Z4P NN (fun v g=>cvt false g v) (nrm (.a [none,none,some 10]) a0) []=some v) (h:Hp):Z1L [a0] h=some (v,h):=by
 have e:(ZaO (nrms [.a [none,none,some 10]] [a0]) []).bind (fun (p:AV × Hp)=>cvt false p.2 p.1)=some v:=(Zre (fun v g=>cvt false g v) (nrm (.a [none,none,some 10]) a0) []).trans hv
 exact (Z0c (shr:=[.o]) ha e h).trans (congrArg (fun x=>some (x,h)) (Z0K 1 v))
noncomputable def Z7K:DTab:=D0
theorem Zrg:DSound Try.prog Z7K:=DSound.zero
noncomputable def Z7L:Tab:=T0
theorem Zrh:TSound Try.prog Z7L:=TSound.zero
noncomputable def Z1M:Fun:=runF Try.prog Z7L Z7K NN [0,2,4] Try.f66 1
theorem Zd3:CSound Try.prog 66 Z1M:=Z04 Zrh Zrg mixed Try.func66 (by kernel_rfl) NN
theorem Zhl {β:Type} (K:AV→Hp→Option β) (a0:AV) (h:Hp):(Z1M [a0] h).bind (fun p=>K p.1 p.2)=Z3V Try.prog Z7L Z7K NN K a0 h:=by
 rw [← ZmC];exact Z05 rfl
theorem Zri (a0:AV) (h:Hp):Z1M [a0] h=Z3V Try.prog Z7L Z7K NN (fun v h=>some (v,h)) a0 h:=(Z0S _).symm.trans (Zhl (fun v h=>some (v,h)) a0 h)
noncomputable def Z4Q:Fun:=closedX [.l 10] [.l 10] Z1M
theorem Zrj:CSound Try.prog 66 Z4Q:=Z0b _ _ Zd3
theorem Zrk {a0:AV} {v:AV} (ha:plains [a0]=true) (hv:Z3V Try.prog Z7L Z7K NN (fun v g=>cvt false g v) (nrm (.l 10) a0) []=some v) (h:Hp):Z4Q [a0] h=some ((nrmR [.l 10] v),h):=by
 have e:(Z1M (nrms [.l 10] [a0]) []).bind (fun (p:AV × Hp)=>cvt false p.2 p.1)=some v:=(Zhl (fun v g=>cvt false g v) (nrm (.l 10) a0) []).trans hv
 exact (Z0c (shr:=[.l 10]) ha e h).trans (congrArg (fun x=>some (x,h)) rfl)
noncomputable def ZaQ:DTab:=D0
theorem Zrl:DSound Try.prog ZaQ:=DSound.zero
noncomputable def ZaR:Tab:=T0
theorem Zrm:TSound Try.prog ZaR:=TSound.zero
noncomputable def ZaS:Fun:=runF Try.prog ZaR ZaQ NN [0,1,2,3] Try.f90 2
theorem Zrn:CSound Try.prog 90 ZaS:=Z04 Zrm Zrl mixed Try.func90 (by kernel_rfl) NN
theorem Zro {β:Type} (K:AV→Hp→Option β) (a0:AV) (a1:AV) (h:Hp):(ZaS [a0,a1] h).bind (fun p=>K p.1 p.2)=Z9N Try.prog ZaR ZaQ NN K a0 a1 h:=by
 rw [← Znv];exact Z05 rfl
noncomputable def Z3o:Fun:=quietT ZaS
theorem Zd4:CSound Try.prog 90 Z3o:=Z14 Zrn
theorem Zrp {a0:AV} {a1:AV} {h:Hp} {g:List AObj} {v:AV} (hv:Z9N Try.prog ZaR ZaQ NN (fun v h=>some (v,h)) a0 a1 h=some (v,h++g)) (hp:plain v=true):Z3o [a0,a1] h=some (v,h):=Z1g (F:=ZaS) (((Z0S _).symm.trans (Zro (fun v h=>some (v,h)) a0 a1 h)).trans hv) hp
noncomputable def ZaT:DTab:=D0
theorem Zrq:DSound Try.prog ZaT:=DSound.zero
noncomputable def Z5U:Tab:=(updF T0 90 Z3o)
theorem Zrr:TSound Try.prog Z5U:=(TSound.upd TSound.zero Zd4)
@[simp] theorem Zrs:Z5U 90=some Z3o:=rfl
noncomputable def ZaU:Fun:=runF Try.prog Z5U ZaT NN [0,1,4,5,7,8,9,16] Try.f70 2
theorem Zrt:CSound Try.prog 70 ZaU:=Z04 Zrr Zrq mixed Try.func70 (by kernel_rfl) NN
theorem Zru {β:Type} (K:AV→Hp→Option β) (a0:AV) (a1:AV) (h:Hp):(ZaU [a0,a1] h).bind (fun p=>K p.1 p.2)=Z40 Try.prog Z5U ZaT NN K a0 a1 h:=by
 rw [← Zg5];exact Z05 rfl
noncomputable def Z5V:Fun:=quietT ZaU
theorem Zrv:CSound Try.prog 70 Z5V:=Z14 Zrt
theorem Zhm {a0:AV} {a1:AV} {h:Hp} {g:List AObj} {v:AV} (hv:Z40 Try.prog Z5U ZaT NN (fun v h=>some (v,h)) a0 a1 h=some (v,h++g)) (hp:plain v=true):Z5V [a0,a1] h=some (v,h):=Z1g (F:=ZaU) (((Z0S _).symm.trans (Zru (fun v h=>some (v,h)) a0 a1 h)).trans hv) hp
noncomputable def Z7M:DTab:=D0
theorem Zrw:DSound Try.prog Z7M:=DSound.zero
noncomputable def Z3p:Tab:=(updF (updF T0 70 Z5V) 90 Z3o)
theorem Zrx:TSound Try.prog Z3p:=(TSound.upd (TSound.upd TSound.zero Zrv) Zd4)
@[simp] theorem Zhn:Z3p 70=some Z5V:=rfl
@[simp] theorem Zry:Z3p 90=some Z3o:=rfl
noncomputable def Z5W:Fun:=runF Try.prog Z3p Z7M NN [0,1,4,5,6,7,12,19,29] Try.f89 2
theorem Zrz:CSound Try.prog 89 Z5W:=Z04 Zrx Zrw mixed Try.func89 (by kernel_rfl) NN
theorem ZrA {β:Type} (K:AV→Hp→Option β) (a0:AV) (a1:AV) (h:Hp):(Z5W [a0,a1] h).bind (fun p=>K p.1 p.2)=Z4e Try.prog Z3p Z7M NN K a0 a1 h:=by
 rw [← Znu];exact Z05 rfl
theorem Zho (a0:AV) (a1:AV) (h:Hp):Z5W [a0,a1] h=Z4e Try.prog Z3p Z7M NN (fun v h=>some (v,h)) a0 a1 h:=(Z0S _).symm.trans (ZrA (fun v h=>some (v,h)) a0 a1 h)
noncomputable def ZaV:DTab:=D0
theorem ZrB:DSound Try.prog ZaV:=DSound.zero
noncomputable def Z3q:Tab:=(updF (updF (updF (updF (updF T0 64 Z1L) 66 Z1M) 75 Z1Y) 89 Z5W) 90 Z3o)
theorem ZrC:TSound Try.prog Z3q:=(TSound.upd (TSound.upd (TSound.upd (TSound.upd (TSound.upd TSound.zero ZaP) Zd3) ZaN) Zrz) Zd4)
@[simp] theorem Zd5:Z3q 64=some Z1L:=rfl
@[simp] theorem ZrD:Z3q 66=some Z1M:=rfl
@[simp] theorem Zhp:Z3q 75=some Z1Y:=rfl
@[simp] theorem ZrE:Z3q 89=some Z5W:=rfl
@[simp] theorem ZxJ:Z3q 90=some Z3o:=rfl
noncomputable def ZaW:Fun:=runF Try.prog Z3q ZaV NN [0,1,2,3,4,5,6,10] Try.f65 2
theorem ZrF:CSound Try.prog 65 ZaW:=Z04 ZrC ZrB mixed Try.func65 (by kernel_rfl) NN
theorem ZrG {β:Type} (K:AV→Hp→Option β) (a0:AV) (a1:AV) (h:Hp):(ZaW [a0,a1] h).bind (fun p=>K p.1 p.2)=Z5n Try.prog Z3q ZaV NN K a0 a1 h:=by
 rw [← ZmB];exact Z05 rfl
noncomputable def Z5X:Fun:=closedX [.a [none,none,some 10], .o] [.l 10, .o] ZaW
theorem ZrH:CSound Try.prog 65 Z5X:=Z0b _ _ ZrF
theorem Zd6 {a0:AV} {a1:AV} {v:AV} (ha:plains [a0,a1]=true) (hv:Z5n Try.prog Z3q ZaV NN (fun v g=>cvt false g v) (nrm (.a [none,none,some 10]) a0) a1 []=some v) (h:Hp):Z5X [a0,a1] h=some ((nrmR [.l 10, .o] v),h):=by
 have e:(ZaW (nrms [.a [none,none,some 10], .o] [a0,a1]) []).bind (fun (p:AV × Hp)=>cvt false p.2 p.1)=some v:=(ZrG (fun v g=>cvt false g v) (nrm (.a [none,none,some 10]) a0) a1 []).trans hv
 exact (Z0c (shr:=[.l 10, .o]) ha e h).trans (congrArg (fun x=>some (x,h)) rfl)
noncomputable def Zhq:DTab:=D0
theorem ZrI:DSound Try.prog Zhq:=DSound.zero
noncomputable def Zhr:Tab:=T0
theorem ZrJ:TSound Try.prog Zhr:=TSound.zero
noncomputable def Zhs:Fun:=runF Try.prog Zhr Zhq NN [0,1,2,4,5,6,7,8,9,24] Try.f91 3
theorem ZrK:CSound Try.prog 91 Zhs:=Z04 ZrJ ZrI mixed Try.func91 (by kernel_rfl) NN
noncomputable def Zd7:Fun:=quietT Zhs
theorem ZrL:CSound Try.prog 91 Zd7:=Z14 ZrK
noncomputable def ZaX:DTab:=D0
theorem ZrM:DSound Try.prog ZaX:=DSound.zero
noncomputable def Z7N:Tab:=(updF T0 91 Zd7)
theorem ZrN:TSound Try.prog Z7N:=(TSound.upd TSound.zero ZrL)
@[simp] theorem ZxK:Z7N 91=some Zd7:=rfl
noncomputable def Zd8:Fun:=runF Try.prog Z7N ZaX NN [0,1,2,3,4] Try.f67 2
theorem ZrO:CSound Try.prog 67 Zd8:=Z04 ZrN ZrM mixed Try.func67 (by kernel_rfl) NN
theorem ZrP {β:Type} (K:AV→Hp→Option β) (a0:AV) (a1:AV) (h:Hp):(Zd8 [a0,a1] h).bind (fun p=>K p.1 p.2)=ZcD Try.prog Z7N ZaX NN K a0 a1 h:=by
 rw [← ZmD];exact Z05 rfl
noncomputable def Z5Y:Fun:=Zd8
theorem ZrQ:CSound Try.prog 67 Z5Y:=ZrO
theorem ZrR (a0:AV) (a1:AV) (h:Hp):Z5Y [a0,a1] h=ZcD Try.prog Z7N ZaX NN (fun v h=>some (v,h)) a0 a1 h:=(Z0S _).symm.trans (ZrP (fun v h=>some (v,h)) a0 a1 h)
noncomputable def Z7O:DTab:=D0
theorem ZrS:DSound Try.prog Z7O:=DSound.zero
noncomputable def Z5Z:Tab:=(updF T0 66 Z1M)
theorem ZrT:TSound Try.prog Z5Z:=(TSound.upd TSound.zero Zd3)
@[simp] theorem ZrU:Z5Z 66=some Z1M:=rfl
noncomputable def Z1k:Fun:=runF Try.prog Z5Z Z7O NN [0,1,2] Try.f77 1
theorem Zd9:CSound Try.prog 77 Z1k:=Z04 ZrT ZrS mixed Try.func77 (by kernel_rfl) NN
theorem ZrV {β:Type} (K:AV→Hp→Option β) (a0:AV) (h:Hp):(Z1k [a0] h).bind (fun p=>K p.1 p.2)=Z75 Try.prog Z5Z Z7O NN K a0 h:=by
 rw [← Zn2];exact Z05 rfl
theorem ZrW (a0:AV) (h:Hp):Z1k [a0] h=Z75 Try.prog Z5Z Z7O NN (fun v h=>some (v,h)) a0 h:=(Z0S _).symm.trans (ZrV (fun v h=>some (v,h)) a0 h)
noncomputable def ZaY:DTab:=D0
theorem ZrX:DSound Try.prog ZaY:=DSound.zero
noncomputable def ZaZ:Tab:=T0
theorem ZrY:TSound Try.prog ZaZ:=TSound.zero
noncomputable def Zb0:Fun:=runF Try.prog ZaZ ZaY NN [0,1,2,4] Try.f93 3
theorem ZrZ:CSound Try.prog 93 Zb0:=Z04 ZrY ZrX mixed Try.func93 (by kernel_rfl) NN
theorem Zs0 {β:Type} (K:AV→Hp→Option β) (a0:AV) (a1:AV) (a2:AV) (h:Hp):(Zb0 [a0,a1,a2] h).bind (fun p=>K p.1 p.2)=Z9R Try.prog ZaZ ZaY NN K a0 a1 a2 h:=by
 rw [← ZnG];exact Z05 rfl
noncomputable def Z4R:Fun:=quietT Zb0
theorem Zht:CSound Try.prog 93 Z4R:=Z14 ZrZ
theorem Zs1 {a0:AV} {a1:AV} {a2:AV} {h:Hp} {g:List AObj} {v:AV} (hv:Z9R Try.prog ZaZ ZaY NN (fun v h=>some (v,h)) a0 a1 a2 h=some (v,h++g)) (hp:plain v=true):Z4R [a0,a1,a2] h=some (v,h):=Z1g (F:=Zb0) (((Z0S _).symm.trans (Zs0 (fun v h=>some (v,h)) a0 a1 a2 h)).trans hv) hp
noncomputable def Zb1:DTab:=D0
theorem Zs2:DSound Try.prog Zb1:=DSound.zero
noncomputable def Z60:Tab:=(updF T0 93 Z4R)
theorem Zs3:TSound Try.prog Z60:=(TSound.upd TSound.zero Zht)
@[simp] theorem Zs4:Z60 93=some Z4R:=rfl
noncomputable def Zb2:Fun:=runF Try.prog Z60 Zb1 NN [0,1,4,5,6,7,11,21] Try.f92 2
theorem Zs5:CSound Try.prog 92 Zb2:=Z04 Zs3 Zs2 mixed Try.func92 (by kernel_rfl) NN
theorem Zs6 {β:Type} (K:AV→Hp→Option β) (a0:AV) (a1:AV) (h:Hp):(Zb2 [a0,a1] h).bind (fun p=>K p.1 p.2)=Z7f Try.prog Z60 Zb1 NN K a0 a1 h:=by
 rw [← ZnF];exact Z05 rfl
noncomputable def Z7P:Fun:=quietT Zb2
theorem Zs7:CSound Try.prog 92 Z7P:=Z14 Zs5
theorem Zs8 {a0:AV} {a1:AV} {h:Hp} {g:List AObj} {v:AV} (hv:Z7f Try.prog Z60 Zb1 NN (fun v h=>some (v,h)) a0 a1 h=some (v,h++g)) (hp:plain v=true):Z7P [a0,a1] h=some (v,h):=Z1g (F:=Zb2) (((Z0S _).symm.trans (Zs6 (fun v h=>some (v,h)) a0 a1 h)).trans hv) hp
noncomputable def Zb3:DTab:=D0
theorem Zs9:DSound Try.prog Zb3:=DSound.zero
noncomputable def Zb4:Tab:=T0
theorem Zsa:TSound Try.prog Zb4:=TSound.zero
noncomputable def Z61:Fun:=runF Try.prog Zb4 Zb3 NN [0,1,2,6,7,16] Try.f94 3
theorem Zsb:CSound Try.prog 94 Z61:=Z04 Zsa Zs9 mixed Try.func94 (by kernel_rfl) NN
theorem Zsc {β:Type} (K:AV→Hp→Option β) (a0:AV) (a1:AV) (a2:AV) (h:Hp):(Z61 [a0,a1,a2] h).bind (fun p=>K p.1 p.2)=Z9S Try.prog Zb4 Zb3 NN K a0 a1 a2 h:=by
 rw [← ZnH];exact Z05 rfl
theorem Zsd (a0:AV) (a1:AV) (a2:AV) (h:Hp):Z61 [a0,a1,a2] h=Z9S Try.prog Zb4 Zb3 NN (fun v h=>some (v,h)) a0 a1 a2 h:=(Z0S _).symm.trans (Zsc (fun v h=>some (v,h)) a0 a1 a2 h)
noncomputable def Z7Q:DTab:=D0
theorem Zse:DSound Try.prog Z7Q:=DSound.zero
noncomputable def Z27:Tab:=(updF (updF (updF (updF (updF T0 64 Z1L) 77 Z1k) 92 Z7P) 93 Z4R) 94 Z61)
theorem Zsf:TSound Try.prog Z27:=(TSound.upd (TSound.upd (TSound.upd (TSound.upd (TSound.upd TSound.zero ZaP) Zd9) Zs7) Zht) Zsb)
@[simp] theorem Z62:Z27 64=some Z1L:=rfl
@[simp] theorem Zda:Z27 77=some Z1k:=rfl
@[simp] theorem Zdb:Z27 92=some Z7P:=rfl
@[simp] theorem ZxL:Z27 93=some Z4R:=rfl
@[simp] theorem Zsg:Z27 94=some Z61:=rfl
noncomputable def Zb5:Fun:=runF Try.prog Z27 Z7Q NN [0,1,2,3,4,5,6,7,8,13,20,54] Try.f68 2
theorem Zsh:CSound Try.prog 68 Zb5:=Z04 Zsf Zse mixed Try.func68 (by kernel_rfl) NN
theorem Zsi {β:Type} (K:AV→Hp→Option β) (a0:AV) (a1:AV) (h:Hp):(Zb5 [a0,a1] h).bind (fun p=>K p.1 p.2)=Z3h Try.prog Z27 Z7Q NN K a0 a1 h:=by
 rw [← ZmE];exact Z05 rfl
noncomputable def Z63:Fun:=closedX [.a [none,none,some 10], .o] [.a [none,none,some 10], .o] Zb5
theorem Zsj:CSound Try.prog 68 Z63:=Z0b _ _ Zsh
theorem Z64 {a0:AV} {a1:AV} {v:AV} (ha:plains [a0,a1]=true) (hv:Z3h Try.prog Z27 Z7Q NN (fun v g=>cvt false g v) (nrm (.a [none,none,some 10]) a0) a1 []=some v) (h:Hp):Z63 [a0,a1] h=some ((nrmR [.a [none,none,some 10], .o] v),h):=by
 have e:(Zb5 (nrms [.a [none,none,some 10], .o] [a0,a1]) []).bind (fun (p:AV × Hp)=>cvt false p.2 p.1)=some v:=(Zsi (fun v g=>cvt false g v) (nrm (.a [none,none,some 10]) a0) a1 []).trans hv
 exact (Z0c (shr:=[.a [none,none,some 10], .o]) ha e h).trans (congrArg (fun x=>some (x,h)) rfl)
noncomputable def Z1b:DTab:=(updD (updD D0 50 Z4L) 51 Zap)
theorem Zhu:DSound Try.prog Z1b:=(DSound.ro (DSound.ro DSound.zero Zhd ZaD) Zpx Zh2)
@[simp] theorem Zsk:Z1b 50=some Z4L:=rfl
@[simp] theorem Zsl:Z1b 51=some Zap:=rfl
noncomputable def Z1c:Tab:=(updF (updF (updF (updF (updF (updF (updF (updF (updF T0 13 Z5T) 16 Z19) 50 Z3m) 51 Z4G) 64 Z1L) 65 Z5X) 66 Z4Q) 67 Z5Y) 68 Z63)
theorem Zhv:TSound Try.prog Z1c:=(TSound.upd (TSound.upd (TSound.upd (TSound.upd (TSound.upd (TSound.upd (TSound.upd (TSound.upd (TSound.upd TSound.zero Zr3) Z7z) ZaD) Zh2) ZaP) ZrH) Zrj) ZrQ) Zsj)
@[simp] theorem Zsm:Z1c 13=some Z5T:=rfl
@[simp] theorem ZxM:Z1c 16=some Z19:=rfl
@[simp] theorem ZxN:Z1c 50=some Z3m:=rfl
@[simp] theorem ZxO:Z1c 51=some Z4G:=rfl
@[simp] theorem ZxP:Z1c 64=some Z1L:=rfl
@[simp] theorem ZxQ:Z1c 65=some Z5X:=rfl
@[simp] theorem ZxR:Z1c 66=some Z4Q:=rfl
@[simp] theorem ZxS:Z1c 67=some Z5Y:=rfl
@[simp] theorem Zsn:Z1c 68=some Z63:=rfl
noncomputable def Z65:Fun:=yieldF Try.prog Z1c Z1b NN [0,1,2,3,4,5,7,8,9,10,11,13,14,15,16,17,18,20,21,32,63,64,65,75,84] 4
theorem Zso:YSound Try.prog Z65:=Zlj Zhv Zhu mixed NN
theorem Zsp {L:Nat} {h:Hp} {pend:Option Code} {v7:AV} {v8:AV} {v9:AV} {v10:AV} {v13:AV} {v14:AV} {v64:AV} {v65:AV} (hL:h[L]? = some (.loop (Z1U) (Z1T) (Z1H) (Z1I) (envT [(7,v7),(8,v8),(9,v9),(10,v10),(13,v13),(14,v14)]) .ready pend)):Z65 [ymark, .yl L,v64,v65] h=ZcA Try.prog Z1c Z1b NN L (envT [(7,v7),(8,v8),(9,v9),(10,v10),(13,v13),(14,v14)]) (fun h=>some (.s (.bool true),h.set L (.loop (Z1U) (Z1T) (Z1H) (Z1I) (envT [(7,v7),(8,v8),(9,v9),(10,v10),(13,v13),(14,v14)]) .ready none))) (fun h=>some (.s (.bool false),h.set L (.loop (Z1U) (Z1T) (Z1H) (Z1I) (envT [(7,v7),(8,v8),(9,v9),(10,v10),(13,v13),(14,v14)]) .done (some .ret)))) v7 v8 v9 v10 v13 v14 v64 v65 h:=(Zlh hL (by kernel_rfl)).trans (ZlK Z1c Z1b NN L v7 v8 v9 v10 v13 v14 v64 v65 h)
noncomputable def Z0Q:Tab:=(updF T0 YB Z65)
theorem Zsq:TSound Try.prog Z0Q:=(TSound.updY TSound.zero Zso)
@[simp] theorem Zhw:Z0Q YB=some Z65:=rfl
noncomputable def Z66:Fun:=runF Try.prog Z0Q D0 NN [0,1,2,4,5,6,7,8,9,24] Try.f91 3
theorem Zsr:CSound Try.prog 91 Z66:=Z04 Zsq DSound.zero mixed Try.func91 (by kernel_rfl) NN
theorem Zss {β:Type} (K:AV→Hp→Option β) (a0:AV) (a1:AV) (a2:AV) (h:Hp):(Z66 [a0,a1,a2] h).bind (fun p=>K p.1 p.2)=Z7d Try.prog Z0Q D0 NN K a0 a1 a2 h:=by
 rw [← ZnA];exact Z05 rfl
theorem Zst (a0:AV) (a1:AV) (a2:AV) (h:Hp):Z66 [a0,a1,a2] h=Z7d Try.prog Z0Q D0 NN (fun v h=>some (v,h)) a0 a1 a2 h:=(Z0S _).symm.trans (Zss (fun v h=>some (v,h)) a0 a1 a2 h)
noncomputable def Z0V:Tab:=(updF Z1c 91 Z66)
theorem Zsu:TSound Try.prog Z0V:=(TSound.upd Zhv Zsr)
@[simp] theorem ZxT:Z0V 13=some Z5T:=rfl
@[simp] theorem Zdc:Z0V 16=some Z19:=rfl
@[simp] theorem ZxU:Z0V 50=some Z3m:=rfl
@[simp] theorem ZxV:Z0V 51=some Z4G:=rfl
@[simp] theorem Zdd:Z0V 64=some Z1L:=rfl
@[simp] theorem Zsv:Z0V 65=some Z5X:=rfl
@[simp] theorem Zsw:Z0V 66=some Z4Q:=rfl
@[simp] theorem Zsx:Z0V 67=some Z5Y:=rfl
@[simp] theorem ZxW:Z0V 68=some Z63:=rfl
@[simp] theorem Zhx:Z0V 91=some Z66:=rfl
noncomputable def Z7R:Fun:=runF Try.prog Z0V Z1b NN [0,1,2,3,4,5,7,8,9,10,11,13,14,15,16,17,18,20,21,32,63,64,65,75,84] Try.f30 4
theorem Zsy:CSound Try.prog 30 Z7R:=Z04 Zsu Zhu mixed Try.func30 (by kernel_rfl) NN
theorem Zsz {β:Type} (K:AV→Hp→Option β) (a0:AV) (a1:AV) (a2:AV) (a3:AV) (h:Hp):(Z7R [a0,a1,a2,a3] h).bind (fun p=>K p.1 p.2)=Z3E Try.prog Z0V Z1b NN K a0 a1 a2 a3 h:=by
 rw [← ZlL];exact Z05 rfl
noncomputable def Z1Z:Fun:=closedX [.a [none,none,some 10], .a [none,some 2,some 7], .o, .o] [.a [none,none,some 10], .a [none,some 2,some 7], .o] Z7R
theorem Zde:CSound Try.prog 30 Z1Z:=Z0b _ _ Zsy
noncomputable def Zdf:DFun:=closedXD [.a [none,none,some 10], .a [none,some 2,some 7], .o, .o] [.a [none,none,some 10], .a [none,some 2,some 7], .o] Z7R
theorem ZsA:Ro Z1Z Zdf:=Z3d _ _ _
theorem ZsB {a0:AV} {a1:AV} {a2:AV} {a3:AV} {v:AV} (ha:plains [a0,a1,a2,a3]=true) (hv:Z3E Try.prog Z0V Z1b NN (fun v g=>cvt false g v) (nrm (.a [none,none,some 10]) a0) (nrm (.a [none,some 2,some 7]) a1) a2 a3 []=some v) (h:Hp):Z1Z [a0,a1,a2,a3] h=some ((nrmR [.a [none,none,some 10], .a [none,some 2,some 7], .o] v),h):=by
 have e:(Z7R (nrms [.a [none,none,some 10], .a [none,some 2,some 7], .o, .o] [a0,a1,a2,a3]) []).bind (fun (p:AV × Hp)=>cvt false p.2 p.1)=some v:=(Zsz (fun v g=>cvt false g v) (nrm (.a [none,none,some 10]) a0) (nrm (.a [none,some 2,some 7]) a1) a2 a3 []).trans hv
 exact (Z0c (shr:=[.a [none,none,some 10], .a [none,some 2,some 7], .o]) ha e h).trans (congrArg (fun x=>some (x,h)) rfl)
noncomputable def Zb6:DTab:=D0
theorem ZsC:DSound Try.prog Zb6:=DSound.zero
noncomputable def Z7S:Tab:=(updF T0 75 Z1Y)
theorem ZsD:TSound Try.prog Z7S:=(TSound.upd TSound.zero ZaN)
@[simp] theorem Zhy:Z7S 75=some Z1Y:=rfl
noncomputable def Zb7:Fun:=runF Try.prog Z7S Zb6 NN [0,2,3,6] Try.f43 1
theorem ZsE:CSound Try.prog 43 Zb7:=Z04 ZsD ZsC mixed Try.func43 (by kernel_rfl) NN
theorem ZsF {β:Type} (K:AV→Hp→Option β) (a0:AV) (h:Hp):(Zb7 [a0] h).bind (fun p=>K p.1 p.2)=Z6Q Try.prog Z7S Zb6 NN K a0 h:=by
 rw [← ZlU];exact Z05 rfl
noncomputable def Z67:Fun:=closedX [.o] [.a [none,none,some 10], .o] Zb7
theorem ZsG:CSound Try.prog 43 Z67:=Z0b _ _ ZsE
theorem Zhz {a0:AV} {v:AV} (ha:plains [a0]=true) (hv:Z6Q Try.prog Z7S Zb6 NN (fun v g=>cvt false g v) a0 []=some v) (h:Hp):Z67 [a0] h=some ((nrmR [.a [none,none,some 10], .o] v),h):=by
 have e:(Zb7 (nrms [.o] [a0]) []).bind (fun (p:AV × Hp)=>cvt false p.2 p.1)=some v:=(ZsF (fun v g=>cvt false g v) a0 []).trans hv
 exact (Z0c (shr:=[.a [none,none,some 10], .o]) ha e h).trans (congrArg (fun x=>some (x,h)) rfl)
noncomputable def Z7T:DTab:=(updD D0 77 (newA Z1k))
theorem ZsH:DSound Try.prog Z7T:=(DSound.newA DSound.zero Zd9)
@[simp] theorem ZsI:Z7T 77=some (newA Z1k):=rfl
noncomputable def Z4t:Tab:=(updF (updF (updF (updF T0 64 Z1L) 75 Z1Y) 76 Z26) 77 Z1k)
theorem ZsJ:TSound Try.prog Z4t:=(TSound.upd (TSound.upd (TSound.upd (TSound.upd TSound.zero ZaP) ZaN) ZcX) Zd9)
@[simp] theorem ZsK:Z4t 64=some Z1L:=rfl
@[simp] theorem ZsL:Z4t 75=some Z1Y:=rfl
@[simp] theorem ZsM:Z4t 76=some Z26:=rfl
@[simp] theorem ZxX:Z4t 77=some Z1k:=rfl
noncomputable def Z7U:Fun:=runF Try.prog Z4t Z7T NN [0,1,2,3,5,6,7,8,9,10,11,12,16,20,25,29,34,39] Try.f44 3
theorem ZsN:CSound Try.prog 44 Z7U:=Z04 ZsJ ZsH mixed Try.func44 (by kernel_rfl) NN
theorem ZsO {β:Type} (K:AV→Hp→Option β) (a0:AV) (a1:AV) (a2:AV) (h:Hp):(Z7U [a0,a1,a2] h).bind (fun p=>K p.1 p.2)=Z97 Try.prog Z4t Z7T NN K a0 a1 a2 h:=by
 rw [← ZlV];exact Z05 rfl
noncomputable def Z3r:Fun:=closedX [.a [none,none,some 10], .o, .o] [.a [none,none,some 10], .o, .o] Z7U
theorem ZhA:CSound Try.prog 44 Z3r:=Z0b _ _ ZsN
noncomputable def Zb8:DFun:=closedXD [.a [none,none,some 10], .o, .o] [.a [none,none,some 10], .o, .o] Z7U
theorem ZsP:Ro Z3r Zb8:=Z3d _ _ _
theorem ZsQ {a0:AV} {a1:AV} {a2:AV} {v:AV} (ha:plains [a0,a1,a2]=true) (hv:Z97 Try.prog Z4t Z7T NN (fun v g=>cvt false g v) (nrm (.a [none,none,some 10]) a0) a1 a2 []=some v) (h:Hp):Z3r [a0,a1,a2] h=some ((nrmR [.a [none,none,some 10], .o, .o] v),h):=by
 have e:(Z7U (nrms [.a [none,none,some 10], .o, .o] [a0,a1,a2]) []).bind (fun (p:AV × Hp)=>cvt false p.2 p.1)=some v:=(ZsO (fun v g=>cvt false g v) (nrm (.a [none,none,some 10]) a0) a1 a2 []).trans hv
 exact (Z0c (shr:=[.a [none,none,some 10], .o, .o]) ha e h).trans (congrArg (fun x=>some (x,h)) rfl)
noncomputable def Zb9:DTab:=D0
theorem ZsR:DSound Try.prog Zb9:=DSound.zero
noncomputable def Zba:Tab:=T0
theorem ZsS:TSound Try.prog Zba:=TSound.zero
noncomputable def Z7V:Fun:=runF Try.prog Zba Zb9 NN [0,2] Try.f45 1
theorem ZsT:CSound Try.prog 45 Z7V:=Z04 ZsS ZsR mixed Try.func45 (by kernel_rfl) NN
theorem ZsU {β:Type} (K:AV→Hp→Option β) (a0:AV) (h:Hp):(Z7V [a0] h).bind (fun p=>K p.1 p.2)=Z98 Try.prog Zba Zb9 NN K a0 h:=by
 rw [← ZlW];exact Z05 rfl
noncomputable def Z68:Fun:=closedX [.o] [.o] Z7V
theorem ZhB:CSound Try.prog 45 Z68:=Z0b _ _ ZsT
noncomputable def Z7W:DFun:=closedXD [.o] [.o] Z7V
theorem ZsV:Ro Z68 Z7W:=Z3d _ _ _
theorem ZsW {a0:AV} {v:AV} (ha:plains [a0]=true) (hv:Z98 Try.prog Zba Zb9 NN (fun v g=>cvt false g v) a0 []=some v) (h:Hp):Z68 [a0] h=some (v,h):=by
 have e:(Z7V (nrms [.o] [a0]) []).bind (fun (p:AV × Hp)=>cvt false p.2 p.1)=some v:=(ZsU (fun v g=>cvt false g v) a0 []).trans hv
 exact (Z0c (shr:=[.o]) ha e h).trans (congrArg (fun x=>some (x,h)) (Z0K 1 v))
noncomputable def Z69:DTab:=D0
theorem ZsX:DSound Try.prog Z69:=DSound.zero
noncomputable def Z6a:Tab:=T0
theorem ZsY:TSound Try.prog Z6a:=TSound.zero
noncomputable def Zbb:Fun:=runF Try.prog Z6a Z69 NN [0,1,4,5,10,12,13,14,24] Try.f46 2
theorem ZsZ:CSound Try.prog 46 Zbb:=Z04 ZsY ZsX mixed Try.func46 (by kernel_rfl) NN
theorem Zt0 {β:Type} (K:AV→Hp→Option β) (a0:AV) (a1:AV) (h:Hp):(Zbb [a0,a1] h).bind (fun p=>K p.1 p.2)=Z5k Try.prog Z6a Z69 NN K a0 a1 h:=by
 rw [← Zm1];exact Z05 rfl
noncomputable def Z6b:Fun:=closedX [.l 2, .l 2] [.o] Zbb
theorem Zt1:CSound Try.prog 46 Z6b:=Z0b _ _ ZsZ
theorem Zt2 {a0:AV} {a1:AV} {v:AV} (ha:plains [a0,a1]=true) (hv:Z5k Try.prog Z6a Z69 NN (fun v g=>cvt false g v) (nrm (.l 2) a0) (nrm (.l 2) a1) []=some v) (h:Hp):Z6b [a0,a1] h=some (v,h):=by
 have e:(Zbb (nrms [.l 2, .l 2] [a0,a1]) []).bind (fun (p:AV × Hp)=>cvt false p.2 p.1)=some v:=(Zt0 (fun v g=>cvt false g v) (nrm (.l 2) a0) (nrm (.l 2) a1) []).trans hv
 exact (Z0c (shr:=[.o]) ha e h).trans (congrArg (fun x=>some (x,h)) (Z0K 1 v))
noncomputable def Z6c:DTab:=(updD (updD D0 44 Zb8) 45 Z7W)
theorem Zt3:DSound Try.prog Z6c:=(DSound.ro (DSound.ro DSound.zero ZsP ZhA) ZsV ZhB)
@[simp] theorem Zt4:Z6c 44=some Zb8:=rfl
@[simp] theorem Zt5:Z6c 45=some Z7W:=rfl
noncomputable def Z1N:Tab:=(updF (updF (updF (updF (updF (updF (updF (updF T0 11 Z5w) 16 Z19) 19 Z7A) 30 Z1Z) 43 Z67) 44 Z3r) 45 Z68) 46 Z6b)
theorem Zt6:TSound Try.prog Z1N:=(TSound.upd (TSound.upd (TSound.upd (TSound.upd (TSound.upd (TSound.upd (TSound.upd (TSound.upd TSound.zero ZoC) Z7z) Zqc) Zde) ZsG) ZhA) ZhB) Zt1)
@[simp] theorem Zt7:Z1N 11=some Z5w:=rfl
@[simp] theorem Zt8:Z1N 16=some Z19:=rfl
@[simp] theorem Zt9:Z1N 19=some Z7A:=rfl
@[simp] theorem Zta:Z1N 30=some Z1Z:=rfl
@[simp] theorem Ztb:Z1N 43=some Z67:=rfl
@[simp] theorem ZxY:Z1N 44=some Z3r:=rfl
@[simp] theorem ZxZ:Z1N 45=some Z68:=rfl
@[simp] theorem Ztc:Z1N 46=some Z6b:=rfl
noncomputable def Zbc:Fun:=runF Try.prog Z1N Z6c NN [0,1,2,4,6,7,8,9,10,11,12,13,14,44] Try.f9 0
theorem Ztd:CSound Try.prog 9 Zbc:=Z04 Zt6 Zt3 mixed Try.func9 (by kernel_rfl) NN
theorem Zte {β:Type} (K:AV→Hp→Option β) (h:Hp):(Zbc [] h).bind (fun p=>K p.1 p.2)=Z8Q Try.prog Z1N Z6c NN K  h:=by
 rw [← Zlw];exact Z05 rfl
noncomputable def Z7X:Fun:=closedX [] [.o] Zbc
theorem Ztf:CSound Try.prog 9 Z7X:=Z0b _ _ Ztd
theorem Ztg {v:AV} (ha:plains []=true) (hv:Z8Q Try.prog Z1N Z6c NN (fun v g=>cvt false g v)  []=some v) (h:Hp):Z7X [] h=some (v,h):=by
 have e:(Zbc (nrms [] []) []).bind (fun (p:AV × Hp)=>cvt false p.2 p.1)=some v:=(Zte (fun v g=>cvt false g v)  []).trans hv
 exact (Z0c (shr:=[.o]) ha e h).trans (congrArg (fun x=>some (x,h)) (Z0K 1 v))
noncomputable def Z6d:DTab:=D0
theorem Zth:DSound Try.prog Z6d:=DSound.zero
noncomputable def Z6e:Tab:=T0
theorem Zti:TSound Try.prog Z6e:=TSound.zero
noncomputable def Z4S:Fun:=runF Try.prog Z6e Z6d NN [0,1,2] Try.f14 1
theorem Ztj:CSound Try.prog 14 Z4S:=Z04 Zti Zth mixed Try.func14 (by kernel_rfl) NN
theorem Zdg {β:Type} (K:AV→Hp→Option β) (a0:AV) (h:Hp):(Z4S [a0] h).bind (fun p=>K p.1 p.2)=Z5i Try.prog Z6e Z6d NN K a0 h:=by
 rw [← Zlz];exact Z05 rfl
theorem Ztk (a0:AV) (h:Hp):Z4S [a0] h=Z5i Try.prog Z6e Z6d NN (fun v h=>some (v,h)) a0 h:=(Z0S _).symm.trans (Zdg (fun v h=>some (v,h)) a0 h)
noncomputable def Z6f:Fun:=closedX [.a [none,some 2,some 7]] [.a [none,some 2,some 7]] Z4S
theorem ZhC:CSound Try.prog 14 Z6f:=Z0b _ _ Ztj
noncomputable def Zdh:DFun:=closedXD [.a [none,some 2,some 7]] [.a [none,some 2,some 7]] Z4S
theorem Ztl:Ro Z6f Zdh:=Z3d _ _ _
theorem Ztm {a0:AV} {v:AV} (ha:plains [a0]=true) (hv:Z5i Try.prog Z6e Z6d NN (fun v g=>cvt false g v) (nrm (.a [none,some 2,some 7]) a0) []=some v) (h:Hp):Z6f [a0] h=some ((nrmR [.a [none,some 2,some 7]] v),h):=by
 have e:(Z4S (nrms [.a [none,some 2,some 7]] [a0]) []).bind (fun (p:AV × Hp)=>cvt false p.2 p.1)=some v:=(Zdg (fun v g=>cvt false g v) (nrm (.a [none,some 2,some 7]) a0) []).trans hv
 exact (Z0c (shr:=[.a [none,some 2,some 7]]) ha e h).trans (congrArg (fun x=>some (x,h)) rfl)
noncomputable def Zbd:DTab:=D0
theorem Ztn:DSound Try.prog Zbd:=DSound.zero
noncomputable def Zbe:Tab:=T0
theorem Zto:TSound Try.prog Zbe:=TSound.zero
noncomputable def Zbf:Fun:=runF Try.prog Zbe Zbd NN [0,1,2] Try.f21 1
theorem Ztp:CSound Try.prog 21 Zbf:=Z04 Zto Ztn mixed Try.func21 (by kernel_rfl) NN
theorem Ztq {β:Type} (K:AV→Hp→Option β) (a0:AV) (h:Hp):(Zbf [a0] h).bind (fun p=>K p.1 p.2)=Z8V Try.prog Zbe Zbd NN K a0 h:=by
 rw [← ZlG];exact Z05 rfl
noncomputable def Z7Y:Fun:=closedX [.a [none,some 2,some 7]] [.o] Zbf
theorem Ztr:CSound Try.prog 21 Z7Y:=Z0b _ _ Ztp
theorem Zts {a0:AV} {v:AV} (ha:plains [a0]=true) (hv:Z8V Try.prog Zbe Zbd NN (fun v g=>cvt false g v) (nrm (.a [none,some 2,some 7]) a0) []=some v) (h:Hp):Z7Y [a0] h=some (v,h):=by
 have e:(Zbf (nrms [.a [none,some 2,some 7]] [a0]) []).bind (fun (p:AV × Hp)=>cvt false p.2 p.1)=some v:=(Ztq (fun v g=>cvt false g v) (nrm (.a [none,some 2,some 7]) a0) []).trans hv
 exact (Z0c (shr:=[.o]) ha e h).trans (congrArg (fun x=>some (x,h)) (Z0K 1 v))
noncomputable def Zbg:DTab:=D0
theorem Ztt:DSound Try.prog Zbg:=DSound.zero
noncomputable def Zbh:Tab:=T0
theorem Ztu:TSound Try.prog Zbh:=TSound.zero
noncomputable def Z7Z:Fun:=runF Try.prog Zbh Zbg NN [0,1,2] Try.f28 1
theorem Ztv:CSound Try.prog 28 Z7Z:=Z04 Ztu Ztt mixed Try.func28 (by kernel_rfl) NN
theorem Ztw {β:Type} (K:AV→Hp→Option β) (a0:AV) (h:Hp):(Z7Z [a0] h).bind (fun p=>K p.1 p.2)=Z8Y Try.prog Zbh Zbg NN K a0 h:=by
 rw [← ZlJ];exact Z05 rfl
noncomputable def Z6g:Fun:=closedX [.a [none,none,some 10]] [.a [none,none,some 10]] Z7Z
theorem ZhD:CSound Try.prog 28 Z6g:=Z0b _ _ Ztv
noncomputable def Zdi:DFun:=closedXD [.a [none,none,some 10]] [.a [none,none,some 10]] Z7Z
theorem Ztx:Ro Z6g Zdi:=Z3d _ _ _
theorem Zty {a0:AV} {v:AV} (ha:plains [a0]=true) (hv:Z8Y Try.prog Zbh Zbg NN (fun v g=>cvt false g v) (nrm (.a [none,none,some 10]) a0) []=some v) (h:Hp):Z6g [a0] h=some ((nrmR [.a [none,none,some 10]] v),h):=by
 have e:(Z7Z (nrms [.a [none,none,some 10]] [a0]) []).bind (fun (p:AV × Hp)=>cvt false p.2 p.1)=some v:=(Ztw (fun v g=>cvt false g v) (nrm (.a [none,none,some 10]) a0) []).trans hv
 exact (Z0c (shr:=[.a [none,none,some 10]]) ha e h).trans (congrArg (fun x=>some (x,h)) rfl)
noncomputable def Z6h:DTab:=D0
theorem Ztz:DSound Try.prog Z6h:=DSound.zero
noncomputable def Z6i:Tab:=T0
theorem ZtA:TSound Try.prog Z6i:=TSound.zero
noncomputable def Zbi:Fun:=runF Try.prog Z6i Z6h NN [0,1,3,4,5,7,8,9,16] Try.f69 2
theorem ZtB:CSound Try.prog 69 Zbi:=Z04 ZtA Ztz mixed Try.func69 (by kernel_rfl) NN
theorem ZtC {β:Type} (K:AV→Hp→Option β) (a0:AV) (a1:AV) (h:Hp):(Zbi [a0,a1] h).bind (fun p=>K p.1 p.2)=Z71 Try.prog Z6i Z6h NN K a0 a1 h:=by
 rw [← ZmJ];exact Z05 rfl
noncomputable def Z80:Fun:=closedX [.l 10, .o] [.o] Zbi
theorem ZtD:CSound Try.prog 69 Z80:=Z0b _ _ ZtB
theorem ZtE {a0:AV} {a1:AV} {v:AV} (ha:plains [a0,a1]=true) (hv:Z71 Try.prog Z6i Z6h NN (fun v g=>cvt false g v) (nrm (.l 10) a0) a1 []=some v) (h:Hp):Z80 [a0,a1] h=some (v,h):=by
 have e:(Zbi (nrms [.l 10, .o] [a0,a1]) []).bind (fun (p:AV × Hp)=>cvt false p.2 p.1)=some v:=(ZtC (fun v g=>cvt false g v) (nrm (.l 10) a0) a1 []).trans hv
 exact (Z0c (shr:=[.o]) ha e h).trans (congrArg (fun x=>some (x,h)) (Z0K 1 v))
noncomputable def Zbj:DTab:=D0
theorem ZtF:DSound Try.prog Zbj:=DSound.zero
noncomputable def Z81:Tab:=(updF T0 69 Z80)
theorem ZtG:TSound Try.prog Z81:=(TSound.upd TSound.zero ZtD)
@[simp] theorem ZtH:Z81 69=some Z80:=rfl
noncomputable def Zbk:Fun:=runF Try.prog Z81 Zbj NN [0,1,3,4] Try.f31 2
theorem ZtI:CSound Try.prog 31 Zbk:=Z04 ZtG ZtF mixed Try.func31 (by kernel_rfl) NN
theorem ZtJ {β:Type} (K:AV→Hp→Option β) (a0:AV) (a1:AV) (h:Hp):(Zbk [a0,a1] h).bind (fun p=>K p.1 p.2)=Z90 Try.prog Z81 Zbj NN K a0 a1 h:=by
 rw [← ZlM];exact Z05 rfl
noncomputable def Z3s:Fun:=closedX [.l 10, .o] [.o] Zbk
theorem ZhE:CSound Try.prog 31 Z3s:=Z0b _ _ ZtI
theorem ZtK {a0:AV} {a1:AV} {v:AV} (ha:plains [a0,a1]=true) (hv:Z90 Try.prog Z81 Zbj NN (fun v g=>cvt false g v) (nrm (.l 10) a0) a1 []=some v) (h:Hp):Z3s [a0,a1] h=some (v,h):=by
 have e:(Zbk (nrms [.l 10, .o] [a0,a1]) []).bind (fun (p:AV × Hp)=>cvt false p.2 p.1)=some v:=(ZtJ (fun v g=>cvt false g v) (nrm (.l 10) a0) a1 []).trans hv
 exact (Z0c (shr:=[.o]) ha e h).trans (congrArg (fun x=>some (x,h)) (Z0K 1 v))
noncomputable def Zbl:DTab:=D0
theorem ZtL:DSound Try.prog Zbl:=DSound.zero
noncomputable def Z82:Tab:=(updF T0 23 Z4q)
theorem ZtM:TSound Try.prog Z82:=(TSound.upd TSound.zero Zha)
@[simp] theorem ZtN:Z82 23=some Z4q:=rfl
noncomputable def Zbm:Fun:=runF Try.prog Z82 Zbl NN [0,1,2,3] Try.f38 2
theorem ZtO:CSound Try.prog 38 Zbm:=Z04 ZtM ZtL mixed Try.func38 (by kernel_rfl) NN
theorem ZtP {β:Type} (K:AV→Hp→Option β) (a0:AV) (a1:AV) (h:Hp):(Zbm [a0,a1] h).bind (fun p=>K p.1 p.2)=Z93 Try.prog Z82 Zbl NN K a0 a1 h:=by
 rw [← ZlP];exact Z05 rfl
noncomputable def Z4T:Fun:=quietT Zbm
theorem ZhF:CSound Try.prog 38 Z4T:=Z14 ZtO
theorem ZtQ {a0:AV} {a1:AV} {h:Hp} {g:List AObj} {v:AV} (hv:Z93 Try.prog Z82 Zbl NN (fun v h=>some (v,h)) a0 a1 h=some (v,h++g)) (hp:plain v=true):Z4T [a0,a1] h=some (v,h):=Z1g (F:=Zbm) (((Z0S _).symm.trans (ZtP (fun v h=>some (v,h)) a0 a1 h)).trans hv) hp
noncomputable def Z83:DTab:=D0
theorem ZtR:DSound Try.prog Z83:=DSound.zero
noncomputable def Z4U:Tab:=(updF T0 38 Z4T)
theorem ZtS:TSound Try.prog Z4U:=(TSound.upd TSound.zero ZhF)
@[simp] theorem ZtT:Z4U 38=some Z4T:=rfl
noncomputable def Zbn:Fun:=runF Try.prog Z4U Z83 NN [0,1,4,5,7,8,9,16] Try.f62 2
theorem ZtU:CSound Try.prog 62 Zbn:=Z04 ZtS ZtR mixed Try.func62 (by kernel_rfl) NN
theorem ZtV {β:Type} (K:AV→Hp→Option β) (a0:AV) (a1:AV) (h:Hp):(Zbn [a0,a1] h).bind (fun p=>K p.1 p.2)=Z25 Try.prog Z4U Z83 NN K a0 a1 h:=by
 rw [← ZfV];exact Z05 rfl
noncomputable def Z84:Fun:=quietT Zbn
theorem ZtW:CSound Try.prog 62 Z84:=Z14 ZtU
theorem ZtX {a0:AV} {a1:AV} {h:Hp} {g:List AObj} {v:AV} (hv:Z25 Try.prog Z4U Z83 NN (fun v h=>some (v,h)) a0 a1 h=some (v,h++g)) (hp:plain v=true):Z84 [a0,a1] h=some (v,h):=Z1g (F:=Zbn) (((Z0S _).symm.trans (ZtV (fun v h=>some (v,h)) a0 a1 h)).trans hv) hp
noncomputable def Zbo:DTab:=D0
theorem ZtY:DSound Try.prog Zbo:=DSound.zero
noncomputable def Z85:Tab:=(updF T0 62 Z84)
theorem ZtZ:TSound Try.prog Z85:=(TSound.upd TSound.zero ZtW)
@[simp] theorem Zu0:Z85 62=some Z84:=rfl
noncomputable def Zbp:Fun:=runF Try.prog Z85 Zbo NN [0,1,4] Try.f24 2
theorem Zu1:CSound Try.prog 24 Zbp:=Z04 ZtZ ZtY mixed Try.func24 (by kernel_rfl) NN
theorem Zu2 {β:Type} (K:AV→Hp→Option β) (a0:AV) (a1:AV) (h:Hp):(Zbp [a0,a1] h).bind (fun p=>K p.1 p.2)=Z4x Try.prog Z85 Zbo NN K a0 a1 h:=by
 rw [← ZfB];exact Z05 rfl
noncomputable def Z86:Fun:=quietT Zbp
theorem Zu3:CSound Try.prog 24 Z86:=Z14 Zu1
theorem Zu4 {a0:AV} {a1:AV} {h:Hp} {g:List AObj} {v:AV} (hv:Z4x Try.prog Z85 Zbo NN (fun v h=>some (v,h)) a0 a1 h=some (v,h++g)) (hp:plain v=true):Z86 [a0,a1] h=some (v,h):=Z1g (F:=Zbp) (((Z0S _).symm.trans (Zu2 (fun v h=>some (v,h)) a0 a1 h)).trans hv) hp
noncomputable def Zbq:DTab:=D0
theorem Zu5:DSound Try.prog Zbq:=DSound.zero
noncomputable def Z87:Tab:=(updF T0 31 Z3s)
theorem Zu6:TSound Try.prog Z87:=(TSound.upd TSound.zero ZhE)
@[simp] theorem Zu7:Z87 31=some Z3s:=rfl
noncomputable def Zbr:Fun:=runF Try.prog Z87 Zbq NN [0,1,2,3] Try.f37 2
theorem Zu8:CSound Try.prog 37 Zbr:=Z04 Zu6 Zu5 mixed Try.func37 (by kernel_rfl) NN
theorem Zu9 {β:Type} (K:AV→Hp→Option β) (a0:AV) (a1:AV) (h:Hp):(Zbr [a0,a1] h).bind (fun p=>K p.1 p.2)=Z92 Try.prog Z87 Zbq NN K a0 a1 h:=by
 rw [← ZlO];exact Z05 rfl
noncomputable def Z4V:Fun:=quietT Zbr
theorem ZhG:CSound Try.prog 37 Z4V:=Z14 Zu8
theorem Zua {a0:AV} {a1:AV} {h:Hp} {g:List AObj} {v:AV} (hv:Z92 Try.prog Z87 Zbq NN (fun v h=>some (v,h)) a0 a1 h=some (v,h++g)) (hp:plain v=true):Z4V [a0,a1] h=some (v,h):=Z1g (F:=Zbr) (((Z0S _).symm.trans (Zu9 (fun v h=>some (v,h)) a0 a1 h)).trans hv) hp
noncomputable def Z88:DTab:=D0
theorem Zub:DSound Try.prog Z88:=DSound.zero
noncomputable def Z4W:Tab:=(updF T0 37 Z4V)
theorem Zuc:TSound Try.prog Z4W:=(TSound.upd TSound.zero ZhG)
@[simp] theorem Zud:Z4W 37=some Z4V:=rfl
noncomputable def Zbs:Fun:=runF Try.prog Z4W Z88 NN [0,1,4,5,7,8,9,16] Try.f70 2
theorem Zue:CSound Try.prog 70 Zbs:=Z04 Zuc Zub mixed Try.func70 (by kernel_rfl) NN
theorem Zuf {β:Type} (K:AV→Hp→Option β) (a0:AV) (a1:AV) (h:Hp):(Zbs [a0,a1] h).bind (fun p=>K p.1 p.2)=Z40 Try.prog Z4W Z88 NN K a0 a1 h:=by
 rw [← Zg5];exact Z05 rfl
noncomputable def Z89:Fun:=quietT Zbs
theorem Zug:CSound Try.prog 70 Z89:=Z14 Zue
theorem Zuh {a0:AV} {a1:AV} {h:Hp} {g:List AObj} {v:AV} (hv:Z40 Try.prog Z4W Z88 NN (fun v h=>some (v,h)) a0 a1 h=some (v,h++g)) (hp:plain v=true):Z89 [a0,a1] h=some (v,h):=Z1g (F:=Zbs) (((Z0S _).symm.trans (Zuf (fun v h=>some (v,h)) a0 a1 h)).trans hv) hp
noncomputable def Zbt:DTab:=D0
theorem Zui:DSound Try.prog Zbt:=DSound.zero
noncomputable def Z8a:Tab:=(updF T0 70 Z89)
theorem Zuj:TSound Try.prog Z8a:=(TSound.upd TSound.zero Zug)
@[simp] theorem Zuk:Z8a 70=some Z89:=rfl
noncomputable def Zbu:Fun:=runF Try.prog Z8a Zbt NN [0,1,4] Try.f32 2
theorem Zul:CSound Try.prog 32 Zbu:=Z04 Zuj Zui mixed Try.func32 (by kernel_rfl) NN
theorem Zum {β:Type} (K:AV→Hp→Option β) (a0:AV) (a1:AV) (h:Hp):(Zbu [a0,a1] h).bind (fun p=>K p.1 p.2)=Z91 Try.prog Z8a Zbt NN K a0 a1 h:=by
 rw [← ZlN];exact Z05 rfl
noncomputable def Z8b:Fun:=quietT Zbu
theorem Zun:CSound Try.prog 32 Z8b:=Z14 Zul
theorem Zuo {a0:AV} {a1:AV} {h:Hp} {g:List AObj} {v:AV} (hv:Z91 Try.prog Z8a Zbt NN (fun v h=>some (v,h)) a0 a1 h=some (v,h++g)) (hp:plain v=true):Z8b [a0,a1] h=some (v,h):=Z1g (F:=Zbu) (((Z0S _).symm.trans (Zum (fun v h=>some (v,h)) a0 a1 h)).trans hv) hp
noncomputable def Z4X:DTab:=D0
theorem Zup:DSound Try.prog Z4X:=DSound.zero
noncomputable def Z4Y:Tab:=T0
theorem Zuq:TSound Try.prog Z4Y:=TSound.zero
noncomputable def Z8c:Fun:=closedXK [.l 7, .o] [.o] (fun {β} (K:AV→Hp→Option β) (args:List AV) (h:Hp)=>if args.length=2 then runK Try.prog Z4Y Z4X NN [0,1,4,5,6,7,8,10,11,13,17,18,19,20,26,33,34,46,55,60,63,74,78,80,84,89,92] Try.f95 K args h else none)
theorem Zur:CSound Try.prog 95 Z8c:=Zo4 _ _ (Zo3 Zuq Zup mixed Try.func95 (by kernel_rfl) NN)
theorem Zus {a0:AV} {a1:AV} {v:AV} (ha:plains [a0,a1]=true) (hv:Z9X Try.prog Z4Y Z4X NN (fun v g=>cvt false g v) (nrm (.l 7) a0) a1 []=some v) (h:Hp):Z8c [a0,a1] h=some (v,h):=
 (Zo5 (RK:=(fun {β} (K:AV→Hp→Option β) (args:List AV) (h:Hp)=>if args.length=2 then runK Try.prog Z4Y Z4X NN [0,1,4,5,6,7,8,10,11,13,17,18,19,20,26,33,34,46,55,60,63,74,78,80,84,89,92] Try.f95 K args h else none)) ha ((if_pos rfl).trans ((ZnS Z4Y Z4X NN (fun v g=>cvt false g v) (nrm (.l 7) a0) a1 []).trans hv)) h).trans (congrArg (fun x=>some (x,h)) (Z0K 1 v))
noncomputable def Z3t:DTab:=D0
theorem Zut:DSound Try.prog Z3t:=DSound.zero
noncomputable def Z20:Tab:=(updF (updF T0 54 Z1X) 95 Z8c)
theorem Zuu:TSound Try.prog Z20:=(TSound.upd (TSound.upd TSound.zero ZcZ) Zur)
@[simp] theorem ZhH:Z20 54=some Z1X:=rfl
@[simp] theorem Zuv:Z20 95=some Z8c:=rfl
noncomputable def Zbv:Fun:=runF Try.prog Z20 Z3t NN [0,2,3,4,5,6,7,8,15,17,18,19,20,36] Try.f72 1
theorem Zuw:CSound Try.prog 72 Zbv:=Z04 Zuu Zut mixed Try.func72 (by kernel_rfl) NN
theorem Zux {β:Type} (K:AV→Hp→Option β) (a0:AV) (h:Hp):(Zbv [a0] h).bind (fun p=>K p.1 p.2)=Z4z Try.prog Z20 Z3t NN K a0 h:=by
 rw [← ZmT];exact Z05 rfl
noncomputable def Z8d:Fun:=closedX [.l 7] [.l 7, .o] Zbv
theorem Zuy:CSound Try.prog 72 Z8d:=Z0b _ _ Zuw
theorem Zuz {a0:AV} {v:AV} (ha:plains [a0]=true) (hv:Z4z Try.prog Z20 Z3t NN (fun v g=>cvt false g v) (nrm (.l 7) a0) []=some v) (h:Hp):Z8d [a0] h=some ((nrmR [.l 7, .o] v),h):=by
 have e:(Zbv (nrms [.l 7] [a0]) []).bind (fun (p:AV × Hp)=>cvt false p.2 p.1)=some v:=(Zux (fun v g=>cvt false g v) (nrm (.l 7) a0) []).trans hv
 exact (Z0c (shr:=[.l 7, .o]) ha e h).trans (congrArg (fun x=>some (x,h)) rfl)
noncomputable def Zbw:DTab:=D0
theorem ZuA:DSound Try.prog Zbw:=DSound.zero
noncomputable def Z6j:Tab:=(updF (updF T0 16 Z19) 72 Z8d)
theorem ZuB:TSound Try.prog Z6j:=(TSound.upd (TSound.upd TSound.zero Z7z) Zuy)
@[simp] theorem ZhI:Z6j 16=some Z19:=rfl
@[simp] theorem ZuC:Z6j 72=some Z8d:=rfl
noncomputable def Zbx:Fun:=runF Try.prog Z6j Zbw NN [0,1,2,3,6] Try.f39 1
theorem ZuD:CSound Try.prog 39 Zbx:=Z04 ZuB ZuA mixed Try.func39 (by kernel_rfl) NN
theorem ZuE {β:Type} (K:AV→Hp→Option β) (a0:AV) (h:Hp):(Zbx [a0] h).bind (fun p=>K p.1 p.2)=Z6P Try.prog Z6j Zbw NN K a0 h:=by
 rw [← ZlQ];exact Z05 rfl
noncomputable def Z8e:Fun:=closedX [.a [none,some 2,some 7]] [.l 7, .o] Zbx
theorem ZuF:CSound Try.prog 39 Z8e:=Z0b _ _ ZuD
theorem ZhJ {a0:AV} {v:AV} (ha:plains [a0]=true) (hv:Z6P Try.prog Z6j Zbw NN (fun v g=>cvt false g v) (nrm (.a [none,some 2,some 7]) a0) []=some v) (h:Hp):Z8e [a0] h=some ((nrmR [.l 7, .o] v),h):=by
 have e:(Zbx (nrms [.a [none,some 2,some 7]] [a0]) []).bind (fun (p:AV × Hp)=>cvt false p.2 p.1)=some v:=(ZuE (fun v g=>cvt false g v) (nrm (.a [none,some 2,some 7]) a0) []).trans hv
 exact (Z0c (shr:=[.l 7, .o]) ha e h).trans (congrArg (fun x=>some (x,h)) rfl)
noncomputable def Zby:DTab:=D0
theorem ZuG:DSound Try.prog Zby:=DSound.zero
noncomputable def Zbz:Tab:=T0
theorem ZuH:TSound Try.prog Zbz:=TSound.zero
noncomputable def ZbA:Fun:=runF Try.prog Zbz Zby NN [0,1,2,3,4,5,11,23,27,34] Try.f74 2
theorem ZuI:CSound Try.prog 74 ZbA:=Z04 ZuH ZuG mixed Try.func74 (by kernel_rfl) NN
theorem ZuJ {β:Type} (K:AV→Hp→Option β) (a0:AV) (a1:AV) (h:Hp):(ZbA [a0,a1] h).bind (fun p=>K p.1 p.2)=Z9z Try.prog Zbz Zby NN K a0 a1 h:=by
 rw [← ZmZ];exact Z05 rfl
noncomputable def Z8f:Fun:=closedX [.o, .o] [.o] ZbA
theorem ZuK:CSound Try.prog 74 Z8f:=Z0b _ _ ZuI
theorem ZuL {a0:AV} {a1:AV} {v:AV} (ha:plains [a0,a1]=true) (hv:Z9z Try.prog Zbz Zby NN (fun v g=>cvt false g v) a0 a1 []=some v) (h:Hp):Z8f [a0,a1] h=some (v,h):=by
 have e:(ZbA (nrms [.o, .o] [a0,a1]) []).bind (fun (p:AV × Hp)=>cvt false p.2 p.1)=some v:=(ZuJ (fun v g=>cvt false g v) a0 a1 []).trans hv
 exact (Z0c (shr:=[.o]) ha e h).trans (congrArg (fun x=>some (x,h)) (Z0K 1 v))
noncomputable def ZbB:DTab:=D0
theorem ZuM:DSound Try.prog ZbB:=DSound.zero
noncomputable def Z8g:Tab:=(updF T0 74 Z8f)
theorem ZuN:TSound Try.prog Z8g:=(TSound.upd TSound.zero ZuK)
@[simp] theorem ZuO:Z8g 74=some Z8f:=rfl
noncomputable def ZbC:Fun:=runF Try.prog Z8g ZbB NN [0,1,2,3,4,5,11] Try.f42 2
theorem ZuP:CSound Try.prog 42 ZbC:=Z04 ZuN ZuM mixed Try.func42 (by kernel_rfl) NN
theorem ZuQ {β:Type} (K:AV→Hp→Option β) (a0:AV) (a1:AV) (h:Hp):(ZbC [a0,a1] h).bind (fun p=>K p.1 p.2)=Z96 Try.prog Z8g ZbB NN K a0 a1 h:=by
 rw [← ZlT];exact Z05 rfl
noncomputable def Z8h:Fun:=closedX [.o, .o] [.o] ZbC
theorem ZuR:CSound Try.prog 42 Z8h:=Z0b _ _ ZuP
theorem ZuS {a0:AV} {a1:AV} {v:AV} (ha:plains [a0,a1]=true) (hv:Z96 Try.prog Z8g ZbB NN (fun v g=>cvt false g v) a0 a1 []=some v) (h:Hp):Z8h [a0,a1] h=some (v,h):=by
 have e:(ZbC (nrms [.o, .o] [a0,a1]) []).bind (fun (p:AV × Hp)=>cvt false p.2 p.1)=some v:=(ZuQ (fun v g=>cvt false g v) a0 a1 []).trans hv
 exact (Z0c (shr:=[.o]) ha e h).trans (congrArg (fun x=>some (x,h)) (Z0K 1 v))
noncomputable def ZbD:DTab:=D0
theorem ZuT:DSound Try.prog ZbD:=DSound.zero
noncomputable def Z8i:Tab:=(updF T0 42 Z8h)
theorem ZuU:TSound Try.prog Z8i:=(TSound.upd TSound.zero ZuR)
@[simp] theorem ZuV:Z8i 42=some Z8h:=rfl
noncomputable def ZbE:Fun:=runF Try.prog Z8i ZbD NN [0,1,2,3] Try.f41 2
theorem ZuW:CSound Try.prog 41 ZbE:=Z04 ZuU ZuT mixed Try.func41 (by kernel_rfl) NN
theorem ZuX {β:Type} (K:AV→Hp→Option β) (a0:AV) (a1:AV) (h:Hp):(ZbE [a0,a1] h).bind (fun p=>K p.1 p.2)=Z95 Try.prog Z8i ZbD NN K a0 a1 h:=by
 rw [← ZlS];exact Z05 rfl
noncomputable def Z4Z:Fun:=quietT ZbE
theorem ZhK:CSound Try.prog 41 Z4Z:=Z14 ZuW
theorem ZuY {a0:AV} {a1:AV} {h:Hp} {g:List AObj} {v:AV} (hv:Z95 Try.prog Z8i ZbD NN (fun v h=>some (v,h)) a0 a1 h=some (v,h++g)) (hp:plain v=true):Z4Z [a0,a1] h=some (v,h):=Z1g (F:=ZbE) (((Z0S _).symm.trans (ZuX (fun v h=>some (v,h)) a0 a1 h)).trans hv) hp
noncomputable def Z8j:DTab:=D0
theorem ZuZ:DSound Try.prog Z8j:=DSound.zero
noncomputable def Z50:Tab:=(updF T0 41 Z4Z)
theorem Zv0:TSound Try.prog Z50:=(TSound.upd TSound.zero ZhK)
@[simp] theorem Zv1:Z50 41=some Z4Z:=rfl
noncomputable def ZbF:Fun:=runF Try.prog Z50 Z8j NN [0,1,4,5,7,8,9,16] Try.f73 2
theorem Zv2:CSound Try.prog 73 ZbF:=Z04 Zv0 ZuZ mixed Try.func73 (by kernel_rfl) NN
theorem Zv3 {β:Type} (K:AV→Hp→Option β) (a0:AV) (a1:AV) (h:Hp):(ZbF [a0,a1] h).bind (fun p=>K p.1 p.2)=Z5p Try.prog Z50 Z8j NN K a0 a1 h:=by
 rw [← ZmY];exact Z05 rfl
noncomputable def Z8k:Fun:=quietT ZbF
theorem Zv4:CSound Try.prog 73 Z8k:=Z14 Zv2
theorem Zv5 {a0:AV} {a1:AV} {h:Hp} {g:List AObj} {v:AV} (hv:Z5p Try.prog Z50 Z8j NN (fun v h=>some (v,h)) a0 a1 h=some (v,h++g)) (hp:plain v=true):Z8k [a0,a1] h=some (v,h):=Z1g (F:=ZbF) (((Z0S _).symm.trans (Zv3 (fun v h=>some (v,h)) a0 a1 h)).trans hv) hp
noncomputable def ZbG:DTab:=D0
theorem Zv6:DSound Try.prog ZbG:=DSound.zero
noncomputable def Z8l:Tab:=(updF T0 73 Z8k)
theorem Zv7:TSound Try.prog Z8l:=(TSound.upd TSound.zero Zv4)
@[simp] theorem Zv8:Z8l 73=some Z8k:=rfl
noncomputable def ZbH:Fun:=runF Try.prog Z8l ZbG NN [0,1,4] Try.f40 2
theorem Zv9:CSound Try.prog 40 ZbH:=Z04 Zv7 Zv6 mixed Try.func40 (by kernel_rfl) NN
theorem Zva {β:Type} (K:AV→Hp→Option β) (a0:AV) (a1:AV) (h:Hp):(ZbH [a0,a1] h).bind (fun p=>K p.1 p.2)=Z94 Try.prog Z8l ZbG NN K a0 a1 h:=by
 rw [← ZlR];exact Z05 rfl
noncomputable def Z8m:Fun:=quietT ZbH
theorem Zvb:CSound Try.prog 40 Z8m:=Z14 Zv9
theorem Zvc {a0:AV} {a1:AV} {h:Hp} {g:List AObj} {v:AV} (hv:Z94 Try.prog Z8l ZbG NN (fun v h=>some (v,h)) a0 a1 h=some (v,h++g)) (hp:plain v=true):Z8m [a0,a1] h=some (v,h):=Z1g (F:=ZbH) (((Z0S _).symm.trans (Zva (fun v h=>some (v,h)) a0 a1 h)).trans hv) hp
noncomputable def Z0Y:DTab:=(updD (updD (updD D0 14 Zdh) 28 Zdi) 30 Zdf)
theorem Zvd:DSound Try.prog Z0Y:=(DSound.ro (DSound.ro (DSound.ro DSound.zero Ztl ZhC) Ztx ZhD) ZsA Zde)
@[simp] theorem Zy0:Z0Y 14=some Zdh:=rfl
@[simp] theorem Zy1:Z0Y 28=some Zdi:=rfl
@[simp] theorem Zy2:Z0Y 30=some Zdf:=rfl
noncomputable def Z0N:Tab:=(updF (updF (updF (updF (updF (updF (updF (updF (updF (updF (updF (updF (updF (updF T0 9 Z7X) 14 Z6f) 21 Z7Y) 22 Z4p) 24 Z86) 28 Z6g) 30 Z1Z) 31 Z3s) 32 Z8b) 37 Z4V) 38 Z4T) 39 Z8e) 40 Z8m) 41 Z4Z)
theorem Zve:TSound Try.prog Z0N:=(TSound.upd (TSound.upd (TSound.upd (TSound.upd (TSound.upd (TSound.upd (TSound.upd (TSound.upd (TSound.upd (TSound.upd (TSound.upd (TSound.upd (TSound.upd (TSound.upd TSound.zero Ztf) ZhC) Ztr) Zh9) Zu3) ZhD) Zde) ZhE) Zun) ZhG) ZhF) ZuF) Zvb) ZhK)
@[simp] theorem Zvf:Z0N 9=some Z7X:=rfl
@[simp] theorem Zvg:Z0N 14=some Z6f:=rfl
@[simp] theorem Zvh:Z0N 21=some Z7Y:=rfl
@[simp] theorem Zvi:Z0N 22=some Z4p:=rfl
@[simp] theorem Zvj:Z0N 24=some Z86:=rfl
@[simp] theorem Zy3:Z0N 28=some Z6g:=rfl
@[simp] theorem Zy4:Z0N 30=some Z1Z:=rfl
@[simp] theorem ZhL:Z0N 31=some Z3s:=rfl
@[simp] theorem Zvk:Z0N 32=some Z8b:=rfl
@[simp] theorem Zy5:Z0N 37=some Z4V:=rfl
@[simp] theorem Zy6:Z0N 38=some Z4T:=rfl
@[simp] theorem Zvl:Z0N 39=some Z8e:=rfl
@[simp] theorem Zvm:Z0N 40=some Z8m:=rfl
@[simp] theorem Zy7:Z0N 41=some Z4Z:=rfl
noncomputable def ZbI:Fun:=runF Try.prog Z0N Z0Y NN [0,1,2,3,4,5,6,7,8,9,11,12,13,14,15,17,19,28,43,74,76,77,78,79,104,109,127,128,129,130,131,137] Try.f8 3
theorem Zvn:CSound Try.prog 8 ZbI:=Z04 Zve Zvd mixed Try.func8 (by kernel_rfl) NN
theorem Zvo {β:Type} (K:AV→Hp→Option β) (a0:AV) (a1:AV) (a2:AV) (h:Hp):(ZbI [a0,a1,a2] h).bind (fun p=>K p.1 p.2)=Z6L Try.prog Z0N Z0Y NN K a0 a1 a2 h:=by
 rw [← Zlv];exact Z05 rfl
noncomputable def Zdj:Fun:=closedX [.a [none,none,some 10], .a [none,some 2,some 7], .o] [.o] ZbI
theorem F_law43_ReceiverKeeps_ok:CSound Try.prog 8 Zdj:=Z0b _ _ Zvn
theorem Zvp {a0:AV} {a1:AV} {a2:AV} {v:AV} (ha:plains [a0,a1,a2]=true) (hv:Z6L Try.prog Z0N Z0Y NN (fun v g=>cvt false g v) (nrm (.a [none,none,some 10]) a0) (nrm (.a [none,some 2,some 7]) a1) a2 []=some v) (h:Hp):Zdj [a0,a1,a2] h=some (v,h):=by
 have e:(ZbI (nrms [.a [none,none,some 10], .a [none,some 2,some 7], .o] [a0,a1,a2]) []).bind (fun (p:AV × Hp)=>cvt false p.2 p.1)=some v:=(Zvo (fun v g=>cvt false g v) (nrm (.a [none,none,some 10]) a0) (nrm (.a [none,some 2,some 7]) a1) a2 []).trans hv
 exact (Z0c (shr:=[.o]) ha e h).trans (congrArg (fun x=>some (x,h)) (Z0K 1 v))
end Go.AM


namespace Go.AM
set_option linter.unusedVariables false
set_option linter.unusedSimpArgs false
set_option linter.constructorNameAsVariable false
set_option maxRecDepth 30000
variable {β:Type} {P:Program} {kt:TypeId} {kk:IntKind}
end Go.AM


namespace Go.AM
set_option linter.unusedVariables false
def idOf:AV→Option Nat
 | .sl _ id .. => some id
 | _=>none
@[simp] theorem Zy8 (sz id off len fr:Nat) (full:Bool):idOf (.sl sz id off len fr full)=some id:=rfl
@[simp] theorem Zy9:idOf nilS=none:=rfl
def Gro {α:Type} (sz:Nat) (f:α→List AV) (h:Hp) (v:AV) (l:List α):Prop:=(l=[]∧v=nilS)∨(l≠[]∧∃k,v = .sl sz k 0 l.length l.length false∧h[k]? = some (.arr sz (l.map f) true false))
section
variable {α β:Type} {sz:Nat} {f:α→List AV} {h h':Hp} {v:AV} {l:List α}
theorem Gro.nil:Gro sz f h nilS [] := .inl ⟨rfl,rfl⟩
theorem Gro.keep (O:Gro sz f h v l) (hk:∀k o,idOf v=some k→h[k]? = some o→h'[k]? = some o):Gro sz f h' v l:=by
 rcases O with O | ⟨h1,k,rfl,h2⟩
 ·exact .inl O
 ·exact .inr ⟨h1,k,rfl,hk k _ rfl h2⟩
theorem Gro.app (O:Gro sz f h v l) (x:List AObj):Gro sz f (h++x) v l:=O.keep fun k o _ hk=>Z09 hk
theorem Gro.lt (O:Gro sz f h v l) {k:Nat} (hk:idOf v=some k):k<h.length:=by
 rcases O with ⟨_,rfl⟩ | ⟨h1,j,rfl,h2⟩
 ·simp at hk
 ·simp at hk;subst hk;exact (List.getElem?_eq_some_iff.1 h2).1
theorem Gro.len (O:Gro sz f h v l) (k:K β):lenK v k=k (I l.length):=by
 rcases O with ⟨rfl,rfl⟩ | ⟨h1,j,rfl,h2⟩<;>simp
theorem Gro.cvts (O:Gro sz f h v l) (hf:∀x st,(f x).all (fun c=>bif st then isS c else plain c)=true):∃w,(∀st,Go.AM.cvt st h v=some w)∧nrm (.l sz) w = .lst sz l.isEmpty (l.map f):=by
 rcases O with ⟨rfl,rfl⟩ | ⟨h1,k,rfl,h2⟩
 ·exact ⟨nilS,fun st=>rfl,rfl⟩
 ·have he:l.isEmpty=false:=by simpa using h1
  refine ⟨.lst sz false (l.map f),fun st=>Z0X h2 (by simp) (by simp) (Z0U fun x=>hf x st), ?_⟩
  rw [he];rfl
theorem Gro.snoc (β:Type) (O:Gro sz f h v l) {by_ m:Nat} {z:α} {b:Bool} (hm:h[m]? = some (.arr sz [f z] true false)) (hv:idOf v≠some m) (hf:∀x ∈ z::l,(f x).length=sz) (hl:(l.length+1) * by_≤140737488355328):
  ∃v' h',(∀k:AV→Hp→Option β,effK (appE sz by_ v (.sl sz m 0 1 1 b) h h.length) h k=k v' h')∧Gro sz f h' v' (l++[z])∧h.length≤h'.length∧(∀j o,h[j]? = some o→idOf v≠some j→h'[j]? = some o)∧(idOf v'=idOf v∨idOf v'=some h.length):=by
 have hz:(f z).length=sz:=hf z (by simp)
 rcases O with ⟨rfl,rfl⟩ | ⟨h1,k,rfl,h2⟩
 ·have hb:by_≤140737488355328:=by simpa using hl
  refine ⟨.sl sz h.length 0 1 1 false,h++[.arr sz [f z] true false],fun k => ?_, .inr ⟨by simp,h.length,rfl,by simp⟩,by simp,fun j o hj _=>Z09 hj, .inr rfl⟩
  simp [appE,readSl,hm,hz,hb,effK,ap]
 ·have hkl:=(List.getElem?_eq_some_iff.1 h2).1
  refine ⟨.sl sz k 0 (l++[z]).length (l++[z]).length false,h.set k (.arr sz ((l++[z]).map f) true false),fun k' => ?_, .inr ⟨by simp,k,rfl,by simp [hkl]⟩,by simp,fun j o hj hn => ?_, .inl rfl⟩
  ·simp [appE,readSl,hm,h2,hz,hl,effK,ap]
  ·have hkj:k≠j:=by rintro rfl;exact hn rfl
   rw [List.getElem?_set_ne hkj];exact hj
end
theorem Zvq {shp shr:List Sh} {F:Fun} {h:Hp} {args as' asl:List AV} {v:AV} {h0:Hp} (ha:cvts false h args=some as') (hn:nrms shp as'=nrms shp asl) (hp:plains asl=true) (hF:closedX shp shr F asl h0=some (v,h0)) (hs:scal v=true):closedX shp shr F args h=some (v,h):=by
 unfold closedX at hF ⊢
 rw [Z21 hp] at hF
 rw [ha]
 dsimp only at hF ⊢
 rw [hn]
 split at hF<;>try (simp at hF;done)
 rename_i w g hR
 split at hF<;>try (simp at hF;done)
 rename_i w' hw
 simp only [Option.some.injEq,Prod.mk.injEq] at hF
 obtain ⟨rfl, -⟩:=hF
 rw [hp,Bool.not_true] at hw
 have hw2:∀st,cvt st g w=some w':=fun st=>by
  cases st with
  | false=>exact hw
  | true=>exact Zfg hw (ZkL hs)
 rw [hw2]
theorem Gro.snocE {α:Type} {sz:Nat} {f:α→List AV} {h:Hp} {v:AV} {l:List α} (O:Gro sz f h v l) {by_ m:Nat} {z:α} {b:Bool} (hm:h[m]? = some (.arr sz [f z] true false)) (hv:idOf v≠some m) (hf:∀x ∈ z::l,(f x).length=sz) (hl:(l.length+1) * by_≤140737488355328):
  ∃v' e,appE sz by_ v (.sl sz m 0 1 1 b) h h.length=some (v',e)∧Gro sz f (ap h e) v' (l++[z])∧h.length≤(ap h e).length∧(∀j o,h[j]? = some o→idOf v≠some j→(ap h e)[j]? = some o)∧(idOf v'=idOf v∨idOf v'=some h.length):=by
 have hz:(f z).length=sz:=hf z (by simp)
 rcases O with ⟨rfl,rfl⟩ | ⟨h1,k,rfl,h2⟩
 ·have hb:by_≤140737488355328:=by simpa using hl
  refine ⟨.sl sz h.length 0 1 1 false,⟨[],[.arr sz [f z] true false],[m]⟩,by simp [appE,readSl,hm,hz,hb,idsOf], .inr ⟨by simp,h.length,rfl,by simp [ap]⟩,by simp [ap],fun j o hj _=>by simpa [ap] using Z09 hj, .inr rfl⟩
 ·have hkl:=(List.getElem?_eq_some_iff.1 h2).1
  refine ⟨.sl sz k 0 (l++[z]).length (l++[z]).length false,⟨[(k, .arr sz ((l++[z]).map f) true false)],[],[k,m]⟩,by simp [appE,readSl,hm,h2,hz,hl,idsOf], .inr ⟨by simp,k,rfl,by simp [ap,hkl]⟩,by simp [ap],fun j o hj hn => ?_, .inl rfl⟩
  have hkj:k≠j:=by rintro rfl;exact hn rfl
  simp only [ap,List.foldl_cons,List.foldl_nil,List.append_nil]
  rw [List.getElem?_set_ne hkj];exact hj
end Go.AM


namespace Go.AM
set_option linter.unusedVariables false
variable {α β:Type} {sz:Nat} {enc:α→List AV} {h:Hp}
structure Part (enc:α→List AV) (h:Hp) (p:AV × List α):Prop where
 read:readSl h p.1=some (p.2.map enc)
 len:lenK p.1 some=some (I p.2.length)
theorem Part.lenK {p:AV × List α} (q:Part enc h p) (k:K β):Go.AM.lenK p.1 k=k (I p.2.length):=by rw [ZdQ,q.len];rfl
theorem Part.app {p:AV × List α} (q:Part enc h p) (g:List AObj):Part enc (h++g) p:=⟨Zc9 q.read fun id _ o ho=>Z09 ho,q.len⟩
theorem Part.nil:Part enc h (nilS,[]):=⟨rfl,rfl⟩
theorem Part.lst (sz:Nat) (b:Bool) (l:List α):Part enc h (.lst sz b (l.map enc),l):=⟨rfl,by simp⟩
theorem Part.sl {sz id n:Nat} {b nl:Bool} {l:List α} (hid:h[id]? = some (.arr sz (l.map enc) true nl)) (hn:l.length=n):Part enc h (.sl sz id 0 n n b,l):=by
 subst hn
 have ht:(l.map enc).take l.length=l.map enc:=List.take_of_length_le (by simp)
 exact ⟨by simp [readSl,hid,ht],by simp⟩
def flat (ps:List (AV × List α)):List α:=ps.flatMap (·.2)
end Go.AM
namespace Go.AM
def notBehind {α:Type} (bef:α→α→Bool):Option α→α→Bool
 | some q,p => !bef q p
 | none,_=>false
@[simp] theorem Zya {α:Type} (bef:α→α→Bool) (q p:α):notBehind bef (some q) p = !bef q p:=rfl
@[simp] theorem Zyb {α:Type} (bef:α→α→Bool) (p:α):notBehind bef none p=false:=rfl
end Go.AM


namespace Go.AM
set_option linter.unusedVariables false
set_option linter.unusedSimpArgs false
section
variable {β:Type}
def Grm {α:Type} (sz:Nat) (f:α→List AV) (h:Hp) (v:AV) (l:List α):Prop:=∃k b,v = .sl sz k 0 l.length l.length b∧h[k]? = some (.arr sz (l.map f) true false)∧(b=true→l=[])
theorem Grm.keep {α:Type} {sz:Nat} {f:α→List AV} {h h':Hp} {v:AV} {l:List α} (O:Grm sz f h v l) (hk:∀k o,idOf v=some k→h[k]? = some o→h'[k]? = some o):Grm sz f h' v l:=by
 obtain ⟨k,b,rfl,h2,h3⟩:=O
 exact ⟨k,b,rfl,hk k _ rfl h2,h3⟩
theorem Grm.app {α:Type} {sz:Nat} {f:α→List AV} {h:Hp} {v:AV} {l:List α} (O:Grm sz f h v l) (x:List AObj):Grm sz f (h++x) v l:=O.keep fun k o _ hk=>Z09 hk
theorem Grm.lt {α:Type} {sz:Nat} {f:α→List AV} {h:Hp} {v:AV} {l:List α} (O:Grm sz f h v l):∃k,idOf v=some k∧k<h.length:=by
 obtain ⟨k,b,rfl,h2,h3⟩:=O
 exact ⟨k,rfl,(List.getElem?_eq_some_iff.1 h2).1⟩
theorem Grm.snocE {α:Type} {sz:Nat} {f:α→List AV} {h:Hp} {v:AV} {l:List α} (O:Grm sz f h v l) {by_ m:Nat} {z:α} {b:Bool} (hm:h[m]? = some (.arr sz [f z] true false)) (hv:idOf v≠some m) (hf:∀x ∈ z::l,(f x).length=sz) (hl:(l.length+1) * by_≤140737488355328):
  ∃v' e,appE sz by_ v (.sl sz m 0 1 1 b) h h.length=some (v',e)∧Grm sz f (ap h e) v' (l++[z])∧h.length≤(ap h e).length∧(∀j o,h[j]? = some o→idOf v≠some j→(ap h e)[j]? = some o)∧(idOf v'=idOf v∨idOf v'=some h.length)∧(∀i ∈ e.foot,some i=idOf v∨i=m)∧(∀q ∈ e.puts,some q.1=idOf v):=by
 have hz:(f z).length=sz:=hf z (by simp)
 obtain ⟨k,bb,rfl,h2,h3⟩:=O
 have hkl:=(List.getElem?_eq_some_iff.1 h2).1
 cases bb with
 | true=>
  have:=h3 rfl
  subst this
  have hb:by_≤140737488355328:=by simpa using hl
  refine ⟨.sl sz h.length 0 1 1 false,⟨[],[.arr sz [f z] true false],[k,m]⟩,by simp [appE,readSl,hm,hz,hb,idsOf,h2],⟨h.length,false,rfl,by simp [ap],by simp⟩,by simp [ap],fun j o hj _=>by simpa [ap] using Z09 hj, .inr rfl,fun i hi=>by simp at hi;rcases hi with rfl | rfl<;>simp,by simp⟩
 | false=>
  refine ⟨.sl sz k 0 (l++[z]).length (l++[z]).length false,⟨[(k, .arr sz ((l++[z]).map f) true false)],[],[k,m]⟩,by simp [appE,readSl,hm,h2,hz,hl,idsOf],⟨k,false,rfl,by simp [ap,hkl],by simp⟩,by simp [ap],fun j o hj hn => ?_, .inl rfl,fun i hi=>by simp at hi;rcases hi with rfl | rfl<;>simp,fun q hq=>by simp at hq;subst hq;rfl⟩
  have hkj:k≠j:=by rintro rfl;exact hn rfl
  simp only [ap,List.foldl_cons,List.foldl_nil,List.append_nil]
  rw [List.getElem?_set_ne hkj];exact hj
theorem Grm.cvt {α:Type} {sz:Nat} {f:α→List AV} {h:Hp} {v:AV} {l:List α} (O:Grm sz f h v l) (hf:∀x st,(f x).all (fun c=>bif st then isS c else plain c)=true) (st:Bool):Go.AM.cvt st h v=some (.lst sz false (l.map f)):=by
 obtain ⟨k,b,rfl,h2,h3⟩:=O
 exact Z0X h2 (by simp) (by simp) (Z0U fun x=>hf x st)
theorem Grm.len {α:Type} {sz:Nat} {f:α→List AV} {h:Hp} {v:AV} {l:List α} (O:Grm sz f h v l) (k:Go.AM.K β):lenK v k=k (I l.length):=by
 obtain ⟨j,b,rfl,h2,h3⟩:=O
 simp
end
end Go.AM


namespace Go.AM
structure Msg where
 mv:Int
 kind:Int
 num:Int
 day:Int
 frm:Int
 to:Int
 alc:Int
deriving DecidableEq
def encM (m:Msg):List AV:=[I m.mv,I m.kind,I m.num,I m.day,I m.frm,I m.to,I m.alc]
structure Docu where
 mv:Int
 stage:Int
 frm:Int
 to:Int
 sent:Int
 got:Int
 chg:Int
deriving DecidableEq
def encDo (d:Docu):List AV:=[I d.mv,I d.stage,I d.frm,I d.to,I d.sent,I d.got,I d.chg]
section
variable {β:Type}
theorem Z0H {r:R} {v:AV} {id:Nat} {o:AObj} {ft:List Nat} {h:Hp} (hr:r=some (v,⟨[(id,o)],[],ft⟩)) (k:AV→Hp→Option β):effK r h k=k v (h.set id o):=by subst hr;simp [effK,ap]
theorem Z0a {r:R} {v:AV} {id:Nat} {o:AObj} {ft:List Nat} {h:Hp} (hr:r=some (v,⟨[(id,o)],[],ft⟩)) (k:AV→Hp→Ent→Option β):effD r h k=k v (h.set id o) (ft,[id]):=by subst hr;simp [effD,ap,wrOf]
theorem Z28 {a b c d e f g:AV} {t:Hp} {w n:Bool} (k:K β):ldK 1 false (.ptr 0 0 0 1) (.arr 7 [[a,b,c,d,e,f,g]] w n::t) k=k a:=rfl
theorem Z29 {a b c d e f g:AV} {x:Int} {t:Hp} {n:Bool} (k:AV→Hp→Option β):effK (stE 1 (.ptr 0 0 0 1) (.s (.int .i64 x)) (.arr 7 [[a,b,c,d,e,f,g]] true n::t)) (.arr 7 [[a,b,c,d,e,f,g]] true n::t) k=k .u (.arr 7 [[(.s (.int .i64 x)),b,c,d,e,f,g]] true n::t):=Z0H rfl k
theorem Z2a {a b c d e f g:AV} {x:Int} {t:Hp} {n:Bool} (k:AV→Hp→Ent→Option β):effD (stE 1 (.ptr 0 0 0 1) (.s (.int .i64 x)) (.arr 7 [[a,b,c,d,e,f,g]] true n::t)) (.arr 7 [[a,b,c,d,e,f,g]] true n::t) k=k .u (.arr 7 [[(.s (.int .i64 x)),b,c,d,e,f,g]] true n::t) ([0],[0]):=Z0a rfl k
theorem Z2b {a b c d e f g:AV} {t:Hp} {w n:Bool} (k:K β):ldK 1 false (.ptr 0 0 1 1) (.arr 7 [[a,b,c,d,e,f,g]] w n::t) k=k b:=rfl
theorem Z2c {a b c d e f g:AV} {x:Int} {t:Hp} {n:Bool} (k:AV→Hp→Option β):effK (stE 1 (.ptr 0 0 1 1) (.s (.int .i64 x)) (.arr 7 [[a,b,c,d,e,f,g]] true n::t)) (.arr 7 [[a,b,c,d,e,f,g]] true n::t) k=k .u (.arr 7 [[a,(.s (.int .i64 x)),c,d,e,f,g]] true n::t):=Z0H rfl k
theorem Z2d {a b c d e f g:AV} {x:Int} {t:Hp} {n:Bool} (k:AV→Hp→Ent→Option β):effD (stE 1 (.ptr 0 0 1 1) (.s (.int .i64 x)) (.arr 7 [[a,b,c,d,e,f,g]] true n::t)) (.arr 7 [[a,b,c,d,e,f,g]] true n::t) k=k .u (.arr 7 [[a,(.s (.int .i64 x)),c,d,e,f,g]] true n::t) ([0],[0]):=Z0a rfl k
theorem Z2e {a b c d e f g:AV} {t:Hp} {w n:Bool} (k:K β):ldK 1 false (.ptr 0 0 2 1) (.arr 7 [[a,b,c,d,e,f,g]] w n::t) k=k c:=rfl
theorem Z2f {a b c d e f g:AV} {x:Int} {t:Hp} {n:Bool} (k:AV→Hp→Option β):effK (stE 1 (.ptr 0 0 2 1) (.s (.int .i64 x)) (.arr 7 [[a,b,c,d,e,f,g]] true n::t)) (.arr 7 [[a,b,c,d,e,f,g]] true n::t) k=k .u (.arr 7 [[a,b,(.s (.int .i64 x)),d,e,f,g]] true n::t):=Z0H rfl k
theorem Z2g {a b c d e f g:AV} {x:Int} {t:Hp} {n:Bool} (k:AV→Hp→Ent→Option β):effD (stE 1 (.ptr 0 0 2 1) (.s (.int .i64 x)) (.arr 7 [[a,b,c,d,e,f,g]] true n::t)) (.arr 7 [[a,b,c,d,e,f,g]] true n::t) k=k .u (.arr 7 [[a,b,(.s (.int .i64 x)),d,e,f,g]] true n::t) ([0],[0]):=Z0a rfl k
theorem Z2h {a b c d e f g:AV} {t:Hp} {w n:Bool} (k:K β):ldK 1 false (.ptr 0 0 3 1) (.arr 7 [[a,b,c,d,e,f,g]] w n::t) k=k d:=rfl
theorem Z2i {a b c d e f g:AV} {x:Int} {t:Hp} {n:Bool} (k:AV→Hp→Option β):effK (stE 1 (.ptr 0 0 3 1) (.s (.int .i64 x)) (.arr 7 [[a,b,c,d,e,f,g]] true n::t)) (.arr 7 [[a,b,c,d,e,f,g]] true n::t) k=k .u (.arr 7 [[a,b,c,(.s (.int .i64 x)),e,f,g]] true n::t):=Z0H rfl k
theorem Z2j {a b c d e f g:AV} {x:Int} {t:Hp} {n:Bool} (k:AV→Hp→Ent→Option β):effD (stE 1 (.ptr 0 0 3 1) (.s (.int .i64 x)) (.arr 7 [[a,b,c,d,e,f,g]] true n::t)) (.arr 7 [[a,b,c,d,e,f,g]] true n::t) k=k .u (.arr 7 [[a,b,c,(.s (.int .i64 x)),e,f,g]] true n::t) ([0],[0]):=Z0a rfl k
theorem Z2k {a b c d e f g:AV} {t:Hp} {w n:Bool} (k:K β):ldK 1 false (.ptr 0 0 4 1) (.arr 7 [[a,b,c,d,e,f,g]] w n::t) k=k e:=rfl
theorem Z2l {a b c d e f g:AV} {x:Int} {t:Hp} {n:Bool} (k:AV→Hp→Option β):effK (stE 1 (.ptr 0 0 4 1) (.s (.int .i64 x)) (.arr 7 [[a,b,c,d,e,f,g]] true n::t)) (.arr 7 [[a,b,c,d,e,f,g]] true n::t) k=k .u (.arr 7 [[a,b,c,d,(.s (.int .i64 x)),f,g]] true n::t):=Z0H rfl k
theorem Z2m {a b c d e f g:AV} {x:Int} {t:Hp} {n:Bool} (k:AV→Hp→Ent→Option β):effD (stE 1 (.ptr 0 0 4 1) (.s (.int .i64 x)) (.arr 7 [[a,b,c,d,e,f,g]] true n::t)) (.arr 7 [[a,b,c,d,e,f,g]] true n::t) k=k .u (.arr 7 [[a,b,c,d,(.s (.int .i64 x)),f,g]] true n::t) ([0],[0]):=Z0a rfl k
theorem Z2n {a b c d e f g:AV} {t:Hp} {w n:Bool} (k:K β):ldK 1 false (.ptr 0 0 5 1) (.arr 7 [[a,b,c,d,e,f,g]] w n::t) k=k f:=rfl
theorem Z2o {a b c d e f g:AV} {x:Int} {t:Hp} {n:Bool} (k:AV→Hp→Option β):effK (stE 1 (.ptr 0 0 5 1) (.s (.int .i64 x)) (.arr 7 [[a,b,c,d,e,f,g]] true n::t)) (.arr 7 [[a,b,c,d,e,f,g]] true n::t) k=k .u (.arr 7 [[a,b,c,d,e,(.s (.int .i64 x)),g]] true n::t):=Z0H rfl k
theorem Z2p {a b c d e f g:AV} {x:Int} {t:Hp} {n:Bool} (k:AV→Hp→Ent→Option β):effD (stE 1 (.ptr 0 0 5 1) (.s (.int .i64 x)) (.arr 7 [[a,b,c,d,e,f,g]] true n::t)) (.arr 7 [[a,b,c,d,e,f,g]] true n::t) k=k .u (.arr 7 [[a,b,c,d,e,(.s (.int .i64 x)),g]] true n::t) ([0],[0]):=Z0a rfl k
theorem Z2q {a b c d e f g:AV} {t:Hp} {w n:Bool} (k:K β):ldK 1 false (.ptr 0 0 6 1) (.arr 7 [[a,b,c,d,e,f,g]] w n::t) k=k g:=rfl
theorem Z2r {a b c d e f g:AV} {x:Int} {t:Hp} {n:Bool} (k:AV→Hp→Option β):effK (stE 1 (.ptr 0 0 6 1) (.s (.int .i64 x)) (.arr 7 [[a,b,c,d,e,f,g]] true n::t)) (.arr 7 [[a,b,c,d,e,f,g]] true n::t) k=k .u (.arr 7 [[a,b,c,d,e,f,(.s (.int .i64 x))]] true n::t):=Z0H rfl k
theorem Z2s {a b c d e f g:AV} {x:Int} {t:Hp} {n:Bool} (k:AV→Hp→Ent→Option β):effD (stE 1 (.ptr 0 0 6 1) (.s (.int .i64 x)) (.arr 7 [[a,b,c,d,e,f,g]] true n::t)) (.arr 7 [[a,b,c,d,e,f,g]] true n::t) k=k .u (.arr 7 [[a,b,c,d,e,f,(.s (.int .i64 x))]] true n::t) ([0],[0]):=Z0a rfl k
theorem lw7_0 {a b c d e f g:AV} {t:Hp} {w n:Bool} (k:K β):ldK 7 true (.ptr 0 0 0 1) (.arr 7 [[a,b,c,d,e,f,g]] w n::t) k=k (.agg [a,b,c,d,e,f,g]):=rfl
theorem ew7_0 {a b c d e f g:AV} {x0 x1 x2 x3 x4 x5 x6:Int} {t:Hp} {n:Bool} (k:AV→Hp→Option β):effK (stE 7 (.ptr 0 0 0 1) (.agg [(.s (.int .i64 x0)),(.s (.int .i64 x1)),(.s (.int .i64 x2)),(.s (.int .i64 x3)),(.s (.int .i64 x4)),(.s (.int .i64 x5)),(.s (.int .i64 x6))]) (.arr 7 [[a,b,c,d,e,f,g]] true n::t)) (.arr 7 [[a,b,c,d,e,f,g]] true n::t) k=k .u (.arr 7 [[(.s (.int .i64 x0)),(.s (.int .i64 x1)),(.s (.int .i64 x2)),(.s (.int .i64 x3)),(.s (.int .i64 x4)),(.s (.int .i64 x5)),(.s (.int .i64 x6))]] true n::t):=Z0H rfl k
theorem bx7_0 {x0 x1 x2 x3 x4 x5 x6:Int} (k:AV→Hp→Option β):effK (boxE 7 (.agg [(.s (.int .i64 x0)),(.s (.int .i64 x1)),(.s (.int .i64 x2)),(.s (.int .i64 x3)),(.s (.int .i64 x4)),(.s (.int .i64 x5)),(.s (.int .i64 x6))]) ([]:Hp).length) [] k=k (.ptr 0 0 0 1) [.arr 7 [[(.s (.int .i64 x0)),(.s (.int .i64 x1)),(.s (.int .i64 x2)),(.s (.int .i64 x3)),(.s (.int .i64 x4)),(.s (.int .i64 x5)),(.s (.int .i64 x6))]] true false]:=rfl
theorem Z2t {o0:AObj} {a b c d e f g:AV} {t:Hp} {w n:Bool} (k:K β):ldK 1 false (.ptr 1 0 0 1) (o0 :: .arr 7 [[a,b,c,d,e,f,g]] w n::t) k=k a:=rfl
theorem Z2u {o0:AObj} {a b c d e f g:AV} {x:Int} {t:Hp} {n:Bool} (k:AV→Hp→Option β):effK (stE 1 (.ptr 1 0 0 1) (.s (.int .i64 x)) (o0 :: .arr 7 [[a,b,c,d,e,f,g]] true n::t)) (o0 :: .arr 7 [[a,b,c,d,e,f,g]] true n::t) k=k .u (o0 :: .arr 7 [[(.s (.int .i64 x)),b,c,d,e,f,g]] true n::t):=Z0H rfl k
theorem Z2v {o0:AObj} {a b c d e f g:AV} {x:Int} {t:Hp} {n:Bool} (k:AV→Hp→Ent→Option β):effD (stE 1 (.ptr 1 0 0 1) (.s (.int .i64 x)) (o0 :: .arr 7 [[a,b,c,d,e,f,g]] true n::t)) (o0 :: .arr 7 [[a,b,c,d,e,f,g]] true n::t) k=k .u (o0 :: .arr 7 [[(.s (.int .i64 x)),b,c,d,e,f,g]] true n::t) ([1],[1]):=Z0a rfl k
theorem Z2w {o0:AObj} {a b c d e f g:AV} {t:Hp} {w n:Bool} (k:K β):ldK 1 false (.ptr 1 0 1 1) (o0 :: .arr 7 [[a,b,c,d,e,f,g]] w n::t) k=k b:=rfl
theorem Z2x {o0:AObj} {a b c d e f g:AV} {x:Int} {t:Hp} {n:Bool} (k:AV→Hp→Option β):effK (stE 1 (.ptr 1 0 1 1) (.s (.int .i64 x)) (o0 :: .arr 7 [[a,b,c,d,e,f,g]] true n::t)) (o0 :: .arr 7 [[a,b,c,d,e,f,g]] true n::t) k=k .u (o0 :: .arr 7 [[a,(.s (.int .i64 x)),c,d,e,f,g]] true n::t):=Z0H rfl k
theorem Z2y {o0:AObj} {a b c d e f g:AV} {x:Int} {t:Hp} {n:Bool} (k:AV→Hp→Ent→Option β):effD (stE 1 (.ptr 1 0 1 1) (.s (.int .i64 x)) (o0 :: .arr 7 [[a,b,c,d,e,f,g]] true n::t)) (o0 :: .arr 7 [[a,b,c,d,e,f,g]] true n::t) k=k .u (o0 :: .arr 7 [[a,(.s (.int .i64 x)),c,d,e,f,g]] true n::t) ([1],[1]):=Z0a rfl k
theorem Z2z {o0:AObj} {a b c d e f g:AV} {t:Hp} {w n:Bool} (k:K β):ldK 1 false (.ptr 1 0 2 1) (o0 :: .arr 7 [[a,b,c,d,e,f,g]] w n::t) k=k c:=rfl
theorem Z2A {o0:AObj} {a b c d e f g:AV} {x:Int} {t:Hp} {n:Bool} (k:AV→Hp→Option β):effK (stE 1 (.ptr 1 0 2 1) (.s (.int .i64 x)) (o0 :: .arr 7 [[a,b,c,d,e,f,g]] true n::t)) (o0 :: .arr 7 [[a,b,c,d,e,f,g]] true n::t) k=k .u (o0 :: .arr 7 [[a,b,(.s (.int .i64 x)),d,e,f,g]] true n::t):=Z0H rfl k
theorem Z2B {o0:AObj} {a b c d e f g:AV} {x:Int} {t:Hp} {n:Bool} (k:AV→Hp→Ent→Option β):effD (stE 1 (.ptr 1 0 2 1) (.s (.int .i64 x)) (o0 :: .arr 7 [[a,b,c,d,e,f,g]] true n::t)) (o0 :: .arr 7 [[a,b,c,d,e,f,g]] true n::t) k=k .u (o0 :: .arr 7 [[a,b,(.s (.int .i64 x)),d,e,f,g]] true n::t) ([1],[1]):=Z0a rfl k
theorem Z2C {o0:AObj} {a b c d e f g:AV} {t:Hp} {w n:Bool} (k:K β):ldK 1 false (.ptr 1 0 3 1) (o0 :: .arr 7 [[a,b,c,d,e,f,g]] w n::t) k=k d:=rfl
theorem Z2D {o0:AObj} {a b c d e f g:AV} {x:Int} {t:Hp} {n:Bool} (k:AV→Hp→Option β):effK (stE 1 (.ptr 1 0 3 1) (.s (.int .i64 x)) (o0 :: .arr 7 [[a,b,c,d,e,f,g]] true n::t)) (o0 :: .arr 7 [[a,b,c,d,e,f,g]] true n::t) k=k .u (o0 :: .arr 7 [[a,b,c,(.s (.int .i64 x)),e,f,g]] true n::t):=Z0H rfl k
theorem Z2E {o0:AObj} {a b c d e f g:AV} {x:Int} {t:Hp} {n:Bool} (k:AV→Hp→Ent→Option β):effD (stE 1 (.ptr 1 0 3 1) (.s (.int .i64 x)) (o0 :: .arr 7 [[a,b,c,d,e,f,g]] true n::t)) (o0 :: .arr 7 [[a,b,c,d,e,f,g]] true n::t) k=k .u (o0 :: .arr 7 [[a,b,c,(.s (.int .i64 x)),e,f,g]] true n::t) ([1],[1]):=Z0a rfl k
theorem Z2F {o0:AObj} {a b c d e f g:AV} {t:Hp} {w n:Bool} (k:K β):ldK 1 false (.ptr 1 0 4 1) (o0 :: .arr 7 [[a,b,c,d,e,f,g]] w n::t) k=k e:=rfl
theorem Z2G {o0:AObj} {a b c d e f g:AV} {x:Int} {t:Hp} {n:Bool} (k:AV→Hp→Option β):effK (stE 1 (.ptr 1 0 4 1) (.s (.int .i64 x)) (o0 :: .arr 7 [[a,b,c,d,e,f,g]] true n::t)) (o0 :: .arr 7 [[a,b,c,d,e,f,g]] true n::t) k=k .u (o0 :: .arr 7 [[a,b,c,d,(.s (.int .i64 x)),f,g]] true n::t):=Z0H rfl k
theorem Z2H {o0:AObj} {a b c d e f g:AV} {x:Int} {t:Hp} {n:Bool} (k:AV→Hp→Ent→Option β):effD (stE 1 (.ptr 1 0 4 1) (.s (.int .i64 x)) (o0 :: .arr 7 [[a,b,c,d,e,f,g]] true n::t)) (o0 :: .arr 7 [[a,b,c,d,e,f,g]] true n::t) k=k .u (o0 :: .arr 7 [[a,b,c,d,(.s (.int .i64 x)),f,g]] true n::t) ([1],[1]):=Z0a rfl k
theorem Z2I {o0:AObj} {a b c d e f g:AV} {t:Hp} {w n:Bool} (k:K β):ldK 1 false (.ptr 1 0 5 1) (o0 :: .arr 7 [[a,b,c,d,e,f,g]] w n::t) k=k f:=rfl
theorem Z2J {o0:AObj} {a b c d e f g:AV} {x:Int} {t:Hp} {n:Bool} (k:AV→Hp→Option β):effK (stE 1 (.ptr 1 0 5 1) (.s (.int .i64 x)) (o0 :: .arr 7 [[a,b,c,d,e,f,g]] true n::t)) (o0 :: .arr 7 [[a,b,c,d,e,f,g]] true n::t) k=k .u (o0 :: .arr 7 [[a,b,c,d,e,(.s (.int .i64 x)),g]] true n::t):=Z0H rfl k
theorem Z2K {o0:AObj} {a b c d e f g:AV} {x:Int} {t:Hp} {n:Bool} (k:AV→Hp→Ent→Option β):effD (stE 1 (.ptr 1 0 5 1) (.s (.int .i64 x)) (o0 :: .arr 7 [[a,b,c,d,e,f,g]] true n::t)) (o0 :: .arr 7 [[a,b,c,d,e,f,g]] true n::t) k=k .u (o0 :: .arr 7 [[a,b,c,d,e,(.s (.int .i64 x)),g]] true n::t) ([1],[1]):=Z0a rfl k
theorem Z2L {o0:AObj} {a b c d e f g:AV} {t:Hp} {w n:Bool} (k:K β):ldK 1 false (.ptr 1 0 6 1) (o0 :: .arr 7 [[a,b,c,d,e,f,g]] w n::t) k=k g:=rfl
theorem Z2M {o0:AObj} {a b c d e f g:AV} {x:Int} {t:Hp} {n:Bool} (k:AV→Hp→Option β):effK (stE 1 (.ptr 1 0 6 1) (.s (.int .i64 x)) (o0 :: .arr 7 [[a,b,c,d,e,f,g]] true n::t)) (o0 :: .arr 7 [[a,b,c,d,e,f,g]] true n::t) k=k .u (o0 :: .arr 7 [[a,b,c,d,e,f,(.s (.int .i64 x))]] true n::t):=Z0H rfl k
theorem Z2N {o0:AObj} {a b c d e f g:AV} {x:Int} {t:Hp} {n:Bool} (k:AV→Hp→Ent→Option β):effD (stE 1 (.ptr 1 0 6 1) (.s (.int .i64 x)) (o0 :: .arr 7 [[a,b,c,d,e,f,g]] true n::t)) (o0 :: .arr 7 [[a,b,c,d,e,f,g]] true n::t) k=k .u (o0 :: .arr 7 [[a,b,c,d,e,f,(.s (.int .i64 x))]] true n::t) ([1],[1]):=Z0a rfl k
theorem lw7_1 {o0:AObj} {a b c d e f g:AV} {t:Hp} {w n:Bool} (k:K β):ldK 7 true (.ptr 1 0 0 1) (o0 :: .arr 7 [[a,b,c,d,e,f,g]] w n::t) k=k (.agg [a,b,c,d,e,f,g]):=rfl
theorem ew7_1 {o0:AObj} {a b c d e f g:AV} {x0 x1 x2 x3 x4 x5 x6:Int} {t:Hp} {n:Bool} (k:AV→Hp→Option β):effK (stE 7 (.ptr 1 0 0 1) (.agg [(.s (.int .i64 x0)),(.s (.int .i64 x1)),(.s (.int .i64 x2)),(.s (.int .i64 x3)),(.s (.int .i64 x4)),(.s (.int .i64 x5)),(.s (.int .i64 x6))]) (o0 :: .arr 7 [[a,b,c,d,e,f,g]] true n::t)) (o0 :: .arr 7 [[a,b,c,d,e,f,g]] true n::t) k=k .u (o0 :: .arr 7 [[(.s (.int .i64 x0)),(.s (.int .i64 x1)),(.s (.int .i64 x2)),(.s (.int .i64 x3)),(.s (.int .i64 x4)),(.s (.int .i64 x5)),(.s (.int .i64 x6))]] true n::t):=Z0H rfl k
theorem bx7_1 {o0:AObj} {x0 x1 x2 x3 x4 x5 x6:Int} (k:AV→Hp→Option β):effK (boxE 7 (.agg [(.s (.int .i64 x0)),(.s (.int .i64 x1)),(.s (.int .i64 x2)),(.s (.int .i64 x3)),(.s (.int .i64 x4)),(.s (.int .i64 x5)),(.s (.int .i64 x6))]) ([o0]:Hp).length) [o0] k=k (.ptr 1 0 0 1) [o0, .arr 7 [[(.s (.int .i64 x0)),(.s (.int .i64 x1)),(.s (.int .i64 x2)),(.s (.int .i64 x3)),(.s (.int .i64 x4)),(.s (.int .i64 x5)),(.s (.int .i64 x6))]] true false]:=rfl
theorem Z1l {o0:AObj} {o1:AObj} {a b c d e f g:AV} {t:Hp} {w n:Bool} (k:K β):ldK 1 false (.ptr 2 0 0 1) (o0::o1 :: .arr 7 [[a,b,c,d,e,f,g]] w n::t) k=k a:=rfl
theorem Z1m {o0:AObj} {o1:AObj} {a b c d e f g:AV} {x:Int} {t:Hp} {n:Bool} (k:AV→Hp→Option β):effK (stE 1 (.ptr 2 0 0 1) (.s (.int .i64 x)) (o0::o1 :: .arr 7 [[a,b,c,d,e,f,g]] true n::t)) (o0::o1 :: .arr 7 [[a,b,c,d,e,f,g]] true n::t) k=k .u (o0::o1 :: .arr 7 [[(.s (.int .i64 x)),b,c,d,e,f,g]] true n::t):=Z0H rfl k
theorem Z1n {o0:AObj} {o1:AObj} {a b c d e f g:AV} {x:Int} {t:Hp} {n:Bool} (k:AV→Hp→Ent→Option β):effD (stE 1 (.ptr 2 0 0 1) (.s (.int .i64 x)) (o0::o1 :: .arr 7 [[a,b,c,d,e,f,g]] true n::t)) (o0::o1 :: .arr 7 [[a,b,c,d,e,f,g]] true n::t) k=k .u (o0::o1 :: .arr 7 [[(.s (.int .i64 x)),b,c,d,e,f,g]] true n::t) ([2],[2]):=Z0a rfl k
theorem Z1d {o0:AObj} {o1:AObj} {a b c d e f g:AV} {t:Hp} {w n:Bool} (k:K β):ldK 1 false (.ptr 2 0 1 1) (o0::o1 :: .arr 7 [[a,b,c,d,e,f,g]] w n::t) k=k b:=rfl
theorem Z1e {o0:AObj} {o1:AObj} {a b c d e f g:AV} {x:Int} {t:Hp} {n:Bool} (k:AV→Hp→Option β):effK (stE 1 (.ptr 2 0 1 1) (.s (.int .i64 x)) (o0::o1 :: .arr 7 [[a,b,c,d,e,f,g]] true n::t)) (o0::o1 :: .arr 7 [[a,b,c,d,e,f,g]] true n::t) k=k .u (o0::o1 :: .arr 7 [[a,(.s (.int .i64 x)),c,d,e,f,g]] true n::t):=Z0H rfl k
theorem Z1o {o0:AObj} {o1:AObj} {a b c d e f g:AV} {x:Int} {t:Hp} {n:Bool} (k:AV→Hp→Ent→Option β):effD (stE 1 (.ptr 2 0 1 1) (.s (.int .i64 x)) (o0::o1 :: .arr 7 [[a,b,c,d,e,f,g]] true n::t)) (o0::o1 :: .arr 7 [[a,b,c,d,e,f,g]] true n::t) k=k .u (o0::o1 :: .arr 7 [[a,(.s (.int .i64 x)),c,d,e,f,g]] true n::t) ([2],[2]):=Z0a rfl k
theorem Z1p {o0:AObj} {o1:AObj} {a b c d e f g:AV} {t:Hp} {w n:Bool} (k:K β):ldK 1 false (.ptr 2 0 2 1) (o0::o1 :: .arr 7 [[a,b,c,d,e,f,g]] w n::t) k=k c:=rfl
theorem Z1q {o0:AObj} {o1:AObj} {a b c d e f g:AV} {x:Int} {t:Hp} {n:Bool} (k:AV→Hp→Option β):effK (stE 1 (.ptr 2 0 2 1) (.s (.int .i64 x)) (o0::o1 :: .arr 7 [[a,b,c,d,e,f,g]] true n::t)) (o0::o1 :: .arr 7 [[a,b,c,d,e,f,g]] true n::t) k=k .u (o0::o1 :: .arr 7 [[a,b,(.s (.int .i64 x)),d,e,f,g]] true n::t):=Z0H rfl k
theorem Z1r {o0:AObj} {o1:AObj} {a b c d e f g:AV} {x:Int} {t:Hp} {n:Bool} (k:AV→Hp→Ent→Option β):effD (stE 1 (.ptr 2 0 2 1) (.s (.int .i64 x)) (o0::o1 :: .arr 7 [[a,b,c,d,e,f,g]] true n::t)) (o0::o1 :: .arr 7 [[a,b,c,d,e,f,g]] true n::t) k=k .u (o0::o1 :: .arr 7 [[a,b,(.s (.int .i64 x)),d,e,f,g]] true n::t) ([2],[2]):=Z0a rfl k
theorem Z1s {o0:AObj} {o1:AObj} {a b c d e f g:AV} {t:Hp} {w n:Bool} (k:K β):ldK 1 false (.ptr 2 0 3 1) (o0::o1 :: .arr 7 [[a,b,c,d,e,f,g]] w n::t) k=k d:=rfl
theorem Z1t {o0:AObj} {o1:AObj} {a b c d e f g:AV} {x:Int} {t:Hp} {n:Bool} (k:AV→Hp→Option β):effK (stE 1 (.ptr 2 0 3 1) (.s (.int .i64 x)) (o0::o1 :: .arr 7 [[a,b,c,d,e,f,g]] true n::t)) (o0::o1 :: .arr 7 [[a,b,c,d,e,f,g]] true n::t) k=k .u (o0::o1 :: .arr 7 [[a,b,c,(.s (.int .i64 x)),e,f,g]] true n::t):=Z0H rfl k
theorem Z1u {o0:AObj} {o1:AObj} {a b c d e f g:AV} {x:Int} {t:Hp} {n:Bool} (k:AV→Hp→Ent→Option β):effD (stE 1 (.ptr 2 0 3 1) (.s (.int .i64 x)) (o0::o1 :: .arr 7 [[a,b,c,d,e,f,g]] true n::t)) (o0::o1 :: .arr 7 [[a,b,c,d,e,f,g]] true n::t) k=k .u (o0::o1 :: .arr 7 [[a,b,c,(.s (.int .i64 x)),e,f,g]] true n::t) ([2],[2]):=Z0a rfl k
theorem Z1v {o0:AObj} {o1:AObj} {a b c d e f g:AV} {t:Hp} {w n:Bool} (k:K β):ldK 1 false (.ptr 2 0 4 1) (o0::o1 :: .arr 7 [[a,b,c,d,e,f,g]] w n::t) k=k e:=rfl
theorem Z1w {o0:AObj} {o1:AObj} {a b c d e f g:AV} {x:Int} {t:Hp} {n:Bool} (k:AV→Hp→Option β):effK (stE 1 (.ptr 2 0 4 1) (.s (.int .i64 x)) (o0::o1 :: .arr 7 [[a,b,c,d,e,f,g]] true n::t)) (o0::o1 :: .arr 7 [[a,b,c,d,e,f,g]] true n::t) k=k .u (o0::o1 :: .arr 7 [[a,b,c,d,(.s (.int .i64 x)),f,g]] true n::t):=Z0H rfl k
theorem Z1x {o0:AObj} {o1:AObj} {a b c d e f g:AV} {x:Int} {t:Hp} {n:Bool} (k:AV→Hp→Ent→Option β):effD (stE 1 (.ptr 2 0 4 1) (.s (.int .i64 x)) (o0::o1 :: .arr 7 [[a,b,c,d,e,f,g]] true n::t)) (o0::o1 :: .arr 7 [[a,b,c,d,e,f,g]] true n::t) k=k .u (o0::o1 :: .arr 7 [[a,b,c,d,(.s (.int .i64 x)),f,g]] true n::t) ([2],[2]):=Z0a rfl k
theorem Z1y {o0:AObj} {o1:AObj} {a b c d e f g:AV} {t:Hp} {w n:Bool} (k:K β):ldK 1 false (.ptr 2 0 5 1) (o0::o1 :: .arr 7 [[a,b,c,d,e,f,g]] w n::t) k=k f:=rfl
theorem Z1z {o0:AObj} {o1:AObj} {a b c d e f g:AV} {x:Int} {t:Hp} {n:Bool} (k:AV→Hp→Option β):effK (stE 1 (.ptr 2 0 5 1) (.s (.int .i64 x)) (o0::o1 :: .arr 7 [[a,b,c,d,e,f,g]] true n::t)) (o0::o1 :: .arr 7 [[a,b,c,d,e,f,g]] true n::t) k=k .u (o0::o1 :: .arr 7 [[a,b,c,d,e,(.s (.int .i64 x)),g]] true n::t):=Z0H rfl k
theorem Z1A {o0:AObj} {o1:AObj} {a b c d e f g:AV} {x:Int} {t:Hp} {n:Bool} (k:AV→Hp→Ent→Option β):effD (stE 1 (.ptr 2 0 5 1) (.s (.int .i64 x)) (o0::o1 :: .arr 7 [[a,b,c,d,e,f,g]] true n::t)) (o0::o1 :: .arr 7 [[a,b,c,d,e,f,g]] true n::t) k=k .u (o0::o1 :: .arr 7 [[a,b,c,d,e,(.s (.int .i64 x)),g]] true n::t) ([2],[2]):=Z0a rfl k
theorem Z1B {o0:AObj} {o1:AObj} {a b c d e f g:AV} {t:Hp} {w n:Bool} (k:K β):ldK 1 false (.ptr 2 0 6 1) (o0::o1 :: .arr 7 [[a,b,c,d,e,f,g]] w n::t) k=k g:=rfl
theorem Z1C {o0:AObj} {o1:AObj} {a b c d e f g:AV} {x:Int} {t:Hp} {n:Bool} (k:AV→Hp→Option β):effK (stE 1 (.ptr 2 0 6 1) (.s (.int .i64 x)) (o0::o1 :: .arr 7 [[a,b,c,d,e,f,g]] true n::t)) (o0::o1 :: .arr 7 [[a,b,c,d,e,f,g]] true n::t) k=k .u (o0::o1 :: .arr 7 [[a,b,c,d,e,f,(.s (.int .i64 x))]] true n::t):=Z0H rfl k
theorem Z1D {o0:AObj} {o1:AObj} {a b c d e f g:AV} {x:Int} {t:Hp} {n:Bool} (k:AV→Hp→Ent→Option β):effD (stE 1 (.ptr 2 0 6 1) (.s (.int .i64 x)) (o0::o1 :: .arr 7 [[a,b,c,d,e,f,g]] true n::t)) (o0::o1 :: .arr 7 [[a,b,c,d,e,f,g]] true n::t) k=k .u (o0::o1 :: .arr 7 [[a,b,c,d,e,f,(.s (.int .i64 x))]] true n::t) ([2],[2]):=Z0a rfl k
theorem lw7_2 {o0:AObj} {o1:AObj} {a b c d e f g:AV} {t:Hp} {w n:Bool} (k:K β):ldK 7 true (.ptr 2 0 0 1) (o0::o1 :: .arr 7 [[a,b,c,d,e,f,g]] w n::t) k=k (.agg [a,b,c,d,e,f,g]):=rfl
theorem ew7_2 {o0:AObj} {o1:AObj} {a b c d e f g:AV} {x0 x1 x2 x3 x4 x5 x6:Int} {t:Hp} {n:Bool} (k:AV→Hp→Option β):effK (stE 7 (.ptr 2 0 0 1) (.agg [(.s (.int .i64 x0)),(.s (.int .i64 x1)),(.s (.int .i64 x2)),(.s (.int .i64 x3)),(.s (.int .i64 x4)),(.s (.int .i64 x5)),(.s (.int .i64 x6))]) (o0::o1 :: .arr 7 [[a,b,c,d,e,f,g]] true n::t)) (o0::o1 :: .arr 7 [[a,b,c,d,e,f,g]] true n::t) k=k .u (o0::o1 :: .arr 7 [[(.s (.int .i64 x0)),(.s (.int .i64 x1)),(.s (.int .i64 x2)),(.s (.int .i64 x3)),(.s (.int .i64 x4)),(.s (.int .i64 x5)),(.s (.int .i64 x6))]] true n::t):=Z0H rfl k
theorem bx7_2 {o0:AObj} {o1:AObj} {x0 x1 x2 x3 x4 x5 x6:Int} (k:AV→Hp→Option β):effK (boxE 7 (.agg [(.s (.int .i64 x0)),(.s (.int .i64 x1)),(.s (.int .i64 x2)),(.s (.int .i64 x3)),(.s (.int .i64 x4)),(.s (.int .i64 x5)),(.s (.int .i64 x6))]) ([o0,o1]:Hp).length) [o0,o1] k=k (.ptr 2 0 0 1) [o0,o1, .arr 7 [[(.s (.int .i64 x0)),(.s (.int .i64 x1)),(.s (.int .i64 x2)),(.s (.int .i64 x3)),(.s (.int .i64 x4)),(.s (.int .i64 x5)),(.s (.int .i64 x6))]] true false]:=rfl
theorem Z2O {o0:AObj} {o1:AObj} {o2:AObj} {a b c d e f g:AV} {t:Hp} {w n:Bool} (k:K β):ldK 1 false (.ptr 3 0 0 1) (o0::o1::o2 :: .arr 7 [[a,b,c,d,e,f,g]] w n::t) k=k a:=rfl
theorem Z2P {o0:AObj} {o1:AObj} {o2:AObj} {a b c d e f g:AV} {x:Int} {t:Hp} {n:Bool} (k:AV→Hp→Option β):effK (stE 1 (.ptr 3 0 0 1) (.s (.int .i64 x)) (o0::o1::o2 :: .arr 7 [[a,b,c,d,e,f,g]] true n::t)) (o0::o1::o2 :: .arr 7 [[a,b,c,d,e,f,g]] true n::t) k=k .u (o0::o1::o2 :: .arr 7 [[(.s (.int .i64 x)),b,c,d,e,f,g]] true n::t):=Z0H rfl k
theorem Z2Q {o0:AObj} {o1:AObj} {o2:AObj} {a b c d e f g:AV} {x:Int} {t:Hp} {n:Bool} (k:AV→Hp→Ent→Option β):effD (stE 1 (.ptr 3 0 0 1) (.s (.int .i64 x)) (o0::o1::o2 :: .arr 7 [[a,b,c,d,e,f,g]] true n::t)) (o0::o1::o2 :: .arr 7 [[a,b,c,d,e,f,g]] true n::t) k=k .u (o0::o1::o2 :: .arr 7 [[(.s (.int .i64 x)),b,c,d,e,f,g]] true n::t) ([3],[3]):=Z0a rfl k
theorem Z2R {o0:AObj} {o1:AObj} {o2:AObj} {a b c d e f g:AV} {t:Hp} {w n:Bool} (k:K β):ldK 1 false (.ptr 3 0 1 1) (o0::o1::o2 :: .arr 7 [[a,b,c,d,e,f,g]] w n::t) k=k b:=rfl
theorem Z2S {o0:AObj} {o1:AObj} {o2:AObj} {a b c d e f g:AV} {x:Int} {t:Hp} {n:Bool} (k:AV→Hp→Option β):effK (stE 1 (.ptr 3 0 1 1) (.s (.int .i64 x)) (o0::o1::o2 :: .arr 7 [[a,b,c,d,e,f,g]] true n::t)) (o0::o1::o2 :: .arr 7 [[a,b,c,d,e,f,g]] true n::t) k=k .u (o0::o1::o2 :: .arr 7 [[a,(.s (.int .i64 x)),c,d,e,f,g]] true n::t):=Z0H rfl k
theorem Z2T {o0:AObj} {o1:AObj} {o2:AObj} {a b c d e f g:AV} {x:Int} {t:Hp} {n:Bool} (k:AV→Hp→Ent→Option β):effD (stE 1 (.ptr 3 0 1 1) (.s (.int .i64 x)) (o0::o1::o2 :: .arr 7 [[a,b,c,d,e,f,g]] true n::t)) (o0::o1::o2 :: .arr 7 [[a,b,c,d,e,f,g]] true n::t) k=k .u (o0::o1::o2 :: .arr 7 [[a,(.s (.int .i64 x)),c,d,e,f,g]] true n::t) ([3],[3]):=Z0a rfl k
theorem Z2U {o0:AObj} {o1:AObj} {o2:AObj} {a b c d e f g:AV} {t:Hp} {w n:Bool} (k:K β):ldK 1 false (.ptr 3 0 2 1) (o0::o1::o2 :: .arr 7 [[a,b,c,d,e,f,g]] w n::t) k=k c:=rfl
theorem Z2V {o0:AObj} {o1:AObj} {o2:AObj} {a b c d e f g:AV} {x:Int} {t:Hp} {n:Bool} (k:AV→Hp→Option β):effK (stE 1 (.ptr 3 0 2 1) (.s (.int .i64 x)) (o0::o1::o2 :: .arr 7 [[a,b,c,d,e,f,g]] true n::t)) (o0::o1::o2 :: .arr 7 [[a,b,c,d,e,f,g]] true n::t) k=k .u (o0::o1::o2 :: .arr 7 [[a,b,(.s (.int .i64 x)),d,e,f,g]] true n::t):=Z0H rfl k
theorem Z2W {o0:AObj} {o1:AObj} {o2:AObj} {a b c d e f g:AV} {x:Int} {t:Hp} {n:Bool} (k:AV→Hp→Ent→Option β):effD (stE 1 (.ptr 3 0 2 1) (.s (.int .i64 x)) (o0::o1::o2 :: .arr 7 [[a,b,c,d,e,f,g]] true n::t)) (o0::o1::o2 :: .arr 7 [[a,b,c,d,e,f,g]] true n::t) k=k .u (o0::o1::o2 :: .arr 7 [[a,b,(.s (.int .i64 x)),d,e,f,g]] true n::t) ([3],[3]):=Z0a rfl k
theorem Z2X {o0:AObj} {o1:AObj} {o2:AObj} {a b c d e f g:AV} {t:Hp} {w n:Bool} (k:K β):ldK 1 false (.ptr 3 0 3 1) (o0::o1::o2 :: .arr 7 [[a,b,c,d,e,f,g]] w n::t) k=k d:=rfl
theorem Z2Y {o0:AObj} {o1:AObj} {o2:AObj} {a b c d e f g:AV} {x:Int} {t:Hp} {n:Bool} (k:AV→Hp→Option β):effK (stE 1 (.ptr 3 0 3 1) (.s (.int .i64 x)) (o0::o1::o2 :: .arr 7 [[a,b,c,d,e,f,g]] true n::t)) (o0::o1::o2 :: .arr 7 [[a,b,c,d,e,f,g]] true n::t) k=k .u (o0::o1::o2 :: .arr 7 [[a,b,c,(.s (.int .i64 x)),e,f,g]] true n::t):=Z0H rfl k
theorem Z2Z {o0:AObj} {o1:AObj} {o2:AObj} {a b c d e f g:AV} {x:Int} {t:Hp} {n:Bool} (k:AV→Hp→Ent→Option β):effD (stE 1 (.ptr 3 0 3 1) (.s (.int .i64 x)) (o0::o1::o2 :: .arr 7 [[a,b,c,d,e,f,g]] true n::t)) (o0::o1::o2 :: .arr 7 [[a,b,c,d,e,f,g]] true n::t) k=k .u (o0::o1::o2 :: .arr 7 [[a,b,c,(.s (.int .i64 x)),e,f,g]] true n::t) ([3],[3]):=Z0a rfl k
theorem Z30 {o0:AObj} {o1:AObj} {o2:AObj} {a b c d e f g:AV} {t:Hp} {w n:Bool} (k:K β):ldK 1 false (.ptr 3 0 4 1) (o0::o1::o2 :: .arr 7 [[a,b,c,d,e,f,g]] w n::t) k=k e:=rfl
theorem Z31 {o0:AObj} {o1:AObj} {o2:AObj} {a b c d e f g:AV} {x:Int} {t:Hp} {n:Bool} (k:AV→Hp→Option β):effK (stE 1 (.ptr 3 0 4 1) (.s (.int .i64 x)) (o0::o1::o2 :: .arr 7 [[a,b,c,d,e,f,g]] true n::t)) (o0::o1::o2 :: .arr 7 [[a,b,c,d,e,f,g]] true n::t) k=k .u (o0::o1::o2 :: .arr 7 [[a,b,c,d,(.s (.int .i64 x)),f,g]] true n::t):=Z0H rfl k
theorem Z32 {o0:AObj} {o1:AObj} {o2:AObj} {a b c d e f g:AV} {x:Int} {t:Hp} {n:Bool} (k:AV→Hp→Ent→Option β):effD (stE 1 (.ptr 3 0 4 1) (.s (.int .i64 x)) (o0::o1::o2 :: .arr 7 [[a,b,c,d,e,f,g]] true n::t)) (o0::o1::o2 :: .arr 7 [[a,b,c,d,e,f,g]] true n::t) k=k .u (o0::o1::o2 :: .arr 7 [[a,b,c,d,(.s (.int .i64 x)),f,g]] true n::t) ([3],[3]):=Z0a rfl k
theorem Z33 {o0:AObj} {o1:AObj} {o2:AObj} {a b c d e f g:AV} {t:Hp} {w n:Bool} (k:K β):ldK 1 false (.ptr 3 0 5 1) (o0::o1::o2 :: .arr 7 [[a,b,c,d,e,f,g]] w n::t) k=k f:=rfl
theorem Z34 {o0:AObj} {o1:AObj} {o2:AObj} {a b c d e f g:AV} {x:Int} {t:Hp} {n:Bool} (k:AV→Hp→Option β):effK (stE 1 (.ptr 3 0 5 1) (.s (.int .i64 x)) (o0::o1::o2 :: .arr 7 [[a,b,c,d,e,f,g]] true n::t)) (o0::o1::o2 :: .arr 7 [[a,b,c,d,e,f,g]] true n::t) k=k .u (o0::o1::o2 :: .arr 7 [[a,b,c,d,e,(.s (.int .i64 x)),g]] true n::t):=Z0H rfl k
theorem Z35 {o0:AObj} {o1:AObj} {o2:AObj} {a b c d e f g:AV} {x:Int} {t:Hp} {n:Bool} (k:AV→Hp→Ent→Option β):effD (stE 1 (.ptr 3 0 5 1) (.s (.int .i64 x)) (o0::o1::o2 :: .arr 7 [[a,b,c,d,e,f,g]] true n::t)) (o0::o1::o2 :: .arr 7 [[a,b,c,d,e,f,g]] true n::t) k=k .u (o0::o1::o2 :: .arr 7 [[a,b,c,d,e,(.s (.int .i64 x)),g]] true n::t) ([3],[3]):=Z0a rfl k
theorem Z36 {o0:AObj} {o1:AObj} {o2:AObj} {a b c d e f g:AV} {t:Hp} {w n:Bool} (k:K β):ldK 1 false (.ptr 3 0 6 1) (o0::o1::o2 :: .arr 7 [[a,b,c,d,e,f,g]] w n::t) k=k g:=rfl
theorem Z37 {o0:AObj} {o1:AObj} {o2:AObj} {a b c d e f g:AV} {x:Int} {t:Hp} {n:Bool} (k:AV→Hp→Option β):effK (stE 1 (.ptr 3 0 6 1) (.s (.int .i64 x)) (o0::o1::o2 :: .arr 7 [[a,b,c,d,e,f,g]] true n::t)) (o0::o1::o2 :: .arr 7 [[a,b,c,d,e,f,g]] true n::t) k=k .u (o0::o1::o2 :: .arr 7 [[a,b,c,d,e,f,(.s (.int .i64 x))]] true n::t):=Z0H rfl k
theorem Z38 {o0:AObj} {o1:AObj} {o2:AObj} {a b c d e f g:AV} {x:Int} {t:Hp} {n:Bool} (k:AV→Hp→Ent→Option β):effD (stE 1 (.ptr 3 0 6 1) (.s (.int .i64 x)) (o0::o1::o2 :: .arr 7 [[a,b,c,d,e,f,g]] true n::t)) (o0::o1::o2 :: .arr 7 [[a,b,c,d,e,f,g]] true n::t) k=k .u (o0::o1::o2 :: .arr 7 [[a,b,c,d,e,f,(.s (.int .i64 x))]] true n::t) ([3],[3]):=Z0a rfl k
theorem lw7_3 {o0:AObj} {o1:AObj} {o2:AObj} {a b c d e f g:AV} {t:Hp} {w n:Bool} (k:K β):ldK 7 true (.ptr 3 0 0 1) (o0::o1::o2 :: .arr 7 [[a,b,c,d,e,f,g]] w n::t) k=k (.agg [a,b,c,d,e,f,g]):=rfl
theorem ew7_3 {o0:AObj} {o1:AObj} {o2:AObj} {a b c d e f g:AV} {x0 x1 x2 x3 x4 x5 x6:Int} {t:Hp} {n:Bool} (k:AV→Hp→Option β):effK (stE 7 (.ptr 3 0 0 1) (.agg [(.s (.int .i64 x0)),(.s (.int .i64 x1)),(.s (.int .i64 x2)),(.s (.int .i64 x3)),(.s (.int .i64 x4)),(.s (.int .i64 x5)),(.s (.int .i64 x6))]) (o0::o1::o2 :: .arr 7 [[a,b,c,d,e,f,g]] true n::t)) (o0::o1::o2 :: .arr 7 [[a,b,c,d,e,f,g]] true n::t) k=k .u (o0::o1::o2 :: .arr 7 [[(.s (.int .i64 x0)),(.s (.int .i64 x1)),(.s (.int .i64 x2)),(.s (.int .i64 x3)),(.s (.int .i64 x4)),(.s (.int .i64 x5)),(.s (.int .i64 x6))]] true n::t):=Z0H rfl k
theorem bx7_3 {o0:AObj} {o1:AObj} {o2:AObj} {x0 x1 x2 x3 x4 x5 x6:Int} (k:AV→Hp→Option β):effK (boxE 7 (.agg [(.s (.int .i64 x0)),(.s (.int .i64 x1)),(.s (.int .i64 x2)),(.s (.int .i64 x3)),(.s (.int .i64 x4)),(.s (.int .i64 x5)),(.s (.int .i64 x6))]) ([o0,o1,o2]:Hp).length) [o0,o1,o2] k=k (.ptr 3 0 0 1) [o0,o1,o2, .arr 7 [[(.s (.int .i64 x0)),(.s (.int .i64 x1)),(.s (.int .i64 x2)),(.s (.int .i64 x3)),(.s (.int .i64 x4)),(.s (.int .i64 x5)),(.s (.int .i64 x6))]] true false]:=rfl
end
abbrev SLm (b:Bool) (l:List Msg):AV := .lst 7 (b&&l.isEmpty) (l.map encM)
end Go.AM


namespace Go.AM
set_option linter.unusedVariables false
variable {β:Type}
theorem Z0e {op:BinOp} {x:AV} {y:AV} {k:K β} {x':AV} {y':AV} (e_x:x=x') (e_y:y=y'):arithK op x y k=arithK op x' y' k:=by subst e_x e_y;rfl
theorem Z0f {P:Program} {neq:Bool} {ty:TypeId} {x:AV} {y:AV} {h:Hp} {k:K β} {x':AV} {y':AV} {h':Hp} (e_x:x=x') (e_y:y=y') (e_h:h=h'):eqK P neq ty x y h k=eqK P neq ty x' y' h' k:=by subst e_x e_y e_h;rfl
theorem Z0g {x:AV} {k:K β} {x':AV} (e_x:x=x'):notK x k=notK x' k:=by subst e_x;rfl
theorem Z0h {P:Program} {a:TypeId} {b:TypeId} {x:AV} {k:K β} {x':AV} (e_x:x=x'):convK P a b x k=convK P a b x' k:=by subst e_x;rfl
theorem Z0i {c:AV} {a:AV} {b:AV} {k:K β} {c':AV} {a':AV} {b':AV} (e_c:c=c') (e_a:a=a') (e_b:b=b'):pickK c a b k=pickK c' a' b' k:=by subst e_c e_a e_b;rfl
theorem Z0j {z:List AV} {parts:List (Option (Nat × Nat) × AV)} {k:K β} {z':List AV} (e_z:z=z'):buildK z parts k=buildK z' parts k:=by subst e_z;rfl
theorem Z0k {n:Nat} {agg:Bool} {p:AV} {h:Hp} {k:K β} {p':AV} {h':Hp} (e_p:p=p') (e_h:h=h'):ldK n agg p h k=ldK n agg p' h' k:=by subst e_p e_h;rfl
theorem Z0l {x:AV} {k:K β} {x':AV} (e_x:x=x'):nilK x k=nilK x' k:=by subst e_x;rfl
theorem Z0m {n:Nat} {x:AV} {lo:Option AV} {hi:Option AV} {mx:Option AV} {k:K β} {x':AV} (e_x:x=x'):sliceK n x lo hi mx k=sliceK n x' lo hi mx k:=by subst e_x;rfl
theorem Z0n {off:Nat} {p:AV} {k:K β} {p':AV} (e_p:p=p'):faK off p k=faK off p' k:=by subst e_p;rfl
theorem Z0o {n:Nat} {agg:Bool} {off:Nat} {x:AV} {k:K β} {x':AV} (e_x:x=x'):fldK n agg off x k=fldK n agg off x' k:=by subst e_x;rfl
theorem Z0p {n:Nat} {x:AV} {i:AV} {k:K β} {x':AV} {i':AV} (e_x:x=x') (e_i:i=i'):iaK n x i k=iaK n x' i' k:=by subst e_x e_i;rfl
theorem Z0q {n:Nat} {len:Nat} {x:AV} {i:AV} {k:K β} {x':AV} {i':AV} (e_x:x=x') (e_i:i=i'):iaA n len x i k=iaA n len x' i' k:=by subst e_x e_i;rfl
theorem Z0r {P:Program} {kt:TypeId} {z:AV} {ok:Bool} {m:AV} {kk:AV} {h:Hp} {k:K β} {z':AV} {m':AV} {kk':AV} {h':Hp} (e_z:z=z') (e_m:m=m') (e_kk:kk=kk') (e_h:h=h'):lookK P kt z ok m kk h k=lookK P kt z' ok m' kk' h' k:=by subst e_z e_m e_kk e_h;rfl
theorem Z0s {x:AV} {k:K β} {x':AV} (e_x:x=x'):capK x k=capK x' k:=by subst e_x;rfl
theorem Z0t {x:AV} {i:Nat} {k:K β} {x':AV} (e_x:x=x'):exK x i k=exK x' i k:=by subst e_x;rfl
theorem Z0u {x:AV} {k:K β} {x':AV} (e_x:x=x'):lenK x k=lenK x' k:=by subst e_x;rfl
theorem Z0v {x:AV} {y:AV} {k:K β} {x':AV} {y':AV} (e_x:x=x') (e_y:y=y'):minK x y k=minK x' y' k:=by subst e_x e_y;rfl
theorem Z0w {x:AV} {y:AV} {k:K β} {x':AV} {y':AV} (e_x:x=x') (e_y:y=y'):maxK x y k=maxK x' y' k:=by subst e_x e_y;rfl
theorem Z0x {r:R} {h:Hp} {k:AV→Hp→Option β} {r':R} {h':Hp} (e_r:r=r') (e_h:h=h'):effK r h k=effK r' h' k:=by subst e_r e_h;rfl
theorem Z0y {F:Option Fun} {args:List AV} {h:Hp} {k:AV→Hp→Option β} {F':Option Fun} {args':List AV} {h':Hp} (e_F:F=F') (e_args:args=args') (e_h:h=h'):callK F args h k=callK F' args' h' k:=by subst e_F e_args e_h;rfl
theorem Z0z {T:Tab} {f:AV} {args:List AV} {h:Hp} {k:AV→Hp→Option β} {T':Tab} {f':AV} {args':List AV} {h':Hp} (e_T:T=T') (e_f:f=f') (e_args:args=args') (e_h:h=h'):callVK T f args h k=callVK T' f' args' h' k:=by subst e_T e_f e_args e_h;rfl
theorem Z0A {r:R} {h:Hp} {k:AV→Hp→Ent→Option β} {r':R} {h':Hp} (e_r:r=r') (e_h:h=h'):effD r h k=effD r' h' k:=by subst e_r e_h;rfl
theorem Z0B {g:Option Bool} {h:Hp} {run:(AV→Hp→Ent→Option β)→Option β} {k:AV→Hp→Ent→Option β} {g':Option Bool} {h':Hp} (e_g:g=g') (e_h:h=h'):gopD g h run k=gopD g' h' run k:=by subst e_g e_h;rfl
theorem Z0C {want:Bool} {x:AV} {h:Hp} {run:(AV→Hp→Option β)→Option β} {k:AV→Hp→Option β} {x':AV} {h':Hp} {run':(AV→Hp→Option β)→Option β} (e_x:x=x') (e_h:h=h') (e_run:∀K,run K=run' K):grpK want x h run k=grpK want x' h' run' k:=by
 have:run=run':=funext e_run
 subst e_x e_h this;rfl
theorem Z0D {c:AV} {a:Option β} {b:Option β} {c':AV} (e_c:c=c'):condK c a b=condK c' a b:=by subst e_c;rfl
theorem Z0E {α:Type} {c c':Bool} {a b:α} (e:c=c'):cond c a b=cond c' a b:=by subst e;rfl
end Go.AM


namespace Go.AM
open Go.Proofs
set_option linter.unusedVariables false
set_option linter.unusedSimpArgs false
set_option linter.constructorNameAsVariable false
set_option maxRecDepth 20000
attribute [local congr] Z0e Z0f Z0g Z0h Z0i Z0j Z0k Z0l Z0m Z0n Z0o Z0p Z0q Z0r Z0s Z0t Z0u Z0v Z0w Z0x Z0y Z0z Z0A Z0B Z0C Z0D Z0E
def isNode (n:Int):Bool:=decide (1≤n)&&decide (n≤99)
def formM (m:Msg):Bool:=
 if m.kind=1 then m.num==0&&isNode m.frm&&isNode m.to&&m.frm != m.to&&decide (1≤m.alc)&&decide (m.alc≤10737418240000)
 else if m.kind=2 then decide (1≤m.num)&&decide (m.num≤64)&&m.frm==0&&isNode m.to&&m.alc==0
 else if m.kind=3 then m.num==0&&m.frm==0&&m.to==0&&decide (0≤m.alc)&&decide (m.alc≤10737418240000)
 else m.num==0&&m.frm==0&&m.to==0&&m.alc==0
def rangeM (m:Msg):Bool:=decide (m.mv<1)||decide (1073741824<m.mv)||decide (m.kind<1)||decide (5<m.kind)||decide (m.day<0)||decide (100000<m.day)
def checkM (m:Msg):Int:=if rangeM m=true then 2 else if formM m=true then 0 else 1
theorem ZhM (n:Int) (h:Hp):Z7q [I n] h=some (B (isNode n),h):=Zp5 rfl (by simp [Z9Y,isNode]) h
theorem Zdk (m:Msg) (h:Hp):Z26 [.agg (encM m)] h=some (I (checkM m),h):=by
 refine Zpa (by simp [encM]) ?_ h
 obtain ⟨mv,kind,num,day,frm,to,alc⟩:=m
 obtain ⟨r,hr⟩:∃r,rangeM ⟨mv,kind,num,day,frm,to,alc⟩=r:=⟨_,rfl⟩
 have hr':=hr
 simp only [rangeM] at hr'
 simp only [checkM,hr]
 have b0:∀k:Go.AM.K AV,buildK [I 0,I 0,I 0,I 0,I 0,I 0,I 0] [(some (0,1),I mv),(some (1,1),I kind),(some (3,1),I day)] k=k (.agg [I mv,I kind,I 0,I day,I 0,I 0,I 0]):=fun k=>rfl
 simp only [Z9B,encM,encDo,Z07,Z1F,Nat.zero_add,Nat.add_zero,Nat.reduceAdd,Z28,Z29,Z2a,Z2b,Z2c,Z2d,Z2e,Z2f,Z2g,Z2h,Z2i,Z2j,Z2k,Z2l,Z2m,Z2n,Z2o,Z2p,Z2q,Z2r,Z2s,lw7_0,ew7_0,bx7_0,Z2t,Z2u,Z2v,Z2w,Z2x,Z2y,Z2z,Z2A,Z2B,Z2C,Z2D,Z2E,Z2F,Z2G,Z2H,Z2I,Z2J,Z2K,Z2L,Z2M,Z2N,lw7_1,ew7_1,bx7_1,Z1l,Z1m,Z1n,Z1d,Z1e,Z1o,Z1p,Z1q,Z1r,Z1s,Z1t,Z1u,Z1v,Z1w,Z1x,Z1y,Z1z,Z1A,Z1B,Z1C,Z1D,lw7_2,ew7_2,bx7_2,Z2O,Z2P,Z2Q,Z2R,Z2S,Z2T,Z2U,Z2V,Z2W,Z2X,Z2Y,Z2Z,Z30,Z31,Z32,Z33,Z34,Z35,Z36,Z37,Z38,lw7_3,ew7_3,bx7_3,Z1R,Z08,Z11,Z0L,Z0T,Z0M,Z0W,Z00,Z06,Z0J,Bool.false_xor,Bool.true_xor,Z03,Z15,Z0d,Z10,Z1Q,List.length_map,hr',b0]
 have n1:=ZhM frm
 have n2:=ZhM to
 clear hr hr'
 cases r with
 | true=>rfl
 | false=>
  by_cases k1:kind=1
  ·subst k1
   simp only [if_true,Bool.false_eq_true,if_false,beq_self_eq_true,ZcW,Z03,Z45,Z74,n1,n2,encM,encDo,Z07,Z1F,Nat.zero_add,Nat.add_zero,Nat.reduceAdd,Z28,Z29,Z2a,Z2b,Z2c,Z2d,Z2e,Z2f,Z2g,Z2h,Z2i,Z2j,Z2k,Z2l,Z2m,Z2n,Z2o,Z2p,Z2q,Z2r,Z2s,lw7_0,ew7_0,bx7_0,Z2t,Z2u,Z2v,Z2w,Z2x,Z2y,Z2z,Z2A,Z2B,Z2C,Z2D,Z2E,Z2F,Z2G,Z2H,Z2I,Z2J,Z2K,Z2L,Z2M,Z2N,lw7_1,ew7_1,bx7_1,Z1l,Z1m,Z1n,Z1d,Z1e,Z1o,Z1p,Z1q,Z1r,Z1s,Z1t,Z1u,Z1v,Z1w,Z1x,Z1y,Z1z,Z1A,Z1B,Z1C,Z1D,lw7_2,ew7_2,bx7_2,Z2O,Z2P,Z2Q,Z2R,Z2S,Z2T,Z2U,Z2V,Z2W,Z2X,Z2Y,Z2Z,Z30,Z31,Z32,Z33,Z34,Z35,Z36,Z37,Z38,lw7_3,ew7_3,bx7_3,Z1R,Z08,Z11,Z0L,Z0T,Z0M,Z0W,Z00,Z06,Z0J,Bool.false_xor,Bool.true_xor,Z03,Z15,Z0d,Z10,Z1Q,List.length_map,formM,show (disjAll [(3,7),(5,7),(5,9)] [([],[]),(idsOf (AV.ptr 0 0 4 1),[]),([],[]),(idsOf (AV.ptr 0 0 5 1),[]),([],[]),(idsOf (AV.ptr 0 0 6 1),[]),([],[]),([1],[1]),([],[]),([1],[1]),([],[]),([1],[1])])=true from rfl,cond_true,Z6J]
   clear n1 n2 b0
   by_cases h1:num=0
   ·subst h1
    simp only [beq_self_eq_true,Bool.true_and,Bool.and_self,Bool.not_true,Bool.or_false,show (frm != to) = !(frm==to) from rfl]
    generalize (isNode frm&&isNode to && !(frm==to)&&decide (1≤alc)&&decide (alc≤10737418240000))=e
    cases e<;>rfl
   ·simp [h1]
  by_cases k2:kind=2
  ·subst k2
   simp only [if_true,Bool.false_eq_true,if_false,beq_self_eq_true,ZcW,Z03,Z45,Z74,n1,n2,encM,encDo,Z07,Z1F,Nat.zero_add,Nat.add_zero,Nat.reduceAdd,Z28,Z29,Z2a,Z2b,Z2c,Z2d,Z2e,Z2f,Z2g,Z2h,Z2i,Z2j,Z2k,Z2l,Z2m,Z2n,Z2o,Z2p,Z2q,Z2r,Z2s,lw7_0,ew7_0,bx7_0,Z2t,Z2u,Z2v,Z2w,Z2x,Z2y,Z2z,Z2A,Z2B,Z2C,Z2D,Z2E,Z2F,Z2G,Z2H,Z2I,Z2J,Z2K,Z2L,Z2M,Z2N,lw7_1,ew7_1,bx7_1,Z1l,Z1m,Z1n,Z1d,Z1e,Z1o,Z1p,Z1q,Z1r,Z1s,Z1t,Z1u,Z1v,Z1w,Z1x,Z1y,Z1z,Z1A,Z1B,Z1C,Z1D,lw7_2,ew7_2,bx7_2,Z2O,Z2P,Z2Q,Z2R,Z2S,Z2T,Z2U,Z2V,Z2W,Z2X,Z2Y,Z2Z,Z30,Z31,Z32,Z33,Z34,Z35,Z36,Z37,Z38,lw7_3,ew7_3,bx7_3,Z1R,Z08,Z11,Z0L,Z0T,Z0M,Z0W,Z00,Z06,Z0J,Bool.false_xor,Bool.true_xor,Z03,Z15,Z0d,Z10,Z1Q,List.length_map,formM,show (disjAll [(3,5)] [([],[]),(idsOf (AV.ptr 0 0 2 1),[]),([],[]),(idsOf (AV.ptr 0 0 5 1),[]),([],[]),([1],[1]),([],[]),([1],[1])])=true from rfl,cond_true,Z6J,show ((2:Int)==1)=false from rfl,show ¬((2:Int)=1) by decide]
   clear n1 n2 b0
   by_cases h1:frm=0
   ·by_cases h2:alc=0
    ·subst h1 h2
     simp only [beq_self_eq_true,Bool.true_and,Bool.and_true,Bool.not_true,Bool.or_false]
     generalize (decide (1≤num)&&decide (num≤64)&&isNode to)=e
     cases e<;>rfl
    ·simp [h1,h2]
   ·simp [h1]
  by_cases k3:kind=3
  ·subst k3
   simp only [if_true,Bool.false_eq_true,if_false,beq_self_eq_true,ZcW,Z03,Z45,Z74,n1,n2,encM,encDo,Z07,Z1F,Nat.zero_add,Nat.add_zero,Nat.reduceAdd,Z28,Z29,Z2a,Z2b,Z2c,Z2d,Z2e,Z2f,Z2g,Z2h,Z2i,Z2j,Z2k,Z2l,Z2m,Z2n,Z2o,Z2p,Z2q,Z2r,Z2s,lw7_0,ew7_0,bx7_0,Z2t,Z2u,Z2v,Z2w,Z2x,Z2y,Z2z,Z2A,Z2B,Z2C,Z2D,Z2E,Z2F,Z2G,Z2H,Z2I,Z2J,Z2K,Z2L,Z2M,Z2N,lw7_1,ew7_1,bx7_1,Z1l,Z1m,Z1n,Z1d,Z1e,Z1o,Z1p,Z1q,Z1r,Z1s,Z1t,Z1u,Z1v,Z1w,Z1x,Z1y,Z1z,Z1A,Z1B,Z1C,Z1D,lw7_2,ew7_2,bx7_2,Z2O,Z2P,Z2Q,Z2R,Z2S,Z2T,Z2U,Z2V,Z2W,Z2X,Z2Y,Z2Z,Z30,Z31,Z32,Z33,Z34,Z35,Z36,Z37,Z38,lw7_3,ew7_3,bx7_3,Z1R,Z08,Z11,Z0L,Z0T,Z0M,Z0W,Z00,Z06,Z0J,Bool.false_xor,Bool.true_xor,Z03,Z15,Z0d,Z10,Z1Q,List.length_map,formM,Z6J,show ((3:Int)==1)=false from rfl,show ((3:Int)==2)=false from rfl,show ¬((3:Int)=1) by decide,show ¬((3:Int)=2) by decide]
   clear n1 n2 b0
   generalize hE:(decide (0≤alc)&&decide (alc≤10737418240000))=e
   have hA:∀x:Bool,(x&&decide (0≤alc)&&decide (alc≤10737418240000))=(x&&e):=fun x=>by rw [Bool.and_assoc,hE]
   rw [hA]
   by_cases h1:num=0<;>by_cases h2:frm=0<;>by_cases h3:to=0<;>simp [h1,h2,h3]<;>cases e<;>simp
  ·have e1:(kind==1)=false:=by simpa using k1
   have e2:(kind==2)=false:=by simpa using k2
   have e3:(kind==3)=false:=by simpa using k3
   simp only [if_true,Bool.false_eq_true,if_false,beq_self_eq_true,Z45,Z74,encM,encDo,Z07,Z1F,Nat.zero_add,Nat.add_zero,Nat.reduceAdd,Z28,Z29,Z2a,Z2b,Z2c,Z2d,Z2e,Z2f,Z2g,Z2h,Z2i,Z2j,Z2k,Z2l,Z2m,Z2n,Z2o,Z2p,Z2q,Z2r,Z2s,lw7_0,ew7_0,bx7_0,Z2t,Z2u,Z2v,Z2w,Z2x,Z2y,Z2z,Z2A,Z2B,Z2C,Z2D,Z2E,Z2F,Z2G,Z2H,Z2I,Z2J,Z2K,Z2L,Z2M,Z2N,lw7_1,ew7_1,bx7_1,Z1l,Z1m,Z1n,Z1d,Z1e,Z1o,Z1p,Z1q,Z1r,Z1s,Z1t,Z1u,Z1v,Z1w,Z1x,Z1y,Z1z,Z1A,Z1B,Z1C,Z1D,lw7_2,ew7_2,bx7_2,Z2O,Z2P,Z2Q,Z2R,Z2S,Z2T,Z2U,Z2V,Z2W,Z2X,Z2Y,Z2Z,Z30,Z31,Z32,Z33,Z34,Z35,Z36,Z37,Z38,lw7_3,ew7_3,bx7_3,Z1R,Z08,Z11,Z0L,Z0T,Z0M,Z0W,Z00,Z06,Z0J,Bool.false_xor,Bool.true_xor,Z03,Z15,Z0d,Z10,Z1Q,List.length_map,formM,Z6J,e1,e2,e3,k1,k2,k3]
   clear n1 n2 b0
   by_cases h1:num=0<;>by_cases h2:frm=0<;>by_cases h3:to=0<;>by_cases h4:alc=0<;>simp [h1,h2,h3,h4]
def cellsM (m:Msg):List Int:=[m.mv,m.kind,m.num,m.day,m.frm,m.to,m.alc]
def cmpZ (a b:Int):Int:=if a<b then -1 else if b<a then 1 else 0
theorem Zvr (a:Int) (h:Hp):Z7n [I a] h=some (B false,h):=ZoN rfl (by simp [Z9Z]) h
theorem Zvs (a b:Int) (h:Hp):Z4o [I a,I b] h=some (I (cmpZ a b),h):=by
 refine ZoS rfl ?_ h
 have n1:=Zvr
 by_cases h1:a<b
 ·simp [Z78,n1,h1,cmpZ]
 ·by_cases h2:b<a<;>simp [Z78,n1,h1,h2,cmpZ]
theorem ZhN (a b:Int) (h:Hp) (base:Nat):Z5z [I a,I b] h base=some (I (cmpZ a b),EF []):=(Z22 (Zvs a b h) base).trans (by simp [idss,ids])
def orZ:List Int→Int
 | []=>0
 | a::l=>if a≠0 then a else orZ l
theorem Or_L2 {T:Tab} {D:DTab} {N:Nat} {x0:AV→Hp→Option AV} {xr:AV→Hp→Option AV} {h:Hp} (l:List Int) (b:Bool) (hx:∀z,x0 (I z) h=xr (I z) h) (hl:l.length<1000):∀(n:Nat) (pre post:List Int),l=pre++post→post.length<n→
  Z49 Try.prog T D N x0 xr n (I 0) (.lst 1 b (l.map fun z=>[I z])) (I l.length) (I pre.length) h=xr (I (orZ post)) h:=by
 intro n
 induction n with
 | zero=>intro pre post _ h2;omega
 | succ n ih=>
  intro pre post hc hn
  show Z5s Try.prog T D N (Z49 Try.prog T D N x0 xr n) x0 xr _ _ _ _ h=_
  cases post with
  | nil=>
   have:l=pre:=by simpa using hc
   subst this
   simp only [Z5s,encM,encDo,Z07,Z1F,Nat.zero_add,Nat.add_zero,Nat.reduceAdd,Z28,Z29,Z2a,Z2b,Z2c,Z2d,Z2e,Z2f,Z2g,Z2h,Z2i,Z2j,Z2k,Z2l,Z2m,Z2n,Z2o,Z2p,Z2q,Z2r,Z2s,lw7_0,ew7_0,bx7_0,Z2t,Z2u,Z2v,Z2w,Z2x,Z2y,Z2z,Z2A,Z2B,Z2C,Z2D,Z2E,Z2F,Z2G,Z2H,Z2I,Z2J,Z2K,Z2L,Z2M,Z2N,lw7_1,ew7_1,bx7_1,Z1l,Z1m,Z1n,Z1d,Z1e,Z1o,Z1p,Z1q,Z1r,Z1s,Z1t,Z1u,Z1v,Z1w,Z1x,Z1y,Z1z,Z1A,Z1B,Z1C,Z1D,lw7_2,ew7_2,bx7_2,Z2O,Z2P,Z2Q,Z2R,Z2S,Z2T,Z2U,Z2V,Z2W,Z2X,Z2Y,Z2Z,Z30,Z31,Z32,Z33,Z34,Z35,Z36,Z37,Z38,lw7_3,ew7_3,bx7_3,Z1R,Z08,Z11,Z0L,Z0T,Z0M,Z0W,Z00,Z06,Z0J,Bool.false_xor,Bool.true_xor,Z03,Z15,Z0d,Z10,Z1Q,List.length_map]
   simp [orZ,hx]
  | cons c post=>
   have hi:pre.length<l.length:=by rw [hc];simp
   have hci:l[pre.length]? = some c:=by rw [hc];simp
   have hlt:((pre.length:Int)<(l.length:Int)):=by omega
   have hw:IntKind.i64.wrap ((pre.length:Int)+1)=(((pre++[c]).length:Nat):Int):=by rw [wrap64 (by omega) (by omega)];simp
   have ic:∀k:Go.AM.K AV,iaK 1 (.lst 1 b (l.map fun z=>[I z])) (I pre.length) k=k (.ep [I c] 0):=fun k=>Z0P pre.length rfl hci k
   have step:=ih (pre++[c]) post (by simpa using hc) (by simpa using hn)
   by_cases h0:c=0
   ·simp [Z5s,hlt,ic,h0,hw,orZ] at step ⊢
    exact step
   ·simp [Z5s,hlt,ic,h0,orZ]
theorem Zdl:∀ {n:Nat} {a b:List Int},a.length=n→b.length=n→orZ (List.zipWith cmpZ a b)=lexZ a b
 | 0,a,b,ha,hb=>by rw [List.eq_nil_of_length_eq_zero ha,List.eq_nil_of_length_eq_zero hb];rfl
 | n+1,[],b,ha,hb=>by simp at ha
 | n+1,a::l,[],ha,hb=>by simp at hb
 | n+1,a::l,b::r,ha,hb=>by
  have ih:=Zdl (n:=n) (a:=l) (b:=r) (by simpa using ha) (by simpa using hb)
  simp only [List.zipWith_cons_cons,orZ,lexZ,ih,cmpZ]
  by_cases h1:a<b
  ·simp [h1]
  ·by_cases h2:b<a<;>simp [h1,h2]
end Go.AM


namespace Go.AM
open Go.Proofs
set_option linter.unusedVariables false
set_option linter.unusedSimpArgs false
set_option linter.constructorNameAsVariable false
set_option maxRecDepth 20000
attribute [local congr] Z0e Z0f Z0g Z0h Z0i Z0j Z0k Z0l Z0m Z0n Z0o Z0p Z0q Z0r Z0s Z0t Z0u Z0v Z0w Z0x Z0y Z0z Z0A Z0B Z0C Z0D Z0E
theorem Z4u {β:Type} (v:AV) (ft:List Nat) (h:Hp) (k:AV→Hp→Ent→Option β):effD (some (v,EF ft)) h k=k v h (ft,[]):=by simp [effD,ap,wrOf]
theorem ZhO {β:Type} (v:AV) (o:AObj) (h:Hp) (k:AV→Hp→Ent→Option β):effD (some (v,EN o)) h k=k v (h++[o]) ([],[h.length]):=by simp [effD,ap,wrOf]
theorem ZhP (c:List Int) (hl:c.length<1000) {h:Hp} {id n:Nat} {b:Bool} (hid:h[id]? = some (.arr 1 (c.map fun z=>[I z]) true false)) (hn:c.length=n):Z4n [.sl 1 id 0 n n b] h=some (I (orZ c),h):=by
 subst hn
 refine (ZoH (a0 := .lst 1 false (c.map fun z=>[I z])) ?_ fun st => ?_)
 ·rw [Z17,Z0X hid (by simp) (by simp) (Z0U fun x=>rfl),Z16]
 ·have:=Or_L2 (T:=Z5y) (D:=Z5x) (N:=NN) (x0:=fun w7_3 h=>Z9E Try.prog Z5y Z5x NN (fun v g=>cvt st g v) w7_3 h) (xr:=fun w8_2 h=>cvt st h w8_2) (h:=[]) c false (fun z=>rfl) hl NN [] c rfl (by have:=NN_ge;omega)
  simp only [nrm,nrmC,Z77,Z0d,List.length_map]
  exact this.trans rfl
theorem Zvt (a b:Msg) (h:Hp):Z4H [.agg (encM a), .agg (encM b)] h=some (I (lexZ (cellsM a) (cellsM b)),h):=by
 refine ZpF (by simp [encM]) ?_ h
 obtain ⟨a0,a1,a2,a3,a4,a5,a6⟩:=a
 obtain ⟨b0,b1,b2,b3,b4,b5,b6⟩:=b
 have g:=ZhN
 have bs:∀(c0 c1 c2 c3 c4 c5 c6:Int),bsE 1 [.s (.int .i64 0)] 7 [(0,I c0),(1,I c1),(2,I c2),(3,I c3),(4,I c4),(5,I c5),(6,I c6)] ([AObj.arr 7 [[I a0,I a1,I a2,I a3,I a4,I a5,I a6]] true false, .arr 7 [[I b0,I b1,I b2,I b3,I b4,I b5,I b6]] true false]:Hp).length=some (.sl 1 2 0 7 7 true,EN (.arr 1 [[I c0],[I c1],[I c2],[I c3],[I c4],[I c5],[I c6]] true false)):=fun _ _ _ _ _ _ _=>rfl
 have go:∀(c0 c1 c2 c3 c4 c5 c6:Int) (o0 o1:AObj) (base:Nat),Z4E [.sl 1 2 0 7 7 true] [o0,o1, .arr 1 [[I c0],[I c1],[I c2],[I c3],[I c4],[I c5],[I c6]] true false] base=some (I (orZ [c0,c1,c2,c3,c4,c5,c6]),EF [2]):=fun c0 c1 c2 c3 c4 c5 c6 o0 o1 base=>
  (Z22 (ZhP [c0,c1,c2,c3,c4,c5,c6] (by simp) rfl rfl) base).trans rfl
 simp -implicitDefEqProofs only [Z9G,encM,encDo,Z07,Z1F,Nat.zero_add,Nat.add_zero,Nat.reduceAdd,Z28,Z29,Z2a,Z2b,Z2c,Z2d,Z2e,Z2f,Z2g,Z2h,Z2i,Z2j,Z2k,Z2l,Z2m,Z2n,Z2o,Z2p,Z2q,Z2r,Z2s,lw7_0,ew7_0,bx7_0,Z2t,Z2u,Z2v,Z2w,Z2x,Z2y,Z2z,Z2A,Z2B,Z2C,Z2D,Z2E,Z2F,Z2G,Z2H,Z2I,Z2J,Z2K,Z2L,Z2M,Z2N,lw7_1,ew7_1,bx7_1,Z1l,Z1m,Z1n,Z1d,Z1e,Z1o,Z1p,Z1q,Z1r,Z1s,Z1t,Z1u,Z1v,Z1w,Z1x,Z1y,Z1z,Z1A,Z1B,Z1C,Z1D,lw7_2,ew7_2,bx7_2,Z2O,Z2P,Z2Q,Z2R,Z2S,Z2T,Z2U,Z2V,Z2W,Z2X,Z2Y,Z2Z,Z30,Z31,Z32,Z33,Z34,Z35,Z36,Z37,Z38,lw7_3,ew7_3,bx7_3,Z1R,Z08,Z11,Z0L,Z0T,Z0M,Z0W,Z00,Z06,Z0J,Bool.false_xor,Bool.true_xor,Z03,Z15,Z0d,Z10,Z1Q,List.length_map,ZpB,ZpA,Z1G,g,Z4u,bs,ZhO,List.cons_append,List.nil_append,go]
 have:=Zdl (n:=7) (a:=[a0,a1,a2,a3,a4,a5,a6]) (b:=[b0,b1,b2,b3,b4,b5,b6]) rfl rfl
 simp only [List.zipWith_cons_cons,List.zipWith_nil_left] at this
 rw [this]
 rfl
theorem Zvu (x y:Docu) (n:Bool) (h:Hp) {β:Type} (k:Go.AM.K β):eqK Try.prog n 72 (.agg (encDo x)) (.agg (encDo y)) h k=k (B (xor n (x==y))):=by
 obtain ⟨a0,a1,a2,a3,a4,a5,a6⟩:=x
 obtain ⟨b0,b1,b2,b3,b4,b5,b6⟩:=y
 have:((⟨a0,a1,a2,a3,a4,a5,a6⟩:Docu)==⟨b0,b1,b2,b3,b4,b5,b6⟩)=((a0==b0)&&((a1==b1)&&((a2==b2)&&((a3==b3)&&((a4==b4)&&((a5==b5)&&((a6==b6)&&true))))))):=by
  rw [Bool.eq_iff_iff];simp
 simp only [encDo,Zlm,this]
theorem Z6k (x y:Msg) (n:Bool) (h:Hp) {β:Type} (k:Go.AM.K β):eqK Try.prog n 27 (.agg (encM x)) (.agg (encM y)) h k=k (B (xor n (x==y))):=by
 obtain ⟨a0,a1,a2,a3,a4,a5,a6⟩:=x
 obtain ⟨b0,b1,b2,b3,b4,b5,b6⟩:=y
 have:((⟨a0,a1,a2,a3,a4,a5,a6⟩:Msg)==⟨b0,b1,b2,b3,b4,b5,b6⟩)=((a0==b0)&&((a1==b1)&&((a2==b2)&&((a3==b3)&&((a4==b4)&&((a5==b5)&&((a6==b6)&&true))))))):=by
  rw [Bool.eq_iff_iff];simp
 simp only [encM,Z6J,this]
def goesS (a b:Docu):Bool:=
 if a.stage=1 then decide (1≤b.stage)&&decide (b.stage≤4)
 else if a.stage=2 then (b.stage==2||b.stage==4)&&a.got==b.got
 else if a.stage=3 then b.stage==3||b.stage==4&&b.got==0
 else if a.stage=4 then b.stage==4&&a.got==b.got
 else false
def laterS (a b:Docu):Bool:=
 if a.mv≠b.mv then false
 else if (a==b||a.stage==0||b.stage==5)=true then true
 else a.frm==b.frm&&a.sent==b.sent&&(decide (a.chg<b.chg)||(b.chg==a.chg&&a.to==b.to))&&goesS a b
theorem Zvv (a b:Docu) (h:Hp):Z8f [.agg (encDo a), .agg (encDo b)] h=some (B (goesS a b),h):=by
 refine ZuL (by simp [encDo]) ?_ h
 obtain ⟨a0,a1,a2,a3,a4,a5,a6⟩:=a
 obtain ⟨b0,b1,b2,b3,b4,b5,b6⟩:=b
 have l2:∀(o0 o1:AObj) (x y:AV) (k:Go.AM.K AV),ldK 2 true (.ptr 2 0 0 1) [o0,o1, .arr 2 [[x,y]] true false] k=k (.agg [x,y]):=fun _ _ _ _ _=>rfl
 have bd:∀(x y:Int) (k:Go.AM.K AV),buildK [.s (.int .i64 0), .s (.int .i64 0)] [(some (0,1),I x),(some (1,1),I y)] k=k (.agg [I x,I y]):=fun _ _ _=>rfl
 have bx:∀(o0 o1:AObj) (k:AV→Hp→Option AV),effK (boxE 2 (.agg [.s (.int .i64 0), .s (.int .i64 0)]) ([o0,o1]:Hp).length) [o0,o1] k=k (.ptr 2 0 0 1) [o0,o1, .arr 2 [[I 0,I 0]] true false]:=fun _ _ _=>rfl
 have st:∀(o0 o1:AObj) (x y:Int) (k:AV→Hp→Option AV),effK (stE 2 (.ptr 2 0 0 1) (.agg [I x,I y]) [o0,o1, .arr 2 [[I 0,I 0]] true false]) [o0,o1, .arr 2 [[I 0,I 0]] true false] k=k .u [o0,o1, .arr 2 [[I x,I y]] true false]:=fun _ _ _ _ k=>Z0H rfl k
 simp -implicitDefEqProofs only [Z9z,encM,encDo,Z07,Z1F,Nat.zero_add,Nat.add_zero,Nat.reduceAdd,Z28,Z29,Z2a,Z2b,Z2c,Z2d,Z2e,Z2f,Z2g,Z2h,Z2i,Z2j,Z2k,Z2l,Z2m,Z2n,Z2o,Z2p,Z2q,Z2r,Z2s,lw7_0,ew7_0,bx7_0,Z2t,Z2u,Z2v,Z2w,Z2x,Z2y,Z2z,Z2A,Z2B,Z2C,Z2D,Z2E,Z2F,Z2G,Z2H,Z2I,Z2J,Z2K,Z2L,Z2M,Z2N,lw7_1,ew7_1,bx7_1,Z1l,Z1m,Z1n,Z1d,Z1e,Z1o,Z1p,Z1q,Z1r,Z1s,Z1t,Z1u,Z1v,Z1w,Z1x,Z1y,Z1z,Z1A,Z1B,Z1C,Z1D,lw7_2,ew7_2,bx7_2,Z2O,Z2P,Z2Q,Z2R,Z2S,Z2T,Z2U,Z2V,Z2W,Z2X,Z2Y,Z2Z,Z30,Z31,Z32,Z33,Z34,Z35,Z36,Z37,Z38,lw7_3,ew7_3,bx7_3,Z1R,Z08,Z11,Z0L,Z0T,Z0M,Z0W,Z00,Z06,Z0J,Bool.false_xor,Bool.true_xor,Z03,Z15,Z0d,Z10,Z1Q,List.length_map,bd,bx,st,l2,Zln,goesS]
 by_cases h1:a1=1
 ·subst h1;simp
 ·have e1:(a1==1)=false:=by simpa using h1
  simp only [e1,h1,if_false,Bool.false_eq_true]
  by_cases h3:a1=3
  ·subst h3
   by_cases q1:b1=3
   ·subst q1;simp
   ·by_cases q2:b1=4
    ·subst q2;simp
    ·simp [q1,q2]
  ·by_cases h2:a1=2
   ·subst h2
    by_cases q1:b1=2
    ·subst q1;simp
    ·by_cases q2:b1=4
     ·subst q2;simp
     ·simp [q1,q2]
   ·by_cases h4:a1=4
    ·subst h4
     by_cases q2:b1=4
     ·subst q2;simp
     ·simp [q2]
    ·simp [h2,h3,h4]
theorem Zvw (a b:Docu) (h:Hp):Z8h [.agg (encDo a), .agg (encDo b)] h=some (B (laterS a b),h):=by
 refine ZuS (by simp [encDo]) ?_ h
 have fg:=Zvv a b
 have eq:=fun h k=>Zvu a b false h (β:=AV) k
 obtain ⟨e,he⟩:∃e,(a==b)=e:=⟨_,rfl⟩
 obtain ⟨g,hg⟩:∃g,goesS a b=g:=⟨_,rfl⟩
 simp only [laterS,he,hg]
 rw [he] at eq
 rw [hg] at fg
 clear he hg
 obtain ⟨a0,a1,a2,a3,a4,a5,a6⟩:=a
 obtain ⟨b0,b1,b2,b3,b4,b5,b6⟩:=b
 simp only [encDo] at fg eq
 simp -implicitDefEqProofs only [Z96,encM,encDo,Z07,Z1F,Nat.zero_add,Nat.add_zero,Nat.reduceAdd,Z28,Z29,Z2a,Z2b,Z2c,Z2d,Z2e,Z2f,Z2g,Z2h,Z2i,Z2j,Z2k,Z2l,Z2m,Z2n,Z2o,Z2p,Z2q,Z2r,Z2s,lw7_0,ew7_0,bx7_0,Z2t,Z2u,Z2v,Z2w,Z2x,Z2y,Z2z,Z2A,Z2B,Z2C,Z2D,Z2E,Z2F,Z2G,Z2H,Z2I,Z2J,Z2K,Z2L,Z2M,Z2N,lw7_1,ew7_1,bx7_1,Z1l,Z1m,Z1n,Z1d,Z1e,Z1o,Z1p,Z1q,Z1r,Z1s,Z1t,Z1u,Z1v,Z1w,Z1x,Z1y,Z1z,Z1A,Z1B,Z1C,Z1D,lw7_2,ew7_2,bx7_2,Z2O,Z2P,Z2Q,Z2R,Z2S,Z2T,Z2U,Z2V,Z2W,Z2X,Z2Y,Z2Z,Z30,Z31,Z32,Z33,Z34,Z35,Z36,Z37,Z38,lw7_3,ew7_3,bx7_3,Z1R,Z08,Z11,Z0L,Z0T,Z0M,Z0W,Z00,Z06,Z0J,Bool.false_xor,Bool.true_xor,Z03,Z15,Z0d,Z10,Z1Q,List.length_map,eq,ZuO,fg]
 by_cases h1:a0=b0
 ·subst h1
  simp only [beq_self_eq_true,Bool.not_true,Bool.false_eq_true,if_false,ne_eq,not_true_eq_false]
  cases e||a1==0||b1==5<;>rfl
 ·simp [h1]
end Go.AM


namespace Go.AM
open Go.Proofs
set_option linter.unusedVariables false
set_option linter.unusedSimpArgs false
set_option linter.constructorNameAsVariable false
set_option maxRecDepth 20000
attribute [local congr] Z0e Z0f Z0g Z0h Z0i Z0j Z0k Z0l Z0m Z0n Z0o Z0p Z0q Z0r Z0s Z0t Z0u Z0v Z0w Z0x Z0y Z0z Z0A Z0B Z0C Z0D Z0E
def compL:List Msg→List Msg
 | []=>[]
 | [a]=>[a]
 | a::b::l=>if a=b then compL (b::l) else a::compL (b::l)
theorem Zdm (y x:Msg):∀q:List Msg,compL (q++[y]++[x])=if y=x then compL (q++[y]) else compL (q++[y])++[x]
 | []=>by
  simp only [List.nil_append,List.cons_append,compL]
  split
  ·rename_i e;rw [e]
  ·rfl
 | [a]=>by
  have ih:=Zdm y x []
  simp only [List.nil_append,List.cons_append,compL] at ih ⊢
  split<;>split<;>simp_all
 | a::b::q=>by
  have ih:=Zdm y x (b::q)
  simp only [List.cons_append,compL] at ih ⊢
  rw [ih]
  split<;>split<;>simp_all
theorem ZbJ:∀l:List Msg,(compL l).length≤l.length
 | []=>by simp [compL]
 | [a]=>by simp [compL]
 | a::b::l=>by
  have:=ZbJ (b::l)
  simp only [compL,List.length_cons] at this ⊢
  split<;>simp at * <;> omega
theorem Z8n {l:List Msg} {i:Nat} {x:Msg} (hx:l[i]? = some x):l.take (i+1)=l.take i++[x]:=by
 rw [List.take_add_one,hx];rfl
theorem ZhQ {l:List Msg} {i:Nat} {x y:Msg} (hi:1≤i) (hx:l[i]? = some x) (hy:l[i-1]? = some y):compL (l.take (i+1))=if y=x then compL (l.take i) else compL (l.take i)++[x]:=by
 obtain ⟨j,rfl⟩:∃j,i=j+1:=⟨i-1,by omega⟩
 rw [Z8n hx,Z8n (by simpa using hy),Zdm]
theorem ld_el {β:Type} {W:List Msg} {id i n:Nat} {h:Hp} {b:Bool} {x:Msg} (hid:h[id]? = some (.arr 7 (W.map encM) true b)) (hn:W.length=n) (hx:W[i]? = some x) (k:Go.AM.K β):ldK 7 true (.ptr id i 0 n) h k=k (.agg (encM x)):=by
 simp [hid,hn,hx,encM]
theorem st_el {β:Type} {W:List Msg} {id i n:Nat} {h:Hp} {b:Bool} {x:Msg} (hid:h[id]? = some (.arr 7 (W.map encM) true b)) (hn:W.length=n) (hi:i<W.length) (k:AV→Hp→Option β):effK (stE 7 (.ptr id i 0 n) (.agg (encM x)) h) h k=k .u (h.set id (.arr 7 ((W.set i x).map encM) true b)):=by
 have hx:W[i]? = some W[i]:=List.getElem?_eq_getElem hi
 have:stE 7 (.ptr id i 0 n) (.agg (encM x)) h=some (.u,⟨[(id, .arr 7 ((W.map encM).set i (encM x)) true b)],[],[id]⟩):=by
  simp [hid,hn,hx,encM]
 rw [this,Z0H rfl,List.map_set]
theorem ia_sl {β:Type} {id off len fr:Nat} {b:Bool} {m:Int} (i:Nat) (hm:m=i) (hi:i<len) (k:Go.AM.K β):iaK 7 (.sl 7 id off len fr b) (I m) k=k (.ptr id (off+i) 0 fr):=by
 subst hm
 rw [ZkW (by omega) (by omega)]
 simp
theorem sl_lo {β:Type} {id n k:Nat} (hk:k≤n) (K:Go.AM.K β):sliceK 7 (.sl 7 id 0 n n false) (some (I k)) none none K=K (.sl 7 id k (n-k) n false):=by
 have:(0:Int)≤(k:Int):=by omega
 simp [sliceK,boundOr,hk]
theorem sl_hi {β:Type} {id n k:Nat} (hk:k≤n) (K:Go.AM.K β):sliceK 7 (.sl 7 id 0 n n false) none (some (I k)) none K=K (.sl 7 id 0 k n false):=by
 have:(0:Int)≤(k:Int):=by omega
 simp [sliceK,boundOr,hk]
abbrev zM:List AV:=[.s (.int .i64 0), .s (.int .i64 0), .s (.int .i64 0), .s (.int .i64 0), .s (.int .i64 0), .s (.int .i64 0), .s (.int .i64 0)]
theorem Zvx {β:Type} {T:Tab} {D:DTab} {N:Nat} {x2:AV→AV→Hp→Option β} {l:List Msg} {id k:Nat} {h0:Hp} (hid:id<h0.length) (hl:l.length<1000000):∀(n i:Nat) (W:List Msg) (w:Nat),1≤i→k+i≤l.length→l.length<k+i+n→
  W.length=l.length→w=(compL (l.take (k+i))).length→w+1≤k+i→W.take w=compL (l.take (k+i))→W.drop (k+i-1)=l.drop (k+i-1)→
  ∃W':List Msg,W'.length=l.length∧W'.take (compL l).length=compL l ∧
   Z3i Try.prog T D N x2 n (.sl 7 id 0 l.length l.length false) (I w) (.sl 7 id k (l.length-k) l.length false) (I i) (h0.set id (.arr 7 (W.map encM) true false)) =
    x2 (.sl 7 id 0 l.length l.length false) (I (compL l).length) (h0.set id (.arr 7 (W'.map encM) true false)):=by
 intro n
 induction n with
 | zero=>intro i W w _ h2 h3;omega
 | succ n ih=>
  intro i W w hi h2 h3 hW hw hwi ht hd
  have hget:(h0.set id (.arr 7 (W.map encM) true false))[id]? = some (.arr 7 (W.map encM) true false):=by simp [hid]
  rcases Nat.lt_or_ge (k+i) l.length with hlt | hge
  ·have hx:l[k+i]? = some l[k+i]:=List.getElem?_eq_getElem hlt
   have hy:l[k+i-1]? = some l[k+i-1]:=List.getElem?_eq_getElem (by omega)
   have hWx:W[k+i]? = some l[k+i]:=by
    have:=congrArg (fun q=>q[1]?) hd
    simp only [List.getElem?_drop] at this
    rw [show k+i-1+1=k+i by omega] at this
    rw [this,hx]
   have hWy:W[k+i-1]? = some l[k+i-1]:=by
    have:=congrArg (fun q=>q[0]?) hd
    simp only [List.getElem?_drop,Nat.add_zero] at this
    rw [this,hy]
   have hnx:=ZhQ (by omega) hx hy
   generalize hxx:l[k+i]=x at *
   generalize hyy:l[k+i-1]=y at *
   have c1:((i:Int)<((l.length-k:Nat):Int)):=by omega
   have w1:IntKind.i64.wrap ((i:Int)-1)=((i-1:Nat):Int):=by rw [wrap64 (by omega) (by omega)];omega
   have w2:IntKind.i64.wrap ((i:Int)+1)=((i+1:Nat):Int):=by rw [wrap64 (by omega) (by omega)];omega
   have w3:IntKind.i64.wrap ((w:Int)+1)=((w+1:Nat):Int):=by rw [wrap64 (by omega) (by omega)];omega
   have i1:∀K:Go.AM.K β,iaK 7 (.sl 7 id k (l.length-k) l.length false) (I i) K=K (.ptr id (k+i) 0 l.length):=fun K=>ia_sl i rfl (by omega) K
   have i2:∀K:Go.AM.K β,iaK 7 (.sl 7 id k (l.length-k) l.length false) (I ((i-1:Nat):Int)) K=K (.ptr id (k+(i-1)) 0 l.length):=fun K=>ia_sl (i-1) rfl (by omega) K
   have i3:∀K:Go.AM.K β,iaK 7 (.sl 7 id 0 l.length l.length false) (I w) K=K (.ptr id (0+w) 0 l.length):=fun K=>ia_sl w rfl (by omega) K
   have l1:=fun K:Go.AM.K β=>ld_el hget hW hWx K
   have l2:=fun K:Go.AM.K β=>ld_el (i:=k+(i-1)) hget hW (by rw [show k+(i-1)=k+i-1 by omega];exact hWy) K
   have s1:=fun K:AV→Hp→Option β=>st_el (i:=0+w) (x:=x) hget hW (by omega) K
   show ∃W',_∧_∧Z5u Try.prog T D N (Z3i Try.prog T D N x2 n) x2 _ _ _ _ _=_
   simp -implicitDefEqProofs only [Z5u,Z10,Z08,c1,decide_true,Z00,if_true,i1,l1,Z5c,w1,i2,l2,Z6k,Bool.true_xor,i3,s1,Z0I,w3,ZcG,Zgq,w2,List.set_set]
   by_cases hxy:y=x
   ·have e:(x==y)=true:=by simp [hxy]
    rw [if_pos hxy] at hnx
    simp only [e,Bool.not_true,Bool.false_eq_true,if_false]
    have hkk:k+(i+1)=k+i+1:=by omega
    obtain ⟨W',g1,g2,g3⟩:=ih (i+1) W w (by omega) (by omega) (by omega) hW (by rw [hkk,hnx];exact hw) (by omega) (by rw [hkk,hnx];exact ht) (by
     have:=congrArg (List.drop 1) hd
     simp only [List.drop_drop] at this
     rw [show k+(i+1)-1=k+i-1+1 by omega]
     exact this)
    exact ⟨W',g1,g2,g3⟩
   ·have e:(x==y)=false:=by simpa using Ne.symm hxy
    rw [if_neg hxy] at hnx
    simp only [e,Bool.not_false,if_true]
    have hkk:k+(i+1)=k+i+1:=by omega
    rw [Nat.zero_add]
    obtain ⟨W',g1,g2,g3⟩:=ih (i+1) (W.set w x) (w+1) (by omega) (by omega) (by omega) (by simpa using hW) (by rw [hkk,hnx,List.length_append, ← hw];rfl) (by omega) (by
     rw [hkk,hnx, ← ht]
     rw [List.take_add_one,List.take_set_of_le (Nat.le_refl _),List.getElem?_set_self (by omega)]
     rfl) (by
     have:=congrArg (List.drop 1) hd
     simp only [List.drop_drop] at this
     rw [show k+(i+1)-1=k+i-1+1 by omega,List.drop_set_of_lt (by omega)]
     exact this)
    exact ⟨W',g1,g2,g3⟩
  ·have hN:k+i=l.length:=by omega
   have c1:¬((i:Int)<((l.length-k:Nat):Int)):=by omega
   refine ⟨W,hW, ?_, ?_⟩
   ·rw [hN,List.take_length] at ht hw
    rw [← hw];exact ht
   ·show Z5u Try.prog T D N (Z3i Try.prog T D N x2 n) x2 _ _ _ _ _=_
    rw [hN,List.take_length] at hw
    simp only [Z5u,Z10,Z08,c1,decide_false,Z00,Bool.false_eq_true,if_false]
    rw [hw]
theorem Zvy {β:Type} {T:Tab} {D:DTab} {N:Nat} {xn:AV→AV→Hp→Option β} {x0:AV→Hp→Option β} {xr:AV→Hp→Option β} {W:List Msg} {id w n:Nat} {h:Hp} (hid:h[id]? = some (.arr 7 (W.map encM) true false)) (hW:W.length=n) (hw:w≤n):
  Z5t Try.prog T D N xn x0 xr (.sl 7 id 0 n n false) (I w) h=xr (.sl 7 id 0 w n false) (h.set id (.arr 7 ((W.take w).map encM++List.replicate (n-w) zM) true false)):=by
 have hc:clrE 7 zM (.sl 7 id w (n-w) n false) h=some (.tup [],⟨[(id, .arr 7 ((W.map encM).take w++List.replicate (n-w) zM++(W.map encM).drop (w+(n-w))) true false)],[],[id]⟩):=by
  simp only [clrE,hid]
  rw [if_pos (by simp [hW];omega)]
 simp only [Z5t,sl_lo hw,sl_hi hw]
 rw [hc,Z0H rfl]
 rw [show (W.map encM).drop (w+(n-w))=[] from List.drop_eq_nil_of_le (by simp;omega),List.append_nil,List.map_take]
theorem Zvz {β:Type} {T:Tab} {D:DTab} {N:Nat} {x0:AV→Hp→Option β} {xr:AV→Hp→Option β} {l:List Msg} {id:Nat} {h:Hp} (hid:h[id]? = some (.arr 7 (l.map encM) true false)) (hl:l.length<1000000) (hN:1000000≤N) (hx:∀v h,x0 v h=xr v h):∀(n i:Nat),1≤i→i≤l.length→l.length<i+n→compL (l.take i)=l.take i→
  Z3j Try.prog T D N x0 xr n (.sl 7 id 0 l.length l.length false) (I i) h=xr (.sl 7 id 0 (compL l).length l.length false) (h.set id (.arr 7 ((compL l).map encM++List.replicate (l.length-(compL l).length) zM) true false)):=by
 intro n
 have hlt0:id<h.length:=(List.getElem?_eq_some_iff.1 hid).1
 induction n with
 | zero=>intro i h1 h2 h3;omega
 | succ n ih=>
  intro i h1 h2 h3 hc
  show Z7a Try.prog T D N (Z3j Try.prog T D N x0 xr n) x0 xr _ _ _=_
  rcases Nat.lt_or_ge i l.length with hlt | hge
  ·have hx':l[i]? = some l[i]:=List.getElem?_eq_getElem hlt
   have hy:l[i-1]? = some l[i-1]:=List.getElem?_eq_getElem (by omega)
   have hnx:=ZhQ h1 hx' hy
   generalize hxx:l[i]=x at *
   generalize hyy:l[i-1]=y at *
   have c1:((i:Int)<(l.length:Int)):=by omega
   have w1:IntKind.i64.wrap ((i:Int)-1)=((i-1:Nat):Int):=by rw [wrap64 (by omega) (by omega)];omega
   have w2:IntKind.i64.wrap ((i:Int)+1)=((i+1:Nat):Int):=by rw [wrap64 (by omega) (by omega)];omega
   have i1:∀K:Go.AM.K β,iaK 7 (.sl 7 id 0 l.length l.length false) (I i) K=K (.ptr id (0+i) 0 l.length):=fun K=>ia_sl i rfl (by omega) K
   have i2:∀K:Go.AM.K β,iaK 7 (.sl 7 id 0 l.length l.length false) (I ((i-1:Nat):Int)) K=K (.ptr id (0+(i-1)) 0 l.length):=fun K=>ia_sl (i-1) rfl (by omega) K
   have l1:=fun K:Go.AM.K β=>ld_el (i:=0+i) hid rfl (by simpa using hx') K
   have l2:=fun K:Go.AM.K β=>ld_el (i:=0+(i-1)) hid rfl (by simpa using hy) K
   simp -implicitDefEqProofs only [Z7a,Z10,Z08,c1,decide_true,Z00,if_true,i1,l1,Z5c,w1,i2,l2,Z6k,Bool.false_xor,Z9K,Z0I,w2,sl_lo (Nat.le_of_lt hlt)]
   by_cases hxy:y=x
   ·have e:(x==y)=true:=by simp [hxy]
    rw [if_pos hxy] at hnx
    simp only [e,if_true]
    have hs:h=h.set id (.arr 7 (l.map encM) true false):=(Z1f hid).symm
    obtain ⟨W',g1,g2,g3⟩:=Zvx (T:=T) (D:=D) (N:=N) (x2:=fun w32_0 w32_3 h=>Z5t Try.prog T D N (Z3j Try.prog T D N x0 xr n) x0 xr w32_0 w32_3 h) (l:=l) (id:=id) (k:=i) (h0:=h) hlt0 hl N 1 l i (by omega) (by omega) (by omega) rfl (by rw [hnx,hc];simp;omega) (by omega) (by rw [hnx,hc]) rfl
    rw [← hs] at g3
    refine g3.trans ?_
    rw [Zvy (W:=W') (by simp [hlt0]) g1 (ZbJ l),List.set_set,g2]
   ·have e:(x==y)=false:=by simpa using Ne.symm hxy
    rw [if_neg hxy] at hnx
    simp only [e,Bool.false_eq_true,if_false]
    exact ih (i+1) (by omega) (by omega) (by omega) (by rw [hnx,hc,Z8n hx'])
  ·have hN:i=l.length:=by omega
   subst hN
   have c1:¬((l.length:Int)<(l.length:Int)):=by omega
   rw [List.take_length] at hc
   simp only [Z7a,Z10,Z08,c1,decide_false,Z00,Bool.false_eq_true,if_false,hx,hc,Nat.sub_self,List.replicate_zero,List.append_nil]
   rw [Z1f hid]
theorem ZvA {l:List Msg} {id:Nat} {h:Hp} (hid:h[id]? = some (.arr 7 (l.map encM) true false)) (hl:l.length<1000000):Z4I [.sl 7 id 0 l.length l.length false] h=some (.sl 7 id 0 (compL l).length l.length false,h.set id (.arr 7 ((compL l).map encM++List.replicate (l.length-(compL l).length) zM) true false)):=by
 rw [Zh4]
 by_cases h2:l.length<2
 ·have hc:compL l=l:=by
   match l,h2 with
   | [],_=>rfl
   | [a],_=>rfl
  have c1:((l.length:Int)<2):=by omega
  simp only [Z4A,Z10,Z08,c1,decide_true,Z00,if_true,hc,Nat.sub_self,List.replicate_zero,List.append_nil]
  rw [Z1f hid]
 ·have c1:¬((l.length:Int)<2):=by omega
  simp only [Z4A,Z10,Z08,c1,decide_false,Z00,Bool.false_eq_true,if_false]
  have:=Zvz (T:=Z5H) (D:=Z5G) (N:=NN) (x0:=fun w33_0 h=>Z9J Try.prog Z5H Z5G NN (fun v h=>some (v,h)) w33_0 h) (xr:=fun w34_2 h=>some (w34_2,h)) hid hl NN_ge (fun v h=>rfl) NN 1 (by omega) (by omega) (by have:=NN_ge;omega) (by
   match l,h2 with
   | a::l,_=>rfl)
  exact this
theorem ZvB (h:Hp):Z4I [nilS] h=some (nilS,h):=by
 rw [Zh4]
 simp [Z4A]
theorem ZbK (l:List Msg) (b:Bool) (hl:l.length<1000000) (h:Hp):Z13 [SLm b l] h=if (b&&l.isEmpty)=true then some (nilS,h) else some (.sl 7 (h.length+1) 0 l.length l.length false,h++[.arr 7 [] true false, .arr 7 (l.map encM) true false]):=by
 rw [Zpw]
 by_cases hb:(b&&l.isEmpty)=true
 ·simp [Z4y,hb]
 ·have hb':(b&&l.isEmpty)=false:=by simpa using hb
  have hle:l.length * 56≤140737488355328:=by omega
  have h2:((l.map encM).all fun e=>e.length==7)=true:=by simp [encM]
  simp [Z4y,hb',bsE,fillS,appE,readSl,hle,h2,ap]
def ltM (a b:Msg):Bool:=ltZ (cellsM a) (cellsM b)
def sortM (l:List Msg):List Msg:=l.mergeSort fun x y => !ltM y x
theorem ZvC (x y:List Int) (hx:x.length=7) (hy:y.length=7):Z4H [.agg (encZ x), .agg (encZ y)] []=some (.s (.int .i64 (lexZ x y)),[]):=by
 match x,hx,y,hy with
 | [a0,a1,a2,a3,a4,a5,a6],_,[b0,b1,b2,b3,b4,b5,b6],_=>exact Zvt ⟨a0,a1,a2,a3,a4,a5,a6⟩ ⟨b0,b1,b2,b3,b4,b5,b6⟩ []
theorem ZvD {l:List Msg} {id:Nat} {h:Hp} {b:Bool} (hid:h[id]? = some (.arr 7 (l.map encM) true b)) (hl:l.length<1000000):Z7x [.sl 7 id 0 l.length l.length false, .fn 84 []] h=some (.tup [],h.set id (.arr 7 ((sortM l).map encM) true b)):=by
 have e1:((l.map encM).drop 0).take l.length=(l.map cellsM).map encZ:=by
  rw [List.drop_zero,List.map_map,List.take_of_length_le (by simp)]
  rfl
 refine (Zos (g:=84) ZvC hid (by simp) (by simp) (by omega) (l:=l.map cellsM) (by simp [cellsM]) e1).trans ?_
 have e2:(l.map cellsM).mergeSort (fun x y => !ltZ y x)=(sortM l).map cellsM:=by
  unfold sortM
  rw [List.map_mergeSort]
  intro a _ b _
  rfl
 rw [e2,List.map_map,show encZ ∘ cellsM=encM from rfl,List.take_zero,List.nil_append,List.drop_eq_nil_of_le (by simp),List.append_nil]
theorem ZvE (h:Hp):Z7x [nilS, .fn 84 []] h=some (.tup [],h):=rfl
def normL (l:List Msg):List Msg:=compL (sortM l)
section
variable {β:Type} {P:Program} {T:Tab} {D:DTab} {N:Nat} {K:AV→Hp→Option β}
theorem ZvF {x0:Hp→Option β} {xr:AV→Hp→Option β} {l:List Msg} {b:Bool} {fv:AV} {h:Hp} {p:Msg→Bool} (hl:l.length<4611686018427387904) (hp:∀x ∈ l,∀k:AV→Hp→Option β,callVK T fv [.agg (encM x)] h k=k (B (p x)) h):
  ∀(n i:Nat),i≤l.length→l.length<i+n→Z24 P T D N x0 xr n (.lst 7 b (l.map encM)) fv (I l.length) (I i) h=match (l.drop i).findIdx? p with | some j=>xr (I ((i+j:Nat):Int)) h | none=>x0 h:=by
 intro n
 induction n with
 | zero=>intro i h1 h2;omega
 | succ n ih=>
  intro i h1 h2
  show Z5m P T D N (Z24 P T D N x0 xr n) x0 xr _ _ _ _ h=_
  unfold Z5m
  rcases Nat.lt_or_ge i l.length with hi | hi
  ·have hx:l[i]? = some l[i]:=List.getElem?_eq_getElem hi
   have hlt:((i:Int)<(l.length:Int)):=by omega
   have hw:IntKind.i64.wrap ((i:Int)+1)=((i+1:Nat):Int):=by rw [wrap64 (by omega) (by omega)];omega
   have hpx:=hp l[i] (List.getElem_mem hi)
   rw [List.drop_eq_getElem_cons hi,List.findIdx?_cons]
   simp [hlt,hx,hw,encM] at hpx ⊢
   rw [hpx]
   cases hc:p l[i] with
   | true=>simp
   | false=>
    have h3:=ih (i+1) hi (by omega)
    rw [show ((i:Int)+1)=((i+1:Nat):Int) by omega]
    simp only [Bool.false_eq_true,if_false]
    refine h3.trans ?_
    cases (List.drop (i+1) l).findIdx? p with
    | none=>rfl
    | some j=>
     show xr (I ((i+1+j:Nat):Int)) h=xr (I ((i+(j+1):Nat):Int)) h
     rw [show i+1+j=i+(j+1) by omega]
  ·have:i=l.length:=by omega
   subst this
   simp
theorem ZvG {l:List Msg} {b:Bool} {fv:AV} {h:Hp} {p:Msg→Bool} {K:AV→Hp→Option β} (hl:l.length<N) (hN:N<4611686018427387904) (hp:∀x ∈ l,∀k:AV→Hp→Option β,callVK T fv [.agg (encM x)] h k=k (B (p x)) h):
  Z25 P T D N K (.lst 7 b (l.map encM)) fv h=K (I (match l.findIdx? p with | some j=>(j:Int) | none => -1)) h:=by
 unfold Z25
 simp only [Z0d,List.length_map]
 have:=ZvF (P:=P) (D:=D) (N:=N) (b:=b) (x0:=fun h=>Z6Y P T D N K h) (xr:=fun a h=>K a h) (by omega) hp N 0 (Nat.zero_le _) (by omega)
 simp only [List.drop_zero] at this
 refine this.trans ?_
 cases l.findIdx? p with
 | none=>rfl
 | some j=>simp
end
theorem ZvH (m:Msg) (h:Hp):Z4F [.agg (encM m)] h=some (B (checkM m != 0),h):=by
 refine Zpg (by simp [encM]) ?_ h
 have f:=Zdk m
 obtain ⟨a0,a1,a2,a3,a4,a5,a6⟩:=m
 simp only [encM] at f
 simp -implicitDefEqProofs only [Z9F,encM,encDo,Z07,Z1F,Nat.zero_add,Nat.add_zero,Nat.reduceAdd,Z28,Z29,Z2a,Z2b,Z2c,Z2d,Z2e,Z2f,Z2g,Z2h,Z2i,Z2j,Z2k,Z2l,Z2m,Z2n,Z2o,Z2p,Z2q,Z2r,Z2s,lw7_0,ew7_0,bx7_0,Z2t,Z2u,Z2v,Z2w,Z2x,Z2y,Z2z,Z2A,Z2B,Z2C,Z2D,Z2E,Z2F,Z2G,Z2H,Z2I,Z2J,Z2K,Z2L,Z2M,Z2N,lw7_1,ew7_1,bx7_1,Z1l,Z1m,Z1n,Z1d,Z1e,Z1o,Z1p,Z1q,Z1r,Z1s,Z1t,Z1u,Z1v,Z1w,Z1x,Z1y,Z1z,Z1A,Z1B,Z1C,Z1D,lw7_2,ew7_2,bx7_2,Z2O,Z2P,Z2Q,Z2R,Z2S,Z2T,Z2U,Z2V,Z2W,Z2X,Z2Y,Z2Z,Z30,Z31,Z32,Z33,Z34,Z35,Z36,Z37,Z38,lw7_3,ew7_3,bx7_3,Z1R,Z08,Z11,Z0L,Z0T,Z0M,Z0W,Z00,Z06,Z0J,Bool.false_xor,Bool.true_xor,Z03,Z15,Z0d,Z10,Z1Q,List.length_map,Zpd,f]
 rfl
theorem ZvI (l:List Msg) (hl:l.length<1000000) (b:Bool) (h:Hp):Z7w [SLm b l, .fn 82 []] h=some (B (l.any fun m=>checkM m != 0),h):=by
 have e:∀h,Z7u [SLm b l, .fn 82 []] h=some (I (match l.findIdx? (fun m=>checkM m != 0) with | some j=>(j:Int) | none => -1),h):=
  Zpm rfl (by
   simp only [nrm,nrmC]
   rw [ZvG (p:=fun m=>checkM m != 0) (by have:=NN_ge;omega) NN_lt (fun x hx k=>by simp [ZvH])]
   rfl)
 refine Zpt rfl ?_ h
 simp only [nrm,nrmC,Z4x,Zpp,Z03,e]
 have:(l.any fun m=>checkM m != 0)=(l.findIdx? fun m=>checkM m != 0).isSome:=by rw [List.findIdx?_isSome]
 rw [this]
 cases l.findIdx? (fun m=>checkM m != 0)<;>simp
def errM (l:List Msg):Int:=if 64<l.length then 8 else if (l.any fun m=>checkM m != 0)=true then 1 else 0
theorem Z6l (l:List Msg):(normL l).length≤l.length:=by
 have:=ZbJ (sortM l)
 unfold normL
 unfold sortM at this ⊢
 rwa [List.length_mergeSort] at this
theorem ZhR {l:List Msg}:compL l=[]↔l=[]:=by
 match l with
 | []=>simp [compL]
 | [a]=>simp [compL]
 | a::b::l=>
  have ih:=@ZhR (b::l)
  simp only [compL]
  split<;>simp_all
theorem ZhS (l:List Msg):(sortM l).length=l.length:=by unfold sortM;rw [List.length_mergeSort]
theorem ZhT (l:List Msg):(normL l).isEmpty=l.isEmpty:=by
 rw [Bool.eq_iff_iff,List.isEmpty_iff,List.isEmpty_iff]
 unfold normL
 rw [ZhR, ← List.length_eq_zero_iff,ZhS,List.length_eq_zero_iff]
def normR (b:Bool) (l:List Msg):AV := .tup [if errM l=0 then SLm b (normL l) else .lst 7 true [],I (errM l)]
theorem ZhU (l:List Msg) (b:Bool) (hl:l.length<1000000):∀st,(Z3L Try.prog Z1J Z5I NN (fun v g=>cvt st g v) (SLm b l) [])=some (.tup [if errM l=0 then (if (b&&l.isEmpty)=true then nilS else SLm b (normL l)) else nilS,I (errM l)]):=by
 intro st
 have f1:=ZvI l hl b
 have f2:=ZbK l b hl
 by_cases h1:64<l.length
 ·have c1:((64:Int)<(l.length:Int)):=by omega
  simp [Z3L,c1,errM,h1]
 ·have c1:¬((64:Int)<(l.length:Int)):=by omega
  cases h2:(l.any fun m=>checkM m != 0) with
  | true=>
   rw [h2] at f1
   simp only [Z3L,Z0d,List.length_map,Z0L,c1,decide_false,Z00,Bool.false_eq_true,if_false,Zh5,Z03,f1,if_true,errM,h1,h2]
   rfl
  | false=>
   rw [h2] at f1
   simp only [Z3L,Z0d,List.length_map,Z0L,c1,decide_false,Z00,Bool.false_eq_true,if_false,Zh5,ZpN,ZpO,ZpP,Z03,f1,errM,h1,h2,f2,if_true]
   by_cases hb:(b&&l.isEmpty)=true
   ·simp only [hb,if_true,ZvE,ZvB]
    rfl
   ·have hb':(b&&l.isEmpty)=false:=by simpa using hb
    simp only [hb',Bool.false_eq_true,if_false,List.length_nil,Nat.zero_add,List.nil_append]
    rw [ZvD (l:=l) (b:=false) rfl hl]
    simp only [List.set_cons_succ,List.set_cons_zero]
    have hs:=ZhS l
    have:=ZvA (l:=sortM l) (id:=1) (h:=[.arr 7 [] true false, .arr 7 ((sortM l).map encM) true false]) rfl (by omega)
    rw [hs] at this
    rw [this]
    simp only [List.set_cons_succ,List.set_cons_zero,Z3g,Z17,Z16,cvt_s]
    have hn:(compL (sortM l)).length≤l.length:=by have:=ZbJ (sortM l);omega
    have:cvt st [.arr 7 [] true false, .arr 7 ((compL (sortM l)).map encM++List.replicate (l.length-(compL (sortM l)).length) zM) true false] (.sl 7 1 0 (compL (sortM l)).length l.length false)=some (.lst 7 false ((compL (sortM l)).map encM)):=by
     have ok:okE st ((compL (sortM l)).map encM)=true:=Z0U fun x=>by cases st<;>simp [encM,isS]
     have tk:(((compL (sortM l)).map encM++List.replicate (l.length-(compL (sortM l)).length) zM).drop 0).take (compL (sortM l)).length=(compL (sortM l)).map encM:=by
      rw [List.drop_zero,List.take_append_of_le_length (by simp),List.take_of_length_le (by simp)]
     have hg:([.arr 7 [] true false, .arr 7 ((compL (sortM l)).map encM++List.replicate (l.length-(compL (sortM l)).length) zM) true false]:Hp)[1]? = some (.arr 7 ((compL (sortM l)).map encM++List.replicate (l.length-(compL (sortM l)).length) zM) true false):=rfl
     unfold cvt
     rw [hg]
     simp only []
     rw [if_pos (by simp;omega),tk,if_pos ok]
    rw [this]
    show some (AV.tup [AV.lst 7 false ((normL l).map encM),I 0])=some (.tup [.lst 7 (b&&(normL l).isEmpty) ((normL l).map encM),I 0])
    rw [ZhT,hb']
theorem ZhV (l:List Msg) (b:Bool) (h:Hp):(some (nrmR [.l 7, .o] (AV.tup [if errM l=0 then (if (b&&l.isEmpty)=true then nilS else SLm b (normL l)) else nilS,I (errM l)]),h):Option (AV × Hp))=some (normR b l,h):=by
 unfold normR
 by_cases h0:errM l=0
 ·simp only [h0,if_true]
  by_cases hb:(b&&l.isEmpty)=true
  ·have hb2:(b&&(normL l).isEmpty)=true:=by rw [ZhT];exact hb
   have hn:normL l=[]:=by simpa using (Bool.and_eq_true_iff.1 hb2).2
   have hb1:=(Bool.and_eq_true_iff.1 hb).1
   subst hb1
   simp only [hb,if_true,SLm,hn,List.map_nil]
   rfl
  ·rw [if_neg hb]
   rfl
 ·simp only [h0,if_false]
  rfl
theorem ZvJ (l:List Msg) (b:Bool) (hl:l.length<1000000) (h:Hp):Z1X [SLm b l] h=some (normR b l,h):=
 (ZpR (a0:=SLm b l) rfl (ZhU l b hl false) h).trans (ZhV l b h)
theorem ZhW (l:List Msg) {b:Bool} (hl:l.length<1000000) {h:Hp} {v a:AV} (hv:cvts false h [v]=some [a]) (ha:nrm (.l 7) a=SLm b l):Z1X [v] h=some (normR b l,h):=
 (ZpS (a0:=a) hv (fun st=>by rw [ha];exact ZhU l b hl st)).trans (ZhV l b h)
end Go.AM


namespace Go.AM
set_option linter.unusedVariables false
set_option linter.unusedSimpArgs false
section
variable {β α:Type}
theorem Z0F {r:R} {v:AV} {id:Nat} {o:AObj} {ft:List Nat} {h:Hp} (hr:r=some (v,⟨[(id,o)],[],ft⟩)) (k:AV→Hp→Option β):effK r h k=k v (h.set id o):=by subst hr;simp [effK,ap]
theorem ldE {f:α→List AV} {sz:Nat} {W:List α} {id i n:Nat} {h:Hp} {b:Bool} {x:α} (hf:(f x).length=sz) (hid:h[id]? = some (.arr sz (W.map f) true b)) (hn:W.length=n) (hx:W[i]? = some x) (k:K β):ldK sz true (.ptr id i 0 n) h k=k (.agg (f x)):=by
 subst hf
 simp [hid,hn,hx,pickC]
theorem stEl {f:α→List AV} {sz:Nat} {W:List α} {id i n:Nat} {h:Hp} {b:Bool} {x:α} (hf:∀x,(f x).length=sz) (ho:(f x).all okC=true) (hid:h[id]? = some (.arr sz (W.map f) true b)) (hn:W.length=n) (hi:i<W.length) (k:AV→Hp→Option β):effK (stE sz (.ptr id i 0 n) (.agg (f x)) h) h k=k .u (h.set id (.arr sz ((W.set i x).map f) true b)):=by
 have hx:W[i]? = some W[i]:=List.getElem?_eq_getElem hi
 have:stE sz (.ptr id i 0 n) (.agg (f x)) h=some (.u,⟨[(id, .arr sz ((W.map f).set i (f x)) true b)],[],[id]⟩):=by
  have e1:=hf x
  have e2:=hf W[i]
  rw [Z0G,hid]
  simp only [List.length_map,hn,cellsOf,e1,ho,List.getElem?_map,hx,Option.map_some,e2,Nat.zero_add,Nat.le_refl,if_true,true_and,and_self]
  simp only [putAt,e1,List.take_zero,List.nil_append,Nat.zero_add]
  rw [List.drop_eq_nil_of_le (by omega),List.append_nil]
 rw [Z0F this,List.map_set]
end
structure Kept (h hh:Hp) (k:Nat):Prop where
 len:h.length≤hh.length
 same:∀j,j≠k→j<h.length→hh[j]? = h[j]?
theorem Kept.refl (h:Hp) (k:Nat):Kept h h k:=⟨Nat.le_refl _,fun _ _ _=>rfl⟩
theorem Kept.app {h hh:Hp} {k:Nat} (K:Kept h hh k) (g:Hp):Kept h (hh++g) k:=⟨by have:=K.len;simp;omega,fun j h1 h2=>by rw [List.getElem?_append_left (by have:=K.len;omega)];exact K.same j h1 h2⟩
theorem Kept.set {h hh:Hp} {k:Nat} (K:Kept h hh k) (o:AObj):Kept h (hh.set k o) k:=⟨by have:=K.len;simpa using this,fun j h1 h2=>by rw [List.getElem?_set_ne (Ne.symm h1)];exact K.same j h1 h2⟩
structure DelInv {α:Type} (f:α→List AV) (p:α→Bool) (sz:Nat) (l:List α) (h:Hp) (k i w:Nat) (hh:Hp) (W:List α):Prop where
 kept:Kept h hh k
 at_:hh[k]? = some (.arr sz (W.map f) true false)
 len:W.length=l.length
 hw:w=((l.take i).filter fun x => !p x).length
 pre:W.take w=(l.take i).filter fun x => !p x
 post:W.drop i=l.drop i
section
variable {α:Type} {f:α→List AV} {p:α→Bool} {sz:Nat} {l:List α} {h:Hp} {k i w:Nat} {hh:Hp} {W:List α}
theorem DelInv.wi (I:DelInv f p sz l h k i w hh W):w≤i:=by
 rw [I.hw]
 exact Nat.le_trans (List.length_filter_le _ _) (by rw [List.length_take];omega)
theorem DelInv.wl (I:DelInv f p sz l h k i w hh W):w≤l.length:=by
 rw [I.hw]
 exact Nat.le_trans (List.length_filter_le _ _) (by rw [List.length_take];omega)
theorem DelInv.get (I:DelInv f p sz l h k i w hh W) {x:α} (hx:l[i]? = some x):W[i]? = some x:=by
 have:=congrArg (fun q=>q[0]?) I.post
 simpa [hx] using this
theorem ZhX {l:List α} {i:Nat} {x:α} (hx:l[i]? = some x):l.take (i+1)=l.take i++[x]:=by rw [List.take_add_one,hx];rfl
theorem DelInv.skip (I:DelInv f p sz l h k i w hh W) {x:α} (hx:l[i]? = some x) (hp:p x=true) (g:Hp):DelInv f p sz l h k (i+1) w (hh++g) W:=by
 have e:(l.take (i+1)).filter (fun x => !p x)=(l.take i).filter fun x => !p x:=by rw [ZhX hx];simp [hp]
 refine ⟨I.kept.app g,Z09 I.at_,I.len,by rw [e];exact I.hw,by rw [e];exact I.pre, ?_⟩
 have:=congrArg (List.drop 1) I.post
 simpa [List.drop_drop] using this
theorem DelInv.keep (I:DelInv f p sz l h k i w hh W) {x:α} (hx:l[i]? = some x) (hp:p x=false) (g:Hp):DelInv f p sz l h k (i+1) (w+1) ((hh++g).set k (.arr sz ((W.set w x).map f) true false)) (W.set w x):=by
 have hi:=(List.getElem?_eq_some_iff.1 hx).1
 have hw:=I.wi
 have hl:=I.len
 have e:(l.take (i+1)).filter (fun x => !p x)=((l.take i).filter fun x => !p x)++[x]:=by rw [ZhX hx];simp [hp]
 refine ⟨(I.kept.app g).set _, ?_,by simpa using hl,by rw [e,List.length_append, ← I.hw];rfl, ?_, ?_⟩
 ·have:=(List.getElem?_eq_some_iff.1 (Z09 (g:=g) I.at_)).1
  rw [List.getElem?_set_self this]
 ·rw [e, ← I.pre,List.take_add_one,List.take_set,List.getElem?_set_self (by omega),List.set_eq_of_length_le (by rw [List.length_take];omega)]
  rfl
 ·rw [List.drop_set_of_lt (by omega)]
  have:=congrArg (List.drop 1) I.post
  simpa [List.drop_drop] using this
theorem ZhY {β:Type} {z:List AV} {fr:Nat} {full:Bool} (hat:hh[k]? = some (.arr sz (W.map f) true false)) (hw:w≤W.length) (hfr:fr=W.length) (K:AV→Hp→Option β):
  effK (clrE sz z (.sl sz k w (W.length-w) fr full) hh) hh K=K (.tup []) (hh.set k (.arr sz ((W.take w).map f++List.replicate (W.length-w) z) true false)):=by
 have:clrE sz z (.sl sz k w (W.length-w) fr full) hh=some (.tup [],⟨[(k, .arr sz ((W.take w).map f++List.replicate (W.length-w) z) true false)],[],[k]⟩):=by
  have e:w+(W.length-w)=W.length:=by omega
  simp only [clrE,hat,List.length_map,hfr,e,Nat.le_refl,and_self,if_true]
  rw [List.drop_eq_nil_of_le (by simp),List.append_nil,List.map_take]
 rw [Z0F this]
end
end Go.AM


namespace Go.AM
set_option linter.unusedVariables false
set_option linter.unusedSimpArgs false
set_option linter.constructorNameAsVariable false
set_option maxRecDepth 30000
variable {β:Type} {P:Program} {kt:TypeId} {kk:IntKind}
structure TwoInts (P:Program) (kt:TypeId) (t:TypeId):Prop where
 st : ∃ fs : Array Field, P.underlying kt = some (.struct fs) ∧ ∃ f0 f1 : Field, fs = #[f0, f1] ∧ f0.type = t ∧ f1.type = t ∧ f0.offset = 0 ∧ f1.offset = 1 ∧ (f0.name = "_") = False ∧ (f1.name = "_") = False
 it:P.underlying t=some (.int .i64)
 held:P.stoodInHeld kt=false
theorem Z6m {t:TypeId} (it:P.underlying t=some (.int .i64)) (cs:Array Value) (i:Nat) {v:Value} (hv:cs[i]? = some v):pureVal P (part t cs i)=some v:=by
 unfold part
 rw [Z1h]
 have:pureVal P (isAgg t)=some false:=by
  unfold isAgg
  rw [Z1h,Z4w it]
  rfl
 rw [this,Option.bind_some]
 simp [hv]
 rfl
theorem ZhZ {t:TypeId} (it:P.underlying t=some (.int .i64)) (d:Nat) (a b:Int):pureVal P (Op.equalIn (d+1) t (.int .i64 a) (.int .i64 b))=some (a==b):=by
 unfold Op.equalIn
 rw [Z1h,Z4w it]
 rfl
theorem ZvK {t:TypeId} (H:TwoInts P kt t) (a b c e:Int):pureVal P (Op.equal kt (.agg #[.int .i64 a, .int .i64 b]) (.agg #[.int .i64 c, .int .i64 e]))=some (a==c&&b==e):=by
 obtain ⟨⟨fs,hu,f0,f1,rfl,t0,t1,o0,o1,q0,q1⟩,it,hh⟩:=H
 unfold Op.equal
 rw [show Op.maxDepth=(Op.maxDepth-2)+1+1 from rfl]
 unfold Op.equalIn
 rw [Z1h,Z4w hu]
 simp only [Option.bind_some]
 have pp:pureVal P program=some P:=rfl
 have e0:=Z6m it #[.int .i64 a, .int .i64 b] 0 (v := .int .i64 a) rfl
 have e1:=Z6m it #[.int .i64 a, .int .i64 b] 1 (v := .int .i64 b) rfl
 have e2:=Z6m it #[.int .i64 c, .int .i64 e] 0 (v := .int .i64 c) rfl
 have e3:=Z6m it #[.int .i64 c, .int .i64 e] 1 (v := .int .i64 e) rfl
 have g0:=ZhZ it (Op.maxDepth-2) a c
 have g1:=ZhZ it (Op.maxDepth-2) b e
 rw [Z1h,pp,Option.bind_some,hh]
 simp only [Bool.false_eq_true,if_false, ← Array.forIn_toList,List.forIn_cons,List.forIn_nil,Z1h,t0,t1,o0,o1,q0,q1,e0,e1,e2,e3,g0,g1,Option.bind_some,ne_eq,not_false_eq_true,if_true]
 cases h1:(a==c)<;>cases h2:(b==e)<;>simp [h1,h2,Z1h,Zfs,e1,e3,g1]
theorem Zdn {t:TypeId} (H:TwoInts P kt t) (a b c e:Int):keyEq P kt (.agg #[.int .i64 a, .int .i64 b]) (.agg #[.int .i64 c, .int .i64 e])=some (decide ((a,b)=(c,e))):=by
 unfold keyEq
 rw [ZvK H]
 by_cases h1:a=c
 ·by_cases h2:b=e
  ·subst h1 h2
   have:Instr.sameBits 10000 (.agg #[.int .i64 a, .int .i64 b]) (.agg #[.int .i64 a, .int .i64 b])=true:=by simp [Instr.sameBits]
   simp [this]
  ·have:(b==e)=false:=by simpa using h2
   rw [this]
   simp [h2]
 ·have:(a==c)=false:=by simpa using h1
  rw [this]
  simp [h1]
theorem ZbL {t:TypeId} (H:TwoInts P kt t) (a b:Int):keyOk P kt (.agg #[.int .i64 a, .int .i64 b])=true:=by
 obtain ⟨⟨fs,hu,f0,f1,rfl,t0,t1,o0,o1,q0,q1⟩,it,hh⟩:=H
 have ck:∀(m:Bool) (n:Nat) (v:Int),pureVal P (Instr.checkKey m (n+1) t (.int .i64 v))=some ():=by
  intro m n v
  unfold Instr.checkKey
  rw [Z1h,Z4w it]
  rfl
 have e0:=Z6m it #[.int .i64 a, .int .i64 b] 0 (v := .int .i64 a) rfl
 have e1:=Z6m it #[.int .i64 a, .int .i64 b] 1 (v := .int .i64 b) rfl
 have key:∀m,pureVal P (Instr.checkKey m 10000 kt (.agg #[.int .i64 a, .int .i64 b]))=some ():=by
  intro m
  rw [show (10000:Nat)=9998+1+1 from rfl]
  unfold Instr.checkKey
  rw [Z1h,Z4w hu]
  simp only [Option.bind_some]
  simp only [← Array.forIn_toList,List.forIn_cons,List.forIn_nil,Z1h,t0,t1,o0,o1,q0,q1,e0,e1,ck,Option.bind_some,ne_eq,not_false_eq_true,if_true,Zfs]
 unfold keyOk
 rw [key,key]
 rfl
abbrev keyT (p:Int × Int):Value := .agg #[.int .i64 p.1, .int .i64 p.2]
abbrev keyA (p:Int × Int):AV := .agg [.s (.int .i64 p.1), .s (.int .i64 p.2)]
section
variable {α:Type}
def kvT (f:α→AV) (c:List ((Int × Int) × α)):List (Value × AV):=c.map fun e=>(keyT e.1,f e.2)
def fndT:List ((Int × Int) × α)→Int × Int→Option (Nat × α)
 | [],_=>none
 | (q,x)::r,p=>if p=q then some (0,x) else (fndT r p).map fun y=>(y.1+1,y.2)
def updT:List ((Int × Int) × α)→Int × Int→α→List ((Int × Int) × α)
 | [],p,x=>[(p,x)]
 | (q,y)::r,p,x=>if p=q then (p,x)::r else (q,y)::updT r p x
theorem Zdo:∀ {c:List ((Int × Int) × α)} {p:Int × Int} {j:Nat} {x:α},fndT c p=some (j,x)→c[j]? = some (p,x)∧∀y,updT c p y=c.set j (p,y)
 | [],p,j,x,h=>by simp [fndT] at h
 | (q,y)::r,p,j,x,h=>by
  simp only [fndT] at h
  by_cases e:p=q
  ·rw [if_pos e] at h
   simp only [Option.some.injEq,Prod.mk.injEq] at h
   obtain ⟨rfl,rfl⟩:=h
   subst e
   exact ⟨rfl,fun z=>by simp [updT]⟩
  ·rw [if_neg e] at h
   simp only [Option.map_eq_some_iff,Prod.mk.injEq] at h
   obtain ⟨⟨i,z⟩,h1,rfl,rfl⟩:=h
   obtain ⟨h2,h3⟩:=Zdo h1
   exact ⟨by simpa using h2,fun w=>by simp only [updT,if_neg e,h3];rfl⟩
theorem Zi0:∀ {c:List ((Int × Int) × α)} {p:Int × Int},fndT c p=none→(∀y,updT c p y=c++[(p,y)])∧∀y,fndT (c++[(p,y)]) p=some (c.length,y)
 | [],p,_=>⟨fun _=>rfl,fun _=>by simp [fndT]⟩
 | (q,z)::r,p,h=>by
  simp only [fndT] at h
  by_cases e:p=q
  ·rw [if_pos e] at h;cases h
  ·rw [if_neg e,Option.map_eq_none_iff] at h
   obtain ⟨h1,h2⟩:=Zi0 h
   exact ⟨fun y=>by simp only [updT,if_neg e,h1];rfl,fun y=>by simp only [List.cons_append,fndT,if_neg e,h2];rfl⟩
theorem Zi1:∀(c:List ((Int × Int) × α)) (p q:Int × Int) (x:α),(fndT (updT c p x) q).map (·.2)=if q=p then some x else (fndT c q).map (·.2)
 | [],p,q,x=>by simp only [updT,fndT];by_cases e:q=p<;>simp [e]
 | (r,y)::c,p,q,x=>by
  have ih:=Zi1 c p q x
  simp only [updT]
  by_cases e:p=r
  ·subst e
   simp only [if_true,fndT]
   by_cases e2:q=p<;>simp [e2]
  ·simp only [if_neg e,fndT]
   by_cases e2:q=r
   ·subst e2
    simp [Ne.symm e]
   ·simp only [if_neg e2,Option.map_map]
    rw [show ((fun x:Nat × α=>x.2) ∘ fun y:Nat × α=>(y.1+1,y.2))=fun x=>x.2 from rfl]
    exact ih
variable {f:α→AV} {t:TypeId}
theorem ZbM (H:TwoInts P kt t) (p:Int × Int):∀c:List ((Int × Int) × α),findKV (kvT f c) (keyEq P kt) (keyT p)=some ((fndT c p).map fun r=>(r.1,f r.2))
 | []=>rfl
 | (q,x)::c=>by
  have ih:=ZbM H p c
  simp only [kvT,List.map_cons,findKV,Zdn H,fndT] at ih ⊢
  by_cases e:p=q
  ·subst e;simp
  ·have hd:decide ((p.1,p.2)=(q.1,q.2))=false:=decide_eq_false e
   simp only [hd,if_neg e,ih,Option.map_some,Option.map_map]
   rfl
theorem Zi2 (H:TwoInts P kt t) (p:Int × Int):∀c:List ((Int × Int) × α),lookupKV (kvT f c) (keyEq P kt) (keyT p)=some ((fndT c p).map fun r=>f r.2)
 | []=>rfl
 | (q,x)::c=>by
  have ih:=Zi2 H p c
  simp only [kvT,List.map_cons,lookupKV,Zdn H,fndT] at ih ⊢
  by_cases e:p=q
  ·subst e;simp
  ·have hd:decide ((p.1,p.2)=(q.1,q.2))=false:=decide_eq_false e
   simp only [hd,if_neg e,ih,Option.map_map]
   rfl
theorem Zi3 (H:TwoInts P kt t) (p:Int × Int) (x:α):∀c:List ((Int × Int) × α),updateKV (kvT f c) (keyEq P kt) (keyT p) (f x)=some (kvT f (updT c p x))
 | []=>rfl
 | (q,y)::c=>by
  have ih:=Zi3 H p x c
  simp only [kvT,List.map_cons,updateKV,Zdn H,updT] at ih ⊢
  by_cases e:p=q
  ·subst e;simp
  ·have hd:decide ((p.1,p.2)=(q.1,q.2))=false:=decide_eq_false e
   simp only [hd,if_neg e,ih,Option.map_some,List.map_cons]
theorem Zi4 {h:Hp} {id:Nat} {c:List ((Int × Int) × α)} {z:AV} {ok:Bool} {p:Int × Int} (H:TwoInts P kt t) (hid:h[id]? = some (.map (kvT f c))) (k:K β):
  lookK P kt z ok (.mp id) (keyA p) h k=match fndT c p with
   | some r=>k (if ok then .tup [f r.2, .s (.bool true)] else f r.2)
   | none=>k (if ok then .tup [z, .s (.bool false)] else z):=by
 unfold lookK
 have e:toV (keyA p)=some (keyT p):=rfl
 simp only [e,hid,ZbL H,Zi2 H p c,if_true]
 cases fndT c p<;>rfl
theorem ZvL {h:Hp} {id:Nat} {c:List ((Int × Int) × α)} {p:Int × Int} {x:α} (H:TwoInts P kt t) (hid:h[id]? = some (.map (kvT f c))):
  mupE P kt (.mp id) (keyA p) (f x) h=some (.u,⟨[(id, .map (kvT f (updT c p x)))],[],[id]⟩):=by
 unfold mupE
 have e:toV (keyA p)=some (keyT p):=rfl
 simp only [e,hid,ZbL H,Zi3 H p x c,if_true]
theorem ZvM {h:Hp} {id:Nat} {c:List ((Int × Int) × α)} {p:Int × Int} {z x:α} (H:TwoInts P kt t) (hid:h[id]? = some (.map (kvT f c))):
  ∃(b:AV) (j:Nat) (c1:List ((Int × Int) × α)),mentE P kt (f z) (.mp id) (keyA p) h=some (.tup [b, .s (.int .i64 j)],⟨[(id, .map (kvT f c1))],[],[id]⟩) ∧
   ∀h1:Hp,h1[id]? = some (.map (kvT f c1))→estE (.mp id) (.s (.int .i64 j)) (f x) h1=some (.u,⟨[(id, .map (kvT f (updT c p x)))],[],[id]⟩):=by
 have e:toV (keyA p)=some (keyT p):=rfl
 cases hf:fndT c p with
 | some r=>
  obtain ⟨j,y⟩:=r
  obtain ⟨g1,g2⟩:=Zdo hf
  have gk:(kvT f c)[j]? = some (keyT p,f y):=by simp [kvT,g1]
  have gs:(kvT f c).set j (keyT p,f y)=kvT f c:=Z1f gk
  refine ⟨f y,j,c, ?_,fun h1 hh => ?_⟩
  ·unfold mentE
   simp only [e,hid,ZbL H,ZbM H p c,hf,Option.map_some,if_true,gs]
  ·unfold estE
   simp only [hh]
   rw [if_pos (by omega),Int.toNat_natCast,gk]
   simp only [kvT,g2,List.map_set]
 | none=>
  obtain ⟨g1,g2⟩:=Zi0 hf
  have ga:kvT f c++[(keyT p,f z)]=kvT f (c++[(p,z)]):=by simp [kvT]
  have gl:(kvT f c).length=c.length:=by simp [kvT]
  refine ⟨f z,c.length,c++[(p,z)], ?_,fun h1 hh => ?_⟩
  ·unfold mentE
   simp only [e,hid,ZbL H,ZbM H p c,hf,Option.map_none,if_true,ga,ZbM H p (c++[(p,z)]),g2,Option.map_some,gl]
  ·unfold estE
   simp only [hh]
   rw [if_pos (by omega),Int.toNat_natCast]
   have:(kvT f (c++[(p,z)]))[c.length]? = some (keyT p,f z):=by simp [kvT]
   rw [this]
   simp [kvT,g1]
end
theorem Zdp {n j:Nat} {seen:List Nat}:j ∈ leftIt n seen↔j<n∧j ∉ seen:=by
 unfold leftIt
 rw [List.mem_filter,List.mem_range]
 simp
theorem ZvN {n j:Nat} {seen:List Nat} (hj:j ∈ leftIt n seen):(leftIt n (seen++[j])).length<(leftIt n seen).length:=by
 obtain ⟨h1,h2⟩:=Zdp.1 hj
 unfold leftIt
 have:(List.range n).filter (fun i => !(seen++[j]).contains i)=((List.range n).filter fun i => !seen.contains i).filter fun i=>i != j:=by
  rw [List.filter_filter]
  congr 1
  funext i
  simp [List.contains_append]
  by_cases e:i=j<;>simp [e]
 rw [this]
 exact List.length_filter_lt_length_iff_exists.2 ⟨j,hj,by simp⟩
theorem ZvO {d x:Option β} {l:List (Option β)} (h0:l=[]→d=x) (h:∀y ∈ l,y=x):allSame d l=x:=by
 cases l with
 | nil=>exact h0 rfl
 | cons y ys=>
  simp only [allSame]
  rw [if_pos fun z hz=>by rw [h z (by simp [hz]),h y (by simp)]]
  exact h y (by simp)
theorem ZvP {h:Hp} {id m n:Nat} {seen:List Nat} {kvs:List (Value × AV)} {X:Option β} (hid:h[id]? = some (.iter m n seen)) (hm:h[m]? = some (.map kvs)) (hn:kvs.length=n) (k:AV→Hp→Option β)
  (h0:leftIt n seen=[]→k (.tup [.s (.bool false)]) h=X) (h1:∀j ∈ leftIt n seen,k (.tup [.s (.bool true), .u, .u]) (h.set id (.iter m n (seen++[j])))=X):nextK (.it id) h k=X:=by
 unfold nextK
 simp only [hid,hm,hn,if_true]
 refine ZvO (fun e=>h0 (by simpa using e)) fun y hy => ?_
 obtain ⟨j,hj,rfl⟩:=List.mem_map.1 hy
 exact h1 j hj
theorem ZvQ {h:Hp} {id m n j:Nat} {seen:List Nat} {kvs:List (Value × AV)} {ky:Value} {v:AV} (hid:h[id]? = some (.iter m n (seen++[j]))) (hm:h[m]? = some (.map kvs)) (hn:kvs.length=n) (hj:kvs[j]? = some (ky,v)) (k:K β):entryK (.it id) h k=k (.tup [keyAV ky,v]):=by
 unfold entryK
 simp only [hid,hm,List.getLast?_append,List.getLast?_singleton,Option.some_or,hn,if_true,hj]
end Go.AM

