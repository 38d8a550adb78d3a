import Derived.Test.YtgmfphialjcpcaaG4
set_option linter.unusedSectionVars false
set_option linter.unusedVariables false
set_option linter.unusedSimpArgs false
set_option linter.constructorNameAsVariable false
namespace Go.AM
open Go.Proofs
set_option linter.unusedVariables false
set_option maxRecDepth 100000
theorem mixed:Try.prog.follows .mixedOrders=true:=by kernel_rfl
theorem NN_ex:∃n:Nat,1000000≤n∧n<4611686018427387904:=⟨1000000,by omega,by omega⟩
noncomputable def NN:Nat:=NN_ex.choose
theorem NN_ge:1000000≤NN:=NN_ex.choose_spec.1
theorem NN_lt:NN<4611686018427387904:=NN_ex.choose_spec.2
noncomputable def Zab:DTab:=D0
theorem Zor:DSound Try.prog Zab:=DSound.zero
noncomputable def Zac:Tab:=T0
theorem Zos:TSound Try.prog Zac:=TSound.zero
noncomputable def Zad:Fun:=runF Try.prog Zac Zab NN [0,2] Try.f47 1
theorem Zot:CSound Try.prog 47 Zad:=Z07 Zos Zor mixed Try.func47 (by kernel_rfl) NN
theorem Zou {β:Type} (K:AV→Hp→Option β) (a0:AV) (h:Hp):(Zad [a0] h).bind (fun p=>K p.1 p.2)=Z9l Try.prog Zac Zab NN K a0 h:=by
 rw [← ZlX];exact Z08 rfl
noncomputable def Z4V:Fun:=closedX [.o] [.o] Zad
theorem ZgL:CSound Try.prog 47 Z4V:=Z0b _ _ Zot
theorem Zov {a0:AV} {v:AV} (ha:plains [a0]=true) (hv:Z9l Try.prog Zac Zab NN (fun v g=>cvt false g v) a0 []=some v) (h:Hp):Z4V [a0] h=some (v,h):=by
 have e:(Zad (nrms [.o] [a0]) []).bind (fun (p:AV × Hp)=>cvt false p.2 p.1)=some v:=(Zou (fun v g=>cvt false g v) a0 []).trans hv
 exact (Z0c (shr:=[.o]) ha e h).trans (congrArg (fun x=>some (x,h)) (Z0K 1 v))
noncomputable def Zae:DTab:=D0
theorem Zow:DSound Try.prog Zae:=DSound.zero
noncomputable def Z7K:Tab:=(updF T0 47 Z4V)
theorem Zox:TSound Try.prog Z7K:=(TSound.upd TSound.zero ZgL)
@[simp] theorem ZgM:Z7K 47=some Z4V:=rfl
noncomputable def Zaf:Fun:=runF Try.prog Z7K Zae NN [0,2,3,6] Try.f11 1
theorem Zoy:CSound Try.prog 11 Zaf:=Z07 Zox Zow mixed Try.func11 (by kernel_rfl) NN
theorem Zoz {β:Type} (K:AV→Hp→Option β) (a0:AV) (h:Hp):(Zaf [a0] h).bind (fun p=>K p.1 p.2)=Z6X Try.prog Z7K Zae NN K a0 h:=by
 rw [← Zle];exact Z08 rfl
noncomputable def Z3j:Fun:=closedX [.o] [.a [none,some 2,some 7], .o] Zaf
theorem ZgN:CSound Try.prog 11 Z3j:=Z0b _ _ Zoy
theorem ZgO {a0:AV} {v:AV} (ha:plains [a0]=true) (hv:Z6X Try.prog Z7K Zae NN (fun v g=>cvt false g v) a0 []=some v) (h:Hp):Z3j [a0] h=some ((nrmR [.a [none,some 2,some 7], .o] v),h):=by
 have e:(Zaf (nrms [.o] [a0]) []).bind (fun (p:AV × Hp)=>cvt false p.2 p.1)=some v:=(Zoz (fun v g=>cvt false g v) a0 []).trans hv
 exact (Z0c (shr:=[.a [none,some 2,some 7], .o]) ha e h).trans (congrArg (fun x=>some (x,h)) rfl)
noncomputable def Z5K:DTab:=D0
theorem ZoA:DSound Try.prog Z5K:=DSound.zero
noncomputable def Z5L:Tab:=T0
theorem ZoB:TSound Try.prog Z5L:=TSound.zero
noncomputable def Z7L:Fun:=runF Try.prog Z5L Z5K NN [0,2,3,5,6,7,8,9,14] Try.f80 1
theorem ZoC:CSound Try.prog 80 Z7L:=Z07 ZoB ZoA mixed Try.func80 (by kernel_rfl) NN
theorem ZoD {β:Type} (K:AV→Hp→Option β) (a0:AV) (h:Hp):(Z7L [a0] h).bind (fun p=>K p.1 p.2)=Z7n Try.prog Z5L Z5K NN K a0 h:=by
 rw [← Zn1];exact Z08 rfl
noncomputable def Z4y:Fun:=closedX [.l 1] [.o] Z7L
theorem Zag:CSound Try.prog 80 Z4y:=Z0b _ _ ZoC
noncomputable def Z4W:DFun:=closedXD [.l 1] [.o] Z7L
theorem ZgP:Ro Z4y Z4W:=Z2R _ _ _
theorem ZoE {a0:AV} {x0:AV} {h:Hp} {v:AV} (ha:cvts false h [x0]=some [a0]) (hv:∀st,Z7n Try.prog Z5L Z5K NN (fun v g=>cvt st g v) (nrm (.l 1) a0) []=some v):Z4y [x0] h=some (v,h):=by
 have e:∀st,(Z7L (nrms [.l 1] [a0]) []).bind (fun (p:AV × Hp)=>cvt st p.2 p.1)=some v:=fun st=>(ZoD (fun v g=>cvt st g v) (nrm (.l 1) a0) []).trans (hv st)
 exact (Z8W (shr:=[.o]) ha e).trans (congrArg (fun x=>some (x,h)) (Z0K 1 v))
noncomputable def Zah:DTab:=D0
theorem ZoF:DSound Try.prog Zah:=DSound.zero
noncomputable def Zai:Tab:=T0
theorem ZoG:TSound Try.prog Zai:=TSound.zero
noncomputable def Zaj:Fun:=runF Try.prog Zai Zah NN [0,2] Try.f99 1
theorem ZoH:CSound Try.prog 99 Zaj:=Z07 ZoG ZoF mixed Try.func99 (by kernel_rfl) NN
theorem ZoI {β:Type} (K:AV→Hp→Option β) (a0:AV) (h:Hp):(Zaj [a0] h).bind (fun p=>K p.1 p.2)=Za7 Try.prog Zai Zah NN K a0 h:=by
 rw [← ZnQ];exact Z08 rfl
noncomputable def Z7M:Fun:=closedX [.o] [.o] Zaj
theorem ZoJ:CSound Try.prog 99 Z7M:=Z0b _ _ ZoH
theorem ZoK {a0:AV} {v:AV} (ha:plains [a0]=true) (hv:Za7 Try.prog Zai Zah NN (fun v g=>cvt false g v) a0 []=some v) (h:Hp):Z7M [a0] h=some (v,h):=by
 have e:(Zaj (nrms [.o] [a0]) []).bind (fun (p:AV × Hp)=>cvt false p.2 p.1)=some v:=(ZoI (fun v g=>cvt false g v) a0 []).trans hv
 exact (Z0c (shr:=[.o]) ha e h).trans (congrArg (fun x=>some (x,h)) (Z0K 1 v))
noncomputable def Zak:DTab:=D0
theorem ZoL:DSound Try.prog Zak:=DSound.zero
noncomputable def Z7N:Tab:=(updF T0 99 Z7M)
theorem ZoM:TSound Try.prog Z7N:=(TSound.upd TSound.zero ZoJ)
@[simp] theorem ZwN:Z7N 99=some Z7M:=rfl
noncomputable def Z7O:Fun:=runF Try.prog Z7N Zak NN [0,1,4,5,6,11,12,13,16,19] Try.f81 2
theorem ZoN:CSound Try.prog 81 Z7O:=Z07 ZoM ZoL mixed Try.func81 (by kernel_rfl) NN
theorem ZoO {β:Type} (K:AV→Hp→Option β) (a0:AV) (a1:AV) (h:Hp):(Z7O [a0,a1] h).bind (fun p=>K p.1 p.2)=Z7o Try.prog Z7N Zak NN K a0 a1 h:=by
 rw [← Zn2];exact Z08 rfl
noncomputable def Z4z:Fun:=closedX [.o, .o] [.o] Z7O
theorem Zal:CSound Try.prog 81 Z4z:=Z0b _ _ ZoN
noncomputable def Z5M:DFun:=closedXD [.o, .o] [.o] Z7O
theorem ZgQ:Ro Z4z Z5M:=Z2R _ _ _
theorem ZoP {a0:AV} {a1:AV} {v:AV} (ha:plains [a0,a1]=true) (hv:Z7o Try.prog Z7N Zak NN (fun v g=>cvt false g v) a0 a1 []=some v) (h:Hp):Z4z [a0,a1] h=some (v,h):=by
 have e:(Z7O (nrms [.o, .o] [a0,a1]) []).bind (fun (p:AV × Hp)=>cvt false p.2 p.1)=some v:=(ZoO (fun v g=>cvt false g v) a0 a1 []).trans hv
 exact (Z0c (shr:=[.o]) ha e h).trans (congrArg (fun x=>some (x,h)) (Z0K 1 v))
noncomputable def Z5N:DTab:=(updD (updD D0 80 Z4W) 81 Z5M)
theorem ZoQ:DSound Try.prog Z5N:=(DSound.ro (DSound.ro DSound.zero ZgP Zag) ZgQ Zal)
@[simp] theorem ZoR:Z5N 80=some Z4W:=rfl
@[simp] theorem ZoS:Z5N 81=some Z5M:=rfl
noncomputable def Z5O:Tab:=(updF (updF T0 80 Z4y) 81 Z4z)
theorem ZoT:TSound Try.prog Z5O:=(TSound.upd (TSound.upd TSound.zero Zag) Zal)
@[simp] theorem ZwO:Z5O 80=some Z4y:=rfl
@[simp] theorem ZwP:Z5O 81=some Z4z:=rfl
noncomputable def Zam:Fun:=runF Try.prog Z5O Z5N NN [0,1,2,3,4] Try.f53 2
theorem ZoU:CSound Try.prog 53 Zam:=Z07 ZoT ZoQ mixed Try.func53 (by kernel_rfl) NN
theorem ZoV {β:Type} (K:AV→Hp→Option β) (a0:AV) (a1:AV) (h:Hp):(Zam [a0,a1] h).bind (fun p=>K p.1 p.2)=Z9o Try.prog Z5O Z5N NN K a0 a1 h:=by
 rw [← Zm7];exact Z08 rfl
noncomputable def Z3k:Fun:=closedX [.o, .o] [.o] Zam
theorem ZcT:CSound Try.prog 53 Z3k:=Z0b _ _ ZoU
theorem ZoW {a0:AV} {a1:AV} {v:AV} (ha:plains [a0,a1]=true) (hv:Z9o Try.prog Z5O Z5N NN (fun v g=>cvt false g v) a0 a1 []=some v) (h:Hp):Z3k [a0,a1] h=some (v,h):=by
 have e:(Zam (nrms [.o, .o] [a0,a1]) []).bind (fun (p:AV × Hp)=>cvt false p.2 p.1)=some v:=(ZoV (fun v g=>cvt false g v) a0 a1 []).trans hv
 exact (Z0c (shr:=[.o]) ha e h).trans (congrArg (fun x=>some (x,h)) (Z0K 1 v))
noncomputable def Zan:DTab:=D0
theorem ZoX:DSound Try.prog Zan:=DSound.zero
noncomputable def Zao:Tab:=T0
theorem ZoY:TSound Try.prog Zao:=TSound.zero
noncomputable def Zap:Fun:=runF Try.prog Zao Zan NN [0,2] Try.f96 1
theorem ZoZ:CSound Try.prog 96 Zap:=Z07 ZoY ZoX mixed Try.func96 (by kernel_rfl) NN
theorem Zp0 {β:Type} (K:AV→Hp→Option β) (a0:AV) (h:Hp):(Zap [a0] h).bind (fun p=>K p.1 p.2)=Za6 Try.prog Zao Zan NN K a0 h:=by
 rw [← ZnP];exact Z08 rfl
noncomputable def Z7P:Fun:=closedX [.o] [.o] Zap
theorem Zp1:CSound Try.prog 96 Z7P:=Z0b _ _ ZoZ
theorem Zp2 {a0:AV} {v:AV} (ha:plains [a0]=true) (hv:Za6 Try.prog Zao Zan NN (fun v g=>cvt false g v) a0 []=some v) (h:Hp):Z7P [a0] h=some (v,h):=by
 have e:(Zap (nrms [.o] [a0]) []).bind (fun (p:AV × Hp)=>cvt false p.2 p.1)=some v:=(Zp0 (fun v g=>cvt false g v) a0 []).trans hv
 exact (Z0c (shr:=[.o]) ha e h).trans (congrArg (fun x=>some (x,h)) (Z0K 1 v))
noncomputable def Zaq:DTab:=D0
theorem Zp3:DSound Try.prog Zaq:=DSound.zero
noncomputable def Z7Q:Tab:=(updF T0 96 Z7P)
theorem Zp4:TSound Try.prog Z7Q:=(TSound.upd TSound.zero Zp1)
@[simp] theorem ZcU:Z7Q 96=some Z7P:=rfl
noncomputable def Zar:Fun:=runF Try.prog Z7Q Zaq NN [0,1,2,3,4,32,41,42,78,99,118] Try.f76 1
theorem Zp5:CSound Try.prog 76 Zar:=Z07 Zp4 Zp3 mixed Try.func76 (by kernel_rfl) NN
theorem Zp6 {β:Type} (K:AV→Hp→Option β) (a0:AV) (h:Hp):(Zar [a0] h).bind (fun p=>K p.1 p.2)=Z9J Try.prog Z7Q Zaq NN K a0 h:=by
 rw [← ZmQ];exact Z08 rfl
noncomputable def Z35:Fun:=closedX [.o] [.o] Zar
theorem ZcV:CSound Try.prog 76 Z35:=Z0b _ _ Zp5
theorem Zp7 {a0:AV} {v:AV} (ha:plains [a0]=true) (hv:Z9J Try.prog Z7Q Zaq NN (fun v g=>cvt false g v) a0 []=some v) (h:Hp):Z35 [a0] h=some (v,h):=by
 have e:(Zar (nrms [.o] [a0]) []).bind (fun (p:AV × Hp)=>cvt false p.2 p.1)=some v:=(Zp6 (fun v g=>cvt false g v) a0 []).trans hv
 exact (Z0c (shr:=[.o]) ha e h).trans (congrArg (fun x=>some (x,h)) (Z0K 1 v))
noncomputable def Zas:DTab:=D0
theorem Zp8:DSound Try.prog Zas:=DSound.zero
noncomputable def Z7R:Tab:=(updF T0 76 Z35)
theorem Zp9:TSound Try.prog Z7R:=(TSound.upd TSound.zero ZcV)
@[simp] theorem Zpa:Z7R 76=some Z35:=rfl
noncomputable def Zat:Fun:=runF Try.prog Z7R Zas NN [0,1,2] Try.f82 1
theorem Zpb:CSound Try.prog 82 Zat:=Z07 Zp9 Zp8 mixed Try.func82 (by kernel_rfl) NN
theorem Zpc {β:Type} (K:AV→Hp→Option β) (a0:AV) (h:Hp):(Zat [a0] h).bind (fun p=>K p.1 p.2)=Z9N Try.prog Z7R Zas NN K a0 h:=by
 rw [← Zn3];exact Z08 rfl
noncomputable def Z4X:Fun:=closedX [.o] [.o] Zat
theorem ZgR:CSound Try.prog 82 Z4X:=Z0b _ _ Zpb
theorem Zpd {a0:AV} {v:AV} (ha:plains [a0]=true) (hv:Z9N Try.prog Z7R Zas NN (fun v g=>cvt false g v) a0 []=some v) (h:Hp):Z4X [a0] h=some (v,h):=by
 have e:(Zat (nrms [.o] [a0]) []).bind (fun (p:AV × Hp)=>cvt false p.2 p.1)=some v:=(Zpc (fun v g=>cvt false g v) a0 []).trans hv
 exact (Z0c (shr:=[.o]) ha e h).trans (congrArg (fun x=>some (x,h)) (Z0K 1 v))
noncomputable def Zau:DTab:=D0
theorem Zpe:DSound Try.prog Zau:=DSound.zero
noncomputable def Z7S:Tab:=(updF T0 82 Z4X)
theorem Zpf:TSound Try.prog Z7S:=(TSound.upd TSound.zero ZgR)
@[simp] theorem ZwQ:Z7S 82=some Z4X:=rfl
noncomputable def Zav:Fun:=runF Try.prog Z7S Zau NN [0,1,4,5,7,8,9,16] Try.f62 2
theorem Zpg:CSound Try.prog 62 Zav:=Z07 Zpf Zpe mixed Try.func62 (by kernel_rfl) NN
theorem Zph {β:Type} (K:AV→Hp→Option β) (a0:AV) (a1:AV) (h:Hp):(Zav [a0,a1] h).bind (fun p=>K p.1 p.2)=Z5z Try.prog Z7S Zau NN K a0 a1 h:=by
 rw [← ZmA];exact Z08 rfl
noncomputable def Z7T:Fun:=closedX [.l 7, .o] [.o] Zav
theorem Zpi:CSound Try.prog 62 Z7T:=Z0b _ _ Zpg
theorem Zpj {a0:AV} {a1:AV} {v:AV} (ha:plains [a0,a1]=true) (hv:Z5z Try.prog Z7S Zau NN (fun v g=>cvt false g v) (nrm (.l 7) a0) a1 []=some v) (h:Hp):Z7T [a0,a1] h=some (v,h):=by
 have e:(Zav (nrms [.l 7, .o] [a0,a1]) []).bind (fun (p:AV × Hp)=>cvt false p.2 p.1)=some v:=(Zph (fun v g=>cvt false g v) (nrm (.l 7) a0) a1 []).trans hv
 exact (Z0c (shr:=[.o]) ha e h).trans (congrArg (fun x=>some (x,h)) (Z0K 1 v))
noncomputable def Zaw:DTab:=D0
theorem Zpk:DSound Try.prog Zaw:=DSound.zero
noncomputable def Z7U:Tab:=(updF T0 62 Z7T)
theorem Zpl:TSound Try.prog Z7U:=(TSound.upd TSound.zero Zpi)
@[simp] theorem Zpm:Z7U 62=some Z7T:=rfl
noncomputable def Zax:Fun:=runF Try.prog Z7U Zaw NN [0,1,4] Try.f24 2
theorem Zpn:CSound Try.prog 24 Zax:=Z07 Zpl Zpk mixed Try.func24 (by kernel_rfl) NN
theorem Zpo {β:Type} (K:AV→Hp→Option β) (a0:AV) (a1:AV) (h:Hp):(Zax [a0,a1] h).bind (fun p=>K p.1 p.2)=Z9f Try.prog Z7U Zaw NN K a0 a1 h:=by
 rw [← ZlM];exact Z08 rfl
noncomputable def Z7V:Fun:=closedX [.l 7, .o] [.o] Zax
theorem Zpp:CSound Try.prog 24 Z7V:=Z0b _ _ Zpn
theorem Zpq {a0:AV} {a1:AV} {v:AV} (ha:plains [a0,a1]=true) (hv:Z9f Try.prog Z7U Zaw NN (fun v g=>cvt false g v) (nrm (.l 7) a0) a1 []=some v) (h:Hp):Z7V [a0,a1] h=some (v,h):=by
 have e:(Zax (nrms [.l 7, .o] [a0,a1]) []).bind (fun (p:AV × Hp)=>cvt false p.2 p.1)=some v:=(Zpo (fun v g=>cvt false g v) (nrm (.l 7) a0) a1 []).trans hv
 exact (Z0c (shr:=[.o]) ha e h).trans (congrArg (fun x=>some (x,h)) (Z0K 1 v))
noncomputable def Z5P:DTab:=D0
theorem Zpr:DSound Try.prog Z5P:=DSound.zero
noncomputable def Z5Q:Tab:=T0
theorem Zps:TSound Try.prog Z5Q:=TSound.zero
noncomputable def Z17:Fun:=runF Try.prog Z5Q Z5P NN [0,2,4] Try.f51 1
theorem Zay:CSound Try.prog 51 Z17:=Z07 Zps Zpr mixed Try.func51 (by kernel_rfl) NN
theorem ZcW {β:Type} (K:AV→Hp→Option β) (a0:AV) (h:Hp):(Z17 [a0] h).bind (fun p=>K p.1 p.2)=Z4P Try.prog Z5Q Z5P NN K a0 h:=by
 rw [← Zm5];exact Z08 rfl
theorem Zpt (a0:AV) (h:Hp):Z17 [a0] h=Z4P Try.prog Z5Q Z5P NN (fun v h=>some (v,h)) a0 h:=(Z12 _).symm.trans (ZcW (fun v h=>some (v,h)) a0 h)
noncomputable def Z4Y:Fun:=closedX [.l 7] [.l 7] Z17
theorem ZgS:CSound Try.prog 51 Z4Y:=Z0b _ _ Zay
noncomputable def Zaz:DFun:=closedXD [.l 7] [.l 7] Z17
theorem Zpu:Ro Z4Y Zaz:=Z2R _ _ _
theorem Zpv {a0:AV} {v:AV} (ha:plains [a0]=true) (hv:Z4P Try.prog Z5Q Z5P NN (fun v g=>cvt false g v) (nrm (.l 7) a0) []=some v) (h:Hp):Z4Y [a0] h=some ((nrmR [.l 7] v),h):=by
 have e:(Z17 (nrms [.l 7] [a0]) []).bind (fun (p:AV × Hp)=>cvt false p.2 p.1)=some v:=(ZcW (fun v g=>cvt false g v) (nrm (.l 7) a0) []).trans hv
 exact (Z0c (shr:=[.l 7]) ha e h).trans (congrArg (fun x=>some (x,h)) rfl)
noncomputable def Z5R:DTab:=(updD (updD D0 80 Z4W) 81 Z5M)
theorem Zpw:DSound Try.prog Z5R:=(DSound.ro (DSound.ro DSound.zero ZgP Zag) ZgQ Zal)
@[simp] theorem Zpx:Z5R 80=some Z4W:=rfl
@[simp] theorem Zpy:Z5R 81=some Z5M:=rfl
noncomputable def Z5S:Tab:=(updF (updF T0 80 Z4y) 81 Z4z)
theorem Zpz:TSound Try.prog Z5S:=(TSound.upd (TSound.upd TSound.zero Zag) Zal)
@[simp] theorem ZwR:Z5S 80=some Z4y:=rfl
@[simp] theorem ZwS:Z5S 81=some Z4z:=rfl
noncomputable def ZaA:Fun:=runF Try.prog Z5S Z5R NN [0,1,2,3,4] Try.f84 2
theorem ZpA:CSound Try.prog 84 ZaA:=Z07 Zpz Zpw mixed Try.func84 (by kernel_rfl) NN
theorem ZpB {β:Type} (K:AV→Hp→Option β) (a0:AV) (a1:AV) (h:Hp):(ZaA [a0,a1] h).bind (fun p=>K p.1 p.2)=Z9O Try.prog Z5S Z5R NN K a0 a1 h:=by
 rw [← Zn4];exact Z08 rfl
noncomputable def Z4Z:Fun:=closedX [.o, .o] [.o] ZaA
theorem ZgT:CSound Try.prog 84 Z4Z:=Z0b _ _ ZpA
theorem ZpC {a0:AV} {a1:AV} {v:AV} (ha:plains [a0,a1]=true) (hv:Z9O Try.prog Z5S Z5R NN (fun v g=>cvt false g v) a0 a1 []=some v) (h:Hp):Z4Z [a0,a1] h=some (v,h):=by
 have e:(ZaA (nrms [.o, .o] [a0,a1]) []).bind (fun (p:AV × Hp)=>cvt false p.2 p.1)=some v:=(ZpB (fun v g=>cvt false g v) a0 a1 []).trans hv
 exact (Z0c (shr:=[.o]) ha e h).trans (congrArg (fun x=>some (x,h)) (Z0K 1 v))
noncomputable def Z7W:Fun:=sortF 7 okI 84 Z4Z
theorem ZpD:CSound Try.prog 83 Z7W:=Zol (ρ:=Try.sort83_ren) Try.sort83 Try.isAgg27 Try.sizeOf27 ⟨Try.f83,Try.func83,by kernel_rfl,by kernel_rfl⟩ (by decide) ZgT ⟨Try.f84,Try.func84,by kernel_rfl,by kernel_rfl⟩
noncomputable def Z5T:DTab:=D0
theorem ZpE:DSound Try.prog Z5T:=DSound.zero
noncomputable def Z5U:Tab:=T0
theorem ZpF:TSound Try.prog Z5U:=TSound.zero
noncomputable def Z50:Fun:=runF Try.prog Z5U Z5T NN [0,2,3,4,5,8,13,25,32,44] Try.f85 1
theorem ZpG:CSound Try.prog 85 Z50:=Z07 ZpF ZpE mixed Try.func85 (by kernel_rfl) NN
theorem ZpH {β:Type} (K:AV→Hp→Option β) (a0:AV) (h:Hp):(Z50 [a0] h).bind (fun p=>K p.1 p.2)=Z4R Try.prog Z5U Z5T NN K a0 h:=by
 rw [← Znd];exact Z08 rfl
theorem ZgU (a0:AV) (h:Hp):Z50 [a0] h=Z4R Try.prog Z5U Z5T NN (fun v h=>some (v,h)) a0 h:=(Z12 _).symm.trans (ZpH (fun v h=>some (v,h)) a0 h)
noncomputable def Z7X:DTab:=D0
theorem ZpI:DSound Try.prog Z7X:=DSound.zero
noncomputable def Z2W:Tab:=(updF (updF (updF (updF (updF (updF T0 24 Z7V) 51 Z17) 82 Z4X) 83 Z7W) 84 Z4Z) 85 Z50)
theorem ZpJ:TSound Try.prog Z2W:=(TSound.upd (TSound.upd (TSound.upd (TSound.upd (TSound.upd (TSound.upd TSound.zero Zpp) Zay) ZgR) ZpD) ZgT) ZpG)
@[simp] theorem ZgV:Z2W 24=some Z7V:=rfl
@[simp] theorem ZpK:Z2W 51=some Z17:=rfl
@[simp] theorem ZwT:Z2W 82=some Z4X:=rfl
@[simp] theorem ZpL:Z2W 83=some Z7W:=rfl
@[simp] theorem ZwU:Z2W 84=some Z4Z:=rfl
@[simp] theorem ZpM:Z2W 85=some Z50:=rfl
noncomputable def ZaB:Fun:=runF Try.prog Z2W Z7X NN [0,2,3,4,7,9] Try.f54 1
theorem ZpN:CSound Try.prog 54 ZaB:=Z07 ZpJ ZpI mixed Try.func54 (by kernel_rfl) NN
theorem ZpO {β:Type} (K:AV→Hp→Option β) (a0:AV) (h:Hp):(ZaB [a0] h).bind (fun p=>K p.1 p.2)=Z4Q Try.prog Z2W Z7X NN K a0 h:=by
 rw [← Zm8];exact Z08 rfl
noncomputable def Z51:Fun:=closedX [.l 7] [.l 7, .o] ZaB
theorem ZgW:CSound Try.prog 54 Z51:=Z0b _ _ ZpN
theorem ZpP {a0:AV} {x0:AV} {h:Hp} {v:AV} (ha:cvts false h [x0]=some [a0]) (hv:∀st,Z4Q Try.prog Z2W Z7X NN (fun v g=>cvt st g v) (nrm (.l 7) a0) []=some v):Z51 [x0] h=some ((nrmR [.l 7, .o] v),h):=by
 have e:∀st,(ZaB (nrms [.l 7] [a0]) []).bind (fun (p:AV × Hp)=>cvt st p.2 p.1)=some v:=fun st=>(ZpO (fun v g=>cvt st g v) (nrm (.l 7) a0) []).trans (hv st)
 exact (Z8W (shr:=[.l 7, .o]) ha e).trans (congrArg (fun x=>some (x,h)) rfl)
noncomputable def Z5V:DTab:=D0
theorem ZpQ:DSound Try.prog Z5V:=DSound.zero
noncomputable def Z5W:Tab:=T0
theorem ZpR:TSound Try.prog Z5W:=TSound.zero
noncomputable def ZaC:Fun:=runF Try.prog Z5W Z5V NN [0,1,4,5,10,12,13,14,24] Try.f58 2
theorem ZpS:CSound Try.prog 58 ZaC:=Z07 ZpR ZpQ mixed Try.func58 (by kernel_rfl) NN
theorem ZpT {β:Type} (K:AV→Hp→Option β) (a0:AV) (a1:AV) (h:Hp):(ZaC [a0,a1] h).bind (fun p=>K p.1 p.2)=Z5x Try.prog Z5W Z5V NN K a0 a1 h:=by
 rw [← Zmg];exact Z08 rfl
noncomputable def Z52:Fun:=closedX [.l 7, .l 7] [.o] ZaC
theorem ZgX:CSound Try.prog 58 Z52:=Z0b _ _ ZpS
theorem ZpU {a0:AV} {a1:AV} {v:AV} (ha:plains [a0,a1]=true) (hv:Z5x Try.prog Z5W Z5V NN (fun v g=>cvt false g v) (nrm (.l 7) a0) (nrm (.l 7) a1) []=some v) (h:Hp):Z52 [a0,a1] h=some (v,h):=by
 have e:(ZaC (nrms [.l 7, .l 7] [a0,a1]) []).bind (fun (p:AV × Hp)=>cvt false p.2 p.1)=some v:=(ZpT (fun v g=>cvt false g v) (nrm (.l 7) a0) (nrm (.l 7) a1) []).trans hv
 exact (Z0c (shr:=[.o]) ha e h).trans (congrArg (fun x=>some (x,h)) (Z0K 1 v))
noncomputable def Z53:DTab:=D0
theorem ZpV:DSound Try.prog Z53:=DSound.zero
noncomputable def Z2L:Tab:=(updF (updF (updF (updF T0 47 Z4V) 53 Z3k) 54 Z51) 58 Z52)
theorem ZpW:TSound Try.prog Z2L:=(TSound.upd (TSound.upd (TSound.upd (TSound.upd TSound.zero ZgL) ZcT) ZgW) ZgX)
@[simp] theorem ZgY:Z2L 47=some Z4V:=rfl
@[simp] theorem ZpX:Z2L 53=some Z3k:=rfl
@[simp] theorem ZpY:Z2L 54=some Z51:=rfl
@[simp] theorem ZpZ:Z2L 58=some Z52:=rfl
noncomputable def Z7Y:Fun:=runF Try.prog Z2L Z53 NN [0,1,2,3,4,5,6,7,12,24,25,26,27,31,46,52,73,83] Try.f16 1
theorem Zq0:CSound Try.prog 16 Z7Y:=Z07 ZpW ZpV mixed Try.func16 (by kernel_rfl) NN
theorem Zq1 {β:Type} (K:AV→Hp→Option β) (a0:AV) (h:Hp):(Z7Y [a0] h).bind (fun p=>K p.1 p.2)=Z74 Try.prog Z2L Z53 NN K a0 h:=by
 rw [← Zly];exact Z08 rfl
noncomputable def Z18:Fun:=closedX [.a [none,some 2,some 7]] [.o] Z7Y
theorem Z5X:CSound Try.prog 16 Z18:=Z0b _ _ Zq0
noncomputable def ZcX:DFun:=closedXD [.a [none,some 2,some 7]] [.o] Z7Y
theorem Zq2:Ro Z18 ZcX:=Z2R _ _ _
theorem Zq3 {a0:AV} {v:AV} (ha:plains [a0]=true) (hv:Z74 Try.prog Z2L Z53 NN (fun v g=>cvt false g v) (nrm (.a [none,some 2,some 7]) a0) []=some v) (h:Hp):Z18 [a0] h=some (v,h):=by
 have e:(Z7Y (nrms [.a [none,some 2,some 7]] [a0]) []).bind (fun (p:AV × Hp)=>cvt false p.2 p.1)=some v:=(Zq1 (fun v g=>cvt false g v) (nrm (.a [none,some 2,some 7]) a0) []).trans hv
 exact (Z0c (shr:=[.o]) ha e h).trans (congrArg (fun x=>some (x,h)) (Z0K 1 v))
noncomputable def ZaD:DTab:=D0
theorem Zq4:DSound Try.prog ZaD:=DSound.zero
noncomputable def Z5Y:Tab:=(updF (updF T0 16 Z18) 58 Z52)
theorem Zq5:TSound Try.prog Z5Y:=(TSound.upd (TSound.upd TSound.zero Z5X) ZgX)
@[simp] theorem Zq6:Z5Y 16=some Z18:=rfl
@[simp] theorem Zq7:Z5Y 58=some Z52:=rfl
noncomputable def ZaE:Fun:=runF Try.prog Z5Y ZaD NN [0,1,2,3,4] Try.f19 2
theorem Zq8:CSound Try.prog 19 ZaE:=Z07 Zq5 Zq4 mixed Try.func19 (by kernel_rfl) NN
theorem Zq9 {β:Type} (K:AV→Hp→Option β) (a0:AV) (a1:AV) (h:Hp):(ZaE [a0,a1] h).bind (fun p=>K p.1 p.2)=Z9c Try.prog Z5Y ZaD NN K a0 a1 h:=by
 rw [← ZlJ];exact Z08 rfl
noncomputable def Z7Z:Fun:=closedX [.a [none,some 2,some 7], .a [none,some 2,some 7]] [.o] ZaE
theorem Zqa:CSound Try.prog 19 Z7Z:=Z0b _ _ Zq8
theorem Zqb {a0:AV} {a1:AV} {v:AV} (ha:plains [a0,a1]=true) (hv:Z9c Try.prog Z5Y ZaD NN (fun v g=>cvt false g v) (nrm (.a [none,some 2,some 7]) a0) (nrm (.a [none,some 2,some 7]) a1) []=some v) (h:Hp):Z7Z [a0,a1] h=some (v,h):=by
 have e:(ZaE (nrms [.a [none,some 2,some 7], .a [none,some 2,some 7]] [a0,a1]) []).bind (fun (p:AV × Hp)=>cvt false p.2 p.1)=some v:=(Zq9 (fun v g=>cvt false g v) (nrm (.a [none,some 2,some 7]) a0) (nrm (.a [none,some 2,some 7]) a1) []).trans hv
 exact (Z0c (shr:=[.o]) ha e h).trans (congrArg (fun x=>some (x,h)) (Z0K 1 v))
noncomputable def Z5Z:DTab:=D0
theorem Zqc:DSound Try.prog Z5Z:=DSound.zero
noncomputable def Z60:Tab:=T0
theorem Zqd:TSound Try.prog Z60:=TSound.zero
noncomputable def ZaF:Fun:=runF Try.prog Z60 Z5Z NN [0,1,3,4,5,7,8,9,16] Try.f60 2
theorem Zqe:CSound Try.prog 60 ZaF:=Z07 Zqd Zqc mixed Try.func60 (by kernel_rfl) NN
theorem Zqf {β:Type} (K:AV→Hp→Option β) (a0:AV) (a1:AV) (h:Hp):(ZaF [a0,a1] h).bind (fun p=>K p.1 p.2)=Z7g Try.prog Z60 Z5Z NN K a0 a1 h:=by
 rw [← Zmq];exact Z08 rfl
noncomputable def Z80:Fun:=closedX [.l 2, .o] [.o] ZaF
theorem Zqg:CSound Try.prog 60 Z80:=Z0b _ _ Zqe
theorem Zqh {a0:AV} {a1:AV} {v:AV} (ha:plains [a0,a1]=true) (hv:Z7g Try.prog Z60 Z5Z NN (fun v g=>cvt false g v) (nrm (.l 2) a0) a1 []=some v) (h:Hp):Z80 [a0,a1] h=some (v,h):=by
 have e:(ZaF (nrms [.l 2, .o] [a0,a1]) []).bind (fun (p:AV × Hp)=>cvt false p.2 p.1)=some v:=(Zqf (fun v g=>cvt false g v) (nrm (.l 2) a0) a1 []).trans hv
 exact (Z0c (shr:=[.o]) ha e h).trans (congrArg (fun x=>some (x,h)) (Z0K 1 v))
noncomputable def ZaG:DTab:=D0
theorem Zqi:DSound Try.prog ZaG:=DSound.zero
noncomputable def Z81:Tab:=(updF T0 60 Z80)
theorem Zqj:TSound Try.prog Z81:=(TSound.upd TSound.zero Zqg)
@[simp] theorem Zqk:Z81 60=some Z80:=rfl
noncomputable def ZaH:Fun:=runF Try.prog Z81 ZaG NN [0,1,3,4] Try.f22 2
theorem Zql:CSound Try.prog 22 ZaH:=Z07 Zqj Zqi mixed Try.func22 (by kernel_rfl) NN
theorem Zqm {β:Type} (K:AV→Hp→Option β) (a0:AV) (a1:AV) (h:Hp):(ZaH [a0,a1] h).bind (fun p=>K p.1 p.2)=Z9d Try.prog Z81 ZaG NN K a0 a1 h:=by
 rw [← ZlK];exact Z08 rfl
noncomputable def Z82:Fun:=closedX [.l 2, .o] [.o] ZaH
theorem Zqn:CSound Try.prog 22 Z82:=Z0b _ _ Zql
theorem Zqo {a0:AV} {a1:AV} {v:AV} (ha:plains [a0,a1]=true) (hv:Z9d Try.prog Z81 ZaG NN (fun v g=>cvt false g v) (nrm (.l 2) a0) a1 []=some v) (h:Hp):Z82 [a0,a1] h=some (v,h):=by
 have e:(ZaH (nrms [.l 2, .o] [a0,a1]) []).bind (fun (p:AV × Hp)=>cvt false p.2 p.1)=some v:=(Zqm (fun v g=>cvt false g v) (nrm (.l 2) a0) a1 []).trans hv
 exact (Z0c (shr:=[.o]) ha e h).trans (congrArg (fun x=>some (x,h)) (Z0K 1 v))
noncomputable def Z61:DTab:=D0
theorem Zqp:DSound Try.prog Z61:=DSound.zero
noncomputable def Z62:Tab:=T0
theorem Zqq:TSound Try.prog Z62:=TSound.zero
noncomputable def ZaI:Fun:=runF Try.prog Z62 Z61 NN [0,1,3,4,5,7,8,9,16] Try.f61 2
theorem Zqr:CSound Try.prog 61 ZaI:=Z07 Zqq Zqp mixed Try.func61 (by kernel_rfl) NN
theorem Zqs {β:Type} (K:AV→Hp→Option β) (a0:AV) (a1:AV) (h:Hp):(ZaI [a0,a1] h).bind (fun p=>K p.1 p.2)=Z7h Try.prog Z62 Z61 NN K a0 a1 h:=by
 rw [← Zmv];exact Z08 rfl
noncomputable def Z83:Fun:=closedX [.l 7, .o] [.o] ZaI
theorem Zqt:CSound Try.prog 61 Z83:=Z0b _ _ Zqr
theorem Zqu {a0:AV} {a1:AV} {v:AV} (ha:plains [a0,a1]=true) (hv:Z7h Try.prog Z62 Z61 NN (fun v g=>cvt false g v) (nrm (.l 7) a0) a1 []=some v) (h:Hp):Z83 [a0,a1] h=some (v,h):=by
 have e:(ZaI (nrms [.l 7, .o] [a0,a1]) []).bind (fun (p:AV × Hp)=>cvt false p.2 p.1)=some v:=(Zqs (fun v g=>cvt false g v) (nrm (.l 7) a0) a1 []).trans hv
 exact (Z0c (shr:=[.o]) ha e h).trans (congrArg (fun x=>some (x,h)) (Z0K 1 v))
noncomputable def ZaJ:DTab:=D0
theorem Zqv:DSound Try.prog ZaJ:=DSound.zero
noncomputable def Z84:Tab:=(updF T0 61 Z83)
theorem Zqw:TSound Try.prog Z84:=(TSound.upd TSound.zero Zqt)
@[simp] theorem Zqx:Z84 61=some Z83:=rfl
noncomputable def ZaK:Fun:=runF Try.prog Z84 ZaJ NN [0,1,3,4] Try.f23 2
theorem Zqy:CSound Try.prog 23 ZaK:=Z07 Zqw Zqv mixed Try.func23 (by kernel_rfl) NN
theorem Zqz {β:Type} (K:AV→Hp→Option β) (a0:AV) (a1:AV) (h:Hp):(ZaK [a0,a1] h).bind (fun p=>K p.1 p.2)=Z9e Try.prog Z84 ZaJ NN K a0 a1 h:=by
 rw [← ZlL];exact Z08 rfl
noncomputable def Z85:Fun:=closedX [.l 7, .o] [.o] ZaK
theorem ZqA:CSound Try.prog 23 Z85:=Z0b _ _ Zqy
theorem ZqB {a0:AV} {a1:AV} {v:AV} (ha:plains [a0,a1]=true) (hv:Z9e Try.prog Z84 ZaJ NN (fun v g=>cvt false g v) (nrm (.l 7) a0) a1 []=some v) (h:Hp):Z85 [a0,a1] h=some (v,h):=by
 have e:(ZaK (nrms [.l 7, .o] [a0,a1]) []).bind (fun (p:AV × Hp)=>cvt false p.2 p.1)=some v:=(Zqz (fun v g=>cvt false g v) (nrm (.l 7) a0) a1 []).trans hv
 exact (Z0c (shr:=[.o]) ha e h).trans (congrArg (fun x=>some (x,h)) (Z0K 1 v))
noncomputable def ZaL:DTab:=D0
theorem ZqC:DSound Try.prog ZaL:=DSound.zero
noncomputable def Z86:Tab:=(updF T0 76 Z35)
theorem ZqD:TSound Try.prog Z86:=(TSound.upd TSound.zero ZcV)
@[simp] theorem ZwV:Z86 76=some Z35:=rfl
noncomputable def ZaM:Fun:=runF Try.prog Z86 ZaL NN [0,2,3,4,5,6,9,11,12,13,14,18,48,55,61] Try.f49 1
theorem ZqE:CSound Try.prog 49 ZaM:=Z07 ZqD ZqC mixed Try.func49 (by kernel_rfl) NN
theorem ZqF {β:Type} (K:AV→Hp→Option β) (a0:AV) (h:Hp):(ZaM [a0] h).bind (fun p=>K p.1 p.2)=Z7c Try.prog Z86 ZaL NN K a0 h:=by
 rw [← Zm3];exact Z08 rfl
noncomputable def Z4A:Fun:=closedX [.l 10] [.o, .o] ZaM
theorem ZgZ:CSound Try.prog 49 Z4A:=Z0b _ _ ZqE
theorem ZqG {a0:AV} {v:AV} (ha:plains [a0]=true) (hv:Z7c Try.prog Z86 ZaL NN (fun v g=>cvt false g v) (nrm (.l 10) a0) []=some v) (h:Hp):Z4A [a0] h=some (v,h):=by
 have e:(ZaM (nrms [.l 10] [a0]) []).bind (fun (p:AV × Hp)=>cvt false p.2 p.1)=some v:=(ZqF (fun v g=>cvt false g v) (nrm (.l 10) a0) []).trans hv
 exact (Z0c (shr:=[.o, .o]) ha e h).trans (congrArg (fun x=>some (x,h)) (Z0K 2 v))
noncomputable def Z87:DTab:=D0
theorem ZqH:DSound Try.prog Z87:=DSound.zero
noncomputable def Z88:Tab:=T0
theorem ZqI:TSound Try.prog Z88:=TSound.zero
noncomputable def Z1b:Fun:=runF Try.prog Z88 Z87 NN [0,2,4] Try.f50 1
theorem ZcY:CSound Try.prog 50 Z1b:=Z07 ZqI ZqH mixed Try.func50 (by kernel_rfl) NN
theorem Zh0 {β:Type} (K:AV→Hp→Option β) (a0:AV) (h:Hp):(Z1b [a0] h).bind (fun p=>K p.1 p.2)=Z3U Try.prog Z88 Z87 NN K a0 h:=by
 rw [← Zm4];exact Z08 rfl
theorem ZqJ (a0:AV) (h:Hp):Z1b [a0] h=Z3U Try.prog Z88 Z87 NN (fun v h=>some (v,h)) a0 h:=(Z12 _).symm.trans (Zh0 (fun v h=>some (v,h)) a0 h)
noncomputable def Z3l:Fun:=closedX [.l 2] [.l 2] Z1b
theorem ZaN:CSound Try.prog 50 Z3l:=Z0b _ _ ZcY
noncomputable def Z54:DFun:=closedXD [.l 2] [.l 2] Z1b
theorem Zh1:Ro Z3l Z54:=Z2R _ _ _
theorem ZqK {a0:AV} {v:AV} (ha:plains [a0]=true) (hv:Z3U Try.prog Z88 Z87 NN (fun v g=>cvt false g v) (nrm (.l 2) a0) []=some v) (h:Hp):Z3l [a0] h=some ((nrmR [.l 2] v),h):=by
 have e:(Z1b (nrms [.l 2] [a0]) []).bind (fun (p:AV × Hp)=>cvt false p.2 p.1)=some v:=(Zh0 (fun v g=>cvt false g v) (nrm (.l 2) a0) []).trans hv
 exact (Z0c (shr:=[.l 2]) ha e h).trans (congrArg (fun x=>some (x,h)) rfl)
noncomputable def Z4B:DTab:=D0
theorem ZqL:DSound Try.prog Z4B:=DSound.zero
noncomputable def Z2E:Tab:=(updF T0 53 Z3k)
theorem ZqM:TSound Try.prog Z2E:=(TSound.upd TSound.zero ZcT)
@[simp] theorem Zh2:Z2E 53=some Z3k:=rfl
noncomputable def ZaO:Fun:=runF Try.prog Z2E Z4B NN [0,1,2,4,6,7,8,9,10,11,17,31] Try.f78 3
theorem ZqN:CSound Try.prog 78 ZaO:=Z07 ZqM ZqL mixed Try.func78 (by kernel_rfl) NN
theorem ZqO {β:Type} (K:AV→Hp→Option β) (a0:AV) (a1:AV) (a2:AV) (h:Hp):(ZaO [a0,a1,a2] h).bind (fun p=>K p.1 p.2)=Z5E Try.prog Z2E Z4B NN K a0 a1 a2 h:=by
 rw [← ZmW];exact Z08 rfl
noncomputable def Z89:Fun:=closedX [.l 2, .o, .o] [.o, .o] ZaO
theorem ZqP:CSound Try.prog 78 Z89:=Z0b _ _ ZqN
theorem Zh3 {a0:AV} {a1:AV} {a2:AV} {v:AV} (ha:plains [a0,a1,a2]=true) (hv:Z5E Try.prog Z2E Z4B NN (fun v g=>cvt false g v) (nrm (.l 2) a0) a1 a2 []=some v) (h:Hp):Z89 [a0,a1,a2] h=some (v,h):=by
 have e:(ZaO (nrms [.l 2, .o, .o] [a0,a1,a2]) []).bind (fun (p:AV × Hp)=>cvt false p.2 p.1)=some v:=(ZqO (fun v g=>cvt false g v) (nrm (.l 2) a0) a1 a2 []).trans hv
 exact (Z0c (shr:=[.o, .o]) ha e h).trans (congrArg (fun x=>some (x,h)) (Z0K 2 v))
def Zh4:Fun:=insF 2 16
theorem ZqQ:CSound Try.prog 79 Zh4:=ZgC ZgF
def ZcZ:Fun:=Zh4
theorem ZqR:CSound Try.prog 79 ZcZ:=ZqQ
noncomputable def Z63:DTab:=(updD (updD D0 50 (newD Z1b)) 79 (insE 2 16))
theorem ZqS:DSound Try.prog Z63:=(DSound.ins (DSound.new DSound.zero ZcY) ZgF)
@[simp] theorem Zh5:Z63 50=some (newD Z1b):=rfl
@[simp] theorem Zh6:Z63 79=some (insE 2 16):=rfl
noncomputable def Z55:Tab:=(updF (updF (updF T0 50 Z1b) 78 Z89) 79 ZcZ)
theorem ZqT:TSound Try.prog Z55:=(TSound.upd (TSound.upd (TSound.upd TSound.zero ZcY) ZqP) ZqR)
@[simp] theorem ZwW:Z55 50=some Z1b:=rfl
@[simp] theorem Zh7:Z55 78=some Z89:=rfl
@[simp] theorem ZwX:Z55 79=some ZcZ:=rfl
noncomputable def ZaP:Fun:=runF Try.prog Z55 Z63 NN [0,1,2,4,6,7] Try.f52 3
theorem ZqU:CSound Try.prog 52 ZaP:=Z07 ZqT ZqS mixed Try.func52 (by kernel_rfl) NN
theorem ZqV {β:Type} (K:AV→Hp→Option β) (a0:AV) (a1:AV) (a2:AV) (h:Hp):(ZaP [a0,a1,a2] h).bind (fun p=>K p.1 p.2)=Z7d Try.prog Z55 Z63 NN K a0 a1 a2 h:=by
 rw [← Zm6];exact Z08 rfl
noncomputable def Z8a:Fun:=closedX [.l 2, .o, .o] [.l 2] ZaP
theorem ZqW:CSound Try.prog 52 Z8a:=Z0b _ _ ZqU
theorem ZqX {a0:AV} {a1:AV} {a2:AV} {v:AV} (ha:plains [a0,a1,a2]=true) (hv:Z7d Try.prog Z55 Z63 NN (fun v g=>cvt false g v) (nrm (.l 2) a0) a1 a2 []=some v) (h:Hp):Z8a [a0,a1,a2] h=some ((nrmR [.l 2] v),h):=by
 have e:(ZaP (nrms [.l 2, .o, .o] [a0,a1,a2]) []).bind (fun (p:AV × Hp)=>cvt false p.2 p.1)=some v:=(ZqV (fun v g=>cvt false g v) (nrm (.l 2) a0) a1 a2 []).trans hv
 exact (Z0c (shr:=[.l 2]) ha e h).trans (congrArg (fun x=>some (x,h)) rfl)
noncomputable def Z64:DTab:=(updD (updD D0 50 Z54) 51 (newD Z17))
theorem ZqY:DSound Try.prog Z64:=(DSound.new (DSound.ro DSound.zero Zh1 ZaN) Zay)
@[simp] theorem ZaQ:Z64 50=some Z54:=rfl
@[simp] theorem ZaR:Z64 51=some (newD Z17):=rfl
noncomputable def Z2F:Tab:=(updF (updF (updF (updF (updF (updF (updF (updF (updF T0 16 Z18) 22 Z82) 23 Z85) 49 Z4A) 50 Z3l) 51 Z17) 52 Z8a) 53 Z3k) 54 Z51)
theorem ZqZ:TSound Try.prog Z2F:=(TSound.upd (TSound.upd (TSound.upd (TSound.upd (TSound.upd (TSound.upd (TSound.upd (TSound.upd (TSound.upd TSound.zero Z5X) Zqn) ZqA) ZgZ) ZaN) Zay) ZqW) ZcT) ZgW)
@[simp] theorem Z56:Z2F 16=some Z18:=rfl
@[simp] theorem ZaS:Z2F 22=some Z82:=rfl
@[simp] theorem Zd0:Z2F 23=some Z85:=rfl
@[simp] theorem Z65:Z2F 49=some Z4A:=rfl
@[simp] theorem ZwY:Z2F 50=some Z3l:=rfl
@[simp] theorem ZwZ:Z2F 51=some Z17:=rfl
@[simp] theorem Zh8:Z2F 52=some Z8a:=rfl
@[simp] theorem Zx0:Z2F 53=some Z3k:=rfl
@[simp] theorem Zr0:Z2F 54=some Z51:=rfl
noncomputable def Z8b:Fun:=runF Try.prog Z2F Z64 NN [0,1,2,3,4,5,6,7,8,9,11,12,13,22,32,40,55,76,84] Try.f13 2
theorem Zr1:CSound Try.prog 13 Z8b:=Z07 ZqZ ZqY mixed Try.func13 (by kernel_rfl) NN
theorem Zr2 {β:Type} (K:AV→Hp→Option β) (a0:AV) (a1:AV) (h:Hp):(Z8b [a0,a1] h).bind (fun p=>K p.1 p.2)=Z32 Try.prog Z2F Z64 NN K a0 a1 h:=by
 rw [← Zlg];exact Z08 rfl
noncomputable def Z36:Fun:=closedX [.a [none,some 2,some 7], .o] [.a [none,some 2,some 7], .o, .o, .o] Z8b
theorem Zd1:CSound Try.prog 13 Z36:=Z0b _ _ Zr1
noncomputable def Zd2:DFun:=closedXD [.a [none,some 2,some 7], .o] [.a [none,some 2,some 7], .o, .o, .o] Z8b
theorem Zr3:Ro Z36 Zd2:=Z2R _ _ _
theorem Z57 {a0:AV} {a1:AV} {v:AV} (ha:plains [a0,a1]=true) (hv:Z32 Try.prog Z2F Z64 NN (fun v g=>cvt false g v) (nrm (.a [none,some 2,some 7]) a0) a1 []=some v) (h:Hp):Z36 [a0,a1] h=some ((nrmR [.a [none,some 2,some 7], .o, .o, .o] v),h):=by
 have e:(Z8b (nrms [.a [none,some 2,some 7], .o] [a0,a1]) []).bind (fun (p:AV × Hp)=>cvt false p.2 p.1)=some v:=(Zr2 (fun v g=>cvt false g v) (nrm (.a [none,some 2,some 7]) a0) a1 []).trans hv
 exact (Z0c (shr:=[.a [none,some 2,some 7], .o, .o, .o]) ha e h).trans (congrArg (fun x=>some (x,h)) rfl)
noncomputable def ZaT:DTab:=D0
theorem Zr4:DSound Try.prog ZaT:=DSound.zero
noncomputable def ZaU:Tab:=T0
theorem Zr5:TSound Try.prog ZaU:=TSound.zero
noncomputable def ZaV:Fun:=runF Try.prog ZaU ZaT NN [0,2] Try.f75 1
theorem Zr6:CSound Try.prog 75 ZaV:=Z07 Zr5 Zr4 mixed Try.func75 (by kernel_rfl) NN
theorem Zr7 {β:Type} (K:AV→Hp→Option β) (a0:AV) (h:Hp):(ZaV [a0] h).bind (fun p=>K p.1 p.2)=Z9I Try.prog ZaU ZaT NN K a0 h:=by
 rw [← ZmP];exact Z08 rfl
noncomputable def Z2X:Fun:=closedX [.o] [.o] ZaV
theorem ZaW:CSound Try.prog 75 Z2X:=Z0b _ _ Zr6
theorem Zr8 {a0:AV} {v:AV} (ha:plains [a0]=true) (hv:Z9I Try.prog ZaU ZaT NN (fun v g=>cvt false g v) a0 []=some v) (h:Hp):Z2X [a0] h=some (v,h):=by
 have e:(ZaV (nrms [.o] [a0]) []).bind (fun (p:AV × Hp)=>cvt false p.2 p.1)=some v:=(Zr7 (fun v g=>cvt false g v) a0 []).trans hv
 exact (Z0c (shr:=[.o]) ha e h).trans (congrArg (fun x=>some (x,h)) (Z0K 1 v))
noncomputable def Z58:DTab:=D0
theorem Zr9:DSound Try.prog Z58:=DSound.zero
noncomputable def Z3m:Tab:=(updF (updF T0 49 Z4A) 75 Z2X)
theorem Zra:TSound Try.prog Z3m:=(TSound.upd (TSound.upd TSound.zero ZgZ) ZaW)
@[simp] theorem Zrb:Z3m 49=some Z4A:=rfl
@[simp] theorem Zrc:Z3m 75=some Z2X:=rfl
noncomputable def ZaX:Fun:=runF Try.prog Z3m Z58 NN [0,1,2,3,4,6,7,22,28,29,30,31,41,45,51] Try.f64 1
theorem Zrd:CSound Try.prog 64 ZaX:=Z07 Zra Zr9 mixed Try.func64 (by kernel_rfl) NN
theorem Zre {β:Type} (K:AV→Hp→Option β) (a0:AV) (h:Hp):(ZaX [a0] h).bind (fun p=>K p.1 p.2)=Z7j Try.prog Z3m Z58 NN K a0 h:=by
 rw [← ZmF];exact Z08 rfl
noncomputable def Z2M:Fun:=closedX [.a [none,none,some 10]] [.o] ZaX
theorem ZaY:CSound Try.prog 64 Z2M:=Z0b _ _ Zrd
theorem Zrf {a0:AV} {v:AV} (ha:plains [a0]=true) (hv:Z7j Try.prog Z3m Z58 NN (fun v g=>cvt false g v) (nrm (.a [none,none,some 10]) a0) []=some v) (h:Hp):Z2M [a0] h=some (v,h):=by
 have e:(ZaX (nrms [.a [none,none,some 10]] [a0]) []).bind (fun (p:AV × Hp)=>cvt false p.2 p.1)=some v:=(Zre (fun v g=>cvt false g v) (nrm (.a [none,none,some 10]) a0) []).trans hv
 exact (Z0c (shr:=[.o]) ha e h).trans (congrArg (fun x=>some (x,h)) (Z0K 1 v))
noncomputable def Z8c:DTab:=D0
theorem Zrg:DSound Try.prog Z8c:=DSound.zero
noncomputable def Z8d:Tab:=T0
theorem Zrh:TSound Try.prog Z8d:=TSound.zero
noncomputable def Z2N:Fun:=runF Try.prog Z8d Z8c NN [0,2,4] Try.f66 1
theorem Zd3:CSound Try.prog 66 Z2N:=Z07 Zrh Zrg mixed Try.func66 (by kernel_rfl) NN
theorem Zh9 {β:Type} (K:AV→Hp→Option β) (a0:AV) (h:Hp):(Z2N [a0] h).bind (fun p=>K p.1 p.2)=Z47 Try.prog Z8d Z8c NN K a0 h:=by
 rw [← ZmH];exact Z08 rfl
theorem Zri (a0:AV) (h:Hp):Z2N [a0] h=Z47 Try.prog Z8d Z8c NN (fun v h=>some (v,h)) a0 h:=(Z12 _).symm.trans (Zh9 (fun v h=>some (v,h)) a0 h)
noncomputable def Z59:Fun:=closedX [.l 10] [.l 10] Z2N
theorem Zrj:CSound Try.prog 66 Z59:=Z0b _ _ Zd3
theorem Zrk {a0:AV} {v:AV} (ha:plains [a0]=true) (hv:Z47 Try.prog Z8d Z8c NN (fun v g=>cvt false g v) (nrm (.l 10) a0) []=some v) (h:Hp):Z59 [a0] h=some ((nrmR [.l 10] v),h):=by
 have e:(Z2N (nrms [.l 10] [a0]) []).bind (fun (p:AV × Hp)=>cvt false p.2 p.1)=some v:=(Zh9 (fun v g=>cvt false g v) (nrm (.l 10) a0) []).trans hv
 exact (Z0c (shr:=[.l 10]) ha e h).trans (congrArg (fun x=>some (x,h)) rfl)
noncomputable def ZaZ:DTab:=D0
theorem Zrl:DSound Try.prog ZaZ:=DSound.zero
noncomputable def Zb0:Tab:=T0
theorem Zrm:TSound Try.prog Zb0:=TSound.zero
noncomputable def Zb1:Fun:=runF Try.prog Zb0 ZaZ NN [0,1,2,3] Try.f90 2
theorem Zrn:CSound Try.prog 90 Zb1:=Z07 Zrm Zrl mixed Try.func90 (by kernel_rfl) NN
theorem Zro {β:Type} (K:AV→Hp→Option β) (a0:AV) (a1:AV) (h:Hp):(Zb1 [a0,a1] h).bind (fun p=>K p.1 p.2)=Za0 Try.prog Zb0 ZaZ NN K a0 a1 h:=by
 rw [← ZnC];exact Z08 rfl
noncomputable def Z3n:Fun:=quietT Zb1
theorem Zd4:CSound Try.prog 90 Z3n:=Z6V Zrn
theorem Zrp {a0:AV} {a1:AV} {h:Hp} {g:List AObj} {v:AV} (hv:Za0 Try.prog Zb0 ZaZ NN (fun v h=>some (v,h)) a0 a1 h=some (v,h++g)) (hp:plain v=true):Z3n [a0,a1] h=some (v,h):=Z8V (F:=Zb1) (((Z12 _).symm.trans (Zro (fun v h=>some (v,h)) a0 a1 h)).trans hv) hp
noncomputable def Zb2:DTab:=D0
theorem Zrq:DSound Try.prog Zb2:=DSound.zero
noncomputable def Z66:Tab:=(updF T0 90 Z3n)
theorem Zrr:TSound Try.prog Z66:=(TSound.upd TSound.zero Zd4)
@[simp] theorem Zrs:Z66 90=some Z3n:=rfl
noncomputable def Zb3:Fun:=runF Try.prog Z66 Zb2 NN [0,1,4,5,7,8,9,16] Try.f70 2
theorem Zrt:CSound Try.prog 70 Zb3:=Z07 Zrr Zrq mixed Try.func70 (by kernel_rfl) NN
theorem Zru {β:Type} (K:AV→Hp→Option β) (a0:AV) (a1:AV) (h:Hp):(Zb3 [a0,a1] h).bind (fun p=>K p.1 p.2)=Z5C Try.prog Z66 Zb2 NN K a0 a1 h:=by
 rw [← ZmO];exact Z08 rfl
noncomputable def Z67:Fun:=quietT Zb3
theorem Zrv:CSound Try.prog 70 Z67:=Z6V Zrt
theorem Zha {a0:AV} {a1:AV} {h:Hp} {g:List AObj} {v:AV} (hv:Z5C Try.prog Z66 Zb2 NN (fun v h=>some (v,h)) a0 a1 h=some (v,h++g)) (hp:plain v=true):Z67 [a0,a1] h=some (v,h):=Z8V (F:=Zb3) (((Z12 _).symm.trans (Zru (fun v h=>some (v,h)) a0 a1 h)).trans hv) hp
noncomputable def Z8e:DTab:=D0
theorem Zrw:DSound Try.prog Z8e:=DSound.zero
noncomputable def Z3o:Tab:=(updF (updF T0 70 Z67) 90 Z3n)
theorem Zrx:TSound Try.prog Z3o:=(TSound.upd (TSound.upd TSound.zero Zrv) Zd4)
@[simp] theorem Zhb:Z3o 70=some Z67:=rfl
@[simp] theorem Zry:Z3o 90=some Z3n:=rfl
noncomputable def Z68:Fun:=runF Try.prog Z3o Z8e NN [0,1,4,5,6,7,12,19,29] Try.f89 2
theorem Zrz:CSound Try.prog 89 Z68:=Z07 Zrx Zrw mixed Try.func89 (by kernel_rfl) NN
theorem ZrA {β:Type} (K:AV→Hp→Option β) (a0:AV) (a1:AV) (h:Hp):(Z68 [a0,a1] h).bind (fun p=>K p.1 p.2)=Z4r Try.prog Z3o Z8e NN K a0 a1 h:=by
 rw [← ZnB];exact Z08 rfl
theorem Zhc (a0:AV) (a1:AV) (h:Hp):Z68 [a0,a1] h=Z4r Try.prog Z3o Z8e NN (fun v h=>some (v,h)) a0 a1 h:=(Z12 _).symm.trans (ZrA (fun v h=>some (v,h)) a0 a1 h)
noncomputable def Zb4:DTab:=D0
theorem ZrB:DSound Try.prog Zb4:=DSound.zero
noncomputable def Z3p:Tab:=(updF (updF (updF (updF (updF T0 64 Z2M) 66 Z2N) 75 Z2X) 89 Z68) 90 Z3n)
theorem ZrC:TSound Try.prog Z3p:=(TSound.upd (TSound.upd (TSound.upd (TSound.upd (TSound.upd TSound.zero ZaY) Zd3) ZaW) Zrz) Zd4)
@[simp] theorem Zd5:Z3p 64=some Z2M:=rfl
@[simp] theorem ZrD:Z3p 66=some Z2N:=rfl
@[simp] theorem Zhd:Z3p 75=some Z2X:=rfl
@[simp] theorem ZrE:Z3p 89=some Z68:=rfl
@[simp] theorem Zx1:Z3p 90=some Z3n:=rfl
noncomputable def Zb5:Fun:=runF Try.prog Z3p Zb4 NN [0,1,2,3,4,5,6,10] Try.f65 2
theorem ZrF:CSound Try.prog 65 Zb5:=Z07 ZrC ZrB mixed Try.func65 (by kernel_rfl) NN
theorem ZrG {β:Type} (K:AV→Hp→Option β) (a0:AV) (a1:AV) (h:Hp):(Zb5 [a0,a1] h).bind (fun p=>K p.1 p.2)=Z5A Try.prog Z3p Zb4 NN K a0 a1 h:=by
 rw [← ZmG];exact Z08 rfl
noncomputable def Z69:Fun:=closedX [.a [none,none,some 10], .o] [.l 10, .o] Zb5
theorem ZrH:CSound Try.prog 65 Z69:=Z0b _ _ ZrF
theorem Zd6 {a0:AV} {a1:AV} {v:AV} (ha:plains [a0,a1]=true) (hv:Z5A Try.prog Z3p Zb4 NN (fun v g=>cvt false g v) (nrm (.a [none,none,some 10]) a0) a1 []=some v) (h:Hp):Z69 [a0,a1] h=some ((nrmR [.l 10, .o] v),h):=by
 have e:(Zb5 (nrms [.a [none,none,some 10], .o] [a0,a1]) []).bind (fun (p:AV × Hp)=>cvt false p.2 p.1)=some v:=(ZrG (fun v g=>cvt false g v) (nrm (.a [none,none,some 10]) a0) a1 []).trans hv
 exact (Z0c (shr:=[.l 10, .o]) ha e h).trans (congrArg (fun x=>some (x,h)) rfl)
noncomputable def Zhe:DTab:=D0
theorem ZrI:DSound Try.prog Zhe:=DSound.zero
noncomputable def Zhf:Tab:=T0
theorem ZrJ:TSound Try.prog Zhf:=TSound.zero
noncomputable def Zhg:Fun:=runF Try.prog Zhf Zhe NN [0,1,2,4,5,6,7,8,9,24] Try.f91 3
theorem ZrK:CSound Try.prog 91 Zhg:=Z07 ZrJ ZrI mixed Try.func91 (by kernel_rfl) NN
noncomputable def Zd7:Fun:=quietT Zhg
theorem ZrL:CSound Try.prog 91 Zd7:=Z6V ZrK
noncomputable def Zb6:DTab:=D0
theorem ZrM:DSound Try.prog Zb6:=DSound.zero
noncomputable def Z8f:Tab:=(updF T0 91 Zd7)
theorem ZrN:TSound Try.prog Z8f:=(TSound.upd TSound.zero ZrL)
@[simp] theorem Zx2:Z8f 91=some Zd7:=rfl
noncomputable def Zd8:Fun:=runF Try.prog Z8f Zb6 NN [0,1,2,3,4] Try.f67 2
theorem ZrO:CSound Try.prog 67 Zd8:=Z07 ZrN ZrM mixed Try.func67 (by kernel_rfl) NN
theorem ZrP {β:Type} (K:AV→Hp→Option β) (a0:AV) (a1:AV) (h:Hp):(Zd8 [a0,a1] h).bind (fun p=>K p.1 p.2)=ZcE Try.prog Z8f Zb6 NN K a0 a1 h:=by
 rw [← ZmI];exact Z08 rfl
noncomputable def Z6a:Fun:=Zd8
theorem ZrQ:CSound Try.prog 67 Z6a:=ZrO
theorem ZrR (a0:AV) (a1:AV) (h:Hp):Z6a [a0,a1] h=ZcE Try.prog Z8f Zb6 NN (fun v h=>some (v,h)) a0 a1 h:=(Z12 _).symm.trans (ZrP (fun v h=>some (v,h)) a0 a1 h)
noncomputable def Z8g:DTab:=D0
theorem ZrS:DSound Try.prog Z8g:=DSound.zero
noncomputable def Z6b:Tab:=(updF T0 66 Z2N)
theorem ZrT:TSound Try.prog Z6b:=(TSound.upd TSound.zero Zd3)
@[simp] theorem ZrU:Z6b 66=some Z2N:=rfl
noncomputable def Z2G:Fun:=runF Try.prog Z6b Z8g NN [0,1,2] Try.f77 1
theorem Zd9:CSound Try.prog 77 Z2G:=Z07 ZrT ZrS mixed Try.func77 (by kernel_rfl) NN
theorem ZrV {β:Type} (K:AV→Hp→Option β) (a0:AV) (h:Hp):(Z2G [a0] h).bind (fun p=>K p.1 p.2)=Z7l Try.prog Z6b Z8g NN K a0 h:=by
 rw [← ZmR];exact Z08 rfl
theorem ZrW (a0:AV) (h:Hp):Z2G [a0] h=Z7l Try.prog Z6b Z8g NN (fun v h=>some (v,h)) a0 h:=(Z12 _).symm.trans (ZrV (fun v h=>some (v,h)) a0 h)
noncomputable def Zb7:DTab:=D0
theorem ZrX:DSound Try.prog Zb7:=DSound.zero
noncomputable def Zb8:Tab:=T0
theorem ZrY:TSound Try.prog Zb8:=TSound.zero
noncomputable def Zb9:Fun:=runF Try.prog Zb8 Zb7 NN [0,1,2,4] Try.f93 3
theorem ZrZ:CSound Try.prog 93 Zb9:=Z07 ZrY ZrX mixed Try.func93 (by kernel_rfl) NN
theorem Zs0 {β:Type} (K:AV→Hp→Option β) (a0:AV) (a1:AV) (a2:AV) (h:Hp):(Zb9 [a0,a1,a2] h).bind (fun p=>K p.1 p.2)=Za4 Try.prog Zb8 Zb7 NN K a0 a1 a2 h:=by
 rw [← ZnN];exact Z08 rfl
noncomputable def Z5a:Fun:=quietT Zb9
theorem Zhh:CSound Try.prog 93 Z5a:=Z6V ZrZ
theorem Zs1 {a0:AV} {a1:AV} {a2:AV} {h:Hp} {g:List AObj} {v:AV} (hv:Za4 Try.prog Zb8 Zb7 NN (fun v h=>some (v,h)) a0 a1 a2 h=some (v,h++g)) (hp:plain v=true):Z5a [a0,a1,a2] h=some (v,h):=Z8V (F:=Zb9) (((Z12 _).symm.trans (Zs0 (fun v h=>some (v,h)) a0 a1 a2 h)).trans hv) hp
noncomputable def Zba:DTab:=D0
theorem Zs2:DSound Try.prog Zba:=DSound.zero
noncomputable def Z6c:Tab:=(updF T0 93 Z5a)
theorem Zs3:TSound Try.prog Z6c:=(TSound.upd TSound.zero Zhh)
@[simp] theorem Zs4:Z6c 93=some Z5a:=rfl
noncomputable def Zbb:Fun:=runF Try.prog Z6c Zba NN [0,1,4,5,6,7,11,21] Try.f92 2
theorem Zs5:CSound Try.prog 92 Zbb:=Z07 Zs3 Zs2 mixed Try.func92 (by kernel_rfl) NN
theorem Zs6 {β:Type} (K:AV→Hp→Option β) (a0:AV) (a1:AV) (h:Hp):(Zbb [a0,a1] h).bind (fun p=>K p.1 p.2)=Z7D Try.prog Z6c Zba NN K a0 a1 h:=by
 rw [← ZnM];exact Z08 rfl
noncomputable def Z8h:Fun:=quietT Zbb
theorem Zs7:CSound Try.prog 92 Z8h:=Z6V Zs5
theorem Zs8 {a0:AV} {a1:AV} {h:Hp} {g:List AObj} {v:AV} (hv:Z7D Try.prog Z6c Zba NN (fun v h=>some (v,h)) a0 a1 h=some (v,h++g)) (hp:plain v=true):Z8h [a0,a1] h=some (v,h):=Z8V (F:=Zbb) (((Z12 _).symm.trans (Zs6 (fun v h=>some (v,h)) a0 a1 h)).trans hv) hp
noncomputable def Zbc:DTab:=D0
theorem Zs9:DSound Try.prog Zbc:=DSound.zero
noncomputable def Zbd:Tab:=T0
theorem Zsa:TSound Try.prog Zbd:=TSound.zero
noncomputable def Z6d:Fun:=runF Try.prog Zbd Zbc NN [0,1,2,6,7,16] Try.f94 3
theorem Zsb:CSound Try.prog 94 Z6d:=Z07 Zsa Zs9 mixed Try.func94 (by kernel_rfl) NN
theorem Zsc {β:Type} (K:AV→Hp→Option β) (a0:AV) (a1:AV) (a2:AV) (h:Hp):(Z6d [a0,a1,a2] h).bind (fun p=>K p.1 p.2)=Za5 Try.prog Zbd Zbc NN K a0 a1 a2 h:=by
 rw [← ZnO];exact Z08 rfl
theorem Zsd (a0:AV) (a1:AV) (a2:AV) (h:Hp):Z6d [a0,a1,a2] h=Za5 Try.prog Zbd Zbc NN (fun v h=>some (v,h)) a0 a1 a2 h:=(Z12 _).symm.trans (Zsc (fun v h=>some (v,h)) a0 a1 a2 h)
noncomputable def Z8i:DTab:=D0
theorem Zse:DSound Try.prog Z8i:=DSound.zero
noncomputable def Z37:Tab:=(updF (updF (updF (updF (updF T0 64 Z2M) 77 Z2G) 92 Z8h) 93 Z5a) 94 Z6d)
theorem Zsf:TSound Try.prog Z37:=(TSound.upd (TSound.upd (TSound.upd (TSound.upd (TSound.upd TSound.zero ZaY) Zd9) Zs7) Zhh) Zsb)
@[simp] theorem Z6e:Z37 64=some Z2M:=rfl
@[simp] theorem Zda:Z37 77=some Z2G:=rfl
@[simp] theorem Zdb:Z37 92=some Z8h:=rfl
@[simp] theorem Zx3:Z37 93=some Z5a:=rfl
@[simp] theorem Zsg:Z37 94=some Z6d:=rfl
noncomputable def Zbe:Fun:=runF Try.prog Z37 Z8i NN [0,1,2,3,4,5,6,7,8,13,20,54] Try.f68 2
theorem Zsh:CSound Try.prog 68 Zbe:=Z07 Zsf Zse mixed Try.func68 (by kernel_rfl) NN
theorem Zsi {β:Type} (K:AV→Hp→Option β) (a0:AV) (a1:AV) (h:Hp):(Zbe [a0,a1] h).bind (fun p=>K p.1 p.2)=Z3f Try.prog Z37 Z8i NN K a0 a1 h:=by
 rw [← ZmJ];exact Z08 rfl
noncomputable def Z6f:Fun:=closedX [.a [none,none,some 10], .o] [.a [none,none,some 10], .o] Zbe
theorem Zsj:CSound Try.prog 68 Z6f:=Z0b _ _ Zsh
theorem Z6g {a0:AV} {a1:AV} {v:AV} (ha:plains [a0,a1]=true) (hv:Z3f Try.prog Z37 Z8i NN (fun v g=>cvt false g v) (nrm (.a [none,none,some 10]) a0) a1 []=some v) (h:Hp):Z6f [a0,a1] h=some ((nrmR [.a [none,none,some 10], .o] v),h):=by
 have e:(Zbe (nrms [.a [none,none,some 10], .o] [a0,a1]) []).bind (fun (p:AV × Hp)=>cvt false p.2 p.1)=some v:=(Zsi (fun v g=>cvt false g v) (nrm (.a [none,none,some 10]) a0) a1 []).trans hv
 exact (Z0c (shr:=[.a [none,none,some 10], .o]) ha e h).trans (congrArg (fun x=>some (x,h)) rfl)
noncomputable def Z1c:DTab:=(updD (updD D0 50 Z54) 51 Zaz)
theorem Zhi:DSound Try.prog Z1c:=(DSound.ro (DSound.ro DSound.zero Zh1 ZaN) Zpu ZgS)
@[simp] theorem Zsk:Z1c 50=some Z54:=rfl
@[simp] theorem Zsl:Z1c 51=some Zaz:=rfl
noncomputable def Z1d:Tab:=(updF (updF (updF (updF (updF (updF (updF (updF (updF T0 13 Z36) 16 Z18) 50 Z3l) 51 Z4Y) 64 Z2M) 65 Z69) 66 Z59) 67 Z6a) 68 Z6f)
theorem Zhj:TSound Try.prog Z1d:=(TSound.upd (TSound.upd (TSound.upd (TSound.upd (TSound.upd (TSound.upd (TSound.upd (TSound.upd (TSound.upd TSound.zero Zd1) Z5X) ZaN) ZgS) ZaY) ZrH) Zrj) ZrQ) Zsj)
@[simp] theorem Zsm:Z1d 13=some Z36:=rfl
@[simp] theorem Zx4:Z1d 16=some Z18:=rfl
@[simp] theorem Zx5:Z1d 50=some Z3l:=rfl
@[simp] theorem Zx6:Z1d 51=some Z4Y:=rfl
@[simp] theorem Zx7:Z1d 64=some Z2M:=rfl
@[simp] theorem Zx8:Z1d 65=some Z69:=rfl
@[simp] theorem Zx9:Z1d 66=some Z59:=rfl
@[simp] theorem Zxa:Z1d 67=some Z6a:=rfl
@[simp] theorem Zsn:Z1d 68=some Z6f:=rfl
noncomputable def Z6h:Fun:=yieldF Try.prog Z1d Z1c NN [0,1,2,3,4,5,7,8,9,10,11,13,14,15,16,17,18,20,21,32,63,64,65,75,84] 4
theorem Zso:YSound Try.prog Z6h:=Zl9 Zhj Zhi mixed NN
theorem Zsp {L:Nat} {h:Hp} {pend:Option Code} {v7:AV} {v8:AV} {v9:AV} {v10:AV} {v13:AV} {v14:AV} {v64:AV} {v65:AV} (hL:h[L]? = some (.loop (Z2U) (Z2T) (Z2J) (Z2K) (envT [(7,v7),(8,v8),(9,v9),(10,v10),(13,v13),(14,v14)]) .ready pend)):Z6h [ymark, .yl L,v64,v65] h=ZcB Try.prog Z1d Z1c NN L (envT [(7,v7),(8,v8),(9,v9),(10,v10),(13,v13),(14,v14)]) (fun h=>some (.s (.bool true),h.set L (.loop (Z2U) (Z2T) (Z2J) (Z2K) (envT [(7,v7),(8,v8),(9,v9),(10,v10),(13,v13),(14,v14)]) .ready none))) (fun h=>some (.s (.bool false),h.set L (.loop (Z2U) (Z2T) (Z2J) (Z2K) (envT [(7,v7),(8,v8),(9,v9),(10,v10),(13,v13),(14,v14)]) .done (some .ret)))) v7 v8 v9 v10 v13 v14 v64 v65 h:=(Zl7 hL (by kernel_rfl)).trans (ZlN Z1d Z1c NN L v7 v8 v9 v10 v13 v14 v64 v65 h)
noncomputable def Z0T:Tab:=(updF T0 YB Z6h)
theorem Zsq:TSound Try.prog Z0T:=(TSound.updY TSound.zero Zso)
@[simp] theorem Zhk:Z0T YB=some Z6h:=rfl
noncomputable def Z6i:Fun:=runF Try.prog Z0T D0 NN [0,1,2,4,5,6,7,8,9,24] Try.f91 3
theorem Zsr:CSound Try.prog 91 Z6i:=Z07 Zsq DSound.zero mixed Try.func91 (by kernel_rfl) NN
theorem Zss {β:Type} (K:AV→Hp→Option β) (a0:AV) (a1:AV) (a2:AV) (h:Hp):(Z6i [a0,a1,a2] h).bind (fun p=>K p.1 p.2)=Z7B Try.prog Z0T D0 NN K a0 a1 a2 h:=by
 rw [← ZnH];exact Z08 rfl
theorem Zst (a0:AV) (a1:AV) (a2:AV) (h:Hp):Z6i [a0,a1,a2] h=Z7B Try.prog Z0T D0 NN (fun v h=>some (v,h)) a0 a1 a2 h:=(Z12 _).symm.trans (Zss (fun v h=>some (v,h)) a0 a1 a2 h)
noncomputable def Z0X:Tab:=(updF Z1d 91 Z6i)
theorem Zsu:TSound Try.prog Z0X:=(TSound.upd Zhj Zsr)
@[simp] theorem Zxb:Z0X 13=some Z36:=rfl
@[simp] theorem Zdc:Z0X 16=some Z18:=rfl
@[simp] theorem Zxc:Z0X 50=some Z3l:=rfl
@[simp] theorem Zxd:Z0X 51=some Z4Y:=rfl
@[simp] theorem Zdd:Z0X 64=some Z2M:=rfl
@[simp] theorem Zsv:Z0X 65=some Z69:=rfl
@[simp] theorem Zsw:Z0X 66=some Z59:=rfl
@[simp] theorem Zsx:Z0X 67=some Z6a:=rfl
@[simp] theorem Zxe:Z0X 68=some Z6f:=rfl
@[simp] theorem Zhl:Z0X 91=some Z6i:=rfl
noncomputable def Zbf:Fun:=runF Try.prog Z0X Z1c NN [0,1,2,3,4,5,7,8,9,10,11,13,14,15,16,17,18,20,21,32,63,64,65,75,84] Try.f30 4
theorem Zsy:CSound Try.prog 30 Zbf:=Z07 Zsu Zhi mixed Try.func30 (by kernel_rfl) NN
theorem Zsz {β:Type} (K:AV→Hp→Option β) (a0:AV) (a1:AV) (a2:AV) (a3:AV) (h:Hp):(Zbf [a0,a1,a2,a3] h).bind (fun p=>K p.1 p.2)=Z3O Try.prog Z0X Z1c NN K a0 a1 a2 a3 h:=by
 rw [← ZlO];exact Z08 rfl
noncomputable def Z4C:Fun:=closedX [.a [none,none,some 10], .a [none,some 2,some 7], .o, .o] [.a [none,none,some 10], .a [none,some 2,some 7], .o] Zbf
theorem ZsA:CSound Try.prog 30 Z4C:=Z0b _ _ Zsy
theorem ZsB {a0:AV} {a1:AV} {a2:AV} {a3:AV} {v:AV} (ha:plains [a0,a1,a2,a3]=true) (hv:Z3O Try.prog Z0X Z1c NN (fun v g=>cvt false g v) (nrm (.a [none,none,some 10]) a0) (nrm (.a [none,some 2,some 7]) a1) a2 a3 []=some v) (h:Hp):Z4C [a0,a1,a2,a3] h=some ((nrmR [.a [none,none,some 10], .a [none,some 2,some 7], .o] v),h):=by
 have e:(Zbf (nrms [.a [none,none,some 10], .a [none,some 2,some 7], .o, .o] [a0,a1,a2,a3]) []).bind (fun (p:AV × Hp)=>cvt false p.2 p.1)=some v:=(Zsz (fun v g=>cvt false g v) (nrm (.a [none,none,some 10]) a0) (nrm (.a [none,some 2,some 7]) a1) a2 a3 []).trans hv
 exact (Z0c (shr:=[.a [none,none,some 10], .a [none,some 2,some 7], .o]) ha e h).trans (congrArg (fun x=>some (x,h)) rfl)
noncomputable def Zbg:DTab:=D0
theorem ZsC:DSound Try.prog Zbg:=DSound.zero
noncomputable def Z8j:Tab:=(updF T0 75 Z2X)
theorem ZsD:TSound Try.prog Z8j:=(TSound.upd TSound.zero ZaW)
@[simp] theorem Zhm:Z8j 75=some Z2X:=rfl
noncomputable def Zbh:Fun:=runF Try.prog Z8j Zbg NN [0,2,3,6] Try.f43 1
theorem ZsE:CSound Try.prog 43 Zbh:=Z07 ZsD ZsC mixed Try.func43 (by kernel_rfl) NN
theorem ZsF {β:Type} (K:AV→Hp→Option β) (a0:AV) (h:Hp):(Zbh [a0] h).bind (fun p=>K p.1 p.2)=Z79 Try.prog Z8j Zbg NN K a0 h:=by
 rw [← ZlP];exact Z08 rfl
noncomputable def Z6j:Fun:=closedX [.o] [.a [none,none,some 10], .o] Zbh
theorem ZsG:CSound Try.prog 43 Z6j:=Z0b _ _ ZsE
theorem Zhn {a0:AV} {v:AV} (ha:plains [a0]=true) (hv:Z79 Try.prog Z8j Zbg NN (fun v g=>cvt false g v) a0 []=some v) (h:Hp):Z6j [a0] h=some ((nrmR [.a [none,none,some 10], .o] v),h):=by
 have e:(Zbh (nrms [.o] [a0]) []).bind (fun (p:AV × Hp)=>cvt false p.2 p.1)=some v:=(ZsF (fun v g=>cvt false g v) a0 []).trans hv
 exact (Z0c (shr:=[.a [none,none,some 10], .o]) ha e h).trans (congrArg (fun x=>some (x,h)) rfl)
noncomputable def Z8k:DTab:=(updD D0 77 (newA Z2G))
theorem ZsH:DSound Try.prog Z8k:=(DSound.newA DSound.zero Zd9)
@[simp] theorem ZsI:Z8k 77=some (newA Z2G):=rfl
noncomputable def Z4D:Tab:=(updF (updF (updF (updF T0 64 Z2M) 75 Z2X) 76 Z35) 77 Z2G)
theorem ZsJ:TSound Try.prog Z4D:=(TSound.upd (TSound.upd (TSound.upd (TSound.upd TSound.zero ZaY) ZaW) ZcV) Zd9)
@[simp] theorem ZsK:Z4D 64=some Z2M:=rfl
@[simp] theorem ZsL:Z4D 75=some Z2X:=rfl
@[simp] theorem ZsM:Z4D 76=some Z35:=rfl
@[simp] theorem Zxf:Z4D 77=some Z2G:=rfl
noncomputable def Z8l:Fun:=runF Try.prog Z4D Z8k NN [0,1,2,3,5,6,7,8,9,10,11,12,16,20,25,29,34,39] Try.f44 3
theorem ZsN:CSound Try.prog 44 Z8l:=Z07 ZsJ ZsH mixed Try.func44 (by kernel_rfl) NN
theorem ZsO {β:Type} (K:AV→Hp→Option β) (a0:AV) (a1:AV) (a2:AV) (h:Hp):(Z8l [a0,a1,a2] h).bind (fun p=>K p.1 p.2)=Z9h Try.prog Z4D Z8k NN K a0 a1 a2 h:=by
 rw [← ZlQ];exact Z08 rfl
noncomputable def Z3q:Fun:=closedX [.a [none,none,some 10], .o, .o] [.a [none,none,some 10], .o, .o] Z8l
theorem Zho:CSound Try.prog 44 Z3q:=Z0b _ _ ZsN
noncomputable def Zbi:DFun:=closedXD [.a [none,none,some 10], .o, .o] [.a [none,none,some 10], .o, .o] Z8l
theorem ZsP:Ro Z3q Zbi:=Z2R _ _ _
theorem ZsQ {a0:AV} {a1:AV} {a2:AV} {v:AV} (ha:plains [a0,a1,a2]=true) (hv:Z9h Try.prog Z4D Z8k NN (fun v g=>cvt false g v) (nrm (.a [none,none,some 10]) a0) a1 a2 []=some v) (h:Hp):Z3q [a0,a1,a2] h=some ((nrmR [.a [none,none,some 10], .o, .o] v),h):=by
 have e:(Z8l (nrms [.a [none,none,some 10], .o, .o] [a0,a1,a2]) []).bind (fun (p:AV × Hp)=>cvt false p.2 p.1)=some v:=(ZsO (fun v g=>cvt false g v) (nrm (.a [none,none,some 10]) a0) a1 a2 []).trans hv
 exact (Z0c (shr:=[.a [none,none,some 10], .o, .o]) ha e h).trans (congrArg (fun x=>some (x,h)) rfl)
noncomputable def Zbj:DTab:=D0
theorem ZsR:DSound Try.prog Zbj:=DSound.zero
noncomputable def Zbk:Tab:=T0
theorem ZsS:TSound Try.prog Zbk:=TSound.zero
noncomputable def Z8m:Fun:=runF Try.prog Zbk Zbj NN [0,2] Try.f45 1
theorem ZsT:CSound Try.prog 45 Z8m:=Z07 ZsS ZsR mixed Try.func45 (by kernel_rfl) NN
theorem ZsU {β:Type} (K:AV→Hp→Option β) (a0:AV) (h:Hp):(Z8m [a0] h).bind (fun p=>K p.1 p.2)=Z9i Try.prog Zbk Zbj NN K a0 h:=by
 rw [← ZlR];exact Z08 rfl
noncomputable def Z6k:Fun:=closedX [.o] [.o] Z8m
theorem Zhp:CSound Try.prog 45 Z6k:=Z0b _ _ ZsT
noncomputable def Z8n:DFun:=closedXD [.o] [.o] Z8m
theorem ZsV:Ro Z6k Z8n:=Z2R _ _ _
theorem ZsW {a0:AV} {v:AV} (ha:plains [a0]=true) (hv:Z9i Try.prog Zbk Zbj NN (fun v g=>cvt false g v) a0 []=some v) (h:Hp):Z6k [a0] h=some (v,h):=by
 have e:(Z8m (nrms [.o] [a0]) []).bind (fun (p:AV × Hp)=>cvt false p.2 p.1)=some v:=(ZsU (fun v g=>cvt false g v) a0 []).trans hv
 exact (Z0c (shr:=[.o]) ha e h).trans (congrArg (fun x=>some (x,h)) (Z0K 1 v))
noncomputable def Z6l:DTab:=D0
theorem ZsX:DSound Try.prog Z6l:=DSound.zero
noncomputable def Z6m:Tab:=T0
theorem ZsY:TSound Try.prog Z6m:=TSound.zero
noncomputable def Zbl:Fun:=runF Try.prog Z6m Z6l NN [0,1,4,5,10,12,13,14,24] Try.f46 2
theorem ZsZ:CSound Try.prog 46 Zbl:=Z07 ZsY ZsX mixed Try.func46 (by kernel_rfl) NN
theorem Zt0 {β:Type} (K:AV→Hp→Option β) (a0:AV) (a1:AV) (h:Hp):(Zbl [a0,a1] h).bind (fun p=>K p.1 p.2)=Z5v Try.prog Z6m Z6l NN K a0 a1 h:=by
 rw [← ZlW];exact Z08 rfl
noncomputable def Z6n:Fun:=closedX [.l 2, .l 2] [.o] Zbl
theorem Zt1:CSound Try.prog 46 Z6n:=Z0b _ _ ZsZ
theorem Zt2 {a0:AV} {a1:AV} {v:AV} (ha:plains [a0,a1]=true) (hv:Z5v Try.prog Z6m Z6l NN (fun v g=>cvt false g v) (nrm (.l 2) a0) (nrm (.l 2) a1) []=some v) (h:Hp):Z6n [a0,a1] h=some (v,h):=by
 have e:(Zbl (nrms [.l 2, .l 2] [a0,a1]) []).bind (fun (p:AV × Hp)=>cvt false p.2 p.1)=some v:=(Zt0 (fun v g=>cvt false g v) (nrm (.l 2) a0) (nrm (.l 2) a1) []).trans hv
 exact (Z0c (shr:=[.o]) ha e h).trans (congrArg (fun x=>some (x,h)) (Z0K 1 v))
noncomputable def Z6o:DTab:=(updD (updD D0 44 Zbi) 45 Z8n)
theorem Zt3:DSound Try.prog Z6o:=(DSound.ro (DSound.ro DSound.zero ZsP Zho) ZsV Zhp)
@[simp] theorem Zt4:Z6o 44=some Zbi:=rfl
@[simp] theorem Zt5:Z6o 45=some Z8n:=rfl
noncomputable def Z2O:Tab:=(updF (updF (updF (updF (updF (updF (updF (updF T0 11 Z3j) 16 Z18) 19 Z7Z) 30 Z4C) 43 Z6j) 44 Z3q) 45 Z6k) 46 Z6n)
theorem Zt6:TSound Try.prog Z2O:=(TSound.upd (TSound.upd (TSound.upd (TSound.upd (TSound.upd (TSound.upd (TSound.upd (TSound.upd TSound.zero ZgN) Z5X) Zqa) ZsA) ZsG) Zho) Zhp) Zt1)
@[simp] theorem Zt7:Z2O 11=some Z3j:=rfl
@[simp] theorem Zt8:Z2O 16=some Z18:=rfl
@[simp] theorem Zt9:Z2O 19=some Z7Z:=rfl
@[simp] theorem Zta:Z2O 30=some Z4C:=rfl
@[simp] theorem Ztb:Z2O 43=some Z6j:=rfl
@[simp] theorem Zxg:Z2O 44=some Z3q:=rfl
@[simp] theorem Zxh:Z2O 45=some Z6k:=rfl
@[simp] theorem Ztc:Z2O 46=some Z6n:=rfl
noncomputable def Zbm:Fun:=runF Try.prog Z2O Z6o NN [0,1,2,4,6,7,8,9,10,11,12,13,14,44] Try.f9 0
theorem Ztd:CSound Try.prog 9 Zbm:=Z07 Zt6 Zt3 mixed Try.func9 (by kernel_rfl) NN
theorem Zte {β:Type} (K:AV→Hp→Option β) (h:Hp):(Zbm [] h).bind (fun p=>K p.1 p.2)=Z8Z Try.prog Z2O Z6o NN K  h:=by
 rw [← Zlc];exact Z08 rfl
noncomputable def Z8o:Fun:=closedX [] [.o] Zbm
theorem Ztf:CSound Try.prog 9 Z8o:=Z0b _ _ Ztd
theorem Ztg {v:AV} (ha:plains []=true) (hv:Z8Z Try.prog Z2O Z6o NN (fun v g=>cvt false g v)  []=some v) (h:Hp):Z8o [] h=some (v,h):=by
 have e:(Zbm (nrms [] []) []).bind (fun (p:AV × Hp)=>cvt false p.2 p.1)=some v:=(Zte (fun v g=>cvt false g v)  []).trans hv
 exact (Z0c (shr:=[.o]) ha e h).trans (congrArg (fun x=>some (x,h)) (Z0K 1 v))
noncomputable def Zbn:DTab:=D0
theorem Zth:DSound Try.prog Zbn:=DSound.zero
noncomputable def Zbo:Tab:=T0
theorem Zti:TSound Try.prog Zbo:=TSound.zero
noncomputable def Zbp:Fun:=runF Try.prog Zbo Zbn NN [0,1,2] Try.f10 1
theorem Ztj:CSound Try.prog 10 Zbp:=Z07 Zti Zth mixed Try.func10 (by kernel_rfl) NN
theorem Ztk {β:Type} (K:AV→Hp→Option β) (a0:AV) (h:Hp):(Zbp [a0] h).bind (fun p=>K p.1 p.2)=Z90 Try.prog Zbo Zbn NN K a0 h:=by
 rw [← Zld];exact Z08 rfl
noncomputable def Z8p:Fun:=closedX [.a [none,some 2,some 7]] [.o] Zbp
theorem Ztl:CSound Try.prog 10 Z8p:=Z0b _ _ Ztj
theorem Ztm {a0:AV} {v:AV} (ha:plains [a0]=true) (hv:Z90 Try.prog Zbo Zbn NN (fun v g=>cvt false g v) (nrm (.a [none,some 2,some 7]) a0) []=some v) (h:Hp):Z8p [a0] h=some (v,h):=by
 have e:(Zbp (nrms [.a [none,some 2,some 7]] [a0]) []).bind (fun (p:AV × Hp)=>cvt false p.2 p.1)=some v:=(Ztk (fun v g=>cvt false g v) (nrm (.a [none,some 2,some 7]) a0) []).trans hv
 exact (Z0c (shr:=[.o]) ha e h).trans (congrArg (fun x=>some (x,h)) (Z0K 1 v))
noncomputable def Zbq:DTab:=D0
theorem Ztn:DSound Try.prog Zbq:=DSound.zero
noncomputable def Zbr:Tab:=T0
theorem Zto:TSound Try.prog Zbr:=TSound.zero
noncomputable def Zbs:Fun:=runF Try.prog Zbr Zbq NN [0,2] Try.f48 1
theorem Ztp:CSound Try.prog 48 Zbs:=Z07 Zto Ztn mixed Try.func48 (by kernel_rfl) NN
theorem Ztq {β:Type} (K:AV→Hp→Option β) (a0:AV) (h:Hp):(Zbs [a0] h).bind (fun p=>K p.1 p.2)=Z9m Try.prog Zbr Zbq NN K a0 h:=by
 rw [← ZlY];exact Z08 rfl
noncomputable def Z2Y:Fun:=closedX [.o] [.o] Zbs
theorem Zbt:CSound Try.prog 48 Z2Y:=Z0b _ _ Ztp
theorem Ztr {a0:AV} {v:AV} (ha:plains [a0]=true) (hv:Z9m Try.prog Zbr Zbq NN (fun v g=>cvt false g v) a0 []=some v) (h:Hp):Z2Y [a0] h=some (v,h):=by
 have e:(Zbs (nrms [.o] [a0]) []).bind (fun (p:AV × Hp)=>cvt false p.2 p.1)=some v:=(Ztq (fun v g=>cvt false g v) a0 []).trans hv
 exact (Z0c (shr:=[.o]) ha e h).trans (congrArg (fun x=>some (x,h)) (Z0K 1 v))
noncomputable def Zbu:DTab:=D0
theorem Zts:DSound Try.prog Zbu:=DSound.zero
noncomputable def Z8q:Tab:=(updF T0 48 Z2Y)
theorem Ztt:TSound Try.prog Z8q:=(TSound.upd TSound.zero Zbt)
@[simp] theorem Zhq:Z8q 48=some Z2Y:=rfl
noncomputable def Zbv:Fun:=runF Try.prog Z8q Zbu NN [0,2,3,6] Try.f12 1
theorem Ztu:CSound Try.prog 12 Zbv:=Z07 Ztt Zts mixed Try.func12 (by kernel_rfl) NN
theorem Ztv {β:Type} (K:AV→Hp→Option β) (a0:AV) (h:Hp):(Zbv [a0] h).bind (fun p=>K p.1 p.2)=Z6Y Try.prog Z8q Zbu NN K a0 h:=by
 rw [← Zlf];exact Z08 rfl
noncomputable def Z6p:Fun:=closedX [.o] [.a [none,some 2,some 7], .o] Zbv
theorem Ztw:CSound Try.prog 12 Z6p:=Z0b _ _ Ztu
theorem Zhr {a0:AV} {v:AV} (ha:plains [a0]=true) (hv:Z6Y Try.prog Z8q Zbu NN (fun v g=>cvt false g v) a0 []=some v) (h:Hp):Z6p [a0] h=some ((nrmR [.a [none,some 2,some 7], .o] v),h):=by
 have e:(Zbv (nrms [.o] [a0]) []).bind (fun (p:AV × Hp)=>cvt false p.2 p.1)=some v:=(Ztv (fun v g=>cvt false g v) a0 []).trans hv
 exact (Z0c (shr:=[.a [none,some 2,some 7], .o]) ha e h).trans (congrArg (fun x=>some (x,h)) rfl)
noncomputable def Z6q:DTab:=D0
theorem Ztx:DSound Try.prog Z6q:=DSound.zero
noncomputable def Z6r:Tab:=T0
theorem Zty:TSound Try.prog Z6r:=TSound.zero
noncomputable def Z38:Fun:=runF Try.prog Z6r Z6q NN [0,1,2] Try.f14 1
theorem Zhs:CSound Try.prog 14 Z38:=Z07 Zty Ztx mixed Try.func14 (by kernel_rfl) NN
theorem Zde {β:Type} (K:AV→Hp→Option β) (a0:AV) (h:Hp):(Z38 [a0] h).bind (fun p=>K p.1 p.2)=Z5s Try.prog Z6r Z6q NN K a0 h:=by
 rw [← Zlh];exact Z08 rfl
theorem Ztz (a0:AV) (h:Hp):Z38 [a0] h=Z5s Try.prog Z6r Z6q NN (fun v h=>some (v,h)) a0 h:=(Z12 _).symm.trans (Zde (fun v h=>some (v,h)) a0 h)
noncomputable def Z6s:Fun:=closedX [.a [none,some 2,some 7]] [.a [none,some 2,some 7]] Z38
theorem Zht:CSound Try.prog 14 Z6s:=Z0b _ _ Zhs
noncomputable def Zdf:DFun:=closedXD [.a [none,some 2,some 7]] [.a [none,some 2,some 7]] Z38
theorem ZtA:Ro Z6s Zdf:=Z2R _ _ _
theorem ZtB {a0:AV} {v:AV} (ha:plains [a0]=true) (hv:Z5s Try.prog Z6r Z6q NN (fun v g=>cvt false g v) (nrm (.a [none,some 2,some 7]) a0) []=some v) (h:Hp):Z6s [a0] h=some ((nrmR [.a [none,some 2,some 7]] v),h):=by
 have e:(Z38 (nrms [.a [none,some 2,some 7]] [a0]) []).bind (fun (p:AV × Hp)=>cvt false p.2 p.1)=some v:=(Zde (fun v g=>cvt false g v) (nrm (.a [none,some 2,some 7]) a0) []).trans hv
 exact (Z0c (shr:=[.a [none,some 2,some 7]]) ha e h).trans (congrArg (fun x=>some (x,h)) rfl)
noncomputable def Zbw:DTab:=D0
theorem ZtC:DSound Try.prog Zbw:=DSound.zero
noncomputable def Z8r:Tab:=(updF T0 48 Z2Y)
theorem ZtD:TSound Try.prog Z8r:=(TSound.upd TSound.zero Zbt)
@[simp] theorem Zhu:Z8r 48=some Z2Y:=rfl
noncomputable def Zbx:Fun:=runF Try.prog Z8r Zbw NN [0,1,2,3,31,46,53,85,110,124] Try.f86 1
theorem ZtE:CSound Try.prog 86 Zbx:=Z07 ZtD ZtC mixed Try.func86 (by kernel_rfl) NN
theorem ZtF {β:Type} (K:AV→Hp→Option β) (a0:AV) (h:Hp):(Zbx [a0] h).bind (fun p=>K p.1 p.2)=Z9T Try.prog Z8r Zbw NN K a0 h:=by
 rw [← Zne];exact Z08 rfl
noncomputable def Z4E:Fun:=closedX [.o] [.o] Zbx
theorem Zhv:CSound Try.prog 86 Z4E:=Z0b _ _ ZtE
theorem ZtG {a0:AV} {v:AV} (ha:plains [a0]=true) (hv:Z9T Try.prog Z8r Zbw NN (fun v g=>cvt false g v) a0 []=some v) (h:Hp):Z4E [a0] h=some (v,h):=by
 have e:(Zbx (nrms [.o] [a0]) []).bind (fun (p:AV × Hp)=>cvt false p.2 p.1)=some v:=(ZtF (fun v g=>cvt false g v) a0 []).trans hv
 exact (Z0c (shr:=[.o]) ha e h).trans (congrArg (fun x=>some (x,h)) (Z0K 1 v))
noncomputable def Z3r:DTab:=D0
theorem ZtH:DSound Try.prog Z3r:=DSound.zero
noncomputable def Z39:Tab:=(updF T0 86 Z4E)
theorem ZtI:TSound Try.prog Z39:=(TSound.upd TSound.zero Zhv)
@[simp] theorem Zhw:Z39 86=some Z4E:=rfl
noncomputable def Z8s:Fun:=runF Try.prog Z39 Z3r NN [0,2,3,6,10,18] Try.f87 1
theorem ZtJ:CSound Try.prog 87 Z8s:=Z07 ZtI ZtH mixed Try.func87 (by kernel_rfl) NN
theorem Zhx {β:Type} (K:AV→Hp→Option β) (a0:AV) (h:Hp):(Z8s [a0] h).bind (fun p=>K p.1 p.2)=Z3i Try.prog Z39 Z3r NN K a0 h:=by
 rw [← Znj];exact Z08 rfl
noncomputable def Z5b:Fun:=closedX [.l 7] [.o] Z8s
theorem ZtK:CSound Try.prog 87 Z5b:=Z0b _ _ ZtJ
theorem ZtL {a0:AV} {v:AV} (ha:plains [a0]=true) (hv:Z3i Try.prog Z39 Z3r NN (fun v g=>cvt false g v) (nrm (.l 7) a0) []=some v) (h:Hp):Z5b [a0] h=some (v,h):=by
 have e:(Z8s (nrms [.l 7] [a0]) []).bind (fun (p:AV × Hp)=>cvt false p.2 p.1)=some v:=(Zhx (fun v g=>cvt false g v) (nrm (.l 7) a0) []).trans hv
 exact (Z0c (shr:=[.o]) ha e h).trans (congrArg (fun x=>some (x,h)) (Z0K 1 v))
theorem ZtM {a0:AV} {x0:AV} {h:Hp} {v:AV} (ha:cvts false h [x0]=some [a0]) (hv:∀st,Z3i Try.prog Z39 Z3r NN (fun v g=>cvt st g v) (nrm (.l 7) a0) []=some v):Z5b [x0] h=some (v,h):=by
 have e:∀st,(Z8s (nrms [.l 7] [a0]) []).bind (fun (p:AV × Hp)=>cvt st p.2 p.1)=some v:=fun st=>(Zhx (fun v g=>cvt st g v) (nrm (.l 7) a0) []).trans (hv st)
 exact (Z8W (shr:=[.o]) ha e).trans (congrArg (fun x=>some (x,h)) (Z0K 1 v))
noncomputable def Z6t:DTab:=D0
theorem ZtN:DSound Try.prog Z6t:=DSound.zero
noncomputable def Z6u:Tab:=T0
theorem ZtO:TSound Try.prog Z6u:=TSound.zero
noncomputable def Zby:Fun:=runF Try.prog Z6u Z6t NN [0,1,2,3,4,5,6,7,41,52] Try.f102 2
theorem ZtP:CSound Try.prog 102 Zby:=Z07 ZtO ZtN mixed Try.func102 (by kernel_rfl) NN
theorem ZtQ {β:Type} (K:AV→Hp→Option β) (a0:AV) (a1:AV) (h:Hp):(Zby [a0,a1] h).bind (fun p=>K p.1 p.2)=Z7F Try.prog Z6u Z6t NN K a0 a1 h:=by
 rw [← ZnV];exact Z08 rfl
noncomputable def Z5c:Fun:=closedX [.o, .o] [.o] Zby
theorem ZtR:CSound Try.prog 102 Z5c:=Z0b _ _ ZtP
theorem ZtS {a0:AV} {a1:AV} {v:AV} (ha:plains [a0,a1]=true) (hv:Z7F Try.prog Z6u Z6t NN (fun v g=>cvt false g v) a0 a1 []=some v) (h:Hp):Z5c [a0,a1] h=some (v,h):=by
 have e:(Zby (nrms [.o, .o] [a0,a1]) []).bind (fun (p:AV × Hp)=>cvt false p.2 p.1)=some v:=(ZtQ (fun v g=>cvt false g v) a0 a1 []).trans hv
 exact (Z0c (shr:=[.o]) ha e h).trans (congrArg (fun x=>some (x,h)) (Z0K 1 v))
noncomputable def Z3s:DTab:=D0
theorem ZtT:DSound Try.prog Z3s:=DSound.zero
noncomputable def Z3a:Tab:=(updF T0 102 Z5c)
theorem ZtU:TSound Try.prog Z3a:=(TSound.upd TSound.zero ZtR)
@[simp] theorem Zxi:Z3a 102=some Z5c:=rfl
noncomputable def Z8t:Fun:=runF Try.prog Z3a Z3s NN [0,2,3,4,5,6,7,12,18,33,56] Try.f88 1
theorem ZtV:CSound Try.prog 88 Z8t:=Z07 ZtU ZtT mixed Try.func88 (by kernel_rfl) NN
theorem Zhy {β:Type} (K:AV→Hp→Option β) (a0:AV) (h:Hp):(Z8t [a0] h).bind (fun p=>K p.1 p.2)=Z4U Try.prog Z3a Z3s NN K a0 h:=by
 rw [← Znv];exact Z08 rfl
noncomputable def Z5d:Fun:=closedX [.l 7] [.l 7] Z8t
theorem ZtW:CSound Try.prog 88 Z5d:=Z0b _ _ ZtV
theorem ZtX {a0:AV} {v:AV} (ha:plains [a0]=true) (hv:Z4U Try.prog Z3a Z3s NN (fun v g=>cvt false g v) (nrm (.l 7) a0) []=some v) (h:Hp):Z5d [a0] h=some ((nrmR [.l 7] v),h):=by
 have e:(Z8t (nrms [.l 7] [a0]) []).bind (fun (p:AV × Hp)=>cvt false p.2 p.1)=some v:=(Zhy (fun v g=>cvt false g v) (nrm (.l 7) a0) []).trans hv
 exact (Z0c (shr:=[.l 7]) ha e h).trans (congrArg (fun x=>some (x,h)) rfl)
theorem ZtY {a0:AV} {x0:AV} {h:Hp} {v:AV} (ha:cvts false h [x0]=some [a0]) (hv:∀st,Z4U Try.prog Z3a Z3s NN (fun v g=>cvt st g v) (nrm (.l 7) a0) []=some v):Z5d [x0] h=some ((nrmR [.l 7] v),h):=by
 have e:∀st,(Z8t (nrms [.l 7] [a0]) []).bind (fun (p:AV × Hp)=>cvt st p.2 p.1)=some v:=fun st=>(Zhy (fun v g=>cvt st g v) (nrm (.l 7) a0) []).trans (hv st)
 exact (Z8W (shr:=[.l 7]) ha e).trans (congrArg (fun x=>some (x,h)) rfl)
noncomputable def Z8u:DTab:=D0
theorem ZtZ:DSound Try.prog Z8u:=DSound.zero
noncomputable def Z5e:Tab:=(updF (updF T0 87 Z5b) 88 Z5d)
theorem Zu0:TSound Try.prog Z5e:=(TSound.upd (TSound.upd TSound.zero ZtK) ZtW)
@[simp] theorem Zhz:Z5e 87=some Z5b:=rfl
@[simp] theorem ZhA:Z5e 88=some Z5d:=rfl
noncomputable def Z3t:Fun:=runF Try.prog Z5e Z8u NN [0,2,3,4,8] Try.f56 1
theorem ZhB:CSound Try.prog 56 Z3t:=Z07 Zu0 ZtZ mixed Try.func56 (by kernel_rfl) NN
theorem ZhC {β:Type} (K:AV→Hp→Option β) (a0:AV) (h:Hp):(Z3t [a0] h).bind (fun p=>K p.1 p.2)=Z5w Try.prog Z5e Z8u NN K a0 h:=by
 rw [← Zma];exact Z08 rfl
theorem Zu1 (a0:AV) (h:Hp):Z3t [a0] h=Z5w Try.prog Z5e Z8u NN (fun v h=>some (v,h)) a0 h:=(Z12 _).symm.trans (ZhC (fun v h=>some (v,h)) a0 h)
noncomputable def Z8v:Fun:=closedX [.l 7] [.l 7, .o] Z3t
theorem Zu2:CSound Try.prog 56 Z8v:=Z0b _ _ ZhB
theorem Zu3 {a0:AV} {v:AV} (ha:plains [a0]=true) (hv:Z5w Try.prog Z5e Z8u NN (fun v g=>cvt false g v) (nrm (.l 7) a0) []=some v) (h:Hp):Z8v [a0] h=some ((nrmR [.l 7, .o] v),h):=by
 have e:(Z3t (nrms [.l 7] [a0]) []).bind (fun (p:AV × Hp)=>cvt false p.2 p.1)=some v:=(ZhC (fun v g=>cvt false g v) (nrm (.l 7) a0) []).trans hv
 exact (Z0c (shr:=[.l 7, .o]) ha e h).trans (congrArg (fun x=>some (x,h)) rfl)
noncomputable def Zbz:DTab:=D0
theorem Zu4:DSound Try.prog Zbz:=DSound.zero
noncomputable def ZbA:Tab:=T0
theorem Zu5:TSound Try.prog ZbA:=TSound.zero
noncomputable def ZbB:Fun:=runF Try.prog ZbA Zbz NN [0,1,2,3,4] Try.f57 2
theorem Zu6:CSound Try.prog 57 ZbB:=Z07 Zu5 Zu4 mixed Try.func57 (by kernel_rfl) NN
theorem Zu7 {β:Type} (K:AV→Hp→Option β) (a0:AV) (a1:AV) (h:Hp):(ZbB [a0,a1] h).bind (fun p=>K p.1 p.2)=Z9q Try.prog ZbA Zbz NN K a0 a1 h:=by
 rw [← Zmb];exact Z08 rfl
noncomputable def Z5f:Fun:=closedX [.o, .o] [.o] ZbB
theorem ZhD:CSound Try.prog 57 Z5f:=Z0b _ _ Zu6
theorem Zu8 {a0:AV} {a1:AV} {v:AV} (ha:plains [a0,a1]=true) (hv:Z9q Try.prog ZbA Zbz NN (fun v g=>cvt false g v) a0 a1 []=some v) (h:Hp):Z5f [a0,a1] h=some (v,h):=by
 have e:(ZbB (nrms [.o, .o] [a0,a1]) []).bind (fun (p:AV × Hp)=>cvt false p.2 p.1)=some v:=(Zu7 (fun v g=>cvt false g v) a0 a1 []).trans hv
 exact (Z0c (shr:=[.o]) ha e h).trans (congrArg (fun x=>some (x,h)) (Z0K 1 v))
noncomputable def Z6v:DTab:=D0
theorem Zu9:DSound Try.prog Z6v:=DSound.zero
noncomputable def Z6w:Tab:=T0
theorem Zua:TSound Try.prog Z6w:=TSound.zero
noncomputable def ZbC:Fun:=runF Try.prog Z6w Z6v NN [0,1,4,5,10,14,25] Try.f59 2
theorem Zub:CSound Try.prog 59 ZbC:=Z07 Zua Zu9 mixed Try.func59 (by kernel_rfl) NN
theorem Zuc {β:Type} (K:AV→Hp→Option β) (a0:AV) (a1:AV) (h:Hp):(ZbC [a0,a1] h).bind (fun p=>K p.1 p.2)=Z5y Try.prog Z6w Z6v NN K a0 a1 h:=by
 rw [← Zml];exact Z08 rfl
noncomputable def Z4F:Fun:=closedX [.l 7, .l 7] [.o] ZbC
theorem ZhE:CSound Try.prog 59 Z4F:=Z0b _ _ Zub
theorem Zud {a0:AV} {a1:AV} {v:AV} (ha:plains [a0,a1]=true) (hv:Z5y Try.prog Z6w Z6v NN (fun v g=>cvt false g v) (nrm (.l 7) a0) (nrm (.l 7) a1) []=some v) (h:Hp):Z4F [a0,a1] h=some (v,h):=by
 have e:(ZbC (nrms [.l 7, .l 7] [a0,a1]) []).bind (fun (p:AV × Hp)=>cvt false p.2 p.1)=some v:=(Zuc (fun v g=>cvt false g v) (nrm (.l 7) a0) (nrm (.l 7) a1) []).trans hv
 exact (Z0c (shr:=[.o]) ha e h).trans (congrArg (fun x=>some (x,h)) (Z0K 1 v))
noncomputable def Z5g:DTab:=D0
theorem Zue:DSound Try.prog Z5g:=DSound.zero
noncomputable def Z2P:Tab:=(updF (updF (updF (updF T0 48 Z2Y) 56 Z8v) 57 Z5f) 59 Z4F)
theorem Zuf:TSound Try.prog Z2P:=(TSound.upd (TSound.upd (TSound.upd (TSound.upd TSound.zero Zbt) Zu2) ZhD) ZhE)
@[simp] theorem ZhF:Z2P 48=some Z2Y:=rfl
@[simp] theorem Zug:Z2P 56=some Z8v:=rfl
@[simp] theorem Zuh:Z2P 57=some Z5f:=rfl
@[simp] theorem Zui:Z2P 59=some Z4F:=rfl
noncomputable def Z8w:Fun:=runF Try.prog Z2P Z5g NN [0,1,2,3,4,5,6,10,20,25,46,51,64,79,86] Try.f17 1
theorem Zuj:CSound Try.prog 17 Z8w:=Z07 Zuf Zue mixed Try.func17 (by kernel_rfl) NN
theorem Zuk {β:Type} (K:AV→Hp→Option β) (a0:AV) (h:Hp):(Z8w [a0] h).bind (fun p=>K p.1 p.2)=Z76 Try.prog Z2P Z5g NN K a0 h:=by
 rw [← ZlD];exact Z08 rfl
noncomputable def Z4G:Fun:=closedX [.a [none,some 2,some 7]] [.o] Z8w
theorem Zdg:CSound Try.prog 17 Z4G:=Z0b _ _ Zuj
noncomputable def Zdh:DFun:=closedXD [.a [none,some 2,some 7]] [.o] Z8w
theorem Zul:Ro Z4G Zdh:=Z2R _ _ _
theorem Zum {a0:AV} {v:AV} (ha:plains [a0]=true) (hv:Z76 Try.prog Z2P Z5g NN (fun v g=>cvt false g v) (nrm (.a [none,some 2,some 7]) a0) []=some v) (h:Hp):Z4G [a0] h=some (v,h):=by
 have e:(Z8w (nrms [.a [none,some 2,some 7]] [a0]) []).bind (fun (p:AV × Hp)=>cvt false p.2 p.1)=some v:=(Zuk (fun v g=>cvt false g v) (nrm (.a [none,some 2,some 7]) a0) []).trans hv
 exact (Z0c (shr:=[.o]) ha e h).trans (congrArg (fun x=>some (x,h)) (Z0K 1 v))
noncomputable def ZbD:DTab:=D0
theorem Zun:DSound Try.prog ZbD:=DSound.zero
noncomputable def Z6x:Tab:=(updF (updF T0 48 Z2Y) 86 Z4E)
theorem Zuo:TSound Try.prog Z6x:=(TSound.upd (TSound.upd TSound.zero Zbt) Zhv)
@[simp] theorem Zup:Z6x 48=some Z2Y:=rfl
@[simp] theorem Zuq:Z6x 86=some Z4E:=rfl
noncomputable def ZbE:Fun:=runF Try.prog Z6x ZbD NN [0,1,2,22,27,31] Try.f55 1
theorem Zur:CSound Try.prog 55 ZbE:=Z07 Zuo Zun mixed Try.func55 (by kernel_rfl) NN
theorem Zus {β:Type} (K:AV→Hp→Option β) (a0:AV) (h:Hp):(ZbE [a0] h).bind (fun p=>K p.1 p.2)=Z9p Try.prog Z6x ZbD NN K a0 h:=by
 rw [← Zm9];exact Z08 rfl
noncomputable def Z8x:Fun:=closedX [.o] [.o] ZbE
theorem Zut:CSound Try.prog 55 Z8x:=Z0b _ _ Zur
theorem Zuu {a0:AV} {v:AV} (ha:plains [a0]=true) (hv:Z9p Try.prog Z6x ZbD NN (fun v g=>cvt false g v) a0 []=some v) (h:Hp):Z8x [a0] h=some (v,h):=by
 have e:(ZbE (nrms [.o] [a0]) []).bind (fun (p:AV × Hp)=>cvt false p.2 p.1)=some v:=(Zus (fun v g=>cvt false g v) a0 []).trans hv
 exact (Z0c (shr:=[.o]) ha e h).trans (congrArg (fun x=>some (x,h)) (Z0K 1 v))
noncomputable def Z0V:DTab:=D0
theorem Zuv:DSound Try.prog Z0V:=DSound.zero
noncomputable def Z0Q:Tab:=(updF (updF (updF (updF (updF T0 14 Z38) 17 Z4G) 55 Z8x) 56 Z3t) 57 Z5f)
theorem Zuw:TSound Try.prog Z0Q:=(TSound.upd (TSound.upd (TSound.upd (TSound.upd (TSound.upd TSound.zero Zhs) Zdg) Zut) ZhB) ZhD)
@[simp] theorem Zux:Z0Q 14=some Z38:=rfl
@[simp] theorem ZbF:Z0Q 17=some Z4G:=rfl
@[simp] theorem Zdi:Z0Q 55=some Z8x:=rfl
@[simp] theorem Zuy:Z0Q 56=some Z3t:=rfl
@[simp] theorem Zuz:Z0Q 57=some Z5f:=rfl
noncomputable def ZbG:Fun:=runF Try.prog Z0Q Z0V NN [0,1,2,3,4,5,6,7,8,9,10,11,12,13,14,17,23,31,45,54,61,88,92,129] Try.f15 2
theorem ZuA:CSound Try.prog 15 ZbG:=Z07 Zuw Zuv mixed Try.func15 (by kernel_rfl) NN
theorem ZuB {β:Type} (K:AV→Hp→Option β) (a0:AV) (a1:AV) (h:Hp):(ZbG [a0,a1] h).bind (fun p=>K p.1 p.2)=Z3H Try.prog Z0Q Z0V NN K a0 a1 h:=by
 rw [← Zlt];exact Z08 rfl
noncomputable def Z4H:Fun:=closedX [.a [none,some 2,some 7], .o] [.a [none,some 2,some 7], .o, .o, .o] ZbG
theorem ZuC:CSound Try.prog 15 Z4H:=Z0b _ _ ZuA
theorem ZbH {a0:AV} {a1:AV} {v:AV} (ha:plains [a0,a1]=true) (hv:Z3H Try.prog Z0Q Z0V NN (fun v g=>cvt false g v) (nrm (.a [none,some 2,some 7]) a0) a1 []=some v) (h:Hp):Z4H [a0,a1] h=some ((nrmR [.a [none,some 2,some 7], .o, .o, .o] v),h):=by
 have e:(ZbG (nrms [.a [none,some 2,some 7], .o] [a0,a1]) []).bind (fun (p:AV × Hp)=>cvt false p.2 p.1)=some v:=(ZuB (fun v g=>cvt false g v) (nrm (.a [none,some 2,some 7]) a0) a1 []).trans hv
 exact (Z0c (shr:=[.a [none,some 2,some 7], .o, .o, .o]) ha e h).trans (congrArg (fun x=>some (x,h)) rfl)
noncomputable def Z5h:DTab:=D0
theorem ZuD:DSound Try.prog Z5h:=DSound.zero
noncomputable def Z4I:Tab:=(updF T0 59 Z4F)
theorem ZuE:TSound Try.prog Z4I:=(TSound.upd TSound.zero ZhE)
@[simp] theorem ZuF:Z4I 59=some Z4F:=rfl
noncomputable def Z8y:Fun:=runF Try.prog Z4I Z5h NN [0,1,2,3,4,5,19,24,37] Try.f18 2
theorem ZuG:CSound Try.prog 18 Z8y:=Z07 ZuE ZuD mixed Try.func18 (by kernel_rfl) NN
theorem ZuH {β:Type} (K:AV→Hp→Option β) (a0:AV) (a1:AV) (h:Hp):(Z8y [a0,a1] h).bind (fun p=>K p.1 p.2)=Z78 Try.prog Z4I Z5h NN K a0 a1 h:=by
 rw [← ZlI];exact Z08 rfl
noncomputable def Z6y:Fun:=closedX [.a [none,some 2,some 7], .a [none,some 2,some 7]] [.o] Z8y
theorem ZhG:CSound Try.prog 18 Z6y:=Z0b _ _ ZuG
noncomputable def Zdj:DFun:=closedXD [.a [none,some 2,some 7], .a [none,some 2,some 7]] [.o] Z8y
theorem ZuI:Ro Z6y Zdj:=Z2R _ _ _
theorem ZuJ {a0:AV} {a1:AV} {v:AV} (ha:plains [a0,a1]=true) (hv:Z78 Try.prog Z4I Z5h NN (fun v g=>cvt false g v) (nrm (.a [none,some 2,some 7]) a0) (nrm (.a [none,some 2,some 7]) a1) []=some v) (h:Hp):Z6y [a0,a1] h=some (v,h):=by
 have e:(Z8y (nrms [.a [none,some 2,some 7], .a [none,some 2,some 7]] [a0,a1]) []).bind (fun (p:AV × Hp)=>cvt false p.2 p.1)=some v:=(ZuH (fun v g=>cvt false g v) (nrm (.a [none,some 2,some 7]) a0) (nrm (.a [none,some 2,some 7]) a1) []).trans hv
 exact (Z0c (shr:=[.o]) ha e h).trans (congrArg (fun x=>some (x,h)) (Z0K 1 v))
noncomputable def Z19:DTab:=(updD (updD (updD (updD (updD D0 13 Zd2) 14 Zdf) 16 ZcX) 17 Zdh) 18 Zdj)
theorem ZuK:DSound Try.prog Z19:=(DSound.ro (DSound.ro (DSound.ro (DSound.ro (DSound.ro DSound.zero Zr3 Zd1) ZtA Zht) Zq2 Z5X) Zul Zdg) ZuI ZhG)
@[simp] theorem Zxj:Z19 13=some Zd2:=rfl
@[simp] theorem Zxk:Z19 14=some Zdf:=rfl
@[simp] theorem Zxl:Z19 16=some ZcX:=rfl
@[simp] theorem Zxm:Z19 17=some Zdh:=rfl
@[simp] theorem Zxn:Z19 18=some Zdj:=rfl
noncomputable def Z1e:Tab:=(updF (updF (updF (updF (updF (updF (updF (updF (updF (updF T0 9 Z8o) 10 Z8p) 11 Z3j) 12 Z6p) 13 Z36) 14 Z6s) 15 Z4H) 16 Z18) 17 Z4G) 18 Z6y)
theorem ZuL:TSound Try.prog Z1e:=(TSound.upd (TSound.upd (TSound.upd (TSound.upd (TSound.upd (TSound.upd (TSound.upd (TSound.upd (TSound.upd (TSound.upd TSound.zero Ztf) Ztl) ZgN) Ztw) Zd1) Zht) ZuC) Z5X) Zdg) ZhG)
@[simp] theorem ZuM:Z1e 9=some Z8o:=rfl
@[simp] theorem ZuN:Z1e 10=some Z8p:=rfl
@[simp] theorem ZuO:Z1e 11=some Z3j:=rfl
@[simp] theorem ZuP:Z1e 12=some Z6p:=rfl
@[simp] theorem Zxo:Z1e 13=some Z36:=rfl
@[simp] theorem Zxp:Z1e 14=some Z6s:=rfl
@[simp] theorem ZuQ:Z1e 15=some Z4H:=rfl
@[simp] theorem Zxq:Z1e 16=some Z18:=rfl
@[simp] theorem Zxr:Z1e 17=some Z4G:=rfl
@[simp] theorem Zxs:Z1e 18=some Z6y:=rfl
noncomputable def ZbI:Fun:=runF Try.prog Z1e Z19 NN [0,1,2,3,4,5,6,7,8,9,10,11,12,13,14,15,16,18,21] Try.f3 2
theorem ZuR:CSound Try.prog 3 ZbI:=Z07 ZuL ZuK mixed Try.func3 (by kernel_rfl) NN
theorem ZuS {β:Type} (K:AV→Hp→Option β) (a0:AV) (a1:AV) (h:Hp):(ZbI [a0,a1] h).bind (fun p=>K p.1 p.2)=Z8Y Try.prog Z1e Z19 NN K a0 a1 h:=by
 rw [← Zlb];exact Z08 rfl
noncomputable def Zdk:Fun:=closedX [.a [none,some 2,some 7], .o] [.o] ZbI
theorem F_law43_ReceiverTakes_ok:CSound Try.prog 3 Zdk:=Z0b _ _ ZuR
theorem ZuT {a0:AV} {a1:AV} {v:AV} (ha:plains [a0,a1]=true) (hv:Z8Y Try.prog Z1e Z19 NN (fun v g=>cvt false g v) (nrm (.a [none,some 2,some 7]) a0) a1 []=some v) (h:Hp):Zdk [a0,a1] h=some (v,h):=by
 have e:(ZbI (nrms [.a [none,some 2,some 7], .o] [a0,a1]) []).bind (fun (p:AV × Hp)=>cvt false p.2 p.1)=some v:=(ZuS (fun v g=>cvt false g v) (nrm (.a [none,some 2,some 7]) a0) a1 []).trans hv
 exact (Z0c (shr:=[.o]) ha e h).trans (congrArg (fun x=>some (x,h)) (Z0K 1 v))
end Go.AM


namespace Go.AM
set_option linter.unusedVariables false
set_option linter.unusedSimpArgs false
set_option linter.constructorNameAsVariable false
set_option maxRecDepth 30000
variable {β:Type} {P:Program} {kt:TypeId} {kk:IntKind}
end Go.AM


namespace Go.AM
set_option linter.unusedVariables false
def idOf:AV→Option Nat
 | .sl _ id .. => some id
 | _=>none
@[simp] theorem Zxt (sz id off len fr:Nat) (full:Bool):idOf (.sl sz id off len fr full)=some id:=rfl
@[simp] theorem Zxu:idOf nilS=none:=rfl
def Gro {α:Type} (sz:Nat) (f:α→List AV) (h:Hp) (v:AV) (l:List α):Prop:=(l=[]∧v=nilS)∨(l≠[]∧∃k,v = .sl sz k 0 l.length l.length false∧h[k]? = some (.arr sz (l.map f) true false))
section
variable {α β:Type} {sz:Nat} {f:α→List AV} {h h':Hp} {v:AV} {l:List α}
theorem Gro.nil:Gro sz f h nilS [] := .inl ⟨rfl,rfl⟩
theorem Gro.keep (O:Gro sz f h v l) (hk:∀k o,idOf v=some k→h[k]? = some o→h'[k]? = some o):Gro sz f h' v l:=by
 rcases O with O | ⟨h1,k,rfl,h2⟩
 ·exact .inl O
 ·exact .inr ⟨h1,k,rfl,hk k _ rfl h2⟩
theorem Gro.app (O:Gro sz f h v l) (x:List AObj):Gro sz f (h++x) v l:=O.keep fun k o _ hk=>Z09 hk
theorem Gro.lt (O:Gro sz f h v l) {k:Nat} (hk:idOf v=some k):k<h.length:=by
 rcases O with ⟨_,rfl⟩ | ⟨h1,j,rfl,h2⟩
 ·simp at hk
 ·simp at hk;subst hk;exact (List.getElem?_eq_some_iff.1 h2).1
theorem Gro.len (O:Gro sz f h v l) (k:K β):lenK v k=k (I l.length):=by
 rcases O with ⟨rfl,rfl⟩ | ⟨h1,j,rfl,h2⟩<;>simp
theorem Gro.cvts (O:Gro sz f h v l) (hf:∀x st,(f x).all (fun c=>bif st then isS c else plain c)=true):∃w,(∀st,Go.AM.cvt st h v=some w)∧nrm (.l sz) w = .lst sz l.isEmpty (l.map f):=by
 rcases O with ⟨rfl,rfl⟩ | ⟨h1,k,rfl,h2⟩
 ·exact ⟨nilS,fun st=>rfl,rfl⟩
 ·have he:l.isEmpty=false:=by simpa using h1
  refine ⟨.lst sz false (l.map f),fun st=>Z10 h2 (by simp) (by simp) (Z0W fun x=>hf x st), ?_⟩
  rw [he];rfl
theorem Gro.snoc (β:Type) (O:Gro sz f h v l) {by_ m:Nat} {z:α} {b:Bool} (hm:h[m]? = some (.arr sz [f z] true false)) (hv:idOf v≠some m) (hf:∀x ∈ z::l,(f x).length=sz) (hl:(l.length+1) * by_≤140737488355328):
  ∃v' h',(∀k:AV→Hp→Option β,effK (appE sz by_ v (.sl sz m 0 1 1 b) h h.length) h k=k v' h')∧Gro sz f h' v' (l++[z])∧h.length≤h'.length∧(∀j o,h[j]? = some o→idOf v≠some j→h'[j]? = some o)∧(idOf v'=idOf v∨idOf v'=some h.length):=by
 have hz:(f z).length=sz:=hf z (by simp)
 rcases O with ⟨rfl,rfl⟩ | ⟨h1,k,rfl,h2⟩
 ·have hb:by_≤140737488355328:=by simpa using hl
  refine ⟨.sl sz h.length 0 1 1 false,h++[.arr sz [f z] true false],fun k => ?_, .inr ⟨by simp,h.length,rfl,by simp⟩,by simp,fun j o hj _=>Z09 hj, .inr rfl⟩
  simp [appE,readSl,hm,hz,hb,effK,ap]
 ·have hkl:=(List.getElem?_eq_some_iff.1 h2).1
  refine ⟨.sl sz k 0 (l++[z]).length (l++[z]).length false,h.set k (.arr sz ((l++[z]).map f) true false),fun k' => ?_, .inr ⟨by simp,k,rfl,by simp [hkl]⟩,by simp,fun j o hj hn => ?_, .inl rfl⟩
  ·simp [appE,readSl,hm,h2,hz,hl,effK,ap]
  ·have hkj:k≠j:=by rintro rfl;exact hn rfl
   rw [List.getElem?_set_ne hkj];exact hj
end
theorem ZuU {shp shr:List Sh} {F:Fun} {h:Hp} {args as' asl:List AV} {v:AV} {h0:Hp} (ha:cvts false h args=some as') (hn:nrms shp as'=nrms shp asl) (hp:plains asl=true) (hF:closedX shp shr F asl h0=some (v,h0)) (hs:scal v=true):closedX shp shr F args h=some (v,h):=by
 unfold closedX at hF ⊢
 rw [Z3w hp] at hF
 rw [ha]
 dsimp only at hF ⊢
 rw [hn]
 split at hF<;>try (simp at hF;done)
 rename_i w g hR
 split at hF<;>try (simp at hF;done)
 rename_i w' hw
 simp only [Option.some.injEq,Prod.mk.injEq] at hF
 obtain ⟨rfl, -⟩:=hF
 rw [hp,Bool.not_true] at hw
 have hw2:∀st,cvt st g w=some w':=fun st=>by
  cases st with
  | false=>exact hw
  | true=>exact Zf3 hw (ZkF hs)
 rw [hw2]
theorem Gro.snocE {α:Type} {sz:Nat} {f:α→List AV} {h:Hp} {v:AV} {l:List α} (O:Gro sz f h v l) {by_ m:Nat} {z:α} {b:Bool} (hm:h[m]? = some (.arr sz [f z] true false)) (hv:idOf v≠some m) (hf:∀x ∈ z::l,(f x).length=sz) (hl:(l.length+1) * by_≤140737488355328):
  ∃v' e,appE sz by_ v (.sl sz m 0 1 1 b) h h.length=some (v',e)∧Gro sz f (ap h e) v' (l++[z])∧h.length≤(ap h e).length∧(∀j o,h[j]? = some o→idOf v≠some j→(ap h e)[j]? = some o)∧(idOf v'=idOf v∨idOf v'=some h.length):=by
 have hz:(f z).length=sz:=hf z (by simp)
 rcases O with ⟨rfl,rfl⟩ | ⟨h1,k,rfl,h2⟩
 ·have hb:by_≤140737488355328:=by simpa using hl
  refine ⟨.sl sz h.length 0 1 1 false,⟨[],[.arr sz [f z] true false],[m]⟩,by simp [appE,readSl,hm,hz,hb,idsOf], .inr ⟨by simp,h.length,rfl,by simp [ap]⟩,by simp [ap],fun j o hj _=>by simpa [ap] using Z09 hj, .inr rfl⟩
 ·have hkl:=(List.getElem?_eq_some_iff.1 h2).1
  refine ⟨.sl sz k 0 (l++[z]).length (l++[z]).length false,⟨[(k, .arr sz ((l++[z]).map f) true false)],[],[k,m]⟩,by simp [appE,readSl,hm,h2,hz,hl,idsOf], .inr ⟨by simp,k,rfl,by simp [ap,hkl]⟩,by simp [ap],fun j o hj hn => ?_, .inl rfl⟩
  have hkj:k≠j:=by rintro rfl;exact hn rfl
  simp only [ap,List.foldl_cons,List.foldl_nil,List.append_nil]
  rw [List.getElem?_set_ne hkj];exact hj
end Go.AM


namespace Go.AM
set_option linter.unusedVariables false
variable {α β:Type} {sz:Nat} {enc:α→List AV} {h:Hp}
structure Part (enc:α→List AV) (h:Hp) (p:AV × List α):Prop where
 read:readSl h p.1=some (p.2.map enc)
 len:lenK p.1 some=some (I p.2.length)
theorem Part.lenK {p:AV × List α} (q:Part enc h p) (k:K β):Go.AM.lenK p.1 k=k (I p.2.length):=by rw [ZdD,q.len];rfl
theorem Part.app {p:AV × List α} (q:Part enc h p) (g:List AObj):Part enc (h++g) p:=⟨Zc5 q.read fun id _ o ho=>Z09 ho,q.len⟩
theorem Part.nil:Part enc h (nilS,[]):=⟨rfl,rfl⟩
theorem Part.lst (sz:Nat) (b:Bool) (l:List α):Part enc h (.lst sz b (l.map enc),l):=⟨rfl,by simp⟩
theorem Part.sl {sz id n:Nat} {b nl:Bool} {l:List α} (hid:h[id]? = some (.arr sz (l.map enc) true nl)) (hn:l.length=n):Part enc h (.sl sz id 0 n n b,l):=by
 subst hn
 have ht:(l.map enc).take l.length=l.map enc:=List.take_of_length_le (by simp)
 exact ⟨by simp [readSl,hid,ht],by simp⟩
def flat (ps:List (AV × List α)):List α:=ps.flatMap (·.2)
end Go.AM
namespace Go.AM
def notBehind {α:Type} (bef:α→α→Bool):Option α→α→Bool
 | some q,p => !bef q p
 | none,_=>false
@[simp] theorem Zxv {α:Type} (bef:α→α→Bool) (q p:α):notBehind bef (some q) p = !bef q p:=rfl
@[simp] theorem Zxw {α:Type} (bef:α→α→Bool) (p:α):notBehind bef none p=false:=rfl
end Go.AM


namespace Go.AM
set_option linter.unusedVariables false
set_option linter.unusedSimpArgs false
section
variable {β:Type}
def Grm {α:Type} (sz:Nat) (f:α→List AV) (h:Hp) (v:AV) (l:List α):Prop:=∃k b,v = .sl sz k 0 l.length l.length b∧h[k]? = some (.arr sz (l.map f) true false)∧(b=true→l=[])
theorem Grm.keep {α:Type} {sz:Nat} {f:α→List AV} {h h':Hp} {v:AV} {l:List α} (O:Grm sz f h v l) (hk:∀k o,idOf v=some k→h[k]? = some o→h'[k]? = some o):Grm sz f h' v l:=by
 obtain ⟨k,b,rfl,h2,h3⟩:=O
 exact ⟨k,b,rfl,hk k _ rfl h2,h3⟩
theorem Grm.app {α:Type} {sz:Nat} {f:α→List AV} {h:Hp} {v:AV} {l:List α} (O:Grm sz f h v l) (x:List AObj):Grm sz f (h++x) v l:=O.keep fun k o _ hk=>Z09 hk
theorem Grm.lt {α:Type} {sz:Nat} {f:α→List AV} {h:Hp} {v:AV} {l:List α} (O:Grm sz f h v l):∃k,idOf v=some k∧k<h.length:=by
 obtain ⟨k,b,rfl,h2,h3⟩:=O
 exact ⟨k,rfl,(List.getElem?_eq_some_iff.1 h2).1⟩
theorem Grm.snocE {α:Type} {sz:Nat} {f:α→List AV} {h:Hp} {v:AV} {l:List α} (O:Grm sz f h v l) {by_ m:Nat} {z:α} {b:Bool} (hm:h[m]? = some (.arr sz [f z] true false)) (hv:idOf v≠some m) (hf:∀x ∈ z::l,(f x).length=sz) (hl:(l.length+1) * by_≤140737488355328):
  ∃v' e,appE sz by_ v (.sl sz m 0 1 1 b) h h.length=some (v',e)∧Grm sz f (ap h e) v' (l++[z])∧h.length≤(ap h e).length∧(∀j o,h[j]? = some o→idOf v≠some j→(ap h e)[j]? = some o)∧(idOf v'=idOf v∨idOf v'=some h.length)∧(∀i ∈ e.foot,some i=idOf v∨i=m)∧(∀q ∈ e.puts,some q.1=idOf v):=by
 have hz:(f z).length=sz:=hf z (by simp)
 obtain ⟨k,bb,rfl,h2,h3⟩:=O
 have hkl:=(List.getElem?_eq_some_iff.1 h2).1
 cases bb with
 | true=>
  have:=h3 rfl
  subst this
  have hb:by_≤140737488355328:=by simpa using hl
  refine ⟨.sl sz h.length 0 1 1 false,⟨[],[.arr sz [f z] true false],[k,m]⟩,by simp [appE,readSl,hm,hz,hb,idsOf,h2],⟨h.length,false,rfl,by simp [ap],by simp⟩,by simp [ap],fun j o hj _=>by simpa [ap] using Z09 hj, .inr rfl,fun i hi=>by simp at hi;rcases hi with rfl | rfl<;>simp,by simp⟩
 | false=>
  refine ⟨.sl sz k 0 (l++[z]).length (l++[z]).length false,⟨[(k, .arr sz ((l++[z]).map f) true false)],[],[k,m]⟩,by simp [appE,readSl,hm,h2,hz,hl,idsOf],⟨k,false,rfl,by simp [ap,hkl],by simp⟩,by simp [ap],fun j o hj hn => ?_, .inl rfl,fun i hi=>by simp at hi;rcases hi with rfl | rfl<;>simp,fun q hq=>by simp at hq;subst hq;rfl⟩
  have hkj:k≠j:=by rintro rfl;exact hn rfl
  simp only [ap,List.foldl_cons,List.foldl_nil,List.append_nil]
  rw [List.getElem?_set_ne hkj];exact hj
theorem Grm.cvt {α:Type} {sz:Nat} {f:α→List AV} {h:Hp} {v:AV} {l:List α} (O:Grm sz f h v l) (hf:∀x st,(f x).all (fun c=>bif st then isS c else plain c)=true) (st:Bool):Go.AM.cvt st h v=some (.lst sz false (l.map f)):=by
 obtain ⟨k,b,rfl,h2,h3⟩:=O
 exact Z10 h2 (by simp) (by simp) (Z0W fun x=>hf x st)
theorem Grm.len {α:Type} {sz:Nat} {f:α→List AV} {h:Hp} {v:AV} {l:List α} (O:Grm sz f h v l) (k:Go.AM.K β):lenK v k=k (I l.length):=by
 obtain ⟨j,b,rfl,h2,h3⟩:=O
 simp
end
end Go.AM


namespace Go.AM
structure Msg where
 mv:Int
 kind:Int
 num:Int
 day:Int
 frm:Int
 to:Int
 alc:Int
deriving DecidableEq
def encM (m:Msg):List AV:=[I m.mv,I m.kind,I m.num,I m.day,I m.frm,I m.to,I m.alc]
structure Docu where
 mv:Int
 stage:Int
 frm:Int
 to:Int
 sent:Int
 got:Int
 chg:Int
deriving DecidableEq
def encDo (d:Docu):List AV:=[I d.mv,I d.stage,I d.frm,I d.to,I d.sent,I d.got,I d.chg]
section
variable {β:Type}
theorem Z0L {r:R} {v:AV} {id:Nat} {o:AObj} {ft:List Nat} {h:Hp} (hr:r=some (v,⟨[(id,o)],[],ft⟩)) (k:AV→Hp→Option β):effK r h k=k v (h.set id o):=by subst hr;simp [effK,ap]
theorem Z0f {r:R} {v:AV} {id:Nat} {o:AObj} {ft:List Nat} {h:Hp} (hr:r=some (v,⟨[(id,o)],[],ft⟩)) (k:AV→Hp→Ent→Option β):effD r h k=k v (h.set id o) (ft,[id]):=by subst hr;simp [effD,ap,wrOf]
theorem Z1f {a b c d e f g:AV} {t:Hp} {w n:Bool} (k:K β):ldK 1 false (.ptr 0 0 0 1) (.arr 7 [[a,b,c,d,e,f,g]] w n::t) k=k a:=rfl
theorem Z1g {a b c d e f g:AV} {x:Int} {t:Hp} {n:Bool} (k:AV→Hp→Option β):effK (stE 1 (.ptr 0 0 0 1) (.s (.int .i64 x)) (.arr 7 [[a,b,c,d,e,f,g]] true n::t)) (.arr 7 [[a,b,c,d,e,f,g]] true n::t) k=k .u (.arr 7 [[(.s (.int .i64 x)),b,c,d,e,f,g]] true n::t):=Z0L rfl k
theorem Z1h {a b c d e f g:AV} {x:Int} {t:Hp} {n:Bool} (k:AV→Hp→Ent→Option β):effD (stE 1 (.ptr 0 0 0 1) (.s (.int .i64 x)) (.arr 7 [[a,b,c,d,e,f,g]] true n::t)) (.arr 7 [[a,b,c,d,e,f,g]] true n::t) k=k .u (.arr 7 [[(.s (.int .i64 x)),b,c,d,e,f,g]] true n::t) ([0],[0]):=Z0f rfl k
theorem Z1i {a b c d e f g:AV} {t:Hp} {w n:Bool} (k:K β):ldK 1 false (.ptr 0 0 1 1) (.arr 7 [[a,b,c,d,e,f,g]] w n::t) k=k b:=rfl
theorem Z1j {a b c d e f g:AV} {x:Int} {t:Hp} {n:Bool} (k:AV→Hp→Option β):effK (stE 1 (.ptr 0 0 1 1) (.s (.int .i64 x)) (.arr 7 [[a,b,c,d,e,f,g]] true n::t)) (.arr 7 [[a,b,c,d,e,f,g]] true n::t) k=k .u (.arr 7 [[a,(.s (.int .i64 x)),c,d,e,f,g]] true n::t):=Z0L rfl k
theorem Z1k {a b c d e f g:AV} {x:Int} {t:Hp} {n:Bool} (k:AV→Hp→Ent→Option β):effD (stE 1 (.ptr 0 0 1 1) (.s (.int .i64 x)) (.arr 7 [[a,b,c,d,e,f,g]] true n::t)) (.arr 7 [[a,b,c,d,e,f,g]] true n::t) k=k .u (.arr 7 [[a,(.s (.int .i64 x)),c,d,e,f,g]] true n::t) ([0],[0]):=Z0f rfl k
theorem Z1l {a b c d e f g:AV} {t:Hp} {w n:Bool} (k:K β):ldK 1 false (.ptr 0 0 2 1) (.arr 7 [[a,b,c,d,e,f,g]] w n::t) k=k c:=rfl
theorem Z1m {a b c d e f g:AV} {x:Int} {t:Hp} {n:Bool} (k:AV→Hp→Option β):effK (stE 1 (.ptr 0 0 2 1) (.s (.int .i64 x)) (.arr 7 [[a,b,c,d,e,f,g]] true n::t)) (.arr 7 [[a,b,c,d,e,f,g]] true n::t) k=k .u (.arr 7 [[a,b,(.s (.int .i64 x)),d,e,f,g]] true n::t):=Z0L rfl k
theorem Z1n {a b c d e f g:AV} {x:Int} {t:Hp} {n:Bool} (k:AV→Hp→Ent→Option β):effD (stE 1 (.ptr 0 0 2 1) (.s (.int .i64 x)) (.arr 7 [[a,b,c,d,e,f,g]] true n::t)) (.arr 7 [[a,b,c,d,e,f,g]] true n::t) k=k .u (.arr 7 [[a,b,(.s (.int .i64 x)),d,e,f,g]] true n::t) ([0],[0]):=Z0f rfl k
theorem Z1o {a b c d e f g:AV} {t:Hp} {w n:Bool} (k:K β):ldK 1 false (.ptr 0 0 3 1) (.arr 7 [[a,b,c,d,e,f,g]] w n::t) k=k d:=rfl
theorem Z1p {a b c d e f g:AV} {x:Int} {t:Hp} {n:Bool} (k:AV→Hp→Option β):effK (stE 1 (.ptr 0 0 3 1) (.s (.int .i64 x)) (.arr 7 [[a,b,c,d,e,f,g]] true n::t)) (.arr 7 [[a,b,c,d,e,f,g]] true n::t) k=k .u (.arr 7 [[a,b,c,(.s (.int .i64 x)),e,f,g]] true n::t):=Z0L rfl k
theorem Z1q {a b c d e f g:AV} {x:Int} {t:Hp} {n:Bool} (k:AV→Hp→Ent→Option β):effD (stE 1 (.ptr 0 0 3 1) (.s (.int .i64 x)) (.arr 7 [[a,b,c,d,e,f,g]] true n::t)) (.arr 7 [[a,b,c,d,e,f,g]] true n::t) k=k .u (.arr 7 [[a,b,c,(.s (.int .i64 x)),e,f,g]] true n::t) ([0],[0]):=Z0f rfl k
theorem Z1r {a b c d e f g:AV} {t:Hp} {w n:Bool} (k:K β):ldK 1 false (.ptr 0 0 4 1) (.arr 7 [[a,b,c,d,e,f,g]] w n::t) k=k e:=rfl
theorem Z1s {a b c d e f g:AV} {x:Int} {t:Hp} {n:Bool} (k:AV→Hp→Option β):effK (stE 1 (.ptr 0 0 4 1) (.s (.int .i64 x)) (.arr 7 [[a,b,c,d,e,f,g]] true n::t)) (.arr 7 [[a,b,c,d,e,f,g]] true n::t) k=k .u (.arr 7 [[a,b,c,d,(.s (.int .i64 x)),f,g]] true n::t):=Z0L rfl k
theorem Z1t {a b c d e f g:AV} {x:Int} {t:Hp} {n:Bool} (k:AV→Hp→Ent→Option β):effD (stE 1 (.ptr 0 0 4 1) (.s (.int .i64 x)) (.arr 7 [[a,b,c,d,e,f,g]] true n::t)) (.arr 7 [[a,b,c,d,e,f,g]] true n::t) k=k .u (.arr 7 [[a,b,c,d,(.s (.int .i64 x)),f,g]] true n::t) ([0],[0]):=Z0f rfl k
theorem Z1u {a b c d e f g:AV} {t:Hp} {w n:Bool} (k:K β):ldK 1 false (.ptr 0 0 5 1) (.arr 7 [[a,b,c,d,e,f,g]] w n::t) k=k f:=rfl
theorem Z1v {a b c d e f g:AV} {x:Int} {t:Hp} {n:Bool} (k:AV→Hp→Option β):effK (stE 1 (.ptr 0 0 5 1) (.s (.int .i64 x)) (.arr 7 [[a,b,c,d,e,f,g]] true n::t)) (.arr 7 [[a,b,c,d,e,f,g]] true n::t) k=k .u (.arr 7 [[a,b,c,d,e,(.s (.int .i64 x)),g]] true n::t):=Z0L rfl k
theorem Z1w {a b c d e f g:AV} {x:Int} {t:Hp} {n:Bool} (k:AV→Hp→Ent→Option β):effD (stE 1 (.ptr 0 0 5 1) (.s (.int .i64 x)) (.arr 7 [[a,b,c,d,e,f,g]] true n::t)) (.arr 7 [[a,b,c,d,e,f,g]] true n::t) k=k .u (.arr 7 [[a,b,c,d,e,(.s (.int .i64 x)),g]] true n::t) ([0],[0]):=Z0f rfl k
theorem Z1x {a b c d e f g:AV} {t:Hp} {w n:Bool} (k:K β):ldK 1 false (.ptr 0 0 6 1) (.arr 7 [[a,b,c,d,e,f,g]] w n::t) k=k g:=rfl
theorem Z1y {a b c d e f g:AV} {x:Int} {t:Hp} {n:Bool} (k:AV→Hp→Option β):effK (stE 1 (.ptr 0 0 6 1) (.s (.int .i64 x)) (.arr 7 [[a,b,c,d,e,f,g]] true n::t)) (.arr 7 [[a,b,c,d,e,f,g]] true n::t) k=k .u (.arr 7 [[a,b,c,d,e,f,(.s (.int .i64 x))]] true n::t):=Z0L rfl k
theorem Z1z {a b c d e f g:AV} {x:Int} {t:Hp} {n:Bool} (k:AV→Hp→Ent→Option β):effD (stE 1 (.ptr 0 0 6 1) (.s (.int .i64 x)) (.arr 7 [[a,b,c,d,e,f,g]] true n::t)) (.arr 7 [[a,b,c,d,e,f,g]] true n::t) k=k .u (.arr 7 [[a,b,c,d,e,f,(.s (.int .i64 x))]] true n::t) ([0],[0]):=Z0f rfl k
theorem lw7_0 {a b c d e f g:AV} {t:Hp} {w n:Bool} (k:K β):ldK 7 true (.ptr 0 0 0 1) (.arr 7 [[a,b,c,d,e,f,g]] w n::t) k=k (.agg [a,b,c,d,e,f,g]):=rfl
theorem ew7_0 {a b c d e f g:AV} {x0 x1 x2 x3 x4 x5 x6:Int} {t:Hp} {n:Bool} (k:AV→Hp→Option β):effK (stE 7 (.ptr 0 0 0 1) (.agg [(.s (.int .i64 x0)),(.s (.int .i64 x1)),(.s (.int .i64 x2)),(.s (.int .i64 x3)),(.s (.int .i64 x4)),(.s (.int .i64 x5)),(.s (.int .i64 x6))]) (.arr 7 [[a,b,c,d,e,f,g]] true n::t)) (.arr 7 [[a,b,c,d,e,f,g]] true n::t) k=k .u (.arr 7 [[(.s (.int .i64 x0)),(.s (.int .i64 x1)),(.s (.int .i64 x2)),(.s (.int .i64 x3)),(.s (.int .i64 x4)),(.s (.int .i64 x5)),(.s (.int .i64 x6))]] true n::t):=Z0L rfl k
theorem bx7_0 {x0 x1 x2 x3 x4 x5 x6:Int} (k:AV→Hp→Option β):effK (boxE 7 (.agg [(.s (.int .i64 x0)),(.s (.int .i64 x1)),(.s (.int .i64 x2)),(.s (.int .i64 x3)),(.s (.int .i64 x4)),(.s (.int .i64 x5)),(.s (.int .i64 x6))]) ([]:Hp).length) [] k=k (.ptr 0 0 0 1) [.arr 7 [[(.s (.int .i64 x0)),(.s (.int .i64 x1)),(.s (.int .i64 x2)),(.s (.int .i64 x3)),(.s (.int .i64 x4)),(.s (.int .i64 x5)),(.s (.int .i64 x6))]] true false]:=rfl
theorem Z1A {o0:AObj} {a b c d e f g:AV} {t:Hp} {w n:Bool} (k:K β):ldK 1 false (.ptr 1 0 0 1) (o0 :: .arr 7 [[a,b,c,d,e,f,g]] w n::t) k=k a:=rfl
theorem Z1B {o0:AObj} {a b c d e f g:AV} {x:Int} {t:Hp} {n:Bool} (k:AV→Hp→Option β):effK (stE 1 (.ptr 1 0 0 1) (.s (.int .i64 x)) (o0 :: .arr 7 [[a,b,c,d,e,f,g]] true n::t)) (o0 :: .arr 7 [[a,b,c,d,e,f,g]] true n::t) k=k .u (o0 :: .arr 7 [[(.s (.int .i64 x)),b,c,d,e,f,g]] true n::t):=Z0L rfl k
theorem Z1C {o0:AObj} {a b c d e f g:AV} {x:Int} {t:Hp} {n:Bool} (k:AV→Hp→Ent→Option β):effD (stE 1 (.ptr 1 0 0 1) (.s (.int .i64 x)) (o0 :: .arr 7 [[a,b,c,d,e,f,g]] true n::t)) (o0 :: .arr 7 [[a,b,c,d,e,f,g]] true n::t) k=k .u (o0 :: .arr 7 [[(.s (.int .i64 x)),b,c,d,e,f,g]] true n::t) ([1],[1]):=Z0f rfl k
theorem Z1D {o0:AObj} {a b c d e f g:AV} {t:Hp} {w n:Bool} (k:K β):ldK 1 false (.ptr 1 0 1 1) (o0 :: .arr 7 [[a,b,c,d,e,f,g]] w n::t) k=k b:=rfl
theorem Z1E {o0:AObj} {a b c d e f g:AV} {x:Int} {t:Hp} {n:Bool} (k:AV→Hp→Option β):effK (stE 1 (.ptr 1 0 1 1) (.s (.int .i64 x)) (o0 :: .arr 7 [[a,b,c,d,e,f,g]] true n::t)) (o0 :: .arr 7 [[a,b,c,d,e,f,g]] true n::t) k=k .u (o0 :: .arr 7 [[a,(.s (.int .i64 x)),c,d,e,f,g]] true n::t):=Z0L rfl k
theorem Z1F {o0:AObj} {a b c d e f g:AV} {x:Int} {t:Hp} {n:Bool} (k:AV→Hp→Ent→Option β):effD (stE 1 (.ptr 1 0 1 1) (.s (.int .i64 x)) (o0 :: .arr 7 [[a,b,c,d,e,f,g]] true n::t)) (o0 :: .arr 7 [[a,b,c,d,e,f,g]] true n::t) k=k .u (o0 :: .arr 7 [[a,(.s (.int .i64 x)),c,d,e,f,g]] true n::t) ([1],[1]):=Z0f rfl k
theorem Z1G {o0:AObj} {a b c d e f g:AV} {t:Hp} {w n:Bool} (k:K β):ldK 1 false (.ptr 1 0 2 1) (o0 :: .arr 7 [[a,b,c,d,e,f,g]] w n::t) k=k c:=rfl
theorem Z1H {o0:AObj} {a b c d e f g:AV} {x:Int} {t:Hp} {n:Bool} (k:AV→Hp→Option β):effK (stE 1 (.ptr 1 0 2 1) (.s (.int .i64 x)) (o0 :: .arr 7 [[a,b,c,d,e,f,g]] true n::t)) (o0 :: .arr 7 [[a,b,c,d,e,f,g]] true n::t) k=k .u (o0 :: .arr 7 [[a,b,(.s (.int .i64 x)),d,e,f,g]] true n::t):=Z0L rfl k
theorem Z1I {o0:AObj} {a b c d e f g:AV} {x:Int} {t:Hp} {n:Bool} (k:AV→Hp→Ent→Option β):effD (stE 1 (.ptr 1 0 2 1) (.s (.int .i64 x)) (o0 :: .arr 7 [[a,b,c,d,e,f,g]] true n::t)) (o0 :: .arr 7 [[a,b,c,d,e,f,g]] true n::t) k=k .u (o0 :: .arr 7 [[a,b,(.s (.int .i64 x)),d,e,f,g]] true n::t) ([1],[1]):=Z0f rfl k
theorem Z1J {o0:AObj} {a b c d e f g:AV} {t:Hp} {w n:Bool} (k:K β):ldK 1 false (.ptr 1 0 3 1) (o0 :: .arr 7 [[a,b,c,d,e,f,g]] w n::t) k=k d:=rfl
theorem Z1K {o0:AObj} {a b c d e f g:AV} {x:Int} {t:Hp} {n:Bool} (k:AV→Hp→Option β):effK (stE 1 (.ptr 1 0 3 1) (.s (.int .i64 x)) (o0 :: .arr 7 [[a,b,c,d,e,f,g]] true n::t)) (o0 :: .arr 7 [[a,b,c,d,e,f,g]] true n::t) k=k .u (o0 :: .arr 7 [[a,b,c,(.s (.int .i64 x)),e,f,g]] true n::t):=Z0L rfl k
theorem Z1L {o0:AObj} {a b c d e f g:AV} {x:Int} {t:Hp} {n:Bool} (k:AV→Hp→Ent→Option β):effD (stE 1 (.ptr 1 0 3 1) (.s (.int .i64 x)) (o0 :: .arr 7 [[a,b,c,d,e,f,g]] true n::t)) (o0 :: .arr 7 [[a,b,c,d,e,f,g]] true n::t) k=k .u (o0 :: .arr 7 [[a,b,c,(.s (.int .i64 x)),e,f,g]] true n::t) ([1],[1]):=Z0f rfl k
theorem Z1M {o0:AObj} {a b c d e f g:AV} {t:Hp} {w n:Bool} (k:K β):ldK 1 false (.ptr 1 0 4 1) (o0 :: .arr 7 [[a,b,c,d,e,f,g]] w n::t) k=k e:=rfl
theorem Z1N {o0:AObj} {a b c d e f g:AV} {x:Int} {t:Hp} {n:Bool} (k:AV→Hp→Option β):effK (stE 1 (.ptr 1 0 4 1) (.s (.int .i64 x)) (o0 :: .arr 7 [[a,b,c,d,e,f,g]] true n::t)) (o0 :: .arr 7 [[a,b,c,d,e,f,g]] true n::t) k=k .u (o0 :: .arr 7 [[a,b,c,d,(.s (.int .i64 x)),f,g]] true n::t):=Z0L rfl k
theorem Z1O {o0:AObj} {a b c d e f g:AV} {x:Int} {t:Hp} {n:Bool} (k:AV→Hp→Ent→Option β):effD (stE 1 (.ptr 1 0 4 1) (.s (.int .i64 x)) (o0 :: .arr 7 [[a,b,c,d,e,f,g]] true n::t)) (o0 :: .arr 7 [[a,b,c,d,e,f,g]] true n::t) k=k .u (o0 :: .arr 7 [[a,b,c,d,(.s (.int .i64 x)),f,g]] true n::t) ([1],[1]):=Z0f rfl k
theorem Z1P {o0:AObj} {a b c d e f g:AV} {t:Hp} {w n:Bool} (k:K β):ldK 1 false (.ptr 1 0 5 1) (o0 :: .arr 7 [[a,b,c,d,e,f,g]] w n::t) k=k f:=rfl
theorem Z1Q {o0:AObj} {a b c d e f g:AV} {x:Int} {t:Hp} {n:Bool} (k:AV→Hp→Option β):effK (stE 1 (.ptr 1 0 5 1) (.s (.int .i64 x)) (o0 :: .arr 7 [[a,b,c,d,e,f,g]] true n::t)) (o0 :: .arr 7 [[a,b,c,d,e,f,g]] true n::t) k=k .u (o0 :: .arr 7 [[a,b,c,d,e,(.s (.int .i64 x)),g]] true n::t):=Z0L rfl k
theorem Z1R {o0:AObj} {a b c d e f g:AV} {x:Int} {t:Hp} {n:Bool} (k:AV→Hp→Ent→Option β):effD (stE 1 (.ptr 1 0 5 1) (.s (.int .i64 x)) (o0 :: .arr 7 [[a,b,c,d,e,f,g]] true n::t)) (o0 :: .arr 7 [[a,b,c,d,e,f,g]] true n::t) k=k .u (o0 :: .arr 7 [[a,b,c,d,e,(.s (.int .i64 x)),g]] true n::t) ([1],[1]):=Z0f rfl k
theorem Z1S {o0:AObj} {a b c d e f g:AV} {t:Hp} {w n:Bool} (k:K β):ldK 1 false (.ptr 1 0 6 1) (o0 :: .arr 7 [[a,b,c,d,e,f,g]] w n::t) k=k g:=rfl
theorem Z1T {o0:AObj} {a b c d e f g:AV} {x:Int} {t:Hp} {n:Bool} (k:AV→Hp→Option β):effK (stE 1 (.ptr 1 0 6 1) (.s (.int .i64 x)) (o0 :: .arr 7 [[a,b,c,d,e,f,g]] true n::t)) (o0 :: .arr 7 [[a,b,c,d,e,f,g]] true n::t) k=k .u (o0 :: .arr 7 [[a,b,c,d,e,f,(.s (.int .i64 x))]] true n::t):=Z0L rfl k
theorem Z1U {o0:AObj} {a b c d e f g:AV} {x:Int} {t:Hp} {n:Bool} (k:AV→Hp→Ent→Option β):effD (stE 1 (.ptr 1 0 6 1) (.s (.int .i64 x)) (o0 :: .arr 7 [[a,b,c,d,e,f,g]] true n::t)) (o0 :: .arr 7 [[a,b,c,d,e,f,g]] true n::t) k=k .u (o0 :: .arr 7 [[a,b,c,d,e,f,(.s (.int .i64 x))]] true n::t) ([1],[1]):=Z0f rfl k
theorem lw7_1 {o0:AObj} {a b c d e f g:AV} {t:Hp} {w n:Bool} (k:K β):ldK 7 true (.ptr 1 0 0 1) (o0 :: .arr 7 [[a,b,c,d,e,f,g]] w n::t) k=k (.agg [a,b,c,d,e,f,g]):=rfl
theorem ew7_1 {o0:AObj} {a b c d e f g:AV} {x0 x1 x2 x3 x4 x5 x6:Int} {t:Hp} {n:Bool} (k:AV→Hp→Option β):effK (stE 7 (.ptr 1 0 0 1) (.agg [(.s (.int .i64 x0)),(.s (.int .i64 x1)),(.s (.int .i64 x2)),(.s (.int .i64 x3)),(.s (.int .i64 x4)),(.s (.int .i64 x5)),(.s (.int .i64 x6))]) (o0 :: .arr 7 [[a,b,c,d,e,f,g]] true n::t)) (o0 :: .arr 7 [[a,b,c,d,e,f,g]] true n::t) k=k .u (o0 :: .arr 7 [[(.s (.int .i64 x0)),(.s (.int .i64 x1)),(.s (.int .i64 x2)),(.s (.int .i64 x3)),(.s (.int .i64 x4)),(.s (.int .i64 x5)),(.s (.int .i64 x6))]] true n::t):=Z0L rfl k
theorem bx7_1 {o0:AObj} {x0 x1 x2 x3 x4 x5 x6:Int} (k:AV→Hp→Option β):effK (boxE 7 (.agg [(.s (.int .i64 x0)),(.s (.int .i64 x1)),(.s (.int .i64 x2)),(.s (.int .i64 x3)),(.s (.int .i64 x4)),(.s (.int .i64 x5)),(.s (.int .i64 x6))]) ([o0]:Hp).length) [o0] k=k (.ptr 1 0 0 1) [o0, .arr 7 [[(.s (.int .i64 x0)),(.s (.int .i64 x1)),(.s (.int .i64 x2)),(.s (.int .i64 x3)),(.s (.int .i64 x4)),(.s (.int .i64 x5)),(.s (.int .i64 x6))]] true false]:=rfl
theorem Z1V {o0:AObj} {o1:AObj} {a b c d e f g:AV} {t:Hp} {w n:Bool} (k:K β):ldK 1 false (.ptr 2 0 0 1) (o0::o1 :: .arr 7 [[a,b,c,d,e,f,g]] w n::t) k=k a:=rfl
theorem Z1W {o0:AObj} {o1:AObj} {a b c d e f g:AV} {x:Int} {t:Hp} {n:Bool} (k:AV→Hp→Option β):effK (stE 1 (.ptr 2 0 0 1) (.s (.int .i64 x)) (o0::o1 :: .arr 7 [[a,b,c,d,e,f,g]] true n::t)) (o0::o1 :: .arr 7 [[a,b,c,d,e,f,g]] true n::t) k=k .u (o0::o1 :: .arr 7 [[(.s (.int .i64 x)),b,c,d,e,f,g]] true n::t):=Z0L rfl k
theorem Z1X {o0:AObj} {o1:AObj} {a b c d e f g:AV} {x:Int} {t:Hp} {n:Bool} (k:AV→Hp→Ent→Option β):effD (stE 1 (.ptr 2 0 0 1) (.s (.int .i64 x)) (o0::o1 :: .arr 7 [[a,b,c,d,e,f,g]] true n::t)) (o0::o1 :: .arr 7 [[a,b,c,d,e,f,g]] true n::t) k=k .u (o0::o1 :: .arr 7 [[(.s (.int .i64 x)),b,c,d,e,f,g]] true n::t) ([2],[2]):=Z0f rfl k
theorem Z1Y {o0:AObj} {o1:AObj} {a b c d e f g:AV} {t:Hp} {w n:Bool} (k:K β):ldK 1 false (.ptr 2 0 1 1) (o0::o1 :: .arr 7 [[a,b,c,d,e,f,g]] w n::t) k=k b:=rfl
theorem Z1Z {o0:AObj} {o1:AObj} {a b c d e f g:AV} {x:Int} {t:Hp} {n:Bool} (k:AV→Hp→Option β):effK (stE 1 (.ptr 2 0 1 1) (.s (.int .i64 x)) (o0::o1 :: .arr 7 [[a,b,c,d,e,f,g]] true n::t)) (o0::o1 :: .arr 7 [[a,b,c,d,e,f,g]] true n::t) k=k .u (o0::o1 :: .arr 7 [[a,(.s (.int .i64 x)),c,d,e,f,g]] true n::t):=Z0L rfl k
theorem Z20 {o0:AObj} {o1:AObj} {a b c d e f g:AV} {x:Int} {t:Hp} {n:Bool} (k:AV→Hp→Ent→Option β):effD (stE 1 (.ptr 2 0 1 1) (.s (.int .i64 x)) (o0::o1 :: .arr 7 [[a,b,c,d,e,f,g]] true n::t)) (o0::o1 :: .arr 7 [[a,b,c,d,e,f,g]] true n::t) k=k .u (o0::o1 :: .arr 7 [[a,(.s (.int .i64 x)),c,d,e,f,g]] true n::t) ([2],[2]):=Z0f rfl k
theorem Z21 {o0:AObj} {o1:AObj} {a b c d e f g:AV} {t:Hp} {w n:Bool} (k:K β):ldK 1 false (.ptr 2 0 2 1) (o0::o1 :: .arr 7 [[a,b,c,d,e,f,g]] w n::t) k=k c:=rfl
theorem Z22 {o0:AObj} {o1:AObj} {a b c d e f g:AV} {x:Int} {t:Hp} {n:Bool} (k:AV→Hp→Option β):effK (stE 1 (.ptr 2 0 2 1) (.s (.int .i64 x)) (o0::o1 :: .arr 7 [[a,b,c,d,e,f,g]] true n::t)) (o0::o1 :: .arr 7 [[a,b,c,d,e,f,g]] true n::t) k=k .u (o0::o1 :: .arr 7 [[a,b,(.s (.int .i64 x)),d,e,f,g]] true n::t):=Z0L rfl k
theorem Z23 {o0:AObj} {o1:AObj} {a b c d e f g:AV} {x:Int} {t:Hp} {n:Bool} (k:AV→Hp→Ent→Option β):effD (stE 1 (.ptr 2 0 2 1) (.s (.int .i64 x)) (o0::o1 :: .arr 7 [[a,b,c,d,e,f,g]] true n::t)) (o0::o1 :: .arr 7 [[a,b,c,d,e,f,g]] true n::t) k=k .u (o0::o1 :: .arr 7 [[a,b,(.s (.int .i64 x)),d,e,f,g]] true n::t) ([2],[2]):=Z0f rfl k
theorem Z24 {o0:AObj} {o1:AObj} {a b c d e f g:AV} {t:Hp} {w n:Bool} (k:K β):ldK 1 false (.ptr 2 0 3 1) (o0::o1 :: .arr 7 [[a,b,c,d,e,f,g]] w n::t) k=k d:=rfl
theorem Z25 {o0:AObj} {o1:AObj} {a b c d e f g:AV} {x:Int} {t:Hp} {n:Bool} (k:AV→Hp→Option β):effK (stE 1 (.ptr 2 0 3 1) (.s (.int .i64 x)) (o0::o1 :: .arr 7 [[a,b,c,d,e,f,g]] true n::t)) (o0::o1 :: .arr 7 [[a,b,c,d,e,f,g]] true n::t) k=k .u (o0::o1 :: .arr 7 [[a,b,c,(.s (.int .i64 x)),e,f,g]] true n::t):=Z0L rfl k
theorem Z26 {o0:AObj} {o1:AObj} {a b c d e f g:AV} {x:Int} {t:Hp} {n:Bool} (k:AV→Hp→Ent→Option β):effD (stE 1 (.ptr 2 0 3 1) (.s (.int .i64 x)) (o0::o1 :: .arr 7 [[a,b,c,d,e,f,g]] true n::t)) (o0::o1 :: .arr 7 [[a,b,c,d,e,f,g]] true n::t) k=k .u (o0::o1 :: .arr 7 [[a,b,c,(.s (.int .i64 x)),e,f,g]] true n::t) ([2],[2]):=Z0f rfl k
theorem Z27 {o0:AObj} {o1:AObj} {a b c d e f g:AV} {t:Hp} {w n:Bool} (k:K β):ldK 1 false (.ptr 2 0 4 1) (o0::o1 :: .arr 7 [[a,b,c,d,e,f,g]] w n::t) k=k e:=rfl
theorem Z28 {o0:AObj} {o1:AObj} {a b c d e f g:AV} {x:Int} {t:Hp} {n:Bool} (k:AV→Hp→Option β):effK (stE 1 (.ptr 2 0 4 1) (.s (.int .i64 x)) (o0::o1 :: .arr 7 [[a,b,c,d,e,f,g]] true n::t)) (o0::o1 :: .arr 7 [[a,b,c,d,e,f,g]] true n::t) k=k .u (o0::o1 :: .arr 7 [[a,b,c,d,(.s (.int .i64 x)),f,g]] true n::t):=Z0L rfl k
theorem Z29 {o0:AObj} {o1:AObj} {a b c d e f g:AV} {x:Int} {t:Hp} {n:Bool} (k:AV→Hp→Ent→Option β):effD (stE 1 (.ptr 2 0 4 1) (.s (.int .i64 x)) (o0::o1 :: .arr 7 [[a,b,c,d,e,f,g]] true n::t)) (o0::o1 :: .arr 7 [[a,b,c,d,e,f,g]] true n::t) k=k .u (o0::o1 :: .arr 7 [[a,b,c,d,(.s (.int .i64 x)),f,g]] true n::t) ([2],[2]):=Z0f rfl k
theorem Z2a {o0:AObj} {o1:AObj} {a b c d e f g:AV} {t:Hp} {w n:Bool} (k:K β):ldK 1 false (.ptr 2 0 5 1) (o0::o1 :: .arr 7 [[a,b,c,d,e,f,g]] w n::t) k=k f:=rfl
theorem Z2b {o0:AObj} {o1:AObj} {a b c d e f g:AV} {x:Int} {t:Hp} {n:Bool} (k:AV→Hp→Option β):effK (stE 1 (.ptr 2 0 5 1) (.s (.int .i64 x)) (o0::o1 :: .arr 7 [[a,b,c,d,e,f,g]] true n::t)) (o0::o1 :: .arr 7 [[a,b,c,d,e,f,g]] true n::t) k=k .u (o0::o1 :: .arr 7 [[a,b,c,d,e,(.s (.int .i64 x)),g]] true n::t):=Z0L rfl k
theorem Z2c {o0:AObj} {o1:AObj} {a b c d e f g:AV} {x:Int} {t:Hp} {n:Bool} (k:AV→Hp→Ent→Option β):effD (stE 1 (.ptr 2 0 5 1) (.s (.int .i64 x)) (o0::o1 :: .arr 7 [[a,b,c,d,e,f,g]] true n::t)) (o0::o1 :: .arr 7 [[a,b,c,d,e,f,g]] true n::t) k=k .u (o0::o1 :: .arr 7 [[a,b,c,d,e,(.s (.int .i64 x)),g]] true n::t) ([2],[2]):=Z0f rfl k
theorem Z2d {o0:AObj} {o1:AObj} {a b c d e f g:AV} {t:Hp} {w n:Bool} (k:K β):ldK 1 false (.ptr 2 0 6 1) (o0::o1 :: .arr 7 [[a,b,c,d,e,f,g]] w n::t) k=k g:=rfl
theorem Z2e {o0:AObj} {o1:AObj} {a b c d e f g:AV} {x:Int} {t:Hp} {n:Bool} (k:AV→Hp→Option β):effK (stE 1 (.ptr 2 0 6 1) (.s (.int .i64 x)) (o0::o1 :: .arr 7 [[a,b,c,d,e,f,g]] true n::t)) (o0::o1 :: .arr 7 [[a,b,c,d,e,f,g]] true n::t) k=k .u (o0::o1 :: .arr 7 [[a,b,c,d,e,f,(.s (.int .i64 x))]] true n::t):=Z0L rfl k
theorem Z2f {o0:AObj} {o1:AObj} {a b c d e f g:AV} {x:Int} {t:Hp} {n:Bool} (k:AV→Hp→Ent→Option β):effD (stE 1 (.ptr 2 0 6 1) (.s (.int .i64 x)) (o0::o1 :: .arr 7 [[a,b,c,d,e,f,g]] true n::t)) (o0::o1 :: .arr 7 [[a,b,c,d,e,f,g]] true n::t) k=k .u (o0::o1 :: .arr 7 [[a,b,c,d,e,f,(.s (.int .i64 x))]] true n::t) ([2],[2]):=Z0f rfl k
theorem lw7_2 {o0:AObj} {o1:AObj} {a b c d e f g:AV} {t:Hp} {w n:Bool} (k:K β):ldK 7 true (.ptr 2 0 0 1) (o0::o1 :: .arr 7 [[a,b,c,d,e,f,g]] w n::t) k=k (.agg [a,b,c,d,e,f,g]):=rfl
theorem ew7_2 {o0:AObj} {o1:AObj} {a b c d e f g:AV} {x0 x1 x2 x3 x4 x5 x6:Int} {t:Hp} {n:Bool} (k:AV→Hp→Option β):effK (stE 7 (.ptr 2 0 0 1) (.agg [(.s (.int .i64 x0)),(.s (.int .i64 x1)),(.s (.int .i64 x2)),(.s (.int .i64 x3)),(.s (.int .i64 x4)),(.s (.int .i64 x5)),(.s (.int .i64 x6))]) (o0::o1 :: .arr 7 [[a,b,c,d,e,f,g]] true n::t)) (o0::o1 :: .arr 7 [[a,b,c,d,e,f,g]] true n::t) k=k .u (o0::o1 :: .arr 7 [[(.s (.int .i64 x0)),(.s (.int .i64 x1)),(.s (.int .i64 x2)),(.s (.int .i64 x3)),(.s (.int .i64 x4)),(.s (.int .i64 x5)),(.s (.int .i64 x6))]] true n::t):=Z0L rfl k
theorem bx7_2 {o0:AObj} {o1:AObj} {x0 x1 x2 x3 x4 x5 x6:Int} (k:AV→Hp→Option β):effK (boxE 7 (.agg [(.s (.int .i64 x0)),(.s (.int .i64 x1)),(.s (.int .i64 x2)),(.s (.int .i64 x3)),(.s (.int .i64 x4)),(.s (.int .i64 x5)),(.s (.int .i64 x6))]) ([o0,o1]:Hp).length) [o0,o1] k=k (.ptr 2 0 0 1) [o0,o1, .arr 7 [[(.s (.int .i64 x0)),(.s (.int .i64 x1)),(.s (.int .i64 x2)),(.s (.int .i64 x3)),(.s (.int .i64 x4)),(.s (.int .i64 x5)),(.s (.int .i64 x6))]] true false]:=rfl
theorem Z2g {o0:AObj} {o1:AObj} {o2:AObj} {a b c d e f g:AV} {t:Hp} {w n:Bool} (k:K β):ldK 1 false (.ptr 3 0 0 1) (o0::o1::o2 :: .arr 7 [[a,b,c,d,e,f,g]] w n::t) k=k a:=rfl
theorem Z2h {o0:AObj} {o1:AObj} {o2:AObj} {a b c d e f g:AV} {x:Int} {t:Hp} {n:Bool} (k:AV→Hp→Option β):effK (stE 1 (.ptr 3 0 0 1) (.s (.int .i64 x)) (o0::o1::o2 :: .arr 7 [[a,b,c,d,e,f,g]] true n::t)) (o0::o1::o2 :: .arr 7 [[a,b,c,d,e,f,g]] true n::t) k=k .u (o0::o1::o2 :: .arr 7 [[(.s (.int .i64 x)),b,c,d,e,f,g]] true n::t):=Z0L rfl k
theorem Z2i {o0:AObj} {o1:AObj} {o2:AObj} {a b c d e f g:AV} {x:Int} {t:Hp} {n:Bool} (k:AV→Hp→Ent→Option β):effD (stE 1 (.ptr 3 0 0 1) (.s (.int .i64 x)) (o0::o1::o2 :: .arr 7 [[a,b,c,d,e,f,g]] true n::t)) (o0::o1::o2 :: .arr 7 [[a,b,c,d,e,f,g]] true n::t) k=k .u (o0::o1::o2 :: .arr 7 [[(.s (.int .i64 x)),b,c,d,e,f,g]] true n::t) ([3],[3]):=Z0f rfl k
theorem Z2j {o0:AObj} {o1:AObj} {o2:AObj} {a b c d e f g:AV} {t:Hp} {w n:Bool} (k:K β):ldK 1 false (.ptr 3 0 1 1) (o0::o1::o2 :: .arr 7 [[a,b,c,d,e,f,g]] w n::t) k=k b:=rfl
theorem Z2k {o0:AObj} {o1:AObj} {o2:AObj} {a b c d e f g:AV} {x:Int} {t:Hp} {n:Bool} (k:AV→Hp→Option β):effK (stE 1 (.ptr 3 0 1 1) (.s (.int .i64 x)) (o0::o1::o2 :: .arr 7 [[a,b,c,d,e,f,g]] true n::t)) (o0::o1::o2 :: .arr 7 [[a,b,c,d,e,f,g]] true n::t) k=k .u (o0::o1::o2 :: .arr 7 [[a,(.s (.int .i64 x)),c,d,e,f,g]] true n::t):=Z0L rfl k
theorem Z2l {o0:AObj} {o1:AObj} {o2:AObj} {a b c d e f g:AV} {x:Int} {t:Hp} {n:Bool} (k:AV→Hp→Ent→Option β):effD (stE 1 (.ptr 3 0 1 1) (.s (.int .i64 x)) (o0::o1::o2 :: .arr 7 [[a,b,c,d,e,f,g]] true n::t)) (o0::o1::o2 :: .arr 7 [[a,b,c,d,e,f,g]] true n::t) k=k .u (o0::o1::o2 :: .arr 7 [[a,(.s (.int .i64 x)),c,d,e,f,g]] true n::t) ([3],[3]):=Z0f rfl k
theorem Z2m {o0:AObj} {o1:AObj} {o2:AObj} {a b c d e f g:AV} {t:Hp} {w n:Bool} (k:K β):ldK 1 false (.ptr 3 0 2 1) (o0::o1::o2 :: .arr 7 [[a,b,c,d,e,f,g]] w n::t) k=k c:=rfl
theorem Z2n {o0:AObj} {o1:AObj} {o2:AObj} {a b c d e f g:AV} {x:Int} {t:Hp} {n:Bool} (k:AV→Hp→Option β):effK (stE 1 (.ptr 3 0 2 1) (.s (.int .i64 x)) (o0::o1::o2 :: .arr 7 [[a,b,c,d,e,f,g]] true n::t)) (o0::o1::o2 :: .arr 7 [[a,b,c,d,e,f,g]] true n::t) k=k .u (o0::o1::o2 :: .arr 7 [[a,b,(.s (.int .i64 x)),d,e,f,g]] true n::t):=Z0L rfl k
theorem Z2o {o0:AObj} {o1:AObj} {o2:AObj} {a b c d e f g:AV} {x:Int} {t:Hp} {n:Bool} (k:AV→Hp→Ent→Option β):effD (stE 1 (.ptr 3 0 2 1) (.s (.int .i64 x)) (o0::o1::o2 :: .arr 7 [[a,b,c,d,e,f,g]] true n::t)) (o0::o1::o2 :: .arr 7 [[a,b,c,d,e,f,g]] true n::t) k=k .u (o0::o1::o2 :: .arr 7 [[a,b,(.s (.int .i64 x)),d,e,f,g]] true n::t) ([3],[3]):=Z0f rfl k
theorem Z2p {o0:AObj} {o1:AObj} {o2:AObj} {a b c d e f g:AV} {t:Hp} {w n:Bool} (k:K β):ldK 1 false (.ptr 3 0 3 1) (o0::o1::o2 :: .arr 7 [[a,b,c,d,e,f,g]] w n::t) k=k d:=rfl
theorem Z2q {o0:AObj} {o1:AObj} {o2:AObj} {a b c d e f g:AV} {x:Int} {t:Hp} {n:Bool} (k:AV→Hp→Option β):effK (stE 1 (.ptr 3 0 3 1) (.s (.int .i64 x)) (o0::o1::o2 :: .arr 7 [[a,b,c,d,e,f,g]] true n::t)) (o0::o1::o2 :: .arr 7 [[a,b,c,d,e,f,g]] true n::t) k=k .u (o0::o1::o2 :: .arr 7 [[a,b,c,(.s (.int .i64 x)),e,f,g]] true n::t):=Z0L rfl k
theorem Z2r {o0:AObj} {o1:AObj} {o2:AObj} {a b c d e f g:AV} {x:Int} {t:Hp} {n:Bool} (k:AV→Hp→Ent→Option β):effD (stE 1 (.ptr 3 0 3 1) (.s (.int .i64 x)) (o0::o1::o2 :: .arr 7 [[a,b,c,d,e,f,g]] true n::t)) (o0::o1::o2 :: .arr 7 [[a,b,c,d,e,f,g]] true n::t) k=k .u (o0::o1::o2 :: .arr 7 [[a,b,c,(.s (.int .i64 x)),e,f,g]] true n::t) ([3],[3]):=Z0f rfl k
theorem Z2s {o0:AObj} {o1:AObj} {o2:AObj} {a b c d e f g:AV} {t:Hp} {w n:Bool} (k:K β):ldK 1 false (.ptr 3 0 4 1) (o0::o1::o2 :: .arr 7 [[a,b,c,d,e,f,g]] w n::t) k=k e:=rfl
theorem Z2t {o0:AObj} {o1:AObj} {o2:AObj} {a b c d e f g:AV} {x:Int} {t:Hp} {n:Bool} (k:AV→Hp→Option β):effK (stE 1 (.ptr 3 0 4 1) (.s (.int .i64 x)) (o0::o1::o2 :: .arr 7 [[a,b,c,d,e,f,g]] true n::t)) (o0::o1::o2 :: .arr 7 [[a,b,c,d,e,f,g]] true n::t) k=k .u (o0::o1::o2 :: .arr 7 [[a,b,c,d,(.s (.int .i64 x)),f,g]] true n::t):=Z0L rfl k
theorem Z2u {o0:AObj} {o1:AObj} {o2:AObj} {a b c d e f g:AV} {x:Int} {t:Hp} {n:Bool} (k:AV→Hp→Ent→Option β):effD (stE 1 (.ptr 3 0 4 1) (.s (.int .i64 x)) (o0::o1::o2 :: .arr 7 [[a,b,c,d,e,f,g]] true n::t)) (o0::o1::o2 :: .arr 7 [[a,b,c,d,e,f,g]] true n::t) k=k .u (o0::o1::o2 :: .arr 7 [[a,b,c,d,(.s (.int .i64 x)),f,g]] true n::t) ([3],[3]):=Z0f rfl k
theorem Z2v {o0:AObj} {o1:AObj} {o2:AObj} {a b c d e f g:AV} {t:Hp} {w n:Bool} (k:K β):ldK 1 false (.ptr 3 0 5 1) (o0::o1::o2 :: .arr 7 [[a,b,c,d,e,f,g]] w n::t) k=k f:=rfl
theorem Z2w {o0:AObj} {o1:AObj} {o2:AObj} {a b c d e f g:AV} {x:Int} {t:Hp} {n:Bool} (k:AV→Hp→Option β):effK (stE 1 (.ptr 3 0 5 1) (.s (.int .i64 x)) (o0::o1::o2 :: .arr 7 [[a,b,c,d,e,f,g]] true n::t)) (o0::o1::o2 :: .arr 7 [[a,b,c,d,e,f,g]] true n::t) k=k .u (o0::o1::o2 :: .arr 7 [[a,b,c,d,e,(.s (.int .i64 x)),g]] true n::t):=Z0L rfl k
theorem Z2x {o0:AObj} {o1:AObj} {o2:AObj} {a b c d e f g:AV} {x:Int} {t:Hp} {n:Bool} (k:AV→Hp→Ent→Option β):effD (stE 1 (.ptr 3 0 5 1) (.s (.int .i64 x)) (o0::o1::o2 :: .arr 7 [[a,b,c,d,e,f,g]] true n::t)) (o0::o1::o2 :: .arr 7 [[a,b,c,d,e,f,g]] true n::t) k=k .u (o0::o1::o2 :: .arr 7 [[a,b,c,d,e,(.s (.int .i64 x)),g]] true n::t) ([3],[3]):=Z0f rfl k
theorem Z2y {o0:AObj} {o1:AObj} {o2:AObj} {a b c d e f g:AV} {t:Hp} {w n:Bool} (k:K β):ldK 1 false (.ptr 3 0 6 1) (o0::o1::o2 :: .arr 7 [[a,b,c,d,e,f,g]] w n::t) k=k g:=rfl
theorem Z2z {o0:AObj} {o1:AObj} {o2:AObj} {a b c d e f g:AV} {x:Int} {t:Hp} {n:Bool} (k:AV→Hp→Option β):effK (stE 1 (.ptr 3 0 6 1) (.s (.int .i64 x)) (o0::o1::o2 :: .arr 7 [[a,b,c,d,e,f,g]] true n::t)) (o0::o1::o2 :: .arr 7 [[a,b,c,d,e,f,g]] true n::t) k=k .u (o0::o1::o2 :: .arr 7 [[a,b,c,d,e,f,(.s (.int .i64 x))]] true n::t):=Z0L rfl k
theorem Z2A {o0:AObj} {o1:AObj} {o2:AObj} {a b c d e f g:AV} {x:Int} {t:Hp} {n:Bool} (k:AV→Hp→Ent→Option β):effD (stE 1 (.ptr 3 0 6 1) (.s (.int .i64 x)) (o0::o1::o2 :: .arr 7 [[a,b,c,d,e,f,g]] true n::t)) (o0::o1::o2 :: .arr 7 [[a,b,c,d,e,f,g]] true n::t) k=k .u (o0::o1::o2 :: .arr 7 [[a,b,c,d,e,f,(.s (.int .i64 x))]] true n::t) ([3],[3]):=Z0f rfl k
theorem lw7_3 {o0:AObj} {o1:AObj} {o2:AObj} {a b c d e f g:AV} {t:Hp} {w n:Bool} (k:K β):ldK 7 true (.ptr 3 0 0 1) (o0::o1::o2 :: .arr 7 [[a,b,c,d,e,f,g]] w n::t) k=k (.agg [a,b,c,d,e,f,g]):=rfl
theorem ew7_3 {o0:AObj} {o1:AObj} {o2:AObj} {a b c d e f g:AV} {x0 x1 x2 x3 x4 x5 x6:Int} {t:Hp} {n:Bool} (k:AV→Hp→Option β):effK (stE 7 (.ptr 3 0 0 1) (.agg [(.s (.int .i64 x0)),(.s (.int .i64 x1)),(.s (.int .i64 x2)),(.s (.int .i64 x3)),(.s (.int .i64 x4)),(.s (.int .i64 x5)),(.s (.int .i64 x6))]) (o0::o1::o2 :: .arr 7 [[a,b,c,d,e,f,g]] true n::t)) (o0::o1::o2 :: .arr 7 [[a,b,c,d,e,f,g]] true n::t) k=k .u (o0::o1::o2 :: .arr 7 [[(.s (.int .i64 x0)),(.s (.int .i64 x1)),(.s (.int .i64 x2)),(.s (.int .i64 x3)),(.s (.int .i64 x4)),(.s (.int .i64 x5)),(.s (.int .i64 x6))]] true n::t):=Z0L rfl k
theorem bx7_3 {o0:AObj} {o1:AObj} {o2:AObj} {x0 x1 x2 x3 x4 x5 x6:Int} (k:AV→Hp→Option β):effK (boxE 7 (.agg [(.s (.int .i64 x0)),(.s (.int .i64 x1)),(.s (.int .i64 x2)),(.s (.int .i64 x3)),(.s (.int .i64 x4)),(.s (.int .i64 x5)),(.s (.int .i64 x6))]) ([o0,o1,o2]:Hp).length) [o0,o1,o2] k=k (.ptr 3 0 0 1) [o0,o1,o2, .arr 7 [[(.s (.int .i64 x0)),(.s (.int .i64 x1)),(.s (.int .i64 x2)),(.s (.int .i64 x3)),(.s (.int .i64 x4)),(.s (.int .i64 x5)),(.s (.int .i64 x6))]] true false]:=rfl
end
abbrev SLm (b:Bool) (l:List Msg):AV := .lst 7 (b&&l.isEmpty) (l.map encM)
end Go.AM


namespace Go.AM
set_option linter.unusedVariables false
variable {β:Type}
theorem Z0j {op:BinOp} {x:AV} {y:AV} {k:K β} {x':AV} {y':AV} (e_x:x=x') (e_y:y=y'):arithK op x y k=arithK op x' y' k:=by subst e_x e_y;rfl
theorem Z0k {P:Program} {neq:Bool} {ty:TypeId} {x:AV} {y:AV} {h:Hp} {k:K β} {x':AV} {y':AV} {h':Hp} (e_x:x=x') (e_y:y=y') (e_h:h=h'):eqK P neq ty x y h k=eqK P neq ty x' y' h' k:=by subst e_x e_y e_h;rfl
theorem Z0l {x:AV} {k:K β} {x':AV} (e_x:x=x'):notK x k=notK x' k:=by subst e_x;rfl
theorem Z0m {P:Program} {a:TypeId} {b:TypeId} {x:AV} {k:K β} {x':AV} (e_x:x=x'):convK P a b x k=convK P a b x' k:=by subst e_x;rfl
theorem Z0n {c:AV} {a:AV} {b:AV} {k:K β} {c':AV} {a':AV} {b':AV} (e_c:c=c') (e_a:a=a') (e_b:b=b'):pickK c a b k=pickK c' a' b' k:=by subst e_c e_a e_b;rfl
theorem Z0o {z:List AV} {parts:List (Option (Nat × Nat) × AV)} {k:K β} {z':List AV} (e_z:z=z'):buildK z parts k=buildK z' parts k:=by subst e_z;rfl
theorem Z0p {n:Nat} {agg:Bool} {p:AV} {h:Hp} {k:K β} {p':AV} {h':Hp} (e_p:p=p') (e_h:h=h'):ldK n agg p h k=ldK n agg p' h' k:=by subst e_p e_h;rfl
theorem Z0q {x:AV} {k:K β} {x':AV} (e_x:x=x'):nilK x k=nilK x' k:=by subst e_x;rfl
theorem Z0r {n:Nat} {x:AV} {lo:Option AV} {hi:Option AV} {mx:Option AV} {k:K β} {x':AV} (e_x:x=x'):sliceK n x lo hi mx k=sliceK n x' lo hi mx k:=by subst e_x;rfl
theorem Z0s {off:Nat} {p:AV} {k:K β} {p':AV} (e_p:p=p'):faK off p k=faK off p' k:=by subst e_p;rfl
theorem Z0t {n:Nat} {agg:Bool} {off:Nat} {x:AV} {k:K β} {x':AV} (e_x:x=x'):fldK n agg off x k=fldK n agg off x' k:=by subst e_x;rfl
theorem Z0u {n:Nat} {x:AV} {i:AV} {k:K β} {x':AV} {i':AV} (e_x:x=x') (e_i:i=i'):iaK n x i k=iaK n x' i' k:=by subst e_x e_i;rfl
theorem Z0v {n:Nat} {len:Nat} {x:AV} {i:AV} {k:K β} {x':AV} {i':AV} (e_x:x=x') (e_i:i=i'):iaA n len x i k=iaA n len x' i' k:=by subst e_x e_i;rfl
theorem Z0w {P:Program} {kt:TypeId} {z:AV} {ok:Bool} {m:AV} {kk:AV} {h:Hp} {k:K β} {z':AV} {m':AV} {kk':AV} {h':Hp} (e_z:z=z') (e_m:m=m') (e_kk:kk=kk') (e_h:h=h'):lookK P kt z ok m kk h k=lookK P kt z' ok m' kk' h' k:=by subst e_z e_m e_kk e_h;rfl
theorem Z0x {x:AV} {k:K β} {x':AV} (e_x:x=x'):capK x k=capK x' k:=by subst e_x;rfl
theorem Z0y {x:AV} {i:Nat} {k:K β} {x':AV} (e_x:x=x'):exK x i k=exK x' i k:=by subst e_x;rfl
theorem Z0z {x:AV} {k:K β} {x':AV} (e_x:x=x'):lenK x k=lenK x' k:=by subst e_x;rfl
theorem Z0A {x:AV} {y:AV} {k:K β} {x':AV} {y':AV} (e_x:x=x') (e_y:y=y'):minK x y k=minK x' y' k:=by subst e_x e_y;rfl
theorem Z0B {x:AV} {y:AV} {k:K β} {x':AV} {y':AV} (e_x:x=x') (e_y:y=y'):maxK x y k=maxK x' y' k:=by subst e_x e_y;rfl
theorem Z0C {r:R} {h:Hp} {k:AV→Hp→Option β} {r':R} {h':Hp} (e_r:r=r') (e_h:h=h'):effK r h k=effK r' h' k:=by subst e_r e_h;rfl
theorem Z0D {F:Option Fun} {args:List AV} {h:Hp} {k:AV→Hp→Option β} {F':Option Fun} {args':List AV} {h':Hp} (e_F:F=F') (e_args:args=args') (e_h:h=h'):callK F args h k=callK F' args' h' k:=by subst e_F e_args e_h;rfl
theorem Z0E {T:Tab} {f:AV} {args:List AV} {h:Hp} {k:AV→Hp→Option β} {T':Tab} {f':AV} {args':List AV} {h':Hp} (e_T:T=T') (e_f:f=f') (e_args:args=args') (e_h:h=h'):callVK T f args h k=callVK T' f' args' h' k:=by subst e_T e_f e_args e_h;rfl
theorem Z0F {r:R} {h:Hp} {k:AV→Hp→Ent→Option β} {r':R} {h':Hp} (e_r:r=r') (e_h:h=h'):effD r h k=effD r' h' k:=by subst e_r e_h;rfl
theorem Z0G {g:Option Bool} {h:Hp} {run:(AV→Hp→Ent→Option β)→Option β} {k:AV→Hp→Ent→Option β} {g':Option Bool} {h':Hp} (e_g:g=g') (e_h:h=h'):gopD g h run k=gopD g' h' run k:=by subst e_g e_h;rfl
theorem Z0H {want:Bool} {x:AV} {h:Hp} {run:(AV→Hp→Option β)→Option β} {k:AV→Hp→Option β} {x':AV} {h':Hp} {run':(AV→Hp→Option β)→Option β} (e_x:x=x') (e_h:h=h') (e_run:∀K,run K=run' K):grpK want x h run k=grpK want x' h' run' k:=by
 have:run=run':=funext e_run
 subst e_x e_h this;rfl
theorem Z0I {c:AV} {a:Option β} {b:Option β} {c':AV} (e_c:c=c'):condK c a b=condK c' a b:=by subst e_c;rfl
theorem Z0J {α:Type} {c c':Bool} {a b:α} (e:c=c'):cond c a b=cond c' a b:=by subst e;rfl
end Go.AM


namespace Go.AM
open Go.Proofs
set_option linter.unusedVariables false
set_option linter.unusedSimpArgs false
set_option linter.constructorNameAsVariable false
set_option maxRecDepth 20000
attribute [local congr] Z0j Z0k Z0l Z0m Z0n Z0o Z0p Z0q Z0r Z0s Z0t Z0u Z0v Z0w Z0x Z0y Z0z Z0A Z0B Z0C Z0D Z0E Z0F Z0G Z0H Z0I Z0J
def isNode (n:Int):Bool:=decide (1≤n)&&decide (n≤99)
def formM (m:Msg):Bool:=
 if m.kind=1 then m.num==0&&isNode m.frm&&isNode m.to&&m.frm != m.to&&decide (1≤m.alc)&&decide (m.alc≤10737418240000)
 else if m.kind=2 then decide (1≤m.num)&&decide (m.num≤64)&&m.frm==0&&isNode m.to&&m.alc==0
 else if m.kind=3 then m.num==0&&m.frm==0&&m.to==0&&decide (0≤m.alc)&&decide (m.alc≤10737418240000)
 else m.num==0&&m.frm==0&&m.to==0&&m.alc==0
def rangeM (m:Msg):Bool:=decide (m.mv<1)||decide (1073741824<m.mv)||decide (m.kind<1)||decide (5<m.kind)||decide (m.day<0)||decide (100000<m.day)
def checkM (m:Msg):Int:=if rangeM m=true then 2 else if formM m=true then 0 else 1
theorem ZhH (n:Int) (h:Hp):Z7P [I n] h=some (B (isNode n),h):=Zp2 rfl (by simp [Za6,isNode]) h
theorem Z5i (n:Int) (h:Hp):Z2Y [I n] h=some (B (isNode n),h):=Ztr rfl (by simp [Z9m,isNode]) h
theorem Zdl (m:Msg) (h:Hp):Z35 [.agg (encM m)] h=some (I (checkM m),h):=by
 refine Zp7 (by simp [encM]) ?_ h
 obtain ⟨mv,kind,num,day,frm,to,alc⟩:=m
 obtain ⟨r,hr⟩:∃r,rangeM ⟨mv,kind,num,day,frm,to,alc⟩=r:=⟨_,rfl⟩
 have hr':=hr
 simp only [rangeM] at hr'
 simp only [checkM,hr]
 have b0:∀k:Go.AM.K AV,buildK [I 0,I 0,I 0,I 0,I 0,I 0,I 0] [(some (0,1),I mv),(some (1,1),I kind),(some (3,1),I day)] k=k (.agg [I mv,I kind,I 0,I day,I 0,I 0,I 0]):=fun k=>rfl
 simp only [Z9J,encM,encDo,Z06,Z15,Nat.zero_add,Nat.add_zero,Nat.reduceAdd,Z1f,Z1g,Z1h,Z1i,Z1j,Z1k,Z1l,Z1m,Z1n,Z1o,Z1p,Z1q,Z1r,Z1s,Z1t,Z1u,Z1v,Z1w,Z1x,Z1y,Z1z,lw7_0,ew7_0,bx7_0,Z1A,Z1B,Z1C,Z1D,Z1E,Z1F,Z1G,Z1H,Z1I,Z1J,Z1K,Z1L,Z1M,Z1N,Z1O,Z1P,Z1Q,Z1R,Z1S,Z1T,Z1U,lw7_1,ew7_1,bx7_1,Z1V,Z1W,Z1X,Z1Y,Z1Z,Z20,Z21,Z22,Z23,Z24,Z25,Z26,Z27,Z28,Z29,Z2a,Z2b,Z2c,Z2d,Z2e,Z2f,lw7_2,ew7_2,bx7_2,Z2g,Z2h,Z2i,Z2j,Z2k,Z2l,Z2m,Z2n,Z2o,Z2p,Z2q,Z2r,Z2s,Z2t,Z2u,Z2v,Z2w,Z2x,Z2y,Z2z,Z2A,lw7_3,ew7_3,bx7_3,Z16,Z05,Z0Y,Z0e,Z0R,Z0h,Z0N,Z00,Z04,Z0g,Bool.false_xor,Bool.true_xor,Z02,Z13,Z0a,Z0O,Z14,List.length_map,hr',b0]
 have n1:=ZhH frm
 have n2:=ZhH to
 clear hr hr'
 cases r with
 | true=>rfl
 | false=>
  by_cases k1:kind=1
  ·subst k1
   simp only [if_true,Bool.false_eq_true,if_false,beq_self_eq_true,ZcU,Z02,Z4a,Z7k,n1,n2,encM,encDo,Z06,Z15,Nat.zero_add,Nat.add_zero,Nat.reduceAdd,Z1f,Z1g,Z1h,Z1i,Z1j,Z1k,Z1l,Z1m,Z1n,Z1o,Z1p,Z1q,Z1r,Z1s,Z1t,Z1u,Z1v,Z1w,Z1x,Z1y,Z1z,lw7_0,ew7_0,bx7_0,Z1A,Z1B,Z1C,Z1D,Z1E,Z1F,Z1G,Z1H,Z1I,Z1J,Z1K,Z1L,Z1M,Z1N,Z1O,Z1P,Z1Q,Z1R,Z1S,Z1T,Z1U,lw7_1,ew7_1,bx7_1,Z1V,Z1W,Z1X,Z1Y,Z1Z,Z20,Z21,Z22,Z23,Z24,Z25,Z26,Z27,Z28,Z29,Z2a,Z2b,Z2c,Z2d,Z2e,Z2f,lw7_2,ew7_2,bx7_2,Z2g,Z2h,Z2i,Z2j,Z2k,Z2l,Z2m,Z2n,Z2o,Z2p,Z2q,Z2r,Z2s,Z2t,Z2u,Z2v,Z2w,Z2x,Z2y,Z2z,Z2A,lw7_3,ew7_3,bx7_3,Z16,Z05,Z0Y,Z0e,Z0R,Z0h,Z0N,Z00,Z04,Z0g,Bool.false_xor,Bool.true_xor,Z02,Z13,Z0a,Z0O,Z14,List.length_map,formM,show (disjAll [(3,7),(5,7),(5,9)] [([],[]),(idsOf (AV.ptr 0 0 4 1),[]),([],[]),(idsOf (AV.ptr 0 0 5 1),[]),([],[]),(idsOf (AV.ptr 0 0 6 1),[]),([],[]),([1],[1]),([],[]),([1],[1]),([],[]),([1],[1])])=true from rfl,cond_true,Z6W]
   clear n1 n2 b0
   by_cases h1:num=0
   ·subst h1
    simp only [beq_self_eq_true,Bool.true_and,Bool.and_self,Bool.not_true,Bool.or_false,show (frm != to) = !(frm==to) from rfl]
    generalize (isNode frm&&isNode to && !(frm==to)&&decide (1≤alc)&&decide (alc≤10737418240000))=e
    cases e<;>rfl
   ·simp [h1]
  by_cases k2:kind=2
  ·subst k2
   simp only [if_true,Bool.false_eq_true,if_false,beq_self_eq_true,ZcU,Z02,Z4a,Z7k,n1,n2,encM,encDo,Z06,Z15,Nat.zero_add,Nat.add_zero,Nat.reduceAdd,Z1f,Z1g,Z1h,Z1i,Z1j,Z1k,Z1l,Z1m,Z1n,Z1o,Z1p,Z1q,Z1r,Z1s,Z1t,Z1u,Z1v,Z1w,Z1x,Z1y,Z1z,lw7_0,ew7_0,bx7_0,Z1A,Z1B,Z1C,Z1D,Z1E,Z1F,Z1G,Z1H,Z1I,Z1J,Z1K,Z1L,Z1M,Z1N,Z1O,Z1P,Z1Q,Z1R,Z1S,Z1T,Z1U,lw7_1,ew7_1,bx7_1,Z1V,Z1W,Z1X,Z1Y,Z1Z,Z20,Z21,Z22,Z23,Z24,Z25,Z26,Z27,Z28,Z29,Z2a,Z2b,Z2c,Z2d,Z2e,Z2f,lw7_2,ew7_2,bx7_2,Z2g,Z2h,Z2i,Z2j,Z2k,Z2l,Z2m,Z2n,Z2o,Z2p,Z2q,Z2r,Z2s,Z2t,Z2u,Z2v,Z2w,Z2x,Z2y,Z2z,Z2A,lw7_3,ew7_3,bx7_3,Z16,Z05,Z0Y,Z0e,Z0R,Z0h,Z0N,Z00,Z04,Z0g,Bool.false_xor,Bool.true_xor,Z02,Z13,Z0a,Z0O,Z14,List.length_map,formM,show (disjAll [(3,5)] [([],[]),(idsOf (AV.ptr 0 0 2 1),[]),([],[]),(idsOf (AV.ptr 0 0 5 1),[]),([],[]),([1],[1]),([],[]),([1],[1])])=true from rfl,cond_true,Z6W,show ((2:Int)==1)=false from rfl,show ¬((2:Int)=1) by decide]
   clear n1 n2 b0
   by_cases h1:frm=0
   ·by_cases h2:alc=0
    ·subst h1 h2
     simp only [beq_self_eq_true,Bool.true_and,Bool.and_true,Bool.not_true,Bool.or_false]
     generalize (decide (1≤num)&&decide (num≤64)&&isNode to)=e
     cases e<;>rfl
    ·simp [h1,h2]
   ·simp [h1]
  by_cases k3:kind=3
  ·subst k3
   simp only [if_true,Bool.false_eq_true,if_false,beq_self_eq_true,ZcU,Z02,Z4a,Z7k,n1,n2,encM,encDo,Z06,Z15,Nat.zero_add,Nat.add_zero,Nat.reduceAdd,Z1f,Z1g,Z1h,Z1i,Z1j,Z1k,Z1l,Z1m,Z1n,Z1o,Z1p,Z1q,Z1r,Z1s,Z1t,Z1u,Z1v,Z1w,Z1x,Z1y,Z1z,lw7_0,ew7_0,bx7_0,Z1A,Z1B,Z1C,Z1D,Z1E,Z1F,Z1G,Z1H,Z1I,Z1J,Z1K,Z1L,Z1M,Z1N,Z1O,Z1P,Z1Q,Z1R,Z1S,Z1T,Z1U,lw7_1,ew7_1,bx7_1,Z1V,Z1W,Z1X,Z1Y,Z1Z,Z20,Z21,Z22,Z23,Z24,Z25,Z26,Z27,Z28,Z29,Z2a,Z2b,Z2c,Z2d,Z2e,Z2f,lw7_2,ew7_2,bx7_2,Z2g,Z2h,Z2i,Z2j,Z2k,Z2l,Z2m,Z2n,Z2o,Z2p,Z2q,Z2r,Z2s,Z2t,Z2u,Z2v,Z2w,Z2x,Z2y,Z2z,Z2A,lw7_3,ew7_3,bx7_3,Z16,Z05,Z0Y,Z0e,Z0R,Z0h,Z0N,Z00,Z04,Z0g,Bool.false_xor,Bool.true_xor,Z02,Z13,Z0a,Z0O,Z14,List.length_map,formM,Z6W,show ((3:Int)==1)=false from rfl,show ((3:Int)==2)=false from rfl,show ¬((3:Int)=1) by decide,show ¬((3:Int)=2) by decide]
   clear n1 n2 b0
   generalize hE:(decide (0≤alc)&&decide (alc≤10737418240000))=e
   have hA:∀x:Bool,(x&&decide (0≤alc)&&decide (alc≤10737418240000))=(x&&e):=fun x=>by rw [Bool.and_assoc,hE]
   rw [hA]
   by_cases h1:num=0<;>by_cases h2:frm=0<;>by_cases h3:to=0<;>simp [h1,h2,h3]<;>cases e<;>simp
  ·have e1:(kind==1)=false:=by simpa using k1
   have e2:(kind==2)=false:=by simpa using k2
   have e3:(kind==3)=false:=by simpa using k3
   simp only [if_true,Bool.false_eq_true,if_false,beq_self_eq_true,Z4a,Z7k,encM,encDo,Z06,Z15,Nat.zero_add,Nat.add_zero,Nat.reduceAdd,Z1f,Z1g,Z1h,Z1i,Z1j,Z1k,Z1l,Z1m,Z1n,Z1o,Z1p,Z1q,Z1r,Z1s,Z1t,Z1u,Z1v,Z1w,Z1x,Z1y,Z1z,lw7_0,ew7_0,bx7_0,Z1A,Z1B,Z1C,Z1D,Z1E,Z1F,Z1G,Z1H,Z1I,Z1J,Z1K,Z1L,Z1M,Z1N,Z1O,Z1P,Z1Q,Z1R,Z1S,Z1T,Z1U,lw7_1,ew7_1,bx7_1,Z1V,Z1W,Z1X,Z1Y,Z1Z,Z20,Z21,Z22,Z23,Z24,Z25,Z26,Z27,Z28,Z29,Z2a,Z2b,Z2c,Z2d,Z2e,Z2f,lw7_2,ew7_2,bx7_2,Z2g,Z2h,Z2i,Z2j,Z2k,Z2l,Z2m,Z2n,Z2o,Z2p,Z2q,Z2r,Z2s,Z2t,Z2u,Z2v,Z2w,Z2x,Z2y,Z2z,Z2A,lw7_3,ew7_3,bx7_3,Z16,Z05,Z0Y,Z0e,Z0R,Z0h,Z0N,Z00,Z04,Z0g,Bool.false_xor,Bool.true_xor,Z02,Z13,Z0a,Z0O,Z14,List.length_map,formM,Z6W,e1,e2,e3,k1,k2,k3]
   clear n1 n2 b0
   by_cases h1:num=0<;>by_cases h2:frm=0<;>by_cases h3:to=0<;>by_cases h4:alc=0<;>simp [h1,h2,h3,h4]
theorem ZhI (m:Msg) (h:Hp):Z4E [.agg (encM m)] h=some (I (checkM m),h):=by
 refine ZtG (by simp [encM]) ?_ h
 obtain ⟨mv,kind,num,day,frm,to,alc⟩:=m
 obtain ⟨r,hr⟩:∃r,rangeM ⟨mv,kind,num,day,frm,to,alc⟩=r:=⟨_,rfl⟩
 have hr':=hr
 simp only [rangeM] at hr'
 simp only [checkM,hr]
 simp only [Z9T,encM,encDo,Z06,Z15,Nat.zero_add,Nat.add_zero,Nat.reduceAdd,Z1f,Z1g,Z1h,Z1i,Z1j,Z1k,Z1l,Z1m,Z1n,Z1o,Z1p,Z1q,Z1r,Z1s,Z1t,Z1u,Z1v,Z1w,Z1x,Z1y,Z1z,lw7_0,ew7_0,bx7_0,Z1A,Z1B,Z1C,Z1D,Z1E,Z1F,Z1G,Z1H,Z1I,Z1J,Z1K,Z1L,Z1M,Z1N,Z1O,Z1P,Z1Q,Z1R,Z1S,Z1T,Z1U,lw7_1,ew7_1,bx7_1,Z1V,Z1W,Z1X,Z1Y,Z1Z,Z20,Z21,Z22,Z23,Z24,Z25,Z26,Z27,Z28,Z29,Z2a,Z2b,Z2c,Z2d,Z2e,Z2f,lw7_2,ew7_2,bx7_2,Z2g,Z2h,Z2i,Z2j,Z2k,Z2l,Z2m,Z2n,Z2o,Z2p,Z2q,Z2r,Z2s,Z2t,Z2u,Z2v,Z2w,Z2x,Z2y,Z2z,Z2A,lw7_3,ew7_3,bx7_3,Z16,Z05,Z0Y,Z0e,Z0R,Z0h,Z0N,Z00,Z04,Z0g,Bool.false_xor,Bool.true_xor,Z02,Z13,Z0a,Z0O,Z14,List.length_map,hr']
 have n1:=Z5i frm
 have n2:=Z5i to
 clear hr hr'
 cases r with
 | true=>rfl
 | false=>
  by_cases k1:kind=1
  ·subst k1
   simp only [if_true,Bool.false_eq_true,if_false,beq_self_eq_true,Zhu,Z02,Z4h,Z7r,n1,n2,encM,encDo,Z06,Z15,Nat.zero_add,Nat.add_zero,Nat.reduceAdd,Z1f,Z1g,Z1h,Z1i,Z1j,Z1k,Z1l,Z1m,Z1n,Z1o,Z1p,Z1q,Z1r,Z1s,Z1t,Z1u,Z1v,Z1w,Z1x,Z1y,Z1z,lw7_0,ew7_0,bx7_0,Z1A,Z1B,Z1C,Z1D,Z1E,Z1F,Z1G,Z1H,Z1I,Z1J,Z1K,Z1L,Z1M,Z1N,Z1O,Z1P,Z1Q,Z1R,Z1S,Z1T,Z1U,lw7_1,ew7_1,bx7_1,Z1V,Z1W,Z1X,Z1Y,Z1Z,Z20,Z21,Z22,Z23,Z24,Z25,Z26,Z27,Z28,Z29,Z2a,Z2b,Z2c,Z2d,Z2e,Z2f,lw7_2,ew7_2,bx7_2,Z2g,Z2h,Z2i,Z2j,Z2k,Z2l,Z2m,Z2n,Z2o,Z2p,Z2q,Z2r,Z2s,Z2t,Z2u,Z2v,Z2w,Z2x,Z2y,Z2z,Z2A,lw7_3,ew7_3,bx7_3,Z16,Z05,Z0Y,Z0e,Z0R,Z0h,Z0N,Z00,Z04,Z0g,Bool.false_xor,Bool.true_xor,Z02,Z13,Z0a,Z0O,Z14,List.length_map,formM]
   clear n1 n2
   rw [show (frm != to) = !(frm==to) from rfl]
   generalize (num==0&&isNode frm&&isNode to && !(frm==to)&&decide (1≤alc)&&decide (alc≤10737418240000))=e
   cases e<;>rfl
  by_cases k2:kind=2
  ·subst k2
   simp only [if_true,Bool.false_eq_true,if_false,beq_self_eq_true,Zhu,Z02,Z4h,Z7r,n1,n2,encM,encDo,Z06,Z15,Nat.zero_add,Nat.add_zero,Nat.reduceAdd,Z1f,Z1g,Z1h,Z1i,Z1j,Z1k,Z1l,Z1m,Z1n,Z1o,Z1p,Z1q,Z1r,Z1s,Z1t,Z1u,Z1v,Z1w,Z1x,Z1y,Z1z,lw7_0,ew7_0,bx7_0,Z1A,Z1B,Z1C,Z1D,Z1E,Z1F,Z1G,Z1H,Z1I,Z1J,Z1K,Z1L,Z1M,Z1N,Z1O,Z1P,Z1Q,Z1R,Z1S,Z1T,Z1U,lw7_1,ew7_1,bx7_1,Z1V,Z1W,Z1X,Z1Y,Z1Z,Z20,Z21,Z22,Z23,Z24,Z25,Z26,Z27,Z28,Z29,Z2a,Z2b,Z2c,Z2d,Z2e,Z2f,lw7_2,ew7_2,bx7_2,Z2g,Z2h,Z2i,Z2j,Z2k,Z2l,Z2m,Z2n,Z2o,Z2p,Z2q,Z2r,Z2s,Z2t,Z2u,Z2v,Z2w,Z2x,Z2y,Z2z,Z2A,lw7_3,ew7_3,bx7_3,Z16,Z05,Z0Y,Z0e,Z0R,Z0h,Z0N,Z00,Z04,Z0g,Bool.false_xor,Bool.true_xor,Z02,Z13,Z0a,Z0O,Z14,List.length_map,formM,show ((2:Int)==1)=false from rfl,show ¬((2:Int)=1) by decide]
   clear n1 n2
   cases (decide (1≤num)&&decide (num≤64)&&frm==0&&isNode to&&alc==0)<;>simp_all
  by_cases k3:kind=3
  ·subst k3
   simp only [if_true,Bool.false_eq_true,if_false,beq_self_eq_true,Z4h,Z7r,encM,encDo,Z06,Z15,Nat.zero_add,Nat.add_zero,Nat.reduceAdd,Z1f,Z1g,Z1h,Z1i,Z1j,Z1k,Z1l,Z1m,Z1n,Z1o,Z1p,Z1q,Z1r,Z1s,Z1t,Z1u,Z1v,Z1w,Z1x,Z1y,Z1z,lw7_0,ew7_0,bx7_0,Z1A,Z1B,Z1C,Z1D,Z1E,Z1F,Z1G,Z1H,Z1I,Z1J,Z1K,Z1L,Z1M,Z1N,Z1O,Z1P,Z1Q,Z1R,Z1S,Z1T,Z1U,lw7_1,ew7_1,bx7_1,Z1V,Z1W,Z1X,Z1Y,Z1Z,Z20,Z21,Z22,Z23,Z24,Z25,Z26,Z27,Z28,Z29,Z2a,Z2b,Z2c,Z2d,Z2e,Z2f,lw7_2,ew7_2,bx7_2,Z2g,Z2h,Z2i,Z2j,Z2k,Z2l,Z2m,Z2n,Z2o,Z2p,Z2q,Z2r,Z2s,Z2t,Z2u,Z2v,Z2w,Z2x,Z2y,Z2z,Z2A,lw7_3,ew7_3,bx7_3,Z16,Z05,Z0Y,Z0e,Z0R,Z0h,Z0N,Z00,Z04,Z0g,Bool.false_xor,Bool.true_xor,Z02,Z13,Z0a,Z0O,Z14,List.length_map,formM,show ((3:Int)==1)=false from rfl,show ((3:Int)==2)=false from rfl,show ¬((3:Int)=1) by decide,show ¬((3:Int)=2) by decide]
   cases (num==0&&frm==0&&to==0&&decide (0≤alc)&&decide (alc≤10737418240000))<;>simp_all
  ·have e1:(kind==1)=false:=by simpa using k1
   have e2:(kind==2)=false:=by simpa using k2
   have e3:(kind==3)=false:=by simpa using k3
   simp only [if_true,Bool.false_eq_true,if_false,beq_self_eq_true,Z4h,Z7r,encM,encDo,Z06,Z15,Nat.zero_add,Nat.add_zero,Nat.reduceAdd,Z1f,Z1g,Z1h,Z1i,Z1j,Z1k,Z1l,Z1m,Z1n,Z1o,Z1p,Z1q,Z1r,Z1s,Z1t,Z1u,Z1v,Z1w,Z1x,Z1y,Z1z,lw7_0,ew7_0,bx7_0,Z1A,Z1B,Z1C,Z1D,Z1E,Z1F,Z1G,Z1H,Z1I,Z1J,Z1K,Z1L,Z1M,Z1N,Z1O,Z1P,Z1Q,Z1R,Z1S,Z1T,Z1U,lw7_1,ew7_1,bx7_1,Z1V,Z1W,Z1X,Z1Y,Z1Z,Z20,Z21,Z22,Z23,Z24,Z25,Z26,Z27,Z28,Z29,Z2a,Z2b,Z2c,Z2d,Z2e,Z2f,lw7_2,ew7_2,bx7_2,Z2g,Z2h,Z2i,Z2j,Z2k,Z2l,Z2m,Z2n,Z2o,Z2p,Z2q,Z2r,Z2s,Z2t,Z2u,Z2v,Z2w,Z2x,Z2y,Z2z,Z2A,lw7_3,ew7_3,bx7_3,Z16,Z05,Z0Y,Z0e,Z0R,Z0h,Z0N,Z00,Z04,Z0g,Bool.false_xor,Bool.true_xor,Z02,Z13,Z0a,Z0O,Z14,List.length_map,formM,e1,e2,e3,k1,k2,k3]
   cases (num==0&&frm==0&&to==0&&alc==0)<;>simp_all
def cellsM (m:Msg):List Int:=[m.mv,m.kind,m.num,m.day,m.frm,m.to,m.alc]
def cmpZ (a b:Int):Int:=if a<b then -1 else if b<a then 1 else 0
theorem ZuV (a:Int) (h:Hp):Z7M [I a] h=some (B false,h):=ZoK rfl (by simp [Za7]) h
theorem ZuW (a b:Int) (h:Hp):Z4z [I a,I b] h=some (I (cmpZ a b),h):=by
 refine ZoP rfl ?_ h
 have n1:=ZuV
 by_cases h1:a<b
 ·simp [Z7o,n1,h1,cmpZ]
 ·by_cases h2:b<a<;>simp [Z7o,n1,h1,h2,cmpZ]
theorem ZhJ (a b:Int) (h:Hp) (base:Nat):Z5M [I a,I b] h base=some (I (cmpZ a b),EF []):=(Z30 (ZuW a b h) base).trans (by simp [idss,ids])
def orZ:List Int→Int
 | []=>0
 | a::l=>if a≠0 then a else orZ l
theorem Or_L2 {T:Tab} {D:DTab} {N:Nat} {x0:AV→Hp→Option AV} {xr:AV→Hp→Option AV} {h:Hp} (l:List Int) (b:Bool) (hx:∀z,x0 (I z) h=xr (I z) h) (hl:l.length<1000):∀(n:Nat) (pre post:List Int),l=pre++post→post.length<n→
  Z4e Try.prog T D N x0 xr n (I 0) (.lst 1 b (l.map fun z=>[I z])) (I l.length) (I pre.length) h=xr (I (orZ post)) h:=by
 intro n
 induction n with
 | zero=>intro pre post _ h2;omega
 | succ n ih=>
  intro pre post hc hn
  show Z5F Try.prog T D N (Z4e Try.prog T D N x0 xr n) x0 xr _ _ _ _ h=_
  cases post with
  | nil=>
   have:l=pre:=by simpa using hc
   subst this
   simp only [Z5F,encM,encDo,Z06,Z15,Nat.zero_add,Nat.add_zero,Nat.reduceAdd,Z1f,Z1g,Z1h,Z1i,Z1j,Z1k,Z1l,Z1m,Z1n,Z1o,Z1p,Z1q,Z1r,Z1s,Z1t,Z1u,Z1v,Z1w,Z1x,Z1y,Z1z,lw7_0,ew7_0,bx7_0,Z1A,Z1B,Z1C,Z1D,Z1E,Z1F,Z1G,Z1H,Z1I,Z1J,Z1K,Z1L,Z1M,Z1N,Z1O,Z1P,Z1Q,Z1R,Z1S,Z1T,Z1U,lw7_1,ew7_1,bx7_1,Z1V,Z1W,Z1X,Z1Y,Z1Z,Z20,Z21,Z22,Z23,Z24,Z25,Z26,Z27,Z28,Z29,Z2a,Z2b,Z2c,Z2d,Z2e,Z2f,lw7_2,ew7_2,bx7_2,Z2g,Z2h,Z2i,Z2j,Z2k,Z2l,Z2m,Z2n,Z2o,Z2p,Z2q,Z2r,Z2s,Z2t,Z2u,Z2v,Z2w,Z2x,Z2y,Z2z,Z2A,lw7_3,ew7_3,bx7_3,Z16,Z05,Z0Y,Z0e,Z0R,Z0h,Z0N,Z00,Z04,Z0g,Bool.false_xor,Bool.true_xor,Z02,Z13,Z0a,Z0O,Z14,List.length_map]
   simp [orZ,hx]
  | cons c post=>
   have hi:pre.length<l.length:=by rw [hc];simp
   have hci:l[pre.length]? = some c:=by rw [hc];simp
   have hlt:((pre.length:Int)<(l.length:Int)):=by omega
   have hw:IntKind.i64.wrap ((pre.length:Int)+1)=(((pre++[c]).length:Nat):Int):=by rw [wrap64 (by omega) (by omega)];simp
   have ic:∀k:Go.AM.K AV,iaK 1 (.lst 1 b (l.map fun z=>[I z])) (I pre.length) k=k (.ep [I c] 0):=fun k=>Z0P pre.length rfl hci k
   have step:=ih (pre++[c]) post (by simpa using hc) (by simpa using hn)
   by_cases h0:c=0
   ·simp [Z5F,hlt,ic,h0,hw,orZ] at step ⊢
    exact step
   ·simp [Z5F,hlt,ic,h0,orZ]
theorem Zdm:∀ {n:Nat} {a b:List Int},a.length=n→b.length=n→orZ (List.zipWith cmpZ a b)=lexZ a b
 | 0,a,b,ha,hb=>by rw [List.eq_nil_of_length_eq_zero ha,List.eq_nil_of_length_eq_zero hb];rfl
 | n+1,[],b,ha,hb=>by simp at ha
 | n+1,a::l,[],ha,hb=>by simp at hb
 | n+1,a::l,b::r,ha,hb=>by
  have ih:=Zdm (n:=n) (a:=l) (b:=r) (by simpa using ha) (by simpa using hb)
  simp only [List.zipWith_cons_cons,orZ,lexZ,ih,cmpZ]
  by_cases h1:a<b
  ·simp [h1]
  ·by_cases h2:b<a<;>simp [h1,h2]
end Go.AM


namespace Go.AM
open Go.Proofs
set_option linter.unusedVariables false
set_option linter.unusedSimpArgs false
set_option linter.constructorNameAsVariable false
set_option maxRecDepth 20000
attribute [local congr] Z0j Z0k Z0l Z0m Z0n Z0o Z0p Z0q Z0r Z0s Z0t Z0u Z0v Z0w Z0x Z0y Z0z Z0A Z0B Z0C Z0D Z0E Z0F Z0G Z0H Z0I Z0J
theorem Z4J {β:Type} (v:AV) (ft:List Nat) (h:Hp) (k:AV→Hp→Ent→Option β):effD (some (v,EF ft)) h k=k v h (ft,[]):=by simp [effD,ap,wrOf]
theorem ZhK {β:Type} (v:AV) (o:AObj) (h:Hp) (k:AV→Hp→Ent→Option β):effD (some (v,EN o)) h k=k v (h++[o]) ([],[h.length]):=by simp [effD,ap,wrOf]
theorem ZhL (c:List Int) (hl:c.length<1000) {h:Hp} {id n:Nat} {b:Bool} (hid:h[id]? = some (.arr 1 (c.map fun z=>[I z]) true false)) (hn:c.length=n):Z4y [.sl 1 id 0 n n b] h=some (I (orZ c),h):=by
 subst hn
 refine (ZoE (a0 := .lst 1 false (c.map fun z=>[I z])) ?_ fun st => ?_)
 ·rw [Z2C,Z10 hid (by simp) (by simp) (Z0W fun x=>rfl),Z2B]
 ·have:=Or_L2 (T:=Z5L) (D:=Z5K) (N:=NN) (x0:=fun w7_3 h=>Z9M Try.prog Z5L Z5K NN (fun v g=>cvt st g v) w7_3 h) (xr:=fun w8_2 h=>cvt st h w8_2) (h:=[]) c false (fun z=>rfl) hl NN [] c rfl (by have:=NN_ge;omega)
  simp only [nrm,nrmC,Z7n,Z0a,List.length_map]
  exact this.trans rfl
theorem ZuX (a b:Msg) (h:Hp):Z4Z [.agg (encM a), .agg (encM b)] h=some (I (lexZ (cellsM a) (cellsM b)),h):=by
 refine ZpC (by simp [encM]) ?_ h
 obtain ⟨a0,a1,a2,a3,a4,a5,a6⟩:=a
 obtain ⟨b0,b1,b2,b3,b4,b5,b6⟩:=b
 have g:=ZhJ
 have bs:∀(c0 c1 c2 c3 c4 c5 c6:Int),bsE 1 [.s (.int .i64 0)] 7 [(0,I c0),(1,I c1),(2,I c2),(3,I c3),(4,I c4),(5,I c5),(6,I c6)] ([AObj.arr 7 [[I a0,I a1,I a2,I a3,I a4,I a5,I a6]] true false, .arr 7 [[I b0,I b1,I b2,I b3,I b4,I b5,I b6]] true false]:Hp).length=some (.sl 1 2 0 7 7 true,EN (.arr 1 [[I c0],[I c1],[I c2],[I c3],[I c4],[I c5],[I c6]] true false)):=fun _ _ _ _ _ _ _=>rfl
 have go:∀(c0 c1 c2 c3 c4 c5 c6:Int) (o0 o1:AObj) (base:Nat),Z4W [.sl 1 2 0 7 7 true] [o0,o1, .arr 1 [[I c0],[I c1],[I c2],[I c3],[I c4],[I c5],[I c6]] true false] base=some (I (orZ [c0,c1,c2,c3,c4,c5,c6]),EF [2]):=fun c0 c1 c2 c3 c4 c5 c6 o0 o1 base=>
  (Z30 (ZhL [c0,c1,c2,c3,c4,c5,c6] (by simp) rfl rfl) base).trans rfl
 simp -implicitDefEqProofs only [Z9O,encM,encDo,Z06,Z15,Nat.zero_add,Nat.add_zero,Nat.reduceAdd,Z1f,Z1g,Z1h,Z1i,Z1j,Z1k,Z1l,Z1m,Z1n,Z1o,Z1p,Z1q,Z1r,Z1s,Z1t,Z1u,Z1v,Z1w,Z1x,Z1y,Z1z,lw7_0,ew7_0,bx7_0,Z1A,Z1B,Z1C,Z1D,Z1E,Z1F,Z1G,Z1H,Z1I,Z1J,Z1K,Z1L,Z1M,Z1N,Z1O,Z1P,Z1Q,Z1R,Z1S,Z1T,Z1U,lw7_1,ew7_1,bx7_1,Z1V,Z1W,Z1X,Z1Y,Z1Z,Z20,Z21,Z22,Z23,Z24,Z25,Z26,Z27,Z28,Z29,Z2a,Z2b,Z2c,Z2d,Z2e,Z2f,lw7_2,ew7_2,bx7_2,Z2g,Z2h,Z2i,Z2j,Z2k,Z2l,Z2m,Z2n,Z2o,Z2p,Z2q,Z2r,Z2s,Z2t,Z2u,Z2v,Z2w,Z2x,Z2y,Z2z,Z2A,lw7_3,ew7_3,bx7_3,Z16,Z05,Z0Y,Z0e,Z0R,Z0h,Z0N,Z00,Z04,Z0g,Bool.false_xor,Bool.true_xor,Z02,Z13,Z0a,Z0O,Z14,List.length_map,Zpy,Zpx,Z2I,g,Z4J,bs,ZhK,List.cons_append,List.nil_append,go]
 have:=Zdm (n:=7) (a:=[a0,a1,a2,a3,a4,a5,a6]) (b:=[b0,b1,b2,b3,b4,b5,b6]) rfl rfl
 simp only [List.zipWith_cons_cons,List.zipWith_nil_left] at this
 rw [this]
 rfl
theorem Z4K (x y:Msg) (n:Bool) (h:Hp) {β:Type} (k:Go.AM.K β):eqK Try.prog n 27 (.agg (encM x)) (.agg (encM y)) h k=k (B (xor n (x==y))):=by
 obtain ⟨a0,a1,a2,a3,a4,a5,a6⟩:=x
 obtain ⟨b0,b1,b2,b3,b4,b5,b6⟩:=y
 have:((⟨a0,a1,a2,a3,a4,a5,a6⟩:Msg)==⟨b0,b1,b2,b3,b4,b5,b6⟩)=((a0==b0)&&((a1==b1)&&((a2==b2)&&((a3==b3)&&((a4==b4)&&((a5==b5)&&((a6==b6)&&true))))))):=by
  rw [Bool.eq_iff_iff];simp
 simp only [encM,Z6W,this]
end Go.AM


namespace Go.AM
open Go.Proofs
set_option linter.unusedVariables false
set_option linter.unusedSimpArgs false
set_option linter.constructorNameAsVariable false
set_option maxRecDepth 20000
attribute [local congr] Z0j Z0k Z0l Z0m Z0n Z0o Z0p Z0q Z0r Z0s Z0t Z0u Z0v Z0w Z0x Z0y Z0z Z0A Z0B Z0C Z0D Z0E Z0F Z0G Z0H Z0I Z0J
def compL:List Msg→List Msg
 | []=>[]
 | [a]=>[a]
 | a::b::l=>if a=b then compL (b::l) else a::compL (b::l)
theorem Zdn (y x:Msg):∀q:List Msg,compL (q++[y]++[x])=if y=x then compL (q++[y]) else compL (q++[y])++[x]
 | []=>by
  simp only [List.nil_append,List.cons_append,compL]
  split
  ·rename_i e;rw [e]
  ·rfl
 | [a]=>by
  have ih:=Zdn y x []
  simp only [List.nil_append,List.cons_append,compL] at ih ⊢
  split<;>split<;>simp_all
 | a::b::q=>by
  have ih:=Zdn y x (b::q)
  simp only [List.cons_append,compL] at ih ⊢
  rw [ih]
  split<;>split<;>simp_all
theorem ZbJ:∀l:List Msg,(compL l).length≤l.length
 | []=>by simp [compL]
 | [a]=>by simp [compL]
 | a::b::l=>by
  have:=ZbJ (b::l)
  simp only [compL,List.length_cons] at this ⊢
  split<;>simp at * <;> omega
theorem Z8z {l:List Msg} {i:Nat} {x:Msg} (hx:l[i]? = some x):l.take (i+1)=l.take i++[x]:=by
 rw [List.take_add_one,hx];rfl
theorem ZhM {l:List Msg} {i:Nat} {x y:Msg} (hi:1≤i) (hx:l[i]? = some x) (hy:l[i-1]? = some y):compL (l.take (i+1))=if y=x then compL (l.take i) else compL (l.take i)++[x]:=by
 obtain ⟨j,rfl⟩:∃j,i=j+1:=⟨i-1,by omega⟩
 rw [Z8z hx,Z8z (by simpa using hy),Zdn]
theorem ld_el {β:Type} {W:List Msg} {id i n:Nat} {h:Hp} {b:Bool} {x:Msg} (hid:h[id]? = some (.arr 7 (W.map encM) true b)) (hn:W.length=n) (hx:W[i]? = some x) (k:Go.AM.K β):ldK 7 true (.ptr id i 0 n) h k=k (.agg (encM x)):=by
 simp [hid,hn,hx,encM]
theorem st_el {β:Type} {W:List Msg} {id i n:Nat} {h:Hp} {b:Bool} {x:Msg} (hid:h[id]? = some (.arr 7 (W.map encM) true b)) (hn:W.length=n) (hi:i<W.length) (k:AV→Hp→Option β):effK (stE 7 (.ptr id i 0 n) (.agg (encM x)) h) h k=k .u (h.set id (.arr 7 ((W.set i x).map encM) true b)):=by
 have hx:W[i]? = some W[i]:=List.getElem?_eq_getElem hi
 have:stE 7 (.ptr id i 0 n) (.agg (encM x)) h=some (.u,⟨[(id, .arr 7 ((W.map encM).set i (encM x)) true b)],[],[id]⟩):=by
  simp [hid,hn,hx,encM]
 rw [this,Z0L rfl,List.map_set]
theorem ia_sl {β:Type} {id off len fr:Nat} {b:Bool} {m:Int} (i:Nat) (hm:m=i) (hi:i<len) (k:Go.AM.K β):iaK 7 (.sl 7 id off len fr b) (I m) k=k (.ptr id (off+i) 0 fr):=by
 subst hm
 rw [Z8X (by omega) (by omega)]
 simp
theorem sl_lo {β:Type} {id n k:Nat} (hk:k≤n) (K:Go.AM.K β):sliceK 7 (.sl 7 id 0 n n false) (some (I k)) none none K=K (.sl 7 id k (n-k) n false):=by
 have:(0:Int)≤(k:Int):=by omega
 simp [sliceK,boundOr,hk]
theorem sl_hi {β:Type} {id n k:Nat} (hk:k≤n) (K:Go.AM.K β):sliceK 7 (.sl 7 id 0 n n false) none (some (I k)) none K=K (.sl 7 id 0 k n false):=by
 have:(0:Int)≤(k:Int):=by omega
 simp [sliceK,boundOr,hk]
abbrev zM:List AV:=[.s (.int .i64 0), .s (.int .i64 0), .s (.int .i64 0), .s (.int .i64 0), .s (.int .i64 0), .s (.int .i64 0), .s (.int .i64 0)]
theorem ZuY {β:Type} {T:Tab} {D:DTab} {N:Nat} {x2:AV→AV→Hp→Option β} {l:List Msg} {id k:Nat} {h0:Hp} (hid:id<h0.length) (hl:l.length<1000000):∀(n i:Nat) (W:List Msg) (w:Nat),1≤i→k+i≤l.length→l.length<k+i+n→
  W.length=l.length→w=(compL (l.take (k+i))).length→w+1≤k+i→W.take w=compL (l.take (k+i))→W.drop (k+i-1)=l.drop (k+i-1)→
  ∃W':List Msg,W'.length=l.length∧W'.take (compL l).length=compL l ∧
   Z3g Try.prog T D N x2 n (.sl 7 id 0 l.length l.length false) (I w) (.sl 7 id k (l.length-k) l.length false) (I i) (h0.set id (.arr 7 (W.map encM) true false)) =
    x2 (.sl 7 id 0 l.length l.length false) (I (compL l).length) (h0.set id (.arr 7 (W'.map encM) true false)):=by
 intro n
 induction n with
 | zero=>intro i W w _ h2 h3;omega
 | succ n ih=>
  intro i W w hi h2 h3 hW hw hwi ht hd
  have hget:(h0.set id (.arr 7 (W.map encM) true false))[id]? = some (.arr 7 (W.map encM) true false):=by simp [hid]
  rcases Nat.lt_or_ge (k+i) l.length with hlt | hge
  ·have hx:l[k+i]? = some l[k+i]:=List.getElem?_eq_getElem hlt
   have hy:l[k+i-1]? = some l[k+i-1]:=List.getElem?_eq_getElem (by omega)
   have hWx:W[k+i]? = some l[k+i]:=by
    have:=congrArg (fun q=>q[1]?) hd
    simp only [List.getElem?_drop] at this
    rw [show k+i-1+1=k+i by omega] at this
    rw [this,hx]
   have hWy:W[k+i-1]? = some l[k+i-1]:=by
    have:=congrArg (fun q=>q[0]?) hd
    simp only [List.getElem?_drop,Nat.add_zero] at this
    rw [this,hy]
   have hnx:=ZhM (by omega) hx hy
   generalize hxx:l[k+i]=x at *
   generalize hyy:l[k+i-1]=y at *
   have c1:((i:Int)<((l.length-k:Nat):Int)):=by omega
   have w1:IntKind.i64.wrap ((i:Int)-1)=((i-1:Nat):Int):=by rw [wrap64 (by omega) (by omega)];omega
   have w2:IntKind.i64.wrap ((i:Int)+1)=((i+1:Nat):Int):=by rw [wrap64 (by omega) (by omega)];omega
   have w3:IntKind.i64.wrap ((w:Int)+1)=((w+1:Nat):Int):=by rw [wrap64 (by omega) (by omega)];omega
   have i1:∀K:Go.AM.K β,iaK 7 (.sl 7 id k (l.length-k) l.length false) (I i) K=K (.ptr id (k+i) 0 l.length):=fun K=>ia_sl i rfl (by omega) K
   have i2:∀K:Go.AM.K β,iaK 7 (.sl 7 id k (l.length-k) l.length false) (I ((i-1:Nat):Int)) K=K (.ptr id (k+(i-1)) 0 l.length):=fun K=>ia_sl (i-1) rfl (by omega) K
   have i3:∀K:Go.AM.K β,iaK 7 (.sl 7 id 0 l.length l.length false) (I w) K=K (.ptr id (0+w) 0 l.length):=fun K=>ia_sl w rfl (by omega) K
   have l1:=fun K:Go.AM.K β=>ld_el hget hW hWx K
   have l2:=fun K:Go.AM.K β=>ld_el (i:=k+(i-1)) hget hW (by rw [show k+(i-1)=k+i-1 by omega];exact hWy) K
   have s1:=fun K:AV→Hp→Option β=>st_el (i:=0+w) (x:=x) hget hW (by omega) K
   show ∃W',_∧_∧Z5H Try.prog T D N (Z3g Try.prog T D N x2 n) x2 _ _ _ _ _=_
   simp -implicitDefEqProofs only [Z5H,Z0O,Z05,c1,decide_true,Z00,if_true,i1,l1,Z31,w1,i2,l2,Z4K,Bool.true_xor,i3,s1,Z0M,w3,ZcG,Zgb,w2,List.set_set]
   by_cases hxy:y=x
   ·have e:(x==y)=true:=by simp [hxy]
    rw [if_pos hxy] at hnx
    simp only [e,Bool.not_true,Bool.false_eq_true,if_false]
    have hkk:k+(i+1)=k+i+1:=by omega
    obtain ⟨W',g1,g2,g3⟩:=ih (i+1) W w (by omega) (by omega) (by omega) hW (by rw [hkk,hnx];exact hw) (by omega) (by rw [hkk,hnx];exact ht) (by
     have:=congrArg (List.drop 1) hd
     simp only [List.drop_drop] at this
     rw [show k+(i+1)-1=k+i-1+1 by omega]
     exact this)
    exact ⟨W',g1,g2,g3⟩
   ·have e:(x==y)=false:=by simpa using Ne.symm hxy
    rw [if_neg hxy] at hnx
    simp only [e,Bool.not_false,if_true]
    have hkk:k+(i+1)=k+i+1:=by omega
    rw [Nat.zero_add]
    obtain ⟨W',g1,g2,g3⟩:=ih (i+1) (W.set w x) (w+1) (by omega) (by omega) (by omega) (by simpa using hW) (by rw [hkk,hnx,List.length_append, ← hw];rfl) (by omega) (by
     rw [hkk,hnx, ← ht]
     rw [List.take_add_one,List.take_set_of_le (Nat.le_refl _),List.getElem?_set_self (by omega)]
     rfl) (by
     have:=congrArg (List.drop 1) hd
     simp only [List.drop_drop] at this
     rw [show k+(i+1)-1=k+i-1+1 by omega,List.drop_set_of_lt (by omega)]
     exact this)
    exact ⟨W',g1,g2,g3⟩
  ·have hN:k+i=l.length:=by omega
   have c1:¬((i:Int)<((l.length-k:Nat):Int)):=by omega
   refine ⟨W,hW, ?_, ?_⟩
   ·rw [hN,List.take_length] at ht hw
    rw [← hw];exact ht
   ·show Z5H Try.prog T D N (Z3g Try.prog T D N x2 n) x2 _ _ _ _ _=_
    rw [hN,List.take_length] at hw
    simp only [Z5H,Z0O,Z05,c1,decide_false,Z00,Bool.false_eq_true,if_false]
    rw [hw]
theorem ZuZ {β:Type} {T:Tab} {D:DTab} {N:Nat} {xn:AV→AV→Hp→Option β} {x0:AV→Hp→Option β} {xr:AV→Hp→Option β} {W:List Msg} {id w n:Nat} {h:Hp} (hid:h[id]? = some (.arr 7 (W.map encM) true false)) (hW:W.length=n) (hw:w≤n):
  Z5G Try.prog T D N xn x0 xr (.sl 7 id 0 n n false) (I w) h=xr (.sl 7 id 0 w n false) (h.set id (.arr 7 ((W.take w).map encM++List.replicate (n-w) zM) true false)):=by
 have hc:clrE 7 zM (.sl 7 id w (n-w) n false) h=some (.tup [],⟨[(id, .arr 7 ((W.map encM).take w++List.replicate (n-w) zM++(W.map encM).drop (w+(n-w))) true false)],[],[id]⟩):=by
  simp only [clrE,hid]
  rw [if_pos (by simp [hW];omega)]
 simp only [Z5G,sl_lo hw,sl_hi hw]
 rw [hc,Z0L rfl]
 rw [show (W.map encM).drop (w+(n-w))=[] from List.drop_eq_nil_of_le (by simp;omega),List.append_nil,List.map_take]
theorem Zv0 {β:Type} {T:Tab} {D:DTab} {N:Nat} {x0:AV→Hp→Option β} {xr:AV→Hp→Option β} {l:List Msg} {id:Nat} {h:Hp} (hid:h[id]? = some (.arr 7 (l.map encM) true false)) (hl:l.length<1000000) (hN:1000000≤N) (hx:∀v h,x0 v h=xr v h):∀(n i:Nat),1≤i→i≤l.length→l.length<i+n→compL (l.take i)=l.take i→
  Z3h Try.prog T D N x0 xr n (.sl 7 id 0 l.length l.length false) (I i) h=xr (.sl 7 id 0 (compL l).length l.length false) (h.set id (.arr 7 ((compL l).map encM++List.replicate (l.length-(compL l).length) zM) true false)):=by
 intro n
 have hlt0:id<h.length:=(List.getElem?_eq_some_iff.1 hid).1
 induction n with
 | zero=>intro i h1 h2 h3;omega
 | succ n ih=>
  intro i h1 h2 h3 hc
  show Z7q Try.prog T D N (Z3h Try.prog T D N x0 xr n) x0 xr _ _ _=_
  rcases Nat.lt_or_ge i l.length with hlt | hge
  ·have hx':l[i]? = some l[i]:=List.getElem?_eq_getElem hlt
   have hy:l[i-1]? = some l[i-1]:=List.getElem?_eq_getElem (by omega)
   have hnx:=ZhM h1 hx' hy
   generalize hxx:l[i]=x at *
   generalize hyy:l[i-1]=y at *
   have c1:((i:Int)<(l.length:Int)):=by omega
   have w1:IntKind.i64.wrap ((i:Int)-1)=((i-1:Nat):Int):=by rw [wrap64 (by omega) (by omega)];omega
   have w2:IntKind.i64.wrap ((i:Int)+1)=((i+1:Nat):Int):=by rw [wrap64 (by omega) (by omega)];omega
   have i1:∀K:Go.AM.K β,iaK 7 (.sl 7 id 0 l.length l.length false) (I i) K=K (.ptr id (0+i) 0 l.length):=fun K=>ia_sl i rfl (by omega) K
   have i2:∀K:Go.AM.K β,iaK 7 (.sl 7 id 0 l.length l.length false) (I ((i-1:Nat):Int)) K=K (.ptr id (0+(i-1)) 0 l.length):=fun K=>ia_sl (i-1) rfl (by omega) K
   have l1:=fun K:Go.AM.K β=>ld_el (i:=0+i) hid rfl (by simpa using hx') K
   have l2:=fun K:Go.AM.K β=>ld_el (i:=0+(i-1)) hid rfl (by simpa using hy) K
   simp -implicitDefEqProofs only [Z7q,Z0O,Z05,c1,decide_true,Z00,if_true,i1,l1,Z31,w1,i2,l2,Z4K,Bool.false_xor,Z9S,Z0M,w2,sl_lo (Nat.le_of_lt hlt)]
   by_cases hxy:y=x
   ·have e:(x==y)=true:=by simp [hxy]
    rw [if_pos hxy] at hnx
    simp only [e,if_true]
    have hs:h=h.set id (.arr 7 (l.map encM) true false):=(Z11 hid).symm
    obtain ⟨W',g1,g2,g3⟩:=ZuY (T:=T) (D:=D) (N:=N) (x2:=fun w32_0 w32_3 h=>Z5G Try.prog T D N (Z3h Try.prog T D N x0 xr n) x0 xr w32_0 w32_3 h) (l:=l) (id:=id) (k:=i) (h0:=h) hlt0 hl N 1 l i (by omega) (by omega) (by omega) rfl (by rw [hnx,hc];simp;omega) (by omega) (by rw [hnx,hc]) rfl
    rw [← hs] at g3
    refine g3.trans ?_
    rw [ZuZ (W:=W') (by simp [hlt0]) g1 (ZbJ l),List.set_set,g2]
   ·have e:(x==y)=false:=by simpa using Ne.symm hxy
    rw [if_neg hxy] at hnx
    simp only [e,Bool.false_eq_true,if_false]
    exact ih (i+1) (by omega) (by omega) (by omega) (by rw [hnx,hc,Z8z hx'])
  ·have hN:i=l.length:=by omega
   subst hN
   have c1:¬((l.length:Int)<(l.length:Int)):=by omega
   rw [List.take_length] at hc
   simp only [Z7q,Z0O,Z05,c1,decide_false,Z00,Bool.false_eq_true,if_false,hx,hc,Nat.sub_self,List.replicate_zero,List.append_nil]
   rw [Z11 hid]
theorem Zv1 {l:List Msg} {id:Nat} {h:Hp} (hid:h[id]? = some (.arr 7 (l.map encM) true false)) (hl:l.length<1000000):Z50 [.sl 7 id 0 l.length l.length false] h=some (.sl 7 id 0 (compL l).length l.length false,h.set id (.arr 7 ((compL l).map encM++List.replicate (l.length-(compL l).length) zM) true false)):=by
 rw [ZgU]
 by_cases h2:l.length<2
 ·have hc:compL l=l:=by
   match l,h2 with
   | [],_=>rfl
   | [a],_=>rfl
  have c1:((l.length:Int)<2):=by omega
  simp only [Z4R,Z0O,Z05,c1,decide_true,Z00,if_true,hc,Nat.sub_self,List.replicate_zero,List.append_nil]
  rw [Z11 hid]
 ·have c1:¬((l.length:Int)<2):=by omega
  simp only [Z4R,Z0O,Z05,c1,decide_false,Z00,Bool.false_eq_true,if_false]
  have:=Zv0 (T:=Z5U) (D:=Z5T) (N:=NN) (x0:=fun w33_0 h=>Z9R Try.prog Z5U Z5T NN (fun v h=>some (v,h)) w33_0 h) (xr:=fun w34_2 h=>some (w34_2,h)) hid hl NN_ge (fun v h=>rfl) NN 1 (by omega) (by omega) (by have:=NN_ge;omega) (by
   match l,h2 with
   | a::l,_=>rfl)
  exact this
theorem Zv2 (h:Hp):Z50 [nilS] h=some (nilS,h):=by
 rw [ZgU]
 simp [Z4R]
theorem ZbK (l:List Msg) (b:Bool) (hl:l.length<1000000) (h:Hp):Z17 [SLm b l] h=if (b&&l.isEmpty)=true then some (nilS,h) else some (.sl 7 (h.length+1) 0 l.length l.length false,h++[.arr 7 [] true false, .arr 7 (l.map encM) true false]):=by
 rw [Zpt]
 by_cases hb:(b&&l.isEmpty)=true
 ·simp [Z4P,hb]
 ·have hb':(b&&l.isEmpty)=false:=by simpa using hb
  have hle:l.length * 56≤140737488355328:=by omega
  have h2:((l.map encM).all fun e=>e.length==7)=true:=by simp [encM]
  simp [Z4P,hb',bsE,fillS,appE,readSl,hle,h2,ap]
def ltM (a b:Msg):Bool:=ltZ (cellsM a) (cellsM b)
def sortM (l:List Msg):List Msg:=l.mergeSort fun x y => !ltM y x
theorem Zv3 (x y:List Int) (hx:x.length=7) (hy:y.length=7):Z4Z [.agg (encZ x), .agg (encZ y)] []=some (.s (.int .i64 (lexZ x y)),[]):=by
 match x,hx,y,hy with
 | [a0,a1,a2,a3,a4,a5,a6],_,[b0,b1,b2,b3,b4,b5,b6],_=>exact ZuX ⟨a0,a1,a2,a3,a4,a5,a6⟩ ⟨b0,b1,b2,b3,b4,b5,b6⟩ []
theorem Zv4 {l:List Msg} {id:Nat} {h:Hp} {b:Bool} (hid:h[id]? = some (.arr 7 (l.map encM) true b)) (hl:l.length<1000000):Z7W [.sl 7 id 0 l.length l.length false, .fn 84 []] h=some (.tup [],h.set id (.arr 7 ((sortM l).map encM) true b)):=by
 have e1:((l.map encM).drop 0).take l.length=(l.map cellsM).map encZ:=by
  rw [List.drop_zero,List.map_map,List.take_of_length_le (by simp)]
  rfl
 refine (Zoq (g:=84) Zv3 hid (by simp) (by simp) (by omega) (l:=l.map cellsM) (by simp [cellsM]) e1).trans ?_
 have e2:(l.map cellsM).mergeSort (fun x y => !ltZ y x)=(sortM l).map cellsM:=by
  unfold sortM
  rw [List.map_mergeSort]
  intro a _ b _
  rfl
 rw [e2,List.map_map,show encZ ∘ cellsM=encM from rfl,List.take_zero,List.nil_append,List.drop_eq_nil_of_le (by simp),List.append_nil]
theorem Zv5 (h:Hp):Z7W [nilS, .fn 84 []] h=some (.tup [],h):=rfl
def normL (l:List Msg):List Msg:=compL (sortM l)
section
variable {β:Type} {P:Program} {T:Tab} {D:DTab} {N:Nat} {K:AV→Hp→Option β}
theorem Zv6 {x0:Hp→Option β} {xr:AV→Hp→Option β} {l:List Msg} {b:Bool} {fv:AV} {h:Hp} {p:Msg→Bool} (hl:l.length<4611686018427387904) (hp:∀x ∈ l,∀k:AV→Hp→Option β,callVK T fv [.agg (encM x)] h k=k (B (p x)) h):
  ∀(n i:Nat),i≤l.length→l.length<i+n→Z44 P T D N x0 xr n (.lst 7 b (l.map encM)) fv (I l.length) (I i) h=match (l.drop i).findIdx? p with | some j=>xr (I ((i+j:Nat):Int)) h | none=>x0 h:=by
 intro n
 induction n with
 | zero=>intro i h1 h2;omega
 | succ n ih=>
  intro i h1 h2
  show Z9D P T D N (Z44 P T D N x0 xr n) x0 xr _ _ _ _ h=_
  unfold Z9D
  rcases Nat.lt_or_ge i l.length with hi | hi
  ·have hx:l[i]? = some l[i]:=List.getElem?_eq_getElem hi
   have hlt:((i:Int)<(l.length:Int)):=by omega
   have hw:IntKind.i64.wrap ((i:Int)+1)=((i+1:Nat):Int):=by rw [wrap64 (by omega) (by omega)];omega
   have hpx:=hp l[i] (List.getElem_mem hi)
   rw [List.drop_eq_getElem_cons hi,List.findIdx?_cons]
   simp [hlt,hx,hw,encM] at hpx ⊢
   rw [hpx]
   cases hc:p l[i] with
   | true=>simp
   | false=>
    have h3:=ih (i+1) hi (by omega)
    rw [show ((i:Int)+1)=((i+1:Nat):Int) by omega]
    simp only [Bool.false_eq_true,if_false]
    refine h3.trans ?_
    cases (List.drop (i+1) l).findIdx? p with
    | none=>rfl
    | some j=>
     show xr (I ((i+1+j:Nat):Int)) h=xr (I ((i+(j+1):Nat):Int)) h
     rw [show i+1+j=i+(j+1) by omega]
  ·have:i=l.length:=by omega
   subst this
   simp
theorem Zv7 {l:List Msg} {b:Bool} {fv:AV} {h:Hp} {p:Msg→Bool} {K:AV→Hp→Option β} (hl:l.length<N) (hN:N<4611686018427387904) (hp:∀x ∈ l,∀k:AV→Hp→Option β,callVK T fv [.agg (encM x)] h k=k (B (p x)) h):
  Z5z P T D N K (.lst 7 b (l.map encM)) fv h=K (I (match l.findIdx? p with | some j=>(j:Int) | none => -1)) h:=by
 unfold Z5z
 simp only [Z0a,List.length_map]
 have:=Zv6 (P:=P) (D:=D) (N:=N) (b:=b) (x0:=fun h=>Z9C P T D N K h) (xr:=fun a h=>K a h) (by omega) hp N 0 (Nat.zero_le _) (by omega)
 simp only [List.drop_zero] at this
 refine this.trans ?_
 cases l.findIdx? p with
 | none=>rfl
 | some j=>simp
end
theorem Zv8 (m:Msg) (h:Hp):Z4X [.agg (encM m)] h=some (B (checkM m != 0),h):=by
 refine Zpd (by simp [encM]) ?_ h
 have f:=Zdl m
 obtain ⟨a0,a1,a2,a3,a4,a5,a6⟩:=m
 simp only [encM] at f
 simp -implicitDefEqProofs only [Z9N,encM,encDo,Z06,Z15,Nat.zero_add,Nat.add_zero,Nat.reduceAdd,Z1f,Z1g,Z1h,Z1i,Z1j,Z1k,Z1l,Z1m,Z1n,Z1o,Z1p,Z1q,Z1r,Z1s,Z1t,Z1u,Z1v,Z1w,Z1x,Z1y,Z1z,lw7_0,ew7_0,bx7_0,Z1A,Z1B,Z1C,Z1D,Z1E,Z1F,Z1G,Z1H,Z1I,Z1J,Z1K,Z1L,Z1M,Z1N,Z1O,Z1P,Z1Q,Z1R,Z1S,Z1T,Z1U,lw7_1,ew7_1,bx7_1,Z1V,Z1W,Z1X,Z1Y,Z1Z,Z20,Z21,Z22,Z23,Z24,Z25,Z26,Z27,Z28,Z29,Z2a,Z2b,Z2c,Z2d,Z2e,Z2f,lw7_2,ew7_2,bx7_2,Z2g,Z2h,Z2i,Z2j,Z2k,Z2l,Z2m,Z2n,Z2o,Z2p,Z2q,Z2r,Z2s,Z2t,Z2u,Z2v,Z2w,Z2x,Z2y,Z2z,Z2A,lw7_3,ew7_3,bx7_3,Z16,Z05,Z0Y,Z0e,Z0R,Z0h,Z0N,Z00,Z04,Z0g,Bool.false_xor,Bool.true_xor,Z02,Z13,Z0a,Z0O,Z14,List.length_map,Zpa,f]
 rfl
theorem Zv9 (l:List Msg) (hl:l.length<1000000) (b:Bool) (h:Hp):Z7V [SLm b l, .fn 82 []] h=some (B (l.any fun m=>checkM m != 0),h):=by
 have e:∀h,Z7T [SLm b l, .fn 82 []] h=some (I (match l.findIdx? (fun m=>checkM m != 0) with | some j=>(j:Int) | none => -1),h):=
  Zpj rfl (by
   simp only [nrm,nrmC]
   rw [Zv7 (p:=fun m=>checkM m != 0) (by have:=NN_ge;omega) NN_lt (fun x hx k=>by simp [Zv8])]
   rfl)
 refine Zpq rfl ?_ h
 simp only [nrm,nrmC,Z9f,Zpm,Z02,e]
 have:(l.any fun m=>checkM m != 0)=(l.findIdx? fun m=>checkM m != 0).isSome:=by rw [List.findIdx?_isSome]
 rw [this]
 cases l.findIdx? (fun m=>checkM m != 0)<;>simp
def errM (l:List Msg):Int:=if 64<l.length then 8 else if (l.any fun m=>checkM m != 0)=true then 1 else 0
theorem Zdo (l:List Msg):(normL l).length≤l.length:=by
 have:=ZbJ (sortM l)
 unfold normL
 unfold sortM at this ⊢
 rwa [List.length_mergeSort] at this
theorem ZhN {l:List Msg}:compL l=[]↔l=[]:=by
 match l with
 | []=>simp [compL]
 | [a]=>simp [compL]
 | a::b::l=>
  have ih:=@ZhN (b::l)
  simp only [compL]
  split<;>simp_all
theorem ZhO (l:List Msg):(sortM l).length=l.length:=by unfold sortM;rw [List.length_mergeSort]
theorem ZhP (l:List Msg):(normL l).isEmpty=l.isEmpty:=by
 rw [Bool.eq_iff_iff,List.isEmpty_iff,List.isEmpty_iff]
 unfold normL
 rw [ZhN, ← List.length_eq_zero_iff,ZhO,List.length_eq_zero_iff]
def normR (b:Bool) (l:List Msg):AV := .tup [if errM l=0 then SLm b (normL l) else .lst 7 true [],I (errM l)]
theorem Zva (l:List Msg) (b:Bool) (hl:l.length<1000000):∀st,(Z4Q Try.prog Z2W Z7X NN (fun v g=>cvt st g v) (SLm b l) [])=some (.tup [if errM l=0 then (if (b&&l.isEmpty)=true then nilS else SLm b (normL l)) else nilS,I (errM l)]):=by
 intro st
 have f1:=Zv9 l hl b
 have f2:=ZbK l b hl
 by_cases h1:64<l.length
 ·have c1:((64:Int)<(l.length:Int)):=by omega
  simp [Z4Q,c1,errM,h1]
 ·have c1:¬((64:Int)<(l.length:Int)):=by omega
  cases h2:(l.any fun m=>checkM m != 0) with
  | true=>
   rw [h2] at f1
   simp only [Z4Q,Z0a,List.length_map,Z0e,c1,decide_false,Z00,Bool.false_eq_true,if_false,ZgV,Z02,f1,if_true,errM,h1,h2]
   rfl
  | false=>
   rw [h2] at f1
   simp only [Z4Q,Z0a,List.length_map,Z0e,c1,decide_false,Z00,Bool.false_eq_true,if_false,ZgV,ZpK,ZpL,ZpM,Z02,f1,errM,h1,h2,f2,if_true]
   by_cases hb:(b&&l.isEmpty)=true
   ·simp only [hb,if_true,Zv5,Zv2]
    rfl
   ·have hb':(b&&l.isEmpty)=false:=by simpa using hb
    simp only [hb',Bool.false_eq_true,if_false,List.length_nil,Nat.zero_add,List.nil_append]
    rw [Zv4 (l:=l) (b:=false) rfl hl]
    simp only [List.set_cons_succ,List.set_cons_zero]
    have hs:=ZhO l
    have:=Zv1 (l:=sortM l) (id:=1) (h:=[.arr 7 [] true false, .arr 7 ((sortM l).map encM) true false]) rfl (by omega)
    rw [hs] at this
    rw [this]
    simp only [List.set_cons_succ,List.set_cons_zero,Z3A,Z2C,Z2B,cvt_s]
    have hn:(compL (sortM l)).length≤l.length:=by have:=ZbJ (sortM l);omega
    have:cvt st [.arr 7 [] true false, .arr 7 ((compL (sortM l)).map encM++List.replicate (l.length-(compL (sortM l)).length) zM) true false] (.sl 7 1 0 (compL (sortM l)).length l.length false)=some (.lst 7 false ((compL (sortM l)).map encM)):=by
     have ok:okE st ((compL (sortM l)).map encM)=true:=Z0W fun x=>by cases st<;>simp [encM,isS]
     have tk:(((compL (sortM l)).map encM++List.replicate (l.length-(compL (sortM l)).length) zM).drop 0).take (compL (sortM l)).length=(compL (sortM l)).map encM:=by
      rw [List.drop_zero,List.take_append_of_le_length (by simp),List.take_of_length_le (by simp)]
     have hg:([.arr 7 [] true false, .arr 7 ((compL (sortM l)).map encM++List.replicate (l.length-(compL (sortM l)).length) zM) true false]:Hp)[1]? = some (.arr 7 ((compL (sortM l)).map encM++List.replicate (l.length-(compL (sortM l)).length) zM) true false):=rfl
     unfold cvt
     rw [hg]
     simp only []
     rw [if_pos (by simp;omega),tk,if_pos ok]
    rw [this]
    show some (AV.tup [AV.lst 7 false ((normL l).map encM),I 0])=some (.tup [.lst 7 (b&&(normL l).isEmpty) ((normL l).map encM),I 0])
    rw [ZhP,hb']
theorem Zvb (l:List Msg) (b:Bool) (h:Hp):(some (nrmR [.l 7, .o] (AV.tup [if errM l=0 then (if (b&&l.isEmpty)=true then nilS else SLm b (normL l)) else nilS,I (errM l)]),h):Option (AV × Hp))=some (normR b l,h):=by
 unfold normR
 by_cases h0:errM l=0
 ·simp only [h0,if_true]
  by_cases hb:(b&&l.isEmpty)=true
  ·have hb2:(b&&(normL l).isEmpty)=true:=by rw [ZhP];exact hb
   have hn:normL l=[]:=by simpa using (Bool.and_eq_true_iff.1 hb2).2
   have hb1:=(Bool.and_eq_true_iff.1 hb).1
   subst hb1
   simp only [hb,if_true,SLm,hn,List.map_nil]
   rfl
  ·rw [if_neg hb]
   rfl
 ·simp only [h0,if_false]
  rfl
theorem ZhQ (l:List Msg) {b:Bool} (hl:l.length<1000000) {h:Hp} {v a:AV} (hv:cvts false h [v]=some [a]) (ha:nrm (.l 7) a=SLm b l):Z51 [v] h=some (normR b l,h):=
 (ZpP (a0:=a) hv (fun st=>by rw [ha];exact Zva l b hl st)).trans (Zvb l b h)
end Go.AM


namespace Go.AM
set_option linter.unusedVariables false
set_option linter.unusedSimpArgs false
section
variable {β α:Type}
theorem Z0d {r:R} {v:AV} {id:Nat} {o:AObj} {ft:List Nat} {h:Hp} (hr:r=some (v,⟨[(id,o)],[],ft⟩)) (k:AV→Hp→Option β):effK r h k=k v (h.set id o):=by subst hr;simp [effK,ap]
theorem ldE {f:α→List AV} {sz:Nat} {W:List α} {id i n:Nat} {h:Hp} {b:Bool} {x:α} (hf:(f x).length=sz) (hid:h[id]? = some (.arr sz (W.map f) true b)) (hn:W.length=n) (hx:W[i]? = some x) (k:K β):ldK sz true (.ptr id i 0 n) h k=k (.agg (f x)):=by
 subst hf
 simp [hid,hn,hx,pickC]
theorem stEl {f:α→List AV} {sz:Nat} {W:List α} {id i n:Nat} {h:Hp} {b:Bool} {x:α} (hf:∀x,(f x).length=sz) (ho:(f x).all okC=true) (hid:h[id]? = some (.arr sz (W.map f) true b)) (hn:W.length=n) (hi:i<W.length) (k:AV→Hp→Option β):effK (stE sz (.ptr id i 0 n) (.agg (f x)) h) h k=k .u (h.set id (.arr sz ((W.set i x).map f) true b)):=by
 have hx:W[i]? = some W[i]:=List.getElem?_eq_getElem hi
 have:stE sz (.ptr id i 0 n) (.agg (f x)) h=some (.u,⟨[(id, .arr sz ((W.map f).set i (f x)) true b)],[],[id]⟩):=by
  have e1:=hf x
  have e2:=hf W[i]
  rw [Z0i,hid]
  simp only [List.length_map,hn,cellsOf,e1,ho,List.getElem?_map,hx,Option.map_some,e2,Nat.zero_add,Nat.le_refl,if_true,true_and,and_self]
  simp only [putAt,e1,List.take_zero,List.nil_append,Nat.zero_add]
  rw [List.drop_eq_nil_of_le (by omega),List.append_nil]
 rw [Z0d this,List.map_set]
end
structure Kept (h hh:Hp) (k:Nat):Prop where
 len:h.length≤hh.length
 same:∀j,j≠k→j<h.length→hh[j]? = h[j]?
theorem Kept.refl (h:Hp) (k:Nat):Kept h h k:=⟨Nat.le_refl _,fun _ _ _=>rfl⟩
theorem Kept.app {h hh:Hp} {k:Nat} (K:Kept h hh k) (g:Hp):Kept h (hh++g) k:=⟨by have:=K.len;simp;omega,fun j h1 h2=>by rw [List.getElem?_append_left (by have:=K.len;omega)];exact K.same j h1 h2⟩
theorem Kept.set {h hh:Hp} {k:Nat} (K:Kept h hh k) (o:AObj):Kept h (hh.set k o) k:=⟨by have:=K.len;simpa using this,fun j h1 h2=>by rw [List.getElem?_set_ne (Ne.symm h1)];exact K.same j h1 h2⟩
structure DelInv {α:Type} (f:α→List AV) (p:α→Bool) (sz:Nat) (l:List α) (h:Hp) (k i w:Nat) (hh:Hp) (W:List α):Prop where
 kept:Kept h hh k
 at_:hh[k]? = some (.arr sz (W.map f) true false)
 len:W.length=l.length
 hw:w=((l.take i).filter fun x => !p x).length
 pre:W.take w=(l.take i).filter fun x => !p x
 post:W.drop i=l.drop i
section
variable {α:Type} {f:α→List AV} {p:α→Bool} {sz:Nat} {l:List α} {h:Hp} {k i w:Nat} {hh:Hp} {W:List α}
theorem DelInv.wi (I:DelInv f p sz l h k i w hh W):w≤i:=by
 rw [I.hw]
 exact Nat.le_trans (List.length_filter_le _ _) (by rw [List.length_take];omega)
theorem DelInv.wl (I:DelInv f p sz l h k i w hh W):w≤l.length:=by
 rw [I.hw]
 exact Nat.le_trans (List.length_filter_le _ _) (by rw [List.length_take];omega)
theorem DelInv.get (I:DelInv f p sz l h k i w hh W) {x:α} (hx:l[i]? = some x):W[i]? = some x:=by
 have:=congrArg (fun q=>q[0]?) I.post
 simpa [hx] using this
theorem ZhR {l:List α} {i:Nat} {x:α} (hx:l[i]? = some x):l.take (i+1)=l.take i++[x]:=by rw [List.take_add_one,hx];rfl
theorem DelInv.skip (I:DelInv f p sz l h k i w hh W) {x:α} (hx:l[i]? = some x) (hp:p x=true) (g:Hp):DelInv f p sz l h k (i+1) w (hh++g) W:=by
 have e:(l.take (i+1)).filter (fun x => !p x)=(l.take i).filter fun x => !p x:=by rw [ZhR hx];simp [hp]
 refine ⟨I.kept.app g,Z09 I.at_,I.len,by rw [e];exact I.hw,by rw [e];exact I.pre, ?_⟩
 have:=congrArg (List.drop 1) I.post
 simpa [List.drop_drop] using this
theorem DelInv.keep (I:DelInv f p sz l h k i w hh W) {x:α} (hx:l[i]? = some x) (hp:p x=false) (g:Hp):DelInv f p sz l h k (i+1) (w+1) ((hh++g).set k (.arr sz ((W.set w x).map f) true false)) (W.set w x):=by
 have hi:=(List.getElem?_eq_some_iff.1 hx).1
 have hw:=I.wi
 have hl:=I.len
 have e:(l.take (i+1)).filter (fun x => !p x)=((l.take i).filter fun x => !p x)++[x]:=by rw [ZhR hx];simp [hp]
 refine ⟨(I.kept.app g).set _, ?_,by simpa using hl,by rw [e,List.length_append, ← I.hw];rfl, ?_, ?_⟩
 ·have:=(List.getElem?_eq_some_iff.1 (Z09 (g:=g) I.at_)).1
  rw [List.getElem?_set_self this]
 ·rw [e, ← I.pre,List.take_add_one,List.take_set,List.getElem?_set_self (by omega),List.set_eq_of_length_le (by rw [List.length_take];omega)]
  rfl
 ·rw [List.drop_set_of_lt (by omega)]
  have:=congrArg (List.drop 1) I.post
  simpa [List.drop_drop] using this
theorem ZhS {β:Type} {z:List AV} {fr:Nat} {full:Bool} (hat:hh[k]? = some (.arr sz (W.map f) true false)) (hw:w≤W.length) (hfr:fr=W.length) (K:AV→Hp→Option β):
  effK (clrE sz z (.sl sz k w (W.length-w) fr full) hh) hh K=K (.tup []) (hh.set k (.arr sz ((W.take w).map f++List.replicate (W.length-w) z) true false)):=by
 have:clrE sz z (.sl sz k w (W.length-w) fr full) hh=some (.tup [],⟨[(k, .arr sz ((W.take w).map f++List.replicate (W.length-w) z) true false)],[],[k]⟩):=by
  have e:w+(W.length-w)=W.length:=by omega
  simp only [clrE,hat,List.length_map,hfr,e,Nat.le_refl,and_self,if_true]
  rw [List.drop_eq_nil_of_le (by simp),List.append_nil,List.map_take]
 rw [Z0d this]
end
end Go.AM


namespace Go.AM
set_option linter.unusedVariables false
set_option linter.unusedSimpArgs false
set_option linter.constructorNameAsVariable false
set_option maxRecDepth 30000
variable {β:Type} {P:Program} {kt:TypeId} {kk:IntKind}
structure TwoInts (P:Program) (kt:TypeId) (t:TypeId):Prop where
 st : ∃ fs : Array Field, P.underlying kt = some (.struct fs) ∧ ∃ f0 f1 : Field, fs = #[f0, f1] ∧ f0.type = t ∧ f1.type = t ∧ f0.offset = 0 ∧ f1.offset = 1 ∧ (f0.name = "_") = False ∧ (f1.name = "_") = False
 it:P.underlying t=some (.int .i64)
 held:P.stoodInHeld kt=false
theorem Z6z {t:TypeId} (it:P.underlying t=some (.int .i64)) (cs:Array Value) (i:Nat) {v:Value} (hv:cs[i]? = some v):pureVal P (part t cs i)=some v:=by
 unfold part
 rw [Z2D]
 have:pureVal P (isAgg t)=some false:=by
  unfold isAgg
  rw [Z2D,Z4N it]
  rfl
 rw [this,Option.bind_some]
 simp [hv]
 rfl
theorem ZhT {t:TypeId} (it:P.underlying t=some (.int .i64)) (d:Nat) (a b:Int):pureVal P (Op.equalIn (d+1) t (.int .i64 a) (.int .i64 b))=some (a==b):=by
 unfold Op.equalIn
 rw [Z2D,Z4N it]
 rfl
theorem Zvc {t:TypeId} (H:TwoInts P kt t) (a b c e:Int):pureVal P (Op.equal kt (.agg #[.int .i64 a, .int .i64 b]) (.agg #[.int .i64 c, .int .i64 e]))=some (a==c&&b==e):=by
 obtain ⟨⟨fs,hu,f0,f1,rfl,t0,t1,o0,o1,q0,q1⟩,it,hh⟩:=H
 unfold Op.equal
 rw [show Op.maxDepth=(Op.maxDepth-2)+1+1 from rfl]
 unfold Op.equalIn
 rw [Z2D,Z4N hu]
 simp only [Option.bind_some]
 have pp:pureVal P program=some P:=rfl
 have e0:=Z6z it #[.int .i64 a, .int .i64 b] 0 (v := .int .i64 a) rfl
 have e1:=Z6z it #[.int .i64 a, .int .i64 b] 1 (v := .int .i64 b) rfl
 have e2:=Z6z it #[.int .i64 c, .int .i64 e] 0 (v := .int .i64 c) rfl
 have e3:=Z6z it #[.int .i64 c, .int .i64 e] 1 (v := .int .i64 e) rfl
 have g0:=ZhT it (Op.maxDepth-2) a c
 have g1:=ZhT it (Op.maxDepth-2) b e
 rw [Z2D,pp,Option.bind_some,hh]
 simp only [Bool.false_eq_true,if_false, ← Array.forIn_toList,List.forIn_cons,List.forIn_nil,Z2D,t0,t1,o0,o1,q0,q1,e0,e1,e2,e3,g0,g1,Option.bind_some,ne_eq,not_false_eq_true,if_true]
 cases h1:(a==c)<;>cases h2:(b==e)<;>simp [h1,h2,Z2D,Zff,e1,e3,g1]
theorem ZhU {t:TypeId} (H:TwoInts P kt t) (a b c e:Int):keyEq P kt (.agg #[.int .i64 a, .int .i64 b]) (.agg #[.int .i64 c, .int .i64 e])=some (decide ((a,b)=(c,e))):=by
 unfold keyEq
 rw [Zvc H]
 by_cases h1:a=c
 ·by_cases h2:b=e
  ·subst h1 h2
   have:Instr.sameBits 10000 (.agg #[.int .i64 a, .int .i64 b]) (.agg #[.int .i64 a, .int .i64 b])=true:=by simp [Instr.sameBits]
   simp [this]
  ·have:(b==e)=false:=by simpa using h2
   rw [this]
   simp [h2]
 ·have:(a==c)=false:=by simpa using h1
  rw [this]
  simp [h1]
theorem ZhV {t:TypeId} (H:TwoInts P kt t) (a b:Int):keyOk P kt (.agg #[.int .i64 a, .int .i64 b])=true:=by
 obtain ⟨⟨fs,hu,f0,f1,rfl,t0,t1,o0,o1,q0,q1⟩,it,hh⟩:=H
 have ck:∀(m:Bool) (n:Nat) (v:Int),pureVal P (Instr.checkKey m (n+1) t (.int .i64 v))=some ():=by
  intro m n v
  unfold Instr.checkKey
  rw [Z2D,Z4N it]
  rfl
 have e0:=Z6z it #[.int .i64 a, .int .i64 b] 0 (v := .int .i64 a) rfl
 have e1:=Z6z it #[.int .i64 a, .int .i64 b] 1 (v := .int .i64 b) rfl
 have key:∀m,pureVal P (Instr.checkKey m 10000 kt (.agg #[.int .i64 a, .int .i64 b]))=some ():=by
  intro m
  rw [show (10000:Nat)=9998+1+1 from rfl]
  unfold Instr.checkKey
  rw [Z2D,Z4N hu]
  simp only [Option.bind_some]
  simp only [← Array.forIn_toList,List.forIn_cons,List.forIn_nil,Z2D,t0,t1,o0,o1,q0,q1,e0,e1,ck,Option.bind_some,ne_eq,not_false_eq_true,if_true,Zff]
 unfold keyOk
 rw [key,key]
 rfl
abbrev keyT (p:Int × Int):Value := .agg #[.int .i64 p.1, .int .i64 p.2]
abbrev keyA (p:Int × Int):AV := .agg [.s (.int .i64 p.1), .s (.int .i64 p.2)]
section
variable {α:Type}
def kvT (f:α→AV) (c:List ((Int × Int) × α)):List (Value × AV):=c.map fun e=>(keyT e.1,f e.2)
def fndT:List ((Int × Int) × α)→Int × Int→Option (Nat × α)
 | [],_=>none
 | (q,x)::r,p=>if p=q then some (0,x) else (fndT r p).map fun y=>(y.1+1,y.2)
def updT:List ((Int × Int) × α)→Int × Int→α→List ((Int × Int) × α)
 | [],p,x=>[(p,x)]
 | (q,y)::r,p,x=>if p=q then (p,x)::r else (q,y)::updT r p x
theorem ZhW:∀(c:List ((Int × Int) × α)) (p q:Int × Int) (x:α),(fndT (updT c p x) q).map (·.2)=if q=p then some x else (fndT c q).map (·.2)
 | [],p,q,x=>by simp only [updT,fndT];by_cases e:q=p<;>simp [e]
 | (r,y)::c,p,q,x=>by
  have ih:=ZhW c p q x
  simp only [updT]
  by_cases e:p=r
  ·subst e
   simp only [if_true,fndT]
   by_cases e2:q=p<;>simp [e2]
  ·simp only [if_neg e,fndT]
   by_cases e2:q=r
   ·subst e2
    simp [Ne.symm e]
   ·simp only [if_neg e2,Option.map_map]
    rw [show ((fun x:Nat × α=>x.2) ∘ fun y:Nat × α=>(y.1+1,y.2))=fun x=>x.2 from rfl]
    exact ih
variable {f:α→AV} {t:TypeId}
theorem ZhX (H:TwoInts P kt t) (p:Int × Int):∀c:List ((Int × Int) × α),lookupKV (kvT f c) (keyEq P kt) (keyT p)=some ((fndT c p).map fun r=>f r.2)
 | []=>rfl
 | (q,x)::c=>by
  have ih:=ZhX H p c
  simp only [kvT,List.map_cons,lookupKV,ZhU H,fndT] at ih ⊢
  by_cases e:p=q
  ·subst e;simp
  ·have hd:decide ((p.1,p.2)=(q.1,q.2))=false:=decide_eq_false e
   simp only [hd,if_neg e,ih,Option.map_map]
   rfl
theorem ZhY (H:TwoInts P kt t) (p:Int × Int) (x:α):∀c:List ((Int × Int) × α),updateKV (kvT f c) (keyEq P kt) (keyT p) (f x)=some (kvT f (updT c p x))
 | []=>rfl
 | (q,y)::c=>by
  have ih:=ZhY H p x c
  simp only [kvT,List.map_cons,updateKV,ZhU H,updT] at ih ⊢
  by_cases e:p=q
  ·subst e;simp
  ·have hd:decide ((p.1,p.2)=(q.1,q.2))=false:=decide_eq_false e
   simp only [hd,if_neg e,ih,Option.map_some,List.map_cons]
theorem Zvd {h:Hp} {id:Nat} {c:List ((Int × Int) × α)} {z:AV} {ok:Bool} {p:Int × Int} (H:TwoInts P kt t) (hid:h[id]? = some (.map (kvT f c))) (k:K β):
  lookK P kt z ok (.mp id) (keyA p) h k=match fndT c p with
   | some r=>k (if ok then .tup [f r.2, .s (.bool true)] else f r.2)
   | none=>k (if ok then .tup [z, .s (.bool false)] else z):=by
 unfold lookK
 have e:toV (keyA p)=some (keyT p):=rfl
 simp only [e,hid,ZhV H,ZhX H p c,if_true]
 cases fndT c p<;>rfl
theorem Zve {h:Hp} {id:Nat} {c:List ((Int × Int) × α)} {p:Int × Int} {x:α} (H:TwoInts P kt t) (hid:h[id]? = some (.map (kvT f c))):
  mupE P kt (.mp id) (keyA p) (f x) h=some (.u,⟨[(id, .map (kvT f (updT c p x)))],[],[id]⟩):=by
 unfold mupE
 have e:toV (keyA p)=some (keyT p):=rfl
 simp only [e,hid,ZhV H,ZhY H p x c,if_true]
end
end Go.AM


namespace Go.AM
open Go.Proofs
set_option linter.unusedVariables false
set_option linter.unusedSimpArgs false
set_option linter.constructorNameAsVariable false
set_option maxRecDepth 20000
attribute [local congr] Z0j Z0k Z0l Z0m Z0n Z0o Z0p Z0q Z0r Z0s Z0t Z0u Z0v Z0w Z0x Z0y Z0z Z0A Z0B Z0C Z0D Z0E Z0F Z0G Z0H Z0I Z0J
structure Envl where
 frm:Int
 to:Int
 num:Int
 msg:Msg
deriving DecidableEq
def encV (e:Envl):List AV:=[I e.frm,I e.to,I e.num,I e.msg.mv,I e.msg.kind,I e.msg.num,I e.msg.day,I e.msg.frm,I e.msg.to,I e.msg.alc]
abbrev zE:List AV:=[I 0,I 0,I 0,I 0,I 0,I 0,I 0,I 0,I 0,I 0]
section
variable {β:Type}
theorem nbx {h:Hp} (k:AV→Hp→Option β):effK (boxE 10 (.agg zE) h.length) h k=k (.ptr h.length 0 0 1) (h++[.arr 10 [zE] true false]):=Z3e 10 h.length (.agg zE) h k rfl rfl rfl
theorem nst {h:Hp} {m:Envl} (k:AV→Hp→Option β):effK (stE 10 (.ptr h.length 0 0 1) (.agg (encV m)) (h++[.arr 10 [zE] true false])) (h++[.arr 10 [zE] true false]) k=k .u (h++[.arr 10 [encV m] true false]):=by
 rw [Z0d (v := .u) (id:=h.length) (o := .arr 10 [encV m] true false) (ft:=[h.length]) (by simp [encV]),Z3z];rfl
theorem nl0 {h:Hp} {m:Envl} (k:Go.AM.K β):ldK 1 false (.ptr h.length 0 0 1) (h++[.arr 10 [encV m] true false]) k=k (I m.frm):=by simp [encV]
theorem nl1 {h:Hp} {m:Envl} (k:Go.AM.K β):ldK 1 false (.ptr h.length 0 1 1) (h++[.arr 10 [encV m] true false]) k=k (I m.to):=by simp [encV]
theorem nl2 {h:Hp} {m:Envl} (k:Go.AM.K β):ldK 1 false (.ptr h.length 0 2 1) (h++[.arr 10 [encV m] true false]) k=k (I m.num):=by simp [encV]
theorem nl3 {h:Hp} {m:Envl} (k:Go.AM.K β):ldK 7 true (.ptr h.length 0 3 1) (h++[.arr 10 [encV m] true false]) k=k (.agg (encM m.msg)):=by simp [encV,encM]
theorem nlw {h:Hp} {m:Envl} (k:Go.AM.K β):ldK 10 true (.ptr h.length 0 0 1) (h++[.arr 10 [encV m] true false]) k=k (.agg (encV m)):=by simp [encV]
end
def rangeE (e:Envl):Bool:=decide (e.frm<1)||decide (99<e.frm)||decide (e.to<1)||decide (99<e.to)||decide (e.num<1)||decide (1073741824<e.num)
def formE (e:Envl):Int:=if rangeE e=true then 2 else if e.frm=e.to then 10 else if checkM e.msg≠0 then 1 else 0
abbrev fU:Unit→AV:=fun _=>B true
theorem twoN:TwoInts Try.prog 116 3:=⟨⟨_,Try.underlying116,_,_,rfl,rfl,rfl,rfl,rfl,eq_false (by decide),eq_false (by decide)⟩,Try.underlying3,by kernel_rfl⟩
def chkE:List ((Int × Int) × Unit)→Nat→List Envl→Int × Int
 | _,_,[]=>(-1,0)
 | c,i,x::l=>if formE x≠0 then ((i:Int),formE x) else if (fndT c (x.frm,x.num)).isSome=true then ((i:Int),6) else chkE (updT c (x.frm,x.num) ()) (i+1) l
def chkS (l:List Envl):Int × Int:=if 64<l.length then (-1,8) else chkE [] 0 l
theorem Zvf {T:Tab} {D:DTab} {N:Nat} {x0:Hp→Option AV} {xr:AV→AV→Hp→Option AV} {X:Int × Int→Option AV} {l:List Envl} {b:Bool} (hT:T 76=some Z35) (hl:l.length<1000000) (h0:∀h,x0 h=X (-1,0)) (hr:∀(i e:Int) h,xr (I i) (I e) h=X (i,e)):∀(n:Nat) (pre post:List Envl) (c:List ((Int × Int) × Unit)) (h:Hp),l=pre++post→post.length<n→h[0]? = some (.map (kvT fU c))→
  Z3T Try.prog T D N x0 xr n (.mp 0) (.lst 10 b (l.map encV)) (I l.length) (I pre.length) h=X (chkE c pre.length post):=by
 intro n
 induction n with
 | zero=>intro pre post c h _ h2;omega
 | succ n ih=>
  intro pre post c h hc hn hm
  show Z7b Try.prog T D N (Z3T Try.prog T D N x0 xr n) x0 xr _ _ _ _ h=_
  cases post with
  | nil=>
   have:l=pre:=by simpa using hc
   subst this
   have c1:¬((l.length:Int)<(l.length:Int)):=by omega
   simp -implicitDefEqProofs only [Z7b,Z05,c1,decide_false,Z00,Bool.false_eq_true,if_false]
   exact h0 h
  | cons x post=>
   have hi:pre.length<l.length:=by rw [hc];simp
   have hx:l[pre.length]? = some x:=by rw [hc];simp
   have hlt:((pre.length:Int)<(l.length:Int)):=by omega
   have hw:IntKind.i64.wrap ((pre.length:Int)+1)=(((pre++[x]).length:Nat):Int):=by rw [wrap64 (by omega) (by omega)];simp
   have ic:∀k:Go.AM.K AV,iaK 10 (.lst 10 b (l.map encV)) (I pre.length) k=k (.ep (encV x) 0):=fun k=>Z0P pre.length rfl hx k
   have ld:∀k:Go.AM.K AV,ldK 10 true (.ep (encV x) 0) h k=k (.agg (encV x)):=fun k=>rfl
   obtain ⟨h1,hh1⟩:∃h1,h1=h++[AObj.arr 10 [encV x] true false]:=⟨_,rfl⟩
   have hm1:h1[0]? = some (.map (kvT fU c)):=by rw [hh1];exact Z09 hm
   have m0:∀k:Go.AM.K AV,ldK 1 false (.ptr h.length 0 0 1) h1 k=k (I x.frm):=fun k=>by rw [hh1];exact nl0 k
   have m1:∀k:Go.AM.K AV,ldK 1 false (.ptr h.length 0 1 1) h1 k=k (I x.to):=fun k=>by rw [hh1];exact nl1 k
   have m2:∀k:Go.AM.K AV,ldK 1 false (.ptr h.length 0 2 1) h1 k=k (I x.num):=fun k=>by rw [hh1];exact nl2 k
   have m3:∀k:Go.AM.K AV,ldK 7 true (.ptr h.length 0 3 1) h1 k=k (.agg (encM x.msg)):=fun k=>by rw [hh1];exact nl3 k
   have bd:∀k:Go.AM.K AV,buildK [.s (.int .i64 0), .s (.int .i64 0)] [(some (0,1),I x.frm),(some (1,1),I x.num)] k=k (keyA (x.frm,x.num)):=fun k=>rfl
   have lk:∀k:Go.AM.K AV,lookK Try.prog 116 (.s (.bool false)) false (.mp 0) (keyA (x.frm,x.num)) h1 k=k (B (fndT c (x.frm,x.num)).isSome):=fun k=>by
    rw [Zvd (p:=(x.frm,x.num)) (f:=fU) (c:=c) twoN hm1]
    cases fndT c (x.frm,x.num)<;>rfl
   have mu:∀k:AV→Hp→Option AV,effK (mupE Try.prog 116 (.mp 0) (keyA (x.frm,x.num)) (.s (.bool true)) h1) h1 k=k .u (h1.set 0 (.map (kvT fU (updT c (x.frm,x.num) ())))):=fun k=>
    Z0d (Zve (p:=(x.frm,x.num)) (f:=fU) (x:=()) (c:=c) twoN hm1) k
   have fd:=Zdl x.msg
   have ns:∀k:AV→Hp→Option AV,effK (stE 10 (.ptr h.length 0 0 1) (.agg (encV x)) (h++[.arr 10 [zE] true false])) (h++[.arr 10 [zE] true false]) k=k .u h1:=fun k=>by rw [hh1];exact nst k
   have rg:((((decide (x.frm<1)||decide (x.frm > 99))||decide (x.to<1))||decide (x.to > 99))||decide (x.num<1)||decide (x.num > 1073741824))=rangeE x:=rfl
   simp -implicitDefEqProofs only [Z7b,Z05,hlt,decide_true,Z00,if_true,ic,ld,nbx,ns,Z06,Nat.zero_add,m0,m1,m2,m3,Z0e,Z0h,rg,Z04,Bool.false_xor,Bool.true_xor,hT,Z02,fd,bd,lk,mu,Z0M,hw,hr]
   have ih1:=ih (pre++[x]) post (updT c (x.frm,x.num) ()) (h1.set 0 (.map (kvT fU (updT c (x.frm,x.num) ())))) (by simpa using hc) (by simpa using hn) (List.getElem?_set_self (List.getElem?_eq_some_iff.1 hm1).1)
   rw [show (pre++[x]).length=pre.length+1 by simp] at ih1 ⊢
   simp only [chkE]
   cases hrg:rangeE x with
   | true=>simp [formE,hrg]
   | false=>
    by_cases e1:x.frm=x.to
    ·simp [formE,hrg,e1]
    ·by_cases e2:checkM x.msg=0
     ·cases e3:(fndT c (x.frm,x.num)).isSome with
      | true=>simp [formE,hrg,e1,e2]
      | false=>
       simp [formE,hrg,e1,e2]
       simpa using ih1
     ·simp [formE,hrg,e1,e2]
def tupP (r:Int × Int):AV := .tup [I r.1,I r.2]
theorem Zvg (l:List Envl) (b:Bool) (hl:l.length<1000000) (h:Hp):Z4A [.lst 10 b (l.map encV)] h=some (tupP (chkS l),h):=by
 refine ZqG (a0 := .lst 10 b (l.map encV)) (v:=tupP (chkS l)) rfl ?_ h
 unfold chkS
 simp only [nrm,nrmC]
 simp -implicitDefEqProofs only [Z7c,Z0a,List.length_map,Z0e,Z00]
 by_cases h64:64<l.length
 ·have c:(l.length:Int) > 64:=by omega
  simp only [c,decide_true,if_true,if_pos h64]
  rfl
 ·have c:¬(l.length:Int) > 64:=by omega
  have em:∀k:AV→Hp→Option AV,effK (some (.mp ([]:Hp).length,EN (.map []))) [] k=k (.mp 0) [.map []]:=fun k=>rfl
  simp only [c,decide_false,Bool.false_eq_true,if_false,if_neg h64,em]
  exact Zvf (X:=fun r=>some (tupP r)) rfl hl (fun h=>rfl) (fun i e h=>rfl) NN [] l [] [.map []] rfl (by have:=NN_ge;omega) rfl
end Go.AM


namespace Go.AM
open Go.Proofs
set_option linter.unusedVariables false
set_option linter.unusedSimpArgs false
set_option linter.constructorNameAsVariable false
set_option maxRecDepth 20000
attribute [local congr] Z0j Z0k Z0l Z0m Z0n Z0o Z0p Z0q Z0r Z0s Z0t Z0u Z0v Z0w Z0x Z0y Z0z Z0A Z0B Z0C Z0D Z0E Z0F Z0G Z0H Z0I Z0J
section
variable {β:Type} {P:Program} {T:Tab} {D:DTab} {N:Nat} {K:AV→Hp→Option β}
end
end Go.AM


namespace Go.AM
open Go.Proofs
set_option linter.unusedVariables false
set_option linter.unusedSimpArgs false
set_option linter.constructorNameAsVariable false
set_option maxRecDepth 20000
attribute [local congr] Z0j Z0k Z0l Z0m Z0n Z0o Z0p Z0q Z0r Z0s Z0t Z0u Z0v Z0w Z0x Z0y Z0z Z0A Z0B Z0C Z0D Z0E Z0F Z0G Z0H Z0I Z0J
theorem Zvh {h:Hp} {g:List AObj} {id:Nat} {x o:AObj} (hid:h[id]? = some x):(h++g).set id o=h.set id o++g:=by
 rw [List.set_append_left _ _ (List.getElem?_eq_some_iff.1 hid).1]
theorem beginN {β:Type} {h:Hp} {g:List AObj} {L m:Nat} {ps:Array Tmp} {asg body:Code} {ts:Tm} {pend:Option Code} (hL:h[L]? = some (.loop m ps asg body ts .ready pend)) (k:Hp→Option β):
  beginX L m ps asg body ts (h++g) k=k (h.set L (.loop m ps asg body ts .busy pend)++g):=by
 unfold beginX
 rw [Z09 hL]
 simp only
 rw [Zvh hL]
theorem getSetN {h:Hp} {i j:Nat} {x o:AObj} (hj:h[j]? = some x) (hij:i≠j):(h.set i o)[j]? = some x:=by rw [List.getElem?_set_ne hij];exact hj
theorem getSelfN {h:Hp} {i:Nat} {x o:AObj} (hi:h[i]? = some x):(h.set i o)[i]? = some o:=List.getElem?_set_self (List.getElem?_eq_some_iff.1 hi).1
end Go.AM


namespace Go.AM
open Go.Proofs
set_option linter.unusedVariables false
set_option linter.unusedSimpArgs false
set_option linter.constructorNameAsVariable false
set_option maxRecDepth 20000
attribute [local congr] Z0j Z0k Z0l Z0m Z0n Z0o Z0p Z0q Z0r Z0s Z0t Z0u Z0v Z0w Z0x Z0y Z0z Z0A Z0B Z0C Z0D Z0E Z0F Z0G Z0H Z0I Z0J
theorem Zvi {β:Type} {T:Tab} {F:Fun} {f:FuncId} {caps:List AV} {h h':Hp} {m:Nat} {ps:Array Tmp} {asg body:Code} {ts:Tm} {v:AV} {pend:Option Code} {k:Option Code→Hp→Option β} (hT:T f=some F) (hF:F (.yl h.length::caps) (h++[.loop m ps asg body ts .ready none])=some (v,h')) (hl:h'[h.length]? = some (.loop m ps asg body ts .ready pend)):
  rangeX T (.fn f caps) m ps asg body ts h k=k pend (h'.set h.length (.loop m ps asg body ts .exhausted pend)):=by
 unfold rangeX
 simp only [hT,Z02,hF,hl]
end Go.AM


namespace Go.AM
open Go.Proofs
set_option linter.unusedVariables false
set_option linter.unusedSimpArgs false
set_option linter.constructorNameAsVariable false
set_option maxRecDepth 20000
attribute [local congr] Z0j Z0k Z0l Z0m Z0n Z0o Z0p Z0q Z0r Z0s Z0t Z0u Z0v Z0w Z0x Z0y Z0z Z0A Z0B Z0C Z0D Z0E Z0F Z0G Z0H Z0I Z0J
section
variable {β:Type} {P:Program} {kt:TypeId}
end
end Go.AM


namespace Go.AM
open Go.Proofs
set_option linter.unusedVariables false
set_option linter.unusedSimpArgs false
set_option linter.constructorNameAsVariable false
set_option maxRecDepth 20000
attribute [local congr] Z0j Z0k Z0l Z0m Z0n Z0o Z0p Z0q Z0r Z0s Z0t Z0u Z0v Z0w Z0x Z0y Z0z Z0A Z0B Z0C Z0D Z0E Z0F Z0G Z0H Z0I Z0J
theorem Kept.trans {h h1 h2:Hp} {k:Nat} (a:Kept h h1 k) (b:Kept h1 h2 k):Kept h h2 k:=⟨by have:=a.len;have:=b.len;omega,fun j h1 h2=>by rw [b.same j h1 (by have:=a.len;omega),a.same j h1 h2]⟩
end Go.AM


namespace Go.AM
open Go.Proofs
set_option linter.unusedVariables false
set_option linter.unusedSimpArgs false
set_option linter.constructorNameAsVariable false
set_option maxRecDepth 20000
section
variable {β:Type} {P:Program} {T:Tab} {D:DTab} {N:Nat} {K:AV→Hp→Option β}
theorem Zvj {T:Tab} {D:DTab} {N:Nat} {x0:Hp→Option β} {xr:AV→Hp→Option β} {l:List Msg} {b:Bool} {v:Msg} {h:Hp} {m:Nat} (hm:h[m]? = some (.arr 7 [encM v] true false)) (hl:l.length<4611686018427387904) (heq:∀(x y:Msg) (h:Hp) (k:Go.AM.K β),eqK Try.prog false 27 (.agg (encM x)) (.agg (encM y)) h k=k (B (x==y))):
  ∀(n i:Nat),i≤l.length→l.length<i+n→Z42 Try.prog T D N x0 xr n (.lst 7 b (l.map encM)) (.ptr m 0 0 1) (I l.length) (I i) h=match (l.drop i).findIdx? (fun y=>v==y) with | some j=>xr (I ((i+j:Nat):Int)) h | none=>x0 h:=by
 intro n
 induction n with
 | zero=>intro i h1 h2;omega
 | succ n ih=>
  intro i h1 h2
  show Z9A Try.prog T D N (Z42 Try.prog T D N x0 xr n) x0 xr _ _ _ _ h=_
  unfold Z9A
  rcases Nat.lt_or_ge i l.length with hi | hi
  ·have hx:l[i]? = some l[i]:=List.getElem?_eq_getElem hi
   have hlt:((i:Int)<(l.length:Int)):=by omega
   have hw:IntKind.i64.wrap ((i:Int)+1)=((i+1:Nat):Int):=by rw [wrap64 (by omega) (by omega)];omega
   have hpx:=fun k=>heq v l[i] h k
   have h3:=ih (i+1) hi (by omega)
   have ic:∀k:Go.AM.K β,iaK 7 (.lst 7 b (l.map encM)) (I i) k=k (.ep (encM l[i]) 0):=fun k=>Z0P i rfl hx k
   have ld:∀k:Go.AM.K β,ldK 7 true (.ep (encM l[i]) 0) h k=k ((fun y => .agg (encM y)) l[i]):=fun k=>by simp [encM]
   rw [List.drop_eq_getElem_cons hi,List.findIdx?_cons]
   have lv:∀k:Go.AM.K β,ldK 7 true (.ptr m 0 0 1) h k=k ((fun x => .agg (encM x)) v):=fun k=>by simp [hm,encM]
   dsimp only at h3 ld lv ⊢
   simp only [Z05,hlt,decide_true,Z00,if_true,ic,ld,lv,hpx]
   cases hc:(v==l[i]) with
   | true=>simp
   | false=>
    simp only [Bool.false_eq_true,if_false,Z0M,hw]
    refine h3.trans ?_
    cases (List.drop (i+1) l).findIdx? (fun y=>v==y) with
    | none=>rfl
    | some j=>
     show xr (I ((i+1+j:Nat):Int)) h=xr (I ((i+(j+1):Nat):Int)) h
     rw [show i+1+j=i+(j+1) by omega]
  ·have:i=l.length:=by omega
   subst this
   simp
theorem Zvk (l:List Msg) (b:Bool) (v:Msg) (hl:l.length<1000000) (heq:∀(x y:Msg) (h:Hp) (k:Go.AM.K AV),eqK Try.prog false 27 (.agg (encM x)) (.agg (encM y)) h k=k (B (x==y))) (h:Hp):Z85 [.lst 7 b (l.map encM),(fun x => .agg (encM x)) v] h=some (B (l.contains v),h):=by
 have e:∀h,Z83 [.lst 7 b (l.map encM),(fun x => .agg (encM x)) v] h=some (I (match l.findIdx? (fun y=>v==y) with | some j=>(j:Int) | none => -1),h):=
  Zqu rfl (by
   have:=Zvj (l:=l) (T:=Z62) (D:=Z61) (N:=NN) (b:=b) (v:=v) (h:=[.arr 7 [encM v] true false]) (m:=0) (x0:=fun h=>Z9z Try.prog Z62 Z61 NN (fun v g=>cvt false g v) h) (xr:=fun a h=>cvt false h a) rfl (by omega) heq NN 0 (Nat.zero_le _) (by have:=NN_ge;omega)
   have bx:∀k:AV→Hp→Option AV,effK (boxE 7 ((fun x => .agg (encM x)) v) ([]:Hp).length) [] k=k (.ptr 0 0 0 1) [.arr 7 [encM v] true false]:=fun k=>by simp [boxE,encM]
   simp only [nrm,nrmC,Z7h,Z0a,List.length_map,bx]
   simp only [List.drop_zero] at this
   refine this.trans ?_
   cases l.findIdx? (fun y=>v==y) with
   | none=>rfl
   | some j=>simp)
 have bx:∀k:AV→Hp→Option AV,effK (boxE 7 ((fun x => .agg (encM x)) v) ([]:Hp).length) [] k=k (.ptr 0 0 0 1) [.arr 7 [encM v] true false]:=fun k=>by simp [boxE,encM]
 have lv:∀k:Go.AM.K AV,ldK 7 true (.ptr 0 0 0 1) [.arr 7 [encM v] true false] k=k ((fun x => .agg (encM x)) v):=fun k=>by simp [encM]
 refine ZqB rfl ?_ h
 simp only [nrm,nrmC,Z9e,bx,lv,Zqx,Z02,e]
 have:l.contains v=(l.findIdx? (fun y=>v==y)).isSome:=by rw [List.findIdx?_isSome,List.contains_eq_any_beq]
 rw [this]
 cases l.findIdx? (fun y=>v==y)<;>simp
end
attribute [local congr] Z0j Z0k Z0l Z0m Z0n Z0o Z0p Z0q Z0r Z0s Z0t Z0u Z0v Z0w Z0x Z0y Z0z Z0A Z0B Z0C Z0D Z0E Z0F Z0G Z0H Z0I Z0J
end Go.AM

