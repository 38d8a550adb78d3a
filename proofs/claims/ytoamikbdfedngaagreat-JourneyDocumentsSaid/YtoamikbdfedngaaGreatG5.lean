import Derived.Test.YtoamikbdfedngaaGreatG4
import Derived.Lib.Mul64
set_option linter.unusedSectionVars false
set_option linter.unusedVariables false
set_option linter.unusedSimpArgs false
set_option linter.constructorNameAsVariable false
namespace Go.AM
open Go.Proofs
set_option linter.unusedVariables false
set_option maxRecDepth 100000
theorem mixed : Tryz.prog.follows .mixedOrders = true := by kernel_rfl
theorem NN_ex : ∃ n : Nat, 1000000 ≤ n ∧ n < 4611686018427387904 := ⟨1000000, by omega, by omega⟩
noncomputable def NN : Nat := NN_ex.choose
theorem NN_ge : 1000000 ≤ NN := NN_ex.choose_spec.1
theorem NN_lt : NN < 4611686018427387904 := NN_ex.choose_spec.2
noncomputable def d_journey_in : DTab := D0
theorem d_journey_in_ok : DSound Tryz.prog d_journey_in := DSound.zero
noncomputable def t_journey_in : Tab := T0
theorem t_journey_in_ok : TSound Tryz.prog t_journey_in := TSound.zero
noncomputable def R_journey_in : Fun := runF Tryz.prog t_journey_in d_journey_in NN [0, 1, 2, 6] Tryz.f24 3
theorem R_journey_in_ok : CSound Tryz.prog 24 R_journey_in := run_sound t_journey_in_ok d_journey_in_ok mixed Tryz.func24 (by kernel_rfl) NN
theorem R_journey_in_eq {β : Type} (K : AV → Hp → Option β) (a0 : AV) (a1 : AV) (a2 : AV) (h : Hp) : (R_journey_in [a0, a1, a2] h).bind (fun p => K p.1 p.2) = f_journey_in Tryz.prog t_journey_in d_journey_in NN K a0 a1 a2 h := by
  rw [← f_journey_in_run]; exact runF_bind rfl
noncomputable def F_journey_in : Fun := closedX [.o, .o, .o] [.o] R_journey_in
theorem F_journey_in_ok : CSound Tryz.prog 24 F_journey_in := closedX_sound _ _ R_journey_in_ok
noncomputable def G_journey_in : DFun := closedXD [.o, .o, .o] [.o] R_journey_in
theorem G_journey_in_ro : Ro F_journey_in G_journey_in := closedX_ro _ _ _
theorem F_journey_in_run {a0 : AV} {a1 : AV} {a2 : AV} {v : AV} (ha : plains [a0, a1, a2] = true) (hv : f_journey_in Tryz.prog t_journey_in d_journey_in NN (fun v g => cvt false g v) a0 a1 a2 [] = some v) (h : Hp) : F_journey_in [a0, a1, a2] h = some (v, h) := by
  have e : (R_journey_in (nrms [.o, .o, .o] [a0, a1, a2]) []).bind (fun (p : AV × Hp) => cvt false p.2 p.1) = some v := (R_journey_in_eq (fun v g => cvt false g v) a0 a1 a2 []).trans hv
  exact (closedX_bind (shr := [.o]) ha e h).trans (congrArg (fun x => some (x, h)) (nrmR_rep 1 v))
noncomputable def d_journey_table_1 : DTab := D0
theorem d_journey_table_1_ok : DSound Tryz.prog d_journey_table_1 := DSound.zero
noncomputable def t_journey_table_1 : Tab := T0
theorem t_journey_table_1_ok : TSound Tryz.prog t_journey_table_1 := TSound.zero
noncomputable def R_journey_table_1 : Fun := runF Tryz.prog t_journey_table_1 d_journey_table_1 NN [0, 2] Tryz.f54 1
theorem R_journey_table_1_ok : CSound Tryz.prog 54 R_journey_table_1 := run_sound t_journey_table_1_ok d_journey_table_1_ok mixed Tryz.func54 (by kernel_rfl) NN
theorem R_journey_table_1_eq {β : Type} (K : AV → Hp → Option β) (a0 : AV) (h : Hp) : (R_journey_table_1 [a0] h).bind (fun p => K p.1 p.2) = f_journey_table_1 Tryz.prog t_journey_table_1 d_journey_table_1 NN K a0 h := by
  rw [← f_journey_table_1_run]; exact runF_bind rfl
noncomputable def F_journey_table_1 : Fun := closedX [.o] [.o] R_journey_table_1
theorem F_journey_table_1_ok : CSound Tryz.prog 54 F_journey_table_1 := closedX_sound _ _ R_journey_table_1_ok
noncomputable def G_journey_table_1 : DFun := closedXD [.o] [.o] R_journey_table_1
theorem G_journey_table_1_ro : Ro F_journey_table_1 G_journey_table_1 := closedX_ro _ _ _
theorem F_journey_table_1_run {a0 : AV} {v : AV} (ha : plains [a0] = true) (hv : f_journey_table_1 Tryz.prog t_journey_table_1 d_journey_table_1 NN (fun v g => cvt false g v) a0 [] = some v) (h : Hp) : F_journey_table_1 [a0] h = some (v, h) := by
  have e : (R_journey_table_1 (nrms [.o] [a0]) []).bind (fun (p : AV × Hp) => cvt false p.2 p.1) = some v := (R_journey_table_1_eq (fun v g => cvt false g v) a0 []).trans hv
  exact (closedX_bind (shr := [.o]) ha e h).trans (congrArg (fun x => some (x, h)) (nrmR_rep 1 v))
noncomputable def d_journey_table_2 : DTab := D0
theorem d_journey_table_2_ok : DSound Tryz.prog d_journey_table_2 := DSound.zero
noncomputable def t_journey_table_2 : Tab := T0
theorem t_journey_table_2_ok : TSound Tryz.prog t_journey_table_2 := TSound.zero
noncomputable def R_journey_table_2 : Fun := runF Tryz.prog t_journey_table_2 d_journey_table_2 NN [0, 1, 2] Tryz.f55 1
theorem R_journey_table_2_ok : CSound Tryz.prog 55 R_journey_table_2 := run_sound t_journey_table_2_ok d_journey_table_2_ok mixed Tryz.func55 (by kernel_rfl) NN
theorem R_journey_table_2_eq {β : Type} (K : AV → Hp → Option β) (a0 : AV) (h : Hp) : (R_journey_table_2 [a0] h).bind (fun p => K p.1 p.2) = f_journey_table_2 Tryz.prog t_journey_table_2 d_journey_table_2 NN K a0 h := by
  rw [← f_journey_table_2_run]; exact runF_bind rfl
noncomputable def F_journey_table_2 : Fun := closedX [.o] [.o] R_journey_table_2
theorem F_journey_table_2_ok : CSound Tryz.prog 55 F_journey_table_2 := closedX_sound _ _ R_journey_table_2_ok
noncomputable def G_journey_table_2 : DFun := closedXD [.o] [.o] R_journey_table_2
theorem G_journey_table_2_ro : Ro F_journey_table_2 G_journey_table_2 := closedX_ro _ _ _
theorem F_journey_table_2_run {a0 : AV} {v : AV} (ha : plains [a0] = true) (hv : f_journey_table_2 Tryz.prog t_journey_table_2 d_journey_table_2 NN (fun v g => cvt false g v) a0 [] = some v) (h : Hp) : F_journey_table_2 [a0] h = some (v, h) := by
  have e : (R_journey_table_2 (nrms [.o] [a0]) []).bind (fun (p : AV × Hp) => cvt false p.2 p.1) = some v := (R_journey_table_2_eq (fun v g => cvt false g v) a0 []).trans hv
  exact (closedX_bind (shr := [.o]) ha e h).trans (congrArg (fun x => some (x, h)) (nrmR_rep 1 v))
noncomputable def d_journey_table_3 : DTab := D0
theorem d_journey_table_3_ok : DSound Tryz.prog d_journey_table_3 := DSound.zero
noncomputable def t_journey_table_3 : Tab := (updF T0 24 F_journey_in)
theorem t_journey_table_3_ok : TSound Tryz.prog t_journey_table_3 := (TSound.upd TSound.zero F_journey_in_ok)
@[simp] theorem t_journey_table_3_24 : t_journey_table_3 24 = some F_journey_in := rfl
noncomputable def R_journey_table_3 : Fun := runF Tryz.prog t_journey_table_3 d_journey_table_3 NN [0, 1, 2] Tryz.f56 1
theorem R_journey_table_3_ok : CSound Tryz.prog 56 R_journey_table_3 := run_sound t_journey_table_3_ok d_journey_table_3_ok mixed Tryz.func56 (by kernel_rfl) NN
theorem R_journey_table_3_eq {β : Type} (K : AV → Hp → Option β) (a0 : AV) (h : Hp) : (R_journey_table_3 [a0] h).bind (fun p => K p.1 p.2) = f_journey_table_3 Tryz.prog t_journey_table_3 d_journey_table_3 NN K a0 h := by
  rw [← f_journey_table_3_run]; exact runF_bind rfl
noncomputable def F_journey_table_3 : Fun := closedX [.o] [.o] R_journey_table_3
theorem F_journey_table_3_ok : CSound Tryz.prog 56 F_journey_table_3 := closedX_sound _ _ R_journey_table_3_ok
noncomputable def G_journey_table_3 : DFun := closedXD [.o] [.o] R_journey_table_3
theorem G_journey_table_3_ro : Ro F_journey_table_3 G_journey_table_3 := closedX_ro _ _ _
theorem F_journey_table_3_run {a0 : AV} {v : AV} (ha : plains [a0] = true) (hv : f_journey_table_3 Tryz.prog t_journey_table_3 d_journey_table_3 NN (fun v g => cvt false g v) a0 [] = some v) (h : Hp) : F_journey_table_3 [a0] h = some (v, h) := by
  have e : (R_journey_table_3 (nrms [.o] [a0]) []).bind (fun (p : AV × Hp) => cvt false p.2 p.1) = some v := (R_journey_table_3_eq (fun v g => cvt false g v) a0 []).trans hv
  exact (closedX_bind (shr := [.o]) ha e h).trans (congrArg (fun x => some (x, h)) (nrmR_rep 1 v))
noncomputable def d_journey_node : DTab := D0
theorem d_journey_node_ok : DSound Tryz.prog d_journey_node := DSound.zero
noncomputable def t_journey_node : Tab := (updF T0 24 F_journey_in)
theorem t_journey_node_ok : TSound Tryz.prog t_journey_node := (TSound.upd TSound.zero F_journey_in_ok)
@[simp] theorem t_journey_node_24 : t_journey_node 24 = some F_journey_in := rfl
noncomputable def R_journey_node : Fun := runF Tryz.prog t_journey_node d_journey_node NN [0, 2] Tryz.f58 1
theorem R_journey_node_ok : CSound Tryz.prog 58 R_journey_node := run_sound t_journey_node_ok d_journey_node_ok mixed Tryz.func58 (by kernel_rfl) NN
theorem R_journey_node_eq {β : Type} (K : AV → Hp → Option β) (a0 : AV) (h : Hp) : (R_journey_node [a0] h).bind (fun p => K p.1 p.2) = f_journey_node Tryz.prog t_journey_node d_journey_node NN K a0 h := by
  rw [← f_journey_node_run]; exact runF_bind rfl
noncomputable def F_journey_node : Fun := closedX [.o] [.o] R_journey_node
theorem F_journey_node_ok : CSound Tryz.prog 58 F_journey_node := closedX_sound _ _ R_journey_node_ok
theorem F_journey_node_run {a0 : AV} {v : AV} (ha : plains [a0] = true) (hv : f_journey_node Tryz.prog t_journey_node d_journey_node NN (fun v g => cvt false g v) a0 [] = some v) (h : Hp) : F_journey_node [a0] h = some (v, h) := by
  have e : (R_journey_node (nrms [.o] [a0]) []).bind (fun (p : AV × Hp) => cvt false p.2 p.1) = some v := (R_journey_node_eq (fun v g => cvt false g v) a0 []).trans hv
  exact (closedX_bind (shr := [.o]) ha e h).trans (congrArg (fun x => some (x, h)) (nrmR_rep 1 v))
noncomputable def d_journey_table_4 : DTab := D0
theorem d_journey_table_4_ok : DSound Tryz.prog d_journey_table_4 := DSound.zero
noncomputable def t_journey_table_4 : Tab := (updF (updF T0 24 F_journey_in) 58 F_journey_node)
theorem t_journey_table_4_ok : TSound Tryz.prog t_journey_table_4 := (TSound.upd (TSound.upd TSound.zero F_journey_in_ok) F_journey_node_ok)
@[simp] theorem t_journey_table_4_24 : t_journey_table_4 24 = some F_journey_in := rfl
@[simp] theorem t_journey_table_4_58 : t_journey_table_4 58 = some F_journey_node := rfl
noncomputable def R_journey_table_4 : Fun := runF Tryz.prog t_journey_table_4 d_journey_table_4 NN [0, 1, 2] Tryz.f57 1
theorem R_journey_table_4_ok : CSound Tryz.prog 57 R_journey_table_4 := run_sound t_journey_table_4_ok d_journey_table_4_ok mixed Tryz.func57 (by kernel_rfl) NN
theorem R_journey_table_4_eq {β : Type} (K : AV → Hp → Option β) (a0 : AV) (h : Hp) : (R_journey_table_4 [a0] h).bind (fun p => K p.1 p.2) = f_journey_table_4 Tryz.prog t_journey_table_4 d_journey_table_4 NN K a0 h := by
  rw [← f_journey_table_4_run]; exact runF_bind rfl
noncomputable def F_journey_table_4 : Fun := closedX [.o] [.o] R_journey_table_4
theorem F_journey_table_4_ok : CSound Tryz.prog 57 F_journey_table_4 := closedX_sound _ _ R_journey_table_4_ok
noncomputable def G_journey_table_4 : DFun := closedXD [.o] [.o] R_journey_table_4
theorem G_journey_table_4_ro : Ro F_journey_table_4 G_journey_table_4 := closedX_ro _ _ _
theorem F_journey_table_4_run {a0 : AV} {v : AV} (ha : plains [a0] = true) (hv : f_journey_table_4 Tryz.prog t_journey_table_4 d_journey_table_4 NN (fun v g => cvt false g v) a0 [] = some v) (h : Hp) : F_journey_table_4 [a0] h = some (v, h) := by
  have e : (R_journey_table_4 (nrms [.o] [a0]) []).bind (fun (p : AV × Hp) => cvt false p.2 p.1) = some v := (R_journey_table_4_eq (fun v g => cvt false g v) a0 []).trans hv
  exact (closedX_bind (shr := [.o]) ha e h).trans (congrArg (fun x => some (x, h)) (nrmR_rep 1 v))
noncomputable def d_journey_table_5 : DTab := D0
theorem d_journey_table_5_ok : DSound Tryz.prog d_journey_table_5 := DSound.zero
noncomputable def t_journey_table_5 : Tab := T0
theorem t_journey_table_5_ok : TSound Tryz.prog t_journey_table_5 := TSound.zero
noncomputable def R_journey_table_5 : Fun := runF Tryz.prog t_journey_table_5 d_journey_table_5 NN [0, 1, 3] Tryz.f59 2
theorem R_journey_table_5_ok : CSound Tryz.prog 59 R_journey_table_5 := run_sound t_journey_table_5_ok d_journey_table_5_ok mixed Tryz.func59 (by kernel_rfl) NN
theorem R_journey_table_5_eq {β : Type} (K : AV → Hp → Option β) (a0 : AV) (a1 : AV) (h : Hp) : (R_journey_table_5 [a0, a1] h).bind (fun p => K p.1 p.2) = f_journey_table_5 Tryz.prog t_journey_table_5 d_journey_table_5 NN K a0 a1 h := by
  rw [← f_journey_table_5_run]; exact runF_bind rfl
noncomputable def F_journey_table_5 : Fun := R_journey_table_5
theorem F_journey_table_5_ok : CSound Tryz.prog 59 F_journey_table_5 := R_journey_table_5_ok
noncomputable def G_journey_table_5 : DFun := wrD F_journey_table_5
theorem F_journey_table_5_raw (a0 : AV) (a1 : AV) (h : Hp) : F_journey_table_5 [a0, a1] h = f_journey_table_5 Tryz.prog t_journey_table_5 d_journey_table_5 NN (fun v h => some (v, h)) a0 a1 h := (bind_pair _).symm.trans (R_journey_table_5_eq (fun v h => some (v, h)) a0 a1 h)
noncomputable def d_journey_table_6 : DTab := D0
theorem d_journey_table_6_ok : DSound Tryz.prog d_journey_table_6 := DSound.zero
noncomputable def t_journey_table_6 : Tab := (updF T0 58 F_journey_node)
theorem t_journey_table_6_ok : TSound Tryz.prog t_journey_table_6 := (TSound.upd TSound.zero F_journey_node_ok)
@[simp] theorem t_journey_table_6_58 : t_journey_table_6 58 = some F_journey_node := rfl
noncomputable def R_journey_table_6 : Fun := runF Tryz.prog t_journey_table_6 d_journey_table_6 NN [0, 1, 2] Tryz.f60 1
theorem R_journey_table_6_ok : CSound Tryz.prog 60 R_journey_table_6 := run_sound t_journey_table_6_ok d_journey_table_6_ok mixed Tryz.func60 (by kernel_rfl) NN
theorem R_journey_table_6_eq {β : Type} (K : AV → Hp → Option β) (a0 : AV) (h : Hp) : (R_journey_table_6 [a0] h).bind (fun p => K p.1 p.2) = f_journey_table_6 Tryz.prog t_journey_table_6 d_journey_table_6 NN K a0 h := by
  rw [← f_journey_table_6_run]; exact runF_bind rfl
noncomputable def F_journey_table_6 : Fun := closedX [.o] [.o] R_journey_table_6
theorem F_journey_table_6_ok : CSound Tryz.prog 60 F_journey_table_6 := closedX_sound _ _ R_journey_table_6_ok
noncomputable def G_journey_table_6 : DFun := closedXD [.o] [.o] R_journey_table_6
theorem G_journey_table_6_ro : Ro F_journey_table_6 G_journey_table_6 := closedX_ro _ _ _
theorem F_journey_table_6_run {a0 : AV} {v : AV} (ha : plains [a0] = true) (hv : f_journey_table_6 Tryz.prog t_journey_table_6 d_journey_table_6 NN (fun v g => cvt false g v) a0 [] = some v) (h : Hp) : F_journey_table_6 [a0] h = some (v, h) := by
  have e : (R_journey_table_6 (nrms [.o] [a0]) []).bind (fun (p : AV × Hp) => cvt false p.2 p.1) = some v := (R_journey_table_6_eq (fun v g => cvt false g v) a0 []).trans hv
  exact (closedX_bind (shr := [.o]) ha e h).trans (congrArg (fun x => some (x, h)) (nrmR_rep 1 v))
noncomputable def d_journey_table_7 : DTab := D0
theorem d_journey_table_7_ok : DSound Tryz.prog d_journey_table_7 := DSound.zero
noncomputable def t_journey_table_7 : Tab := T0
theorem t_journey_table_7_ok : TSound Tryz.prog t_journey_table_7 := TSound.zero
noncomputable def R_journey_table_7 : Fun := runF Tryz.prog t_journey_table_7 d_journey_table_7 NN [0, 1] Tryz.f61 2
theorem R_journey_table_7_ok : CSound Tryz.prog 61 R_journey_table_7 := run_sound t_journey_table_7_ok d_journey_table_7_ok mixed Tryz.func61 (by kernel_rfl) NN
theorem R_journey_table_7_eq {β : Type} (K : AV → Hp → Option β) (a0 : AV) (a1 : AV) (h : Hp) : (R_journey_table_7 [a0, a1] h).bind (fun p => K p.1 p.2) = f_journey_table_7 Tryz.prog t_journey_table_7 d_journey_table_7 NN K a0 a1 h := by
  rw [← f_journey_table_7_run]; exact runF_bind rfl
noncomputable def F_journey_table_7 : Fun := R_journey_table_7
theorem F_journey_table_7_ok : CSound Tryz.prog 61 F_journey_table_7 := R_journey_table_7_ok
noncomputable def G_journey_table_7 : DFun := wrD F_journey_table_7
theorem F_journey_table_7_raw (a0 : AV) (a1 : AV) (h : Hp) : F_journey_table_7 [a0, a1] h = f_journey_table_7 Tryz.prog t_journey_table_7 d_journey_table_7 NN (fun v h => some (v, h)) a0 a1 h := (bind_pair _).symm.trans (R_journey_table_7_eq (fun v h => some (v, h)) a0 a1 h)
noncomputable def d_journey_table_8 : DTab := D0
theorem d_journey_table_8_ok : DSound Tryz.prog d_journey_table_8 := DSound.zero
noncomputable def t_journey_table_8 : Tab := T0
theorem t_journey_table_8_ok : TSound Tryz.prog t_journey_table_8 := TSound.zero
noncomputable def R_journey_table_8 : Fun := runF Tryz.prog t_journey_table_8 d_journey_table_8 NN [0, 1, 2] Tryz.f62 1
theorem R_journey_table_8_ok : CSound Tryz.prog 62 R_journey_table_8 := run_sound t_journey_table_8_ok d_journey_table_8_ok mixed Tryz.func62 (by kernel_rfl) NN
theorem R_journey_table_8_eq {β : Type} (K : AV → Hp → Option β) (a0 : AV) (h : Hp) : (R_journey_table_8 [a0] h).bind (fun p => K p.1 p.2) = f_journey_table_8 Tryz.prog t_journey_table_8 d_journey_table_8 NN K a0 h := by
  rw [← f_journey_table_8_run]; exact runF_bind rfl
noncomputable def F_journey_table_8 : Fun := closedX [.o] [.o] R_journey_table_8
theorem F_journey_table_8_ok : CSound Tryz.prog 62 F_journey_table_8 := closedX_sound _ _ R_journey_table_8_ok
noncomputable def G_journey_table_8 : DFun := closedXD [.o] [.o] R_journey_table_8
theorem G_journey_table_8_ro : Ro F_journey_table_8 G_journey_table_8 := closedX_ro _ _ _
theorem F_journey_table_8_run {a0 : AV} {v : AV} (ha : plains [a0] = true) (hv : f_journey_table_8 Tryz.prog t_journey_table_8 d_journey_table_8 NN (fun v g => cvt false g v) a0 [] = some v) (h : Hp) : F_journey_table_8 [a0] h = some (v, h) := by
  have e : (R_journey_table_8 (nrms [.o] [a0]) []).bind (fun (p : AV × Hp) => cvt false p.2 p.1) = some v := (R_journey_table_8_eq (fun v g => cvt false g v) a0 []).trans hv
  exact (closedX_bind (shr := [.o]) ha e h).trans (congrArg (fun x => some (x, h)) (nrmR_rep 1 v))
noncomputable def d_journey_table_9 : DTab := D0
theorem d_journey_table_9_ok : DSound Tryz.prog d_journey_table_9 := DSound.zero
noncomputable def t_journey_table_9 : Tab := T0
theorem t_journey_table_9_ok : TSound Tryz.prog t_journey_table_9 := TSound.zero
noncomputable def R_journey_table_9 : Fun := runF Tryz.prog t_journey_table_9 d_journey_table_9 NN [0, 1, 2] Tryz.f63 1
theorem R_journey_table_9_ok : CSound Tryz.prog 63 R_journey_table_9 := run_sound t_journey_table_9_ok d_journey_table_9_ok mixed Tryz.func63 (by kernel_rfl) NN
theorem R_journey_table_9_eq {β : Type} (K : AV → Hp → Option β) (a0 : AV) (h : Hp) : (R_journey_table_9 [a0] h).bind (fun p => K p.1 p.2) = f_journey_table_9 Tryz.prog t_journey_table_9 d_journey_table_9 NN K a0 h := by
  rw [← f_journey_table_9_run]; exact runF_bind rfl
noncomputable def F_journey_table_9 : Fun := closedX [.o] [.o] R_journey_table_9
theorem F_journey_table_9_ok : CSound Tryz.prog 63 F_journey_table_9 := closedX_sound _ _ R_journey_table_9_ok
noncomputable def G_journey_table_9 : DFun := closedXD [.o] [.o] R_journey_table_9
theorem G_journey_table_9_ro : Ro F_journey_table_9 G_journey_table_9 := closedX_ro _ _ _
theorem F_journey_table_9_run {a0 : AV} {v : AV} (ha : plains [a0] = true) (hv : f_journey_table_9 Tryz.prog t_journey_table_9 d_journey_table_9 NN (fun v g => cvt false g v) a0 [] = some v) (h : Hp) : F_journey_table_9 [a0] h = some (v, h) := by
  have e : (R_journey_table_9 (nrms [.o] [a0]) []).bind (fun (p : AV × Hp) => cvt false p.2 p.1) = some v := (R_journey_table_9_eq (fun v g => cvt false g v) a0 []).trans hv
  exact (closedX_bind (shr := [.o]) ha e h).trans (congrArg (fun x => some (x, h)) (nrmR_rep 1 v))
noncomputable def d_journey_table_10 : DTab := D0
theorem d_journey_table_10_ok : DSound Tryz.prog d_journey_table_10 := DSound.zero
noncomputable def t_journey_table_10 : Tab := T0
theorem t_journey_table_10_ok : TSound Tryz.prog t_journey_table_10 := TSound.zero
noncomputable def R_journey_table_10 : Fun := runF Tryz.prog t_journey_table_10 d_journey_table_10 NN [0, 1] Tryz.f64 2
theorem R_journey_table_10_ok : CSound Tryz.prog 64 R_journey_table_10 := run_sound t_journey_table_10_ok d_journey_table_10_ok mixed Tryz.func64 (by kernel_rfl) NN
theorem R_journey_table_10_eq {β : Type} (K : AV → Hp → Option β) (a0 : AV) (a1 : AV) (h : Hp) : (R_journey_table_10 [a0, a1] h).bind (fun p => K p.1 p.2) = f_journey_table_10 Tryz.prog t_journey_table_10 d_journey_table_10 NN K a0 a1 h := by
  rw [← f_journey_table_10_run]; exact runF_bind rfl
noncomputable def F_journey_table_10 : Fun := R_journey_table_10
theorem F_journey_table_10_ok : CSound Tryz.prog 64 F_journey_table_10 := R_journey_table_10_ok
noncomputable def G_journey_table_10 : DFun := wrD F_journey_table_10
theorem F_journey_table_10_raw (a0 : AV) (a1 : AV) (h : Hp) : F_journey_table_10 [a0, a1] h = f_journey_table_10 Tryz.prog t_journey_table_10 d_journey_table_10 NN (fun v h => some (v, h)) a0 a1 h := (bind_pair _).symm.trans (R_journey_table_10_eq (fun v h => some (v, h)) a0 a1 h)
noncomputable def d_journey_table_11 : DTab := D0
theorem d_journey_table_11_ok : DSound Tryz.prog d_journey_table_11 := DSound.zero
noncomputable def t_journey_table_11 : Tab := (updF T0 58 F_journey_node)
theorem t_journey_table_11_ok : TSound Tryz.prog t_journey_table_11 := (TSound.upd TSound.zero F_journey_node_ok)
@[simp] theorem t_journey_table_11_58 : t_journey_table_11 58 = some F_journey_node := rfl
noncomputable def R_journey_table_11 : Fun := runF Tryz.prog t_journey_table_11 d_journey_table_11 NN [0, 1, 2] Tryz.f65 1
theorem R_journey_table_11_ok : CSound Tryz.prog 65 R_journey_table_11 := run_sound t_journey_table_11_ok d_journey_table_11_ok mixed Tryz.func65 (by kernel_rfl) NN
theorem R_journey_table_11_eq {β : Type} (K : AV → Hp → Option β) (a0 : AV) (h : Hp) : (R_journey_table_11 [a0] h).bind (fun p => K p.1 p.2) = f_journey_table_11 Tryz.prog t_journey_table_11 d_journey_table_11 NN K a0 h := by
  rw [← f_journey_table_11_run]; exact runF_bind rfl
noncomputable def F_journey_table_11 : Fun := closedX [.o] [.o] R_journey_table_11
theorem F_journey_table_11_ok : CSound Tryz.prog 65 F_journey_table_11 := closedX_sound _ _ R_journey_table_11_ok
noncomputable def G_journey_table_11 : DFun := closedXD [.o] [.o] R_journey_table_11
theorem G_journey_table_11_ro : Ro F_journey_table_11 G_journey_table_11 := closedX_ro _ _ _
theorem F_journey_table_11_run {a0 : AV} {v : AV} (ha : plains [a0] = true) (hv : f_journey_table_11 Tryz.prog t_journey_table_11 d_journey_table_11 NN (fun v g => cvt false g v) a0 [] = some v) (h : Hp) : F_journey_table_11 [a0] h = some (v, h) := by
  have e : (R_journey_table_11 (nrms [.o] [a0]) []).bind (fun (p : AV × Hp) => cvt false p.2 p.1) = some v := (R_journey_table_11_eq (fun v g => cvt false g v) a0 []).trans hv
  exact (closedX_bind (shr := [.o]) ha e h).trans (congrArg (fun x => some (x, h)) (nrmR_rep 1 v))
noncomputable def d_journey_table_12 : DTab := D0
theorem d_journey_table_12_ok : DSound Tryz.prog d_journey_table_12 := DSound.zero
noncomputable def t_journey_table_12 : Tab := T0
theorem t_journey_table_12_ok : TSound Tryz.prog t_journey_table_12 := TSound.zero
noncomputable def R_journey_table_12 : Fun := runF Tryz.prog t_journey_table_12 d_journey_table_12 NN [0, 1, 3] Tryz.f66 2
theorem R_journey_table_12_ok : CSound Tryz.prog 66 R_journey_table_12 := run_sound t_journey_table_12_ok d_journey_table_12_ok mixed Tryz.func66 (by kernel_rfl) NN
theorem R_journey_table_12_eq {β : Type} (K : AV → Hp → Option β) (a0 : AV) (a1 : AV) (h : Hp) : (R_journey_table_12 [a0, a1] h).bind (fun p => K p.1 p.2) = f_journey_table_12 Tryz.prog t_journey_table_12 d_journey_table_12 NN K a0 a1 h := by
  rw [← f_journey_table_12_run]; exact runF_bind rfl
noncomputable def F_journey_table_12 : Fun := R_journey_table_12
theorem F_journey_table_12_ok : CSound Tryz.prog 66 F_journey_table_12 := R_journey_table_12_ok
noncomputable def G_journey_table_12 : DFun := wrD F_journey_table_12
theorem F_journey_table_12_raw (a0 : AV) (a1 : AV) (h : Hp) : F_journey_table_12 [a0, a1] h = f_journey_table_12 Tryz.prog t_journey_table_12 d_journey_table_12 NN (fun v h => some (v, h)) a0 a1 h := (bind_pair _).symm.trans (R_journey_table_12_eq (fun v h => some (v, h)) a0 a1 h)
noncomputable def d_journey_table_13 : DTab := D0
theorem d_journey_table_13_ok : DSound Tryz.prog d_journey_table_13 := DSound.zero
noncomputable def t_journey_table_13 : Tab := T0
theorem t_journey_table_13_ok : TSound Tryz.prog t_journey_table_13 := TSound.zero
noncomputable def R_journey_table_13 : Fun := runF Tryz.prog t_journey_table_13 d_journey_table_13 NN [0, 1, 3] Tryz.f67 2
theorem R_journey_table_13_ok : CSound Tryz.prog 67 R_journey_table_13 := run_sound t_journey_table_13_ok d_journey_table_13_ok mixed Tryz.func67 (by kernel_rfl) NN
theorem R_journey_table_13_eq {β : Type} (K : AV → Hp → Option β) (a0 : AV) (a1 : AV) (h : Hp) : (R_journey_table_13 [a0, a1] h).bind (fun p => K p.1 p.2) = f_journey_table_13 Tryz.prog t_journey_table_13 d_journey_table_13 NN K a0 a1 h := by
  rw [← f_journey_table_13_run]; exact runF_bind rfl
noncomputable def F_journey_table_13 : Fun := R_journey_table_13
theorem F_journey_table_13_ok : CSound Tryz.prog 67 F_journey_table_13 := R_journey_table_13_ok
noncomputable def G_journey_table_13 : DFun := wrD F_journey_table_13
theorem F_journey_table_13_raw (a0 : AV) (a1 : AV) (h : Hp) : F_journey_table_13 [a0, a1] h = f_journey_table_13 Tryz.prog t_journey_table_13 d_journey_table_13 NN (fun v h => some (v, h)) a0 a1 h := (bind_pair _).symm.trans (R_journey_table_13_eq (fun v h => some (v, h)) a0 a1 h)
noncomputable def d_journey_table_14 : DTab := D0
theorem d_journey_table_14_ok : DSound Tryz.prog d_journey_table_14 := DSound.zero
noncomputable def t_journey_table_14 : Tab := T0
theorem t_journey_table_14_ok : TSound Tryz.prog t_journey_table_14 := TSound.zero
noncomputable def R_journey_table_14 : Fun := runF Tryz.prog t_journey_table_14 d_journey_table_14 NN [0, 1, 3] Tryz.f68 2
theorem R_journey_table_14_ok : CSound Tryz.prog 68 R_journey_table_14 := run_sound t_journey_table_14_ok d_journey_table_14_ok mixed Tryz.func68 (by kernel_rfl) NN
theorem R_journey_table_14_eq {β : Type} (K : AV → Hp → Option β) (a0 : AV) (a1 : AV) (h : Hp) : (R_journey_table_14 [a0, a1] h).bind (fun p => K p.1 p.2) = f_journey_table_14 Tryz.prog t_journey_table_14 d_journey_table_14 NN K a0 a1 h := by
  rw [← f_journey_table_14_run]; exact runF_bind rfl
noncomputable def F_journey_table_14 : Fun := R_journey_table_14
theorem F_journey_table_14_ok : CSound Tryz.prog 68 F_journey_table_14 := R_journey_table_14_ok
noncomputable def G_journey_table_14 : DFun := wrD F_journey_table_14
theorem F_journey_table_14_raw (a0 : AV) (a1 : AV) (h : Hp) : F_journey_table_14 [a0, a1] h = f_journey_table_14 Tryz.prog t_journey_table_14 d_journey_table_14 NN (fun v h => some (v, h)) a0 a1 h := (bind_pair _).symm.trans (R_journey_table_14_eq (fun v h => some (v, h)) a0 a1 h)
noncomputable def d_journey_table_15 : DTab := D0
theorem d_journey_table_15_ok : DSound Tryz.prog d_journey_table_15 := DSound.zero
noncomputable def t_journey_table_15 : Tab := (updF (updF T0 24 F_journey_in) 58 F_journey_node)
theorem t_journey_table_15_ok : TSound Tryz.prog t_journey_table_15 := (TSound.upd (TSound.upd TSound.zero F_journey_in_ok) F_journey_node_ok)
@[simp] theorem t_journey_table_15_24 : t_journey_table_15 24 = some F_journey_in := rfl
@[simp] theorem t_journey_table_15_58 : t_journey_table_15 58 = some F_journey_node := rfl
noncomputable def R_journey_table_15 : Fun := runF Tryz.prog t_journey_table_15 d_journey_table_15 NN [0, 1, 2] Tryz.f69 1
theorem R_journey_table_15_ok : CSound Tryz.prog 69 R_journey_table_15 := run_sound t_journey_table_15_ok d_journey_table_15_ok mixed Tryz.func69 (by kernel_rfl) NN
theorem R_journey_table_15_eq {β : Type} (K : AV → Hp → Option β) (a0 : AV) (h : Hp) : (R_journey_table_15 [a0] h).bind (fun p => K p.1 p.2) = f_journey_table_15 Tryz.prog t_journey_table_15 d_journey_table_15 NN K a0 h := by
  rw [← f_journey_table_15_run]; exact runF_bind rfl
noncomputable def F_journey_table_15 : Fun := closedX [.o] [.o] R_journey_table_15
theorem F_journey_table_15_ok : CSound Tryz.prog 69 F_journey_table_15 := closedX_sound _ _ R_journey_table_15_ok
noncomputable def G_journey_table_15 : DFun := closedXD [.o] [.o] R_journey_table_15
theorem G_journey_table_15_ro : Ro F_journey_table_15 G_journey_table_15 := closedX_ro _ _ _
theorem F_journey_table_15_run {a0 : AV} {v : AV} (ha : plains [a0] = true) (hv : f_journey_table_15 Tryz.prog t_journey_table_15 d_journey_table_15 NN (fun v g => cvt false g v) a0 [] = some v) (h : Hp) : F_journey_table_15 [a0] h = some (v, h) := by
  have e : (R_journey_table_15 (nrms [.o] [a0]) []).bind (fun (p : AV × Hp) => cvt false p.2 p.1) = some v := (R_journey_table_15_eq (fun v g => cvt false g v) a0 []).trans hv
  exact (closedX_bind (shr := [.o]) ha e h).trans (congrArg (fun x => some (x, h)) (nrmR_rep 1 v))
noncomputable def d_journey_table_16 : DTab := D0
theorem d_journey_table_16_ok : DSound Tryz.prog d_journey_table_16 := DSound.zero
noncomputable def t_journey_table_16 : Tab := T0
theorem t_journey_table_16_ok : TSound Tryz.prog t_journey_table_16 := TSound.zero
noncomputable def R_journey_table_16 : Fun := runF Tryz.prog t_journey_table_16 d_journey_table_16 NN [0, 1, 3] Tryz.f70 2
theorem R_journey_table_16_ok : CSound Tryz.prog 70 R_journey_table_16 := run_sound t_journey_table_16_ok d_journey_table_16_ok mixed Tryz.func70 (by kernel_rfl) NN
theorem R_journey_table_16_eq {β : Type} (K : AV → Hp → Option β) (a0 : AV) (a1 : AV) (h : Hp) : (R_journey_table_16 [a0, a1] h).bind (fun p => K p.1 p.2) = f_journey_table_16 Tryz.prog t_journey_table_16 d_journey_table_16 NN K a0 a1 h := by
  rw [← f_journey_table_16_run]; exact runF_bind rfl
noncomputable def F_journey_table_16 : Fun := R_journey_table_16
theorem F_journey_table_16_ok : CSound Tryz.prog 70 F_journey_table_16 := R_journey_table_16_ok
noncomputable def G_journey_table_16 : DFun := wrD F_journey_table_16
theorem F_journey_table_16_raw (a0 : AV) (a1 : AV) (h : Hp) : F_journey_table_16 [a0, a1] h = f_journey_table_16 Tryz.prog t_journey_table_16 d_journey_table_16 NN (fun v h => some (v, h)) a0 a1 h := (bind_pair _).symm.trans (R_journey_table_16_eq (fun v h => some (v, h)) a0 a1 h)
noncomputable def d_journey_table : DTab := D0
theorem d_journey_table_ok : DSound Tryz.prog d_journey_table := DSound.zero
noncomputable def t_journey_table : Tab := (updF (updF (updF (updF (updF (updF (updF (updF (updF (updF (updF (updF (updF (updF (updF (updF T0 54 F_journey_table_1) 55 F_journey_table_2) 56 F_journey_table_3) 57 F_journey_table_4) 59 F_journey_table_5) 60 F_journey_table_6) 61 F_journey_table_7) 62 F_journey_table_8) 63 F_journey_table_9) 64 F_journey_table_10) 65 F_journey_table_11) 66 F_journey_table_12) 67 F_journey_table_13) 68 F_journey_table_14) 69 F_journey_table_15) 70 F_journey_table_16)
theorem t_journey_table_ok : TSound Tryz.prog t_journey_table := (TSound.upd (TSound.upd (TSound.upd (TSound.upd (TSound.upd (TSound.upd (TSound.upd (TSound.upd (TSound.upd (TSound.upd (TSound.upd (TSound.upd (TSound.upd (TSound.upd (TSound.upd (TSound.upd TSound.zero F_journey_table_1_ok) F_journey_table_2_ok) F_journey_table_3_ok) F_journey_table_4_ok) F_journey_table_5_ok) F_journey_table_6_ok) F_journey_table_7_ok) F_journey_table_8_ok) F_journey_table_9_ok) F_journey_table_10_ok) F_journey_table_11_ok) F_journey_table_12_ok) F_journey_table_13_ok) F_journey_table_14_ok) F_journey_table_15_ok) F_journey_table_16_ok)
@[simp] theorem t_journey_table_54 : t_journey_table 54 = some F_journey_table_1 := rfl
@[simp] theorem t_journey_table_55 : t_journey_table 55 = some F_journey_table_2 := rfl
@[simp] theorem t_journey_table_56 : t_journey_table 56 = some F_journey_table_3 := rfl
@[simp] theorem t_journey_table_57 : t_journey_table 57 = some F_journey_table_4 := rfl
@[simp] theorem t_journey_table_59 : t_journey_table 59 = some F_journey_table_5 := rfl
@[simp] theorem t_journey_table_60 : t_journey_table 60 = some F_journey_table_6 := rfl
@[simp] theorem t_journey_table_61 : t_journey_table 61 = some F_journey_table_7 := rfl
@[simp] theorem t_journey_table_62 : t_journey_table 62 = some F_journey_table_8 := rfl
@[simp] theorem t_journey_table_63 : t_journey_table 63 = some F_journey_table_9 := rfl
@[simp] theorem t_journey_table_64 : t_journey_table 64 = some F_journey_table_10 := rfl
@[simp] theorem t_journey_table_65 : t_journey_table 65 = some F_journey_table_11 := rfl
@[simp] theorem t_journey_table_66 : t_journey_table 66 = some F_journey_table_12 := rfl
@[simp] theorem t_journey_table_67 : t_journey_table 67 = some F_journey_table_13 := rfl
@[simp] theorem t_journey_table_68 : t_journey_table 68 = some F_journey_table_14 := rfl
@[simp] theorem t_journey_table_69 : t_journey_table 69 = some F_journey_table_15 := rfl
@[simp] theorem t_journey_table_70 : t_journey_table 70 = some F_journey_table_16 := rfl
noncomputable def R_journey_table : Fun := runF Tryz.prog t_journey_table d_journey_table NN [0, 1, 2, 3] Tryz.f35 0
theorem R_journey_table_ok : CSound Tryz.prog 35 R_journey_table := run_sound t_journey_table_ok d_journey_table_ok mixed Tryz.func35 (by kernel_rfl) NN
theorem R_journey_table_eq {β : Type} (K : AV → Hp → Option β) (h : Hp) : (R_journey_table [] h).bind (fun p => K p.1 p.2) = f_journey_table Tryz.prog t_journey_table d_journey_table NN K  h := by
  rw [← f_journey_table_run]; exact runF_bind rfl
noncomputable def F_journey_table : Fun := quietT R_journey_table
theorem F_journey_table_ok : CSound Tryz.prog 35 F_journey_table := quietT_sound R_journey_table_ok
noncomputable def G_journey_table : DFun := roD F_journey_table
theorem G_journey_table_ro : Ro F_journey_table G_journey_table := ro_ro _
theorem F_journey_table_q {h : Hp} {g : List AObj} {v : AV} (hv : f_journey_table Tryz.prog t_journey_table d_journey_table NN (fun v h => some (v, h))  h = some (v, h ++ g)) (hp : plain v = true) : F_journey_table [] h = some (v, h) := quietT_val (F := R_journey_table) (((bind_pair _).symm.trans (R_journey_table_eq (fun v h => some (v, h))  h)).trans hv) hp
noncomputable def d_journey_fault : DTab := (updD (updD (updD (updD (updD (updD (updD (updD (updD (updD (updD (updD (updD (updD (updD (updD (updD (updD D0 24 G_journey_in) 35 G_journey_table) 54 G_journey_table_1) 55 G_journey_table_2) 56 G_journey_table_3) 57 G_journey_table_4) 59 G_journey_table_5) 60 G_journey_table_6) 61 G_journey_table_7) 62 G_journey_table_8) 63 G_journey_table_9) 64 G_journey_table_10) 65 G_journey_table_11) 66 G_journey_table_12) 67 G_journey_table_13) 68 G_journey_table_14) 69 G_journey_table_15) 70 G_journey_table_16)
theorem d_journey_fault_ok : DSound Tryz.prog d_journey_fault := (DSound.wr (DSound.ro (DSound.wr (DSound.wr (DSound.wr (DSound.ro (DSound.wr (DSound.ro (DSound.ro (DSound.wr (DSound.ro (DSound.wr (DSound.ro (DSound.ro (DSound.ro (DSound.ro (DSound.ro (DSound.ro DSound.zero G_journey_in_ro F_journey_in_ok) G_journey_table_ro F_journey_table_ok) G_journey_table_1_ro F_journey_table_1_ok) G_journey_table_2_ro F_journey_table_2_ok) G_journey_table_3_ro F_journey_table_3_ok) G_journey_table_4_ro F_journey_table_4_ok) F_journey_table_5_ok) G_journey_table_6_ro F_journey_table_6_ok) F_journey_table_7_ok) G_journey_table_8_ro F_journey_table_8_ok) G_journey_table_9_ro F_journey_table_9_ok) F_journey_table_10_ok) G_journey_table_11_ro F_journey_table_11_ok) F_journey_table_12_ok) F_journey_table_13_ok) F_journey_table_14_ok) G_journey_table_15_ro F_journey_table_15_ok) F_journey_table_16_ok)
@[simp] theorem d_journey_fault_24 : d_journey_fault 24 = some G_journey_in := rfl
@[simp] theorem d_journey_fault_35 : d_journey_fault 35 = some G_journey_table := rfl
@[simp] theorem d_journey_fault_54 : d_journey_fault 54 = some G_journey_table_1 := rfl
@[simp] theorem d_journey_fault_55 : d_journey_fault 55 = some G_journey_table_2 := rfl
@[simp] theorem d_journey_fault_56 : d_journey_fault 56 = some G_journey_table_3 := rfl
@[simp] theorem d_journey_fault_57 : d_journey_fault 57 = some G_journey_table_4 := rfl
@[simp] theorem d_journey_fault_59 : d_journey_fault 59 = some G_journey_table_5 := rfl
@[simp] theorem d_journey_fault_60 : d_journey_fault 60 = some G_journey_table_6 := rfl
@[simp] theorem d_journey_fault_61 : d_journey_fault 61 = some G_journey_table_7 := rfl
@[simp] theorem d_journey_fault_62 : d_journey_fault 62 = some G_journey_table_8 := rfl
@[simp] theorem d_journey_fault_63 : d_journey_fault 63 = some G_journey_table_9 := rfl
@[simp] theorem d_journey_fault_64 : d_journey_fault 64 = some G_journey_table_10 := rfl
@[simp] theorem d_journey_fault_65 : d_journey_fault 65 = some G_journey_table_11 := rfl
@[simp] theorem d_journey_fault_66 : d_journey_fault 66 = some G_journey_table_12 := rfl
@[simp] theorem d_journey_fault_67 : d_journey_fault 67 = some G_journey_table_13 := rfl
@[simp] theorem d_journey_fault_68 : d_journey_fault 68 = some G_journey_table_14 := rfl
@[simp] theorem d_journey_fault_69 : d_journey_fault 69 = some G_journey_table_15 := rfl
@[simp] theorem d_journey_fault_70 : d_journey_fault 70 = some G_journey_table_16 := rfl
noncomputable def t_journey_fault : Tab := (updF (updF (updF (updF (updF (updF (updF (updF (updF (updF (updF (updF (updF (updF (updF (updF (updF (updF T0 24 F_journey_in) 35 F_journey_table) 54 F_journey_table_1) 55 F_journey_table_2) 56 F_journey_table_3) 57 F_journey_table_4) 59 F_journey_table_5) 60 F_journey_table_6) 61 F_journey_table_7) 62 F_journey_table_8) 63 F_journey_table_9) 64 F_journey_table_10) 65 F_journey_table_11) 66 F_journey_table_12) 67 F_journey_table_13) 68 F_journey_table_14) 69 F_journey_table_15) 70 F_journey_table_16)
theorem t_journey_fault_ok : TSound Tryz.prog t_journey_fault := (TSound.upd (TSound.upd (TSound.upd (TSound.upd (TSound.upd (TSound.upd (TSound.upd (TSound.upd (TSound.upd (TSound.upd (TSound.upd (TSound.upd (TSound.upd (TSound.upd (TSound.upd (TSound.upd (TSound.upd (TSound.upd TSound.zero F_journey_in_ok) F_journey_table_ok) F_journey_table_1_ok) F_journey_table_2_ok) F_journey_table_3_ok) F_journey_table_4_ok) F_journey_table_5_ok) F_journey_table_6_ok) F_journey_table_7_ok) F_journey_table_8_ok) F_journey_table_9_ok) F_journey_table_10_ok) F_journey_table_11_ok) F_journey_table_12_ok) F_journey_table_13_ok) F_journey_table_14_ok) F_journey_table_15_ok) F_journey_table_16_ok)
@[simp] theorem t_journey_fault_24 : t_journey_fault 24 = some F_journey_in := rfl
@[simp] theorem t_journey_fault_35 : t_journey_fault 35 = some F_journey_table := rfl
@[simp] theorem t_journey_fault_54 : t_journey_fault 54 = some F_journey_table_1 := rfl
@[simp] theorem t_journey_fault_55 : t_journey_fault 55 = some F_journey_table_2 := rfl
@[simp] theorem t_journey_fault_56 : t_journey_fault 56 = some F_journey_table_3 := rfl
@[simp] theorem t_journey_fault_57 : t_journey_fault 57 = some F_journey_table_4 := rfl
@[simp] theorem t_journey_fault_59 : t_journey_fault 59 = some F_journey_table_5 := rfl
@[simp] theorem t_journey_fault_60 : t_journey_fault 60 = some F_journey_table_6 := rfl
@[simp] theorem t_journey_fault_61 : t_journey_fault 61 = some F_journey_table_7 := rfl
@[simp] theorem t_journey_fault_62 : t_journey_fault 62 = some F_journey_table_8 := rfl
@[simp] theorem t_journey_fault_63 : t_journey_fault 63 = some F_journey_table_9 := rfl
@[simp] theorem t_journey_fault_64 : t_journey_fault 64 = some F_journey_table_10 := rfl
@[simp] theorem t_journey_fault_65 : t_journey_fault 65 = some F_journey_table_11 := rfl
@[simp] theorem t_journey_fault_66 : t_journey_fault 66 = some F_journey_table_12 := rfl
@[simp] theorem t_journey_fault_67 : t_journey_fault 67 = some F_journey_table_13 := rfl
@[simp] theorem t_journey_fault_68 : t_journey_fault 68 = some F_journey_table_14 := rfl
@[simp] theorem t_journey_fault_69 : t_journey_fault 69 = some F_journey_table_15 := rfl
@[simp] theorem t_journey_fault_70 : t_journey_fault 70 = some F_journey_table_16 := rfl
noncomputable def R_journey_fault : Fun := runF Tryz.prog t_journey_fault d_journey_fault NN [0, 1, 2, 3, 4, 7, 8, 28, 29, 34, 53, 76] Tryz.f34 4
theorem R_journey_fault_ok : CSound Tryz.prog 34 R_journey_fault := run_sound t_journey_fault_ok d_journey_fault_ok mixed Tryz.func34 (by kernel_rfl) NN
theorem R_journey_fault_eq {β : Type} (K : AV → Hp → Option β) (a0 : AV) (a1 : AV) (a2 : AV) (a3 : AV) (h : Hp) : (R_journey_fault [a0, a1, a2, a3] h).bind (fun p => K p.1 p.2) = f_journey_fault Tryz.prog t_journey_fault d_journey_fault NN K a0 a1 a2 a3 h := by
  rw [← f_journey_fault_run]; exact runF_bind rfl
noncomputable def F_journey_fault : Fun := closedX [.o, .o, .o, .o] [.o] R_journey_fault
theorem F_journey_fault_ok : CSound Tryz.prog 34 F_journey_fault := closedX_sound _ _ R_journey_fault_ok
noncomputable def G_journey_fault : DFun := closedXD [.o, .o, .o, .o] [.o] R_journey_fault
theorem G_journey_fault_ro : Ro F_journey_fault G_journey_fault := closedX_ro _ _ _
theorem F_journey_fault_run {a0 : AV} {a1 : AV} {a2 : AV} {a3 : AV} {v : AV} (ha : plains [a0, a1, a2, a3] = true) (hv : f_journey_fault Tryz.prog t_journey_fault d_journey_fault NN (fun v g => cvt false g v) a0 a1 a2 a3 [] = some v) (h : Hp) : F_journey_fault [a0, a1, a2, a3] h = some (v, h) := by
  have e : (R_journey_fault (nrms [.o, .o, .o, .o] [a0, a1, a2, a3]) []).bind (fun (p : AV × Hp) => cvt false p.2 p.1) = some v := (R_journey_fault_eq (fun v g => cvt false g v) a0 a1 a2 a3 []).trans hv
  exact (closedX_bind (shr := [.o]) ha e h).trans (congrArg (fun x => some (x, h)) (nrmR_rep 1 v))
noncomputable def d_journey_Run : DTab := (updD (updD (updD (updD (updD (updD (updD (updD (updD (updD (updD (updD (updD (updD (updD (updD (updD (updD D0 34 G_journey_fault) 35 G_journey_table) 54 G_journey_table_1) 55 G_journey_table_2) 56 G_journey_table_3) 57 G_journey_table_4) 59 G_journey_table_5) 60 G_journey_table_6) 61 G_journey_table_7) 62 G_journey_table_8) 63 G_journey_table_9) 64 G_journey_table_10) 65 G_journey_table_11) 66 G_journey_table_12) 67 G_journey_table_13) 68 G_journey_table_14) 69 G_journey_table_15) 70 G_journey_table_16)
theorem d_journey_Run_ok : DSound Tryz.prog d_journey_Run := (DSound.wr (DSound.ro (DSound.wr (DSound.wr (DSound.wr (DSound.ro (DSound.wr (DSound.ro (DSound.ro (DSound.wr (DSound.ro (DSound.wr (DSound.ro (DSound.ro (DSound.ro (DSound.ro (DSound.ro (DSound.ro DSound.zero G_journey_fault_ro F_journey_fault_ok) G_journey_table_ro F_journey_table_ok) G_journey_table_1_ro F_journey_table_1_ok) G_journey_table_2_ro F_journey_table_2_ok) G_journey_table_3_ro F_journey_table_3_ok) G_journey_table_4_ro F_journey_table_4_ok) F_journey_table_5_ok) G_journey_table_6_ro F_journey_table_6_ok) F_journey_table_7_ok) G_journey_table_8_ro F_journey_table_8_ok) G_journey_table_9_ro F_journey_table_9_ok) F_journey_table_10_ok) G_journey_table_11_ro F_journey_table_11_ok) F_journey_table_12_ok) F_journey_table_13_ok) F_journey_table_14_ok) G_journey_table_15_ro F_journey_table_15_ok) F_journey_table_16_ok)
@[simp] theorem d_journey_Run_34 : d_journey_Run 34 = some G_journey_fault := rfl
@[simp] theorem d_journey_Run_35 : d_journey_Run 35 = some G_journey_table := rfl
@[simp] theorem d_journey_Run_54 : d_journey_Run 54 = some G_journey_table_1 := rfl
@[simp] theorem d_journey_Run_55 : d_journey_Run 55 = some G_journey_table_2 := rfl
@[simp] theorem d_journey_Run_56 : d_journey_Run 56 = some G_journey_table_3 := rfl
@[simp] theorem d_journey_Run_57 : d_journey_Run 57 = some G_journey_table_4 := rfl
@[simp] theorem d_journey_Run_59 : d_journey_Run 59 = some G_journey_table_5 := rfl
@[simp] theorem d_journey_Run_60 : d_journey_Run 60 = some G_journey_table_6 := rfl
@[simp] theorem d_journey_Run_61 : d_journey_Run 61 = some G_journey_table_7 := rfl
@[simp] theorem d_journey_Run_62 : d_journey_Run 62 = some G_journey_table_8 := rfl
@[simp] theorem d_journey_Run_63 : d_journey_Run 63 = some G_journey_table_9 := rfl
@[simp] theorem d_journey_Run_64 : d_journey_Run 64 = some G_journey_table_10 := rfl
@[simp] theorem d_journey_Run_65 : d_journey_Run 65 = some G_journey_table_11 := rfl
@[simp] theorem d_journey_Run_66 : d_journey_Run 66 = some G_journey_table_12 := rfl
@[simp] theorem d_journey_Run_67 : d_journey_Run 67 = some G_journey_table_13 := rfl
@[simp] theorem d_journey_Run_68 : d_journey_Run 68 = some G_journey_table_14 := rfl
@[simp] theorem d_journey_Run_69 : d_journey_Run 69 = some G_journey_table_15 := rfl
@[simp] theorem d_journey_Run_70 : d_journey_Run 70 = some G_journey_table_16 := rfl
noncomputable def t_journey_Run : Tab := (updF (updF (updF (updF (updF (updF (updF (updF (updF (updF (updF (updF (updF (updF (updF (updF (updF (updF T0 34 F_journey_fault) 35 F_journey_table) 54 F_journey_table_1) 55 F_journey_table_2) 56 F_journey_table_3) 57 F_journey_table_4) 59 F_journey_table_5) 60 F_journey_table_6) 61 F_journey_table_7) 62 F_journey_table_8) 63 F_journey_table_9) 64 F_journey_table_10) 65 F_journey_table_11) 66 F_journey_table_12) 67 F_journey_table_13) 68 F_journey_table_14) 69 F_journey_table_15) 70 F_journey_table_16)
theorem t_journey_Run_ok : TSound Tryz.prog t_journey_Run := (TSound.upd (TSound.upd (TSound.upd (TSound.upd (TSound.upd (TSound.upd (TSound.upd (TSound.upd (TSound.upd (TSound.upd (TSound.upd (TSound.upd (TSound.upd (TSound.upd (TSound.upd (TSound.upd (TSound.upd (TSound.upd TSound.zero F_journey_fault_ok) F_journey_table_ok) F_journey_table_1_ok) F_journey_table_2_ok) F_journey_table_3_ok) F_journey_table_4_ok) F_journey_table_5_ok) F_journey_table_6_ok) F_journey_table_7_ok) F_journey_table_8_ok) F_journey_table_9_ok) F_journey_table_10_ok) F_journey_table_11_ok) F_journey_table_12_ok) F_journey_table_13_ok) F_journey_table_14_ok) F_journey_table_15_ok) F_journey_table_16_ok)
@[simp] theorem t_journey_Run_34 : t_journey_Run 34 = some F_journey_fault := rfl
@[simp] theorem t_journey_Run_35 : t_journey_Run 35 = some F_journey_table := rfl
@[simp] theorem t_journey_Run_54 : t_journey_Run 54 = some F_journey_table_1 := rfl
@[simp] theorem t_journey_Run_55 : t_journey_Run 55 = some F_journey_table_2 := rfl
@[simp] theorem t_journey_Run_56 : t_journey_Run 56 = some F_journey_table_3 := rfl
@[simp] theorem t_journey_Run_57 : t_journey_Run 57 = some F_journey_table_4 := rfl
@[simp] theorem t_journey_Run_59 : t_journey_Run 59 = some F_journey_table_5 := rfl
@[simp] theorem t_journey_Run_60 : t_journey_Run 60 = some F_journey_table_6 := rfl
@[simp] theorem t_journey_Run_61 : t_journey_Run 61 = some F_journey_table_7 := rfl
@[simp] theorem t_journey_Run_62 : t_journey_Run 62 = some F_journey_table_8 := rfl
@[simp] theorem t_journey_Run_63 : t_journey_Run 63 = some F_journey_table_9 := rfl
@[simp] theorem t_journey_Run_64 : t_journey_Run 64 = some F_journey_table_10 := rfl
@[simp] theorem t_journey_Run_65 : t_journey_Run 65 = some F_journey_table_11 := rfl
@[simp] theorem t_journey_Run_66 : t_journey_Run 66 = some F_journey_table_12 := rfl
@[simp] theorem t_journey_Run_67 : t_journey_Run 67 = some F_journey_table_13 := rfl
@[simp] theorem t_journey_Run_68 : t_journey_Run 68 = some F_journey_table_14 := rfl
@[simp] theorem t_journey_Run_69 : t_journey_Run 69 = some F_journey_table_15 := rfl
@[simp] theorem t_journey_Run_70 : t_journey_Run 70 = some F_journey_table_16 := rfl
noncomputable def R_journey_Run : Fun := runF Tryz.prog t_journey_Run d_journey_Run NN [0, 2, 3, 4, 5, 6, 7, 8, 9, 12, 14, 15, 16, 17, 28] Tryz.f17 1
theorem R_journey_Run_ok : CSound Tryz.prog 17 R_journey_Run := run_sound t_journey_Run_ok d_journey_Run_ok mixed Tryz.func17 (by kernel_rfl) NN
theorem R_journey_Run_eq {β : Type} (K : AV → Hp → Option β) (a0 : AV) (h : Hp) : (R_journey_Run [a0] h).bind (fun p => K p.1 p.2) = f_journey_Run Tryz.prog t_journey_Run d_journey_Run NN K a0 h := by
  rw [← f_journey_Run_run]; exact runF_bind rfl
noncomputable def F_journey_Run : Fun := closedX [.l 5] [.o, .o, .o] R_journey_Run
theorem F_journey_Run_ok : CSound Tryz.prog 17 F_journey_Run := closedX_sound _ _ R_journey_Run_ok
theorem F_journey_Run_run {a0 : AV} {v : AV} (ha : plains [a0] = true) (hv : f_journey_Run Tryz.prog t_journey_Run d_journey_Run NN (fun v g => cvt false g v) (nrm (.l 5) a0) [] = some v) (h : Hp) : F_journey_Run [a0] h = some (v, h) := by
  have e : (R_journey_Run (nrms [.l 5] [a0]) []).bind (fun (p : AV × Hp) => cvt false p.2 p.1) = some v := (R_journey_Run_eq (fun v g => cvt false g v) (nrm (.l 5) a0) []).trans hv
  exact (closedX_bind (shr := [.o, .o, .o]) ha e h).trans (congrArg (fun x => some (x, h)) (nrmR_rep 3 v))
noncomputable def d_journey_right : DTab := D0
theorem d_journey_right_ok : DSound Tryz.prog d_journey_right := DSound.zero
noncomputable def t_journey_right : Tab := (updF T0 17 F_journey_Run)
theorem t_journey_right_ok : TSound Tryz.prog t_journey_right := (TSound.upd TSound.zero F_journey_Run_ok)
@[simp] theorem t_journey_right_17 : t_journey_right 17 = some F_journey_Run := rfl
noncomputable def R_journey_right : Fun := runF Tryz.prog t_journey_right d_journey_right NN [0, 2, 5] Tryz.f23 1
theorem R_journey_right_ok : CSound Tryz.prog 23 R_journey_right := run_sound t_journey_right_ok d_journey_right_ok mixed Tryz.func23 (by kernel_rfl) NN
theorem R_journey_right_eq {β : Type} (K : AV → Hp → Option β) (a0 : AV) (h : Hp) : (R_journey_right [a0] h).bind (fun p => K p.1 p.2) = f_journey_right Tryz.prog t_journey_right d_journey_right NN K a0 h := by
  rw [← f_journey_right_run]; exact runF_bind rfl
noncomputable def F_journey_right : Fun := closedX [.l 5] [.o] R_journey_right
theorem F_journey_right_ok : CSound Tryz.prog 23 F_journey_right := closedX_sound _ _ R_journey_right_ok
theorem F_journey_right_run {a0 : AV} {v : AV} (ha : plains [a0] = true) (hv : f_journey_right Tryz.prog t_journey_right d_journey_right NN (fun v g => cvt false g v) (nrm (.l 5) a0) [] = some v) (h : Hp) : F_journey_right [a0] h = some (v, h) := by
  have e : (R_journey_right (nrms [.l 5] [a0]) []).bind (fun (p : AV × Hp) => cvt false p.2 p.1) = some v := (R_journey_right_eq (fun v g => cvt false g v) (nrm (.l 5) a0) []).trans hv
  exact (closedX_bind (shr := [.o]) ha e h).trans (congrArg (fun x => some (x, h)) (nrmR_rep 1 v))
noncomputable def d_journey_Days : DTab := D0
theorem d_journey_Days_ok : DSound Tryz.prog d_journey_Days := DSound.zero
noncomputable def t_journey_Days : Tab := (updF (updF T0 23 F_journey_right) 24 F_journey_in)
theorem t_journey_Days_ok : TSound Tryz.prog t_journey_Days := (TSound.upd (TSound.upd TSound.zero F_journey_right_ok) F_journey_in_ok)
@[simp] theorem t_journey_Days_23 : t_journey_Days 23 = some F_journey_right := rfl
@[simp] theorem t_journey_Days_24 : t_journey_Days 24 = some F_journey_in := rfl
noncomputable def R_journey_Days : Fun := runF Tryz.prog t_journey_Days d_journey_Days NN [0, 1, 4, 5, 6, 7, 8, 9, 11, 12, 16, 20, 33, 34, 35, 36, 39, 44, 50, 56, 68] Tryz.f8 2
theorem R_journey_Days_ok : CSound Tryz.prog 8 R_journey_Days := run_sound t_journey_Days_ok d_journey_Days_ok mixed Tryz.func8 (by kernel_rfl) NN
theorem R_journey_Days_eq {β : Type} (K : AV → Hp → Option β) (a0 : AV) (a1 : AV) (h : Hp) : (R_journey_Days [a0, a1] h).bind (fun p => K p.1 p.2) = f_journey_Days Tryz.prog t_journey_Days d_journey_Days NN K a0 a1 h := by
  rw [← f_journey_Days_run]; exact runF_bind rfl
noncomputable def F_journey_Days : Fun := closedX [.l 5, .o] [.o, .o, .o] R_journey_Days
theorem F_journey_Days_ok : CSound Tryz.prog 8 F_journey_Days := closedX_sound _ _ R_journey_Days_ok
theorem F_journey_Days_run {a0 : AV} {a1 : AV} {v : AV} (ha : plains [a0, a1] = true) (hv : f_journey_Days Tryz.prog t_journey_Days d_journey_Days NN (fun v g => cvt false g v) (nrm (.l 5) a0) a1 [] = some v) (h : Hp) : F_journey_Days [a0, a1] h = some (v, h) := by
  have e : (R_journey_Days (nrms [.l 5, .o] [a0, a1]) []).bind (fun (p : AV × Hp) => cvt false p.2 p.1) = some v := (R_journey_Days_eq (fun v g => cvt false g v) (nrm (.l 5) a0) a1 []).trans hv
  exact (closedX_bind (shr := [.o, .o, .o]) ha e h).trans (congrArg (fun x => some (x, h)) (nrmR_rep 3 v))
noncomputable def d_season_in : DTab := D0
theorem d_season_in_ok : DSound Tryz.prog d_season_in := DSound.zero
noncomputable def t_season_in : Tab := T0
theorem t_season_in_ok : TSound Tryz.prog t_season_in := TSound.zero
noncomputable def R_season_in : Fun := runF Tryz.prog t_season_in d_season_in NN [0, 1, 2, 6] Tryz.f41 3
theorem R_season_in_ok : CSound Tryz.prog 41 R_season_in := run_sound t_season_in_ok d_season_in_ok mixed Tryz.func41 (by kernel_rfl) NN
theorem R_season_in_eq {β : Type} (K : AV → Hp → Option β) (a0 : AV) (a1 : AV) (a2 : AV) (h : Hp) : (R_season_in [a0, a1, a2] h).bind (fun p => K p.1 p.2) = f_season_in Tryz.prog t_season_in d_season_in NN K a0 a1 a2 h := by
  rw [← f_season_in_run]; exact runF_bind rfl
noncomputable def F_season_in : Fun := closedX [.o, .o, .o] [.o] R_season_in
theorem F_season_in_ok : CSound Tryz.prog 41 F_season_in := closedX_sound _ _ R_season_in_ok
theorem F_season_in_run {a0 : AV} {a1 : AV} {a2 : AV} {v : AV} (ha : plains [a0, a1, a2] = true) (hv : f_season_in Tryz.prog t_season_in d_season_in NN (fun v g => cvt false g v) a0 a1 a2 [] = some v) (h : Hp) : F_season_in [a0, a1, a2] h = some (v, h) := by
  have e : (R_season_in (nrms [.o, .o, .o] [a0, a1, a2]) []).bind (fun (p : AV × Hp) => cvt false p.2 p.1) = some v := (R_season_in_eq (fun v g => cvt false g v) a0 a1 a2 []).trans hv
  exact (closedX_bind (shr := [.o]) ha e h).trans (congrArg (fun x => some (x, h)) (nrmR_rep 1 v))
noncomputable def d_season_before : DTab := D0
theorem d_season_before_ok : DSound Tryz.prog d_season_before := DSound.zero
noncomputable def t_season_before : Tab := T0
theorem t_season_before_ok : TSound Tryz.prog t_season_before := TSound.zero
noncomputable def R_season_before : Fun := runF Tryz.prog t_season_before d_season_before NN [0, 1, 2, 3, 4, 9, 19] Tryz.f42 2
theorem R_season_before_ok : CSound Tryz.prog 42 R_season_before := run_sound t_season_before_ok d_season_before_ok mixed Tryz.func42 (by kernel_rfl) NN
theorem R_season_before_eq {β : Type} (K : AV → Hp → Option β) (a0 : AV) (a1 : AV) (h : Hp) : (R_season_before [a0, a1] h).bind (fun p => K p.1 p.2) = f_season_before Tryz.prog t_season_before d_season_before NN K a0 a1 h := by
  rw [← f_season_before_run]; exact runF_bind rfl
noncomputable def F_season_before : Fun := closedX [.o, .o] [.o] R_season_before
theorem F_season_before_ok : CSound Tryz.prog 42 F_season_before := closedX_sound _ _ R_season_before_ok
theorem F_season_before_run {a0 : AV} {a1 : AV} {v : AV} (ha : plains [a0, a1] = true) (hv : f_season_before Tryz.prog t_season_before d_season_before NN (fun v g => cvt false g v) a0 a1 [] = some v) (h : Hp) : F_season_before [a0, a1] h = some (v, h) := by
  have e : (R_season_before (nrms [.o, .o] [a0, a1]) []).bind (fun (p : AV × Hp) => cvt false p.2 p.1) = some v := (R_season_before_eq (fun v g => cvt false g v) a0 a1 []).trans hv
  exact (closedX_bind (shr := [.o]) ha e h).trans (congrArg (fun x => some (x, h)) (nrmR_rep 1 v))
noncomputable def d_season_Check : DTab := D0
theorem d_season_Check_ok : DSound Tryz.prog d_season_Check := DSound.zero
noncomputable def t_season_Check : Tab := (updF (updF T0 41 F_season_in) 42 F_season_before)
theorem t_season_Check_ok : TSound Tryz.prog t_season_Check := (TSound.upd (TSound.upd TSound.zero F_season_in_ok) F_season_before_ok)
@[simp] theorem t_season_Check_41 : t_season_Check 41 = some F_season_in := rfl
@[simp] theorem t_season_Check_42 : t_season_Check 42 = some F_season_before := rfl
noncomputable def R_season_Check : Fun := runF Tryz.prog t_season_Check d_season_Check NN [0, 2, 3, 4, 5, 8, 9, 10, 11, 12, 16, 40] Tryz.f27 1
theorem R_season_Check_ok : CSound Tryz.prog 27 R_season_Check := run_sound t_season_Check_ok d_season_Check_ok mixed Tryz.func27 (by kernel_rfl) NN
theorem R_season_Check_eq {β : Type} (K : AV → Hp → Option β) (a0 : AV) (h : Hp) : (R_season_Check [a0] h).bind (fun p => K p.1 p.2) = f_season_Check Tryz.prog t_season_Check d_season_Check NN K a0 h := by
  rw [← f_season_Check_run]; exact runF_bind rfl
noncomputable def F_season_Check : Fun := closedX [.l 4] [.o, .o] R_season_Check
theorem F_season_Check_ok : CSound Tryz.prog 27 F_season_Check := closedX_sound _ _ R_season_Check_ok
theorem F_season_Check_run {a0 : AV} {v : AV} (ha : plains [a0] = true) (hv : f_season_Check Tryz.prog t_season_Check d_season_Check NN (fun v g => cvt false g v) (nrm (.l 4) a0) [] = some v) (h : Hp) : F_season_Check [a0] h = some (v, h) := by
  have e : (R_season_Check (nrms [.l 4] [a0]) []).bind (fun (p : AV × Hp) => cvt false p.2 p.1) = some v := (R_season_Check_eq (fun v g => cvt false g v) (nrm (.l 4) a0) []).trans hv
  exact (closedX_bind (shr := [.o, .o]) ha e h).trans (congrArg (fun x => some (x, h)) (nrmR_rep 2 v))
noncomputable def d_season_right : DTab := D0
theorem d_season_right_ok : DSound Tryz.prog d_season_right := DSound.zero
noncomputable def t_season_right : Tab := (updF T0 27 F_season_Check)
theorem t_season_right_ok : TSound Tryz.prog t_season_right := (TSound.upd TSound.zero F_season_Check_ok)
@[simp] theorem t_season_right_27 : t_season_right 27 = some F_season_Check := rfl
noncomputable def R_season_right : Fun := runF Tryz.prog t_season_right d_season_right NN [0, 2, 4] Tryz.f43 1
theorem R_season_right_ok : CSound Tryz.prog 43 R_season_right := run_sound t_season_right_ok d_season_right_ok mixed Tryz.func43 (by kernel_rfl) NN
theorem R_season_right_eq {β : Type} (K : AV → Hp → Option β) (a0 : AV) (h : Hp) : (R_season_right [a0] h).bind (fun p => K p.1 p.2) = f_season_right Tryz.prog t_season_right d_season_right NN K a0 h := by
  rw [← f_season_right_run]; exact runF_bind rfl
noncomputable def F_season_right : Fun := closedX [.l 4] [.o] R_season_right
theorem F_season_right_ok : CSound Tryz.prog 43 F_season_right := closedX_sound _ _ R_season_right_ok
theorem F_season_right_run {a0 : AV} {v : AV} (ha : plains [a0] = true) (hv : f_season_right Tryz.prog t_season_right d_season_right NN (fun v g => cvt false g v) (nrm (.l 4) a0) [] = some v) (h : Hp) : F_season_right [a0] h = some (v, h) := by
  have e : (R_season_right (nrms [.l 4] [a0]) []).bind (fun (p : AV × Hp) => cvt false p.2 p.1) = some v := (R_season_right_eq (fun v g => cvt false g v) (nrm (.l 4) a0) []).trans hv
  exact (closedX_bind (shr := [.o]) ha e h).trans (congrArg (fun x => some (x, h)) (nrmR_rep 1 v))
noncomputable def d_proportion_amount : DTab := D0
theorem d_proportion_amount_ok : DSound Tryz.prog d_proportion_amount := DSound.zero
noncomputable def t_proportion_amount : Tab := T0
theorem t_proportion_amount_ok : TSound Tryz.prog t_proportion_amount := TSound.zero
noncomputable def R_proportion_amount : Fun := runF Tryz.prog t_proportion_amount d_proportion_amount NN [0, 2] Tryz.f95 1
theorem R_proportion_amount_ok : CSound Tryz.prog 95 R_proportion_amount := run_sound t_proportion_amount_ok d_proportion_amount_ok mixed Tryz.func95 (by kernel_rfl) NN
theorem R_proportion_amount_eq {β : Type} (K : AV → Hp → Option β) (a0 : AV) (h : Hp) : (R_proportion_amount [a0] h).bind (fun p => K p.1 p.2) = f_proportion_amount Tryz.prog t_proportion_amount d_proportion_amount NN K a0 h := by
  rw [← f_proportion_amount_run]; exact runF_bind rfl
noncomputable def F_proportion_amount : Fun := closedX [.o] [.o] R_proportion_amount
theorem F_proportion_amount_ok : CSound Tryz.prog 95 F_proportion_amount := closedX_sound _ _ R_proportion_amount_ok
theorem F_proportion_amount_run {a0 : AV} {v : AV} (ha : plains [a0] = true) (hv : f_proportion_amount Tryz.prog t_proportion_amount d_proportion_amount NN (fun v g => cvt false g v) a0 [] = some v) (h : Hp) : F_proportion_amount [a0] h = some (v, h) := by
  have e : (R_proportion_amount (nrms [.o] [a0]) []).bind (fun (p : AV × Hp) => cvt false p.2 p.1) = some v := (R_proportion_amount_eq (fun v g => cvt false g v) a0 []).trans hv
  exact (closedX_bind (shr := [.o]) ha e h).trans (congrArg (fun x => some (x, h)) (nrmR_rep 1 v))
noncomputable def d_proportion_amounts_1 : DTab := D0
theorem d_proportion_amounts_1_ok : DSound Tryz.prog d_proportion_amounts_1 := DSound.zero
noncomputable def t_proportion_amounts_1 : Tab := (updF T0 95 F_proportion_amount)
theorem t_proportion_amounts_1_ok : TSound Tryz.prog t_proportion_amounts_1 := (TSound.upd TSound.zero F_proportion_amount_ok)
@[simp] theorem t_proportion_amounts_1_95 : t_proportion_amounts_1 95 = some F_proportion_amount := rfl
noncomputable def R_proportion_amounts_1 : Fun := runF Tryz.prog t_proportion_amounts_1 d_proportion_amounts_1 NN [0, 2] Tryz.f94 1
theorem R_proportion_amounts_1_ok : CSound Tryz.prog 94 R_proportion_amounts_1 := run_sound t_proportion_amounts_1_ok d_proportion_amounts_1_ok mixed Tryz.func94 (by kernel_rfl) NN
theorem R_proportion_amounts_1_eq {β : Type} (K : AV → Hp → Option β) (a0 : AV) (h : Hp) : (R_proportion_amounts_1 [a0] h).bind (fun p => K p.1 p.2) = f_proportion_amounts_1 Tryz.prog t_proportion_amounts_1 d_proportion_amounts_1 NN K a0 h := by
  rw [← f_proportion_amounts_1_run]; exact runF_bind rfl
noncomputable def F_proportion_amounts_1 : Fun := closedX [.o] [.o] R_proportion_amounts_1
theorem F_proportion_amounts_1_ok : CSound Tryz.prog 94 F_proportion_amounts_1 := closedX_sound _ _ R_proportion_amounts_1_ok
theorem F_proportion_amounts_1_run {a0 : AV} {v : AV} (ha : plains [a0] = true) (hv : f_proportion_amounts_1 Tryz.prog t_proportion_amounts_1 d_proportion_amounts_1 NN (fun v g => cvt false g v) a0 [] = some v) (h : Hp) : F_proportion_amounts_1 [a0] h = some (v, h) := by
  have e : (R_proportion_amounts_1 (nrms [.o] [a0]) []).bind (fun (p : AV × Hp) => cvt false p.2 p.1) = some v := (R_proportion_amounts_1_eq (fun v g => cvt false g v) a0 []).trans hv
  exact (closedX_bind (shr := [.o]) ha e h).trans (congrArg (fun x => some (x, h)) (nrmR_rep 1 v))
noncomputable def d_slices_IndexFunc_int__proportion_amounts_1 : DTab := D0
theorem d_slices_IndexFunc_int__proportion_amounts_1_ok : DSound Tryz.prog d_slices_IndexFunc_int__proportion_amounts_1 := DSound.zero
noncomputable def t_slices_IndexFunc_int__proportion_amounts_1 : Tab := (updF T0 94 F_proportion_amounts_1)
theorem t_slices_IndexFunc_int__proportion_amounts_1_ok : TSound Tryz.prog t_slices_IndexFunc_int__proportion_amounts_1 := (TSound.upd TSound.zero F_proportion_amounts_1_ok)
@[simp] theorem t_slices_IndexFunc_int__proportion_amounts_1_94 : t_slices_IndexFunc_int__proportion_amounts_1 94 = some F_proportion_amounts_1 := rfl
noncomputable def R_slices_IndexFunc_int__proportion_amounts_1 : Fun := runF Tryz.prog t_slices_IndexFunc_int__proportion_amounts_1 d_slices_IndexFunc_int__proportion_amounts_1 NN [0, 1, 4, 5, 7, 8, 9, 16] Tryz.f121 2
theorem R_slices_IndexFunc_int__proportion_amounts_1_ok : CSound Tryz.prog 121 R_slices_IndexFunc_int__proportion_amounts_1 := run_sound t_slices_IndexFunc_int__proportion_amounts_1_ok d_slices_IndexFunc_int__proportion_amounts_1_ok mixed Tryz.func121 (by kernel_rfl) NN
theorem R_slices_IndexFunc_int__proportion_amounts_1_eq {β : Type} (K : AV → Hp → Option β) (a0 : AV) (a1 : AV) (h : Hp) : (R_slices_IndexFunc_int__proportion_amounts_1 [a0, a1] h).bind (fun p => K p.1 p.2) = f_slices_IndexFunc_int Tryz.prog t_slices_IndexFunc_int__proportion_amounts_1 d_slices_IndexFunc_int__proportion_amounts_1 NN K a0 a1 h := by
  rw [← f_slices_IndexFunc_int_run]; exact runF_bind rfl
noncomputable def F_slices_IndexFunc_int__proportion_amounts_1 : Fun := closedX [.l 1, .o] [.o] R_slices_IndexFunc_int__proportion_amounts_1
theorem F_slices_IndexFunc_int__proportion_amounts_1_ok : CSound Tryz.prog 121 F_slices_IndexFunc_int__proportion_amounts_1 := closedX_sound _ _ R_slices_IndexFunc_int__proportion_amounts_1_ok
theorem F_slices_IndexFunc_int__proportion_amounts_1_run {a0 : AV} {a1 : AV} {v : AV} (ha : plains [a0, a1] = true) (hv : f_slices_IndexFunc_int Tryz.prog t_slices_IndexFunc_int__proportion_amounts_1 d_slices_IndexFunc_int__proportion_amounts_1 NN (fun v g => cvt false g v) (nrm (.l 1) a0) a1 [] = some v) (h : Hp) : F_slices_IndexFunc_int__proportion_amounts_1 [a0, a1] h = some (v, h) := by
  have e : (R_slices_IndexFunc_int__proportion_amounts_1 (nrms [.l 1, .o] [a0, a1]) []).bind (fun (p : AV × Hp) => cvt false p.2 p.1) = some v := (R_slices_IndexFunc_int__proportion_amounts_1_eq (fun v g => cvt false g v) (nrm (.l 1) a0) a1 []).trans hv
  exact (closedX_bind (shr := [.o]) ha e h).trans (congrArg (fun x => some (x, h)) (nrmR_rep 1 v))
noncomputable def d_slices_ContainsFunc_int__proportion_amounts_1 : DTab := D0
theorem d_slices_ContainsFunc_int__proportion_amounts_1_ok : DSound Tryz.prog d_slices_ContainsFunc_int__proportion_amounts_1 := DSound.zero
noncomputable def t_slices_ContainsFunc_int__proportion_amounts_1 : Tab := (updF T0 121 F_slices_IndexFunc_int__proportion_amounts_1)
theorem t_slices_ContainsFunc_int__proportion_amounts_1_ok : TSound Tryz.prog t_slices_ContainsFunc_int__proportion_amounts_1 := (TSound.upd TSound.zero F_slices_IndexFunc_int__proportion_amounts_1_ok)
@[simp] theorem t_slices_ContainsFunc_int__proportion_amounts_1_121 : t_slices_ContainsFunc_int__proportion_amounts_1 121 = some F_slices_IndexFunc_int__proportion_amounts_1 := rfl
noncomputable def R_slices_ContainsFunc_int__proportion_amounts_1 : Fun := runF Tryz.prog t_slices_ContainsFunc_int__proportion_amounts_1 d_slices_ContainsFunc_int__proportion_amounts_1 NN [0, 1, 4] Tryz.f93 2
theorem R_slices_ContainsFunc_int__proportion_amounts_1_ok : CSound Tryz.prog 93 R_slices_ContainsFunc_int__proportion_amounts_1 := run_sound t_slices_ContainsFunc_int__proportion_amounts_1_ok d_slices_ContainsFunc_int__proportion_amounts_1_ok mixed Tryz.func93 (by kernel_rfl) NN
theorem R_slices_ContainsFunc_int__proportion_amounts_1_eq {β : Type} (K : AV → Hp → Option β) (a0 : AV) (a1 : AV) (h : Hp) : (R_slices_ContainsFunc_int__proportion_amounts_1 [a0, a1] h).bind (fun p => K p.1 p.2) = f_slices_ContainsFunc_int Tryz.prog t_slices_ContainsFunc_int__proportion_amounts_1 d_slices_ContainsFunc_int__proportion_amounts_1 NN K a0 a1 h := by
  rw [← f_slices_ContainsFunc_int_run]; exact runF_bind rfl
noncomputable def F_slices_ContainsFunc_int__proportion_amounts_1 : Fun := closedX [.l 1, .o] [.o] R_slices_ContainsFunc_int__proportion_amounts_1
theorem F_slices_ContainsFunc_int__proportion_amounts_1_ok : CSound Tryz.prog 93 F_slices_ContainsFunc_int__proportion_amounts_1 := closedX_sound _ _ R_slices_ContainsFunc_int__proportion_amounts_1_ok
theorem F_slices_ContainsFunc_int__proportion_amounts_1_run {a0 : AV} {a1 : AV} {v : AV} (ha : plains [a0, a1] = true) (hv : f_slices_ContainsFunc_int Tryz.prog t_slices_ContainsFunc_int__proportion_amounts_1 d_slices_ContainsFunc_int__proportion_amounts_1 NN (fun v g => cvt false g v) (nrm (.l 1) a0) a1 [] = some v) (h : Hp) : F_slices_ContainsFunc_int__proportion_amounts_1 [a0, a1] h = some (v, h) := by
  have e : (R_slices_ContainsFunc_int__proportion_amounts_1 (nrms [.l 1, .o] [a0, a1]) []).bind (fun (p : AV × Hp) => cvt false p.2 p.1) = some v := (R_slices_ContainsFunc_int__proportion_amounts_1_eq (fun v g => cvt false g v) (nrm (.l 1) a0) a1 []).trans hv
  exact (closedX_bind (shr := [.o]) ha e h).trans (congrArg (fun x => some (x, h)) (nrmR_rep 1 v))
noncomputable def d_proportion_amounts : DTab := D0
theorem d_proportion_amounts_ok : DSound Tryz.prog d_proportion_amounts := DSound.zero
noncomputable def t_proportion_amounts : Tab := (updF (updF T0 93 F_slices_ContainsFunc_int__proportion_amounts_1) 94 F_proportion_amounts_1)
theorem t_proportion_amounts_ok : TSound Tryz.prog t_proportion_amounts := (TSound.upd (TSound.upd TSound.zero F_slices_ContainsFunc_int__proportion_amounts_1_ok) F_proportion_amounts_1_ok)
@[simp] theorem t_proportion_amounts_93 : t_proportion_amounts 93 = some F_slices_ContainsFunc_int__proportion_amounts_1 := rfl
@[simp] theorem t_proportion_amounts_94 : t_proportion_amounts 94 = some F_proportion_amounts_1 := rfl
noncomputable def R_proportion_amounts : Fun := runF Tryz.prog t_proportion_amounts d_proportion_amounts NN [0, 2] Tryz.f79 1
theorem R_proportion_amounts_ok : CSound Tryz.prog 79 R_proportion_amounts := run_sound t_proportion_amounts_ok d_proportion_amounts_ok mixed Tryz.func79 (by kernel_rfl) NN
theorem R_proportion_amounts_eq {β : Type} (K : AV → Hp → Option β) (a0 : AV) (h : Hp) : (R_proportion_amounts [a0] h).bind (fun p => K p.1 p.2) = f_proportion_amounts Tryz.prog t_proportion_amounts d_proportion_amounts NN K a0 h := by
  rw [← f_proportion_amounts_run]; exact runF_bind rfl
noncomputable def F_proportion_amounts : Fun := closedX [.l 1] [.o] R_proportion_amounts
theorem F_proportion_amounts_ok : CSound Tryz.prog 79 F_proportion_amounts := closedX_sound _ _ R_proportion_amounts_ok
theorem F_proportion_amounts_run {a0 : AV} {v : AV} (ha : plains [a0] = true) (hv : f_proportion_amounts Tryz.prog t_proportion_amounts d_proportion_amounts NN (fun v g => cvt false g v) (nrm (.l 1) a0) [] = some v) (h : Hp) : F_proportion_amounts [a0] h = some (v, h) := by
  have e : (R_proportion_amounts (nrms [.l 1] [a0]) []).bind (fun (p : AV × Hp) => cvt false p.2 p.1) = some v := (R_proportion_amounts_eq (fun v g => cvt false g v) (nrm (.l 1) a0) []).trans hv
  exact (closedX_bind (shr := [.o]) ha e h).trans (congrArg (fun x => some (x, h)) (nrmR_rep 1 v))
noncomputable def d_bits_Mul64 : DTab := D0
theorem d_bits_Mul64_ok : DSound Tryz.prog d_bits_Mul64 := DSound.zero
noncomputable def t_bits_Mul64 : Tab := T0
theorem t_bits_Mul64_ok : TSound Tryz.prog t_bits_Mul64 := TSound.zero
noncomputable def R_bits_Mul64 : Fun := runF Tryz.prog t_bits_Mul64 d_bits_Mul64 NN [0, 1, 4, 5, 6, 7, 8, 9, 10, 11, 12, 13] Tryz.f122 2
theorem R_bits_Mul64_ok : CSound Tryz.prog 122 R_bits_Mul64 := run_sound t_bits_Mul64_ok d_bits_Mul64_ok mixed Tryz.func122 (by kernel_rfl) NN
theorem R_bits_Mul64_eq {β : Type} (K : AV → Hp → Option β) (a0 : AV) (a1 : AV) (h : Hp) : (R_bits_Mul64 [a0, a1] h).bind (fun p => K p.1 p.2) = f_bits_Mul64 Tryz.prog t_bits_Mul64 d_bits_Mul64 NN K a0 a1 h := by
  rw [← f_bits_Mul64_run]; exact runF_bind rfl
noncomputable def F_bits_Mul64 : Fun := closedX [.o, .o] [.o, .o] R_bits_Mul64
theorem F_bits_Mul64_ok : CSound Tryz.prog 122 F_bits_Mul64 := closedX_sound _ _ R_bits_Mul64_ok
theorem F_bits_Mul64_run {a0 : AV} {a1 : AV} {v : AV} (ha : plains [a0, a1] = true) (hv : f_bits_Mul64 Tryz.prog t_bits_Mul64 d_bits_Mul64 NN (fun v g => cvt false g v) a0 a1 [] = some v) (h : Hp) : F_bits_Mul64 [a0, a1] h = some (v, h) := by
  have e : (R_bits_Mul64 (nrms [.o, .o] [a0, a1]) []).bind (fun (p : AV × Hp) => cvt false p.2 p.1) = some v := (R_bits_Mul64_eq (fun v g => cvt false g v) a0 a1 []).trans hv
  exact (closedX_bind (shr := [.o, .o]) ha e h).trans (congrArg (fun x => some (x, h)) (nrmR_rep 2 v))
noncomputable def d_proportion_product : DTab := D0
theorem d_proportion_product_ok : DSound Tryz.prog d_proportion_product := DSound.zero
noncomputable def t_proportion_product : Tab := (updF T0 122 F_bits_Mul64)
theorem t_proportion_product_ok : TSound Tryz.prog t_proportion_product := (TSound.upd TSound.zero F_bits_Mul64_ok)
@[simp] theorem t_proportion_product_122 : t_proportion_product 122 = some F_bits_Mul64 := rfl
noncomputable def R_proportion_product : Fun := runF Tryz.prog t_proportion_product d_proportion_product NN [0, 1, 4, 5, 6] Tryz.f96 2
theorem R_proportion_product_ok : CSound Tryz.prog 96 R_proportion_product := run_sound t_proportion_product_ok d_proportion_product_ok mixed Tryz.func96 (by kernel_rfl) NN
theorem R_proportion_product_eq {β : Type} (K : AV → Hp → Option β) (a0 : AV) (a1 : AV) (h : Hp) : (R_proportion_product [a0, a1] h).bind (fun p => K p.1 p.2) = f_proportion_product Tryz.prog t_proportion_product d_proportion_product NN K a0 a1 h := by
  rw [← f_proportion_product_run]; exact runF_bind rfl
noncomputable def F_proportion_product : Fun := closedX [.o, .o] [.o] R_proportion_product
theorem F_proportion_product_ok : CSound Tryz.prog 96 F_proportion_product := closedX_sound _ _ R_proportion_product_ok
theorem F_proportion_product_run {a0 : AV} {a1 : AV} {v : AV} (ha : plains [a0, a1] = true) (hv : f_proportion_product Tryz.prog t_proportion_product d_proportion_product NN (fun v g => cvt false g v) a0 a1 [] = some v) (h : Hp) : F_proportion_product [a0, a1] h = some (v, h) := by
  have e : (R_proportion_product (nrms [.o, .o] [a0, a1]) []).bind (fun (p : AV × Hp) => cvt false p.2 p.1) = some v := (R_proportion_product_eq (fun v g => cvt false g v) a0 a1 []).trans hv
  exact (closedX_bind (shr := [.o]) ha e h).trans (congrArg (fun x => some (x, h)) (nrmR_rep 1 v))
noncomputable def d_bits_Len64 : DTab := D0
theorem d_bits_Len64_ok : DSound Tryz.prog d_bits_Len64 := DSound.zero
noncomputable def t_bits_Len64 : Tab := T0
theorem t_bits_Len64_ok : TSound Tryz.prog t_bits_Len64 := TSound.zero
noncomputable def R_bits_Len64 : Fun := runF Tryz.prog t_bits_Len64 d_bits_Len64 NN [0, 2, 4, 8, 14] Tryz.f119 1
theorem R_bits_Len64_ok : CSound Tryz.prog 119 R_bits_Len64 := run_sound t_bits_Len64_ok d_bits_Len64_ok mixed Tryz.func119 (by kernel_rfl) NN
theorem R_bits_Len64_eq {β : Type} (K : AV → Hp → Option β) (a0 : AV) (h : Hp) : (R_bits_Len64 [a0] h).bind (fun p => K p.1 p.2) = f_bits_Len64 Tryz.prog t_bits_Len64 d_bits_Len64 NN K a0 h := by
  rw [← f_bits_Len64_run]; exact runF_bind rfl
noncomputable def F_bits_Len64 : Fun := closedX [.o] [.o] R_bits_Len64
theorem F_bits_Len64_ok : CSound Tryz.prog 119 F_bits_Len64 := closedX_sound _ _ R_bits_Len64_ok
theorem F_bits_Len64_run {a0 : AV} {v : AV} (ha : plains [a0] = true) (hv : f_bits_Len64 Tryz.prog t_bits_Len64 d_bits_Len64 NN (fun v g => cvt false g v) a0 [] = some v) (h : Hp) : F_bits_Len64 [a0] h = some (v, h) := by
  have e : (R_bits_Len64 (nrms [.o] [a0]) []).bind (fun (p : AV × Hp) => cvt false p.2 p.1) = some v := (R_bits_Len64_eq (fun v g => cvt false g v) a0 []).trans hv
  exact (closedX_bind (shr := [.o]) ha e h).trans (congrArg (fun x => some (x, h)) (nrmR_rep 1 v))
noncomputable def d_bits_LeadingZeros64 : DTab := D0
theorem d_bits_LeadingZeros64_ok : DSound Tryz.prog d_bits_LeadingZeros64 := DSound.zero
noncomputable def t_bits_LeadingZeros64 : Tab := (updF T0 119 F_bits_Len64)
theorem t_bits_LeadingZeros64_ok : TSound Tryz.prog t_bits_LeadingZeros64 := (TSound.upd TSound.zero F_bits_Len64_ok)
@[simp] theorem t_bits_LeadingZeros64_119 : t_bits_LeadingZeros64 119 = some F_bits_Len64 := rfl
noncomputable def R_bits_LeadingZeros64 : Fun := runF Tryz.prog t_bits_LeadingZeros64 d_bits_LeadingZeros64 NN [0, 2] Tryz.f123 1
theorem R_bits_LeadingZeros64_ok : CSound Tryz.prog 123 R_bits_LeadingZeros64 := run_sound t_bits_LeadingZeros64_ok d_bits_LeadingZeros64_ok mixed Tryz.func123 (by kernel_rfl) NN
theorem R_bits_LeadingZeros64_eq {β : Type} (K : AV → Hp → Option β) (a0 : AV) (h : Hp) : (R_bits_LeadingZeros64 [a0] h).bind (fun p => K p.1 p.2) = f_bits_LeadingZeros64 Tryz.prog t_bits_LeadingZeros64 d_bits_LeadingZeros64 NN K a0 h := by
  rw [← f_bits_LeadingZeros64_run]; exact runF_bind rfl
noncomputable def F_bits_LeadingZeros64 : Fun := closedX [.o] [.o] R_bits_LeadingZeros64
theorem F_bits_LeadingZeros64_ok : CSound Tryz.prog 123 F_bits_LeadingZeros64 := closedX_sound _ _ R_bits_LeadingZeros64_ok
theorem F_bits_LeadingZeros64_run {a0 : AV} {v : AV} (ha : plains [a0] = true) (hv : f_bits_LeadingZeros64 Tryz.prog t_bits_LeadingZeros64 d_bits_LeadingZeros64 NN (fun v g => cvt false g v) a0 [] = some v) (h : Hp) : F_bits_LeadingZeros64 [a0] h = some (v, h) := by
  have e : (R_bits_LeadingZeros64 (nrms [.o] [a0]) []).bind (fun (p : AV × Hp) => cvt false p.2 p.1) = some v := (R_bits_LeadingZeros64_eq (fun v g => cvt false g v) a0 []).trans hv
  exact (closedX_bind (shr := [.o]) ha e h).trans (congrArg (fun x => some (x, h)) (nrmR_rep 1 v))
noncomputable def d_bits_Div64 : DTab := D0
theorem d_bits_Div64_ok : DSound Tryz.prog d_bits_Div64 := DSound.zero
noncomputable def t_bits_Div64 : Tab := (updF T0 123 F_bits_LeadingZeros64)
theorem t_bits_Div64_ok : TSound Tryz.prog t_bits_Div64 := (TSound.upd TSound.zero F_bits_LeadingZeros64_ok)
@[simp] theorem t_bits_Div64_123 : t_bits_Div64 123 = some F_bits_LeadingZeros64 := rfl
noncomputable def R_bits_Div64 : Fun := runF Tryz.prog t_bits_Div64 d_bits_Div64 NN [0, 1, 2, 6, 7, 8, 9, 10, 11, 12, 13, 14, 15, 16, 17, 18, 20, 24, 27, 78, 85, 113, 120] Tryz.f97 3
theorem R_bits_Div64_ok : CSound Tryz.prog 97 R_bits_Div64 := run_sound t_bits_Div64_ok d_bits_Div64_ok mixed Tryz.func97 (by kernel_rfl) NN
theorem R_bits_Div64_eq {β : Type} (K : AV → Hp → Option β) (a0 : AV) (a1 : AV) (a2 : AV) (h : Hp) : (R_bits_Div64 [a0, a1, a2] h).bind (fun p => K p.1 p.2) = f_bits_Div64 Tryz.prog t_bits_Div64 d_bits_Div64 NN K a0 a1 a2 h := by
  rw [← f_bits_Div64_run]; exact runF_bind rfl
noncomputable def F_bits_Div64 : Fun := closedX [.o, .o, .o] [.o, .o] R_bits_Div64
theorem F_bits_Div64_ok : CSound Tryz.prog 97 F_bits_Div64 := closedX_sound _ _ R_bits_Div64_ok
theorem F_bits_Div64_run {a0 : AV} {a1 : AV} {a2 : AV} {v : AV} (ha : plains [a0, a1, a2] = true) (hv : f_bits_Div64 Tryz.prog t_bits_Div64 d_bits_Div64 NN (fun v g => cvt false g v) a0 a1 a2 [] = some v) (h : Hp) : F_bits_Div64 [a0, a1, a2] h = some (v, h) := by
  have e : (R_bits_Div64 (nrms [.o, .o, .o] [a0, a1, a2]) []).bind (fun (p : AV × Hp) => cvt false p.2 p.1) = some v := (R_bits_Div64_eq (fun v g => cvt false g v) a0 a1 a2 []).trans hv
  exact (closedX_bind (shr := [.o, .o]) ha e h).trans (congrArg (fun x => some (x, h)) (nrmR_rep 2 v))
noncomputable def d_proportion_divided : DTab := D0
theorem d_proportion_divided_ok : DSound Tryz.prog d_proportion_divided := DSound.zero
noncomputable def t_proportion_divided : Tab := (updF (updF T0 96 F_proportion_product) 97 F_bits_Div64)
theorem t_proportion_divided_ok : TSound Tryz.prog t_proportion_divided := (TSound.upd (TSound.upd TSound.zero F_proportion_product_ok) F_bits_Div64_ok)
@[simp] theorem t_proportion_divided_96 : t_proportion_divided 96 = some F_proportion_product := rfl
@[simp] theorem t_proportion_divided_97 : t_proportion_divided 97 = some F_bits_Div64 := rfl
noncomputable def R_proportion_divided : Fun := runF Tryz.prog t_proportion_divided d_proportion_divided NN [0, 1, 2, 6, 7, 8, 9, 10, 11, 19, 31] Tryz.f80 3
theorem R_proportion_divided_ok : CSound Tryz.prog 80 R_proportion_divided := run_sound t_proportion_divided_ok d_proportion_divided_ok mixed Tryz.func80 (by kernel_rfl) NN
theorem R_proportion_divided_eq {β : Type} (K : AV → Hp → Option β) (a0 : AV) (a1 : AV) (a2 : AV) (h : Hp) : (R_proportion_divided [a0, a1, a2] h).bind (fun p => K p.1 p.2) = f_proportion_divided Tryz.prog t_proportion_divided d_proportion_divided NN K a0 a1 a2 h := by
  rw [← f_proportion_divided_run]; exact runF_bind rfl
noncomputable def F_proportion_divided : Fun := closedX [.o, .o, .o] [.o, .o, .o] R_proportion_divided
theorem F_proportion_divided_ok : CSound Tryz.prog 80 F_proportion_divided := closedX_sound _ _ R_proportion_divided_ok
theorem F_proportion_divided_run {a0 : AV} {a1 : AV} {a2 : AV} {v : AV} (ha : plains [a0, a1, a2] = true) (hv : f_proportion_divided Tryz.prog t_proportion_divided d_proportion_divided NN (fun v g => cvt false g v) a0 a1 a2 [] = some v) (h : Hp) : F_proportion_divided [a0, a1, a2] h = some (v, h) := by
  have e : (R_proportion_divided (nrms [.o, .o, .o] [a0, a1, a2]) []).bind (fun (p : AV × Hp) => cvt false p.2 p.1) = some v := (R_proportion_divided_eq (fun v g => cvt false g v) a0 a1 a2 []).trans hv
  exact (closedX_bind (shr := [.o, .o, .o]) ha e h).trans (congrArg (fun x => some (x, h)) (nrmR_rep 3 v))
noncomputable def d_proportion_Of : DTab := D0
theorem d_proportion_Of_ok : DSound Tryz.prog d_proportion_Of := DSound.zero
noncomputable def t_proportion_Of : Tab := (updF (updF T0 79 F_proportion_amounts) 80 F_proportion_divided)
theorem t_proportion_Of_ok : TSound Tryz.prog t_proportion_Of := (TSound.upd (TSound.upd TSound.zero F_proportion_amounts_ok) F_proportion_divided_ok)
@[simp] theorem t_proportion_Of_79 : t_proportion_Of 79 = some F_proportion_amounts := rfl
@[simp] theorem t_proportion_Of_80 : t_proportion_Of 80 = some F_proportion_divided := rfl
noncomputable def R_proportion_Of : Fun := runF Tryz.prog t_proportion_Of d_proportion_Of NN [0, 1, 2, 6, 7, 8, 9, 10, 11, 17, 19, 29] Tryz.f44 3
theorem R_proportion_Of_ok : CSound Tryz.prog 44 R_proportion_Of := run_sound t_proportion_Of_ok d_proportion_Of_ok mixed Tryz.func44 (by kernel_rfl) NN
theorem R_proportion_Of_eq {β : Type} (K : AV → Hp → Option β) (a0 : AV) (a1 : AV) (a2 : AV) (h : Hp) : (R_proportion_Of [a0, a1, a2] h).bind (fun p => K p.1 p.2) = f_proportion_Of Tryz.prog t_proportion_Of d_proportion_Of NN K a0 a1 a2 h := by
  rw [← f_proportion_Of_run]; exact runF_bind rfl
noncomputable def F_proportion_Of : Fun := closedX [.o, .o, .o] [.o, .o, .o] R_proportion_Of
theorem F_proportion_Of_ok : CSound Tryz.prog 44 F_proportion_Of := closedX_sound _ _ R_proportion_Of_ok
theorem F_proportion_Of_run {a0 : AV} {a1 : AV} {a2 : AV} {v : AV} (ha : plains [a0, a1, a2] = true) (hv : f_proportion_Of Tryz.prog t_proportion_Of d_proportion_Of NN (fun v g => cvt false g v) a0 a1 a2 [] = some v) (h : Hp) : F_proportion_Of [a0, a1, a2] h = some (v, h) := by
  have e : (R_proportion_Of (nrms [.o, .o, .o] [a0, a1, a2]) []).bind (fun (p : AV × Hp) => cvt false p.2 p.1) = some v := (R_proportion_Of_eq (fun v g => cvt false g v) a0 a1 a2 []).trans hv
  exact (closedX_bind (shr := [.o, .o, .o]) ha e h).trans (congrArg (fun x => some (x, h)) (nrmR_rep 3 v))
noncomputable def d_calendar_is : DTab := D0
theorem d_calendar_is_ok : DSound Tryz.prog d_calendar_is := DSound.zero
noncomputable def t_calendar_is : Tab := T0
theorem t_calendar_is_ok : TSound Tryz.prog t_calendar_is := TSound.zero
noncomputable def R_calendar_is : Fun := runF Tryz.prog t_calendar_is d_calendar_is NN [0, 2] Tryz.f124 1
theorem R_calendar_is_ok : CSound Tryz.prog 124 R_calendar_is := run_sound t_calendar_is_ok d_calendar_is_ok mixed Tryz.func124 (by kernel_rfl) NN
theorem R_calendar_is_eq {β : Type} (K : AV → Hp → Option β) (a0 : AV) (h : Hp) : (R_calendar_is [a0] h).bind (fun p => K p.1 p.2) = f_calendar_is Tryz.prog t_calendar_is d_calendar_is NN K a0 h := by
  rw [← f_calendar_is_run]; exact runF_bind rfl
noncomputable def F_calendar_is : Fun := closedX [.o] [.o] R_calendar_is
theorem F_calendar_is_ok : CSound Tryz.prog 124 F_calendar_is := closedX_sound _ _ R_calendar_is_ok
noncomputable def G_calendar_is : DFun := closedXD [.o] [.o] R_calendar_is
theorem G_calendar_is_ro : Ro F_calendar_is G_calendar_is := closedX_ro _ _ _
theorem F_calendar_is_run {a0 : AV} {v : AV} (ha : plains [a0] = true) (hv : f_calendar_is Tryz.prog t_calendar_is d_calendar_is NN (fun v g => cvt false g v) a0 [] = some v) (h : Hp) : F_calendar_is [a0] h = some (v, h) := by
  have e : (R_calendar_is (nrms [.o] [a0]) []).bind (fun (p : AV × Hp) => cvt false p.2 p.1) = some v := (R_calendar_is_eq (fun v g => cvt false g v) a0 []).trans hv
  exact (closedX_bind (shr := [.o]) ha e h).trans (congrArg (fun x => some (x, h)) (nrmR_rep 1 v))
noncomputable def d_calendar_leap : DTab := D0
theorem d_calendar_leap_ok : DSound Tryz.prog d_calendar_leap := DSound.zero
noncomputable def t_calendar_leap : Tab := T0
theorem t_calendar_leap_ok : TSound Tryz.prog t_calendar_leap := TSound.zero
noncomputable def R_calendar_leap : Fun := runF Tryz.prog t_calendar_leap d_calendar_leap NN [0, 2] Tryz.f136 1
theorem R_calendar_leap_ok : CSound Tryz.prog 136 R_calendar_leap := run_sound t_calendar_leap_ok d_calendar_leap_ok mixed Tryz.func136 (by kernel_rfl) NN
theorem R_calendar_leap_eq {β : Type} (K : AV → Hp → Option β) (a0 : AV) (h : Hp) : (R_calendar_leap [a0] h).bind (fun p => K p.1 p.2) = f_calendar_leap Tryz.prog t_calendar_leap d_calendar_leap NN K a0 h := by
  rw [← f_calendar_leap_run]; exact runF_bind rfl
noncomputable def F_calendar_leap : Fun := closedX [.o] [.o] R_calendar_leap
theorem F_calendar_leap_ok : CSound Tryz.prog 136 F_calendar_leap := closedX_sound _ _ R_calendar_leap_ok
theorem F_calendar_leap_run {a0 : AV} {v : AV} (ha : plains [a0] = true) (hv : f_calendar_leap Tryz.prog t_calendar_leap d_calendar_leap NN (fun v g => cvt false g v) a0 [] = some v) (h : Hp) : F_calendar_leap [a0] h = some (v, h) := by
  have e : (R_calendar_leap (nrms [.o] [a0]) []).bind (fun (p : AV × Hp) => cvt false p.2 p.1) = some v := (R_calendar_leap_eq (fun v g => cvt false g v) a0 []).trans hv
  exact (closedX_bind (shr := [.o]) ha e h).trans (congrArg (fun x => some (x, h)) (nrmR_rep 1 v))
noncomputable def d_calendar_length : DTab := D0
theorem d_calendar_length_ok : DSound Tryz.prog d_calendar_length := DSound.zero
noncomputable def t_calendar_length : Tab := (updF T0 136 F_calendar_leap)
theorem t_calendar_length_ok : TSound Tryz.prog t_calendar_length := (TSound.upd TSound.zero F_calendar_leap_ok)
@[simp] theorem t_calendar_length_136 : t_calendar_length 136 = some F_calendar_leap := rfl
noncomputable def R_calendar_length : Fun := runF Tryz.prog t_calendar_length d_calendar_length NN [0, 1, 4, 5, 12] Tryz.f126 2
theorem R_calendar_length_ok : CSound Tryz.prog 126 R_calendar_length := run_sound t_calendar_length_ok d_calendar_length_ok mixed Tryz.func126 (by kernel_rfl) NN
theorem R_calendar_length_eq {β : Type} (K : AV → Hp → Option β) (a0 : AV) (a1 : AV) (h : Hp) : (R_calendar_length [a0, a1] h).bind (fun p => K p.1 p.2) = f_calendar_length Tryz.prog t_calendar_length d_calendar_length NN K a0 a1 h := by
  rw [← f_calendar_length_run]; exact runF_bind rfl
noncomputable def F_calendar_length : Fun := closedX [.o, .o] [.o] R_calendar_length
theorem F_calendar_length_ok : CSound Tryz.prog 126 F_calendar_length := closedX_sound _ _ R_calendar_length_ok
noncomputable def G_calendar_length : DFun := closedXD [.o, .o] [.o] R_calendar_length
theorem G_calendar_length_ro : Ro F_calendar_length G_calendar_length := closedX_ro _ _ _
theorem F_calendar_length_run {a0 : AV} {a1 : AV} {v : AV} (ha : plains [a0, a1] = true) (hv : f_calendar_length Tryz.prog t_calendar_length d_calendar_length NN (fun v g => cvt false g v) a0 a1 [] = some v) (h : Hp) : F_calendar_length [a0, a1] h = some (v, h) := by
  have e : (R_calendar_length (nrms [.o, .o] [a0, a1]) []).bind (fun (p : AV × Hp) => cvt false p.2 p.1) = some v := (R_calendar_length_eq (fun v g => cvt false g v) a0 a1 []).trans hv
  exact (closedX_bind (shr := [.o]) ha e h).trans (congrArg (fun x => some (x, h)) (nrmR_rep 1 v))
noncomputable def d_calendar_before_1 : DTab := D0
theorem d_calendar_before_1_ok : DSound Tryz.prog d_calendar_before_1 := DSound.zero
noncomputable def t_calendar_before_1 : Tab := T0
theorem t_calendar_before_1_ok : TSound Tryz.prog t_calendar_before_1 := TSound.zero
noncomputable def R_calendar_before_1 : Fun := runF Tryz.prog t_calendar_before_1 d_calendar_before_1 NN [0, 2] Tryz.f138 1
theorem R_calendar_before_1_ok : CSound Tryz.prog 138 R_calendar_before_1 := run_sound t_calendar_before_1_ok d_calendar_before_1_ok mixed Tryz.func138 (by kernel_rfl) NN
theorem R_calendar_before_1_eq {β : Type} (K : AV → Hp → Option β) (a0 : AV) (h : Hp) : (R_calendar_before_1 [a0] h).bind (fun p => K p.1 p.2) = f_calendar_before_1 Tryz.prog t_calendar_before_1 d_calendar_before_1 NN K a0 h := by
  rw [← f_calendar_before_1_run]; exact runF_bind rfl
noncomputable def F_calendar_before_1 : Fun := closedX [.o] [.o] R_calendar_before_1
theorem F_calendar_before_1_ok : CSound Tryz.prog 138 F_calendar_before_1 := closedX_sound _ _ R_calendar_before_1_ok
theorem F_calendar_before_1_run {a0 : AV} {v : AV} (ha : plains [a0] = true) (hv : f_calendar_before_1 Tryz.prog t_calendar_before_1 d_calendar_before_1 NN (fun v g => cvt false g v) a0 [] = some v) (h : Hp) : F_calendar_before_1 [a0] h = some (v, h) := by
  have e : (R_calendar_before_1 (nrms [.o] [a0]) []).bind (fun (p : AV × Hp) => cvt false p.2 p.1) = some v := (R_calendar_before_1_eq (fun v g => cvt false g v) a0 []).trans hv
  exact (closedX_bind (shr := [.o]) ha e h).trans (congrArg (fun x => some (x, h)) (nrmR_rep 1 v))
noncomputable def d_calendar_before : DTab := D0
theorem d_calendar_before_ok : DSound Tryz.prog d_calendar_before := DSound.zero
noncomputable def t_calendar_before : Tab := (updF T0 138 F_calendar_before_1)
theorem t_calendar_before_ok : TSound Tryz.prog t_calendar_before := (TSound.upd TSound.zero F_calendar_before_1_ok)
@[simp] theorem t_calendar_before_138 : t_calendar_before 138 = some F_calendar_before_1 := rfl
noncomputable def R_calendar_before : Fun := runF Tryz.prog t_calendar_before d_calendar_before NN [0, 2, 3] Tryz.f135 1
theorem R_calendar_before_ok : CSound Tryz.prog 135 R_calendar_before := run_sound t_calendar_before_ok d_calendar_before_ok mixed Tryz.func135 (by kernel_rfl) NN
theorem R_calendar_before_eq {β : Type} (K : AV → Hp → Option β) (a0 : AV) (h : Hp) : (R_calendar_before [a0] h).bind (fun p => K p.1 p.2) = f_calendar_before Tryz.prog t_calendar_before d_calendar_before NN K a0 h := by
  rw [← f_calendar_before_run]; exact runF_bind rfl
noncomputable def F_calendar_before : Fun := closedX [.o] [.o] R_calendar_before
theorem F_calendar_before_ok : CSound Tryz.prog 135 F_calendar_before := closedX_sound _ _ R_calendar_before_ok
noncomputable def G_calendar_before : DFun := closedXD [.o] [.o] R_calendar_before
theorem G_calendar_before_ro : Ro F_calendar_before G_calendar_before := closedX_ro _ _ _
theorem F_calendar_before_run {a0 : AV} {v : AV} (ha : plains [a0] = true) (hv : f_calendar_before Tryz.prog t_calendar_before d_calendar_before NN (fun v g => cvt false g v) a0 [] = some v) (h : Hp) : F_calendar_before [a0] h = some (v, h) := by
  have e : (R_calendar_before (nrms [.o] [a0]) []).bind (fun (p : AV × Hp) => cvt false p.2 p.1) = some v := (R_calendar_before_eq (fun v g => cvt false g v) a0 []).trans hv
  exact (closedX_bind (shr := [.o]) ha e h).trans (congrArg (fun x => some (x, h)) (nrmR_rep 1 v))
noncomputable def d_calendar_date : DTab := D0
theorem d_calendar_date_ok : DSound Tryz.prog d_calendar_date := DSound.zero
noncomputable def t_calendar_date : Tab := (updF (updF T0 126 F_calendar_length) 135 F_calendar_before)
theorem t_calendar_date_ok : TSound Tryz.prog t_calendar_date := (TSound.upd (TSound.upd TSound.zero F_calendar_length_ok) F_calendar_before_ok)
@[simp] theorem t_calendar_date_126 : t_calendar_date 126 = some F_calendar_length := rfl
@[simp] theorem t_calendar_date_135 : t_calendar_date 135 = some F_calendar_before := rfl
noncomputable def R_calendar_date : Fun := runF Tryz.prog t_calendar_date d_calendar_date NN [0, 2, 3, 13, 29] Tryz.f125 1
theorem R_calendar_date_ok : CSound Tryz.prog 125 R_calendar_date := run_sound t_calendar_date_ok d_calendar_date_ok mixed Tryz.func125 (by kernel_rfl) NN
theorem R_calendar_date_eq {β : Type} (K : AV → Hp → Option β) (a0 : AV) (h : Hp) : (R_calendar_date [a0] h).bind (fun p => K p.1 p.2) = f_calendar_date Tryz.prog t_calendar_date d_calendar_date NN K a0 h := by
  rw [← f_calendar_date_run]; exact runF_bind rfl
noncomputable def F_calendar_date : Fun := closedX [.o] [.o] R_calendar_date
theorem F_calendar_date_ok : CSound Tryz.prog 125 F_calendar_date := closedX_sound _ _ R_calendar_date_ok
noncomputable def G_calendar_date : DFun := closedXD [.o] [.o] R_calendar_date
theorem G_calendar_date_ro : Ro F_calendar_date G_calendar_date := closedX_ro _ _ _
theorem F_calendar_date_run {a0 : AV} {v : AV} (ha : plains [a0] = true) (hv : f_calendar_date Tryz.prog t_calendar_date d_calendar_date NN (fun v g => cvt false g v) a0 [] = some v) (h : Hp) : F_calendar_date [a0] h = some (v, h) := by
  have e : (R_calendar_date (nrms [.o] [a0]) []).bind (fun (p : AV × Hp) => cvt false p.2 p.1) = some v := (R_calendar_date_eq (fun v g => cvt false g v) a0 []).trans hv
  exact (closedX_bind (shr := [.o]) ha e h).trans (congrArg (fun x => some (x, h)) (nrmR_rep 1 v))
noncomputable def d_calendar_Date : DTab := D0
theorem d_calendar_Date_ok : DSound Tryz.prog d_calendar_Date := DSound.zero
noncomputable def t_calendar_Date : Tab := (updF (updF T0 124 F_calendar_is) 125 F_calendar_date)
theorem t_calendar_Date_ok : TSound Tryz.prog t_calendar_Date := (TSound.upd (TSound.upd TSound.zero F_calendar_is_ok) F_calendar_date_ok)
@[simp] theorem t_calendar_Date_124 : t_calendar_Date 124 = some F_calendar_is := rfl
@[simp] theorem t_calendar_Date_125 : t_calendar_Date 125 = some F_calendar_date := rfl
noncomputable def R_calendar_Date : Fun := runF Tryz.prog t_calendar_Date d_calendar_Date NN [0, 2, 3, 6] Tryz.f98 1
theorem R_calendar_Date_ok : CSound Tryz.prog 98 R_calendar_Date := run_sound t_calendar_Date_ok d_calendar_Date_ok mixed Tryz.func98 (by kernel_rfl) NN
theorem R_calendar_Date_eq {β : Type} (K : AV → Hp → Option β) (a0 : AV) (h : Hp) : (R_calendar_Date [a0] h).bind (fun p => K p.1 p.2) = f_calendar_Date Tryz.prog t_calendar_Date d_calendar_Date NN K a0 h := by
  rw [← f_calendar_Date_run]; exact runF_bind rfl
noncomputable def F_calendar_Date : Fun := closedX [.o] [.o, .o] R_calendar_Date
theorem F_calendar_Date_ok : CSound Tryz.prog 98 F_calendar_Date := closedX_sound _ _ R_calendar_Date_ok
theorem F_calendar_Date_run {a0 : AV} {v : AV} (ha : plains [a0] = true) (hv : f_calendar_Date Tryz.prog t_calendar_Date d_calendar_Date NN (fun v g => cvt false g v) a0 [] = some v) (h : Hp) : F_calendar_Date [a0] h = some (v, h) := by
  have e : (R_calendar_Date (nrms [.o] [a0]) []).bind (fun (p : AV × Hp) => cvt false p.2 p.1) = some v := (R_calendar_Date_eq (fun v g => cvt false g v) a0 []).trans hv
  exact (closedX_bind (shr := [.o, .o]) ha e h).trans (congrArg (fun x => some (x, h)) (nrmR_rep 2 v))
noncomputable def d_calendar_number : DTab := (updD D0 135 G_calendar_before)
theorem d_calendar_number_ok : DSound Tryz.prog d_calendar_number := (DSound.ro DSound.zero G_calendar_before_ro F_calendar_before_ok)
@[simp] theorem d_calendar_number_135 : d_calendar_number 135 = some G_calendar_before := rfl
noncomputable def t_calendar_number : Tab := (updF (updF T0 126 F_calendar_length) 135 F_calendar_before)
theorem t_calendar_number_ok : TSound Tryz.prog t_calendar_number := (TSound.upd (TSound.upd TSound.zero F_calendar_length_ok) F_calendar_before_ok)
@[simp] theorem t_calendar_number_126 : t_calendar_number 126 = some F_calendar_length := rfl
@[simp] theorem t_calendar_number_135 : t_calendar_number 135 = some F_calendar_before := rfl
noncomputable def R_calendar_number : Fun := runF Tryz.prog t_calendar_number d_calendar_number NN [0, 1, 2, 3, 4, 15] Tryz.f127 1
theorem R_calendar_number_ok : CSound Tryz.prog 127 R_calendar_number := run_sound t_calendar_number_ok d_calendar_number_ok mixed Tryz.func127 (by kernel_rfl) NN
theorem R_calendar_number_eq {β : Type} (K : AV → Hp → Option β) (a0 : AV) (h : Hp) : (R_calendar_number [a0] h).bind (fun p => K p.1 p.2) = f_calendar_number Tryz.prog t_calendar_number d_calendar_number NN K a0 h := by
  rw [← f_calendar_number_run]; exact runF_bind rfl
noncomputable def F_calendar_number : Fun := closedX [.o] [.o] R_calendar_number
theorem F_calendar_number_ok : CSound Tryz.prog 127 F_calendar_number := closedX_sound _ _ R_calendar_number_ok
theorem F_calendar_number_run {a0 : AV} {v : AV} (ha : plains [a0] = true) (hv : f_calendar_number Tryz.prog t_calendar_number d_calendar_number NN (fun v g => cvt false g v) a0 [] = some v) (h : Hp) : F_calendar_number [a0] h = some (v, h) := by
  have e : (R_calendar_number (nrms [.o] [a0]) []).bind (fun (p : AV × Hp) => cvt false p.2 p.1) = some v := (R_calendar_number_eq (fun v g => cvt false g v) a0 []).trans hv
  exact (closedX_bind (shr := [.o]) ha e h).trans (congrArg (fun x => some (x, h)) (nrmR_rep 1 v))
noncomputable def d_calendar_Day : DTab := (updD (updD (updD D0 124 G_calendar_is) 125 G_calendar_date) 126 G_calendar_length)
theorem d_calendar_Day_ok : DSound Tryz.prog d_calendar_Day := (DSound.ro (DSound.ro (DSound.ro DSound.zero G_calendar_is_ro F_calendar_is_ok) G_calendar_date_ro F_calendar_date_ok) G_calendar_length_ro F_calendar_length_ok)
@[simp] theorem d_calendar_Day_124 : d_calendar_Day 124 = some G_calendar_is := rfl
@[simp] theorem d_calendar_Day_125 : d_calendar_Day 125 = some G_calendar_date := rfl
@[simp] theorem d_calendar_Day_126 : d_calendar_Day 126 = some G_calendar_length := rfl
noncomputable def t_calendar_Day : Tab := (updF (updF (updF (updF T0 124 F_calendar_is) 125 F_calendar_date) 126 F_calendar_length) 127 F_calendar_number)
theorem t_calendar_Day_ok : TSound Tryz.prog t_calendar_Day := (TSound.upd (TSound.upd (TSound.upd (TSound.upd TSound.zero F_calendar_is_ok) F_calendar_date_ok) F_calendar_length_ok) F_calendar_number_ok)
@[simp] theorem t_calendar_Day_124 : t_calendar_Day 124 = some F_calendar_is := rfl
@[simp] theorem t_calendar_Day_125 : t_calendar_Day 125 = some F_calendar_date := rfl
@[simp] theorem t_calendar_Day_126 : t_calendar_Day 126 = some F_calendar_length := rfl
@[simp] theorem t_calendar_Day_127 : t_calendar_Day 127 = some F_calendar_number := rfl
noncomputable def R_calendar_Day : Fun := runF Tryz.prog t_calendar_Day d_calendar_Day NN [0, 1, 2, 3, 4, 37, 48] Tryz.f99 1
theorem R_calendar_Day_ok : CSound Tryz.prog 99 R_calendar_Day := run_sound t_calendar_Day_ok d_calendar_Day_ok mixed Tryz.func99 (by kernel_rfl) NN
theorem R_calendar_Day_eq {β : Type} (K : AV → Hp → Option β) (a0 : AV) (h : Hp) : (R_calendar_Day [a0] h).bind (fun p => K p.1 p.2) = f_calendar_Day Tryz.prog t_calendar_Day d_calendar_Day NN K a0 h := by
  rw [← f_calendar_Day_run]; exact runF_bind rfl
noncomputable def F_calendar_Day : Fun := closedX [.o] [.o, .o] R_calendar_Day
theorem F_calendar_Day_ok : CSound Tryz.prog 99 F_calendar_Day := closedX_sound _ _ R_calendar_Day_ok
theorem F_calendar_Day_run {a0 : AV} {v : AV} (ha : plains [a0] = true) (hv : f_calendar_Day Tryz.prog t_calendar_Day d_calendar_Day NN (fun v g => cvt false g v) a0 [] = some v) (h : Hp) : F_calendar_Day [a0] h = some (v, h) := by
  have e : (R_calendar_Day (nrms [.o] [a0]) []).bind (fun (p : AV × Hp) => cvt false p.2 p.1) = some v := (R_calendar_Day_eq (fun v g => cvt false g v) a0 []).trans hv
  exact (closedX_bind (shr := [.o, .o]) ha e h).trans (congrArg (fun x => some (x, h)) (nrmR_rep 2 v))
noncomputable def d_season_on_1 : DTab := D0
theorem d_season_on_1_ok : DSound Tryz.prog d_season_on_1 := DSound.zero
noncomputable def t_season_on_1 : Tab := T0
theorem t_season_on_1_ok : TSound Tryz.prog t_season_on_1 := TSound.zero
noncomputable def R_season_on_1 : Fun := runF Tryz.prog t_season_on_1 d_season_on_1 NN [0, 1, 2, 4] Tryz.f101 3
theorem R_season_on_1_ok : CSound Tryz.prog 101 R_season_on_1 := run_sound t_season_on_1_ok d_season_on_1_ok mixed Tryz.func101 (by kernel_rfl) NN
theorem R_season_on_1_eq {β : Type} (K : AV → Hp → Option β) (a0 : AV) (a1 : AV) (a2 : AV) (h : Hp) : (R_season_on_1 [a0, a1, a2] h).bind (fun p => K p.1 p.2) = f_season_on_1 Tryz.prog t_season_on_1 d_season_on_1 NN K a0 a1 a2 h := by
  rw [← f_season_on_1_run]; exact runF_bind rfl
noncomputable def F_season_on_1 : Fun := quietT R_season_on_1
theorem F_season_on_1_ok : CSound Tryz.prog 101 F_season_on_1 := quietT_sound R_season_on_1_ok
theorem F_season_on_1_q {a0 : AV} {a1 : AV} {a2 : AV} {h : Hp} {g : List AObj} {v : AV} (hv : f_season_on_1 Tryz.prog t_season_on_1 d_season_on_1 NN (fun v h => some (v, h)) a0 a1 a2 h = some (v, h ++ g)) (hp : plain v = true) : F_season_on_1 [a0, a1, a2] h = some (v, h) := quietT_val (F := R_season_on_1) (((bind_pair _).symm.trans (R_season_on_1_eq (fun v h => some (v, h)) a0 a1 a2 h)).trans hv) hp
noncomputable def d_sort_Search__season_on_1 : DTab := D0
theorem d_sort_Search__season_on_1_ok : DSound Tryz.prog d_sort_Search__season_on_1 := DSound.zero
noncomputable def t_sort_Search__season_on_1 : Tab := (updF T0 101 F_season_on_1)
theorem t_sort_Search__season_on_1_ok : TSound Tryz.prog t_sort_Search__season_on_1 := (TSound.upd TSound.zero F_season_on_1_ok)
@[simp] theorem t_sort_Search__season_on_1_101 : t_sort_Search__season_on_1 101 = some F_season_on_1 := rfl
noncomputable def R_sort_Search__season_on_1 : Fun := runF Tryz.prog t_sort_Search__season_on_1 d_sort_Search__season_on_1 NN [0, 1, 4, 5, 6, 7, 11, 21] Tryz.f100 2
theorem R_sort_Search__season_on_1_ok : CSound Tryz.prog 100 R_sort_Search__season_on_1 := run_sound t_sort_Search__season_on_1_ok d_sort_Search__season_on_1_ok mixed Tryz.func100 (by kernel_rfl) NN
theorem R_sort_Search__season_on_1_eq {β : Type} (K : AV → Hp → Option β) (a0 : AV) (a1 : AV) (h : Hp) : (R_sort_Search__season_on_1 [a0, a1] h).bind (fun p => K p.1 p.2) = f_sort_Search Tryz.prog t_sort_Search__season_on_1 d_sort_Search__season_on_1 NN K a0 a1 h := by
  rw [← f_sort_Search_run]; exact runF_bind rfl
noncomputable def F_sort_Search__season_on_1 : Fun := quietT R_sort_Search__season_on_1
theorem F_sort_Search__season_on_1_ok : CSound Tryz.prog 100 F_sort_Search__season_on_1 := quietT_sound R_sort_Search__season_on_1_ok
theorem F_sort_Search__season_on_1_q {a0 : AV} {a1 : AV} {h : Hp} {g : List AObj} {v : AV} (hv : f_sort_Search Tryz.prog t_sort_Search__season_on_1 d_sort_Search__season_on_1 NN (fun v h => some (v, h)) a0 a1 h = some (v, h ++ g)) (hp : plain v = true) : F_sort_Search__season_on_1 [a0, a1] h = some (v, h) := quietT_val (F := R_sort_Search__season_on_1) (((bind_pair _).symm.trans (R_sort_Search__season_on_1_eq (fun v h => some (v, h)) a0 a1 h)).trans hv) hp
noncomputable def d_season_version_1 : DTab := D0
theorem d_season_version_1_ok : DSound Tryz.prog d_season_version_1 := DSound.zero
noncomputable def t_season_version_1 : Tab := T0
theorem t_season_version_1_ok : TSound Tryz.prog t_season_version_1 := TSound.zero
noncomputable def R_season_version_1 : Fun := runF Tryz.prog t_season_version_1 d_season_version_1 NN [0, 1, 2, 4] Tryz.f128 3
theorem R_season_version_1_ok : CSound Tryz.prog 128 R_season_version_1 := run_sound t_season_version_1_ok d_season_version_1_ok mixed Tryz.func128 (by kernel_rfl) NN
theorem R_season_version_1_eq {β : Type} (K : AV → Hp → Option β) (a0 : AV) (a1 : AV) (a2 : AV) (h : Hp) : (R_season_version_1 [a0, a1, a2] h).bind (fun p => K p.1 p.2) = f_season_version_1 Tryz.prog t_season_version_1 d_season_version_1 NN K a0 a1 a2 h := by
  rw [← f_season_version_1_run]; exact runF_bind rfl
noncomputable def F_season_version_1 : Fun := quietT R_season_version_1
theorem F_season_version_1_ok : CSound Tryz.prog 128 F_season_version_1 := quietT_sound R_season_version_1_ok
theorem F_season_version_1_q {a0 : AV} {a1 : AV} {a2 : AV} {h : Hp} {g : List AObj} {v : AV} (hv : f_season_version_1 Tryz.prog t_season_version_1 d_season_version_1 NN (fun v h => some (v, h)) a0 a1 a2 h = some (v, h ++ g)) (hp : plain v = true) : F_season_version_1 [a0, a1, a2] h = some (v, h) := quietT_val (F := R_season_version_1) (((bind_pair _).symm.trans (R_season_version_1_eq (fun v h => some (v, h)) a0 a1 a2 h)).trans hv) hp
noncomputable def d_sort_Search__season_version_1 : DTab := D0
theorem d_sort_Search__season_version_1_ok : DSound Tryz.prog d_sort_Search__season_version_1 := DSound.zero
noncomputable def t_sort_Search__season_version_1 : Tab := (updF T0 128 F_season_version_1)
theorem t_sort_Search__season_version_1_ok : TSound Tryz.prog t_sort_Search__season_version_1 := (TSound.upd TSound.zero F_season_version_1_ok)
@[simp] theorem t_sort_Search__season_version_1_128 : t_sort_Search__season_version_1 128 = some F_season_version_1 := rfl
noncomputable def R_sort_Search__season_version_1 : Fun := runF Tryz.prog t_sort_Search__season_version_1 d_sort_Search__season_version_1 NN [0, 1, 4, 5, 6, 7, 11, 21] Tryz.f100 2
theorem R_sort_Search__season_version_1_ok : CSound Tryz.prog 100 R_sort_Search__season_version_1 := run_sound t_sort_Search__season_version_1_ok d_sort_Search__season_version_1_ok mixed Tryz.func100 (by kernel_rfl) NN
theorem R_sort_Search__season_version_1_eq {β : Type} (K : AV → Hp → Option β) (a0 : AV) (a1 : AV) (h : Hp) : (R_sort_Search__season_version_1 [a0, a1] h).bind (fun p => K p.1 p.2) = f_sort_Search Tryz.prog t_sort_Search__season_version_1 d_sort_Search__season_version_1 NN K a0 a1 h := by
  rw [← f_sort_Search_run]; exact runF_bind rfl
noncomputable def F_sort_Search__season_version_1 : Fun := quietT R_sort_Search__season_version_1
theorem F_sort_Search__season_version_1_ok : CSound Tryz.prog 100 F_sort_Search__season_version_1 := quietT_sound R_sort_Search__season_version_1_ok
theorem F_sort_Search__season_version_1_q {a0 : AV} {a1 : AV} {h : Hp} {g : List AObj} {v : AV} (hv : f_sort_Search Tryz.prog t_sort_Search__season_version_1 d_sort_Search__season_version_1 NN (fun v h => some (v, h)) a0 a1 h = some (v, h ++ g)) (hp : plain v = true) : F_sort_Search__season_version_1 [a0, a1] h = some (v, h) := quietT_val (F := R_sort_Search__season_version_1) (((bind_pair _).symm.trans (R_sort_Search__season_version_1_eq (fun v h => some (v, h)) a0 a1 h)).trans hv) hp
noncomputable def d_season_version : DTab := D0
theorem d_season_version_ok : DSound Tryz.prog d_season_version := DSound.zero
noncomputable def t_season_version : Tab := (updF (updF T0 100 F_sort_Search__season_version_1) 128 F_season_version_1)
theorem t_season_version_ok : TSound Tryz.prog t_season_version := (TSound.upd (TSound.upd TSound.zero F_sort_Search__season_version_1_ok) F_season_version_1_ok)
@[simp] theorem t_season_version_100 : t_season_version 100 = some F_sort_Search__season_version_1 := rfl
@[simp] theorem t_season_version_128 : t_season_version 128 = some F_season_version_1 := rfl
noncomputable def R_season_version : Fun := runF Tryz.prog t_season_version d_season_version NN [0, 1, 2, 3, 4, 5, 6, 12] Tryz.f102 2
theorem R_season_version_ok : CSound Tryz.prog 102 R_season_version := run_sound t_season_version_ok d_season_version_ok mixed Tryz.func102 (by kernel_rfl) NN
theorem R_season_version_eq {β : Type} (K : AV → Hp → Option β) (a0 : AV) (a1 : AV) (h : Hp) : (R_season_version [a0, a1] h).bind (fun p => K p.1 p.2) = f_season_version Tryz.prog t_season_version d_season_version NN K a0 a1 h := by
  rw [← f_season_version_run]; exact runF_bind rfl
noncomputable def F_season_version : Fun := closedX [.l 4, .o] [.o, .o] R_season_version
theorem F_season_version_ok : CSound Tryz.prog 102 F_season_version := closedX_sound _ _ R_season_version_ok
theorem F_season_version_run {a0 : AV} {a1 : AV} {v : AV} (ha : plains [a0, a1] = true) (hv : f_season_version Tryz.prog t_season_version d_season_version NN (fun v g => cvt false g v) (nrm (.l 4) a0) a1 [] = some v) (h : Hp) : F_season_version [a0, a1] h = some (v, h) := by
  have e : (R_season_version (nrms [.l 4, .o] [a0, a1]) []).bind (fun (p : AV × Hp) => cvt false p.2 p.1) = some v := (R_season_version_eq (fun v g => cvt false g v) (nrm (.l 4) a0) a1 []).trans hv
  exact (closedX_bind (shr := [.o, .o]) ha e h).trans (congrArg (fun x => some (x, h)) (nrmR_rep 2 v))
noncomputable def d_season_rate_1 : DTab := D0
theorem d_season_rate_1_ok : DSound Tryz.prog d_season_rate_1 := DSound.zero
noncomputable def t_season_rate_1 : Tab := (updF T0 42 F_season_before)
theorem t_season_rate_1_ok : TSound Tryz.prog t_season_rate_1 := (TSound.upd TSound.zero F_season_before_ok)
@[simp] theorem t_season_rate_1_42 : t_season_rate_1 42 = some F_season_before := rfl
noncomputable def R_season_rate_1 : Fun := runF Tryz.prog t_season_rate_1 d_season_rate_1 NN [0, 1, 2, 4] Tryz.f129 3
theorem R_season_rate_1_ok : CSound Tryz.prog 129 R_season_rate_1 := run_sound t_season_rate_1_ok d_season_rate_1_ok mixed Tryz.func129 (by kernel_rfl) NN
theorem R_season_rate_1_eq {β : Type} (K : AV → Hp → Option β) (a0 : AV) (a1 : AV) (a2 : AV) (h : Hp) : (R_season_rate_1 [a0, a1, a2] h).bind (fun p => K p.1 p.2) = f_season_rate_1 Tryz.prog t_season_rate_1 d_season_rate_1 NN K a0 a1 a2 h := by
  rw [← f_season_rate_1_run]; exact runF_bind rfl
noncomputable def F_season_rate_1 : Fun := quietT R_season_rate_1
theorem F_season_rate_1_ok : CSound Tryz.prog 129 F_season_rate_1 := quietT_sound R_season_rate_1_ok
theorem F_season_rate_1_q {a0 : AV} {a1 : AV} {a2 : AV} {h : Hp} {g : List AObj} {v : AV} (hv : f_season_rate_1 Tryz.prog t_season_rate_1 d_season_rate_1 NN (fun v h => some (v, h)) a0 a1 a2 h = some (v, h ++ g)) (hp : plain v = true) : F_season_rate_1 [a0, a1, a2] h = some (v, h) := quietT_val (F := R_season_rate_1) (((bind_pair _).symm.trans (R_season_rate_1_eq (fun v h => some (v, h)) a0 a1 a2 h)).trans hv) hp
noncomputable def d_sort_Search__season_rate_1 : DTab := D0
theorem d_sort_Search__season_rate_1_ok : DSound Tryz.prog d_sort_Search__season_rate_1 := DSound.zero
noncomputable def t_sort_Search__season_rate_1 : Tab := (updF T0 129 F_season_rate_1)
theorem t_sort_Search__season_rate_1_ok : TSound Tryz.prog t_sort_Search__season_rate_1 := (TSound.upd TSound.zero F_season_rate_1_ok)
@[simp] theorem t_sort_Search__season_rate_1_129 : t_sort_Search__season_rate_1 129 = some F_season_rate_1 := rfl
noncomputable def R_sort_Search__season_rate_1 : Fun := runF Tryz.prog t_sort_Search__season_rate_1 d_sort_Search__season_rate_1 NN [0, 1, 4, 5, 6, 7, 11, 21] Tryz.f100 2
theorem R_sort_Search__season_rate_1_ok : CSound Tryz.prog 100 R_sort_Search__season_rate_1 := run_sound t_sort_Search__season_rate_1_ok d_sort_Search__season_rate_1_ok mixed Tryz.func100 (by kernel_rfl) NN
theorem R_sort_Search__season_rate_1_eq {β : Type} (K : AV → Hp → Option β) (a0 : AV) (a1 : AV) (h : Hp) : (R_sort_Search__season_rate_1 [a0, a1] h).bind (fun p => K p.1 p.2) = f_sort_Search Tryz.prog t_sort_Search__season_rate_1 d_sort_Search__season_rate_1 NN K a0 a1 h := by
  rw [← f_sort_Search_run]; exact runF_bind rfl
noncomputable def F_sort_Search__season_rate_1 : Fun := quietT R_sort_Search__season_rate_1
theorem F_sort_Search__season_rate_1_ok : CSound Tryz.prog 100 F_sort_Search__season_rate_1 := quietT_sound R_sort_Search__season_rate_1_ok
theorem F_sort_Search__season_rate_1_q {a0 : AV} {a1 : AV} {h : Hp} {g : List AObj} {v : AV} (hv : f_sort_Search Tryz.prog t_sort_Search__season_rate_1 d_sort_Search__season_rate_1 NN (fun v h => some (v, h)) a0 a1 h = some (v, h ++ g)) (hp : plain v = true) : F_sort_Search__season_rate_1 [a0, a1] h = some (v, h) := quietT_val (F := R_sort_Search__season_rate_1) (((bind_pair _).symm.trans (R_sort_Search__season_rate_1_eq (fun v h => some (v, h)) a0 a1 h)).trans hv) hp
noncomputable def d_season_rate : DTab := D0
theorem d_season_rate_ok : DSound Tryz.prog d_season_rate := DSound.zero
noncomputable def t_season_rate : Tab := (updF (updF T0 100 F_sort_Search__season_rate_1) 129 F_season_rate_1)
theorem t_season_rate_ok : TSound Tryz.prog t_season_rate := (TSound.upd (TSound.upd TSound.zero F_sort_Search__season_rate_1_ok) F_season_rate_1_ok)
@[simp] theorem t_season_rate_100 : t_season_rate 100 = some F_sort_Search__season_rate_1 := rfl
@[simp] theorem t_season_rate_129 : t_season_rate 129 = some F_season_rate_1 := rfl
noncomputable def R_season_rate : Fun := runF Tryz.prog t_season_rate d_season_rate NN [0, 1, 2, 3, 4, 8, 9, 10, 49] Tryz.f103 4
theorem R_season_rate_ok : CSound Tryz.prog 103 R_season_rate := run_sound t_season_rate_ok d_season_rate_ok mixed Tryz.func103 (by kernel_rfl) NN
theorem R_season_rate_eq {β : Type} (K : AV → Hp → Option β) (a0 : AV) (a1 : AV) (a2 : AV) (a3 : AV) (h : Hp) : (R_season_rate [a0, a1, a2, a3] h).bind (fun p => K p.1 p.2) = f_season_rate Tryz.prog t_season_rate d_season_rate NN K a0 a1 a2 a3 h := by
  rw [← f_season_rate_run]; exact runF_bind rfl
noncomputable def F_season_rate : Fun := closedX [.l 4, .o, .o, .o] [.o] R_season_rate
theorem F_season_rate_ok : CSound Tryz.prog 103 F_season_rate := closedX_sound _ _ R_season_rate_ok
theorem F_season_rate_run {a0 : AV} {a1 : AV} {a2 : AV} {a3 : AV} {v : AV} (ha : plains [a0, a1, a2, a3] = true) (hv : f_season_rate Tryz.prog t_season_rate d_season_rate NN (fun v g => cvt false g v) (nrm (.l 4) a0) a1 a2 a3 [] = some v) (h : Hp) : F_season_rate [a0, a1, a2, a3] h = some (v, h) := by
  have e : (R_season_rate (nrms [.l 4, .o, .o, .o] [a0, a1, a2, a3]) []).bind (fun (p : AV × Hp) => cvt false p.2 p.1) = some v := (R_season_rate_eq (fun v g => cvt false g v) (nrm (.l 4) a0) a1 a2 a3 []).trans hv
  exact (closedX_bind (shr := [.o]) ha e h).trans (congrArg (fun x => some (x, h)) (nrmR_rep 1 v))
noncomputable def d_season_on : DTab := D0
theorem d_season_on_ok : DSound Tryz.prog d_season_on := DSound.zero
noncomputable def t_season_on : Tab := (updF (updF (updF (updF (updF (updF T0 98 F_calendar_Date) 99 F_calendar_Day) 100 F_sort_Search__season_on_1) 101 F_season_on_1) 102 F_season_version) 103 F_season_rate)
theorem t_season_on_ok : TSound Tryz.prog t_season_on := (TSound.upd (TSound.upd (TSound.upd (TSound.upd (TSound.upd (TSound.upd TSound.zero F_calendar_Date_ok) F_calendar_Day_ok) F_sort_Search__season_on_1_ok) F_season_on_1_ok) F_season_version_ok) F_season_rate_ok)
@[simp] theorem t_season_on_98 : t_season_on 98 = some F_calendar_Date := rfl
@[simp] theorem t_season_on_99 : t_season_on 99 = some F_calendar_Day := rfl
@[simp] theorem t_season_on_100 : t_season_on 100 = some F_sort_Search__season_on_1 := rfl
@[simp] theorem t_season_on_101 : t_season_on 101 = some F_season_on_1 := rfl
@[simp] theorem t_season_on_102 : t_season_on 102 = some F_season_version := rfl
@[simp] theorem t_season_on_103 : t_season_on 103 = some F_season_rate := rfl
noncomputable def R_season_on : Fun := runF Tryz.prog t_season_on d_season_on NN [0, 1, 2, 3, 5, 6, 7, 8, 10, 11, 12, 13, 14, 15, 29, 41, 49, 64] Tryz.f81 3
theorem R_season_on_ok : CSound Tryz.prog 81 R_season_on := run_sound t_season_on_ok d_season_on_ok mixed Tryz.func81 (by kernel_rfl) NN
theorem R_season_on_eq {β : Type} (K : AV → Hp → Option β) (a0 : AV) (a1 : AV) (a2 : AV) (h : Hp) : (R_season_on [a0, a1, a2] h).bind (fun p => K p.1 p.2) = f_season_on Tryz.prog t_season_on d_season_on NN K a0 a1 a2 h := by
  rw [← f_season_on_run]; exact runF_bind rfl
noncomputable def F_season_on : Fun := closedX [.l 4, .o, .o] [.o, .o] R_season_on
theorem F_season_on_ok : CSound Tryz.prog 81 F_season_on := closedX_sound _ _ R_season_on_ok
theorem F_season_on_run {a0 : AV} {a1 : AV} {a2 : AV} {v : AV} (ha : plains [a0, a1, a2] = true) (hv : f_season_on Tryz.prog t_season_on d_season_on NN (fun v g => cvt false g v) (nrm (.l 4) a0) a1 a2 [] = some v) (h : Hp) : F_season_on [a0, a1, a2] h = some (v, h) := by
  have e : (R_season_on (nrms [.l 4, .o, .o] [a0, a1, a2]) []).bind (fun (p : AV × Hp) => cvt false p.2 p.1) = some v := (R_season_on_eq (fun v g => cvt false g v) (nrm (.l 4) a0) a1 a2 []).trans hv
  exact (closedX_bind (shr := [.o, .o]) ha e h).trans (congrArg (fun x => some (x, h)) (nrmR_rep 2 v))
noncomputable def d_season_sum : DTab := D0
theorem d_season_sum_ok : DSound Tryz.prog d_season_sum := DSound.zero
noncomputable def t_season_sum : Tab := (updF T0 81 F_season_on)
theorem t_season_sum_ok : TSound Tryz.prog t_season_sum := (TSound.upd TSound.zero F_season_on_ok)
@[simp] theorem t_season_sum_81 : t_season_sum 81 = some F_season_on := rfl
noncomputable def R_season_sum : Fun := runF Tryz.prog t_season_sum d_season_sum NN [0, 1, 2, 3, 8, 9, 10, 11, 14, 15, 16, 19] Tryz.f45 4
theorem R_season_sum_ok : CSound Tryz.prog 45 R_season_sum := run_sound t_season_sum_ok d_season_sum_ok mixed Tryz.func45 (by kernel_rfl) NN
theorem R_season_sum_eq {β : Type} (K : AV → Hp → Option β) (a0 : AV) (a1 : AV) (a2 : AV) (a3 : AV) (h : Hp) : (R_season_sum [a0, a1, a2, a3] h).bind (fun p => K p.1 p.2) = f_season_sum Tryz.prog t_season_sum d_season_sum NN K a0 a1 a2 a3 h := by
  rw [← f_season_sum_run]; exact runF_bind rfl
noncomputable def F_season_sum : Fun := closedX [.l 4, .o, .o, .o] [.o] R_season_sum
theorem F_season_sum_ok : CSound Tryz.prog 45 F_season_sum := closedX_sound _ _ R_season_sum_ok
theorem F_season_sum_run {a0 : AV} {a1 : AV} {a2 : AV} {a3 : AV} {v : AV} (ha : plains [a0, a1, a2, a3] = true) (hv : f_season_sum Tryz.prog t_season_sum d_season_sum NN (fun v g => cvt false g v) (nrm (.l 4) a0) a1 a2 a3 [] = some v) (h : Hp) : F_season_sum [a0, a1, a2, a3] h = some (v, h) := by
  have e : (R_season_sum (nrms [.l 4, .o, .o, .o] [a0, a1, a2, a3]) []).bind (fun (p : AV × Hp) => cvt false p.2 p.1) = some v := (R_season_sum_eq (fun v g => cvt false g v) (nrm (.l 4) a0) a1 a2 a3 []).trans hv
  exact (closedX_bind (shr := [.o]) ha e h).trans (congrArg (fun x => some (x, h)) (nrmR_rep 1 v))
noncomputable def d_season_Allowed : DTab := D0
theorem d_season_Allowed_ok : DSound Tryz.prog d_season_Allowed := DSound.zero
noncomputable def t_season_Allowed : Tab := (updF (updF (updF (updF T0 41 F_season_in) 43 F_season_right) 44 F_proportion_Of) 45 F_season_sum)
theorem t_season_Allowed_ok : TSound Tryz.prog t_season_Allowed := (TSound.upd (TSound.upd (TSound.upd (TSound.upd TSound.zero F_season_in_ok) F_season_right_ok) F_proportion_Of_ok) F_season_sum_ok)
@[simp] theorem t_season_Allowed_41 : t_season_Allowed 41 = some F_season_in := rfl
@[simp] theorem t_season_Allowed_43 : t_season_Allowed 43 = some F_season_right := rfl
@[simp] theorem t_season_Allowed_44 : t_season_Allowed 44 = some F_proportion_Of := rfl
@[simp] theorem t_season_Allowed_45 : t_season_Allowed 45 = some F_season_sum := rfl
noncomputable def R_season_Allowed : Fun := runF Tryz.prog t_season_Allowed d_season_Allowed NN [0, 1, 2, 3, 4, 10, 11, 12, 14, 15, 19, 38, 54] Tryz.f28 5
theorem R_season_Allowed_ok : CSound Tryz.prog 28 R_season_Allowed := run_sound t_season_Allowed_ok d_season_Allowed_ok mixed Tryz.func28 (by kernel_rfl) NN
theorem R_season_Allowed_eq {β : Type} (K : AV → Hp → Option β) (a0 : AV) (a1 : AV) (a2 : AV) (a3 : AV) (a4 : AV) (h : Hp) : (R_season_Allowed [a0, a1, a2, a3, a4] h).bind (fun p => K p.1 p.2) = f_season_Allowed Tryz.prog t_season_Allowed d_season_Allowed NN K a0 a1 a2 a3 a4 h := by
  rw [← f_season_Allowed_run]; exact runF_bind rfl
noncomputable def F_season_Allowed : Fun := closedX [.l 4, .o, .o, .o, .o] [.o, .o] R_season_Allowed
theorem F_season_Allowed_ok : CSound Tryz.prog 28 F_season_Allowed := closedX_sound _ _ R_season_Allowed_ok
theorem F_season_Allowed_run {a0 : AV} {a1 : AV} {a2 : AV} {a3 : AV} {a4 : AV} {v : AV} (ha : plains [a0, a1, a2, a3, a4] = true) (hv : f_season_Allowed Tryz.prog t_season_Allowed d_season_Allowed NN (fun v g => cvt false g v) (nrm (.l 4) a0) a1 a2 a3 a4 [] = some v) (h : Hp) : F_season_Allowed [a0, a1, a2, a3, a4] h = some (v, h) := by
  have e : (R_season_Allowed (nrms [.l 4, .o, .o, .o, .o] [a0, a1, a2, a3, a4]) []).bind (fun (p : AV × Hp) => cvt false p.2 p.1) = some v := (R_season_Allowed_eq (fun v g => cvt false g v) (nrm (.l 4) a0) a1 a2 a3 a4 []).trans hv
  exact (closedX_bind (shr := [.o, .o]) ha e h).trans (congrArg (fun x => some (x, h)) (nrmR_rep 2 v))
noncomputable def d_loss_amount : DTab := D0
theorem d_loss_amount_ok : DSound Tryz.prog d_loss_amount := DSound.zero
noncomputable def t_loss_amount : Tab := T0
theorem t_loss_amount_ok : TSound Tryz.prog t_loss_amount := TSound.zero
noncomputable def R_loss_amount : Fun := runF Tryz.prog t_loss_amount d_loss_amount NN [0, 2, 4, 5, 6, 7, 8, 16] Tryz.f46 1
theorem R_loss_amount_ok : CSound Tryz.prog 46 R_loss_amount := run_sound t_loss_amount_ok d_loss_amount_ok mixed Tryz.func46 (by kernel_rfl) NN
theorem R_loss_amount_eq {β : Type} (K : AV → Hp → Option β) (a0 : AV) (h : Hp) : (R_loss_amount [a0] h).bind (fun p => K p.1 p.2) = f_loss_amount Tryz.prog t_loss_amount d_loss_amount NN K a0 h := by
  rw [← f_loss_amount_run]; exact runF_bind rfl
noncomputable def F_loss_amount : Fun := closedX [.l 1] [.o] R_loss_amount
theorem F_loss_amount_ok : CSound Tryz.prog 46 F_loss_amount := closedX_sound _ _ R_loss_amount_ok
theorem F_loss_amount_own {a0 : AV} {x0 : AV} {h : Hp} {v : AV} (ha : cvts false h [x0] = some [a0]) (hv : ∀ st, f_loss_amount Tryz.prog t_loss_amount d_loss_amount NN (fun v g => cvt st g v) (nrm (.l 1) a0) [] = some v) : F_loss_amount [x0] h = some (v, h) := by
  have e : ∀ st, (R_loss_amount (nrms [.l 1] [a0]) []).bind (fun (p : AV × Hp) => cvt st p.2 p.1) = some v := fun st => (R_loss_amount_eq (fun v g => cvt st g v) (nrm (.l 1) a0) []).trans (hv st)
  exact (closedX_ownB (shr := [.o]) ha e).trans (congrArg (fun x => some (x, h)) (nrmR_rep 1 v))
noncomputable def d_loss_split_1 : DTab := D0
theorem d_loss_split_1_ok : DSound Tryz.prog d_loss_split_1 := DSound.zero
noncomputable def t_loss_split_1 : Tab := T0
theorem t_loss_split_1_ok : TSound Tryz.prog t_loss_split_1 := TSound.zero
noncomputable def R_loss_split_1 : Fun := runF Tryz.prog t_loss_split_1 d_loss_split_1 NN [0, 1, 3, 4] Tryz.f82 2
theorem R_loss_split_1_ok : CSound Tryz.prog 82 R_loss_split_1 := run_sound t_loss_split_1_ok d_loss_split_1_ok mixed Tryz.func82 (by kernel_rfl) NN
theorem R_loss_split_1_eq {β : Type} (K : AV → Hp → Option β) (a0 : AV) (a1 : AV) (h : Hp) : (R_loss_split_1 [a0, a1] h).bind (fun p => K p.1 p.2) = f_loss_split_1 Tryz.prog t_loss_split_1 d_loss_split_1 NN K a0 a1 h := by
  rw [← f_loss_split_1_run]; exact runF_bind rfl
noncomputable def F_loss_split_1 : Fun := R_loss_split_1
theorem F_loss_split_1_ok : CSound Tryz.prog 82 F_loss_split_1 := R_loss_split_1_ok
theorem F_loss_split_1_raw (a0 : AV) (a1 : AV) (h : Hp) : F_loss_split_1 [a0, a1] h = f_loss_split_1 Tryz.prog t_loss_split_1 d_loss_split_1 NN (fun v h => some (v, h)) a0 a1 h := (bind_pair _).symm.trans (R_loss_split_1_eq (fun v h => some (v, h)) a0 a1 h)
noncomputable def d_loss_split : DTab := D0
theorem d_loss_split_ok : DSound Tryz.prog d_loss_split := DSound.zero
noncomputable def t_loss_split : Tab := (updF T0 82 F_loss_split_1)
theorem t_loss_split_ok : TSound Tryz.prog t_loss_split := (TSound.upd TSound.zero F_loss_split_1_ok)
@[simp] theorem t_loss_split_82 : t_loss_split 82 = some F_loss_split_1 := rfl
noncomputable def R_loss_split : Fun := runF Tryz.prog t_loss_split d_loss_split NN [0, 1, 2, 3, 8, 9, 10, 11, 14] Tryz.f47 4
theorem R_loss_split_ok : CSound Tryz.prog 47 R_loss_split := run_sound t_loss_split_ok d_loss_split_ok mixed Tryz.func47 (by kernel_rfl) NN
theorem R_loss_split_eq {β : Type} (K : AV → Hp → Option β) (a0 : AV) (a1 : AV) (a2 : AV) (a3 : AV) (h : Hp) : (R_loss_split [a0, a1, a2, a3] h).bind (fun p => K p.1 p.2) = f_loss_split Tryz.prog t_loss_split d_loss_split NN K a0 a1 a2 a3 h := by
  rw [← f_loss_split_run]; exact runF_bind rfl
noncomputable def F_loss_split : Fun := closedX [.o, .o, .o, .o] [.o] R_loss_split
theorem F_loss_split_ok : CSound Tryz.prog 47 F_loss_split := closedX_sound _ _ R_loss_split_ok
theorem F_loss_split_run {a0 : AV} {a1 : AV} {a2 : AV} {a3 : AV} {v : AV} (ha : plains [a0, a1, a2, a3] = true) (hv : f_loss_split Tryz.prog t_loss_split d_loss_split NN (fun v g => cvt false g v) a0 a1 a2 a3 [] = some v) (h : Hp) : F_loss_split [a0, a1, a2, a3] h = some (v, h) := by
  have e : (R_loss_split (nrms [.o, .o, .o, .o] [a0, a1, a2, a3]) []).bind (fun (p : AV × Hp) => cvt false p.2 p.1) = some v := (R_loss_split_eq (fun v g => cvt false g v) a0 a1 a2 a3 []).trans hv
  exact (closedX_bind (shr := [.o]) ha e h).trans (congrArg (fun x => some (x, h)) (nrmR_rep 1 v))
noncomputable def d_loss_Split : DTab := D0
theorem d_loss_Split_ok : DSound Tryz.prog d_loss_Split := DSound.zero
noncomputable def t_loss_Split : Tab := (updF (updF T0 46 F_loss_amount) 47 F_loss_split)
theorem t_loss_Split_ok : TSound Tryz.prog t_loss_Split := (TSound.upd (TSound.upd TSound.zero F_loss_amount_ok) F_loss_split_ok)
@[simp] theorem t_loss_Split_46 : t_loss_Split 46 = some F_loss_amount := rfl
@[simp] theorem t_loss_Split_47 : t_loss_Split 47 = some F_loss_split := rfl
noncomputable def R_loss_Split : Fun := runF Tryz.prog t_loss_Split d_loss_Split NN [0, 1, 2, 3, 8, 9, 16] Tryz.f29 4
theorem R_loss_Split_ok : CSound Tryz.prog 29 R_loss_Split := run_sound t_loss_Split_ok d_loss_Split_ok mixed Tryz.func29 (by kernel_rfl) NN
theorem R_loss_Split_eq {β : Type} (K : AV → Hp → Option β) (a0 : AV) (a1 : AV) (a2 : AV) (a3 : AV) (h : Hp) : (R_loss_Split [a0, a1, a2, a3] h).bind (fun p => K p.1 p.2) = f_loss_Split Tryz.prog t_loss_Split d_loss_Split NN K a0 a1 a2 a3 h := by
  rw [← f_loss_Split_run]; exact runF_bind rfl
noncomputable def F_loss_Split : Fun := closedX [.o, .o, .o, .o] [.o, .o] R_loss_Split
theorem F_loss_Split_ok : CSound Tryz.prog 29 F_loss_Split := closedX_sound _ _ R_loss_Split_ok
theorem F_loss_Split_run {a0 : AV} {a1 : AV} {a2 : AV} {a3 : AV} {v : AV} (ha : plains [a0, a1, a2, a3] = true) (hv : f_loss_Split Tryz.prog t_loss_Split d_loss_Split NN (fun v g => cvt false g v) a0 a1 a2 a3 [] = some v) (h : Hp) : F_loss_Split [a0, a1, a2, a3] h = some (v, h) := by
  have e : (R_loss_Split (nrms [.o, .o, .o, .o] [a0, a1, a2, a3]) []).bind (fun (p : AV × Hp) => cvt false p.2 p.1) = some v := (R_loss_Split_eq (fun v g => cvt false g v) a0 a1 a2 a3 []).trans hv
  exact (closedX_bind (shr := [.o, .o]) ha e h).trans (congrArg (fun x => some (x, h)) (nrmR_rep 2 v))
noncomputable def d_journey_Claim : DTab := D0
theorem d_journey_Claim_ok : DSound Tryz.prog d_journey_Claim := DSound.zero
noncomputable def t_journey_Claim : Tab := (updF (updF (updF (updF T0 17 F_journey_Run) 27 F_season_Check) 28 F_season_Allowed) 29 F_loss_Split)
theorem t_journey_Claim_ok : TSound Tryz.prog t_journey_Claim := (TSound.upd (TSound.upd (TSound.upd (TSound.upd TSound.zero F_journey_Run_ok) F_season_Check_ok) F_season_Allowed_ok) F_loss_Split_ok)
@[simp] theorem t_journey_Claim_17 : t_journey_Claim 17 = some F_journey_Run := rfl
@[simp] theorem t_journey_Claim_27 : t_journey_Claim 27 = some F_season_Check := rfl
@[simp] theorem t_journey_Claim_28 : t_journey_Claim 28 = some F_season_Allowed := rfl
@[simp] theorem t_journey_Claim_29 : t_journey_Claim 29 = some F_loss_Split := rfl
noncomputable def R_journey_Claim : Fun := runF Tryz.prog t_journey_Claim d_journey_Claim NN [0, 1, 4, 5, 6, 8, 10, 11, 12, 25, 33] Tryz.f11 2
theorem R_journey_Claim_ok : CSound Tryz.prog 11 R_journey_Claim := run_sound t_journey_Claim_ok d_journey_Claim_ok mixed Tryz.func11 (by kernel_rfl) NN
theorem R_journey_Claim_eq {β : Type} (K : AV → Hp → Option β) (a0 : AV) (a1 : AV) (h : Hp) : (R_journey_Claim [a0, a1] h).bind (fun p => K p.1 p.2) = f_journey_Claim Tryz.prog t_journey_Claim d_journey_Claim NN K a0 a1 h := by
  rw [← f_journey_Claim_run]; exact runF_bind rfl
noncomputable def F_journey_Claim : Fun := closedX [.l 5, .l 4] [.o, .o] R_journey_Claim
theorem F_journey_Claim_ok : CSound Tryz.prog 11 F_journey_Claim := closedX_sound _ _ R_journey_Claim_ok
theorem F_journey_Claim_run {a0 : AV} {a1 : AV} {v : AV} (ha : plains [a0, a1] = true) (hv : f_journey_Claim Tryz.prog t_journey_Claim d_journey_Claim NN (fun v g => cvt false g v) (nrm (.l 5) a0) (nrm (.l 4) a1) [] = some v) (h : Hp) : F_journey_Claim [a0, a1] h = some (v, h) := by
  have e : (R_journey_Claim (nrms [.l 5, .l 4] [a0, a1]) []).bind (fun (p : AV × Hp) => cvt false p.2 p.1) = some v := (R_journey_Claim_eq (fun v g => cvt false g v) (nrm (.l 5) a0) (nrm (.l 4) a1) []).trans hv
  exact (closedX_bind (shr := [.o, .o]) ha e h).trans (congrArg (fun x => some (x, h)) (nrmR_rep 2 v))
noncomputable def d_journey_Messages : DTab := D0
theorem d_journey_Messages_ok : DSound Tryz.prog d_journey_Messages := DSound.zero
noncomputable def t_journey_Messages : Tab := (updF (updF T0 23 F_journey_right) 24 F_journey_in)
theorem t_journey_Messages_ok : TSound Tryz.prog t_journey_Messages := (TSound.upd (TSound.upd TSound.zero F_journey_right_ok) F_journey_in_ok)
@[simp] theorem t_journey_Messages_23 : t_journey_Messages 23 = some F_journey_right := rfl
@[simp] theorem t_journey_Messages_24 : t_journey_Messages 24 = some F_journey_in := rfl
noncomputable def R_journey_Messages : Fun := runF Tryz.prog t_journey_Messages d_journey_Messages NN [0, 1, 4, 5, 6, 7, 9, 10, 11, 15, 19, 20, 21, 22, 30, 31, 43, 53, 74] Tryz.f14 2
theorem R_journey_Messages_ok : CSound Tryz.prog 14 R_journey_Messages := run_sound t_journey_Messages_ok d_journey_Messages_ok mixed Tryz.func14 (by kernel_rfl) NN
theorem R_journey_Messages_eq {β : Type} (K : AV → Hp → Option β) (a0 : AV) (a1 : AV) (h : Hp) : (R_journey_Messages [a0, a1] h).bind (fun p => K p.1 p.2) = f_journey_Messages Tryz.prog t_journey_Messages d_journey_Messages NN K a0 a1 h := by
  rw [← f_journey_Messages_run]; exact runF_bind rfl
noncomputable def F_journey_Messages : Fun := closedX [.l 5, .o] [.l 7, .o] R_journey_Messages
theorem F_journey_Messages_ok : CSound Tryz.prog 14 F_journey_Messages := closedX_sound _ _ R_journey_Messages_ok
theorem F_journey_Messages_run {a0 : AV} {a1 : AV} {v : AV} (ha : plains [a0, a1] = true) (hv : f_journey_Messages Tryz.prog t_journey_Messages d_journey_Messages NN (fun v g => cvt false g v) (nrm (.l 5) a0) a1 [] = some v) (h : Hp) : F_journey_Messages [a0, a1] h = some ((nrmR [.l 7, .o] v), h) := by
  have e : (R_journey_Messages (nrms [.l 5, .o] [a0, a1]) []).bind (fun (p : AV × Hp) => cvt false p.2 p.1) = some v := (R_journey_Messages_eq (fun v g => cvt false g v) (nrm (.l 5) a0) a1 []).trans hv
  exact (closedX_bind (shr := [.l 7, .o]) ha e h).trans (congrArg (fun x => some (x, h)) rfl)
noncomputable def d_law45_example : DTab := D0
theorem d_law45_example_ok : DSound Tryz.prog d_law45_example := DSound.zero
noncomputable def t_law45_example : Tab := T0
theorem t_law45_example_ok : TSound Tryz.prog t_law45_example := TSound.zero
noncomputable def R_law45_example : Fun := runF Tryz.prog t_law45_example d_law45_example NN [0] Tryz.f19 0
theorem R_law45_example_ok : CSound Tryz.prog 19 R_law45_example := run_sound t_law45_example_ok d_law45_example_ok mixed Tryz.func19 (by kernel_rfl) NN
theorem R_law45_example_eq {β : Type} (K : AV → Hp → Option β) (h : Hp) : (R_law45_example [] h).bind (fun p => K p.1 p.2) = f_law45_example Tryz.prog t_law45_example d_law45_example NN K  h := by
  rw [← f_law45_example_run]; exact runF_bind rfl
noncomputable def F_law45_example : Fun := closedX [] [.l 5] R_law45_example
theorem F_law45_example_ok : CSound Tryz.prog 19 F_law45_example := closedX_sound _ _ R_law45_example_ok
theorem F_law45_example_run {v : AV} (ha : plains [] = true) (hv : f_law45_example Tryz.prog t_law45_example d_law45_example NN (fun v g => cvt false g v)  [] = some v) (h : Hp) : F_law45_example [] h = some ((nrmR [.l 5] v), h) := by
  have e : (R_law45_example (nrms [] []) []).bind (fun (p : AV × Hp) => cvt false p.2 p.1) = some v := (R_law45_example_eq (fun v g => cvt false g v)  []).trans hv
  exact (closedX_bind (shr := [.l 5]) ha e h).trans (congrArg (fun x => some (x, h)) rfl)
noncomputable def d_journey_Transit_1 : DTab := D0
theorem d_journey_Transit_1_ok : DSound Tryz.prog d_journey_Transit_1 := DSound.zero
noncomputable def t_journey_Transit_1 : Tab := (updF T0 23 F_journey_right)
theorem t_journey_Transit_1_ok : TSound Tryz.prog t_journey_Transit_1 := (TSound.upd TSound.zero F_journey_right_ok)
@[simp] theorem t_journey_Transit_1_23 : t_journey_Transit_1 23 = some F_journey_right := rfl
noncomputable def R_journey_Transit_1 : Fun := runF Tryz.prog t_journey_Transit_1 d_journey_Transit_1 NN [0, 2] Tryz.f39 1
theorem R_journey_Transit_1_ok : CSound Tryz.prog 39 R_journey_Transit_1 := run_sound t_journey_Transit_1_ok d_journey_Transit_1_ok mixed Tryz.func39 (by kernel_rfl) NN
theorem R_journey_Transit_1_eq {β : Type} (K : AV → Hp → Option β) (a0 : AV) (h : Hp) : (R_journey_Transit_1 [a0] h).bind (fun p => K p.1 p.2) = f_journey_Transit_1 Tryz.prog t_journey_Transit_1 d_journey_Transit_1 NN K a0 h := by
  rw [← f_journey_Transit_1_run]; exact runF_bind rfl
noncomputable def F_journey_Transit_1 : Fun := closedX [.l 5] [.o] R_journey_Transit_1
theorem F_journey_Transit_1_ok : CSound Tryz.prog 39 F_journey_Transit_1 := closedX_sound _ _ R_journey_Transit_1_ok
theorem F_journey_Transit_1_run {a0 : AV} {v : AV} (ha : plains [a0] = true) (hv : f_journey_Transit_1 Tryz.prog t_journey_Transit_1 d_journey_Transit_1 NN (fun v g => cvt false g v) (nrm (.l 5) a0) [] = some v) (h : Hp) : F_journey_Transit_1 [a0] h = some (v, h) := by
  have e : (R_journey_Transit_1 (nrms [.l 5] [a0]) []).bind (fun (p : AV × Hp) => cvt false p.2 p.1) = some v := (R_journey_Transit_1_eq (fun v g => cvt false g v) (nrm (.l 5) a0) []).trans hv
  exact (closedX_bind (shr := [.o]) ha e h).trans (congrArg (fun x => some (x, h)) (nrmR_rep 1 v))
noncomputable def d_slices_IndexFunc_Leg__journey_Transit_1 : DTab := D0
theorem d_slices_IndexFunc_Leg__journey_Transit_1_ok : DSound Tryz.prog d_slices_IndexFunc_Leg__journey_Transit_1 := DSound.zero
noncomputable def t_slices_IndexFunc_Leg__journey_Transit_1 : Tab := (updF T0 39 F_journey_Transit_1)
theorem t_slices_IndexFunc_Leg__journey_Transit_1_ok : TSound Tryz.prog t_slices_IndexFunc_Leg__journey_Transit_1 := (TSound.upd TSound.zero F_journey_Transit_1_ok)
@[simp] theorem t_slices_IndexFunc_Leg__journey_Transit_1_39 : t_slices_IndexFunc_Leg__journey_Transit_1 39 = some F_journey_Transit_1 := rfl
noncomputable def R_slices_IndexFunc_Leg__journey_Transit_1 : Fun := runF Tryz.prog t_slices_IndexFunc_Leg__journey_Transit_1 d_slices_IndexFunc_Leg__journey_Transit_1 NN [0, 1, 4, 5, 7, 8, 9, 16] Tryz.f78 2
theorem R_slices_IndexFunc_Leg__journey_Transit_1_ok : CSound Tryz.prog 78 R_slices_IndexFunc_Leg__journey_Transit_1 := run_sound t_slices_IndexFunc_Leg__journey_Transit_1_ok d_slices_IndexFunc_Leg__journey_Transit_1_ok mixed Tryz.func78 (by kernel_rfl) NN
theorem R_slices_IndexFunc_Leg__journey_Transit_1_eq {β : Type} (K : AV → Hp → Option β) (a0 : AV) (a1 : AV) (h : Hp) : (R_slices_IndexFunc_Leg__journey_Transit_1 [a0, a1] h).bind (fun p => K p.1 p.2) = f_slices_IndexFunc_Leg Tryz.prog t_slices_IndexFunc_Leg__journey_Transit_1 d_slices_IndexFunc_Leg__journey_Transit_1 NN K a0 a1 h := by
  rw [← f_slices_IndexFunc_Leg_run]; exact runF_bind rfl
noncomputable def F_slices_IndexFunc_Leg__journey_Transit_1 : Fun := closedX [.l 1, .o] [.o] R_slices_IndexFunc_Leg__journey_Transit_1
theorem F_slices_IndexFunc_Leg__journey_Transit_1_ok : CSound Tryz.prog 78 F_slices_IndexFunc_Leg__journey_Transit_1 := closedX_sound _ _ R_slices_IndexFunc_Leg__journey_Transit_1_ok
theorem F_slices_IndexFunc_Leg__journey_Transit_1_run {a0 : AV} {a1 : AV} {v : AV} (ha : plains [a0, a1] = true) (hv : f_slices_IndexFunc_Leg Tryz.prog t_slices_IndexFunc_Leg__journey_Transit_1 d_slices_IndexFunc_Leg__journey_Transit_1 NN (fun v g => cvt false g v) (nrm (.l 1) a0) a1 [] = some v) (h : Hp) : F_slices_IndexFunc_Leg__journey_Transit_1 [a0, a1] h = some (v, h) := by
  have e : (R_slices_IndexFunc_Leg__journey_Transit_1 (nrms [.l 1, .o] [a0, a1]) []).bind (fun (p : AV × Hp) => cvt false p.2 p.1) = some v := (R_slices_IndexFunc_Leg__journey_Transit_1_eq (fun v g => cvt false g v) (nrm (.l 1) a0) a1 []).trans hv
  exact (closedX_bind (shr := [.o]) ha e h).trans (congrArg (fun x => some (x, h)) (nrmR_rep 1 v))
noncomputable def d_slices_ContainsFunc_Leg__journey_Transit_1 : DTab := D0
theorem d_slices_ContainsFunc_Leg__journey_Transit_1_ok : DSound Tryz.prog d_slices_ContainsFunc_Leg__journey_Transit_1 := DSound.zero
noncomputable def t_slices_ContainsFunc_Leg__journey_Transit_1 : Tab := (updF T0 78 F_slices_IndexFunc_Leg__journey_Transit_1)
theorem t_slices_ContainsFunc_Leg__journey_Transit_1_ok : TSound Tryz.prog t_slices_ContainsFunc_Leg__journey_Transit_1 := (TSound.upd TSound.zero F_slices_IndexFunc_Leg__journey_Transit_1_ok)
@[simp] theorem t_slices_ContainsFunc_Leg__journey_Transit_1_78 : t_slices_ContainsFunc_Leg__journey_Transit_1 78 = some F_slices_IndexFunc_Leg__journey_Transit_1 := rfl
noncomputable def R_slices_ContainsFunc_Leg__journey_Transit_1 : Fun := runF Tryz.prog t_slices_ContainsFunc_Leg__journey_Transit_1 d_slices_ContainsFunc_Leg__journey_Transit_1 NN [0, 1, 4] Tryz.f38 2
theorem R_slices_ContainsFunc_Leg__journey_Transit_1_ok : CSound Tryz.prog 38 R_slices_ContainsFunc_Leg__journey_Transit_1 := run_sound t_slices_ContainsFunc_Leg__journey_Transit_1_ok d_slices_ContainsFunc_Leg__journey_Transit_1_ok mixed Tryz.func38 (by kernel_rfl) NN
theorem R_slices_ContainsFunc_Leg__journey_Transit_1_eq {β : Type} (K : AV → Hp → Option β) (a0 : AV) (a1 : AV) (h : Hp) : (R_slices_ContainsFunc_Leg__journey_Transit_1 [a0, a1] h).bind (fun p => K p.1 p.2) = f_slices_ContainsFunc_Leg Tryz.prog t_slices_ContainsFunc_Leg__journey_Transit_1 d_slices_ContainsFunc_Leg__journey_Transit_1 NN K a0 a1 h := by
  rw [← f_slices_ContainsFunc_Leg_run]; exact runF_bind rfl
noncomputable def F_slices_ContainsFunc_Leg__journey_Transit_1 : Fun := closedX [.l 1, .o] [.o] R_slices_ContainsFunc_Leg__journey_Transit_1
theorem F_slices_ContainsFunc_Leg__journey_Transit_1_ok : CSound Tryz.prog 38 F_slices_ContainsFunc_Leg__journey_Transit_1 := closedX_sound _ _ R_slices_ContainsFunc_Leg__journey_Transit_1_ok
theorem F_slices_ContainsFunc_Leg__journey_Transit_1_run {a0 : AV} {a1 : AV} {v : AV} (ha : plains [a0, a1] = true) (hv : f_slices_ContainsFunc_Leg Tryz.prog t_slices_ContainsFunc_Leg__journey_Transit_1 d_slices_ContainsFunc_Leg__journey_Transit_1 NN (fun v g => cvt false g v) (nrm (.l 1) a0) a1 [] = some v) (h : Hp) : F_slices_ContainsFunc_Leg__journey_Transit_1 [a0, a1] h = some (v, h) := by
  have e : (R_slices_ContainsFunc_Leg__journey_Transit_1 (nrms [.l 1, .o] [a0, a1]) []).bind (fun (p : AV × Hp) => cvt false p.2 p.1) = some v := (R_slices_ContainsFunc_Leg__journey_Transit_1_eq (fun v g => cvt false g v) (nrm (.l 1) a0) a1 []).trans hv
  exact (closedX_bind (shr := [.o]) ha e h).trans (congrArg (fun x => some (x, h)) (nrmR_rep 1 v))
noncomputable def d_journey_at : DTab := D0
theorem d_journey_at_ok : DSound Tryz.prog d_journey_at := DSound.zero
noncomputable def t_journey_at : Tab := (updF T0 17 F_journey_Run)
theorem t_journey_at_ok : TSound Tryz.prog t_journey_at := (TSound.upd TSound.zero F_journey_Run_ok)
@[simp] theorem t_journey_at_17 : t_journey_at 17 = some F_journey_Run := rfl
noncomputable def R_journey_at : Fun := runF Tryz.prog t_journey_at d_journey_at NN [0, 1, 4, 5, 6, 21] Tryz.f40 2
theorem R_journey_at_ok : CSound Tryz.prog 40 R_journey_at := run_sound t_journey_at_ok d_journey_at_ok mixed Tryz.func40 (by kernel_rfl) NN
theorem R_journey_at_eq {β : Type} (K : AV → Hp → Option β) (a0 : AV) (a1 : AV) (h : Hp) : (R_journey_at [a0, a1] h).bind (fun p => K p.1 p.2) = f_journey_at Tryz.prog t_journey_at d_journey_at NN K a0 a1 h := by
  rw [← f_journey_at_run]; exact runF_bind rfl
noncomputable def F_journey_at : Fun := closedX [.l 5, .o] [.o] R_journey_at
theorem F_journey_at_ok : CSound Tryz.prog 40 F_journey_at := closedX_sound _ _ R_journey_at_ok
theorem F_journey_at_run {a0 : AV} {a1 : AV} {v : AV} (ha : plains [a0, a1] = true) (hv : f_journey_at Tryz.prog t_journey_at d_journey_at NN (fun v g => cvt false g v) (nrm (.l 5) a0) a1 [] = some v) (h : Hp) : F_journey_at [a0, a1] h = some (v, h) := by
  have e : (R_journey_at (nrms [.l 5, .o] [a0, a1]) []).bind (fun (p : AV × Hp) => cvt false p.2 p.1) = some v := (R_journey_at_eq (fun v g => cvt false g v) (nrm (.l 5) a0) a1 []).trans hv
  exact (closedX_bind (shr := [.o]) ha e h).trans (congrArg (fun x => some (x, h)) (nrmR_rep 1 v))
noncomputable def d_journey_Transit : DTab := D0
theorem d_journey_Transit_ok : DSound Tryz.prog d_journey_Transit := DSound.zero
noncomputable def t_journey_Transit : Tab := (updF (updF (updF (updF T0 24 F_journey_in) 38 F_slices_ContainsFunc_Leg__journey_Transit_1) 39 F_journey_Transit_1) 40 F_journey_at)
theorem t_journey_Transit_ok : TSound Tryz.prog t_journey_Transit := (TSound.upd (TSound.upd (TSound.upd (TSound.upd TSound.zero F_journey_in_ok) F_slices_ContainsFunc_Leg__journey_Transit_1_ok) F_journey_Transit_1_ok) F_journey_at_ok)
@[simp] theorem t_journey_Transit_24 : t_journey_Transit 24 = some F_journey_in := rfl
@[simp] theorem t_journey_Transit_38 : t_journey_Transit 38 = some F_slices_ContainsFunc_Leg__journey_Transit_1 := rfl
@[simp] theorem t_journey_Transit_39 : t_journey_Transit 39 = some F_journey_Transit_1 := rfl
@[simp] theorem t_journey_Transit_40 : t_journey_Transit 40 = some F_journey_at := rfl
noncomputable def R_journey_Transit : Fun := runF Tryz.prog t_journey_Transit d_journey_Transit NN [0, 1, 4, 5, 6, 8, 9, 13, 16, 20, 21, 22, 23] Tryz.f20 2
theorem R_journey_Transit_ok : CSound Tryz.prog 20 R_journey_Transit := run_sound t_journey_Transit_ok d_journey_Transit_ok mixed Tryz.func20 (by kernel_rfl) NN
theorem R_journey_Transit_eq {β : Type} (K : AV → Hp → Option β) (a0 : AV) (a1 : AV) (h : Hp) : (R_journey_Transit [a0, a1] h).bind (fun p => K p.1 p.2) = f_journey_Transit Tryz.prog t_journey_Transit d_journey_Transit NN K a0 a1 h := by
  rw [← f_journey_Transit_run]; exact runF_bind rfl
noncomputable def F_journey_Transit : Fun := closedX [.l 1, .o] [.o, .o] R_journey_Transit
theorem F_journey_Transit_ok : CSound Tryz.prog 20 F_journey_Transit := closedX_sound _ _ R_journey_Transit_ok
theorem F_journey_Transit_own {a0 : AV} {a1 : AV} {x0 : AV} {x1 : AV} {h : Hp} {v : AV} (ha : cvts false h [x0, x1] = some [a0, a1]) (hv : ∀ st, f_journey_Transit Tryz.prog t_journey_Transit d_journey_Transit NN (fun v g => cvt st g v) (nrm (.l 1) a0) a1 [] = some v) : F_journey_Transit [x0, x1] h = some (v, h) := by
  have e : ∀ st, (R_journey_Transit (nrms [.l 1, .o] [a0, a1]) []).bind (fun (p : AV × Hp) => cvt st p.2 p.1) = some v := fun st => (R_journey_Transit_eq (fun v g => cvt st g v) (nrm (.l 1) a0) a1 []).trans (hv st)
  exact (closedX_ownB (shr := [.o, .o]) ha e).trans (congrArg (fun x => some (x, h)) (nrmR_rep 2 v))
noncomputable def d_law45_table : DTab := D0
theorem d_law45_table_ok : DSound Tryz.prog d_law45_table := DSound.zero
noncomputable def t_law45_table : Tab := T0
theorem t_law45_table_ok : TSound Tryz.prog t_law45_table := TSound.zero
noncomputable def R_law45_table : Fun := runF Tryz.prog t_law45_table d_law45_table NN [0] Tryz.f21 0
theorem R_law45_table_ok : CSound Tryz.prog 21 R_law45_table := run_sound t_law45_table_ok d_law45_table_ok mixed Tryz.func21 (by kernel_rfl) NN
theorem R_law45_table_eq {β : Type} (K : AV → Hp → Option β) (h : Hp) : (R_law45_table [] h).bind (fun p => K p.1 p.2) = f_law45_table Tryz.prog t_law45_table d_law45_table NN K  h := by
  rw [← f_law45_table_run]; exact runF_bind rfl
noncomputable def F_law45_table : Fun := closedX [] [.l 4] R_law45_table
theorem F_law45_table_ok : CSound Tryz.prog 21 F_law45_table := closedX_sound _ _ R_law45_table_ok
theorem F_law45_table_run {v : AV} (ha : plains [] = true) (hv : f_law45_table Tryz.prog t_law45_table d_law45_table NN (fun v g => cvt false g v)  [] = some v) (h : Hp) : F_law45_table [] h = some ((nrmR [.l 4] v), h) := by
  have e : (R_law45_table (nrms [] []) []).bind (fun (p : AV × Hp) => cvt false p.2 p.1) = some v := (R_law45_table_eq (fun v g => cvt false g v)  []).trans hv
  exact (closedX_bind (shr := [.l 4]) ha e h).trans (congrArg (fun x => some (x, h)) rfl)
noncomputable def d_law45_awake : DTab := D0
theorem d_law45_awake_ok : DSound Tryz.prog d_law45_awake := DSound.zero
noncomputable def t_law45_awake : Tab := (updF (updF (updF (updF (updF (updF (updF T0 8 F_journey_Days) 11 F_journey_Claim) 14 F_journey_Messages) 17 F_journey_Run) 19 F_law45_example) 20 F_journey_Transit) 21 F_law45_table)
theorem t_law45_awake_ok : TSound Tryz.prog t_law45_awake := (TSound.upd (TSound.upd (TSound.upd (TSound.upd (TSound.upd (TSound.upd (TSound.upd TSound.zero F_journey_Days_ok) F_journey_Claim_ok) F_journey_Messages_ok) F_journey_Run_ok) F_law45_example_ok) F_journey_Transit_ok) F_law45_table_ok)
@[simp] theorem t_law45_awake_8 : t_law45_awake 8 = some F_journey_Days := rfl
@[simp] theorem t_law45_awake_11 : t_law45_awake 11 = some F_journey_Claim := rfl
@[simp] theorem t_law45_awake_14 : t_law45_awake 14 = some F_journey_Messages := rfl
@[simp] theorem t_law45_awake_17 : t_law45_awake 17 = some F_journey_Run := rfl
@[simp] theorem t_law45_awake_19 : t_law45_awake 19 = some F_law45_example := rfl
@[simp] theorem t_law45_awake_20 : t_law45_awake 20 = some F_journey_Transit := rfl
@[simp] theorem t_law45_awake_21 : t_law45_awake 21 = some F_law45_table := rfl
noncomputable def R_law45_awake : Fun := runF Tryz.prog t_law45_awake d_law45_awake NN [0, 1, 2, 3, 4, 5, 6, 7, 8, 9, 10, 11, 12] Tryz.f5 0
theorem R_law45_awake_ok : CSound Tryz.prog 5 R_law45_awake := run_sound t_law45_awake_ok d_law45_awake_ok mixed Tryz.func5 (by kernel_rfl) NN
theorem R_law45_awake_eq {β : Type} (K : AV → Hp → Option β) (h : Hp) : (R_law45_awake [] h).bind (fun p => K p.1 p.2) = f_law45_awake Tryz.prog t_law45_awake d_law45_awake NN K  h := by
  rw [← f_law45_awake_run]; exact runF_bind rfl
noncomputable def F_law45_awake : Fun := closedX [] [.o] R_law45_awake
theorem F_law45_awake_ok : CSound Tryz.prog 5 F_law45_awake := closedX_sound _ _ R_law45_awake_ok
theorem F_law45_awake_run {v : AV} (ha : plains [] = true) (hv : f_law45_awake Tryz.prog t_law45_awake d_law45_awake NN (fun v g => cvt false g v)  [] = some v) (h : Hp) : F_law45_awake [] h = some (v, h) := by
  have e : (R_law45_awake (nrms [] []) []).bind (fun (p : AV × Hp) => cvt false p.2 p.1) = some v := (R_law45_awake_eq (fun v g => cvt false g v)  []).trans hv
  exact (closedX_bind (shr := [.o]) ha e h).trans (congrArg (fun x => some (x, h)) (nrmR_rep 1 v))
noncomputable def d_slices_Clone_Leg : DTab := D0
theorem d_slices_Clone_Leg_ok : DSound Tryz.prog d_slices_Clone_Leg := DSound.zero
noncomputable def t_slices_Clone_Leg : Tab := T0
theorem t_slices_Clone_Leg_ok : TSound Tryz.prog t_slices_Clone_Leg := TSound.zero
noncomputable def R_slices_Clone_Leg : Fun := runF Tryz.prog t_slices_Clone_Leg d_slices_Clone_Leg NN [0, 2, 4] Tryz.f9 1
theorem R_slices_Clone_Leg_ok : CSound Tryz.prog 9 R_slices_Clone_Leg := run_sound t_slices_Clone_Leg_ok d_slices_Clone_Leg_ok mixed Tryz.func9 (by kernel_rfl) NN
theorem R_slices_Clone_Leg_eq {β : Type} (K : AV → Hp → Option β) (a0 : AV) (h : Hp) : (R_slices_Clone_Leg [a0] h).bind (fun p => K p.1 p.2) = f_slices_Clone_Leg Tryz.prog t_slices_Clone_Leg d_slices_Clone_Leg NN K a0 h := by
  rw [← f_slices_Clone_Leg_run]; exact runF_bind rfl
noncomputable def F_slices_Clone_Leg : Fun := closedX [.l 5] [.l 5] R_slices_Clone_Leg
theorem F_slices_Clone_Leg_ok : CSound Tryz.prog 9 F_slices_Clone_Leg := closedX_sound _ _ R_slices_Clone_Leg_ok
theorem F_slices_Clone_Leg_run {a0 : AV} {v : AV} (ha : plains [a0] = true) (hv : f_slices_Clone_Leg Tryz.prog t_slices_Clone_Leg d_slices_Clone_Leg NN (fun v g => cvt false g v) (nrm (.l 5) a0) [] = some v) (h : Hp) : F_slices_Clone_Leg [a0] h = some ((nrmR [.l 5] v), h) := by
  have e : (R_slices_Clone_Leg (nrms [.l 5] [a0]) []).bind (fun (p : AV × Hp) => cvt false p.2 p.1) = some v := (R_slices_Clone_Leg_eq (fun v g => cvt false g v) (nrm (.l 5) a0) []).trans hv
  exact (closedX_bind (shr := [.l 5]) ha e h).trans (congrArg (fun x => some (x, h)) rfl)
noncomputable def d_document_node : DTab := D0
theorem d_document_node_ok : DSound Tryz.prog d_document_node := DSound.zero
noncomputable def t_document_node : Tab := T0
theorem t_document_node_ok : TSound Tryz.prog t_document_node := TSound.zero
noncomputable def R_document_node : Fun := runF Tryz.prog t_document_node d_document_node NN [0, 2] Tryz.f88 1
theorem R_document_node_ok : CSound Tryz.prog 88 R_document_node := run_sound t_document_node_ok d_document_node_ok mixed Tryz.func88 (by kernel_rfl) NN
theorem R_document_node_eq {β : Type} (K : AV → Hp → Option β) (a0 : AV) (h : Hp) : (R_document_node [a0] h).bind (fun p => K p.1 p.2) = f_document_node Tryz.prog t_document_node d_document_node NN K a0 h := by
  rw [← f_document_node_run]; exact runF_bind rfl
noncomputable def F_document_node : Fun := closedX [.o] [.o] R_document_node
theorem F_document_node_ok : CSound Tryz.prog 88 F_document_node := closedX_sound _ _ R_document_node_ok
theorem F_document_node_run {a0 : AV} {v : AV} (ha : plains [a0] = true) (hv : f_document_node Tryz.prog t_document_node d_document_node NN (fun v g => cvt false g v) a0 [] = some v) (h : Hp) : F_document_node [a0] h = some (v, h) := by
  have e : (R_document_node (nrms [.o] [a0]) []).bind (fun (p : AV × Hp) => cvt false p.2 p.1) = some v := (R_document_node_eq (fun v g => cvt false g v) a0 []).trans hv
  exact (closedX_bind (shr := [.o]) ha e h).trans (congrArg (fun x => some (x, h)) (nrmR_rep 1 v))
noncomputable def d_document_Check : DTab := D0
theorem d_document_Check_ok : DSound Tryz.prog d_document_Check := DSound.zero
noncomputable def t_document_Check : Tab := (updF T0 88 F_document_node)
theorem t_document_Check_ok : TSound Tryz.prog t_document_Check := (TSound.upd TSound.zero F_document_node_ok)
@[simp] theorem t_document_Check_88 : t_document_Check 88 = some F_document_node := rfl
noncomputable def R_document_Check : Fun := runF Tryz.prog t_document_Check d_document_Check NN [0, 1, 2, 3, 4, 32, 41, 42, 78, 99, 118] Tryz.f73 1
theorem R_document_Check_ok : CSound Tryz.prog 73 R_document_Check := run_sound t_document_Check_ok d_document_Check_ok mixed Tryz.func73 (by kernel_rfl) NN
theorem R_document_Check_eq {β : Type} (K : AV → Hp → Option β) (a0 : AV) (h : Hp) : (R_document_Check [a0] h).bind (fun p => K p.1 p.2) = f_document_Check Tryz.prog t_document_Check d_document_Check NN K a0 h := by
  rw [← f_document_Check_run]; exact runF_bind rfl
noncomputable def F_document_Check : Fun := closedX [.o] [.o] R_document_Check
theorem F_document_Check_ok : CSound Tryz.prog 73 F_document_Check := closedX_sound _ _ R_document_Check_ok
theorem F_document_Check_run {a0 : AV} {v : AV} (ha : plains [a0] = true) (hv : f_document_Check Tryz.prog t_document_Check d_document_Check NN (fun v g => cvt false g v) a0 [] = some v) (h : Hp) : F_document_Check [a0] h = some (v, h) := by
  have e : (R_document_Check (nrms [.o] [a0]) []).bind (fun (p : AV × Hp) => cvt false p.2 p.1) = some v := (R_document_Check_eq (fun v g => cvt false g v) a0 []).trans hv
  exact (closedX_bind (shr := [.o]) ha e h).trans (congrArg (fun x => some (x, h)) (nrmR_rep 1 v))
noncomputable def d_document_Normal_1 : DTab := D0
theorem d_document_Normal_1_ok : DSound Tryz.prog d_document_Normal_1 := DSound.zero
noncomputable def t_document_Normal_1 : Tab := (updF T0 73 F_document_Check)
theorem t_document_Normal_1_ok : TSound Tryz.prog t_document_Normal_1 := (TSound.upd TSound.zero F_document_Check_ok)
@[simp] theorem t_document_Normal_1_73 : t_document_Normal_1 73 = some F_document_Check := rfl
noncomputable def R_document_Normal_1 : Fun := runF Tryz.prog t_document_Normal_1 d_document_Normal_1 NN [0, 1, 2] Tryz.f72 1
theorem R_document_Normal_1_ok : CSound Tryz.prog 72 R_document_Normal_1 := run_sound t_document_Normal_1_ok d_document_Normal_1_ok mixed Tryz.func72 (by kernel_rfl) NN
theorem R_document_Normal_1_eq {β : Type} (K : AV → Hp → Option β) (a0 : AV) (h : Hp) : (R_document_Normal_1 [a0] h).bind (fun p => K p.1 p.2) = f_document_Normal_1 Tryz.prog t_document_Normal_1 d_document_Normal_1 NN K a0 h := by
  rw [← f_document_Normal_1_run]; exact runF_bind rfl
noncomputable def F_document_Normal_1 : Fun := closedX [.o] [.o] R_document_Normal_1
theorem F_document_Normal_1_ok : CSound Tryz.prog 72 F_document_Normal_1 := closedX_sound _ _ R_document_Normal_1_ok
theorem F_document_Normal_1_run {a0 : AV} {v : AV} (ha : plains [a0] = true) (hv : f_document_Normal_1 Tryz.prog t_document_Normal_1 d_document_Normal_1 NN (fun v g => cvt false g v) a0 [] = some v) (h : Hp) : F_document_Normal_1 [a0] h = some (v, h) := by
  have e : (R_document_Normal_1 (nrms [.o] [a0]) []).bind (fun (p : AV × Hp) => cvt false p.2 p.1) = some v := (R_document_Normal_1_eq (fun v g => cvt false g v) a0 []).trans hv
  exact (closedX_bind (shr := [.o]) ha e h).trans (congrArg (fun x => some (x, h)) (nrmR_rep 1 v))
noncomputable def d_slices_IndexFunc_Message__document_Normal_1 : DTab := D0
theorem d_slices_IndexFunc_Message__document_Normal_1_ok : DSound Tryz.prog d_slices_IndexFunc_Message__document_Normal_1 := DSound.zero
noncomputable def t_slices_IndexFunc_Message__document_Normal_1 : Tab := (updF T0 72 F_document_Normal_1)
theorem t_slices_IndexFunc_Message__document_Normal_1_ok : TSound Tryz.prog t_slices_IndexFunc_Message__document_Normal_1 := (TSound.upd TSound.zero F_document_Normal_1_ok)
@[simp] theorem t_slices_IndexFunc_Message__document_Normal_1_72 : t_slices_IndexFunc_Message__document_Normal_1 72 = some F_document_Normal_1 := rfl
noncomputable def R_slices_IndexFunc_Message__document_Normal_1 : Fun := runF Tryz.prog t_slices_IndexFunc_Message__document_Normal_1 d_slices_IndexFunc_Message__document_Normal_1 NN [0, 1, 4, 5, 7, 8, 9, 16] Tryz.f87 2
theorem R_slices_IndexFunc_Message__document_Normal_1_ok : CSound Tryz.prog 87 R_slices_IndexFunc_Message__document_Normal_1 := run_sound t_slices_IndexFunc_Message__document_Normal_1_ok d_slices_IndexFunc_Message__document_Normal_1_ok mixed Tryz.func87 (by kernel_rfl) NN
theorem R_slices_IndexFunc_Message__document_Normal_1_eq {β : Type} (K : AV → Hp → Option β) (a0 : AV) (a1 : AV) (h : Hp) : (R_slices_IndexFunc_Message__document_Normal_1 [a0, a1] h).bind (fun p => K p.1 p.2) = f_slices_IndexFunc_Message Tryz.prog t_slices_IndexFunc_Message__document_Normal_1 d_slices_IndexFunc_Message__document_Normal_1 NN K a0 a1 h := by
  rw [← f_slices_IndexFunc_Message_run]; exact runF_bind rfl
noncomputable def F_slices_IndexFunc_Message__document_Normal_1 : Fun := closedX [.l 7, .o] [.o] R_slices_IndexFunc_Message__document_Normal_1
theorem F_slices_IndexFunc_Message__document_Normal_1_ok : CSound Tryz.prog 87 F_slices_IndexFunc_Message__document_Normal_1 := closedX_sound _ _ R_slices_IndexFunc_Message__document_Normal_1_ok
theorem F_slices_IndexFunc_Message__document_Normal_1_run {a0 : AV} {a1 : AV} {v : AV} (ha : plains [a0, a1] = true) (hv : f_slices_IndexFunc_Message Tryz.prog t_slices_IndexFunc_Message__document_Normal_1 d_slices_IndexFunc_Message__document_Normal_1 NN (fun v g => cvt false g v) (nrm (.l 7) a0) a1 [] = some v) (h : Hp) : F_slices_IndexFunc_Message__document_Normal_1 [a0, a1] h = some (v, h) := by
  have e : (R_slices_IndexFunc_Message__document_Normal_1 (nrms [.l 7, .o] [a0, a1]) []).bind (fun (p : AV × Hp) => cvt false p.2 p.1) = some v := (R_slices_IndexFunc_Message__document_Normal_1_eq (fun v g => cvt false g v) (nrm (.l 7) a0) a1 []).trans hv
  exact (closedX_bind (shr := [.o]) ha e h).trans (congrArg (fun x => some (x, h)) (nrmR_rep 1 v))
noncomputable def d_slices_ContainsFunc_Message__document_Normal_1 : DTab := D0
theorem d_slices_ContainsFunc_Message__document_Normal_1_ok : DSound Tryz.prog d_slices_ContainsFunc_Message__document_Normal_1 := DSound.zero
noncomputable def t_slices_ContainsFunc_Message__document_Normal_1 : Tab := (updF T0 87 F_slices_IndexFunc_Message__document_Normal_1)
theorem t_slices_ContainsFunc_Message__document_Normal_1_ok : TSound Tryz.prog t_slices_ContainsFunc_Message__document_Normal_1 := (TSound.upd TSound.zero F_slices_IndexFunc_Message__document_Normal_1_ok)
@[simp] theorem t_slices_ContainsFunc_Message__document_Normal_1_87 : t_slices_ContainsFunc_Message__document_Normal_1 87 = some F_slices_IndexFunc_Message__document_Normal_1 := rfl
noncomputable def R_slices_ContainsFunc_Message__document_Normal_1 : Fun := runF Tryz.prog t_slices_ContainsFunc_Message__document_Normal_1 d_slices_ContainsFunc_Message__document_Normal_1 NN [0, 1, 4] Tryz.f71 2
theorem R_slices_ContainsFunc_Message__document_Normal_1_ok : CSound Tryz.prog 71 R_slices_ContainsFunc_Message__document_Normal_1 := run_sound t_slices_ContainsFunc_Message__document_Normal_1_ok d_slices_ContainsFunc_Message__document_Normal_1_ok mixed Tryz.func71 (by kernel_rfl) NN
theorem R_slices_ContainsFunc_Message__document_Normal_1_eq {β : Type} (K : AV → Hp → Option β) (a0 : AV) (a1 : AV) (h : Hp) : (R_slices_ContainsFunc_Message__document_Normal_1 [a0, a1] h).bind (fun p => K p.1 p.2) = f_slices_ContainsFunc_Message Tryz.prog t_slices_ContainsFunc_Message__document_Normal_1 d_slices_ContainsFunc_Message__document_Normal_1 NN K a0 a1 h := by
  rw [← f_slices_ContainsFunc_Message_run]; exact runF_bind rfl
noncomputable def F_slices_ContainsFunc_Message__document_Normal_1 : Fun := closedX [.l 7, .o] [.o] R_slices_ContainsFunc_Message__document_Normal_1
theorem F_slices_ContainsFunc_Message__document_Normal_1_ok : CSound Tryz.prog 71 F_slices_ContainsFunc_Message__document_Normal_1 := closedX_sound _ _ R_slices_ContainsFunc_Message__document_Normal_1_ok
theorem F_slices_ContainsFunc_Message__document_Normal_1_run {a0 : AV} {a1 : AV} {v : AV} (ha : plains [a0, a1] = true) (hv : f_slices_ContainsFunc_Message Tryz.prog t_slices_ContainsFunc_Message__document_Normal_1 d_slices_ContainsFunc_Message__document_Normal_1 NN (fun v g => cvt false g v) (nrm (.l 7) a0) a1 [] = some v) (h : Hp) : F_slices_ContainsFunc_Message__document_Normal_1 [a0, a1] h = some (v, h) := by
  have e : (R_slices_ContainsFunc_Message__document_Normal_1 (nrms [.l 7, .o] [a0, a1]) []).bind (fun (p : AV × Hp) => cvt false p.2 p.1) = some v := (R_slices_ContainsFunc_Message__document_Normal_1_eq (fun v g => cvt false g v) (nrm (.l 7) a0) a1 []).trans hv
  exact (closedX_bind (shr := [.o]) ha e h).trans (congrArg (fun x => some (x, h)) (nrmR_rep 1 v))
noncomputable def d_slices_Clone_Message : DTab := D0
theorem d_slices_Clone_Message_ok : DSound Tryz.prog d_slices_Clone_Message := DSound.zero
noncomputable def t_slices_Clone_Message : Tab := T0
theorem t_slices_Clone_Message_ok : TSound Tryz.prog t_slices_Clone_Message := TSound.zero
noncomputable def R_slices_Clone_Message : Fun := runF Tryz.prog t_slices_Clone_Message d_slices_Clone_Message NN [0, 2, 4] Tryz.f74 1
theorem R_slices_Clone_Message_ok : CSound Tryz.prog 74 R_slices_Clone_Message := run_sound t_slices_Clone_Message_ok d_slices_Clone_Message_ok mixed Tryz.func74 (by kernel_rfl) NN
theorem R_slices_Clone_Message_eq {β : Type} (K : AV → Hp → Option β) (a0 : AV) (h : Hp) : (R_slices_Clone_Message [a0] h).bind (fun p => K p.1 p.2) = f_slices_Clone_Message Tryz.prog t_slices_Clone_Message d_slices_Clone_Message NN K a0 h := by
  rw [← f_slices_Clone_Message_run]; exact runF_bind rfl
theorem R_slices_Clone_Message_raw (a0 : AV) (h : Hp) : R_slices_Clone_Message [a0] h = f_slices_Clone_Message Tryz.prog t_slices_Clone_Message d_slices_Clone_Message NN (fun v h => some (v, h)) a0 h := (bind_pair _).symm.trans (R_slices_Clone_Message_eq (fun v h => some (v, h)) a0 h)
noncomputable def d_cmp_Or_int : DTab := D0
theorem d_cmp_Or_int_ok : DSound Tryz.prog d_cmp_Or_int := DSound.zero
noncomputable def t_cmp_Or_int : Tab := T0
theorem t_cmp_Or_int_ok : TSound Tryz.prog t_cmp_Or_int := TSound.zero
noncomputable def R_cmp_Or_int : Fun := runF Tryz.prog t_cmp_Or_int d_cmp_Or_int NN [0, 2, 3, 5, 6, 7, 8, 9, 14] Tryz.f91 1
theorem R_cmp_Or_int_ok : CSound Tryz.prog 91 R_cmp_Or_int := run_sound t_cmp_Or_int_ok d_cmp_Or_int_ok mixed Tryz.func91 (by kernel_rfl) NN
theorem R_cmp_Or_int_eq {β : Type} (K : AV → Hp → Option β) (a0 : AV) (h : Hp) : (R_cmp_Or_int [a0] h).bind (fun p => K p.1 p.2) = f_cmp_Or_int Tryz.prog t_cmp_Or_int d_cmp_Or_int NN K a0 h := by
  rw [← f_cmp_Or_int_run]; exact runF_bind rfl
noncomputable def F_cmp_Or_int : Fun := closedX [.l 1] [.o] R_cmp_Or_int
theorem F_cmp_Or_int_ok : CSound Tryz.prog 91 F_cmp_Or_int := closedX_sound _ _ R_cmp_Or_int_ok
noncomputable def G_cmp_Or_int : DFun := closedXD [.l 1] [.o] R_cmp_Or_int
theorem G_cmp_Or_int_ro : Ro F_cmp_Or_int G_cmp_Or_int := closedX_ro _ _ _
theorem F_cmp_Or_int_own {a0 : AV} {x0 : AV} {h : Hp} {v : AV} (ha : cvts false h [x0] = some [a0]) (hv : ∀ st, f_cmp_Or_int Tryz.prog t_cmp_Or_int d_cmp_Or_int NN (fun v g => cvt st g v) (nrm (.l 1) a0) [] = some v) : F_cmp_Or_int [x0] h = some (v, h) := by
  have e : ∀ st, (R_cmp_Or_int (nrms [.l 1] [a0]) []).bind (fun (p : AV × Hp) => cvt st p.2 p.1) = some v := fun st => (R_cmp_Or_int_eq (fun v g => cvt st g v) (nrm (.l 1) a0) []).trans (hv st)
  exact (closedX_ownB (shr := [.o]) ha e).trans (congrArg (fun x => some (x, h)) (nrmR_rep 1 v))
noncomputable def d_cmp_isNaN_int : DTab := D0
theorem d_cmp_isNaN_int_ok : DSound Tryz.prog d_cmp_isNaN_int := DSound.zero
noncomputable def t_cmp_isNaN_int : Tab := T0
theorem t_cmp_isNaN_int_ok : TSound Tryz.prog t_cmp_isNaN_int := TSound.zero
noncomputable def R_cmp_isNaN_int : Fun := runF Tryz.prog t_cmp_isNaN_int d_cmp_isNaN_int NN [0, 2] Tryz.f120 1
theorem R_cmp_isNaN_int_ok : CSound Tryz.prog 120 R_cmp_isNaN_int := run_sound t_cmp_isNaN_int_ok d_cmp_isNaN_int_ok mixed Tryz.func120 (by kernel_rfl) NN
theorem R_cmp_isNaN_int_eq {β : Type} (K : AV → Hp → Option β) (a0 : AV) (h : Hp) : (R_cmp_isNaN_int [a0] h).bind (fun p => K p.1 p.2) = f_cmp_isNaN_int Tryz.prog t_cmp_isNaN_int d_cmp_isNaN_int NN K a0 h := by
  rw [← f_cmp_isNaN_int_run]; exact runF_bind rfl
noncomputable def F_cmp_isNaN_int : Fun := closedX [.o] [.o] R_cmp_isNaN_int
theorem F_cmp_isNaN_int_ok : CSound Tryz.prog 120 F_cmp_isNaN_int := closedX_sound _ _ R_cmp_isNaN_int_ok
theorem F_cmp_isNaN_int_run {a0 : AV} {v : AV} (ha : plains [a0] = true) (hv : f_cmp_isNaN_int Tryz.prog t_cmp_isNaN_int d_cmp_isNaN_int NN (fun v g => cvt false g v) a0 [] = some v) (h : Hp) : F_cmp_isNaN_int [a0] h = some (v, h) := by
  have e : (R_cmp_isNaN_int (nrms [.o] [a0]) []).bind (fun (p : AV × Hp) => cvt false p.2 p.1) = some v := (R_cmp_isNaN_int_eq (fun v g => cvt false g v) a0 []).trans hv
  exact (closedX_bind (shr := [.o]) ha e h).trans (congrArg (fun x => some (x, h)) (nrmR_rep 1 v))
noncomputable def d_cmp_Compare_int : DTab := D0
theorem d_cmp_Compare_int_ok : DSound Tryz.prog d_cmp_Compare_int := DSound.zero
noncomputable def t_cmp_Compare_int : Tab := (updF T0 120 F_cmp_isNaN_int)
theorem t_cmp_Compare_int_ok : TSound Tryz.prog t_cmp_Compare_int := (TSound.upd TSound.zero F_cmp_isNaN_int_ok)
@[simp] theorem t_cmp_Compare_int_120 : t_cmp_Compare_int 120 = some F_cmp_isNaN_int := rfl
noncomputable def R_cmp_Compare_int : Fun := runF Tryz.prog t_cmp_Compare_int d_cmp_Compare_int NN [0, 1, 4, 5, 6, 11, 12, 13, 16, 19] Tryz.f92 2
theorem R_cmp_Compare_int_ok : CSound Tryz.prog 92 R_cmp_Compare_int := run_sound t_cmp_Compare_int_ok d_cmp_Compare_int_ok mixed Tryz.func92 (by kernel_rfl) NN
theorem R_cmp_Compare_int_eq {β : Type} (K : AV → Hp → Option β) (a0 : AV) (a1 : AV) (h : Hp) : (R_cmp_Compare_int [a0, a1] h).bind (fun p => K p.1 p.2) = f_cmp_Compare_int Tryz.prog t_cmp_Compare_int d_cmp_Compare_int NN K a0 a1 h := by
  rw [← f_cmp_Compare_int_run]; exact runF_bind rfl
noncomputable def F_cmp_Compare_int : Fun := closedX [.o, .o] [.o] R_cmp_Compare_int
theorem F_cmp_Compare_int_ok : CSound Tryz.prog 92 F_cmp_Compare_int := closedX_sound _ _ R_cmp_Compare_int_ok
noncomputable def G_cmp_Compare_int : DFun := closedXD [.o, .o] [.o] R_cmp_Compare_int
theorem G_cmp_Compare_int_ro : Ro F_cmp_Compare_int G_cmp_Compare_int := closedX_ro _ _ _
theorem F_cmp_Compare_int_run {a0 : AV} {a1 : AV} {v : AV} (ha : plains [a0, a1] = true) (hv : f_cmp_Compare_int Tryz.prog t_cmp_Compare_int d_cmp_Compare_int NN (fun v g => cvt false g v) a0 a1 [] = some v) (h : Hp) : F_cmp_Compare_int [a0, a1] h = some (v, h) := by
  have e : (R_cmp_Compare_int (nrms [.o, .o] [a0, a1]) []).bind (fun (p : AV × Hp) => cvt false p.2 p.1) = some v := (R_cmp_Compare_int_eq (fun v g => cvt false g v) a0 a1 []).trans hv
  exact (closedX_bind (shr := [.o]) ha e h).trans (congrArg (fun x => some (x, h)) (nrmR_rep 1 v))
noncomputable def d_document_compare : DTab := (updD (updD D0 91 G_cmp_Or_int) 92 G_cmp_Compare_int)
theorem d_document_compare_ok : DSound Tryz.prog d_document_compare := (DSound.ro (DSound.ro DSound.zero G_cmp_Or_int_ro F_cmp_Or_int_ok) G_cmp_Compare_int_ro F_cmp_Compare_int_ok)
@[simp] theorem d_document_compare_91 : d_document_compare 91 = some G_cmp_Or_int := rfl
@[simp] theorem d_document_compare_92 : d_document_compare 92 = some G_cmp_Compare_int := rfl
noncomputable def t_document_compare : Tab := (updF (updF T0 91 F_cmp_Or_int) 92 F_cmp_Compare_int)
theorem t_document_compare_ok : TSound Tryz.prog t_document_compare := (TSound.upd (TSound.upd TSound.zero F_cmp_Or_int_ok) F_cmp_Compare_int_ok)
@[simp] theorem t_document_compare_91 : t_document_compare 91 = some F_cmp_Or_int := rfl
@[simp] theorem t_document_compare_92 : t_document_compare 92 = some F_cmp_Compare_int := rfl
noncomputable def R_document_compare : Fun := runF Tryz.prog t_document_compare d_document_compare NN [0, 1, 2, 3, 4] Tryz.f76 2
theorem R_document_compare_ok : CSound Tryz.prog 76 R_document_compare := run_sound t_document_compare_ok d_document_compare_ok mixed Tryz.func76 (by kernel_rfl) NN
theorem R_document_compare_eq {β : Type} (K : AV → Hp → Option β) (a0 : AV) (a1 : AV) (h : Hp) : (R_document_compare [a0, a1] h).bind (fun p => K p.1 p.2) = f_document_compare Tryz.prog t_document_compare d_document_compare NN K a0 a1 h := by
  rw [← f_document_compare_run]; exact runF_bind rfl
noncomputable def F_document_compare : Fun := closedX [.o, .o] [.o] R_document_compare
theorem F_document_compare_ok : CSound Tryz.prog 76 F_document_compare := closedX_sound _ _ R_document_compare_ok
theorem F_document_compare_run {a0 : AV} {a1 : AV} {v : AV} (ha : plains [a0, a1] = true) (hv : f_document_compare Tryz.prog t_document_compare d_document_compare NN (fun v g => cvt false g v) a0 a1 [] = some v) (h : Hp) : F_document_compare [a0, a1] h = some (v, h) := by
  have e : (R_document_compare (nrms [.o, .o] [a0, a1]) []).bind (fun (p : AV × Hp) => cvt false p.2 p.1) = some v := (R_document_compare_eq (fun v g => cvt false g v) a0 a1 []).trans hv
  exact (closedX_bind (shr := [.o]) ha e h).trans (congrArg (fun x => some (x, h)) (nrmR_rep 1 v))
noncomputable def F_slices_SortFunc_Message__document_compare : Fun := sortF 7 okI 76 F_document_compare
theorem F_slices_SortFunc_Message__document_compare_ok : CSound Tryz.prog 75 F_slices_SortFunc_Message__document_compare := sortF_sound (ρ := Tryz.sort75_ren) Tryz.sort75 Tryz.isAgg67 Tryz.sizeOf67 ⟨Tryz.f75, Tryz.func75, by kernel_rfl, by kernel_rfl⟩ (by decide) F_document_compare_ok ⟨Tryz.f76, Tryz.func76, by kernel_rfl, by kernel_rfl⟩
noncomputable def d_slices_Compact_Message : DTab := D0
theorem d_slices_Compact_Message_ok : DSound Tryz.prog d_slices_Compact_Message := DSound.zero
noncomputable def t_slices_Compact_Message : Tab := T0
theorem t_slices_Compact_Message_ok : TSound Tryz.prog t_slices_Compact_Message := TSound.zero
noncomputable def R_slices_Compact_Message : Fun := runF Tryz.prog t_slices_Compact_Message d_slices_Compact_Message NN [0, 2, 3, 4, 5, 8, 13, 25, 32, 44] Tryz.f77 1
theorem R_slices_Compact_Message_ok : CSound Tryz.prog 77 R_slices_Compact_Message := run_sound t_slices_Compact_Message_ok d_slices_Compact_Message_ok mixed Tryz.func77 (by kernel_rfl) NN
theorem R_slices_Compact_Message_eq {β : Type} (K : AV → Hp → Option β) (a0 : AV) (h : Hp) : (R_slices_Compact_Message [a0] h).bind (fun p => K p.1 p.2) = f_slices_Compact_Message Tryz.prog t_slices_Compact_Message d_slices_Compact_Message NN K a0 h := by
  rw [← f_slices_Compact_Message_run]; exact runF_bind rfl
theorem R_slices_Compact_Message_raw (a0 : AV) (h : Hp) : R_slices_Compact_Message [a0] h = f_slices_Compact_Message Tryz.prog t_slices_Compact_Message d_slices_Compact_Message NN (fun v h => some (v, h)) a0 h := (bind_pair _).symm.trans (R_slices_Compact_Message_eq (fun v h => some (v, h)) a0 h)
noncomputable def d_document_Normal : DTab := D0
theorem d_document_Normal_ok : DSound Tryz.prog d_document_Normal := DSound.zero
noncomputable def t_document_Normal : Tab := (updF (updF (updF (updF (updF (updF T0 71 F_slices_ContainsFunc_Message__document_Normal_1) 72 F_document_Normal_1) 74 R_slices_Clone_Message) 75 F_slices_SortFunc_Message__document_compare) 76 F_document_compare) 77 R_slices_Compact_Message)
theorem t_document_Normal_ok : TSound Tryz.prog t_document_Normal := (TSound.upd (TSound.upd (TSound.upd (TSound.upd (TSound.upd (TSound.upd TSound.zero F_slices_ContainsFunc_Message__document_Normal_1_ok) F_document_Normal_1_ok) R_slices_Clone_Message_ok) F_slices_SortFunc_Message__document_compare_ok) F_document_compare_ok) R_slices_Compact_Message_ok)
@[simp] theorem t_document_Normal_71 : t_document_Normal 71 = some F_slices_ContainsFunc_Message__document_Normal_1 := rfl
@[simp] theorem t_document_Normal_72 : t_document_Normal 72 = some F_document_Normal_1 := rfl
@[simp] theorem t_document_Normal_74 : t_document_Normal 74 = some R_slices_Clone_Message := rfl
@[simp] theorem t_document_Normal_75 : t_document_Normal 75 = some F_slices_SortFunc_Message__document_compare := rfl
@[simp] theorem t_document_Normal_76 : t_document_Normal 76 = some F_document_compare := rfl
@[simp] theorem t_document_Normal_77 : t_document_Normal 77 = some R_slices_Compact_Message := rfl
noncomputable def R_document_Normal : Fun := runF Tryz.prog t_document_Normal d_document_Normal NN [0, 2, 3, 4, 7, 9] Tryz.f36 1
theorem R_document_Normal_ok : CSound Tryz.prog 36 R_document_Normal := run_sound t_document_Normal_ok d_document_Normal_ok mixed Tryz.func36 (by kernel_rfl) NN
theorem R_document_Normal_eq {β : Type} (K : AV → Hp → Option β) (a0 : AV) (h : Hp) : (R_document_Normal [a0] h).bind (fun p => K p.1 p.2) = f_document_Normal Tryz.prog t_document_Normal d_document_Normal NN K a0 h := by
  rw [← f_document_Normal_run]; exact runF_bind rfl
noncomputable def F_document_Normal : Fun := closedX [.l 7] [.l 7, .o] R_document_Normal
theorem F_document_Normal_ok : CSound Tryz.prog 36 F_document_Normal := closedX_sound _ _ R_document_Normal_ok
theorem F_document_Normal_run {a0 : AV} {v : AV} (ha : plains [a0] = true) (hv : f_document_Normal Tryz.prog t_document_Normal d_document_Normal NN (fun v g => cvt false g v) (nrm (.l 7) a0) [] = some v) (h : Hp) : F_document_Normal [a0] h = some ((nrmR [.l 7, .o] v), h) := by
  have e : (R_document_Normal (nrms [.l 7] [a0]) []).bind (fun (p : AV × Hp) => cvt false p.2 p.1) = some v := (R_document_Normal_eq (fun v g => cvt false g v) (nrm (.l 7) a0) []).trans hv
  exact (closedX_bind (shr := [.l 7, .o]) ha e h).trans (congrArg (fun x => some (x, h)) rfl)
noncomputable def d_document_of : DTab := D0
theorem d_document_of_ok : DSound Tryz.prog d_document_of := DSound.zero
noncomputable def t_document_of : Tab := T0
theorem t_document_of_ok : TSound Tryz.prog t_document_of := TSound.zero
noncomputable def F_document_of : Fun := closedXK [.l 7, .o] [.o] (fun {β} (K : AV → Hp → Option β) (args : List AV) (h : Hp) => if args.length = 2 then runK Tryz.prog t_document_of d_document_of NN [0, 1, 4, 5, 6, 7, 8, 10, 11, 13, 17, 18, 19, 20, 26, 33, 34, 46, 55, 60, 63, 74, 78, 80, 84, 89, 92] Tryz.f37 K args h else none)
theorem F_document_of_ok : CSound Tryz.prog 37 F_document_of := closedXK_sound _ _ (runK_sound t_document_of_ok d_document_of_ok mixed Tryz.func37 (by kernel_rfl) NN)
theorem F_document_of_run {a0 : AV} {a1 : AV} {v : AV} (ha : plains [a0, a1] = true) (hv : f_document_of Tryz.prog t_document_of d_document_of NN (fun v g => cvt false g v) (nrm (.l 7) a0) a1 [] = some v) (h : Hp) : F_document_of [a0, a1] h = some (v, h) :=
  (closedXK_val (RK := (fun {β} (K : AV → Hp → Option β) (args : List AV) (h : Hp) => if args.length = 2 then runK Tryz.prog t_document_of d_document_of NN [0, 1, 4, 5, 6, 7, 8, 10, 11, 13, 17, 18, 19, 20, 26, 33, 34, 46, 55, 60, 63, 74, 78, 80, 84, 89, 92] Tryz.f37 K args h else none)) ha ((if_pos rfl).trans ((f_document_of_run t_document_of d_document_of NN (fun v g => cvt false g v) (nrm (.l 7) a0) a1 []).trans hv)) h).trans (congrArg (fun x => some (x, h)) (nrmR_rep 1 v))
noncomputable def d_document_Of : DTab := D0
theorem d_document_Of_ok : DSound Tryz.prog d_document_Of := DSound.zero
noncomputable def t_document_Of : Tab := (updF (updF T0 36 F_document_Normal) 37 F_document_of)
theorem t_document_Of_ok : TSound Tryz.prog t_document_Of := (TSound.upd (TSound.upd TSound.zero F_document_Normal_ok) F_document_of_ok)
@[simp] theorem t_document_Of_36 : t_document_Of 36 = some F_document_Normal := rfl
@[simp] theorem t_document_Of_37 : t_document_Of 37 = some F_document_of := rfl
noncomputable def R_document_Of : Fun := runF Tryz.prog t_document_Of d_document_Of NN [0, 1, 4, 5, 6, 7, 13, 18] Tryz.f18 2
theorem R_document_Of_ok : CSound Tryz.prog 18 R_document_Of := run_sound t_document_Of_ok d_document_Of_ok mixed Tryz.func18 (by kernel_rfl) NN
theorem R_document_Of_eq {β : Type} (K : AV → Hp → Option β) (a0 : AV) (a1 : AV) (h : Hp) : (R_document_Of [a0, a1] h).bind (fun p => K p.1 p.2) = f_document_Of Tryz.prog t_document_Of d_document_Of NN K a0 a1 h := by
  rw [← f_document_Of_run]; exact runF_bind rfl
noncomputable def F_document_Of : Fun := closedX [.l 7, .o] [.o, .o] R_document_Of
theorem F_document_Of_ok : CSound Tryz.prog 18 F_document_Of := closedX_sound _ _ R_document_Of_ok
theorem F_document_Of_run {a0 : AV} {a1 : AV} {v : AV} (ha : plains [a0, a1] = true) (hv : f_document_Of Tryz.prog t_document_Of d_document_Of NN (fun v g => cvt false g v) (nrm (.l 7) a0) a1 [] = some v) (h : Hp) : F_document_Of [a0, a1] h = some (v, h) := by
  have e : (R_document_Of (nrms [.l 7, .o] [a0, a1]) []).bind (fun (p : AV × Hp) => cvt false p.2 p.1) = some v := (R_document_Of_eq (fun v g => cvt false g v) (nrm (.l 7) a0) a1 []).trans hv
  exact (closedX_bind (shr := [.o, .o]) ha e h).trans (congrArg (fun x => some (x, h)) (nrmR_rep 2 v))
noncomputable def d_law45_JourneyDocuments : DTab := D0
theorem d_law45_JourneyDocuments_ok : DSound Tryz.prog d_law45_JourneyDocuments := DSound.zero
noncomputable def t_law45_JourneyDocuments : Tab := (updF (updF (updF (updF (updF T0 5 F_law45_awake) 9 F_slices_Clone_Leg) 14 F_journey_Messages) 17 F_journey_Run) 18 F_document_Of)
theorem t_law45_JourneyDocuments_ok : TSound Tryz.prog t_law45_JourneyDocuments := (TSound.upd (TSound.upd (TSound.upd (TSound.upd (TSound.upd TSound.zero F_law45_awake_ok) F_slices_Clone_Leg_ok) F_journey_Messages_ok) F_journey_Run_ok) F_document_Of_ok)
@[simp] theorem t_law45_JourneyDocuments_5 : t_law45_JourneyDocuments 5 = some F_law45_awake := rfl
@[simp] theorem t_law45_JourneyDocuments_9 : t_law45_JourneyDocuments 9 = some F_slices_Clone_Leg := rfl
@[simp] theorem t_law45_JourneyDocuments_14 : t_law45_JourneyDocuments 14 = some F_journey_Messages := rfl
@[simp] theorem t_law45_JourneyDocuments_17 : t_law45_JourneyDocuments 17 = some F_journey_Run := rfl
@[simp] theorem t_law45_JourneyDocuments_18 : t_law45_JourneyDocuments 18 = some F_document_Of := rfl
noncomputable def R_law45_JourneyDocuments : Fun := runF Tryz.prog t_law45_JourneyDocuments d_law45_JourneyDocuments NN [0, 1, 4, 5, 6, 7, 9, 10, 11, 12, 14, 17, 33, 48, 63, 66] Tryz.f4 2
theorem R_law45_JourneyDocuments_ok : CSound Tryz.prog 4 R_law45_JourneyDocuments := run_sound t_law45_JourneyDocuments_ok d_law45_JourneyDocuments_ok mixed Tryz.func4 (by kernel_rfl) NN
theorem R_law45_JourneyDocuments_eq {β : Type} (K : AV → Hp → Option β) (a0 : AV) (a1 : AV) (h : Hp) : (R_law45_JourneyDocuments [a0, a1] h).bind (fun p => K p.1 p.2) = f_law45_JourneyDocuments Tryz.prog t_law45_JourneyDocuments d_law45_JourneyDocuments NN K a0 a1 h := by
  rw [← f_law45_JourneyDocuments_run]; exact runF_bind rfl
noncomputable def F_law45_JourneyDocuments : Fun := closedX [.l 5, .o] [.o] R_law45_JourneyDocuments
theorem F_law45_JourneyDocuments_ok : CSound Tryz.prog 4 F_law45_JourneyDocuments := closedX_sound _ _ R_law45_JourneyDocuments_ok
theorem F_law45_JourneyDocuments_run {a0 : AV} {a1 : AV} {v : AV} (ha : plains [a0, a1] = true) (hv : f_law45_JourneyDocuments Tryz.prog t_law45_JourneyDocuments d_law45_JourneyDocuments NN (fun v g => cvt false g v) (nrm (.l 5) a0) a1 [] = some v) (h : Hp) : F_law45_JourneyDocuments [a0, a1] h = some (v, h) := by
  have e : (R_law45_JourneyDocuments (nrms [.l 5, .o] [a0, a1]) []).bind (fun (p : AV × Hp) => cvt false p.2 p.1) = some v := (R_law45_JourneyDocuments_eq (fun v g => cvt false g v) (nrm (.l 5) a0) a1 []).trans hv
  exact (closedX_bind (shr := [.o]) ha e h).trans (congrArg (fun x => some (x, h)) (nrmR_rep 1 v))
end Go.AM


set_option linter.unusedVariables false
namespace Go.AM.Div
theorem le_iff {b y1 y0 x c q r : Nat} (hx : x = q * y1 + r) : q * (y1 * b + y0) ≤ x * b + c ↔ q * y0 ≤ b * r + c := by
  have e1 : q * (y1 * b + y0) = q * y1 * b + q * y0 := by rw [Nat.mul_add, Nat.mul_assoc]
  have e2 : x * b + c = q * y1 * b + (b * r + c) := by rw [hx, Nat.add_mul, Nat.mul_comm r b]; omega
  rw [e1, e2]
  omega
theorem start_le {b y1 y0 x c : Nat} (hb : 0 < b) (hy1 : 0 < y1) (hc : c < b) : (x * b + c) / (y1 * b + y0) ≤ x / y1 := by
  have hy : 0 < y1 * b + y0 := by have := Nat.mul_pos hy1 hb; omega
  rw [Nat.le_div_iff_mul_le hy1]
  generalize hQ : (x * b + c) / (y1 * b + y0) = Q
  have h1 : Q * (y1 * b + y0) ≤ x * b + c := by rw [← hQ]; exact Nat.div_mul_le_self _ _
  rcases Nat.lt_or_ge x (Q * y1) with h2 | h2
  · exfalso
    have h3 : (x + 1) * b ≤ Q * y1 * b := Nat.mul_le_mul_right _ h2
    rw [Nat.mul_add, ← Nat.mul_assoc] at h1
    rw [Nat.add_mul] at h3
    omega
  · exact h2
theorem lt_base {b y x c : Nat} (hc : c < b) (hx : x < y) : (x * b + c) / y < b := by
  rw [Nat.div_lt_iff_lt_mul (by omega)]
  have : (x + 1) * b ≤ y * b := Nat.mul_le_mul_right _ hx
  rw [Nat.add_mul] at this
  rw [Nat.mul_comm b y]
  omega
theorem digit_eq {b y1 y0 x c q r : Nat} (hy : 0 < y1 * b + y0) (hx : x = q * y1 + r) (hQ : (x * b + c) / (y1 * b + y0) ≤ q) (hle : q * y0 ≤ b * r + c) : q = (x * b + c) / (y1 * b + y0) := by
  have := (Nat.le_div_iff_mul_le hy).2 ((le_iff (c := c) (b := b) (y0 := y0) hx).2 hle)
  omega
theorem digit_gt {b y1 y0 x c q r : Nat} (hy : 0 < y1 * b + y0) (hxy : x < y1 * b + y0) (hc : c < b) (hx : x = q * y1 + r) (hg : b ≤ q ∨ b * r + c < q * y0) : (x * b + c) / (y1 * b + y0) < q := by
  rcases hg with hg | hg
  · have := lt_base hc hxy; omega
  · rw [Nat.div_lt_iff_lt_mul hy]
    have := mt (le_iff (c := c) (b := b) (y0 := y0) hx).1 (by omega)
    omega
theorem digit_big {b y1 y0 x c q r : Nat} (hb : 0 < b) (hy0 : y0 < b) (hy1 : 0 < y1) (hxy : x < y1 * b + y0) (hx : x = q * y1 + r) (hr : b ≤ r) (hQ : (x * b + c) / (y1 * b + y0) ≤ q) : q = (x * b + c) / (y1 * b + y0) := by
  have hy : 0 < y1 * b + y0 := by have := Nat.mul_pos hy1 hb; omega
  have hqb : q < b := by
    rcases Nat.lt_or_ge q b with h | h
    · exact h
    · exfalso
      have h1 : b * y1 ≤ q * y1 := Nat.mul_le_mul_right _ h
      rw [Nat.mul_comm b y1] at h1
      omega
  refine digit_eq hy hx hQ ?_
  have h1 : q * y0 ≤ b * b := Nat.mul_le_mul (by omega) (by omega)
  have h2 : b * b ≤ b * r := Nat.mul_le_mul_left _ hr
  omega
theorem two_digits {b y x c1 c0 : Nat} (hb : 0 < b) (hc1 : c1 < b) (hc0 : c0 < b) (hy : 0 < y) (hx : x < y) :
    (x * b + c1) / y * b + ((x * b + c1) % y * b + c0) / y = (x * (b * b) + c1 * b + c0) / y ∧ ((x * b + c1) % y * b + c0) % y = (x * (b * b) + c1 * b + c0) % y := by
  have e : x * (b * b) + c1 * b + c0 = ((x * b + c1) % y * b + c0) + y * ((x * b + c1) / y * b) := by
    have h1 := Nat.mod_add_div (x * b + c1) y
    have h2 : (x * b + c1) * b = (x * b + c1) % y * b + y * ((x * b + c1) / y * b) := by
      have : ((x * b + c1) % y + y * ((x * b + c1) / y)) * b = (x * b + c1) % y * b + y * ((x * b + c1) / y * b) := by rw [Nat.add_mul, Nat.mul_assoc]
      rw [← this, h1]
    rw [Nat.add_mul, Nat.mul_assoc] at h2
    omega
  rw [e, Nat.add_mul_div_left _ _ hy, Nat.add_mul_mod_self_left]
  exact ⟨Nat.add_comm _ _, rfl⟩
theorem scaled {u y s : Nat} (hs : 0 < s) : (u * s) / (y * s) = u / y ∧ (u * s) % (y * s) = u % y * s :=
  ⟨Nat.mul_div_mul_right _ _ hs, Nat.mul_mod_mul_right _ _ _⟩
end Go.AM.Div


namespace Go.AM
open Go.Proofs
set_option linter.unusedVariables false
set_option linter.unusedSimpArgs false
set_option linter.constructorNameAsVariable false
set_option maxRecDepth 20000
section
variable {β : Type} {P : Program} {T : Tab} {D : DTab} {N : Nat}
theorem dec_u (a b : Nat) : decide ((a : Int) ≤ (b : Int)) = decide (a ≤ b) := by apply decide_eq_decide.2; omega
theorem dec_ul (a b : Nat) : decide ((a : Int) < (b : Int)) = decide (a < b) := by apply decide_eq_decide.2; omega
theorem b8_step {xn : AV → AV → AV → AV → AV → AV → AV → AV → AV → Hp → Option β} {x0 : AV → AV → AV → AV → AV → AV → AV → AV → Hp → Option β} {v2 v8 v11 v14 : AV} {h : Hp} {q r y1 y0 c : Nat}
    (hq : q < 17179869184) (hr : r < 4294967296) (hy1 : y1 < 4294967296) (hy0 : y0 < 4294967296) (hc : c < 4294967296) (h0 : 4294967296 ≤ q ∨ 4294967296 * r + c < q * y0 → 0 < q) :
    f_bits_Div64_b8 P T D N xn x0 v2 v8 (U y1) (U y0) v11 (U c) v14 (U q) (U r) h = if 4294967296 ≤ q ∨ 4294967296 * r + c < q * y0 then (if 4294967296 ≤ r + y1 then x0 v2 v8 (U y1) (U y0) v11 (U c) v14 (U (q - 1)) h else xn v2 v8 (U y1) (U y0) v11 (U c) v14 (U (q - 1)) (U (r + y1)) h)
      else x0 v2 v8 (U y1) (U y0) v11 (U c) v14 (U q) h := by
  have m1 : ∀ kk : AV → Option β, arithK .mul (.s (.int .u64 4294967296)) (U r) kk = kk (U (4294967296 * r)) := fun kk => u_mul 4294967296 r (by omega) kk
  have a1 : ∀ kk : AV → Option β, arithK .add (U (4294967296 * r)) (U c) kk = kk (U (4294967296 * r + c)) := fun kk => u_add _ _ (by omega) kk
  have a2 : ∀ kk : AV → Option β, arithK .add (U r) (U y1) kk = kk (U (r + y1)) := fun kk => u_add _ _ (by omega) kk
  have g1 : ∀ (a b : Nat) (kk : AV → Option β), arithK .geq (U a) (.s (.int .u64 (b : Int))) kk = kk (.s (.bool (decide (b ≤ a)))) := fun a b kk => by rw [arithK_geq, dec_u]
  have g2 : ∀ (a : Nat) (kk : AV → Option β), arithK .geq (U a) (.s (.int .u64 4294967296)) kk = kk (.s (.bool (decide (4294967296 ≤ a)))) := fun a kk => g1 a 4294967296 kk
  have tail : 0 < q → (arithK .sub (U q) (.s (.int .u64 1)) fun x54 => arithK .add (U r) (U y1) fun x55 => arithK .geq x55 (.s (.int .u64 4294967296)) fun x56 => condK x56 (x0 v2 v8 (U y1) (U y0) v11 (U c) v14 x54 h) (xn v2 v8 (U y1) (U y0) v11 (U c) v14 x54 x55 h)) =
      if 4294967296 ≤ r + y1 then x0 v2 v8 (U y1) (U y0) v11 (U c) v14 (U (q - 1)) h else xn v2 v8 (U y1) (U y0) v11 (U c) v14 (U (q - 1)) (U (r + y1)) h := by
    intro h0
    have s1 : ∀ kk : AV → Option β, arithK .sub (U q) (.s (.int .u64 1)) kk = kk (U (q - 1)) := fun kk => u_sub q 1 h0 (by omega) kk
    rw [s1, a2, g2, condK_bool]
    simp
  unfold f_bits_Div64_b8
  rw [g2]
  by_cases hb : 4294967296 ≤ q
  · rw [decide_eq_true hb, grpK_ft, condK_bool, if_pos rfl, if_pos (.inl hb), tail (by omega)]
  · have hp : q * y0 < 18446744073709551616 := by
      have : q * y0 ≤ 4294967295 * 4294967295 := Nat.mul_le_mul (by omega) (by omega)
      omega
    have m2 : ∀ kk : AV → Option β, arithK .mul (U q) (U y0) kk = kk (U (q * y0)) := fun kk => u_mul _ _ hp kk
    rw [decide_eq_false hb, grpK_ff, m2, m1, a1, arithK_gtr, dec_ul]
    dsimp only
    rw [condK_bool]
    by_cases hl : 4294967296 * r + c < q * y0
    · rw [decide_eq_true hl, if_pos rfl, if_pos (.inr hl), tail (h0 (.inr hl))]
    · rw [decide_eq_false hl, if_neg (by simp), if_neg (by omega)]
theorem b6_step {xn : AV → AV → AV → AV → AV → AV → AV → AV → AV → Hp → Option β} {x2 : AV → AV → AV → AV → AV → AV → Hp → Option β} {v2 v8 v15 v17 : AV} {h : Hp} {q r y1 y0 c : Nat}
    (hq : q < 17179869184) (hr : r < 4294967296) (hy1 : y1 < 4294967296) (hy0 : y0 < 4294967296) (hc : c < 4294967296) (h0 : 4294967296 ≤ q ∨ 4294967296 * r + c < q * y0 → 0 < q) :
    f_bits_Div64_b6 P T D N xn x2 v2 v8 (U y1) (U y0) (U c) v15 (U r) v17 (U q) h = if 4294967296 ≤ q ∨ 4294967296 * r + c < q * y0 then (if 4294967296 ≤ r + y1 then x2 v2 v8 (U c) v15 v17 (U (q - 1)) h else xn v2 v8 (U y1) (U y0) (U c) v15 (U (r + y1)) v17 (U (q - 1)) h)
      else x2 v2 v8 (U c) v15 v17 (U q) h := by
  have m1 : ∀ kk : AV → Option β, arithK .mul (.s (.int .u64 4294967296)) (U r) kk = kk (U (4294967296 * r)) := fun kk => u_mul 4294967296 r (by omega) kk
  have a1 : ∀ kk : AV → Option β, arithK .add (U (4294967296 * r)) (U c) kk = kk (U (4294967296 * r + c)) := fun kk => u_add _ _ (by omega) kk
  have a2 : ∀ kk : AV → Option β, arithK .add (U r) (U y1) kk = kk (U (r + y1)) := fun kk => u_add _ _ (by omega) kk
  have g1 : ∀ (a b : Nat) (kk : AV → Option β), arithK .geq (U a) (.s (.int .u64 (b : Int))) kk = kk (.s (.bool (decide (b ≤ a)))) := fun a b kk => by rw [arithK_geq, dec_u]
  have g2 : ∀ (a : Nat) (kk : AV → Option β), arithK .geq (U a) (.s (.int .u64 4294967296)) kk = kk (.s (.bool (decide (4294967296 ≤ a)))) := fun a kk => g1 a 4294967296 kk
  have tail : 0 < q → (arithK .sub (U q) (.s (.int .u64 1)) fun x54 => arithK .add (U r) (U y1) fun x55 => arithK .geq x55 (.s (.int .u64 4294967296)) fun x56 => condK x56 (x2 v2 v8 (U c) v15 v17 x54 h) (xn v2 v8 (U y1) (U y0) (U c) v15 x55 v17 x54 h)) =
      if 4294967296 ≤ r + y1 then x2 v2 v8 (U c) v15 v17 (U (q - 1)) h else xn v2 v8 (U y1) (U y0) (U c) v15 (U (r + y1)) v17 (U (q - 1)) h := by
    intro h0
    have s1 : ∀ kk : AV → Option β, arithK .sub (U q) (.s (.int .u64 1)) kk = kk (U (q - 1)) := fun kk => u_sub q 1 h0 (by omega) kk
    rw [s1, a2, g2, condK_bool]
    simp
  unfold f_bits_Div64_b6
  rw [g2]
  by_cases hb : 4294967296 ≤ q
  · rw [decide_eq_true hb, grpK_ft, condK_bool, if_pos rfl, if_pos (.inl hb), tail (by omega)]
  · have hp : q * y0 < 18446744073709551616 := by
      have : q * y0 ≤ 4294967295 * 4294967295 := Nat.mul_le_mul (by omega) (by omega)
      omega
    have m2 : ∀ kk : AV → Option β, arithK .mul (U q) (U y0) kk = kk (U (q * y0)) := fun kk => u_mul _ _ hp kk
    rw [decide_eq_false hb, grpK_ff, m2, m1, a1, arithK_gtr, dec_ul]
    dsimp only
    rw [condK_bool]
    by_cases hl : 4294967296 * r + c < q * y0
    · rw [decide_eq_true hl, if_pos rfl, if_pos (.inr hl), tail (h0 (.inr hl))]
    · rw [decide_eq_false hl, if_neg (by simp), if_neg (by omega)]
theorem digit_step {y1 y0 c x q r : Nat} (hy1 : y1 < 4294967296) (hy1' : 2147483648 ≤ y1) (hy0 : y0 < 4294967296) (hc : c < 4294967296) (hx : x < y1 * 4294967296 + y0) (hxe : x = q * y1 + r) (hQ : (x * 4294967296 + c) / (y1 * 4294967296 + y0) ≤ q) :
    (¬ (4294967296 ≤ q ∨ 4294967296 * r + c < q * y0) → q = (x * 4294967296 + c) / (y1 * 4294967296 + y0)) ∧
    ((4294967296 ≤ q ∨ 4294967296 * r + c < q * y0) → 0 < q ∧ x = (q - 1) * y1 + (r + y1) ∧ (x * 4294967296 + c) / (y1 * 4294967296 + y0) ≤ q - 1 ∧ (4294967296 ≤ r + y1 → q - 1 = (x * 4294967296 + c) / (y1 * 4294967296 + y0))) := by
  have hy : 0 < y1 * 4294967296 + y0 := by omega
  refine ⟨fun hcond => Div.digit_eq (b := 4294967296) hy hxe hQ (by omega), fun hcond => ?_⟩
  have hgt := Div.digit_gt (b := 4294967296) hy hx hc hxe hcond
  have hpos : 0 < q := Nat.lt_of_le_of_lt (Nat.zero_le _) hgt
  have hle1 := Nat.le_sub_one_of_lt hgt
  have hxe' : x = (q - 1) * y1 + (r + y1) := by
    have : q * y1 = (q - 1) * y1 + y1 := by
      conv => lhs; rw [show q = (q - 1) + 1 by omega, Nat.add_mul]
      omega
    omega
  exact ⟨hpos, hxe', hle1, fun hb => Div.digit_big (b := 4294967296) (by omega) hy0 (by omega) hx hxe' hb hle1⟩
theorem L8_val {x0 : AV → AV → AV → AV → AV → AV → AV → AV → Hp → Option β} {v2 v8 v11 v14 : AV} {h : Hp} {y1 y0 c x : Nat} (hy1 : y1 < 4294967296) (hy1' : 2147483648 ≤ y1) (hy0 : y0 < 4294967296) (hc : c < 4294967296) (hx : x < y1 * 4294967296 + y0) :
    ∀ (m q r : Nat), q < 17179869184 → r < 4294967296 → 4294967296 ≤ r + m * 2147483648 → x = q * y1 + r → (x * 4294967296 + c) / (y1 * 4294967296 + y0) ≤ q →
      f_bits_Div64_L8 P T D N x0 (m + 1) v2 v8 (U y1) (U y0) v11 (U c) v14 (U q) (U r) h = x0 v2 v8 (U y1) (U y0) v11 (U c) v14 (U ((x * 4294967296 + c) / (y1 * 4294967296 + y0))) h := by
  intro m
  induction m with
  | zero => intro q r _ hr hm; omega
  | succ m ih =>
    intro q r hq hr hm hxe hQ
    obtain ⟨d1, d2⟩ := digit_step hy1 hy1' hy0 hc hx hxe hQ
    show f_bits_Div64_b8 P T D N (f_bits_Div64_L8 P T D N x0 (m + 1)) x0 v2 v8 (U y1) (U y0) v11 (U c) v14 (U q) (U r) h = _
    rw [b8_step hq hr hy1 hy0 hc (fun hc => (d2 hc).1)]
    split
    · rename_i hcond
      obtain ⟨e1, e2, e3, e4⟩ := d2 hcond
      split
      · rename_i hb
        rw [e4 hb]
      · exact ih (q - 1) (r + y1) (by omega) (by omega) (by omega) e2 e3
    · rename_i hcond
      rw [← d1 hcond]
theorem L6_val {x2 : AV → AV → AV → AV → AV → AV → Hp → Option β} {v2 v8 v15 v17 : AV} {h : Hp} {y1 y0 c x : Nat} (hy1 : y1 < 4294967296) (hy1' : 2147483648 ≤ y1) (hy0 : y0 < 4294967296) (hc : c < 4294967296) (hx : x < y1 * 4294967296 + y0) :
    ∀ (m q r : Nat), q < 17179869184 → r < 4294967296 → 4294967296 ≤ r + m * 2147483648 → x = q * y1 + r → (x * 4294967296 + c) / (y1 * 4294967296 + y0) ≤ q →
      f_bits_Div64_L6 P T D N x2 (m + 1) v2 v8 (U y1) (U y0) (U c) v15 (U r) v17 (U q) h = x2 v2 v8 (U c) v15 v17 (U ((x * 4294967296 + c) / (y1 * 4294967296 + y0))) h := by
  intro m
  induction m with
  | zero => intro q r _ hr hm; omega
  | succ m ih =>
    intro q r hq hr hm hxe hQ
    obtain ⟨d1, d2⟩ := digit_step hy1 hy1' hy0 hc hx hxe hQ
    show f_bits_Div64_b6 P T D N (f_bits_Div64_L6 P T D N x2 (m + 1)) x2 v2 v8 (U y1) (U y0) (U c) v15 (U r) v17 (U q) h = _
    rw [b6_step hq hr hy1 hy0 hc (fun hc => (d2 hc).1)]
    split
    · rename_i hcond
      obtain ⟨e1, e2, e3, e4⟩ := d2 hcond
      split
      · rename_i hb
        rw [e4 hb]
      · exact ih (q - 1) (r + y1) (by omega) (by omega) (by omega) e2 e3
    · rename_i hcond
      rw [← d1 hcond]
def tab8 : List UInt8 := ([0, 1] ++ List.replicate 2 2 ++ List.replicate 4 3 ++ List.replicate 8 4 ++ List.replicate 16 5 ++ List.replicate 32 6 ++ List.replicate 64 7 ++ List.replicate 128 8)
theorem tab8_get : ∀ y : Fin 256, 0 < y.val → ∃ l : Fin 9, (ByteArray.mk tab8.toArray)[y.val]? = some (UInt8.ofNat l.val) ∧ 2 ^ (l.val - 1) ≤ y.val ∧ y.val < 2 ^ l.val ∧ 0 < l.val := by decide +kernel
variable {K : AV → Hp → Option β}
theorem len_j3 {h : Hp} {y z : Nat} (hy : 0 < y) (hy' : y < 256) (hz' : z ≤ 56) :
    ∃ l : Nat, f_bits_Len64_j3 Tryz.prog T D N K (U y) (I z) h = K (I ((z + l : Nat) : Int)) h ∧ 2 ^ (l - 1) ≤ y ∧ y < 2 ^ l ∧ 0 < l ∧ l ≤ 8 := by
  obtain ⟨l, h1, h3, h4, h5⟩ := tab8_get ⟨y, hy'⟩ hy
  refine ⟨l.val, ?_, h3, h4, h5, by omega⟩
  unfold f_bits_Len64_j3
  simp only [U]
  rw [convK_int un_115 un_5]
  have hw : IntKind.u8.wrap (y : Int) = (y : Int) := by rw [IntKind.wrap_u8]; omega
  rw [hw]
  have hch : ∀ (k : AV → Option β), chK (.s (.string (ByteArray.mk tab8.toArray))) (.s (.int .u8 (y : Int))) k = k (.s (.int .u8 (l.val : Int))) := by
    intro k
    have h6 : (UInt8.ofNat l.val).toNat = l.val := by
      have := l.isLt
      simp
      omega
    simp only [chK, Int.toNat_natCast, h1, h6]
    rw [if_pos (by omega)]
  refine (hch _).trans ?_
  have hl := l.isLt
  rw [convK_int un_5 un_3, wrap64 (by omega) (by omega), arithK_add, wrap64 (by omega) (by omega)]
  congr 2
theorem up8 (y l s : Nat) (h0 : 0 < y / 2 ^ s) (h1 : 2 ^ (l - 1) ≤ y / 2 ^ s) (h2 : y / 2 ^ s < 2 ^ l) (h3 : 0 < l) : 2 ^ (s + l - 1) ≤ y ∧ y < 2 ^ (s + l) := by
  have hp : 0 < 2 ^ s := Nat.two_pow_pos s
  constructor
  · rw [show s + l - 1 = (l - 1) + s by omega, Nat.pow_add]
    exact (Nat.le_div_iff_mul_le hp).1 h1
  · rw [Nat.add_comm, Nat.pow_add]
    exact (Nat.div_lt_iff_lt_mul hp).1 h2
theorem len_j2 {h : Hp} {y z : Nat} (hy : 0 < y) (hy' : y < 65536) (hz : z ≤ 48) :
    ∃ l : Nat, f_bits_Len64_j2 Tryz.prog T D N K (U y) (I z) h = K (I ((z + l : Nat) : Int)) h ∧ 2 ^ (l - 1) ≤ y ∧ y < 2 ^ l ∧ 0 < l ∧ l ≤ 16 := by
  unfold f_bits_Len64_j2
  rw [arithK_geq, condK_bool]
  by_cases hb : 256 ≤ y
  · have hd : decide ((256 : Int) ≤ ((y : Nat) : Int)) = true := decide_eq_true (by omega)
    have hs : ∀ k : AV → Option β, reckK Tryz.prog .shr 115 (U y) (.s (.int .u64 8)) k = k (U (y / 2 ^ 8)) := fun k => reck_shr y 8 (by omega) k
    rw [hd, if_pos rfl, hs, arithK_add, wrap64 (by omega) (by omega)]
    obtain ⟨l, g1, g2, g3, g4, g5⟩ := len_j3 (T := T) (D := D) (N := N) (K := K) (h := h) (y := y / 2 ^ 8) (z := z + 8) (by omega) (by omega) (by omega)
    obtain ⟨u1, u2⟩ := up8 y l 8 (by omega) g2 g3 g4
    exact ⟨8 + l, by rw [show z + (8 + l) = z + 8 + l by omega, ← g1]; congr 4, u1, u2, by omega, by omega⟩
  · have hd : decide ((256 : Int) ≤ ((y : Nat) : Int)) = false := decide_eq_false (by omega)
    rw [hd, if_neg (by simp)]
    obtain ⟨l, g1, g2, g3, g4, g5⟩ := len_j3 (T := T) (D := D) (N := N) (K := K) (h := h) (y := y) (z := z) hy (by omega) (by omega)
    exact ⟨l, g1, g2, g3, g4, by omega⟩
theorem len_j1 {h : Hp} {y z : Nat} (hy : 0 < y) (hy' : y < 4294967296) (hz : z ≤ 32) :
    ∃ l : Nat, f_bits_Len64_j1 Tryz.prog T D N K (U y) (I z) h = K (I ((z + l : Nat) : Int)) h ∧ 2 ^ (l - 1) ≤ y ∧ y < 2 ^ l ∧ 0 < l ∧ l ≤ 32 := by
  unfold f_bits_Len64_j1
  rw [arithK_geq, condK_bool]
  by_cases hb : 65536 ≤ y
  · have hd : decide ((65536 : Int) ≤ ((y : Nat) : Int)) = true := decide_eq_true (by omega)
    have hs : ∀ k : AV → Option β, reckK Tryz.prog .shr 115 (U y) (.s (.int .u64 16)) k = k (U (y / 2 ^ 16)) := fun k => reck_shr y 16 (by omega) k
    rw [hd, if_pos rfl, hs, arithK_add, wrap64 (by omega) (by omega)]
    obtain ⟨l, g1, g2, g3, g4, g5⟩ := len_j2 (T := T) (D := D) (N := N) (K := K) (h := h) (y := y / 2 ^ 16) (z := z + 16) (by omega) (by omega) (by omega)
    obtain ⟨u1, u2⟩ := up8 y l 16 (by omega) g2 g3 g4
    exact ⟨16 + l, by rw [show z + (16 + l) = z + 16 + l by omega, ← g1]; congr 4, u1, u2, by omega, by omega⟩
  · have hd : decide ((65536 : Int) ≤ ((y : Nat) : Int)) = false := decide_eq_false (by omega)
    rw [hd, if_neg (by simp)]
    obtain ⟨l, g1, g2, g3, g4, g5⟩ := len_j2 (T := T) (D := D) (N := N) (K := K) (h := h) (y := y) (z := z) hy (by omega) (by omega)
    exact ⟨l, g1, g2, g3, g4, by omega⟩
theorem len_run {y : Nat} (hy : 0 < y) (hy' : y < 18446744073709551616) (h : Hp) : ∃ l : Nat, f_bits_Len64 Tryz.prog T D N K (U y) h = K (I l) h ∧ 2 ^ (l - 1) ≤ y ∧ y < 2 ^ l ∧ 0 < l ∧ l ≤ 64 := by
  unfold f_bits_Len64
  rw [arithK_geq, condK_bool]
  by_cases hb : 4294967296 ≤ y
  · have hd : decide ((4294967296 : Int) ≤ ((y : Nat) : Int)) = true := decide_eq_true (by omega)
    rw [hd, if_pos rfl, reck_shr32]
    obtain ⟨l, g1, g2, g3, g4, g5⟩ := len_j1 (T := T) (D := D) (N := N) (K := K) (h := h) (y := y / 4294967296) (z := 32) (by omega) (by omega) (by omega)
    obtain ⟨u1, u2⟩ := up8 y l 32 (by omega) g2 g3 g4
    exact ⟨32 + l, g1, u1, u2, by omega, by omega⟩
  · have hd : decide ((4294967296 : Int) ≤ ((y : Nat) : Int)) = false := decide_eq_false (by omega)
    rw [hd, if_neg (by simp)]
    obtain ⟨l, g1, g2, g3, g4, g5⟩ := len_j1 (T := T) (D := D) (N := N) (K := K) (h := h) (y := y) (z := 0) hy (by omega) (by omega)
    rw [Nat.zero_add] at g1
    exact ⟨l, g1, g2, g3, g4, by omega⟩
theorem F_bits_LeadingZeros64_val {y : Nat} (hy : 0 < y) (hy' : y < 18446744073709551616) (h : Hp) : ∃ s : Nat, F_bits_LeadingZeros64 [U y] h = some (I s, h) ∧ s ≤ 63 ∧ 9223372036854775808 ≤ y * 2 ^ s ∧ y * 2 ^ s < 18446744073709551616 := by
  obtain ⟨l, g1, g2, g3, g4, g5⟩ := len_run (T := t_bits_Len64) (D := d_bits_Len64) (N := NN) (K := fun v g => cvt false g v) hy hy' []
  have e59 : ∀ h, F_bits_Len64 [U y] h = some (I l, h) := F_bits_Len64_run rfl g1
  refine ⟨64 - l, F_bits_LeadingZeros64_run (v := I ((64 - l : Nat) : Int)) rfl ?_ h, by omega, ?_, ?_⟩
  · simp only [f_bits_LeadingZeros64, t_bits_LeadingZeros64_119, callK_F, e59, arithK_sub]
    rw [wrap64 (by omega) (by omega)]
    show some (I _) = some (I _)
    congr 3
    omega
  · have : 2 ^ (l - 1) * 2 ^ (64 - l) ≤ y * 2 ^ (64 - l) := Nat.mul_le_mul_right _ g2
    rw [← Nat.pow_add, show l - 1 + (64 - l) = 63 by omega] at this
    exact this
  · have : y * 2 ^ (64 - l) < 2 ^ l * 2 ^ (64 - l) := Nat.mul_lt_mul_of_pos_right g3 (Nat.two_pow_pos _)
    rw [← Nat.pow_add, show l + (64 - l) = 64 by omega] at this
    exact this
theorem div_j4 {h : Hp} {q1 q0 u c0 y s : Nat} (hq1 : q1 < 4294967296) (hq0 : q0 = (u * 4294967296 + c0) / y) (hq0' : q0 < 4294967296)
    (hy : 0 < y) (hy' : y < 18446744073709551616) (hs : s ≤ 64) : f_bits_Div64_j4 Tryz.prog T D N K (U y) (U s) (U c0) (U q1) (U u) (U q0) h = K (.tup [U (q1 * 4294967296 + q0), U ((u * 4294967296 + c0) % y / 2 ^ s)]) h := by
  have m1 : ∀ k : AV → Option β, arithK .mul (U q1) (.s (.int .u64 4294967296)) k = k (U (q1 * 4294967296)) := fun k => u_mul q1 4294967296 (by omega) k
  have a1 : ∀ k : AV → Option β, arithK .add (U (q1 * 4294967296)) (U q0) k = k (U (q1 * 4294967296 + q0)) := fun k => u_add _ _ (by omega) k
  have m2 : ∀ k : AV → Option β, arithK .mul (U u) (.s (.int .u64 4294967296)) k = k (U (u * 4294967296 % 18446744073709551616)) := fun k => u_mulM u 4294967296 k
  have hd := Nat.div_add_mod (u * 4294967296 + c0) y
  rw [← hq0] at hd
  have hr := Nat.mod_lt (u * 4294967296 + c0) hy
  generalize hX : (u * 4294967296 + c0) % y = R at hd hr ⊢
  have a2 : ∀ k : AV → Option β, arithK .add (U (u * 4294967296 % 18446744073709551616)) (U c0) k = k (U ((u * 4294967296 + c0) % 18446744073709551616)) := fun k => u_addM _ _ _ (by omega) (by omega) k
  have m3 : ∀ k : AV → Option β, arithK .mul (U q0) (U y) k = k (U (q0 * y % 18446744073709551616)) := fun k => u_mulM q0 y k
  rw [Nat.mul_comm y q0] at hd
  have s1 : ∀ k : AV → Option β, arithK .sub (U ((u * 4294967296 + c0) % 18446744073709551616)) (U (q0 * y % 18446744073709551616)) k = k (U R) := fun k => u_subM _ _ _ (by omega) (by omega) k
  unfold f_bits_Div64_j4
  rw [m1, a1, m2, a2, m3, s1, reck_shr _ _ hs]
theorem div_j3 {h : Hp} {q1 x y1 y0 c1 c0 y s : Nat} (hN : ∃ m, N = m + 3) (hye : y = y1 * 4294967296 + y0) (hy1 : y1 < 4294967296) (hy1' : 2147483648 ≤ y1) (hy0 : y0 < 4294967296) (hc1 : c1 < 4294967296) (hc0 : c0 < 4294967296) (hx : x < y) (hq : q1 = (x * 4294967296 + c1) / y) (hs : s ≤ 64) :
    f_bits_Div64_j3 Tryz.prog T D N K (U y) (U s) (U y1) (U y0) (U x) (U c1) (U c0) (U q1) h = K (.tup [U ((x * (4294967296 * 4294967296) + c1 * 4294967296 + c0) / y), U ((x * (4294967296 * 4294967296) + c1 * 4294967296 + c0) % y / 2 ^ s)]) h := by
  have hyp : 0 < y := by omega
  have hyl : y < 18446744073709551616 := by omega
  have hq1 : q1 < 4294967296 := by rw [hq]; exact Div.lt_base hc1 hx
  have m2 : ∀ k : AV → Option β, arithK .mul (U x) (.s (.int .u64 4294967296)) k = k (U (x * 4294967296 % 18446744073709551616)) := fun k => u_mulM x 4294967296 k
  have hd := Nat.div_add_mod (x * 4294967296 + c1) y
  rw [← hq] at hd
  have hr := Nat.mod_lt (x * 4294967296 + c1) hyp
  have two := Div.two_digits (b := 4294967296) (c1 := c1) (c0 := c0) (by omega) hc1 hc0 hyp hx
  rw [← hq] at two
  obtain ⟨w, hX⟩ : ∃ w, w = (x * 4294967296 + c1) % y := ⟨_, rfl⟩
  rw [← hX] at hd hr two
  have a2 : ∀ k : AV → Option β, arithK .add (U (x * 4294967296 % 18446744073709551616)) (U c1) k = k (U ((x * 4294967296 + c1) % 18446744073709551616)) := fun k => u_addM _ _ _ (by omega) (by omega) k
  have m3 : ∀ k : AV → Option β, arithK .mul (U q1) (U y) k = k (U (q1 * y % 18446744073709551616)) := fun k => u_mulM q1 y k
  rw [Nat.mul_comm y q1] at hd
  have s1 : ∀ k : AV → Option β, arithK .sub (U ((x * 4294967296 + c1) % 18446744073709551616)) (U (q1 * y % 18446744073709551616)) k = k (U w) := fun k => u_subM _ _ _ (by omega) (by omega) k
  have hdm := Nat.div_add_mod w y1
  have hrm := Nat.mod_lt w (show 0 < y1 by omega)
  have hqle : w / y1 < 17179869184 := by
    rw [Nat.div_lt_iff_lt_mul (by omega)]
    omega
  have hsl : (w * 4294967296 + c0) / (y1 * 4294967296 + y0) ≤ w / y1 := Div.start_le (by omega) (by omega) hc0
  generalize hQ : w / y1 = q0 at hdm hqle hsl
  generalize hR : w % y1 = r at hdm hrm
  rw [Nat.mul_comm y1 q0] at hdm
  have m4 : ∀ k : AV → Option β, arithK .mul (U q0) (U y1) k = k (U (q0 * y1)) := fun k => u_mul _ _ (by omega) k
  have s2 : ∀ k : AV → Option β, arithK .sub (U w) (U (q0 * y1)) k = k (U r) := fun k => by
    rw [u_sub _ _ (by omega) (by omega)]; congr 3; omega
  unfold f_bits_Div64_j3
  rw [m2, a2, m3, s1, reck_quo _ _ (by omega) (by omega), hQ, m4, s2]
  obtain ⟨m, rfl⟩ := hN
  rw [L6_val (x := w) hy1 hy1' hy0 hc0 (by omega) (m + 2) q0 r hqle (by omega) (by omega) (by omega) hsl]
  have hq0b : (w * 4294967296 + c0) / y < 4294967296 := Div.lt_base hc0 hr
  rw [← hye]
  have g := div_j4 (T := T) (D := D) (N := m + 3) (K := K) (h := h) (q1 := q1) (q0 := (w * 4294967296 + c0) / y) (u := w) (c0 := c0) (y := y) (s := s) hq1 rfl hq0b hyp hyl hs
  rw [← two.1, ← two.2]
  exact g
theorem eqK_u (a b : Nat) (h : Hp) (ty : TypeId) (k : Go.AM.K β) : eqK P false ty (U a) (U b) h k = k (.s (.bool (decide (a = b)))) := by
  rw [eqK_int]
  congr 3
  simp
  by_cases hab : a = b
  · subst hab; simp
  · have : ¬ ((a : Int) = (b : Int)) := by omega
    simp [hab, this]
theorem lo_split (lo s : Nat) (hs : s ≤ 64) (hlo : lo < 18446744073709551616) : lo / 2 ^ (64 - s) < 2 ^ s ∧ lo * 2 ^ s = lo / 2 ^ (64 - s) * 18446744073709551616 + lo * 2 ^ s % 18446744073709551616 := by
  have e64 : (18446744073709551616 : Nat) = 2 ^ (64 - s) * 2 ^ s := by rw [← Nat.pow_add, show 64 - s + s = 64 by omega]
  constructor
  · rw [Nat.div_lt_iff_lt_mul (Nat.two_pow_pos _), Nat.mul_comm, ← e64]; exact hlo
  · have h1 : lo * 2 ^ s / 18446744073709551616 = lo / 2 ^ (64 - s) := by
      rw [e64, Nat.mul_div_mul_right _ _ (Nat.two_pow_pos s)]
    have h2 := Nat.div_add_mod (lo * 2 ^ s) 18446744073709551616
    rw [h1, Nat.mul_comm] at h2
    exact h2.symm
theorem div_j2 {h : Hp} {hi lo y : Nat} (hT : T 123 = some F_bits_LeadingZeros64) (hN : ∃ m, N = m + 3) (hhi : hi < y) (hlo : lo < 18446744073709551616) (hy : y < 18446744073709551616) :
    f_bits_Div64_j2 Tryz.prog T D N K (U hi) (U lo) (U y) h = K (.tup [U ((hi * 18446744073709551616 + lo) / y), U ((hi * 18446744073709551616 + lo) % y)]) h := by
  unfold f_bits_Div64_j2
  have e0 : ∀ k : AV → Option β, eqK Tryz.prog false 115 (U hi) (.s (.int .u64 0)) h k = k (.s (.bool (decide (hi = 0)))) := fun k => eqK_u hi 0 h _ k
  rw [e0, condK_bool]
  by_cases hz : hi = 0
  · subst hz
    rw [decide_eq_true rfl, if_pos rfl, reck_quo _ _ (by omega) hlo, reck_rem _ _ (by omega)]
    simp
  · rw [decide_eq_false hz, if_neg (by simp)]
    obtain ⟨s, g1, g2, g3, g4⟩ := F_bits_LeadingZeros64_val (y := y) (by omega) hy h
    rw [callK_some hT g1]
    simp only [I]
    rw [cv_3_111]
    have hw : IntKind.u64.wrap (s : Int) = (s : Int) := wrapU (by omega) (by omega)
    rw [hw]
    obtain ⟨Y, hY⟩ : ∃ Y, Y = y * 2 ^ s := ⟨_, rfl⟩
    rw [← hY] at g3 g4
    have ySh : ∀ k : AV → Option β, reckK Tryz.prog .shl 115 (U y) (U s) k = k (U Y) := fun k => by
      rw [reck_shl _ _ (by omega), ← hY, Nat.mod_eq_of_lt g4]
    rw [ySh, reck_shr32, reck_mask _ g4]
    have hp : 0 < 2 ^ s := Nat.two_pow_pos s
    obtain ⟨hl1, hl2⟩ := lo_split lo s (by omega) hlo
    obtain ⟨H, hH⟩ : ∃ H, H = hi * 2 ^ s := ⟨_, rfl⟩
    obtain ⟨L, hL⟩ : ∃ L, L = lo / 2 ^ (64 - s) := ⟨_, rfl⟩
    obtain ⟨M, hM⟩ : ∃ M, M = lo * 2 ^ s % 18446744073709551616 := ⟨_, rfl⟩
    rw [← hL] at hl1
    rw [← hL, ← hM] at hl2
    have hMl : M < 18446744073709551616 := by rw [hM]; exact Nat.mod_lt _ (by decide)
    -- the shifted number, and its digits
    have hbig : (H + L) * 18446744073709551616 + M = (hi * 18446744073709551616 + lo) * 2 ^ s := by
      rw [Nat.add_mul, Nat.add_mul, hl2, hH, Nat.mul_right_comm]
      omega
    have hlt : (hi * 18446744073709551616 + lo) * 2 ^ s < y * 18446744073709551616 * 2 ^ s := Nat.mul_lt_mul_of_pos_right (by omega) hp
    have hx : H + L < Y := by
      rw [← hbig, Nat.mul_right_comm, ← hY] at hlt
      omega
    have hHl : H < 18446744073709551616 := by omega
    have hSh : ∀ k : AV → Option β, reckK Tryz.prog .shl 115 (U hi) (U s) k = k (U H) := fun k => by
      rw [reck_shl _ _ (by omega), ← hH, Nat.mod_eq_of_lt hHl]
    have s64 : ∀ k : AV → Option β, arithK .sub (.s (.int .u64 64)) (U s) k = k (U (64 - s)) := fun k => u_sub 64 s (by omega) (by omega) k
    have hor : H ||| L = H + L := by
      rw [hH, Nat.mul_comm]
      exact (Nat.two_pow_add_eq_or_of_lt hl1 hi).symm
    have lSh : ∀ k : AV → Option β, reckK Tryz.prog .shl 115 (U lo) (U s) k = k (U M) := fun k => by rw [reck_shl _ _ (by omega), ← hM]
    rw [hSh, s64, reck_shr _ _ (by omega), ← hL, reck_or _ _ hHl (by omega), hor, lSh, reck_shr32, reck_mask _ hMl]
    obtain ⟨x, hxe⟩ : ∃ x, x = H + L := ⟨_, rfl⟩
    rw [← hxe] at hx hbig ⊢
    obtain ⟨y1, hy1⟩ : ∃ y1, y1 = Y / 4294967296 := ⟨_, rfl⟩
    obtain ⟨y0, hy0⟩ : ∃ y0, y0 = Y % 4294967296 := ⟨_, rfl⟩
    obtain ⟨c1, hc1⟩ : ∃ c1, c1 = M / 4294967296 := ⟨_, rfl⟩
    obtain ⟨c0, hc0⟩ : ∃ c0, c0 = M % 4294967296 := ⟨_, rfl⟩
    rw [← hy1, ← hy0, ← hc1, ← hc0]
    have hye : Y = y1 * 4294967296 + y0 := by omega
    have b1 : y1 < 4294967296 := by omega
    have b2 : 2147483648 ≤ y1 := by omega
    have b3 : y0 < 4294967296 := by omega
    have b4 : c1 < 4294967296 := by omega
    have b5 : c0 < 4294967296 := by omega
    have hdm := Nat.div_add_mod x y1
    have hrm := Nat.mod_lt x (show 0 < y1 by omega)
    have hqle : x / y1 < 17179869184 := by
      rw [Nat.div_lt_iff_lt_mul (by omega)]
      omega
    have hsl : (x * 4294967296 + c1) / (y1 * 4294967296 + y0) ≤ x / y1 := Div.start_le (by omega) (by omega) b4
    obtain ⟨q, hq⟩ : ∃ q, q = x / y1 := ⟨_, rfl⟩
    obtain ⟨r, hr⟩ : ∃ r, r = x % y1 := ⟨_, rfl⟩
    rw [← hq] at hdm hqle hsl
    rw [← hr] at hdm hrm
    rw [Nat.mul_comm y1 q] at hdm
    have m4 : ∀ k : AV → Option β, arithK .mul (U q) (U y1) k = k (U (q * y1)) := fun k => u_mul _ _ (by omega) k
    have s2 : ∀ k : AV → Option β, arithK .sub (U x) (U (q * y1)) k = k (U r) := fun k => by
      rw [u_sub _ _ (by omega) (by omega)]; congr 3; omega
    rw [reck_quo _ _ (by omega) (by omega), ← hq, m4, s2]
    obtain ⟨m, rfl⟩ := hN
    rw [L8_val (x := x) b1 b2 b3 b4 (by omega) (m + 2) q r hqle (by omega) (by omega) (by omega) hsl]
    rw [← hye]
    have g := div_j3 (T := T) (D := D) (N := m + 3) (K := K) (h := h) (q1 := (x * 4294967296 + c1) / Y) (x := x) (y1 := y1) (y0 := y0) (c1 := c1) (c0 := c0) (y := Y) (s := s) ⟨m, rfl⟩
      hye b1 b2 b3 b4 b5 hx rfl (by omega)
    have hdig : x * (4294967296 * 4294967296) + c1 * 4294967296 + c0 = (hi * 18446744073709551616 + lo) * 2 ^ s := by
      have hM2 : M = c1 * 4294967296 + c0 := by omega
      refine Eq.trans ?_ hbig
      rw [hM2, show (4294967296 * 4294967296 : Nat) = 18446744073709551616 from by decide, Nat.add_assoc]
    rw [hdig, hY, (Div.scaled hp).1, (Div.scaled hp).2, Nat.mul_div_cancel _ hp] at g
    rw [← hY] at g
    exact g
theorem NN_3 : ∃ m, NN = m + 3 := ⟨NN - 3, (Nat.sub_add_cancel (show 3 ≤ NN by have := NN_ge; omega)).symm⟩
theorem F_bits_Div64_val {hi lo y : Nat} (hhi : hi < y) (hlo : lo < 18446744073709551616) (hy : y < 18446744073709551616) (h : Hp) :
    F_bits_Div64 [U hi, U lo, U y] h = some (.tup [U ((hi * 18446744073709551616 + lo) / y), U ((hi * 18446744073709551616 + lo) % y)], h) := by
  refine F_bits_Div64_run (v := .tup [U ((hi * 18446744073709551616 + lo) / y), U ((hi * 18446744073709551616 + lo) % y)]) rfl ?_ h
  unfold f_bits_Div64
  have e0 : ∀ k : AV → Option AV, eqK Tryz.prog false 115 (U y) (.s (.int .u64 0)) [] k = k (.s (.bool (decide (y = 0)))) := fun k => eqK_u y 0 [] _ k
  rw [e0, condK_bool, decide_eq_false (by omega), if_neg (by simp)]
  unfold f_bits_Div64_j1
  have e1 : ∀ k : AV → Option AV, arithK .leq (U y) (U hi) k = k (.s (.bool false)) := fun k => by
    rw [arithK_leq, decide_eq_false (by omega)]
  rw [e1, condK_bool, if_neg (by simp)]
  exact div_j2 t_bits_Div64_123 NN_3 hhi hlo hy
theorem F_bits_Mul64_val {x y : Nat} (hx : x < 18446744073709551616) (hy : y < 18446744073709551616) (h : Hp) : F_bits_Mul64 [U x, U y] h = some (.tup [U (x * y / 18446744073709551616), U (x * y % 18446744073709551616)], h) := by
  refine F_bits_Mul64_run (v := .tup [U (x * y / 18446744073709551616), U (x * y % 18446744073709551616)]) rfl ?_ h
  obtain ⟨b1, b2, b3, b4⟩ := Lib.mul64_hi x y hx hy
  have ba := Lib.half_mul_le (a := x / 4294967296) (b := y / 4294967296) (by omega) (by omega)
  have bb := Lib.half_mul_le (a := x / 4294967296) (b := y % 4294967296) (by omega) (by omega)
  have bc := Lib.half_mul_le (a := x % 4294967296) (b := y / 4294967296) (by omega) (by omega)
  unfold f_bits_Mul64
  rw [reck_mask _ hx, reck_shr32, reck_mask _ hy, reck_shr32, u_mul _ _ b1, u_mul _ _ (by omega), reck_shr32, u_add _ _ b2, reck_mask _ b2, reck_shr32, u_mul _ _ (by omega), u_add _ _ b3, u_mul _ _ (by omega), u_add _ _ (by omega), reck_shr32, u_add _ _ (by omega), u_mulM]
  show some (AV.tup _) = _
  rw [b4]
end
end Go.AM


namespace Go.AM
open Go.Proofs
set_option linter.unusedVariables false
set_option linter.unusedSimpArgs false
set_option linter.constructorNameAsVariable false
set_option maxRecDepth 20000
section
variable {β : Type} {P : Program} {T : Tab} {D : DTab} {N : Nat} {K : AV → Hp → Option β}
abbrev encI (n : Int) : List AV := [I n]
theorem IndexFunc_int_L2 {x0 : Hp → Option β} {xr : AV → Hp → Option β} {l : List Int} {b : Bool} {fv : AV} {h : Hp} {p : Int → Bool} (hl : l.length < 4611686018427387904) (hp : ∀ x ∈ l, ∀ k : AV → Hp → Option β, callVK T fv [I x] h k = k (B (p x)) h) :
    ∀ (n i : Nat), i ≤ l.length → l.length < i + n → f_slices_IndexFunc_int_L2 P T D N x0 xr n (.lst 1 b (l.map encI)) fv (I l.length) (I i) h = match (l.drop i).findIdx? p with | some j => xr (I ((i + j : Nat) : Int)) h | none => x0 h := by
  intro n
  induction n with
  | zero => intro i h1 h2; omega
  | succ n ih =>
    intro i h1 h2
    show f_slices_IndexFunc_int_b2 P T D N (f_slices_IndexFunc_int_L2 P T D N x0 xr n) x0 xr _ _ _ _ h = _
    unfold f_slices_IndexFunc_int_b2
    rcases Nat.lt_or_ge i l.length with hi | hi
    · have hx : l[i]? = some l[i] := List.getElem?_eq_getElem hi
      have hlt : ((i : Int) < (l.length : Int)) := by omega
      have hw : IntKind.i64.wrap ((i : Int) + 1) = ((i + 1 : Nat) : Int) := by rw [wrap64 (by omega) (by omega)]; omega
      have hpx := hp l[i] (List.getElem_mem hi)
      rw [List.drop_eq_getElem_cons hi, List.findIdx?_cons]
      simp [hlt, hx, hw, encI] at hpx ⊢
      rw [hpx]
      cases hc : p l[i] with
      | true => simp
      | false =>
        have h3 := ih (i + 1) hi (by omega)
        rw [show ((i : Int) + 1) = ((i + 1 : Nat) : Int) by omega]
        simp only [Bool.false_eq_true, if_false]
        refine h3.trans ?_
        cases (List.drop (i + 1) l).findIdx? p with
        | none => rfl
        | some j =>
          show xr (I ((i + 1 + j : Nat) : Int)) h = xr (I ((i + (j + 1) : Nat) : Int)) h
          rw [show i + 1 + j = i + (j + 1) by omega]
    · have : i = l.length := by omega
      subst this
      simp
theorem IndexFunc_int_K {l : List Int} {b : Bool} {fv : AV} {h : Hp} {p : Int → Bool} {K : AV → Hp → Option β} (hl : l.length < N) (hN : N < 4611686018427387904) (hp : ∀ x ∈ l, ∀ k : AV → Hp → Option β, callVK T fv [I x] h k = k (B (p x)) h) :
    f_slices_IndexFunc_int P T D N K (.lst 1 b (l.map encI)) fv h = K (I (match l.findIdx? p with | some j => (j : Int) | none => -1)) h := by
  unfold f_slices_IndexFunc_int
  simp only [lenK_lst, List.length_map]
  have := IndexFunc_int_L2 (P := P) (D := D) (N := N) (b := b) (x0 := fun h => f_slices_IndexFunc_int_j1 P T D N K h) (xr := fun a h => K a h) (by omega) hp N 0 (Nat.zero_le _) (by omega)
  simp only [List.drop_zero] at this
  refine this.trans ?_
  cases l.findIdx? p with
  | none => rfl
  | some j => simp
def amt (n : Int) : Bool := decide (0 ≤ n) && decide (n ≤ 128849018880000)
theorem F_proportion_amount_val (a : Int) (h : Hp) : F_proportion_amount [I a] h = some (B (amt a), h) := F_proportion_amount_run rfl (by simp [f_proportion_amount, amt]) h
theorem F_proportion_amounts_1_val (a : Int) (h : Hp) : F_proportion_amounts_1 [I a] h = some (B (!amt a), h) := F_proportion_amounts_1_run rfl (by simp [f_proportion_amounts_1, F_proportion_amount_val]) h
theorem F_ContainsFunc_amounts (l : List Int) (hl : l.length < 1000) (b : Bool) (h : Hp) : F_slices_ContainsFunc_int__proportion_amounts_1 [.lst 1 b (l.map encI), .fn 94 []] h = some (B (l.any fun n => !amt n), h) := by
  have e : ∀ h, F_slices_IndexFunc_int__proportion_amounts_1 [.lst 1 b (l.map encI), .fn 94 []] h = some (I (match l.findIdx? (fun n => !amt n) with | some j => (j : Int) | none => -1), h) :=
    F_slices_IndexFunc_int__proportion_amounts_1_run rfl (by
      simp only [nrm, nrmC]
      rw [IndexFunc_int_K (p := fun n => !amt n) (by have := NN_ge; omega) NN_lt (fun x _ k => by simp [F_proportion_amounts_1_val])]
      rfl)
  refine F_slices_ContainsFunc_int__proportion_amounts_1_run rfl ?_ h
  simp only [nrm, nrmC, f_slices_ContainsFunc_int, t_slices_ContainsFunc_int__proportion_amounts_1_121, callK_F, e]
  have : (l.any fun n => !amt n) = (l.findIdx? (fun n => !amt n)).isSome := by rw [List.findIdx?_isSome]
  rw [this]
  cases l.findIdx? (fun n => !amt n) <;> simp
theorem F_proportion_amounts_val (l : List Int) (hl : l.length < 1000) (b : Bool) (h : Hp) : F_proportion_amounts [.lst 1 b (l.map encI)] h = some (B (l.all amt), h) := by
  refine F_proportion_amounts_run rfl ?_ h
  simp [f_proportion_amounts, F_ContainsFunc_amounts l hl, List.all_eq_not_any_not]
theorem F_proportion_product_val {a b : Nat} (ha : a < 9223372036854775808) (hb : b < 9223372036854775808) (h : Hp) : F_proportion_product [I a, I b] h = some (.agg [U (a * b / 18446744073709551616), U (a * b % 18446744073709551616)], h) := by
  have e54 : ∀ hh, F_bits_Mul64 [U a, U b] hh = some (.tup [U (a * b / 18446744073709551616), U (a * b % 18446744073709551616)], hh) := fun hh => F_bits_Mul64_val (by omega) (by omega) hh
  generalize a * b / 18446744073709551616 = p at *
  generalize a * b % 18446744073709551616 = q at *
  refine F_proportion_product_run rfl ?_ h
  simp [f_proportion_product, wrapU (show (0 : Int) ≤ (a : Int) by omega) (by omega), wrapU (show (0 : Int) ≤ (b : Int) by omega) (by omega), e54, buildK, fillA]
theorem F_proportion_divided_val {a b c : Nat} (ha : a < 9223372036854775808) (hb : b < 9223372036854775808) (hc : c < 9223372036854775808) (hc0 : 0 < c) (h : Hp) :
    F_proportion_divided [I a, I b, I c] h = some (if a * b / c ≤ 128849018880000 then .tup [I ((a * b / c : Nat) : Int), I ((a * b % c : Nat) : Int), B true] else .tup [I 0, I 0, B false], h) := by
  obtain ⟨p, hp⟩ : ∃ p, p = a * b / 18446744073709551616 := ⟨_, rfl⟩
  obtain ⟨q, hq⟩ : ∃ q, q = a * b % 18446744073709551616 := ⟨_, rfl⟩
  have e44 := fun hh => F_proportion_product_val ha hb hh
  rw [← hp, ← hq] at e44
  have hql : q < 18446744073709551616 := by omega
  have hab : p * 18446744073709551616 + q = a * b := by omega
  have wc : IntKind.u64.wrap (c : Int) = (c : Int) := wrapU (by omega) (by omega)
  refine F_proportion_divided_run rfl ?_ h
  by_cases hpc : c ≤ p
  · have hbig : ¬ a * b / c ≤ 128849018880000 := by
      have h1 : 18446744073709551616 ≤ a * b / c := by
        rw [Nat.le_div_iff_mul_le hc0]
        have : 18446744073709551616 * c ≤ p * 18446744073709551616 := by rw [Nat.mul_comm]; exact Nat.mul_le_mul_right _ hpc
        omega
      omega
    have hpc' : (c : Int) ≤ (p : Int) := by omega
    rw [if_neg hbig]
    simp [f_proportion_divided, e44, iaA, wc, hpc, hpc']
  · have e45 := fun hh => F_bits_Div64_val (hi := p) (lo := q) (y := c) (by omega) hql (by omega) hh
    rw [hab] at e45
    obtain ⟨Q, hQ⟩ : ∃ Q, Q = a * b / c := ⟨_, rfl⟩
    obtain ⟨R, hR⟩ : ∃ R, R = a * b % c := ⟨_, rfl⟩
    have hRl : R < c := by rw [hR]; exact Nat.mod_lt _ hc0
    rw [← hQ, ← hR] at e45 ⊢
    have wR : IntKind.i64.wrap (R : Int) = (R : Int) := wrap64 (by omega) (by omega)
    by_cases hq2 : Q ≤ 128849018880000
    · have wQ : IntKind.i64.wrap (Q : Int) = (Q : Int) := wrap64 (by omega) (by omega)
      have h3 : ¬ (128849018880000 : Int) < (Q : Int) := by omega
      simp [f_proportion_divided, e44, iaA, wc, hpc, e45, hq2, h3, wR, wQ]
    · have h3 : (128849018880000 : Int) < (Q : Int) := by omega
      simp [f_proportion_divided, e44, iaA, wc, hpc, e45, hq2, h3]
def propOf (a b c : Int) : Int × Int × Int :=
  if (amt a && amt b && amt c) = false then (0, 0, 2) else if c = 0 then (0, 0, 16) else if a * b / c ≤ 128849018880000 then (a * b / c, a * b % c, 0) else (0, 0, 15)
theorem F_proportion_Of_val (a b c : Int) (h : Hp) : F_proportion_Of [I a, I b, I c] h = some (.tup [I (propOf a b c).1, I (propOf a b c).2.1, I (propOf a b c).2.2], h) := by
  refine F_proportion_Of_run rfl ?_ h
  have e35 : F_proportion_amounts [.sl 1 0 0 3 3 true] [.arr 1 [[I a], [I b], [I c]] true false] = some (B (amt a && amt b && amt c), [.arr 1 [[I a], [I b], [I c]] true false]) := by
    refine closedX_sl1 (es := [a, b, c].map encI) rfl rfl rfl rfl ?_
    have := F_proportion_amounts_val [a, b, c] (by simp) false []
    simp only [List.all_cons, List.all_nil, Bool.and_true, ← Bool.and_assoc] at this
    exact this
  cases hm : (amt a && amt b && amt c) with
  | false => simp [f_proportion_Of, bsE, fillS, e35, hm, propOf]
  | true =>
    simp only [Bool.and_eq_true] at hm
    obtain ⟨⟨m1, m2⟩, m3⟩ := hm
    by_cases hc : c = 0
    · subst hc
      simp [f_proportion_Of, bsE, fillS, e35, m1, m2, m3, propOf]
    · simp only [amt, Bool.and_eq_true, decide_eq_true_eq] at m1 m2 m3
      obtain ⟨x, rfl⟩ := Int.eq_ofNat_of_zero_le m1.1
      obtain ⟨y, rfl⟩ := Int.eq_ofNat_of_zero_le m2.1
      obtain ⟨z, rfl⟩ := Int.eq_ofNat_of_zero_le m3.1
      have e36 := fun hh => F_proportion_divided_val (a := x) (b := y) (c := z) (by omega) (by omega) (by omega) (by omega) hh
      have q1 : ((x : Int) * y / z) = ((x * y / z : Nat) : Int) := by push_cast; rfl
      have q2 : ((x : Int) * y % z) = ((x * y % z : Nat) : Int) := by push_cast; rfl
      unfold propOf
      rw [q1, q2]
      have hz : z ≠ 0 := by omega
      have a1 : amt x = true := by simp [amt]; omega
      have a2 : amt y = true := by simp [amt]; omega
      have a3 : amt z = true := by simp [amt]; omega
      generalize x * y / z = q at *
      generalize x * y % z = r at *
      by_cases hq : q ≤ 128849018880000
      · have hq' : (q : Int) ≤ 128849018880000 := by omega
        rw [if_pos hq] at e36
        simp [f_proportion_Of, bsE, fillS, e35, a1, a2, a3, hc, hz, e36, hq']
      · have hq' : ¬ (q : Int) ≤ 128849018880000 := by omega
        rw [if_neg hq] at e36
        simp [f_proportion_Of, bsE, fillS, e35, a1, a2, a3, hc, hz, e36, hq']
end
end Go.AM


namespace Go.AM
set_option linter.unusedVariables false
set_option linter.unusedSimpArgs false
set_option linter.constructorNameAsVariable false
set_option maxRecDepth 30000
variable {β : Type} {P : Program} {kt : TypeId} {kk : IntKind}
end Go.AM


namespace Go.AM
set_option linter.unusedVariables false
def idOf : AV → Option Nat
  | .sl _ id .. => some id
  | _ => none
@[simp] theorem idOf_sl (sz id off len fr : Nat) (full : Bool) : idOf (.sl sz id off len fr full) = some id := rfl
@[simp] theorem idOf_nilS : idOf nilS = none := rfl
def Gro {α : Type} (sz : Nat) (f : α → List AV) (h : Hp) (v : AV) (l : List α) : Prop := (l = [] ∧ v = nilS) ∨ (l ≠ [] ∧ ∃ k, v = .sl sz k 0 l.length l.length false ∧ h[k]? = some (.arr sz (l.map f) true false))
section
variable {α β : Type} {sz : Nat} {f : α → List AV} {h h' : Hp} {v : AV} {l : List α}
theorem Gro.nil : Gro sz f h nilS [] := .inl ⟨rfl, rfl⟩
theorem Gro.keep (O : Gro sz f h v l) (hk : ∀ k o, idOf v = some k → h[k]? = some o → h'[k]? = some o) : Gro sz f h' v l := by
  rcases O with O | ⟨h1, k, rfl, h2⟩
  · exact .inl O
  · exact .inr ⟨h1, k, rfl, hk k _ rfl h2⟩
theorem Gro.app (O : Gro sz f h v l) (x : List AObj) : Gro sz f (h ++ x) v l := O.keep fun k o _ hk => get_app hk
theorem Gro.lt (O : Gro sz f h v l) {k : Nat} (hk : idOf v = some k) : k < h.length := by
  rcases O with ⟨_, rfl⟩ | ⟨h1, j, rfl, h2⟩
  · simp at hk
  · simp at hk; subst hk; exact (List.getElem?_eq_some_iff.1 h2).1
theorem Gro.len (O : Gro sz f h v l) (k : K β) : lenK v k = k (I l.length) := by
  rcases O with ⟨rfl, rfl⟩ | ⟨h1, j, rfl, h2⟩ <;> simp
theorem Gro.cvts (O : Gro sz f h v l) (hf : ∀ x st, (f x).all (fun c => bif st then isS c else plain c) = true) : ∃ w, (∀ st, Go.AM.cvt st h v = some w) ∧ nrm (.l sz) w = .lst sz l.isEmpty (l.map f) := by
  rcases O with ⟨rfl, rfl⟩ | ⟨h1, k, rfl, h2⟩
  · exact ⟨nilS, fun st => rfl, rfl⟩
  · have he : l.isEmpty = false := by simpa using h1
    refine ⟨.lst sz false (l.map f), fun st => cvt_whole h2 (by simp) (by simp) (okE_map fun x => hf x st), ?_⟩
    rw [he]; rfl
theorem Gro.snoc (β : Type) (O : Gro sz f h v l) {by_ m : Nat} {z : α} {b : Bool} (hm : h[m]? = some (.arr sz [f z] true false)) (hv : idOf v ≠ some m) (hf : ∀ x ∈ z :: l, (f x).length = sz) (hl : (l.length + 1) * by_ ≤ 140737488355328) :
    ∃ v' h', (∀ k : AV → Hp → Option β, effK (appE sz by_ v (.sl sz m 0 1 1 b) h h.length) h k = k v' h') ∧ Gro sz f h' v' (l ++ [z]) ∧ h.length ≤ h'.length ∧ (∀ j o, h[j]? = some o → idOf v ≠ some j → h'[j]? = some o) ∧ (idOf v' = idOf v ∨ idOf v' = some h.length) := by
  have hz : (f z).length = sz := hf z (by simp)
  rcases O with ⟨rfl, rfl⟩ | ⟨h1, k, rfl, h2⟩
  · have hb : by_ ≤ 140737488355328 := by simpa using hl
    refine ⟨.sl sz h.length 0 1 1 false, h ++ [.arr sz [f z] true false], fun k => ?_, .inr ⟨by simp, h.length, rfl, by simp⟩, by simp, fun j o hj _ => get_app hj, .inr rfl⟩
    simp [appE, readSl, hm, hz, hb, effK, ap]
  · have hkl := (List.getElem?_eq_some_iff.1 h2).1
    refine ⟨.sl sz k 0 (l ++ [z]).length (l ++ [z]).length false, h.set k (.arr sz ((l ++ [z]).map f) true false), fun k' => ?_, .inr ⟨by simp, k, rfl, by simp [hkl]⟩, by simp, fun j o hj hn => ?_, .inl rfl⟩
    · simp [appE, readSl, hm, h2, hz, hl, effK, ap]
    · have hkj : k ≠ j := by rintro rfl; exact hn rfl
      rw [List.getElem?_set_ne hkj]; exact hj
end
end Go.AM


namespace Go.AM
set_option linter.unusedVariables false
variable {α β : Type} {sz : Nat} {enc : α → List AV} {h : Hp}
structure Part (enc : α → List AV) (h : Hp) (p : AV × List α) : Prop where
  read : readSl h p.1 = some (p.2.map enc)
  len : lenK p.1 some = some (I p.2.length)
theorem Part.lenK {p : AV × List α} (q : Part enc h p) (k : K β) : Go.AM.lenK p.1 k = k (I p.2.length) := by rw [lenK_nat, q.len]; rfl
theorem Part.app {p : AV × List α} (q : Part enc h p) (g : List AObj) : Part enc (h ++ g) p := ⟨readSl_local q.read fun id _ o ho => get_app ho, q.len⟩
theorem Part.nil : Part enc h (nilS, []) := ⟨rfl, rfl⟩
theorem Part.lst (sz : Nat) (b : Bool) (l : List α) : Part enc h (.lst sz b (l.map enc), l) := ⟨rfl, by simp⟩
theorem Part.sl {sz id n : Nat} {b nl : Bool} {l : List α} (hid : h[id]? = some (.arr sz (l.map enc) true nl)) (hn : l.length = n) : Part enc h (.sl sz id 0 n n b, l) := by
  subst hn
  have ht : (l.map enc).take l.length = l.map enc := List.take_of_length_le (by simp)
  exact ⟨by simp [readSl, hid, ht], by simp⟩
def flat (ps : List (AV × List α)) : List α := ps.flatMap (·.2)
theorem sliceK_take {n : Nat} {b : Bool} {l : List α} (hn : n ≤ l.length) (k : K β) : sliceK sz (.lst sz b (l.map enc)) none (some (I n)) none k = k (.lst sz b ((l.take n).map enc)) := by
  simp only [sliceK, boundOr, List.length_map, Int.toNat_natCast]
  rw [if_pos (by omega)]
  simp only []
  rw [if_pos ⟨trivial, by omega, hn, by omega, by simp⟩]
  rw [List.drop_zero, Nat.sub_zero, List.map_take]
end Go.AM
namespace Go.AM
def notBehind {α : Type} (bef : α → α → Bool) : Option α → α → Bool
  | some q, p => !bef q p
  | none, _ => false
@[simp] theorem notBehind_some {α : Type} (bef : α → α → Bool) (q p : α) : notBehind bef (some q) p = !bef q p := rfl
@[simp] theorem notBehind_none {α : Type} (bef : α → α → Bool) (p : α) : notBehind bef none p = false := rfl
def checkG {α : Type} (bad : α → Bool) (bef : α → α → Bool) : Option α → List α → Int → Option (Int × Int)
  | _, [], _ => none
  | prev, p :: l, i => if bad p then some (i, 2) else if notBehind bef prev p then some (i, 5) else checkG bad bef (some p) l (i + 1)
theorem checkG_ne {α : Type} {bad : α → Bool} {bef : α → α → Bool} : ∀ (l : List α) (prev : Option α) (i : Int) (x : Int × Int), checkG bad bef prev l i = some x → x.2 ≠ 0
  | [], prev, i, x, h => by simp [checkG] at h
  | p :: l, prev, i, x, h => by
    simp only [checkG] at h
    split at h
    · simp at h; subst h; simp
    · split at h
      · simp at h; subst h; simp
      · exact checkG_ne l _ _ x h
theorem checkG_none {α : Type} {bad : α → Bool} {bef : α → α → Bool} (tr : ∀ a b c, bef a b = true → bef b c = true → bef a c = true) : ∀ (l : List α) (prev : Option α) (i : Int), checkG bad bef prev l i = none → (∀ p ∈ l, bad p = false) ∧ l.Pairwise (fun a b => bef a b = true) ∧ ∀ q, prev = some q → ∀ p ∈ l, bef q p = true
  | [], prev, i, h => by simp
  | p :: l, prev, i, h => by
    simp only [checkG] at h
    split at h
    · simp at h
    · rename_i hb
      split at h
      · simp at h
      · rename_i ho
        obtain ⟨h1, h2, h3⟩ := checkG_none tr l (some p) (i + 1) h
        have h4 := h3 p rfl
        have hq : ∀ q, prev = some q → bef q p = true := by
          rintro q rfl
          simpa using ho
        refine ⟨by simpa using ⟨by simpa using hb, h1⟩, by simpa using ⟨h4, h2⟩, ?_⟩
        rintro q hq' r hr
        rcases List.mem_cons.1 hr with rfl | hr
        · exact hq q hq'
        · exact tr q p r (hq q hq') (h4 r hr)
theorem tw_get {α : Type} {R : α → α → Prop} {p : α → Bool} (hp : ∀ a b, R a b → p b = true → p a = true) : ∀ {l : List α}, l.Pairwise R → ∀ (j : Nat) (hj : j < l.length), p l[j] = decide (j < (l.takeWhile p).length)
  | [], _, j, hj => by simp at hj
  | a :: l, hl, j, hj => by
    obtain ⟨h1, h2⟩ := List.pairwise_cons.1 hl
    by_cases ha : p a = true
    · rw [List.takeWhile_cons_of_pos ha]
      cases j with
      | zero => simp [ha]
      | succ j => simp [tw_get hp h2 j (by simpa using hj)]
    · rw [List.takeWhile_cons_of_neg ha]
      have : p (a :: l)[j] = false := by
        cases j with
        | zero => simpa using ha
        | succ j =>
          have hm : (a :: l)[j + 1] ∈ l := by simp
          cases hq : p (a :: l)[j + 1] with
          | false => rfl
          | true => exact absurd (hp a _ (h1 _ hm) hq) ha
      simpa using this
theorem tw_le {α : Type} (p : α → Bool) (l : List α) : (l.takeWhile p).length ≤ l.length := by
  have := List.takeWhile_sublist p (l := l)
  exact this.length_le
end Go.AM


namespace Go.AM
set_option linter.unusedVariables false
set_option linter.unusedSimpArgs false
variable {β : Type} {P : Program} {ty : TypeId}
theorem reck_remZ (a b : Int) (ha : 0 ≤ a) (hb : 0 < b) (k : K β) : reckK P .rem ty (I a) (I b) k = k (I (a % b)) := by
  obtain ⟨x, rfl⟩ := Int.eq_ofNat_of_zero_le ha
  obtain ⟨y, rfl⟩ := Int.eq_ofNat_of_zero_le (Int.le_of_lt hb)
  rw [reck_remI x y (by omega)]; rfl
theorem reck_quoZ (a b : Int) (ha : 0 ≤ a) (ha2 : a < 9223372036854775808) (hb : 0 < b) (k : K β) : reckK P .quo ty (I a) (I b) k = k (I (a / b)) := by
  obtain ⟨x, rfl⟩ := Int.eq_ofNat_of_zero_le ha
  obtain ⟨y, rfl⟩ := Int.eq_ofNat_of_zero_le (Int.le_of_lt hb)
  rw [reck_quoI x y (by omega) (by omega)]; rfl
namespace Cal
def leapB (y : Int) : Bool := y % 4 == 0 && (y % 100 != 0 || y % 400 == 0)
def len (y m : Int) : Int := if m = 2 then (if leapB y then 29 else 28) else if m = 4 ∨ m = 6 ∨ m = 9 ∨ m = 11 then 30 else 31
def leaps (n : Int) : Int := n / 4 - n / 100 + n / 400
def bef (y : Int) : Int := 365 * (y - 1900) + leaps (y - 1) - 460
def yl (y : Int) : Int := if leapB y then 366 else 365
def pre (y m : Int) : Int := (if m ≤ 1 then 0 else if m = 2 then 31 else if m = 3 then 59 else if m = 4 then 90 else if m = 5 then 120 else if m = 6 then 151 else if m = 7 then 181 else if m = 8 then 212 else if m = 9 then 243 else if m = 10 then 273 else if m = 11 then 304 else if m = 12 then 334 else 365) + (if 3 ≤ m ∧ leapB y = true then 1 else 0)
def dn (y m : Int) : Int := bef y + pre y m
theorem leap_iff (y : Int) : leapB y = true ↔ y % 4 = 0 ∧ (y % 100 ≠ 0 ∨ y % 400 = 0) := by
  simp [leapB]
theorem bef_succ (y : Int) : bef (y + 1) = bef y + yl y := by
  unfold bef leaps yl
  by_cases h : leapB y = true
  · rw [if_pos h]; rw [leap_iff] at h; omega
  · rw [if_neg h]; rw [leap_iff] at h; omega
theorem yl_pos (y : Int) : 365 ≤ yl y ∧ yl y ≤ 366 := by unfold yl; split <;> omega
theorem bef_0 : bef 1900 = 0 := by decide
theorem bef_le (k : Int) (h : 0 ≤ k) : bef (1900 + k) ≤ 366 * k ∧ 365 * k ≤ bef (1900 + k) := by unfold bef leaps; omega
theorem bef_mono {y z : Int} (h : y ≤ z) : bef y ≤ bef z := by unfold bef leaps; omega
theorem len_pos (y m : Int) : 28 ≤ len y m ∧ len y m ≤ 31 := by unfold len; split <;> (try split) <;> omega
theorem pre_1 (y : Int) : pre y 1 = 0 := by simp [pre]
theorem months {m : Int} (h1 : 1 ≤ m) (h2 : m ≤ 12) : m = 1 ∨ m = 2 ∨ m = 3 ∨ m = 4 ∨ m = 5 ∨ m = 6 ∨ m = 7 ∨ m = 8 ∨ m = 9 ∨ m = 10 ∨ m = 11 ∨ m = 12 := by omega
theorem pre_succ (y : Int) {m : Int} (h1 : 1 ≤ m) (h2 : m ≤ 12) : pre y (m + 1) = pre y m + len y m := by
  rcases months h1 h2 with rfl | rfl | rfl | rfl | rfl | rfl | rfl | rfl | rfl | rfl | rfl | rfl <;> cases h : leapB y <;> simp [pre, len, h]
theorem pre_13 (y : Int) : pre y 13 = yl y := by
  cases h : leapB y <;> simp [pre, yl, h]
theorem pre_bd (y : Int) {m : Int} (h1 : 1 ≤ m) (h2 : m ≤ 12) : 0 ≤ pre y m ∧ pre y m + len y m ≤ yl y := by
  rcases months h1 h2 with rfl | rfl | rfl | rfl | rfl | rfl | rfl | rfl | rfl | rfl | rfl | rfl <;> cases h : leapB y <;> simp [pre, len, yl, h]
theorem pre_mono (y : Int) {m n : Int} (h1 : 1 ≤ m) (h2 : m < n) (h3 : n ≤ 12) : pre y m + len y m ≤ pre y n := by
  rcases months h1 (by omega) with rfl | rfl | rfl | rfl | rfl | rfl | rfl | rfl | rfl | rfl | rfl | rfl <;>
    rcases months (m := n) (by omega) h3 with rfl | rfl | rfl | rfl | rfl | rfl | rfl | rfl | rfl | rfl | rfl | rfl <;> first | omega | (cases h : leapB y <;> simp [pre, len, h])
structure Is (day y m d : Int) : Prop where
  year : 1900 ≤ y
  month : 1 ≤ m ∧ m ≤ 12
  dy : 1 ≤ d ∧ d ≤ len y m
  at_ : dn y m + (d - 1) = day
theorem Is.lo {day y m d : Int} (h : Is day y m d) : bef y ≤ day ∧ day < bef (y + 1) := by
  have h1 := h.at_; have h2 := pre_bd y h.month.1 h.month.2; have h3 := h.dy; have h4 := bef_succ y
  unfold dn at h1
  omega
theorem Is.unique {day y m d y' m' d' : Int} (h : Is day y m d) (h' : Is day y' m' d') : y = y' ∧ m = m' ∧ d = d' := by
  have a := h.lo; have b := h'.lo
  have e : y = y' := by
    rcases Int.lt_trichotomy y y' with q | q | q
    · have := bef_mono (show y + 1 ≤ y' by omega); omega
    · exact q
    · have := bef_mono (show y' + 1 ≤ y by omega); omega
  subst e
  have h1 := h.at_; have h2 := h'.at_; have h3 := h.dy; have h4 := h'.dy
  unfold dn at h1 h2
  have e : m = m' := by
    rcases Int.lt_trichotomy m m' with q | q | q
    · have := pre_mono y h.month.1 q h'.month.2; omega
    · exact q
    · have := pre_mono y h'.month.1 q h.month.2; omega
  subst e
  exact ⟨rfl, rfl, by omega⟩
def ny (y m : Int) : Int := if m = 12 then y + 1 else y
def nm (m : Int) : Int := if m = 12 then 1 else m + 1
theorem dn_next {y m : Int} (h1 : 1 ≤ m) (h2 : m ≤ 12) : dn (ny y m) (nm m) = dn y m + len y m := by
  unfold dn ny nm
  have := pre_succ y h1 h2
  by_cases h : m = 12
  · subst h
    have e := pre_13 y
    have f := bef_succ y
    simp only [if_pos] at *
    rw [pre_1]; simp at this; omega
  · rw [if_neg h, if_neg h]; omega
theorem nm_bd {m : Int} (h1 : 1 ≤ m) (h2 : m ≤ 12) : 1 ≤ nm m ∧ nm m ≤ 12 := by unfold nm; split <;> omega
theorem exists_ {day : Int} (h : 0 ≤ day) : ∃ y m d, Is day y m d := by
  have yr : ∃ y, 1900 ≤ y ∧ bef y ≤ day ∧ day < bef (y + 1) := by
    have key : ∀ (k : Nat) (y : Int), 1900 ≤ y → bef y ≤ day → day - bef y < k → ∃ y, 1900 ≤ y ∧ bef y ≤ day ∧ day < bef (y + 1) := by
      intro k
      induction k with
      | zero => intro y _ _ _; omega
      | succ k ih =>
        intro y h1 h2 h3
        by_cases h4 : bef (y + 1) ≤ day
        · have := bef_succ y; have := yl_pos y
          exact ih (y + 1) (by omega) h4 (by omega)
        · exact ⟨y, h1, h2, by omega⟩
    exact key (day.toNat + 1) 1900 (by omega) (by rw [bef_0]; exact h) (by rw [bef_0]; omega)
  obtain ⟨y, h1, h2, h3⟩ := yr
  rw [bef_succ, ← pre_13] at h3
  have mo : ∃ m, 1 ≤ m ∧ m ≤ 12 ∧ pre y m ≤ day - bef y ∧ day - bef y < pre y m + len y m := by
    have key : ∀ (k : Nat) (m : Int), 1 ≤ m → m ≤ 12 → (12 - m).toNat < k → pre y m ≤ day - bef y → ∃ m, 1 ≤ m ∧ m ≤ 12 ∧ pre y m ≤ day - bef y ∧ day - bef y < pre y m + len y m := by
      intro k
      induction k with
      | zero => intro m _ _ _; omega
      | succ k ih =>
        intro m h1 h2 h4 h5
        by_cases h6 : day - bef y < pre y m + len y m
        · exact ⟨m, h1, h2, h5, h6⟩
        · rw [← pre_succ y h1 h2] at h6
          have : m ≠ 12 := by rintro rfl; simp at h6; omega
          exact ih (m + 1) (by omega) (by omega) (by omega) (by omega)
    exact key 13 1 (by omega) (by omega) (by omega) (by rw [pre_1]; omega)
  obtain ⟨m, m1, m2, m3, m4⟩ := mo
  exact ⟨y, m, day - bef y - pre y m + 1, h1, ⟨m1, m2⟩, by omega, by unfold dn; omega⟩
open Classical in
noncomputable def monthOf (day : Int) : Int := if h : 0 ≤ day then (exists_ h).choose_spec.choose else 0
theorem Is.month_eq {day y m d : Int} (h : Is day y m d) (h0 : 0 ≤ day) : monthOf day = m := by
  unfold monthOf
  rw [dif_pos h0]
  obtain ⟨d', hd⟩ := (exists_ h0).choose_spec.choose_spec
  exact (hd.unique h).2.1
theorem Is.same {day y m d : Int} (h : Is day y m d) (h0 : 0 ≤ day) {e : Int} (h1 : day ≤ e) (h2 : e < dn (ny y m) (nm m)) : monthOf e = m := by
  rw [dn_next h.month.1 h.month.2] at h2
  have h3 := h.at_; have h4 := h.dy
  exact Is.month_eq (y := y) (d := e - dn y m + 1) ⟨h.year, h.month, by omega, by omega⟩ (by omega)
theorem Is.next_lt {day y m d : Int} (h : Is day y m d) : day < dn (ny y m) (nm m) := by
  rw [dn_next h.month.1 h.month.2]
  have h3 := h.at_; have h4 := h.dy
  omega
theorem Is.year_le {day y m d : Int} (h : Is day y m d) (hd : day ≤ 100000) : y ≤ 2180 := by
  have := h.lo
  by_cases hy : y ≤ 2180
  · exact hy
  · have := bef_mono (show (2181 : Int) ≤ y by omega)
    have e : bef 2181 = 102634 := by decide
    omega
end Cal
end Go.AM


namespace Go.AM
open Go.Proofs
set_option linter.unusedVariables false
set_option linter.unusedSimpArgs false
set_option linter.constructorNameAsVariable false
set_option maxRecDepth 20000
def win (n lo hi : Int) : Bool := decide (lo ≤ n) && decide (n ≤ hi)
section
variable {β : Type} {P : Program} {T : Tab} {D : DTab} {N : Nat} {K : AV → Hp → Option β}
abbrev encD (y m d : Int) : AV := .agg [I y, I m, I d]
theorem F_calendar_is_val (a : Int) (h : Hp) : F_calendar_is [I a] h = some (B (win a 0 100000), h) := F_calendar_is_run rfl (by simp [f_calendar_is, win]) h
theorem F_calendar_leap_val (y : Int) (hy : 0 ≤ y) (h : Hp) : F_calendar_leap [I y] h = some (B (Cal.leapB y), h) := by
  refine F_calendar_leap_run rfl ?_ h
  have r4 := fun k : Go.AM.K AV => reck_remZ (P := Tryz.prog) (ty := 3) y 4 hy (by omega) k
  have r100 := fun k : Go.AM.K AV => reck_remZ (P := Tryz.prog) (ty := 3) y 100 hy (by omega) k
  have r400 := fun k : Go.AM.K AV => reck_remZ (P := Tryz.prog) (ty := 3) y 400 hy (by omega) k
  simp only [f_calendar_leap, r4, eqK_int]
  by_cases h4 : y % 4 = 0
  · simp [r100, r400, h4, Cal.leapB, bne]
  · have : (y % 4 == 0) = false := by simpa using h4
    simp [this, h4, Cal.leapB]
theorem F_calendar_length_val (y m : Int) (hy : 0 ≤ y) (h1 : 1 ≤ m) (h2 : m ≤ 12) (h : Hp) : F_calendar_length [I y, I m] h = some (I (Cal.len y m), h) := by
  refine F_calendar_length_run rfl ?_ h
  have fl := F_calendar_leap_val y hy
  rcases Cal.months h1 h2 with rfl | rfl | rfl | rfl | rfl | rfl | rfl | rfl | rfl | rfl | rfl | rfl
  case inr.inl => cases hl : Cal.leapB y <;> simp [f_calendar_length, buildK, fillA, fl, hl, Cal.len, iaA]
  all_goals simp [f_calendar_length, buildK, fillA, Cal.len, iaA]
theorem G_calendar_length_val (y m : Int) (hy : 0 ≤ y) (h1 : 1 ≤ m) (h2 : m ≤ 12) (h : Hp) (base : Nat) : G_calendar_length [I y, I m] h base = some (I (Cal.len y m), EF []) := (closedXD_val (F_calendar_length_val y m hy h1 h2 h) base).trans (by simp [idss, ids])
theorem F_calendar_before_1_val (n : Int) (h0 : 0 ≤ n) (h1 : n ≤ 100000) (h : Hp) : F_calendar_before_1 [I n] h = some (I (Cal.leaps n), h) := by
  refine F_calendar_before_1_run rfl ?_ h
  have r4 := fun k : Go.AM.K AV => reck_quoZ (P := Tryz.prog) (ty := 3) n 4 h0 (by omega) (by omega) k
  have r100 := fun k : Go.AM.K AV => reck_quoZ (P := Tryz.prog) (ty := 3) n 100 h0 (by omega) (by omega) k
  have r400 := fun k : Go.AM.K AV => reck_quoZ (P := Tryz.prog) (ty := 3) n 400 h0 (by omega) (by omega) k
  have w1 : IntKind.i64.wrap (n / 4 - n / 100) = n / 4 - n / 100 := wrap64 (by omega) (by omega)
  have w2 : IntKind.i64.wrap (n / 4 - n / 100 + n / 400) = n / 4 - n / 100 + n / 400 := wrap64 (by omega) (by omega)
  simp [f_calendar_before_1, r4, r100, r400, w1, w2, Cal.leaps]
theorem F_calendar_before_val (y : Int) (h0 : 1 ≤ y) (h1 : y ≤ 100000) (h : Hp) : F_calendar_before [I y] h = some (I (Cal.bef y), h) := by
  refine F_calendar_before_run rfl ?_ h
  have l1 := F_calendar_before_1_val (y - 1) (by omega) (by omega)
  have l2 := F_calendar_before_1_val 1899 (by omega) (by omega)
  have e2 : Cal.leaps 1899 = 460 := by decide
  rw [e2] at l2
  have w1 : IntKind.i64.wrap (y - 1900) = y - 1900 := wrap64 (by omega) (by omega)
  have w2 : IntKind.i64.wrap (365 * (y - 1900)) = 365 * (y - 1900) := wrap64 (by omega) (by omega)
  have w3 : IntKind.i64.wrap (y - 1) = y - 1 := wrap64 (by omega) (by omega)
  have bd : 0 ≤ Cal.leaps (y - 1) ∧ Cal.leaps (y - 1) ≤ 100000 := by unfold Cal.leaps; omega
  have w4 : IntKind.i64.wrap (365 * (y - 1900) + Cal.leaps (y - 1)) = 365 * (y - 1900) + Cal.leaps (y - 1) := wrap64 (by omega) (by omega)
  have w5 : IntKind.i64.wrap (365 * (y - 1900) + Cal.leaps (y - 1) - 460) = 365 * (y - 1900) + Cal.leaps (y - 1) - 460 := wrap64 (by omega) (by omega)
  simp [f_calendar_before, w1, w2, w3, l1, l2, w4, w5, Cal.bef]
theorem G_calendar_before_val (y : Int) (h0 : 1 ≤ y) (h1 : y ≤ 100000) (h : Hp) (base : Nat) : G_calendar_before [I y] h base = some (I (Cal.bef y), EF []) := (closedXD_val (F_calendar_before_val y h0 h1 h) base).trans (by simp [idss, ids])
abbrev dateH (y m d : Int) : Hp := [.arr 3 [[I 0, I 0, I 0]] true false, .arr 3 [[I y, I m, I d]] true false]
theorem bef_big {y : Int} (h : Cal.bef y ≤ 110000) : y ≤ 2300 := by
  by_cases hy : y ≤ 2300
  · exact hy
  · have := Cal.bef_mono (show (2300 : Int) ≤ y by omega)
    have e : Cal.bef 2300 = 146097 := by decide
    omega
theorem date_L4 (hT : T 135 = some F_calendar_before) {x0 : AV → AV → AV → Hp → Option β} (day : Int) (hd : day ≤ 100000) : ∀ (n : Nat) (y : Int), 1900 ≤ y → Cal.bef y ≤ day → day - Cal.bef y < n →
    ∃ y', 1900 ≤ y' ∧ Cal.bef y' ≤ day ∧ day < Cal.bef (y' + 1) ∧ f_calendar_date_L4 P T D N x0 n (I day) (.ptr 0 0 0 1) (.ptr 1 0 0 1) (dateH y 1 1) = x0 (I day) (.ptr 0 0 0 1) (.ptr 1 0 0 1) (dateH y' 1 1) := by
  intro n
  induction n with
  | zero => intro y _ _ h; omega
  | succ n ih =>
    intro y h1 h2 h3
    have hy := bef_big (y := y) (by omega)
    have e0 : f_calendar_date_L4 P T D N x0 (n + 1) (I day) (.ptr 0 0 0 1) (.ptr 1 0 0 1) (dateH y 1 1) = f_calendar_date_b4 P T D N (f_calendar_date_L4 P T D N x0 n) x0 (I day) (.ptr 0 0 0 1) (.ptr 1 0 0 1) (dateH y 1 1) := rfl
    have w1 : IntKind.i64.wrap (y + 1) = y + 1 := wrap64 (by omega) (by omega)
    have fb := F_calendar_before_val (y + 1) (by omega) (by omega)
    by_cases h4 : Cal.bef (y + 1) ≤ day
    · have := Cal.bef_succ y
      have := Cal.yl_pos y
      obtain ⟨y', q1, q2, q3, q4⟩ := ih (y + 1) (by omega) h4 (by omega)
      refine ⟨y', q1, q2, q3, ?_⟩
      rw [e0, ← q4]
      simp [f_calendar_date_b4, hT, w1, fb, h4]
    · refine ⟨y, h1, h2, by omega, ?_⟩
      rw [e0]
      simp [f_calendar_date_b4, hT, w1, fb, h4]
theorem date_L3 (hT : T 126 = some F_calendar_length) {x2 : AV → AV → AV → Hp → Option β} (day y : Int) (hy : 1900 ≤ y) : ∀ (n : Nat) (m : Int), 1 ≤ m → m ≤ 12 → (12 - m).toNat < n → 0 ≤ day - Cal.dn y m → day - Cal.dn y m < 400 → day < Cal.bef (y + 1) →
    ∃ m' r, 1 ≤ m' ∧ m' ≤ 12 ∧ 0 ≤ r ∧ r < Cal.len y m' ∧ Cal.dn y m' + r = day ∧ f_calendar_date_L3 P T D N x2 n (I (day - Cal.dn y m)) (.ptr 0 0 0 1) (.ptr 1 0 0 1) (dateH y m 1) = x2 (I r) (.ptr 0 0 0 1) (.ptr 1 0 0 1) (dateH y m' 1) := by
  intro n
  induction n with
  | zero => intro m _ _ h; omega
  | succ n ih =>
    intro m h1 h2 h3 h4 h5 h6
    have e0 : f_calendar_date_L3 P T D N x2 (n + 1) (I (day - Cal.dn y m)) (.ptr 0 0 0 1) (.ptr 1 0 0 1) (dateH y m 1) = f_calendar_date_b3 P T D N (f_calendar_date_L3 P T D N x2 n) x2 (I (day - Cal.dn y m)) (.ptr 0 0 0 1) (.ptr 1 0 0 1) (dateH y m 1) := rfl
    have fl := F_calendar_length_val y m (by omega) h1 h2
    have hl := Cal.len_pos y m
    have hd := Cal.pre_succ y h1 h2
    have hdn : Cal.dn y (m + 1) = Cal.dn y m + Cal.len y m := by unfold Cal.dn; omega
    by_cases hc : Cal.len y m ≤ day - Cal.dn y m
    · have hm : m ≠ 12 := by
        rintro rfl
        have := Cal.bef_succ y
        have q := Cal.pre_13 y
        simp [q] at hd
        unfold Cal.dn at hc
        omega
      have w1 : IntKind.i64.wrap (day - Cal.dn y m - Cal.len y m) = day - Cal.dn y (m + 1) := by rw [wrap64 (by omega) (by omega)]; omega
      have w2 : IntKind.i64.wrap (m + 1) = m + 1 := wrap64 (by omega) (by omega)
      obtain ⟨m', r, q1, q2, q3, q4, q5, q6⟩ := ih (m + 1) (by omega) (by omega) (by omega) (by omega) (by omega) h6
      refine ⟨m', r, q1, q2, q3, q4, q5, ?_⟩
      rw [e0, ← q6]
      simp [f_calendar_date_b3, hT, fl, hc, w1, w2]
    · refine ⟨m, day - Cal.dn y m, h1, h2, h4, by omega, by omega, ?_⟩
      rw [e0]
      simp [f_calendar_date_b3, hT, fl, hc]
theorem F_calendar_date_val (day : Int) (h0 : 0 ≤ day) (hd : day ≤ 100000) : ∃ y m d, Cal.Is day y m d ∧ ∀ h, F_calendar_date [I day] h = some (encD y m d, h) := by
  have r1 := fun k : Go.AM.K AV => reck_quoZ (P := Tryz.prog) (ty := 3) day 366 h0 (by omega) (by omega) k
  have hb := Cal.bef_le (day / 366) (by omega)
  have w1 : IntKind.i64.wrap (1900 + day / 366) = 1900 + day / 366 := wrap64 (by omega) (by omega)
  obtain ⟨y, q1, q2, q3, q4⟩ := date_L4 (P := Tryz.prog) (T := t_calendar_date) (D := d_calendar_date) (N := NN) rfl (x0 := fun w58_0 w58_2 w58_3 h => f_calendar_date_j1 Tryz.prog t_calendar_date d_calendar_date NN (fun v g => cvt false g v) w58_0 w58_2 w58_3 h) day hd NN (1900 + day / 366) (by omega) (by omega) (by have := NN_ge; omega)
  have hy := bef_big (y := y) (by omega)
  have hbs := Cal.bef_succ y
  have hyl := Cal.yl_pos y
  have hdn1 : Cal.dn y 1 = Cal.bef y := by unfold Cal.dn; rw [Cal.pre_1]; omega
  obtain ⟨m, r, p1, p2, p3, p4, p5, p6⟩ := date_L3 (P := Tryz.prog) (T := t_calendar_date) (D := d_calendar_date) (N := NN) rfl (x2 := fun w45_0 w45_2 w45_3 h => f_calendar_date_j2 Tryz.prog t_calendar_date d_calendar_date NN (fun v g => cvt false g v) w45_0 w45_2 w45_3 h) day y q1 NN 1 (by omega) (by omega) (by have := NN_ge; omega) (by omega) (by omega) q3
  rw [hdn1] at p6
  have hlp := Cal.len_pos y m
  refine ⟨y, m, 1 + r, ⟨q1, ⟨p1, p2⟩, by omega, by omega⟩, fun h => ?_⟩
  refine F_calendar_date_run rfl ?_ h
  have fb := F_calendar_before_val y (by omega) (by omega)
  have w2 : IntKind.i64.wrap (day - Cal.bef y) = day - Cal.bef y := wrap64 (by omega) (by omega)
  have w3 : IntKind.i64.wrap (1 + r) = 1 + r := wrap64 (by omega) (by omega)
  refine Eq.trans ?_ (q4.trans ?_)
  · simp [f_calendar_date, r1, w1, buildK, fillA, boxE]
  · refine Eq.trans ?_ (p6.trans ?_)
    · simp [f_calendar_date_j1, fb, w2]
    · simp [f_calendar_date_j2, w3]
theorem F_calendar_Date_val (day : Int) (h0 : 0 ≤ day) (hd : day ≤ 100000) : ∃ y m d, Cal.Is day y m d ∧ ∀ h, F_calendar_Date [I day] h = some (.tup [encD y m d, I 0], h) := by
  obtain ⟨y, m, d, hi, hf⟩ := F_calendar_date_val day h0 hd
  refine ⟨y, m, d, hi, fun h => F_calendar_Date_run rfl ?_ h⟩
  have hw : win day 0 100000 = true := by simp [win]; omega
  simp [f_calendar_Date, F_calendar_is_val, hw, hf]
theorem number_L2 (hT : T 126 = some F_calendar_length) {x0 : AV → Hp → Option β} (y m d : Int) (hy : 1900 ≤ y) (h12 : m ≤ 12) (a : Int) (ha : 0 ≤ a ∧ a ≤ 200000) : ∀ (n : Nat) (k : Int), 1 ≤ k → k ≤ m → (m - k).toNat < n →
    f_calendar_number_L2 P T D N x0 n (.ptr 0 0 0 1) (I (a + Cal.pre y k)) (I k) [.arr 3 [[I y, I m, I d]] true false] = x0 (I (a + Cal.pre y m)) [.arr 3 [[I y, I m, I d]] true false] := by
  intro n
  induction n with
  | zero => intro k _ _ h; omega
  | succ n ih =>
    intro k h1 h2 h3
    show f_calendar_number_b2 P T D N (f_calendar_number_L2 P T D N x0 n) x0 _ _ _ _ = _
    by_cases hc : k < m
    · have fl := F_calendar_length_val y k (by omega) h1 (by omega)
      have hp := Cal.pre_succ y h1 (show k ≤ 12 by omega)
      have hb := Cal.pre_bd y h1 (show k ≤ 12 by omega)
      have hl := Cal.len_pos y k
      have hyl := Cal.yl_pos y
      have w1 : IntKind.i64.wrap (a + Cal.pre y k + Cal.len y k) = a + Cal.pre y (k + 1) := by rw [wrap64 (by omega) (by omega)]; omega
      have w2 : IntKind.i64.wrap (k + 1) = k + 1 := wrap64 (by omega) (by omega)
      rw [← ih (k + 1) (by omega) (by omega) (by omega)]
      simp [f_calendar_number_b2, hc, hT, fl, w1, w2]
    · have : k = m := by omega
      subst this
      simp [f_calendar_number_b2]
theorem F_calendar_number_val (y m d : Int) (hy : 1900 ≤ y) (hy2 : y ≤ 2200) (h1 : 1 ≤ m) (h12 : m ≤ 12) (d1 : 1 ≤ d) (d2 : d ≤ 31) (h : Hp) : F_calendar_number [encD y m d] h = some (I (Cal.dn y m + (d - 1)), h) := by
  refine F_calendar_number_run rfl ?_ h
  have g1 := G_calendar_before_val y (by omega) (by omega)
  have b0 := Cal.bef_mono hy
  rw [Cal.bef_0] at b0
  have b1 := Cal.bef_mono hy2
  have e : Cal.bef 2200 = 109573 := by decide
  rw [e] at b1
  have w1 : IntKind.i64.wrap (Cal.bef y + d) = Cal.bef y + d := wrap64 (by omega) (by omega)
  have w2 : IntKind.i64.wrap (Cal.bef y + d - 1) = Cal.bef y + d - 1 := wrap64 (by omega) (by omega)
  have L := number_L2 (P := Tryz.prog) (T := t_calendar_number) (D := d_calendar_number) (N := NN) rfl (x0 := fun w21_3 h => f_calendar_number_j1 Tryz.prog t_calendar_number d_calendar_number NN (fun v g => cvt false g v) w21_3 h) y m d hy h12 (Cal.bef y + d - 1) ⟨by omega, by omega⟩ NN 1 (by omega) h1 (by have := NN_ge; omega)
  rw [Cal.pre_1] at L
  refine Eq.trans ?_ (L.trans ?_)
  · simp [f_calendar_number, boxE, effD_y, callE_F, g1, w1, w2, disjAll, disj2, wrOf, idsOf]
  · simp [f_calendar_number_j1, Cal.dn]; omega
set_option maxHeartbeats 2000000 in
theorem F_calendar_Day_val (y m : Int) (hy : 1900 ≤ y) (hy2 : y ≤ 2200) (h1 : 1 ≤ m) (h12 : m ≤ 12) (h : Hp) : F_calendar_Day [encD y m 1] h = some (if Cal.dn y m ≤ 100000 then .tup [I (Cal.dn y m), I 0] else .tup [I 0, I 1], h) := by
  refine F_calendar_Day_run rfl ?_ h
  have b0 := Cal.bef_mono hy
  rw [Cal.bef_0] at b0
  have hl := Cal.len_pos y m
  have gl := G_calendar_length_val y m (by omega) h1 h12
  have fn := F_calendar_number_val y m 1 hy hy2 h1 h12 (by omega) (by omega)
  have hp := Cal.pre_bd y h1 h12
  have e0 : Cal.dn y m + (1 - 1) = Cal.dn y m := by omega
  rw [e0] at fn
  have hd0 : 0 ≤ Cal.dn y m := by unfold Cal.dn; omega
  have gi : ∀ (a : Int) (h : Hp) (base : Nat), G_calendar_is [I a] h base = some (B (win a 0 100000), EF []) := fun a h base => (closedXD_val (F_calendar_is_val a h) base).trans (by simp [idss, ids])
  have c1 : ¬ y < 1900 := by omega
  have c2 : ¬ 2200 < y := by omega
  have c3 : ¬ m < 1 := by omega
  have c4 : ¬ 12 < m := by omega
  have c5 : ¬ Cal.len y m < 1 := by omega
  by_cases hd : Cal.dn y m ≤ 100000
  · obtain ⟨y', m', d', hi, hf⟩ := F_calendar_date_val (Cal.dn y m) hd0 hd
    have hu := hi.unique (y' := y) (m' := m) (d' := 1) ⟨hy, ⟨h1, h12⟩, by omega, by omega⟩
    obtain ⟨rfl, rfl, rfl⟩ := hu
    have gd : ∀ (h : Hp) (base : Nat), G_calendar_date [I (Cal.dn y' m')] h base = some (encD y' m' 1, EF []) := fun h base => (closedXD_val (hf h) base).trans (by simp [idss, ids])
    have hw : win (Cal.dn y' m') 0 100000 = true := by simp [win, hd0, hd]
    simp [f_calendar_Day, boxE, c1, c2, c3, c4, c5, gl, fn, gi, gd, hw, hd, disjAll, disj2, wrOf, idsOf]
  · have hw : win (Cal.dn y m) 0 100000 = false := by simp [win]; omega
    simp [f_calendar_Day, boxE, c1, c2, c3, c4, c5, gl, fn, gi, hw, hd, disjAll, disj2, wrOf, idsOf]
end
end Go.AM


namespace Go.AM
open Go.Proofs
set_option linter.unusedVariables false
set_option linter.unusedSimpArgs false
set_option linter.constructorNameAsVariable false
structure Leg where
  day : Int
  kind : Int
  place : Int
  to : Int
  alc : Int
deriving DecidableEq
def encL (x : Leg) : List AV := [I x.day, I x.kind, I x.place, I x.to, I x.alc]
structure Jny where
  dep : Int
  spl : Int
  lost : Int
  arr : Int
  tra : Int
  frm : Int
  to : Int
  halt : Bool
  endd : Bool
deriving DecidableEq
def encJ (j : Jny) : List AV := [I j.dep, I j.spl, I j.lost, I j.arr, I j.tra, I j.frm, I j.to, B j.halt, B j.endd]
def zeroJ : Jny := ⟨0, 0, 0, 0, 0, 0, 0, false, false⟩
def partL (x : Leg) : Bool := x.place == 0 && x.to == 0 && win x.alc 1 10737418240000
def formL (x : Leg) : Bool :=
  if x.kind = 1 then win x.place 1 99 && win x.to 1 99 && x.place != x.to && win x.alc 1 10737418240000
  else if x.kind = 2 then win x.place 1 99 && x.to == 0 && x.alc == 0
  else if x.kind = 3 then x.place == 0 && x.to == 0 && x.alc == 0
  else if x.kind = 4 then x.place == 0 && win x.to 1 99 && x.alc == 0
  else if x.kind = 5 then partL x
  else if x.kind = 6 then partL x
  else win x.place 1 99 && x.to == 0 && win x.alc 0 10737418240000
def refL (j : Jny) (k : Int) : Bool := if k = 2 then j.halt else if k = 3 then !j.halt else if k = 7 then j.halt else false
def faultL (j : Jny) (begun : Bool) (last : Int) (x : Leg) : Int :=
  if (win x.day 0 100000 && win x.kind 1 7 && formL x) = false then 2
  else if x.day < last then 5
  else if ((begun == decide (x.kind = 1)) || j.endd || refL j x.kind) = true then 11
  else if (x.kind = 4 ∧ x.to = j.frm) ∨ (x.kind = 7 ∧ x.place ≠ j.to) then 10
  else if 5 ≤ x.kind ∧ j.tra < x.alc then 17 else 0
def actL (j : Jny) (x : Leg) : Jny :=
  if x.kind = 1 then ⟨x.alc, 0, 0, 0, x.alc, x.place, x.to, false, false⟩
  else if x.kind = 2 then { j with halt := true }
  else if x.kind = 3 then { j with halt := false }
  else if x.kind = 4 then { j with to := x.to }
  else if x.kind = 5 then { j with spl := j.spl + x.alc, tra := j.tra - x.alc }
  else if x.kind = 6 then { j with lost := j.lost + x.alc, tra := j.tra - x.alc }
  else { j with arr := x.alc, lost := j.lost + j.tra - x.alc, tra := 0, endd := true }
structure InvJ (j : Jny) : Prop where
  sum : j.dep = j.tra + j.spl + j.lost + j.arr
  dep : j.dep ≤ 10737418240000
  tra : 0 ≤ j.tra
  spl : 0 ≤ j.spl
  lost : 0 ≤ j.lost
  arr : 0 ≤ j.arr
  en : j.endd = true → j.tra = 0
  ne : j.endd = false → j.arr = 0
theorem invZ : InvJ zeroJ := ⟨rfl, by decide, by decide, by decide, by decide, by decide, by decide, by decide⟩
theorem faultL_0 {j : Jny} {begun : Bool} {last : Int} {x : Leg} (h : faultL j begun last x = 0) :
    (0 ≤ x.day ∧ x.day ≤ 100000) ∧ (1 ≤ x.kind ∧ x.kind ≤ 7) ∧ formL x = true ∧ last ≤ x.day ∧ (x.kind = 1 ↔ begun = false) ∧ j.endd = false ∧ refL j x.kind = false ∧ ¬ (x.kind = 4 ∧ x.to = j.frm) ∧ ¬ (x.kind = 7 ∧ x.place ≠ j.to) ∧ ¬ (5 ≤ x.kind ∧ j.tra < x.alc) := by
  unfold faultL at h
  split at h
  · simp at h
  · rename_i h1
    split at h
    · simp at h
    · rename_i h2
      split at h
      · simp at h
      · rename_i h3
        split at h
        · simp at h
        · rename_i h4
          split at h
          · simp at h
          · rename_i h5
            simp only [Bool.not_eq_false, Bool.and_eq_true, win, decide_eq_true_eq] at h1
            simp only [Bool.or_eq_true, not_or, Bool.not_eq_true] at h3
            rw [not_or] at h4
            refine ⟨h1.1.1, h1.1.2, h1.2, by omega, ?_, h3.1.2, h3.2, h4.1, h4.2, h5⟩
            have := h3.1.1
            cases begun <;> by_cases q : x.kind = 1 <;> simp [q] at this ⊢
theorem formL_bd {x : Leg} (hk : 1 ≤ x.kind ∧ x.kind ≤ 7) (h : formL x = true) : 0 ≤ x.alc ∧ x.alc ≤ 10737418240000 := by
  unfold formL partL at h
  rcases (show x.kind = 1 ∨ x.kind = 2 ∨ x.kind = 3 ∨ x.kind = 4 ∨ x.kind = 5 ∨ x.kind = 6 ∨ x.kind = 7 by omega) with e | e | e | e | e | e | e <;> simp [e, win] at h <;> omega
theorem actL_inv {j : Jny} {begun : Bool} {last : Int} {x : Leg} (hj : InvJ j) (h : faultL j begun last x = 0) : InvJ (actL j x) := by
  obtain ⟨-, hk, hf, -, -, he, -, -, -, hs⟩ := faultL_0 h
  have hb := formL_bd hk hf
  obtain ⟨s1, s2, s3, s4, s5, s6, s7, s8⟩ := hj
  have s8' := s8 he
  unfold actL
  rcases (show x.kind = 1 ∨ x.kind = 2 ∨ x.kind = 3 ∨ x.kind = 4 ∨ x.kind = 5 ∨ x.kind = 6 ∨ x.kind = 7 by omega) with e | e | e | e | e | e | e
  · simp only [e, if_true]; exact ⟨by simp, by simp; omega, by simp; omega, by simp, by simp, by simp, by simp, by simp⟩
  · simp only [e]; exact ⟨s1, s2, s3, s4, s5, s6, s7, s8⟩
  · simp only [e]; exact ⟨s1, s2, s3, s4, s5, s6, s7, s8⟩
  · simp only [e]; exact ⟨s1, s2, s3, s4, s5, s6, s7, s8⟩
  · simp only [e] at hs ⊢; exact ⟨by simp; omega, by simpa using s2, by simp; omega, by simp; omega, by simpa using s5, by simpa using s6, by simp [he], by simpa using s8⟩
  · simp only [e] at hs ⊢; exact ⟨by simp; omega, by simpa using s2, by simp; omega, by simpa using s4, by simp; omega, by simpa using s6, by simp [he], by simpa using s8⟩
  · simp only [e] at hs ⊢; exact ⟨by simp; omega, by simpa using s2, by simp, by simpa using s4, by simp; omega, by simp; omega, by simp, by simp⟩
def runL : Jny → Bool → Int → Nat → List Leg → Jny × Int × Int
  | j, _, _, _, [] => (j, -1, 0)
  | j, bg, last, i, x :: l => if faultL j bg last x = 0 then runL (actL j x) true x.day (i + 1) l else (zeroJ, i, faultL j bg last x)
def okL : Jny → Bool → Int → List Leg → Prop
  | _, _, _, [] => True
  | j, bg, last, x :: l => faultL j bg last x = 0 ∧ okL (actL j x) true x.day l
theorem runL_ok : ∀ (l : List Leg) (j : Jny) (bg : Bool) (last : Int) (i : Nat), okL j bg last l → runL j bg last i l = (l.foldl actL j, -1, 0)
  | [], j, bg, last, i, _ => rfl
  | x :: l, j, bg, last, i, h => by
    rw [runL, if_pos h.1, runL_ok l _ _ _ _ h.2]
    rfl
theorem runL_err : ∀ (l : List Leg) (j : Jny) (bg : Bool) (last : Int) (i : Nat), ¬ okL j bg last l → (runL j bg last i l).1 = zeroJ ∧ 0 ≤ (runL j bg last i l).2.1 ∧ (runL j bg last i l).2.2 ≠ 0
  | [], j, bg, last, i, h => absurd trivial h
  | x :: l, j, bg, last, i, h => by
    rw [runL]
    split
    · rename_i h1
      exact runL_err l _ _ _ _ fun h2 => h ⟨h1, h2⟩
    · rename_i h1
      exact ⟨rfl, by simp, h1⟩
theorem okL_inv : ∀ (l : List Leg) (j : Jny) (bg : Bool) (last : Int), InvJ j → okL j bg last l → InvJ (l.foldl actL j)
  | [], _, _, _, hj, _ => hj
  | x :: l, j, bg, last, hj, h => okL_inv l _ _ _ (actL_inv hj h.1) h.2
theorem okL_app : ∀ (l m : List Leg) (j : Jny) (bg : Bool) (last : Int), okL j bg last (l ++ m) → okL j bg last l
  | [], m, _, _, _, _ => trivial
  | x :: l, m, j, bg, last, h => ⟨h.1, okL_app l m _ _ _ h.2⟩
def runS (l : List Leg) : Jny × Int × Int := if 128 < l.length then (zeroJ, -1, 8) else runL zeroJ false 0 0 l
def okS (l : List Leg) : Bool := decide ((runS l).2.2 = 0)
theorem okS_ok {l : List Leg} (h : okS l = true) : l.length ≤ 128 ∧ okL zeroJ false 0 l := by
  simp only [okS, decide_eq_true_eq] at h
  unfold runS at h
  split at h
  · simp at h
  · refine ⟨by omega, ?_⟩
    by_cases hk : okL zeroJ false 0 l
    · exact hk
    · exact absurd h (runL_err l _ _ _ 0 hk).2.2
theorem okS_of {l : List Leg} (h1 : l.length ≤ 128) (h2 : okL zeroJ false 0 l) : runS l = (l.foldl actL zeroJ, -1, 0) := by
  unfold runS
  rw [if_neg (by omega), runL_ok l _ _ _ _ h2]
theorem okS_run {l : List Leg} (h : okS l = true) : runS l = (l.foldl actL zeroJ, -1, 0) := okS_of (okS_ok h).1 (okS_ok h).2
theorem runS_err {l : List Leg} (h : okS l = false) : (runS l).1 = zeroJ ∧ (runS l).2.2 ≠ 0 := by
  refine ⟨?_, by simpa [okS] using h⟩
  unfold runS
  split
  · rfl
  · rename_i h1
    refine (runL_err l _ _ _ 0 fun hk => ?_).1
    rw [okS, okS_of (by omega) hk] at h
    simp at h
def untilD (l : List Leg) (day : Int) : List Leg := l.takeWhile fun x => decide (x.day ≤ day)
theorem until_pre (l : List Leg) (day : Int) : ∃ m, l = untilD l day ++ m := ⟨l.dropWhile fun x => decide (x.day ≤ day), (List.takeWhile_append_dropWhile).symm⟩
def atL (l : List Leg) (day : Int) : Jny := (untilD l day).foldl actL zeroJ
theorem until_ok {l : List Leg} (h : okS l = true) (day : Int) : okS (untilD l day) = true := by
  obtain ⟨h1, h2⟩ := okS_ok h
  obtain ⟨m, hm⟩ := until_pre l day
  have h3 : okL zeroJ false 0 (untilD l day) := okL_app _ m _ _ _ (by rw [← hm]; exact h2)
  have h4 : (untilD l day).length ≤ l.length := by have := congrArg List.length hm; rw [List.length_append] at this; omega
  simp [okS, okS_of (show (untilD l day).length ≤ 128 by omega) h3]
theorem at_run {l : List Leg} (h : okS l = true) (day : Int) : runS (untilD l day) = (atL l day, -1, 0) := okS_run (until_ok h day)
theorem at_inv {l : List Leg} (h : okS l = true) (day : Int) : InvJ (atL l day) := okL_inv _ _ _ _ invZ (okS_ok (until_ok h day)).2
end Go.AM


namespace Go.AM
open Go.Proofs
set_option linter.unusedVariables false
set_option linter.unusedSimpArgs false
set_option linter.constructorNameAsVariable false
end Go.AM


namespace Go.AM
open Go.Proofs
set_option linter.unusedVariables false
set_option linter.unusedSimpArgs false
set_option linter.constructorNameAsVariable false
set_option maxRecDepth 20000
structure Allow where
  frm : Int
  cls : Int
  mon : Int
  rate : Int
deriving DecidableEq
def encA (a : Allow) : List AV := [I a.frm, I a.cls, I a.mon, I a.rate]
def badA (a : Allow) : Bool := !win a.frm 0 100000 || !win a.cls 1 9 || !win a.mon 1 12 || !win a.rate 0 10000
def ltA (a b : Allow) : Bool := if a.frm ≠ b.frm then decide (a.frm < b.frm) else if a.cls ≠ b.cls then decide (a.cls < b.cls) else decide (a.mon < b.mon)
theorem ltA_iff (a b : Allow) : ltA a b = true ↔ a.frm < b.frm ∨ (a.frm = b.frm ∧ (a.cls < b.cls ∨ (a.cls = b.cls ∧ a.mon < b.mon))) := by
  unfold ltA
  by_cases e1 : a.frm = b.frm
  · by_cases e2 : a.cls = b.cls
    · simp [e1, e2]
    · simp [e1, e2]
  · simp [e1]
theorem ltA_trans (a b c : Allow) (h1 : ltA a b = true) (h2 : ltA b c = true) : ltA a c = true := by
  rw [ltA_iff] at *; omega
theorem ltA_frm {a b : Allow} (h : ltA a b = true) : a.frm ≤ b.frm := by
  rw [ltA_iff] at h; omega
section
variable {β : Type} {P : Program} {T : Tab} {D : DTab} {N : Nat} {K : AV → Hp → Option β}
theorem F_season_in_val (a b c : Int) (h : Hp) : F_season_in [I a, I b, I c] h = some (B (win a b c), h) := F_season_in_run rfl (by simp [f_season_in, win]) h
theorem F_season_before_val (a b : Allow) (h : Hp) : F_season_before [.agg (encA a), .agg (encA b)] h = some (B (ltA a b), h) := by
  refine F_season_before_run (by simp [encA]) ?_ h
  by_cases h1 : a.frm = b.frm
  · by_cases h2 : a.cls = b.cls
    · simp [f_season_before, encA, ltA, h1, h2]
    · have h2' : (a.cls == b.cls) = false := by simpa using h2
      simp [f_season_before, encA, ltA, h1, h2, h2']
  · have h1' : (a.frm == b.frm) = false := by simpa using h1
    simp [f_season_before, encA, ltA, h1, h1']
def checkA (l : List Allow) : Int × Int := if 128 < l.length then (-1, 8) else (checkG badA ltA none l 0).getD (-1, 0)
theorem season_Check_L2 (hT1 : T 41 = some F_season_in) (hT2 : T 42 = some F_season_before) {x0 : Hp → Option β} {xr : AV → AV → Hp → Option β} {X : Option β} {R : Int → Int → Option β} (hx : ∀ h, x0 h = X) (hr : ∀ a b h, xr (I a) (I b) h = R a b) (l : List Allow) (b : Bool) (hl : l.length < 1000000) :
    ∀ (n : Nat) (pre post : List Allow) (h : Hp), l = pre ++ post → post.length < n →
    f_season_Check_L2 P T D N x0 xr n (.lst 4 b (l.map encA)) (.lst 4 b (l.map encA)) (I l.length) (I pre.length) h = match checkG badA ltA pre.getLast? post pre.length with | none => X | some (a, b) => R a b := by
  intro n
  induction n with
  | zero => intro pre post h _ h2; omega
  | succ n ih =>
    intro pre post h hc hn
    show f_season_Check_b2 P T D N (f_season_Check_L2 P T D N x0 xr n) x0 xr _ _ _ _ h = _
    cases post with
    | nil =>
      have : l = pre := by simpa using hc
      subst this
      simp [f_season_Check_b2, hx, checkG]
    | cons c post =>
      have hi : pre.length < l.length := by rw [hc]; simp
      have hci : l[pre.length]? = some c := by rw [hc]; simp
      have hlt : ((pre.length : Int) < (l.length : Int)) := by omega
      have hw : IntKind.i64.wrap ((pre.length : Int) + 1) = (((pre ++ [c]).length : Nat) : Int) := by rw [wrap64 (by omega) (by omega)]; simp
      have step := fun h => ih (pre ++ [c]) post h (by simpa using hc) (by simpa using hn)
      have hgl : (pre ++ [c]).getLast? = some c := by simp
      rw [hgl] at step
      have e1 : (((pre ++ [c]).length : Nat) : Int) = (pre.length : Int) + 1 := by simp
      rw [checkG]
      by_cases hb : badA c = true
      · have hb' := hb
        simp only [badA] at hb'
        simp [f_season_Check_b2, hlt, hci, encA, hT1, F_season_in_val, hb, hb', hr]
      · have hb' : badA c = false := by simpa using hb
        have hb2 := hb'
        simp only [badA] at hb2
        rw [hb', if_neg (by simp)]
        have ic : ∀ k : Go.AM.K β, iaK 4 (.lst 4 b (l.map encA)) (I pre.length) k = k (.ep (encA c) 0) := fun k => iaK_at pre.length rfl hci k
        simp only [encA] at ic
        rw [e1] at step hw
        rcases List.eq_nil_or_concat pre with rfl | ⟨pre', q, hq⟩
        · have w1 : IntKind.i64.wrap 1 = 1 := wrap64 (by omega) (by omega)
          have hlt0 : (0 : Int) < (l.length : Int) := hlt
          have ic0 : ∀ k : Go.AM.K β, iaK 4 (.lst 4 b (l.map fun a => [I a.frm, I a.cls, I a.mon, I a.rate])) (I 0) k = k (.ep [I c.frm, I c.cls, I c.mon, I c.rate] 0) := ic
          have hen : l.map encA = l.map fun a => [I a.frm, I a.cls, I a.mon, I a.rate] := rfl
          simp only [List.length_nil, hen] at step ⊢
          simp only [f_season_Check_b2, Int.natCast_zero, Int.ofNat_zero, Int.ofNat_eq_natCast, arithK_lss, hlt0, decide_true, condK_bool, if_true, ic0]
          simp [hT1, F_season_in_val, hb2, w1]
          simpa using step (h ++ [.arr 4 [[I c.frm, I c.cls, I c.mon, I c.rate]] true false])
        · have hq : pre = pre' ++ [q] := by rw [hq]; simp
          have hgp : pre.getLast? = some q := by rw [hq]; simp
          have hqi : l[pre'.length]? = some q := by rw [hc, hq]; simp
          have hpl : (pre.length : Int) = (pre'.length : Int) + 1 := by rw [hq]; simp
          have iq : ∀ k : Go.AM.K β, iaK 4 (.lst 4 b (l.map encA)) (I pre'.length) k = k (.ep (encA q) 0) := fun k => iaK_at pre'.length rfl hqi k
          simp only [encA] at iq
          rw [hgp]
          clear hgp hq ih hc
          have hlb : (pre.length : Int) < 1000000 := by omega
          generalize (pre.length : Int) = i at *
          have h0 : (0 : Int) < i := by omega
          have w2 : IntKind.i64.wrap (i - 1) = (pre'.length : Int) := by rw [wrap64 (by omega) (by omega)]; omega
          have fb := F_season_before_val q c
          simp only [encA] at fb
          by_cases ho : ltA q c = true
          · simp [f_season_Check_b2, hlt, iq, ic, hT1, hT2, F_season_in_val, hb2, h0, w2, fb, ho, hw, step]
          · have ho' : ltA q c = false := by simpa using ho
            simp [f_season_Check_b2, hlt, iq, ic, hT1, hT2, F_season_in_val, hb2, h0, w2, fb, ho', hr]
end
end Go.AM

