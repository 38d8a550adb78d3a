import Derived.Test.YtkgkoladmhihgaaG3
import Derived.Below
import Derived.ChangeOld
import Derived.Carry
import Derived.OpenShut
set_option linter.unusedSectionVars false
set_option linter.unusedVariables false
set_option linter.unusedSimpArgs false
set_option linter.constructorNameAsVariable false
namespace Go.AM
open Go.Proofs
set_option linter.unusedVariables false
set_option maxRecDepth 100000
theorem mixed : Try.prog.follows .mixedOrders = true := by kernel_rfl
theorem NN_ex : ∃ n : Nat, 1000000 ≤ n ∧ n < 4611686018427387904 := ⟨1000000, by omega, by omega⟩
noncomputable def NN : Nat := NN_ex.choose
theorem NN_ge : 1000000 ≤ NN := NN_ex.choose_spec.1
theorem NN_lt : NN < 4611686018427387904 := NN_ex.choose_spec.2
noncomputable def d_document_node : DTab := D0
theorem d_document_node_ok : DSound Try.prog d_document_node := DSound.zero
noncomputable def t_document_node : Tab := T0
theorem t_document_node_ok : TSound Try.prog t_document_node := TSound.zero
noncomputable def R_document_node : Fun := runF Try.prog t_document_node d_document_node NN [0, 2] Try.f44 1
theorem R_document_node_ok : CSound Try.prog 44 R_document_node := run_sound t_document_node_ok d_document_node_ok mixed Try.func44 (by kernel_rfl) NN
theorem R_document_node_eq {β : Type} (K : AV → Hp → Option β) (a0 : AV) (h : Hp) : (R_document_node [a0] h).bind (fun p => K p.1 p.2) = f_document_node Try.prog t_document_node d_document_node NN K a0 h := by
  rw [← f_document_node_run]; exact runF_bind rfl
noncomputable def F_document_node : Fun := closedX [.o] [.o] R_document_node
theorem F_document_node_ok : CSound Try.prog 44 F_document_node := closedX_sound _ _ R_document_node_ok
theorem F_document_node_run {a0 : AV} {v : AV} (ha : plains [a0] = true) (hv : f_document_node Try.prog t_document_node d_document_node NN (fun v g => cvt false g v) a0 [] = some v) (h : Hp) : F_document_node [a0] h = some (v, h) := by
  have e : (R_document_node (nrms [.o] [a0]) []).bind (fun (p : AV × Hp) => cvt false p.2 p.1) = some v := (R_document_node_eq (fun v g => cvt false g v) a0 []).trans hv
  exact (closedX_bind (shr := [.o]) ha e h).trans (congrArg (fun x => some (x, h)) (nrmR_rep 1 v))
noncomputable def d_document_Check : DTab := D0
theorem d_document_Check_ok : DSound Try.prog d_document_Check := DSound.zero
noncomputable def t_document_Check : Tab := (updF T0 44 F_document_node)
theorem t_document_Check_ok : TSound Try.prog t_document_Check := (TSound.upd TSound.zero F_document_node_ok)
@[simp] theorem t_document_Check_44 : t_document_Check 44 = some F_document_node := rfl
noncomputable def R_document_Check : Fun := runF Try.prog t_document_Check d_document_Check NN [0, 1, 2, 3, 4, 32, 41, 42, 78, 99, 118] Try.f15 1
theorem R_document_Check_ok : CSound Try.prog 15 R_document_Check := run_sound t_document_Check_ok d_document_Check_ok mixed Try.func15 (by kernel_rfl) NN
theorem R_document_Check_eq {β : Type} (K : AV → Hp → Option β) (a0 : AV) (h : Hp) : (R_document_Check [a0] h).bind (fun p => K p.1 p.2) = f_document_Check Try.prog t_document_Check d_document_Check NN K a0 h := by
  rw [← f_document_Check_run]; exact runF_bind rfl
noncomputable def F_document_Check : Fun := closedX [.o] [.o] R_document_Check
theorem F_document_Check_ok : CSound Try.prog 15 F_document_Check := closedX_sound _ _ R_document_Check_ok
theorem F_document_Check_run {a0 : AV} {v : AV} (ha : plains [a0] = true) (hv : f_document_Check Try.prog t_document_Check d_document_Check NN (fun v g => cvt false g v) a0 [] = some v) (h : Hp) : F_document_Check [a0] h = some (v, h) := by
  have e : (R_document_Check (nrms [.o] [a0]) []).bind (fun (p : AV × Hp) => cvt false p.2 p.1) = some v := (R_document_Check_eq (fun v g => cvt false g v) a0 []).trans hv
  exact (closedX_bind (shr := [.o]) ha e h).trans (congrArg (fun x => some (x, h)) (nrmR_rep 1 v))
noncomputable def d_slices_Clone_Message : DTab := D0
theorem d_slices_Clone_Message_ok : DSound Try.prog d_slices_Clone_Message := DSound.zero
noncomputable def t_slices_Clone_Message : Tab := T0
theorem t_slices_Clone_Message_ok : TSound Try.prog t_slices_Clone_Message := TSound.zero
noncomputable def R_slices_Clone_Message : Fun := runF Try.prog t_slices_Clone_Message d_slices_Clone_Message NN [0, 2, 4] Try.f13 1
theorem R_slices_Clone_Message_ok : CSound Try.prog 13 R_slices_Clone_Message := run_sound t_slices_Clone_Message_ok d_slices_Clone_Message_ok mixed Try.func13 (by kernel_rfl) NN
theorem R_slices_Clone_Message_eq {β : Type} (K : AV → Hp → Option β) (a0 : AV) (h : Hp) : (R_slices_Clone_Message [a0] h).bind (fun p => K p.1 p.2) = f_slices_Clone_Message Try.prog t_slices_Clone_Message d_slices_Clone_Message NN K a0 h := by
  rw [← f_slices_Clone_Message_run]; exact runF_bind rfl
theorem R_slices_Clone_Message_raw (a0 : AV) (h : Hp) : R_slices_Clone_Message [a0] h = f_slices_Clone_Message Try.prog t_slices_Clone_Message d_slices_Clone_Message NN (fun v h => some (v, h)) a0 h := (bind_pair _).symm.trans (R_slices_Clone_Message_eq (fun v h => some (v, h)) a0 h)
noncomputable def d_document_Normal_1 : DTab := D0
theorem d_document_Normal_1_ok : DSound Try.prog d_document_Normal_1 := DSound.zero
noncomputable def t_document_Normal_1 : Tab := (updF T0 15 F_document_Check)
theorem t_document_Normal_1_ok : TSound Try.prog t_document_Normal_1 := (TSound.upd TSound.zero F_document_Check_ok)
@[simp] theorem t_document_Normal_1_15 : t_document_Normal_1 15 = some F_document_Check := rfl
noncomputable def R_document_Normal_1 : Fun := runF Try.prog t_document_Normal_1 d_document_Normal_1 NN [0, 1, 2] Try.f38 1
theorem R_document_Normal_1_ok : CSound Try.prog 38 R_document_Normal_1 := run_sound t_document_Normal_1_ok d_document_Normal_1_ok mixed Try.func38 (by kernel_rfl) NN
theorem R_document_Normal_1_eq {β : Type} (K : AV → Hp → Option β) (a0 : AV) (h : Hp) : (R_document_Normal_1 [a0] h).bind (fun p => K p.1 p.2) = f_document_Normal_1 Try.prog t_document_Normal_1 d_document_Normal_1 NN K a0 h := by
  rw [← f_document_Normal_1_run]; exact runF_bind rfl
noncomputable def F_document_Normal_1 : Fun := closedX [.o] [.o] R_document_Normal_1
theorem F_document_Normal_1_ok : CSound Try.prog 38 F_document_Normal_1 := closedX_sound _ _ R_document_Normal_1_ok
theorem F_document_Normal_1_run {a0 : AV} {v : AV} (ha : plains [a0] = true) (hv : f_document_Normal_1 Try.prog t_document_Normal_1 d_document_Normal_1 NN (fun v g => cvt false g v) a0 [] = some v) (h : Hp) : F_document_Normal_1 [a0] h = some (v, h) := by
  have e : (R_document_Normal_1 (nrms [.o] [a0]) []).bind (fun (p : AV × Hp) => cvt false p.2 p.1) = some v := (R_document_Normal_1_eq (fun v g => cvt false g v) a0 []).trans hv
  exact (closedX_bind (shr := [.o]) ha e h).trans (congrArg (fun x => some (x, h)) (nrmR_rep 1 v))
noncomputable def d_slices_IndexFunc_Message__document_Normal_1 : DTab := D0
theorem d_slices_IndexFunc_Message__document_Normal_1_ok : DSound Try.prog d_slices_IndexFunc_Message__document_Normal_1 := DSound.zero
noncomputable def t_slices_IndexFunc_Message__document_Normal_1 : Tab := (updF T0 38 F_document_Normal_1)
theorem t_slices_IndexFunc_Message__document_Normal_1_ok : TSound Try.prog t_slices_IndexFunc_Message__document_Normal_1 := (TSound.upd TSound.zero F_document_Normal_1_ok)
@[simp] theorem t_slices_IndexFunc_Message__document_Normal_1_38 : t_slices_IndexFunc_Message__document_Normal_1 38 = some F_document_Normal_1 := rfl
noncomputable def R_slices_IndexFunc_Message__document_Normal_1 : Fun := runF Try.prog t_slices_IndexFunc_Message__document_Normal_1 d_slices_IndexFunc_Message__document_Normal_1 NN [0, 1, 4, 5, 7, 8, 9, 16] Try.f51 2
theorem R_slices_IndexFunc_Message__document_Normal_1_ok : CSound Try.prog 51 R_slices_IndexFunc_Message__document_Normal_1 := run_sound t_slices_IndexFunc_Message__document_Normal_1_ok d_slices_IndexFunc_Message__document_Normal_1_ok mixed Try.func51 (by kernel_rfl) NN
theorem R_slices_IndexFunc_Message__document_Normal_1_eq {β : Type} (K : AV → Hp → Option β) (a0 : AV) (a1 : AV) (h : Hp) : (R_slices_IndexFunc_Message__document_Normal_1 [a0, a1] h).bind (fun p => K p.1 p.2) = f_slices_IndexFunc_Message Try.prog t_slices_IndexFunc_Message__document_Normal_1 d_slices_IndexFunc_Message__document_Normal_1 NN K a0 a1 h := by
  rw [← f_slices_IndexFunc_Message_run]; exact runF_bind rfl
noncomputable def F_slices_IndexFunc_Message__document_Normal_1 : Fun := closedX [.l 7, .o] [.o] R_slices_IndexFunc_Message__document_Normal_1
theorem F_slices_IndexFunc_Message__document_Normal_1_ok : CSound Try.prog 51 F_slices_IndexFunc_Message__document_Normal_1 := closedX_sound _ _ R_slices_IndexFunc_Message__document_Normal_1_ok
theorem F_slices_IndexFunc_Message__document_Normal_1_run {a0 : AV} {a1 : AV} {v : AV} (ha : plains [a0, a1] = true) (hv : f_slices_IndexFunc_Message Try.prog t_slices_IndexFunc_Message__document_Normal_1 d_slices_IndexFunc_Message__document_Normal_1 NN (fun v g => cvt false g v) (nrm (.l 7) a0) a1 [] = some v) (h : Hp) : F_slices_IndexFunc_Message__document_Normal_1 [a0, a1] h = some (v, h) := by
  have e : (R_slices_IndexFunc_Message__document_Normal_1 (nrms [.l 7, .o] [a0, a1]) []).bind (fun (p : AV × Hp) => cvt false p.2 p.1) = some v := (R_slices_IndexFunc_Message__document_Normal_1_eq (fun v g => cvt false g v) (nrm (.l 7) a0) a1 []).trans hv
  exact (closedX_bind (shr := [.o]) ha e h).trans (congrArg (fun x => some (x, h)) (nrmR_rep 1 v))
noncomputable def d_slices_ContainsFunc_Message__document_Normal_1 : DTab := D0
theorem d_slices_ContainsFunc_Message__document_Normal_1_ok : DSound Try.prog d_slices_ContainsFunc_Message__document_Normal_1 := DSound.zero
noncomputable def t_slices_ContainsFunc_Message__document_Normal_1 : Tab := (updF T0 51 F_slices_IndexFunc_Message__document_Normal_1)
theorem t_slices_ContainsFunc_Message__document_Normal_1_ok : TSound Try.prog t_slices_ContainsFunc_Message__document_Normal_1 := (TSound.upd TSound.zero F_slices_IndexFunc_Message__document_Normal_1_ok)
@[simp] theorem t_slices_ContainsFunc_Message__document_Normal_1_51 : t_slices_ContainsFunc_Message__document_Normal_1 51 = some F_slices_IndexFunc_Message__document_Normal_1 := rfl
noncomputable def R_slices_ContainsFunc_Message__document_Normal_1 : Fun := runF Try.prog t_slices_ContainsFunc_Message__document_Normal_1 d_slices_ContainsFunc_Message__document_Normal_1 NN [0, 1, 4] Try.f37 2
theorem R_slices_ContainsFunc_Message__document_Normal_1_ok : CSound Try.prog 37 R_slices_ContainsFunc_Message__document_Normal_1 := run_sound t_slices_ContainsFunc_Message__document_Normal_1_ok d_slices_ContainsFunc_Message__document_Normal_1_ok mixed Try.func37 (by kernel_rfl) NN
theorem R_slices_ContainsFunc_Message__document_Normal_1_eq {β : Type} (K : AV → Hp → Option β) (a0 : AV) (a1 : AV) (h : Hp) : (R_slices_ContainsFunc_Message__document_Normal_1 [a0, a1] h).bind (fun p => K p.1 p.2) = f_slices_ContainsFunc_Message Try.prog t_slices_ContainsFunc_Message__document_Normal_1 d_slices_ContainsFunc_Message__document_Normal_1 NN K a0 a1 h := by
  rw [← f_slices_ContainsFunc_Message_run]; exact runF_bind rfl
noncomputable def F_slices_ContainsFunc_Message__document_Normal_1 : Fun := closedX [.l 7, .o] [.o] R_slices_ContainsFunc_Message__document_Normal_1
theorem F_slices_ContainsFunc_Message__document_Normal_1_ok : CSound Try.prog 37 F_slices_ContainsFunc_Message__document_Normal_1 := closedX_sound _ _ R_slices_ContainsFunc_Message__document_Normal_1_ok
theorem F_slices_ContainsFunc_Message__document_Normal_1_run {a0 : AV} {a1 : AV} {v : AV} (ha : plains [a0, a1] = true) (hv : f_slices_ContainsFunc_Message Try.prog t_slices_ContainsFunc_Message__document_Normal_1 d_slices_ContainsFunc_Message__document_Normal_1 NN (fun v g => cvt false g v) (nrm (.l 7) a0) a1 [] = some v) (h : Hp) : F_slices_ContainsFunc_Message__document_Normal_1 [a0, a1] h = some (v, h) := by
  have e : (R_slices_ContainsFunc_Message__document_Normal_1 (nrms [.l 7, .o] [a0, a1]) []).bind (fun (p : AV × Hp) => cvt false p.2 p.1) = some v := (R_slices_ContainsFunc_Message__document_Normal_1_eq (fun v g => cvt false g v) (nrm (.l 7) a0) a1 []).trans hv
  exact (closedX_bind (shr := [.o]) ha e h).trans (congrArg (fun x => some (x, h)) (nrmR_rep 1 v))
noncomputable def d_cmp_Or_int : DTab := D0
theorem d_cmp_Or_int_ok : DSound Try.prog d_cmp_Or_int := DSound.zero
noncomputable def t_cmp_Or_int : Tab := T0
theorem t_cmp_Or_int_ok : TSound Try.prog t_cmp_Or_int := TSound.zero
noncomputable def R_cmp_Or_int : Fun := runF Try.prog t_cmp_Or_int d_cmp_Or_int NN [0, 2, 3, 5, 6, 7, 8, 9, 14] Try.f57 1
theorem R_cmp_Or_int_ok : CSound Try.prog 57 R_cmp_Or_int := run_sound t_cmp_Or_int_ok d_cmp_Or_int_ok mixed Try.func57 (by kernel_rfl) NN
theorem R_cmp_Or_int_eq {β : Type} (K : AV → Hp → Option β) (a0 : AV) (h : Hp) : (R_cmp_Or_int [a0] h).bind (fun p => K p.1 p.2) = f_cmp_Or_int Try.prog t_cmp_Or_int d_cmp_Or_int NN K a0 h := by
  rw [← f_cmp_Or_int_run]; exact runF_bind rfl
noncomputable def F_cmp_Or_int : Fun := closedX [.l 1] [.o] R_cmp_Or_int
theorem F_cmp_Or_int_ok : CSound Try.prog 57 F_cmp_Or_int := closedX_sound _ _ R_cmp_Or_int_ok
noncomputable def G_cmp_Or_int : DFun := closedXD [.l 1] [.o] R_cmp_Or_int
theorem G_cmp_Or_int_ro : Ro F_cmp_Or_int G_cmp_Or_int := closedX_ro _ _ _
theorem F_cmp_Or_int_own {a0 : AV} {x0 : AV} {h : Hp} {v : AV} (ha : cvts false h [x0] = some [a0]) (hv : ∀ st, f_cmp_Or_int Try.prog t_cmp_Or_int d_cmp_Or_int NN (fun v g => cvt st g v) (nrm (.l 1) a0) [] = some v) : F_cmp_Or_int [x0] h = some (v, h) := by
  have e : ∀ st, (R_cmp_Or_int (nrms [.l 1] [a0]) []).bind (fun (p : AV × Hp) => cvt st p.2 p.1) = some v := fun st => (R_cmp_Or_int_eq (fun v g => cvt st g v) (nrm (.l 1) a0) []).trans (hv st)
  exact (closedX_ownB (shr := [.o]) ha e).trans (congrArg (fun x => some (x, h)) (nrmR_rep 1 v))
noncomputable def d_cmp_isNaN_int : DTab := D0
theorem d_cmp_isNaN_int_ok : DSound Try.prog d_cmp_isNaN_int := DSound.zero
noncomputable def t_cmp_isNaN_int : Tab := T0
theorem t_cmp_isNaN_int_ok : TSound Try.prog t_cmp_isNaN_int := TSound.zero
noncomputable def R_cmp_isNaN_int : Fun := runF Try.prog t_cmp_isNaN_int d_cmp_isNaN_int NN [0, 2] Try.f71 1
theorem R_cmp_isNaN_int_ok : CSound Try.prog 71 R_cmp_isNaN_int := run_sound t_cmp_isNaN_int_ok d_cmp_isNaN_int_ok mixed Try.func71 (by kernel_rfl) NN
theorem R_cmp_isNaN_int_eq {β : Type} (K : AV → Hp → Option β) (a0 : AV) (h : Hp) : (R_cmp_isNaN_int [a0] h).bind (fun p => K p.1 p.2) = f_cmp_isNaN_int Try.prog t_cmp_isNaN_int d_cmp_isNaN_int NN K a0 h := by
  rw [← f_cmp_isNaN_int_run]; exact runF_bind rfl
noncomputable def F_cmp_isNaN_int : Fun := closedX [.o] [.o] R_cmp_isNaN_int
theorem F_cmp_isNaN_int_ok : CSound Try.prog 71 F_cmp_isNaN_int := closedX_sound _ _ R_cmp_isNaN_int_ok
theorem F_cmp_isNaN_int_run {a0 : AV} {v : AV} (ha : plains [a0] = true) (hv : f_cmp_isNaN_int Try.prog t_cmp_isNaN_int d_cmp_isNaN_int NN (fun v g => cvt false g v) a0 [] = some v) (h : Hp) : F_cmp_isNaN_int [a0] h = some (v, h) := by
  have e : (R_cmp_isNaN_int (nrms [.o] [a0]) []).bind (fun (p : AV × Hp) => cvt false p.2 p.1) = some v := (R_cmp_isNaN_int_eq (fun v g => cvt false g v) a0 []).trans hv
  exact (closedX_bind (shr := [.o]) ha e h).trans (congrArg (fun x => some (x, h)) (nrmR_rep 1 v))
noncomputable def d_cmp_Compare_int : DTab := D0
theorem d_cmp_Compare_int_ok : DSound Try.prog d_cmp_Compare_int := DSound.zero
noncomputable def t_cmp_Compare_int : Tab := (updF T0 71 F_cmp_isNaN_int)
theorem t_cmp_Compare_int_ok : TSound Try.prog t_cmp_Compare_int := (TSound.upd TSound.zero F_cmp_isNaN_int_ok)
@[simp] theorem t_cmp_Compare_int_71 : t_cmp_Compare_int 71 = some F_cmp_isNaN_int := rfl
noncomputable def R_cmp_Compare_int : Fun := runF Try.prog t_cmp_Compare_int d_cmp_Compare_int NN [0, 1, 4, 5, 6, 11, 12, 13, 16, 19] Try.f58 2
theorem R_cmp_Compare_int_ok : CSound Try.prog 58 R_cmp_Compare_int := run_sound t_cmp_Compare_int_ok d_cmp_Compare_int_ok mixed Try.func58 (by kernel_rfl) NN
theorem R_cmp_Compare_int_eq {β : Type} (K : AV → Hp → Option β) (a0 : AV) (a1 : AV) (h : Hp) : (R_cmp_Compare_int [a0, a1] h).bind (fun p => K p.1 p.2) = f_cmp_Compare_int Try.prog t_cmp_Compare_int d_cmp_Compare_int NN K a0 a1 h := by
  rw [← f_cmp_Compare_int_run]; exact runF_bind rfl
noncomputable def F_cmp_Compare_int : Fun := closedX [.o, .o] [.o] R_cmp_Compare_int
theorem F_cmp_Compare_int_ok : CSound Try.prog 58 F_cmp_Compare_int := closedX_sound _ _ R_cmp_Compare_int_ok
noncomputable def G_cmp_Compare_int : DFun := closedXD [.o, .o] [.o] R_cmp_Compare_int
theorem G_cmp_Compare_int_ro : Ro F_cmp_Compare_int G_cmp_Compare_int := closedX_ro _ _ _
theorem F_cmp_Compare_int_run {a0 : AV} {a1 : AV} {v : AV} (ha : plains [a0, a1] = true) (hv : f_cmp_Compare_int Try.prog t_cmp_Compare_int d_cmp_Compare_int NN (fun v g => cvt false g v) a0 a1 [] = some v) (h : Hp) : F_cmp_Compare_int [a0, a1] h = some (v, h) := by
  have e : (R_cmp_Compare_int (nrms [.o, .o] [a0, a1]) []).bind (fun (p : AV × Hp) => cvt false p.2 p.1) = some v := (R_cmp_Compare_int_eq (fun v g => cvt false g v) a0 a1 []).trans hv
  exact (closedX_bind (shr := [.o]) ha e h).trans (congrArg (fun x => some (x, h)) (nrmR_rep 1 v))
noncomputable def d_document_compare : DTab := (updD (updD D0 57 G_cmp_Or_int) 58 G_cmp_Compare_int)
theorem d_document_compare_ok : DSound Try.prog d_document_compare := (DSound.ro (DSound.ro DSound.zero G_cmp_Or_int_ro F_cmp_Or_int_ok) G_cmp_Compare_int_ro F_cmp_Compare_int_ok)
@[simp] theorem d_document_compare_57 : d_document_compare 57 = some G_cmp_Or_int := rfl
@[simp] theorem d_document_compare_58 : d_document_compare 58 = some G_cmp_Compare_int := rfl
noncomputable def t_document_compare : Tab := (updF (updF T0 57 F_cmp_Or_int) 58 F_cmp_Compare_int)
theorem t_document_compare_ok : TSound Try.prog t_document_compare := (TSound.upd (TSound.upd TSound.zero F_cmp_Or_int_ok) F_cmp_Compare_int_ok)
@[simp] theorem t_document_compare_57 : t_document_compare 57 = some F_cmp_Or_int := rfl
@[simp] theorem t_document_compare_58 : t_document_compare 58 = some F_cmp_Compare_int := rfl
noncomputable def R_document_compare : Fun := runF Try.prog t_document_compare d_document_compare NN [0, 1, 2, 3, 4] Try.f40 2
theorem R_document_compare_ok : CSound Try.prog 40 R_document_compare := run_sound t_document_compare_ok d_document_compare_ok mixed Try.func40 (by kernel_rfl) NN
theorem R_document_compare_eq {β : Type} (K : AV → Hp → Option β) (a0 : AV) (a1 : AV) (h : Hp) : (R_document_compare [a0, a1] h).bind (fun p => K p.1 p.2) = f_document_compare Try.prog t_document_compare d_document_compare NN K a0 a1 h := by
  rw [← f_document_compare_run]; exact runF_bind rfl
noncomputable def F_document_compare : Fun := closedX [.o, .o] [.o] R_document_compare
theorem F_document_compare_ok : CSound Try.prog 40 F_document_compare := closedX_sound _ _ R_document_compare_ok
theorem F_document_compare_run {a0 : AV} {a1 : AV} {v : AV} (ha : plains [a0, a1] = true) (hv : f_document_compare Try.prog t_document_compare d_document_compare NN (fun v g => cvt false g v) a0 a1 [] = some v) (h : Hp) : F_document_compare [a0, a1] h = some (v, h) := by
  have e : (R_document_compare (nrms [.o, .o] [a0, a1]) []).bind (fun (p : AV × Hp) => cvt false p.2 p.1) = some v := (R_document_compare_eq (fun v g => cvt false g v) a0 a1 []).trans hv
  exact (closedX_bind (shr := [.o]) ha e h).trans (congrArg (fun x => some (x, h)) (nrmR_rep 1 v))
noncomputable def F_slices_SortFunc_Message__document_compare : Fun := sortF 7 okI 40 F_document_compare
theorem F_slices_SortFunc_Message__document_compare_ok : CSound Try.prog 39 F_slices_SortFunc_Message__document_compare := sortF_sound (ρ := Try.sort39_ren) Try.sort39 Try.isAgg23 Try.sizeOf23 ⟨Try.f39, Try.func39, by kernel_rfl, by kernel_rfl⟩ (by decide) F_document_compare_ok ⟨Try.f40, Try.func40, by kernel_rfl, by kernel_rfl⟩
noncomputable def d_slices_Compact_Message : DTab := D0
theorem d_slices_Compact_Message_ok : DSound Try.prog d_slices_Compact_Message := DSound.zero
noncomputable def t_slices_Compact_Message : Tab := T0
theorem t_slices_Compact_Message_ok : TSound Try.prog t_slices_Compact_Message := TSound.zero
noncomputable def R_slices_Compact_Message : Fun := runF Try.prog t_slices_Compact_Message d_slices_Compact_Message NN [0, 2, 3, 4, 5, 8, 13, 25, 32, 44] Try.f41 1
theorem R_slices_Compact_Message_ok : CSound Try.prog 41 R_slices_Compact_Message := run_sound t_slices_Compact_Message_ok d_slices_Compact_Message_ok mixed Try.func41 (by kernel_rfl) NN
theorem R_slices_Compact_Message_eq {β : Type} (K : AV → Hp → Option β) (a0 : AV) (h : Hp) : (R_slices_Compact_Message [a0] h).bind (fun p => K p.1 p.2) = f_slices_Compact_Message Try.prog t_slices_Compact_Message d_slices_Compact_Message NN K a0 h := by
  rw [← f_slices_Compact_Message_run]; exact runF_bind rfl
theorem R_slices_Compact_Message_raw (a0 : AV) (h : Hp) : R_slices_Compact_Message [a0] h = f_slices_Compact_Message Try.prog t_slices_Compact_Message d_slices_Compact_Message NN (fun v h => some (v, h)) a0 h := (bind_pair _).symm.trans (R_slices_Compact_Message_eq (fun v h => some (v, h)) a0 h)
noncomputable def d_document_Normal : DTab := D0
theorem d_document_Normal_ok : DSound Try.prog d_document_Normal := DSound.zero
noncomputable def t_document_Normal : Tab := (updF (updF (updF (updF (updF (updF T0 13 R_slices_Clone_Message) 37 F_slices_ContainsFunc_Message__document_Normal_1) 38 F_document_Normal_1) 39 F_slices_SortFunc_Message__document_compare) 40 F_document_compare) 41 R_slices_Compact_Message)
theorem t_document_Normal_ok : TSound Try.prog t_document_Normal := (TSound.upd (TSound.upd (TSound.upd (TSound.upd (TSound.upd (TSound.upd TSound.zero R_slices_Clone_Message_ok) F_slices_ContainsFunc_Message__document_Normal_1_ok) F_document_Normal_1_ok) F_slices_SortFunc_Message__document_compare_ok) F_document_compare_ok) R_slices_Compact_Message_ok)
@[simp] theorem t_document_Normal_13 : t_document_Normal 13 = some R_slices_Clone_Message := rfl
@[simp] theorem t_document_Normal_37 : t_document_Normal 37 = some F_slices_ContainsFunc_Message__document_Normal_1 := rfl
@[simp] theorem t_document_Normal_38 : t_document_Normal 38 = some F_document_Normal_1 := rfl
@[simp] theorem t_document_Normal_39 : t_document_Normal 39 = some F_slices_SortFunc_Message__document_compare := rfl
@[simp] theorem t_document_Normal_40 : t_document_Normal 40 = some F_document_compare := rfl
@[simp] theorem t_document_Normal_41 : t_document_Normal 41 = some R_slices_Compact_Message := rfl
noncomputable def R_document_Normal : Fun := runF Try.prog t_document_Normal d_document_Normal NN [0, 2, 3, 4, 7, 9] Try.f12 1
theorem R_document_Normal_ok : CSound Try.prog 12 R_document_Normal := run_sound t_document_Normal_ok d_document_Normal_ok mixed Try.func12 (by kernel_rfl) NN
theorem R_document_Normal_eq {β : Type} (K : AV → Hp → Option β) (a0 : AV) (h : Hp) : (R_document_Normal [a0] h).bind (fun p => K p.1 p.2) = f_document_Normal Try.prog t_document_Normal d_document_Normal NN K a0 h := by
  rw [← f_document_Normal_run]; exact runF_bind rfl
noncomputable def F_document_Normal : Fun := closedX [.l 7] [.l 7, .o] R_document_Normal
theorem F_document_Normal_ok : CSound Try.prog 12 F_document_Normal := closedX_sound _ _ R_document_Normal_ok
theorem F_document_Normal_run {a0 : AV} {v : AV} (ha : plains [a0] = true) (hv : f_document_Normal Try.prog t_document_Normal d_document_Normal NN (fun v g => cvt false g v) (nrm (.l 7) a0) [] = some v) (h : Hp) : F_document_Normal [a0] h = some ((nrmR [.l 7, .o] v), h) := by
  have e : (R_document_Normal (nrms [.l 7] [a0]) []).bind (fun (p : AV × Hp) => cvt false p.2 p.1) = some v := (R_document_Normal_eq (fun v g => cvt false g v) (nrm (.l 7) a0) []).trans hv
  exact (closedX_bind (shr := [.l 7, .o]) ha e h).trans (congrArg (fun x => some (x, h)) rfl)
theorem F_document_Normal_own {a0 : AV} {x0 : AV} {h : Hp} {v : AV} (ha : cvts false h [x0] = some [a0]) (hv : ∀ st, f_document_Normal Try.prog t_document_Normal d_document_Normal NN (fun v g => cvt st g v) (nrm (.l 7) a0) [] = some v) : F_document_Normal [x0] h = some ((nrmR [.l 7, .o] v), h) := by
  have e : ∀ st, (R_document_Normal (nrms [.l 7] [a0]) []).bind (fun (p : AV × Hp) => cvt st p.2 p.1) = some v := fun st => (R_document_Normal_eq (fun v g => cvt st g v) (nrm (.l 7) a0) []).trans (hv st)
  exact (closedX_ownB (shr := [.l 7, .o]) ha e).trans (congrArg (fun x => some (x, h)) rfl)
noncomputable def d_document_of : DTab := D0
theorem d_document_of_ok : DSound Try.prog d_document_of := DSound.zero
noncomputable def t_document_of : Tab := T0
theorem t_document_of_ok : TSound Try.prog t_document_of := TSound.zero
noncomputable def F_document_of : Fun := closedXK [.l 7, .o] [.o] (fun {β} (K : AV → Hp → Option β) (args : List AV) (h : Hp) => if args.length = 2 then runK Try.prog t_document_of d_document_of NN [0, 1, 4, 5, 6, 7, 8, 10, 11, 13, 17, 18, 19, 20, 26, 33, 34, 46, 55, 60, 63, 74, 78, 80, 84, 89, 92] Try.f46 K args h else none)
theorem F_document_of_ok : CSound Try.prog 46 F_document_of := closedXK_sound _ _ (runK_sound t_document_of_ok d_document_of_ok mixed Try.func46 (by kernel_rfl) NN)
theorem F_document_of_run {a0 : AV} {a1 : AV} {v : AV} (ha : plains [a0, a1] = true) (hv : f_document_of Try.prog t_document_of d_document_of NN (fun v g => cvt false g v) (nrm (.l 7) a0) a1 [] = some v) (h : Hp) : F_document_of [a0, a1] h = some (v, h) :=
  (closedXK_val (RK := (fun {β} (K : AV → Hp → Option β) (args : List AV) (h : Hp) => if args.length = 2 then runK Try.prog t_document_of d_document_of NN [0, 1, 4, 5, 6, 7, 8, 10, 11, 13, 17, 18, 19, 20, 26, 33, 34, 46, 55, 60, 63, 74, 78, 80, 84, 89, 92] Try.f46 K args h else none)) ha ((if_pos rfl).trans ((f_document_of_run t_document_of d_document_of NN (fun v g => cvt false g v) (nrm (.l 7) a0) a1 []).trans hv)) h).trans (congrArg (fun x => some (x, h)) (nrmR_rep 1 v))
noncomputable def d_document_Of : DTab := D0
theorem d_document_Of_ok : DSound Try.prog d_document_Of := DSound.zero
noncomputable def t_document_Of : Tab := (updF (updF T0 12 F_document_Normal) 46 F_document_of)
theorem t_document_Of_ok : TSound Try.prog t_document_Of := (TSound.upd (TSound.upd TSound.zero F_document_Normal_ok) F_document_of_ok)
@[simp] theorem t_document_Of_12 : t_document_Of 12 = some F_document_Normal := rfl
@[simp] theorem t_document_Of_46 : t_document_Of 46 = some F_document_of := rfl
noncomputable def R_document_Of : Fun := runF Try.prog t_document_Of d_document_Of NN [0, 1, 4, 5, 6, 7, 13, 18] Try.f18 2
theorem R_document_Of_ok : CSound Try.prog 18 R_document_Of := run_sound t_document_Of_ok d_document_Of_ok mixed Try.func18 (by kernel_rfl) NN
theorem R_document_Of_eq {β : Type} (K : AV → Hp → Option β) (a0 : AV) (a1 : AV) (h : Hp) : (R_document_Of [a0, a1] h).bind (fun p => K p.1 p.2) = f_document_Of Try.prog t_document_Of d_document_Of NN K a0 a1 h := by
  rw [← f_document_Of_run]; exact runF_bind rfl
noncomputable def F_document_Of : Fun := closedX [.l 7, .o] [.o, .o] R_document_Of
theorem F_document_Of_ok : CSound Try.prog 18 F_document_Of := closedX_sound _ _ R_document_Of_ok
theorem F_document_Of_run {a0 : AV} {a1 : AV} {v : AV} (ha : plains [a0, a1] = true) (hv : f_document_Of Try.prog t_document_Of d_document_Of NN (fun v g => cvt false g v) (nrm (.l 7) a0) a1 [] = some v) (h : Hp) : F_document_Of [a0, a1] h = some (v, h) := by
  have e : (R_document_Of (nrms [.l 7, .o] [a0, a1]) []).bind (fun (p : AV × Hp) => cvt false p.2 p.1) = some v := (R_document_Of_eq (fun v g => cvt false g v) (nrm (.l 7) a0) a1 []).trans hv
  exact (closedX_bind (shr := [.o, .o]) ha e h).trans (congrArg (fun x => some (x, h)) (nrmR_rep 2 v))
noncomputable def d_document_All : DTab := D0
theorem d_document_All_ok : DSound Try.prog d_document_All := DSound.zero
noncomputable def t_document_All : Tab := (updF (updF T0 12 F_document_Normal) 46 F_document_of)
theorem t_document_All_ok : TSound Try.prog t_document_All := (TSound.upd (TSound.upd TSound.zero F_document_Normal_ok) F_document_of_ok)
@[simp] theorem t_document_All_12 : t_document_All 12 = some F_document_Normal := rfl
@[simp] theorem t_document_All_46 : t_document_All 46 = some F_document_of := rfl
noncomputable def R_document_All : Fun := runF Try.prog t_document_All d_document_All NN [0, 2, 3, 4, 5, 6, 7, 8, 15, 17, 18, 19, 20, 36] Try.f20 1
theorem R_document_All_ok : CSound Try.prog 20 R_document_All := run_sound t_document_All_ok d_document_All_ok mixed Try.func20 (by kernel_rfl) NN
theorem R_document_All_eq {β : Type} (K : AV → Hp → Option β) (a0 : AV) (h : Hp) : (R_document_All [a0] h).bind (fun p => K p.1 p.2) = f_document_All Try.prog t_document_All d_document_All NN K a0 h := by
  rw [← f_document_All_run]; exact runF_bind rfl
noncomputable def F_document_All : Fun := closedX [.l 7] [.l 7, .o] R_document_All
theorem F_document_All_ok : CSound Try.prog 20 F_document_All := closedX_sound _ _ R_document_All_ok
theorem F_document_All_run {a0 : AV} {v : AV} (ha : plains [a0] = true) (hv : f_document_All Try.prog t_document_All d_document_All NN (fun v g => cvt false g v) (nrm (.l 7) a0) [] = some v) (h : Hp) : F_document_All [a0] h = some ((nrmR [.l 7, .o] v), h) := by
  have e : (R_document_All (nrms [.l 7] [a0]) []).bind (fun (p : AV × Hp) => cvt false p.2 p.1) = some v := (R_document_All_eq (fun v g => cvt false g v) (nrm (.l 7) a0) []).trans hv
  exact (closedX_bind (shr := [.l 7, .o]) ha e h).trans (congrArg (fun x => some (x, h)) rfl)
theorem F_document_All_own {a0 : AV} {x0 : AV} {h : Hp} {v : AV} (ha : cvts false h [x0] = some [a0]) (hv : ∀ st, f_document_All Try.prog t_document_All d_document_All NN (fun v g => cvt st g v) (nrm (.l 7) a0) [] = some v) : F_document_All [x0] h = some ((nrmR [.l 7, .o] v), h) := by
  have e : ∀ st, (R_document_All (nrms [.l 7] [a0]) []).bind (fun (p : AV × Hp) => cvt st p.2 p.1) = some v := fun st => (R_document_All_eq (fun v g => cvt st g v) (nrm (.l 7) a0) []).trans (hv st)
  exact (closedX_ownB (shr := [.l 7, .o]) ha e).trans (congrArg (fun x => some (x, h)) rfl)
noncomputable def d_document_Open : DTab := D0
theorem d_document_Open_ok : DSound Try.prog d_document_Open := DSound.zero
noncomputable def t_document_Open : Tab := (updF (updF T0 20 F_document_All) 44 F_document_node)
theorem t_document_Open_ok : TSound Try.prog t_document_Open := (TSound.upd (TSound.upd TSound.zero F_document_All_ok) F_document_node_ok)
@[simp] theorem t_document_Open_20 : t_document_Open 20 = some F_document_All := rfl
@[simp] theorem t_document_Open_44 : t_document_Open 44 = some F_document_node := rfl
noncomputable def R_document_Open : Fun := runF Try.prog t_document_Open d_document_Open NN [0, 1, 4, 5, 6, 7, 8, 10, 16, 20, 24, 25, 26, 27, 38] Try.f22 2
theorem R_document_Open_ok : CSound Try.prog 22 R_document_Open := run_sound t_document_Open_ok d_document_Open_ok mixed Try.func22 (by kernel_rfl) NN
theorem R_document_Open_eq {β : Type} (K : AV → Hp → Option β) (a0 : AV) (a1 : AV) (h : Hp) : (R_document_Open [a0, a1] h).bind (fun p => K p.1 p.2) = f_document_Open Try.prog t_document_Open d_document_Open NN K a0 a1 h := by
  rw [← f_document_Open_run]; exact runF_bind rfl
noncomputable def F_document_Open : Fun := closedX [.l 7, .o] [.o, .o] R_document_Open
theorem F_document_Open_ok : CSound Try.prog 22 F_document_Open := closedX_sound _ _ R_document_Open_ok
theorem F_document_Open_run {a0 : AV} {a1 : AV} {v : AV} (ha : plains [a0, a1] = true) (hv : f_document_Open Try.prog t_document_Open d_document_Open NN (fun v g => cvt false g v) (nrm (.l 7) a0) a1 [] = some v) (h : Hp) : F_document_Open [a0, a1] h = some (v, h) := by
  have e : (R_document_Open (nrms [.l 7, .o] [a0, a1]) []).bind (fun (p : AV × Hp) => cvt false p.2 p.1) = some v := (R_document_Open_eq (fun v g => cvt false g v) (nrm (.l 7) a0) a1 []).trans hv
  exact (closedX_bind (shr := [.o, .o]) ha e h).trans (congrArg (fun x => some (x, h)) (nrmR_rep 2 v))
noncomputable def d_document_goes : DTab := D0
theorem d_document_goes_ok : DSound Try.prog d_document_goes := DSound.zero
noncomputable def t_document_goes : Tab := T0
theorem t_document_goes_ok : TSound Try.prog t_document_goes := TSound.zero
noncomputable def R_document_goes : Fun := runF Try.prog t_document_goes d_document_goes NN [0, 1, 2, 3, 4, 5, 11, 23, 27, 34] Try.f50 2
theorem R_document_goes_ok : CSound Try.prog 50 R_document_goes := run_sound t_document_goes_ok d_document_goes_ok mixed Try.func50 (by kernel_rfl) NN
theorem R_document_goes_eq {β : Type} (K : AV → Hp → Option β) (a0 : AV) (a1 : AV) (h : Hp) : (R_document_goes [a0, a1] h).bind (fun p => K p.1 p.2) = f_document_goes Try.prog t_document_goes d_document_goes NN K a0 a1 h := by
  rw [← f_document_goes_run]; exact runF_bind rfl
noncomputable def F_document_goes : Fun := closedX [.o, .o] [.o] R_document_goes
theorem F_document_goes_ok : CSound Try.prog 50 F_document_goes := closedX_sound _ _ R_document_goes_ok
theorem F_document_goes_run {a0 : AV} {a1 : AV} {v : AV} (ha : plains [a0, a1] = true) (hv : f_document_goes Try.prog t_document_goes d_document_goes NN (fun v g => cvt false g v) a0 a1 [] = some v) (h : Hp) : F_document_goes [a0, a1] h = some (v, h) := by
  have e : (R_document_goes (nrms [.o, .o] [a0, a1]) []).bind (fun (p : AV × Hp) => cvt false p.2 p.1) = some v := (R_document_goes_eq (fun v g => cvt false g v) a0 a1 []).trans hv
  exact (closedX_bind (shr := [.o]) ha e h).trans (congrArg (fun x => some (x, h)) (nrmR_rep 1 v))
noncomputable def d_document_Later : DTab := D0
theorem d_document_Later_ok : DSound Try.prog d_document_Later := DSound.zero
noncomputable def t_document_Later : Tab := (updF T0 50 F_document_goes)
theorem t_document_Later_ok : TSound Try.prog t_document_Later := (TSound.upd TSound.zero F_document_goes_ok)
@[simp] theorem t_document_Later_50 : t_document_Later 50 = some F_document_goes := rfl
noncomputable def R_document_Later : Fun := runF Try.prog t_document_Later d_document_Later NN [0, 1, 2, 3, 4, 5, 11] Try.f25 2
theorem R_document_Later_ok : CSound Try.prog 25 R_document_Later := run_sound t_document_Later_ok d_document_Later_ok mixed Try.func25 (by kernel_rfl) NN
theorem R_document_Later_eq {β : Type} (K : AV → Hp → Option β) (a0 : AV) (a1 : AV) (h : Hp) : (R_document_Later [a0, a1] h).bind (fun p => K p.1 p.2) = f_document_Later Try.prog t_document_Later d_document_Later NN K a0 a1 h := by
  rw [← f_document_Later_run]; exact runF_bind rfl
noncomputable def F_document_Later : Fun := closedX [.o, .o] [.o] R_document_Later
theorem F_document_Later_ok : CSound Try.prog 25 F_document_Later := closedX_sound _ _ R_document_Later_ok
theorem F_document_Later_run {a0 : AV} {a1 : AV} {v : AV} (ha : plains [a0, a1] = true) (hv : f_document_Later Try.prog t_document_Later d_document_Later NN (fun v g => cvt false g v) a0 a1 [] = some v) (h : Hp) : F_document_Later [a0, a1] h = some (v, h) := by
  have e : (R_document_Later (nrms [.o, .o] [a0, a1]) []).bind (fun (p : AV × Hp) => cvt false p.2 p.1) = some v := (R_document_Later_eq (fun v g => cvt false g v) a0 a1 []).trans hv
  exact (closedX_bind (shr := [.o]) ha e h).trans (congrArg (fun x => some (x, h)) (nrmR_rep 1 v))
noncomputable def d_slices_Equal_Document : DTab := D0
theorem d_slices_Equal_Document_ok : DSound Try.prog d_slices_Equal_Document := DSound.zero
noncomputable def t_slices_Equal_Document : Tab := T0
theorem t_slices_Equal_Document_ok : TSound Try.prog t_slices_Equal_Document := TSound.zero
noncomputable def R_slices_Equal_Document : Fun := runF Try.prog t_slices_Equal_Document d_slices_Equal_Document NN [0, 1, 4, 5, 10, 12, 13, 14, 24] Try.f34 2
theorem R_slices_Equal_Document_ok : CSound Try.prog 34 R_slices_Equal_Document := run_sound t_slices_Equal_Document_ok d_slices_Equal_Document_ok mixed Try.func34 (by kernel_rfl) NN
theorem R_slices_Equal_Document_eq {β : Type} (K : AV → Hp → Option β) (a0 : AV) (a1 : AV) (h : Hp) : (R_slices_Equal_Document [a0, a1] h).bind (fun p => K p.1 p.2) = f_slices_Equal_Document Try.prog t_slices_Equal_Document d_slices_Equal_Document NN K a0 a1 h := by
  rw [← f_slices_Equal_Document_run]; exact runF_bind rfl
noncomputable def F_slices_Equal_Document : Fun := closedX [.l 7, .l 7] [.o] R_slices_Equal_Document
theorem F_slices_Equal_Document_ok : CSound Try.prog 34 F_slices_Equal_Document := closedX_sound _ _ R_slices_Equal_Document_ok
theorem F_slices_Equal_Document_run {a0 : AV} {a1 : AV} {v : AV} (ha : plains [a0, a1] = true) (hv : f_slices_Equal_Document Try.prog t_slices_Equal_Document d_slices_Equal_Document NN (fun v g => cvt false g v) (nrm (.l 7) a0) (nrm (.l 7) a1) [] = some v) (h : Hp) : F_slices_Equal_Document [a0, a1] h = some (v, h) := by
  have e : (R_slices_Equal_Document (nrms [.l 7, .l 7] [a0, a1]) []).bind (fun (p : AV × Hp) => cvt false p.2 p.1) = some v := (R_slices_Equal_Document_eq (fun v g => cvt false g v) (nrm (.l 7) a0) (nrm (.l 7) a1) []).trans hv
  exact (closedX_bind (shr := [.o]) ha e h).trans (congrArg (fun x => some (x, h)) (nrmR_rep 1 v))
noncomputable def d_law40_example : DTab := D0
theorem d_law40_example_ok : DSound Try.prog d_law40_example := DSound.zero
noncomputable def t_law40_example : Tab := T0
theorem t_law40_example_ok : TSound Try.prog t_law40_example := TSound.zero
noncomputable def R_law40_example : Fun := runF Try.prog t_law40_example d_law40_example NN [0] Try.f36 0
theorem R_law40_example_ok : CSound Try.prog 36 R_law40_example := run_sound t_law40_example_ok d_law40_example_ok mixed Try.func36 (by kernel_rfl) NN
theorem R_law40_example_eq {β : Type} (K : AV → Hp → Option β) (h : Hp) : (R_law40_example [] h).bind (fun p => K p.1 p.2) = f_law40_example Try.prog t_law40_example d_law40_example NN K  h := by
  rw [← f_law40_example_run]; exact runF_bind rfl
theorem R_law40_example_raw (h : Hp) : R_law40_example [] h = f_law40_example Try.prog t_law40_example d_law40_example NN (fun v h => some (v, h))  h := (bind_pair _).symm.trans (R_law40_example_eq (fun v h => some (v, h))  h)
noncomputable def d_law40_awake : DTab := D0
theorem d_law40_awake_ok : DSound Try.prog d_law40_awake := DSound.zero
noncomputable def t_law40_awake : Tab := (updF (updF (updF (updF (updF (updF (updF T0 15 F_document_Check) 18 F_document_Of) 20 F_document_All) 22 F_document_Open) 25 F_document_Later) 34 F_slices_Equal_Document) 36 R_law40_example)
theorem t_law40_awake_ok : TSound Try.prog t_law40_awake := (TSound.upd (TSound.upd (TSound.upd (TSound.upd (TSound.upd (TSound.upd (TSound.upd TSound.zero F_document_Check_ok) F_document_Of_ok) F_document_All_ok) F_document_Open_ok) F_document_Later_ok) F_slices_Equal_Document_ok) R_law40_example_ok)
@[simp] theorem t_law40_awake_15 : t_law40_awake 15 = some F_document_Check := rfl
@[simp] theorem t_law40_awake_18 : t_law40_awake 18 = some F_document_Of := rfl
@[simp] theorem t_law40_awake_20 : t_law40_awake 20 = some F_document_All := rfl
@[simp] theorem t_law40_awake_22 : t_law40_awake 22 = some F_document_Open := rfl
@[simp] theorem t_law40_awake_25 : t_law40_awake 25 = some F_document_Later := rfl
@[simp] theorem t_law40_awake_34 : t_law40_awake 34 = some F_slices_Equal_Document := rfl
@[simp] theorem t_law40_awake_36 : t_law40_awake 36 = some R_law40_example := rfl
noncomputable def R_law40_awake : Fun := runF Try.prog t_law40_awake d_law40_awake NN [0, 1, 2, 3, 4, 5, 6, 7, 8, 9] Try.f10 0
theorem R_law40_awake_ok : CSound Try.prog 10 R_law40_awake := run_sound t_law40_awake_ok d_law40_awake_ok mixed Try.func10 (by kernel_rfl) NN
theorem R_law40_awake_eq {β : Type} (K : AV → Hp → Option β) (h : Hp) : (R_law40_awake [] h).bind (fun p => K p.1 p.2) = f_law40_awake Try.prog t_law40_awake d_law40_awake NN K  h := by
  rw [← f_law40_awake_run]; exact runF_bind rfl
noncomputable def F_law40_awake : Fun := closedX [] [.o] R_law40_awake
theorem F_law40_awake_ok : CSound Try.prog 10 F_law40_awake := closedX_sound _ _ R_law40_awake_ok
theorem F_law40_awake_run {v : AV} (ha : plains [] = true) (hv : f_law40_awake Try.prog t_law40_awake d_law40_awake NN (fun v g => cvt false g v)  [] = some v) (h : Hp) : F_law40_awake [] h = some (v, h) := by
  have e : (R_law40_awake (nrms [] []) []).bind (fun (p : AV × Hp) => cvt false p.2 p.1) = some v := (R_law40_awake_eq (fun v g => cvt false g v)  []).trans hv
  exact (closedX_bind (shr := [.o]) ha e h).trans (congrArg (fun x => some (x, h)) (nrmR_rep 1 v))
noncomputable def d_slices_Reverse_Message : DTab := D0
theorem d_slices_Reverse_Message_ok : DSound Try.prog d_slices_Reverse_Message := DSound.zero
noncomputable def t_slices_Reverse_Message : Tab := T0
theorem t_slices_Reverse_Message_ok : TSound Try.prog t_slices_Reverse_Message := TSound.zero
noncomputable def R_slices_Reverse_Message : Fun := runF Try.prog t_slices_Reverse_Message d_slices_Reverse_Message NN [0, 2, 3, 9] Try.f32 1
theorem R_slices_Reverse_Message_ok : CSound Try.prog 32 R_slices_Reverse_Message := run_sound t_slices_Reverse_Message_ok d_slices_Reverse_Message_ok mixed Try.func32 (by kernel_rfl) NN
theorem R_slices_Reverse_Message_eq {β : Type} (K : AV → Hp → Option β) (a0 : AV) (h : Hp) : (R_slices_Reverse_Message [a0] h).bind (fun p => K p.1 p.2) = f_slices_Reverse_Message Try.prog t_slices_Reverse_Message d_slices_Reverse_Message NN K a0 h := by
  rw [← f_slices_Reverse_Message_run]; exact runF_bind rfl
theorem R_slices_Reverse_Message_raw (a0 : AV) (h : Hp) : R_slices_Reverse_Message [a0] h = f_slices_Reverse_Message Try.prog t_slices_Reverse_Message d_slices_Reverse_Message NN (fun v h => some (v, h)) a0 h := (bind_pair _).symm.trans (R_slices_Reverse_Message_eq (fun v h => some (v, h)) a0 h)
def R_slices_Insert_Message : Fun := insF 7 56
theorem R_slices_Insert_Message_ok : CSound Try.prog 33 R_slices_Insert_Message := insF_sound insW_33
noncomputable def d_slices_Equal_Message : DTab := D0
theorem d_slices_Equal_Message_ok : DSound Try.prog d_slices_Equal_Message := DSound.zero
noncomputable def t_slices_Equal_Message : Tab := T0
theorem t_slices_Equal_Message_ok : TSound Try.prog t_slices_Equal_Message := TSound.zero
noncomputable def R_slices_Equal_Message : Fun := runF Try.prog t_slices_Equal_Message d_slices_Equal_Message NN [0, 1, 4, 5, 10, 12, 13, 14, 24] Try.f35 2
theorem R_slices_Equal_Message_ok : CSound Try.prog 35 R_slices_Equal_Message := run_sound t_slices_Equal_Message_ok d_slices_Equal_Message_ok mixed Try.func35 (by kernel_rfl) NN
theorem R_slices_Equal_Message_eq {β : Type} (K : AV → Hp → Option β) (a0 : AV) (a1 : AV) (h : Hp) : (R_slices_Equal_Message [a0, a1] h).bind (fun p => K p.1 p.2) = f_slices_Equal_Message Try.prog t_slices_Equal_Message d_slices_Equal_Message NN K a0 a1 h := by
  rw [← f_slices_Equal_Message_run]; exact runF_bind rfl
noncomputable def F_slices_Equal_Message : Fun := closedX [.l 7, .l 7] [.o] R_slices_Equal_Message
theorem F_slices_Equal_Message_ok : CSound Try.prog 35 F_slices_Equal_Message := closedX_sound _ _ R_slices_Equal_Message_ok
theorem F_slices_Equal_Message_run {a0 : AV} {a1 : AV} {v : AV} (ha : plains [a0, a1] = true) (hv : f_slices_Equal_Message Try.prog t_slices_Equal_Message d_slices_Equal_Message NN (fun v g => cvt false g v) (nrm (.l 7) a0) (nrm (.l 7) a1) [] = some v) (h : Hp) : F_slices_Equal_Message [a0, a1] h = some (v, h) := by
  have e : (R_slices_Equal_Message (nrms [.l 7, .l 7] [a0, a1]) []).bind (fun (p : AV × Hp) => cvt false p.2 p.1) = some v := (R_slices_Equal_Message_eq (fun v g => cvt false g v) (nrm (.l 7) a0) (nrm (.l 7) a1) []).trans hv
  exact (closedX_bind (shr := [.o]) ha e h).trans (congrArg (fun x => some (x, h)) (nrmR_rep 1 v))
noncomputable def d_law40_DocumentOrder : DTab := D0
theorem d_law40_DocumentOrder_ok : DSound Try.prog d_law40_DocumentOrder := DSound.zero
noncomputable def t_law40_DocumentOrder : Tab := (updF (updF (updF (updF (updF (updF (updF (updF T0 10 F_law40_awake) 12 F_document_Normal) 13 R_slices_Clone_Message) 20 F_document_All) 32 R_slices_Reverse_Message) 33 R_slices_Insert_Message) 34 F_slices_Equal_Document) 35 F_slices_Equal_Message)
theorem t_law40_DocumentOrder_ok : TSound Try.prog t_law40_DocumentOrder := (TSound.upd (TSound.upd (TSound.upd (TSound.upd (TSound.upd (TSound.upd (TSound.upd (TSound.upd TSound.zero F_law40_awake_ok) F_document_Normal_ok) R_slices_Clone_Message_ok) F_document_All_ok) R_slices_Reverse_Message_ok) R_slices_Insert_Message_ok) F_slices_Equal_Document_ok) F_slices_Equal_Message_ok)
@[simp] theorem t_law40_DocumentOrder_10 : t_law40_DocumentOrder 10 = some F_law40_awake := rfl
@[simp] theorem t_law40_DocumentOrder_12 : t_law40_DocumentOrder 12 = some F_document_Normal := rfl
@[simp] theorem t_law40_DocumentOrder_13 : t_law40_DocumentOrder 13 = some R_slices_Clone_Message := rfl
@[simp] theorem t_law40_DocumentOrder_20 : t_law40_DocumentOrder 20 = some F_document_All := rfl
@[simp] theorem t_law40_DocumentOrder_32 : t_law40_DocumentOrder 32 = some R_slices_Reverse_Message := rfl
@[simp] theorem t_law40_DocumentOrder_33 : t_law40_DocumentOrder 33 = some R_slices_Insert_Message := rfl
@[simp] theorem t_law40_DocumentOrder_34 : t_law40_DocumentOrder 34 = some F_slices_Equal_Document := rfl
@[simp] theorem t_law40_DocumentOrder_35 : t_law40_DocumentOrder 35 = some F_slices_Equal_Message := rfl
noncomputable def R_law40_DocumentOrder : Fun := runF Try.prog t_law40_DocumentOrder d_law40_DocumentOrder NN [0, 1, 4, 5, 7, 8, 9, 10, 11, 12, 13, 14, 15, 16, 18, 26, 31, 32, 33, 34, 39] Try.f9 2
theorem R_law40_DocumentOrder_ok : CSound Try.prog 9 R_law40_DocumentOrder := run_sound t_law40_DocumentOrder_ok d_law40_DocumentOrder_ok mixed Try.func9 (by kernel_rfl) NN
theorem R_law40_DocumentOrder_eq {β : Type} (K : AV → Hp → Option β) (a0 : AV) (a1 : AV) (h : Hp) : (R_law40_DocumentOrder [a0, a1] h).bind (fun p => K p.1 p.2) = f_law40_DocumentOrder Try.prog t_law40_DocumentOrder d_law40_DocumentOrder NN K a0 a1 h := by
  rw [← f_law40_DocumentOrder_run]; exact runF_bind rfl
noncomputable def F_law40_DocumentOrder : Fun := closedX [.l 7, .l 1] [.o] R_law40_DocumentOrder
theorem F_law40_DocumentOrder_ok : CSound Try.prog 9 F_law40_DocumentOrder := closedX_sound _ _ R_law40_DocumentOrder_ok
theorem F_law40_DocumentOrder_run {a0 : AV} {a1 : AV} {v : AV} (ha : plains [a0, a1] = true) (hv : f_law40_DocumentOrder Try.prog t_law40_DocumentOrder d_law40_DocumentOrder NN (fun v g => cvt false g v) (nrm (.l 7) a0) (nrm (.l 1) a1) [] = some v) (h : Hp) : F_law40_DocumentOrder [a0, a1] h = some (v, h) := by
  have e : (R_law40_DocumentOrder (nrms [.l 7, .l 1] [a0, a1]) []).bind (fun (p : AV × Hp) => cvt false p.2 p.1) = some v := (R_law40_DocumentOrder_eq (fun v g => cvt false g v) (nrm (.l 7) a0) (nrm (.l 1) a1) []).trans hv
  exact (closedX_bind (shr := [.o]) ha e h).trans (congrArg (fun x => some (x, h)) (nrmR_rep 1 v))
end Go.AM


namespace Go.AM
set_option linter.unusedVariables false
set_option linter.unusedSimpArgs false
set_option linter.constructorNameAsVariable false
set_option maxRecDepth 30000
variable {β : Type} {P : Program} {kt : TypeId} {kk : IntKind}
end Go.AM


namespace Go.AM
set_option linter.unusedVariables false
def idOf : AV → Option Nat
  | .sl _ id .. => some id
  | _ => none
@[simp] theorem idOf_sl (sz id off len fr : Nat) (full : Bool) : idOf (.sl sz id off len fr full) = some id := rfl
@[simp] theorem idOf_nilS : idOf nilS = none := rfl
def Gro {α : Type} (sz : Nat) (f : α → List AV) (h : Hp) (v : AV) (l : List α) : Prop := (l = [] ∧ v = nilS) ∨ (l ≠ [] ∧ ∃ k, v = .sl sz k 0 l.length l.length false ∧ h[k]? = some (.arr sz (l.map f) true false))
section
variable {α β : Type} {sz : Nat} {f : α → List AV} {h h' : Hp} {v : AV} {l : List α}
theorem Gro.nil : Gro sz f h nilS [] := .inl ⟨rfl, rfl⟩
theorem Gro.keep (O : Gro sz f h v l) (hk : ∀ k o, idOf v = some k → h[k]? = some o → h'[k]? = some o) : Gro sz f h' v l := by
  rcases O with O | ⟨h1, k, rfl, h2⟩
  · exact .inl O
  · exact .inr ⟨h1, k, rfl, hk k _ rfl h2⟩
theorem Gro.app (O : Gro sz f h v l) (x : List AObj) : Gro sz f (h ++ x) v l := O.keep fun k o _ hk => get_app hk
theorem Gro.lt (O : Gro sz f h v l) {k : Nat} (hk : idOf v = some k) : k < h.length := by
  rcases O with ⟨_, rfl⟩ | ⟨h1, j, rfl, h2⟩
  · simp at hk
  · simp at hk; subst hk; exact (List.getElem?_eq_some_iff.1 h2).1
theorem Gro.len (O : Gro sz f h v l) (k : K β) : lenK v k = k (I l.length) := by
  rcases O with ⟨rfl, rfl⟩ | ⟨h1, j, rfl, h2⟩ <;> simp
theorem Gro.cvts (O : Gro sz f h v l) (hf : ∀ x st, (f x).all (fun c => bif st then isS c else plain c) = true) : ∃ w, (∀ st, Go.AM.cvt st h v = some w) ∧ nrm (.l sz) w = .lst sz l.isEmpty (l.map f) := by
  rcases O with ⟨rfl, rfl⟩ | ⟨h1, k, rfl, h2⟩
  · exact ⟨nilS, fun st => rfl, rfl⟩
  · have he : l.isEmpty = false := by simpa using h1
    refine ⟨.lst sz false (l.map f), fun st => cvt_whole h2 (by simp) (by simp) (okE_map fun x => hf x st), ?_⟩
    rw [he]; rfl
end
theorem Gro.snocE {α : Type} {sz : Nat} {f : α → List AV} {h : Hp} {v : AV} {l : List α} (O : Gro sz f h v l) {by_ m : Nat} {z : α} {b : Bool} (hm : h[m]? = some (.arr sz [f z] true false)) (hv : idOf v ≠ some m) (hf : ∀ x ∈ z :: l, (f x).length = sz) (hl : (l.length + 1) * by_ ≤ 140737488355328) :
    ∃ v' e, appE sz by_ v (.sl sz m 0 1 1 b) h h.length = some (v', e) ∧ Gro sz f (ap h e) v' (l ++ [z]) ∧ h.length ≤ (ap h e).length ∧ (∀ j o, h[j]? = some o → idOf v ≠ some j → (ap h e)[j]? = some o) ∧ (idOf v' = idOf v ∨ idOf v' = some h.length) := by
  have hz : (f z).length = sz := hf z (by simp)
  rcases O with ⟨rfl, rfl⟩ | ⟨h1, k, rfl, h2⟩
  · have hb : by_ ≤ 140737488355328 := by simpa using hl
    refine ⟨.sl sz h.length 0 1 1 false, ⟨[], [.arr sz [f z] true false], [m]⟩, by simp [appE, readSl, hm, hz, hb, idsOf], .inr ⟨by simp, h.length, rfl, by simp [ap]⟩, by simp [ap], fun j o hj _ => by simpa [ap] using get_app hj, .inr rfl⟩
  · have hkl := (List.getElem?_eq_some_iff.1 h2).1
    refine ⟨.sl sz k 0 (l ++ [z]).length (l ++ [z]).length false, ⟨[(k, .arr sz ((l ++ [z]).map f) true false)], [], [k, m]⟩, by simp [appE, readSl, hm, h2, hz, hl, idsOf], .inr ⟨by simp, k, rfl, by simp [ap, hkl]⟩, by simp [ap], fun j o hj hn => ?_, .inl rfl⟩
    have hkj : k ≠ j := by rintro rfl; exact hn rfl
    simp only [ap, List.foldl_cons, List.foldl_nil, List.append_nil]
    rw [List.getElem?_set_ne hkj]; exact hj
end Go.AM


namespace Go.AM
set_option linter.unusedVariables false
variable {α β : Type} {sz : Nat} {enc : α → List AV} {h : Hp}
structure Part (enc : α → List AV) (h : Hp) (p : AV × List α) : Prop where
  read : readSl h p.1 = some (p.2.map enc)
  len : lenK p.1 some = some (I p.2.length)
theorem Part.lenK {p : AV × List α} (q : Part enc h p) (k : K β) : Go.AM.lenK p.1 k = k (I p.2.length) := by rw [lenK_nat, q.len]; rfl
theorem Part.app {p : AV × List α} (q : Part enc h p) (g : List AObj) : Part enc (h ++ g) p := ⟨readSl_local q.read fun id _ o ho => get_app ho, q.len⟩
theorem Part.nil : Part enc h (nilS, []) := ⟨rfl, rfl⟩
theorem Part.lst (sz : Nat) (b : Bool) (l : List α) : Part enc h (.lst sz b (l.map enc), l) := ⟨rfl, by simp⟩
theorem Part.sl {sz id n : Nat} {b nl : Bool} {l : List α} (hid : h[id]? = some (.arr sz (l.map enc) true nl)) (hn : l.length = n) : Part enc h (.sl sz id 0 n n b, l) := by
  subst hn
  have ht : (l.map enc).take l.length = l.map enc := List.take_of_length_le (by simp)
  exact ⟨by simp [readSl, hid, ht], by simp⟩
def flat (ps : List (AV × List α)) : List α := ps.flatMap (·.2)
end Go.AM
namespace Go.AM
def notBehind {α : Type} (bef : α → α → Bool) : Option α → α → Bool
  | some q, p => !bef q p
  | none, _ => false
@[simp] theorem notBehind_some {α : Type} (bef : α → α → Bool) (q p : α) : notBehind bef (some q) p = !bef q p := rfl
@[simp] theorem notBehind_none {α : Type} (bef : α → α → Bool) (p : α) : notBehind bef none p = false := rfl
end Go.AM


namespace Go.AM
set_option linter.unusedVariables false
set_option linter.unusedSimpArgs false
section
variable {β : Type}
def Grm {α : Type} (sz : Nat) (f : α → List AV) (h : Hp) (v : AV) (l : List α) : Prop := ∃ k b, v = .sl sz k 0 l.length l.length b ∧ h[k]? = some (.arr sz (l.map f) true false) ∧ (b = true → l = [])
theorem Grm.keep {α : Type} {sz : Nat} {f : α → List AV} {h h' : Hp} {v : AV} {l : List α} (O : Grm sz f h v l) (hk : ∀ k o, idOf v = some k → h[k]? = some o → h'[k]? = some o) : Grm sz f h' v l := by
  obtain ⟨k, b, rfl, h2, h3⟩ := O
  exact ⟨k, b, rfl, hk k _ rfl h2, h3⟩
theorem Grm.app {α : Type} {sz : Nat} {f : α → List AV} {h : Hp} {v : AV} {l : List α} (O : Grm sz f h v l) (x : List AObj) : Grm sz f (h ++ x) v l := O.keep fun k o _ hk => get_app hk
theorem Grm.lt {α : Type} {sz : Nat} {f : α → List AV} {h : Hp} {v : AV} {l : List α} (O : Grm sz f h v l) : ∃ k, idOf v = some k ∧ k < h.length := by
  obtain ⟨k, b, rfl, h2, h3⟩ := O
  exact ⟨k, rfl, (List.getElem?_eq_some_iff.1 h2).1⟩
theorem Grm.snocE {α : Type} {sz : Nat} {f : α → List AV} {h : Hp} {v : AV} {l : List α} (O : Grm sz f h v l) {by_ m : Nat} {z : α} {b : Bool} (hm : h[m]? = some (.arr sz [f z] true false)) (hv : idOf v ≠ some m) (hf : ∀ x ∈ z :: l, (f x).length = sz) (hl : (l.length + 1) * by_ ≤ 140737488355328) :
    ∃ v' e, appE sz by_ v (.sl sz m 0 1 1 b) h h.length = some (v', e) ∧ Grm sz f (ap h e) v' (l ++ [z]) ∧ h.length ≤ (ap h e).length ∧ (∀ j o, h[j]? = some o → idOf v ≠ some j → (ap h e)[j]? = some o) ∧ (idOf v' = idOf v ∨ idOf v' = some h.length) ∧ (∀ i ∈ e.foot, some i = idOf v ∨ i = m) ∧ (∀ q ∈ e.puts, some q.1 = idOf v) := by
  have hz : (f z).length = sz := hf z (by simp)
  obtain ⟨k, bb, rfl, h2, h3⟩ := O
  have hkl := (List.getElem?_eq_some_iff.1 h2).1
  cases bb with
  | true =>
    have := h3 rfl
    subst this
    have hb : by_ ≤ 140737488355328 := by simpa using hl
    refine ⟨.sl sz h.length 0 1 1 false, ⟨[], [.arr sz [f z] true false], [k, m]⟩, by simp [appE, readSl, hm, hz, hb, idsOf, h2], ⟨h.length, false, rfl, by simp [ap], by simp⟩, by simp [ap], fun j o hj _ => by simpa [ap] using get_app hj, .inr rfl, fun i hi => by simp at hi; rcases hi with rfl | rfl <;> simp, by simp⟩
  | false =>
    refine ⟨.sl sz k 0 (l ++ [z]).length (l ++ [z]).length false, ⟨[(k, .arr sz ((l ++ [z]).map f) true false)], [], [k, m]⟩, by simp [appE, readSl, hm, h2, hz, hl, idsOf], ⟨k, false, rfl, by simp [ap, hkl], by simp⟩, by simp [ap], fun j o hj hn => ?_, .inl rfl, fun i hi => by simp at hi; rcases hi with rfl | rfl <;> simp, fun q hq => by simp at hq; subst hq; rfl⟩
    have hkj : k ≠ j := by rintro rfl; exact hn rfl
    simp only [ap, List.foldl_cons, List.foldl_nil, List.append_nil]
    rw [List.getElem?_set_ne hkj]; exact hj
theorem Grm.cvt {α : Type} {sz : Nat} {f : α → List AV} {h : Hp} {v : AV} {l : List α} (O : Grm sz f h v l) (hf : ∀ x st, (f x).all (fun c => bif st then isS c else plain c) = true) (st : Bool) : Go.AM.cvt st h v = some (.lst sz false (l.map f)) := by
  obtain ⟨k, b, rfl, h2, h3⟩ := O
  exact cvt_whole h2 (by simp) (by simp) (okE_map fun x => hf x st)
theorem Grm.len {α : Type} {sz : Nat} {f : α → List AV} {h : Hp} {v : AV} {l : List α} (O : Grm sz f h v l) (k : Go.AM.K β) : lenK v k = k (I l.length) := by
  obtain ⟨j, b, rfl, h2, h3⟩ := O
  simp
end
end Go.AM


namespace Go.AM
structure Msg where
  mv : Int
  kind : Int
  num : Int
  day : Int
  frm : Int
  to : Int
  alc : Int
deriving DecidableEq
def encM (m : Msg) : List AV := [I m.mv, I m.kind, I m.num, I m.day, I m.frm, I m.to, I m.alc]
structure Docu where
  mv : Int
  stage : Int
  frm : Int
  to : Int
  sent : Int
  got : Int
  chg : Int
deriving DecidableEq
def encDo (d : Docu) : List AV := [I d.mv, I d.stage, I d.frm, I d.to, I d.sent, I d.got, I d.chg]
section
variable {β : Type}
theorem effK_put {r : R} {v : AV} {id : Nat} {o : AObj} {ft : List Nat} {h : Hp} (hr : r = some (v, ⟨[(id, o)], [], ft⟩)) (k : AV → Hp → Option β) : effK r h k = k v (h.set id o) := by subst hr; simp [effK, ap]
theorem effD_put {r : R} {v : AV} {id : Nat} {o : AObj} {ft : List Nat} {h : Hp} (hr : r = some (v, ⟨[(id, o)], [], ft⟩)) (k : AV → Hp → Ent → Option β) : effD r h k = k v (h.set id o) (ft, [id]) := by subst hr; simp [effD, ap, wrOf]
theorem ld7_0_0 {a b c d e f g : AV} {t : Hp} {w n : Bool} (k : K β) : ldK 1 false (.ptr 0 0 0 1) (.arr 7 [[a, b, c, d, e, f, g]] w n :: t) k = k a := rfl
theorem es7_0_0 {a b c d e f g : AV} {x : Int} {t : Hp} {n : Bool} (k : AV → Hp → Option β) : effK (stE 1 (.ptr 0 0 0 1) (.s (.int .i64 x)) (.arr 7 [[a, b, c, d, e, f, g]] true n :: t)) (.arr 7 [[a, b, c, d, e, f, g]] true n :: t) k = k .u (.arr 7 [[(.s (.int .i64 x)), b, c, d, e, f, g]] true n :: t) := effK_put rfl k
theorem ed7_0_0 {a b c d e f g : AV} {x : Int} {t : Hp} {n : Bool} (k : AV → Hp → Ent → Option β) : effD (stE 1 (.ptr 0 0 0 1) (.s (.int .i64 x)) (.arr 7 [[a, b, c, d, e, f, g]] true n :: t)) (.arr 7 [[a, b, c, d, e, f, g]] true n :: t) k = k .u (.arr 7 [[(.s (.int .i64 x)), b, c, d, e, f, g]] true n :: t) ([0], [0]) := effD_put rfl k
theorem ld7_0_1 {a b c d e f g : AV} {t : Hp} {w n : Bool} (k : K β) : ldK 1 false (.ptr 0 0 1 1) (.arr 7 [[a, b, c, d, e, f, g]] w n :: t) k = k b := rfl
theorem es7_0_1 {a b c d e f g : AV} {x : Int} {t : Hp} {n : Bool} (k : AV → Hp → Option β) : effK (stE 1 (.ptr 0 0 1 1) (.s (.int .i64 x)) (.arr 7 [[a, b, c, d, e, f, g]] true n :: t)) (.arr 7 [[a, b, c, d, e, f, g]] true n :: t) k = k .u (.arr 7 [[a, (.s (.int .i64 x)), c, d, e, f, g]] true n :: t) := effK_put rfl k
theorem ed7_0_1 {a b c d e f g : AV} {x : Int} {t : Hp} {n : Bool} (k : AV → Hp → Ent → Option β) : effD (stE 1 (.ptr 0 0 1 1) (.s (.int .i64 x)) (.arr 7 [[a, b, c, d, e, f, g]] true n :: t)) (.arr 7 [[a, b, c, d, e, f, g]] true n :: t) k = k .u (.arr 7 [[a, (.s (.int .i64 x)), c, d, e, f, g]] true n :: t) ([0], [0]) := effD_put rfl k
theorem ld7_0_2 {a b c d e f g : AV} {t : Hp} {w n : Bool} (k : K β) : ldK 1 false (.ptr 0 0 2 1) (.arr 7 [[a, b, c, d, e, f, g]] w n :: t) k = k c := rfl
theorem es7_0_2 {a b c d e f g : AV} {x : Int} {t : Hp} {n : Bool} (k : AV → Hp → Option β) : effK (stE 1 (.ptr 0 0 2 1) (.s (.int .i64 x)) (.arr 7 [[a, b, c, d, e, f, g]] true n :: t)) (.arr 7 [[a, b, c, d, e, f, g]] true n :: t) k = k .u (.arr 7 [[a, b, (.s (.int .i64 x)), d, e, f, g]] true n :: t) := effK_put rfl k
theorem ed7_0_2 {a b c d e f g : AV} {x : Int} {t : Hp} {n : Bool} (k : AV → Hp → Ent → Option β) : effD (stE 1 (.ptr 0 0 2 1) (.s (.int .i64 x)) (.arr 7 [[a, b, c, d, e, f, g]] true n :: t)) (.arr 7 [[a, b, c, d, e, f, g]] true n :: t) k = k .u (.arr 7 [[a, b, (.s (.int .i64 x)), d, e, f, g]] true n :: t) ([0], [0]) := effD_put rfl k
theorem ld7_0_3 {a b c d e f g : AV} {t : Hp} {w n : Bool} (k : K β) : ldK 1 false (.ptr 0 0 3 1) (.arr 7 [[a, b, c, d, e, f, g]] w n :: t) k = k d := rfl
theorem es7_0_3 {a b c d e f g : AV} {x : Int} {t : Hp} {n : Bool} (k : AV → Hp → Option β) : effK (stE 1 (.ptr 0 0 3 1) (.s (.int .i64 x)) (.arr 7 [[a, b, c, d, e, f, g]] true n :: t)) (.arr 7 [[a, b, c, d, e, f, g]] true n :: t) k = k .u (.arr 7 [[a, b, c, (.s (.int .i64 x)), e, f, g]] true n :: t) := effK_put rfl k
theorem ed7_0_3 {a b c d e f g : AV} {x : Int} {t : Hp} {n : Bool} (k : AV → Hp → Ent → Option β) : effD (stE 1 (.ptr 0 0 3 1) (.s (.int .i64 x)) (.arr 7 [[a, b, c, d, e, f, g]] true n :: t)) (.arr 7 [[a, b, c, d, e, f, g]] true n :: t) k = k .u (.arr 7 [[a, b, c, (.s (.int .i64 x)), e, f, g]] true n :: t) ([0], [0]) := effD_put rfl k
theorem ld7_0_4 {a b c d e f g : AV} {t : Hp} {w n : Bool} (k : K β) : ldK 1 false (.ptr 0 0 4 1) (.arr 7 [[a, b, c, d, e, f, g]] w n :: t) k = k e := rfl
theorem es7_0_4 {a b c d e f g : AV} {x : Int} {t : Hp} {n : Bool} (k : AV → Hp → Option β) : effK (stE 1 (.ptr 0 0 4 1) (.s (.int .i64 x)) (.arr 7 [[a, b, c, d, e, f, g]] true n :: t)) (.arr 7 [[a, b, c, d, e, f, g]] true n :: t) k = k .u (.arr 7 [[a, b, c, d, (.s (.int .i64 x)), f, g]] true n :: t) := effK_put rfl k
theorem ed7_0_4 {a b c d e f g : AV} {x : Int} {t : Hp} {n : Bool} (k : AV → Hp → Ent → Option β) : effD (stE 1 (.ptr 0 0 4 1) (.s (.int .i64 x)) (.arr 7 [[a, b, c, d, e, f, g]] true n :: t)) (.arr 7 [[a, b, c, d, e, f, g]] true n :: t) k = k .u (.arr 7 [[a, b, c, d, (.s (.int .i64 x)), f, g]] true n :: t) ([0], [0]) := effD_put rfl k
theorem ld7_0_5 {a b c d e f g : AV} {t : Hp} {w n : Bool} (k : K β) : ldK 1 false (.ptr 0 0 5 1) (.arr 7 [[a, b, c, d, e, f, g]] w n :: t) k = k f := rfl
theorem es7_0_5 {a b c d e f g : AV} {x : Int} {t : Hp} {n : Bool} (k : AV → Hp → Option β) : effK (stE 1 (.ptr 0 0 5 1) (.s (.int .i64 x)) (.arr 7 [[a, b, c, d, e, f, g]] true n :: t)) (.arr 7 [[a, b, c, d, e, f, g]] true n :: t) k = k .u (.arr 7 [[a, b, c, d, e, (.s (.int .i64 x)), g]] true n :: t) := effK_put rfl k
theorem ed7_0_5 {a b c d e f g : AV} {x : Int} {t : Hp} {n : Bool} (k : AV → Hp → Ent → Option β) : effD (stE 1 (.ptr 0 0 5 1) (.s (.int .i64 x)) (.arr 7 [[a, b, c, d, e, f, g]] true n :: t)) (.arr 7 [[a, b, c, d, e, f, g]] true n :: t) k = k .u (.arr 7 [[a, b, c, d, e, (.s (.int .i64 x)), g]] true n :: t) ([0], [0]) := effD_put rfl k
theorem ld7_0_6 {a b c d e f g : AV} {t : Hp} {w n : Bool} (k : K β) : ldK 1 false (.ptr 0 0 6 1) (.arr 7 [[a, b, c, d, e, f, g]] w n :: t) k = k g := rfl
theorem es7_0_6 {a b c d e f g : AV} {x : Int} {t : Hp} {n : Bool} (k : AV → Hp → Option β) : effK (stE 1 (.ptr 0 0 6 1) (.s (.int .i64 x)) (.arr 7 [[a, b, c, d, e, f, g]] true n :: t)) (.arr 7 [[a, b, c, d, e, f, g]] true n :: t) k = k .u (.arr 7 [[a, b, c, d, e, f, (.s (.int .i64 x))]] true n :: t) := effK_put rfl k
theorem ed7_0_6 {a b c d e f g : AV} {x : Int} {t : Hp} {n : Bool} (k : AV → Hp → Ent → Option β) : effD (stE 1 (.ptr 0 0 6 1) (.s (.int .i64 x)) (.arr 7 [[a, b, c, d, e, f, g]] true n :: t)) (.arr 7 [[a, b, c, d, e, f, g]] true n :: t) k = k .u (.arr 7 [[a, b, c, d, e, f, (.s (.int .i64 x))]] true n :: t) ([0], [0]) := effD_put rfl k
theorem lw7_0 {a b c d e f g : AV} {t : Hp} {w n : Bool} (k : K β) : ldK 7 true (.ptr 0 0 0 1) (.arr 7 [[a, b, c, d, e, f, g]] w n :: t) k = k (.agg [a, b, c, d, e, f, g]) := rfl
theorem ew7_0 {a b c d e f g : AV} {x0 x1 x2 x3 x4 x5 x6 : Int} {t : Hp} {n : Bool} (k : AV → Hp → Option β) : effK (stE 7 (.ptr 0 0 0 1) (.agg [(.s (.int .i64 x0)), (.s (.int .i64 x1)), (.s (.int .i64 x2)), (.s (.int .i64 x3)), (.s (.int .i64 x4)), (.s (.int .i64 x5)), (.s (.int .i64 x6))]) (.arr 7 [[a, b, c, d, e, f, g]] true n :: t)) (.arr 7 [[a, b, c, d, e, f, g]] true n :: t) k = k .u (.arr 7 [[(.s (.int .i64 x0)), (.s (.int .i64 x1)), (.s (.int .i64 x2)), (.s (.int .i64 x3)), (.s (.int .i64 x4)), (.s (.int .i64 x5)), (.s (.int .i64 x6))]] true n :: t) := effK_put rfl k
theorem bx7_0 {x0 x1 x2 x3 x4 x5 x6 : Int} (k : AV → Hp → Option β) : effK (boxE 7 (.agg [(.s (.int .i64 x0)), (.s (.int .i64 x1)), (.s (.int .i64 x2)), (.s (.int .i64 x3)), (.s (.int .i64 x4)), (.s (.int .i64 x5)), (.s (.int .i64 x6))]) ([] : Hp).length) [] k = k (.ptr 0 0 0 1) [.arr 7 [[(.s (.int .i64 x0)), (.s (.int .i64 x1)), (.s (.int .i64 x2)), (.s (.int .i64 x3)), (.s (.int .i64 x4)), (.s (.int .i64 x5)), (.s (.int .i64 x6))]] true false] := rfl
theorem ld7_1_0 {o0 : AObj} {a b c d e f g : AV} {t : Hp} {w n : Bool} (k : K β) : ldK 1 false (.ptr 1 0 0 1) (o0 :: .arr 7 [[a, b, c, d, e, f, g]] w n :: t) k = k a := rfl
theorem es7_1_0 {o0 : AObj} {a b c d e f g : AV} {x : Int} {t : Hp} {n : Bool} (k : AV → Hp → Option β) : effK (stE 1 (.ptr 1 0 0 1) (.s (.int .i64 x)) (o0 :: .arr 7 [[a, b, c, d, e, f, g]] true n :: t)) (o0 :: .arr 7 [[a, b, c, d, e, f, g]] true n :: t) k = k .u (o0 :: .arr 7 [[(.s (.int .i64 x)), b, c, d, e, f, g]] true n :: t) := effK_put rfl k
theorem ed7_1_0 {o0 : AObj} {a b c d e f g : AV} {x : Int} {t : Hp} {n : Bool} (k : AV → Hp → Ent → Option β) : effD (stE 1 (.ptr 1 0 0 1) (.s (.int .i64 x)) (o0 :: .arr 7 [[a, b, c, d, e, f, g]] true n :: t)) (o0 :: .arr 7 [[a, b, c, d, e, f, g]] true n :: t) k = k .u (o0 :: .arr 7 [[(.s (.int .i64 x)), b, c, d, e, f, g]] true n :: t) ([1], [1]) := effD_put rfl k
theorem ld7_1_1 {o0 : AObj} {a b c d e f g : AV} {t : Hp} {w n : Bool} (k : K β) : ldK 1 false (.ptr 1 0 1 1) (o0 :: .arr 7 [[a, b, c, d, e, f, g]] w n :: t) k = k b := rfl
theorem es7_1_1 {o0 : AObj} {a b c d e f g : AV} {x : Int} {t : Hp} {n : Bool} (k : AV → Hp → Option β) : effK (stE 1 (.ptr 1 0 1 1) (.s (.int .i64 x)) (o0 :: .arr 7 [[a, b, c, d, e, f, g]] true n :: t)) (o0 :: .arr 7 [[a, b, c, d, e, f, g]] true n :: t) k = k .u (o0 :: .arr 7 [[a, (.s (.int .i64 x)), c, d, e, f, g]] true n :: t) := effK_put rfl k
theorem ed7_1_1 {o0 : AObj} {a b c d e f g : AV} {x : Int} {t : Hp} {n : Bool} (k : AV → Hp → Ent → Option β) : effD (stE 1 (.ptr 1 0 1 1) (.s (.int .i64 x)) (o0 :: .arr 7 [[a, b, c, d, e, f, g]] true n :: t)) (o0 :: .arr 7 [[a, b, c, d, e, f, g]] true n :: t) k = k .u (o0 :: .arr 7 [[a, (.s (.int .i64 x)), c, d, e, f, g]] true n :: t) ([1], [1]) := effD_put rfl k
theorem ld7_1_2 {o0 : AObj} {a b c d e f g : AV} {t : Hp} {w n : Bool} (k : K β) : ldK 1 false (.ptr 1 0 2 1) (o0 :: .arr 7 [[a, b, c, d, e, f, g]] w n :: t) k = k c := rfl
theorem es7_1_2 {o0 : AObj} {a b c d e f g : AV} {x : Int} {t : Hp} {n : Bool} (k : AV → Hp → Option β) : effK (stE 1 (.ptr 1 0 2 1) (.s (.int .i64 x)) (o0 :: .arr 7 [[a, b, c, d, e, f, g]] true n :: t)) (o0 :: .arr 7 [[a, b, c, d, e, f, g]] true n :: t) k = k .u (o0 :: .arr 7 [[a, b, (.s (.int .i64 x)), d, e, f, g]] true n :: t) := effK_put rfl k
theorem ed7_1_2 {o0 : AObj} {a b c d e f g : AV} {x : Int} {t : Hp} {n : Bool} (k : AV → Hp → Ent → Option β) : effD (stE 1 (.ptr 1 0 2 1) (.s (.int .i64 x)) (o0 :: .arr 7 [[a, b, c, d, e, f, g]] true n :: t)) (o0 :: .arr 7 [[a, b, c, d, e, f, g]] true n :: t) k = k .u (o0 :: .arr 7 [[a, b, (.s (.int .i64 x)), d, e, f, g]] true n :: t) ([1], [1]) := effD_put rfl k
theorem ld7_1_3 {o0 : AObj} {a b c d e f g : AV} {t : Hp} {w n : Bool} (k : K β) : ldK 1 false (.ptr 1 0 3 1) (o0 :: .arr 7 [[a, b, c, d, e, f, g]] w n :: t) k = k d := rfl
theorem es7_1_3 {o0 : AObj} {a b c d e f g : AV} {x : Int} {t : Hp} {n : Bool} (k : AV → Hp → Option β) : effK (stE 1 (.ptr 1 0 3 1) (.s (.int .i64 x)) (o0 :: .arr 7 [[a, b, c, d, e, f, g]] true n :: t)) (o0 :: .arr 7 [[a, b, c, d, e, f, g]] true n :: t) k = k .u (o0 :: .arr 7 [[a, b, c, (.s (.int .i64 x)), e, f, g]] true n :: t) := effK_put rfl k
theorem ed7_1_3 {o0 : AObj} {a b c d e f g : AV} {x : Int} {t : Hp} {n : Bool} (k : AV → Hp → Ent → Option β) : effD (stE 1 (.ptr 1 0 3 1) (.s (.int .i64 x)) (o0 :: .arr 7 [[a, b, c, d, e, f, g]] true n :: t)) (o0 :: .arr 7 [[a, b, c, d, e, f, g]] true n :: t) k = k .u (o0 :: .arr 7 [[a, b, c, (.s (.int .i64 x)), e, f, g]] true n :: t) ([1], [1]) := effD_put rfl k
theorem ld7_1_4 {o0 : AObj} {a b c d e f g : AV} {t : Hp} {w n : Bool} (k : K β) : ldK 1 false (.ptr 1 0 4 1) (o0 :: .arr 7 [[a, b, c, d, e, f, g]] w n :: t) k = k e := rfl
theorem es7_1_4 {o0 : AObj} {a b c d e f g : AV} {x : Int} {t : Hp} {n : Bool} (k : AV → Hp → Option β) : effK (stE 1 (.ptr 1 0 4 1) (.s (.int .i64 x)) (o0 :: .arr 7 [[a, b, c, d, e, f, g]] true n :: t)) (o0 :: .arr 7 [[a, b, c, d, e, f, g]] true n :: t) k = k .u (o0 :: .arr 7 [[a, b, c, d, (.s (.int .i64 x)), f, g]] true n :: t) := effK_put rfl k
theorem ed7_1_4 {o0 : AObj} {a b c d e f g : AV} {x : Int} {t : Hp} {n : Bool} (k : AV → Hp → Ent → Option β) : effD (stE 1 (.ptr 1 0 4 1) (.s (.int .i64 x)) (o0 :: .arr 7 [[a, b, c, d, e, f, g]] true n :: t)) (o0 :: .arr 7 [[a, b, c, d, e, f, g]] true n :: t) k = k .u (o0 :: .arr 7 [[a, b, c, d, (.s (.int .i64 x)), f, g]] true n :: t) ([1], [1]) := effD_put rfl k
theorem ld7_1_5 {o0 : AObj} {a b c d e f g : AV} {t : Hp} {w n : Bool} (k : K β) : ldK 1 false (.ptr 1 0 5 1) (o0 :: .arr 7 [[a, b, c, d, e, f, g]] w n :: t) k = k f := rfl
theorem es7_1_5 {o0 : AObj} {a b c d e f g : AV} {x : Int} {t : Hp} {n : Bool} (k : AV → Hp → Option β) : effK (stE 1 (.ptr 1 0 5 1) (.s (.int .i64 x)) (o0 :: .arr 7 [[a, b, c, d, e, f, g]] true n :: t)) (o0 :: .arr 7 [[a, b, c, d, e, f, g]] true n :: t) k = k .u (o0 :: .arr 7 [[a, b, c, d, e, (.s (.int .i64 x)), g]] true n :: t) := effK_put rfl k
theorem ed7_1_5 {o0 : AObj} {a b c d e f g : AV} {x : Int} {t : Hp} {n : Bool} (k : AV → Hp → Ent → Option β) : effD (stE 1 (.ptr 1 0 5 1) (.s (.int .i64 x)) (o0 :: .arr 7 [[a, b, c, d, e, f, g]] true n :: t)) (o0 :: .arr 7 [[a, b, c, d, e, f, g]] true n :: t) k = k .u (o0 :: .arr 7 [[a, b, c, d, e, (.s (.int .i64 x)), g]] true n :: t) ([1], [1]) := effD_put rfl k
theorem ld7_1_6 {o0 : AObj} {a b c d e f g : AV} {t : Hp} {w n : Bool} (k : K β) : ldK 1 false (.ptr 1 0 6 1) (o0 :: .arr 7 [[a, b, c, d, e, f, g]] w n :: t) k = k g := rfl
theorem es7_1_6 {o0 : AObj} {a b c d e f g : AV} {x : Int} {t : Hp} {n : Bool} (k : AV → Hp → Option β) : effK (stE 1 (.ptr 1 0 6 1) (.s (.int .i64 x)) (o0 :: .arr 7 [[a, b, c, d, e, f, g]] true n :: t)) (o0 :: .arr 7 [[a, b, c, d, e, f, g]] true n :: t) k = k .u (o0 :: .arr 7 [[a, b, c, d, e, f, (.s (.int .i64 x))]] true n :: t) := effK_put rfl k
theorem ed7_1_6 {o0 : AObj} {a b c d e f g : AV} {x : Int} {t : Hp} {n : Bool} (k : AV → Hp → Ent → Option β) : effD (stE 1 (.ptr 1 0 6 1) (.s (.int .i64 x)) (o0 :: .arr 7 [[a, b, c, d, e, f, g]] true n :: t)) (o0 :: .arr 7 [[a, b, c, d, e, f, g]] true n :: t) k = k .u (o0 :: .arr 7 [[a, b, c, d, e, f, (.s (.int .i64 x))]] true n :: t) ([1], [1]) := effD_put rfl k
theorem lw7_1 {o0 : AObj} {a b c d e f g : AV} {t : Hp} {w n : Bool} (k : K β) : ldK 7 true (.ptr 1 0 0 1) (o0 :: .arr 7 [[a, b, c, d, e, f, g]] w n :: t) k = k (.agg [a, b, c, d, e, f, g]) := rfl
theorem ew7_1 {o0 : AObj} {a b c d e f g : AV} {x0 x1 x2 x3 x4 x5 x6 : Int} {t : Hp} {n : Bool} (k : AV → Hp → Option β) : effK (stE 7 (.ptr 1 0 0 1) (.agg [(.s (.int .i64 x0)), (.s (.int .i64 x1)), (.s (.int .i64 x2)), (.s (.int .i64 x3)), (.s (.int .i64 x4)), (.s (.int .i64 x5)), (.s (.int .i64 x6))]) (o0 :: .arr 7 [[a, b, c, d, e, f, g]] true n :: t)) (o0 :: .arr 7 [[a, b, c, d, e, f, g]] true n :: t) k = k .u (o0 :: .arr 7 [[(.s (.int .i64 x0)), (.s (.int .i64 x1)), (.s (.int .i64 x2)), (.s (.int .i64 x3)), (.s (.int .i64 x4)), (.s (.int .i64 x5)), (.s (.int .i64 x6))]] true n :: t) := effK_put rfl k
theorem bx7_1 {o0 : AObj} {x0 x1 x2 x3 x4 x5 x6 : Int} (k : AV → Hp → Option β) : effK (boxE 7 (.agg [(.s (.int .i64 x0)), (.s (.int .i64 x1)), (.s (.int .i64 x2)), (.s (.int .i64 x3)), (.s (.int .i64 x4)), (.s (.int .i64 x5)), (.s (.int .i64 x6))]) ([o0] : Hp).length) [o0] k = k (.ptr 1 0 0 1) [o0, .arr 7 [[(.s (.int .i64 x0)), (.s (.int .i64 x1)), (.s (.int .i64 x2)), (.s (.int .i64 x3)), (.s (.int .i64 x4)), (.s (.int .i64 x5)), (.s (.int .i64 x6))]] true false] := rfl
theorem ld7_2_0 {o0 : AObj} {o1 : AObj} {a b c d e f g : AV} {t : Hp} {w n : Bool} (k : K β) : ldK 1 false (.ptr 2 0 0 1) (o0 :: o1 :: .arr 7 [[a, b, c, d, e, f, g]] w n :: t) k = k a := rfl
theorem es7_2_0 {o0 : AObj} {o1 : AObj} {a b c d e f g : AV} {x : Int} {t : Hp} {n : Bool} (k : AV → Hp → Option β) : effK (stE 1 (.ptr 2 0 0 1) (.s (.int .i64 x)) (o0 :: o1 :: .arr 7 [[a, b, c, d, e, f, g]] true n :: t)) (o0 :: o1 :: .arr 7 [[a, b, c, d, e, f, g]] true n :: t) k = k .u (o0 :: o1 :: .arr 7 [[(.s (.int .i64 x)), b, c, d, e, f, g]] true n :: t) := effK_put rfl k
theorem ed7_2_0 {o0 : AObj} {o1 : AObj} {a b c d e f g : AV} {x : Int} {t : Hp} {n : Bool} (k : AV → Hp → Ent → Option β) : effD (stE 1 (.ptr 2 0 0 1) (.s (.int .i64 x)) (o0 :: o1 :: .arr 7 [[a, b, c, d, e, f, g]] true n :: t)) (o0 :: o1 :: .arr 7 [[a, b, c, d, e, f, g]] true n :: t) k = k .u (o0 :: o1 :: .arr 7 [[(.s (.int .i64 x)), b, c, d, e, f, g]] true n :: t) ([2], [2]) := effD_put rfl k
theorem ld7_2_1 {o0 : AObj} {o1 : AObj} {a b c d e f g : AV} {t : Hp} {w n : Bool} (k : K β) : ldK 1 false (.ptr 2 0 1 1) (o0 :: o1 :: .arr 7 [[a, b, c, d, e, f, g]] w n :: t) k = k b := rfl
theorem es7_2_1 {o0 : AObj} {o1 : AObj} {a b c d e f g : AV} {x : Int} {t : Hp} {n : Bool} (k : AV → Hp → Option β) : effK (stE 1 (.ptr 2 0 1 1) (.s (.int .i64 x)) (o0 :: o1 :: .arr 7 [[a, b, c, d, e, f, g]] true n :: t)) (o0 :: o1 :: .arr 7 [[a, b, c, d, e, f, g]] true n :: t) k = k .u (o0 :: o1 :: .arr 7 [[a, (.s (.int .i64 x)), c, d, e, f, g]] true n :: t) := effK_put rfl k
theorem ed7_2_1 {o0 : AObj} {o1 : AObj} {a b c d e f g : AV} {x : Int} {t : Hp} {n : Bool} (k : AV → Hp → Ent → Option β) : effD (stE 1 (.ptr 2 0 1 1) (.s (.int .i64 x)) (o0 :: o1 :: .arr 7 [[a, b, c, d, e, f, g]] true n :: t)) (o0 :: o1 :: .arr 7 [[a, b, c, d, e, f, g]] true n :: t) k = k .u (o0 :: o1 :: .arr 7 [[a, (.s (.int .i64 x)), c, d, e, f, g]] true n :: t) ([2], [2]) := effD_put rfl k
theorem ld7_2_2 {o0 : AObj} {o1 : AObj} {a b c d e f g : AV} {t : Hp} {w n : Bool} (k : K β) : ldK 1 false (.ptr 2 0 2 1) (o0 :: o1 :: .arr 7 [[a, b, c, d, e, f, g]] w n :: t) k = k c := rfl
theorem es7_2_2 {o0 : AObj} {o1 : AObj} {a b c d e f g : AV} {x : Int} {t : Hp} {n : Bool} (k : AV → Hp → Option β) : effK (stE 1 (.ptr 2 0 2 1) (.s (.int .i64 x)) (o0 :: o1 :: .arr 7 [[a, b, c, d, e, f, g]] true n :: t)) (o0 :: o1 :: .arr 7 [[a, b, c, d, e, f, g]] true n :: t) k = k .u (o0 :: o1 :: .arr 7 [[a, b, (.s (.int .i64 x)), d, e, f, g]] true n :: t) := effK_put rfl k
theorem ed7_2_2 {o0 : AObj} {o1 : AObj} {a b c d e f g : AV} {x : Int} {t : Hp} {n : Bool} (k : AV → Hp → Ent → Option β) : effD (stE 1 (.ptr 2 0 2 1) (.s (.int .i64 x)) (o0 :: o1 :: .arr 7 [[a, b, c, d, e, f, g]] true n :: t)) (o0 :: o1 :: .arr 7 [[a, b, c, d, e, f, g]] true n :: t) k = k .u (o0 :: o1 :: .arr 7 [[a, b, (.s (.int .i64 x)), d, e, f, g]] true n :: t) ([2], [2]) := effD_put rfl k
theorem ld7_2_3 {o0 : AObj} {o1 : AObj} {a b c d e f g : AV} {t : Hp} {w n : Bool} (k : K β) : ldK 1 false (.ptr 2 0 3 1) (o0 :: o1 :: .arr 7 [[a, b, c, d, e, f, g]] w n :: t) k = k d := rfl
theorem es7_2_3 {o0 : AObj} {o1 : AObj} {a b c d e f g : AV} {x : Int} {t : Hp} {n : Bool} (k : AV → Hp → Option β) : effK (stE 1 (.ptr 2 0 3 1) (.s (.int .i64 x)) (o0 :: o1 :: .arr 7 [[a, b, c, d, e, f, g]] true n :: t)) (o0 :: o1 :: .arr 7 [[a, b, c, d, e, f, g]] true n :: t) k = k .u (o0 :: o1 :: .arr 7 [[a, b, c, (.s (.int .i64 x)), e, f, g]] true n :: t) := effK_put rfl k
theorem ed7_2_3 {o0 : AObj} {o1 : AObj} {a b c d e f g : AV} {x : Int} {t : Hp} {n : Bool} (k : AV → Hp → Ent → Option β) : effD (stE 1 (.ptr 2 0 3 1) (.s (.int .i64 x)) (o0 :: o1 :: .arr 7 [[a, b, c, d, e, f, g]] true n :: t)) (o0 :: o1 :: .arr 7 [[a, b, c, d, e, f, g]] true n :: t) k = k .u (o0 :: o1 :: .arr 7 [[a, b, c, (.s (.int .i64 x)), e, f, g]] true n :: t) ([2], [2]) := effD_put rfl k
theorem ld7_2_4 {o0 : AObj} {o1 : AObj} {a b c d e f g : AV} {t : Hp} {w n : Bool} (k : K β) : ldK 1 false (.ptr 2 0 4 1) (o0 :: o1 :: .arr 7 [[a, b, c, d, e, f, g]] w n :: t) k = k e := rfl
theorem es7_2_4 {o0 : AObj} {o1 : AObj} {a b c d e f g : AV} {x : Int} {t : Hp} {n : Bool} (k : AV → Hp → Option β) : effK (stE 1 (.ptr 2 0 4 1) (.s (.int .i64 x)) (o0 :: o1 :: .arr 7 [[a, b, c, d, e, f, g]] true n :: t)) (o0 :: o1 :: .arr 7 [[a, b, c, d, e, f, g]] true n :: t) k = k .u (o0 :: o1 :: .arr 7 [[a, b, c, d, (.s (.int .i64 x)), f, g]] true n :: t) := effK_put rfl k
theorem ed7_2_4 {o0 : AObj} {o1 : AObj} {a b c d e f g : AV} {x : Int} {t : Hp} {n : Bool} (k : AV → Hp → Ent → Option β) : effD (stE 1 (.ptr 2 0 4 1) (.s (.int .i64 x)) (o0 :: o1 :: .arr 7 [[a, b, c, d, e, f, g]] true n :: t)) (o0 :: o1 :: .arr 7 [[a, b, c, d, e, f, g]] true n :: t) k = k .u (o0 :: o1 :: .arr 7 [[a, b, c, d, (.s (.int .i64 x)), f, g]] true n :: t) ([2], [2]) := effD_put rfl k
theorem ld7_2_5 {o0 : AObj} {o1 : AObj} {a b c d e f g : AV} {t : Hp} {w n : Bool} (k : K β) : ldK 1 false (.ptr 2 0 5 1) (o0 :: o1 :: .arr 7 [[a, b, c, d, e, f, g]] w n :: t) k = k f := rfl
theorem es7_2_5 {o0 : AObj} {o1 : AObj} {a b c d e f g : AV} {x : Int} {t : Hp} {n : Bool} (k : AV → Hp → Option β) : effK (stE 1 (.ptr 2 0 5 1) (.s (.int .i64 x)) (o0 :: o1 :: .arr 7 [[a, b, c, d, e, f, g]] true n :: t)) (o0 :: o1 :: .arr 7 [[a, b, c, d, e, f, g]] true n :: t) k = k .u (o0 :: o1 :: .arr 7 [[a, b, c, d, e, (.s (.int .i64 x)), g]] true n :: t) := effK_put rfl k
theorem ed7_2_5 {o0 : AObj} {o1 : AObj} {a b c d e f g : AV} {x : Int} {t : Hp} {n : Bool} (k : AV → Hp → Ent → Option β) : effD (stE 1 (.ptr 2 0 5 1) (.s (.int .i64 x)) (o0 :: o1 :: .arr 7 [[a, b, c, d, e, f, g]] true n :: t)) (o0 :: o1 :: .arr 7 [[a, b, c, d, e, f, g]] true n :: t) k = k .u (o0 :: o1 :: .arr 7 [[a, b, c, d, e, (.s (.int .i64 x)), g]] true n :: t) ([2], [2]) := effD_put rfl k
theorem ld7_2_6 {o0 : AObj} {o1 : AObj} {a b c d e f g : AV} {t : Hp} {w n : Bool} (k : K β) : ldK 1 false (.ptr 2 0 6 1) (o0 :: o1 :: .arr 7 [[a, b, c, d, e, f, g]] w n :: t) k = k g := rfl
theorem es7_2_6 {o0 : AObj} {o1 : AObj} {a b c d e f g : AV} {x : Int} {t : Hp} {n : Bool} (k : AV → Hp → Option β) : effK (stE 1 (.ptr 2 0 6 1) (.s (.int .i64 x)) (o0 :: o1 :: .arr 7 [[a, b, c, d, e, f, g]] true n :: t)) (o0 :: o1 :: .arr 7 [[a, b, c, d, e, f, g]] true n :: t) k = k .u (o0 :: o1 :: .arr 7 [[a, b, c, d, e, f, (.s (.int .i64 x))]] true n :: t) := effK_put rfl k
theorem ed7_2_6 {o0 : AObj} {o1 : AObj} {a b c d e f g : AV} {x : Int} {t : Hp} {n : Bool} (k : AV → Hp → Ent → Option β) : effD (stE 1 (.ptr 2 0 6 1) (.s (.int .i64 x)) (o0 :: o1 :: .arr 7 [[a, b, c, d, e, f, g]] true n :: t)) (o0 :: o1 :: .arr 7 [[a, b, c, d, e, f, g]] true n :: t) k = k .u (o0 :: o1 :: .arr 7 [[a, b, c, d, e, f, (.s (.int .i64 x))]] true n :: t) ([2], [2]) := effD_put rfl k
theorem lw7_2 {o0 : AObj} {o1 : AObj} {a b c d e f g : AV} {t : Hp} {w n : Bool} (k : K β) : ldK 7 true (.ptr 2 0 0 1) (o0 :: o1 :: .arr 7 [[a, b, c, d, e, f, g]] w n :: t) k = k (.agg [a, b, c, d, e, f, g]) := rfl
theorem ew7_2 {o0 : AObj} {o1 : AObj} {a b c d e f g : AV} {x0 x1 x2 x3 x4 x5 x6 : Int} {t : Hp} {n : Bool} (k : AV → Hp → Option β) : effK (stE 7 (.ptr 2 0 0 1) (.agg [(.s (.int .i64 x0)), (.s (.int .i64 x1)), (.s (.int .i64 x2)), (.s (.int .i64 x3)), (.s (.int .i64 x4)), (.s (.int .i64 x5)), (.s (.int .i64 x6))]) (o0 :: o1 :: .arr 7 [[a, b, c, d, e, f, g]] true n :: t)) (o0 :: o1 :: .arr 7 [[a, b, c, d, e, f, g]] true n :: t) k = k .u (o0 :: o1 :: .arr 7 [[(.s (.int .i64 x0)), (.s (.int .i64 x1)), (.s (.int .i64 x2)), (.s (.int .i64 x3)), (.s (.int .i64 x4)), (.s (.int .i64 x5)), (.s (.int .i64 x6))]] true n :: t) := effK_put rfl k
theorem bx7_2 {o0 : AObj} {o1 : AObj} {x0 x1 x2 x3 x4 x5 x6 : Int} (k : AV → Hp → Option β) : effK (boxE 7 (.agg [(.s (.int .i64 x0)), (.s (.int .i64 x1)), (.s (.int .i64 x2)), (.s (.int .i64 x3)), (.s (.int .i64 x4)), (.s (.int .i64 x5)), (.s (.int .i64 x6))]) ([o0, o1] : Hp).length) [o0, o1] k = k (.ptr 2 0 0 1) [o0, o1, .arr 7 [[(.s (.int .i64 x0)), (.s (.int .i64 x1)), (.s (.int .i64 x2)), (.s (.int .i64 x3)), (.s (.int .i64 x4)), (.s (.int .i64 x5)), (.s (.int .i64 x6))]] true false] := rfl
theorem ld7_3_0 {o0 : AObj} {o1 : AObj} {o2 : AObj} {a b c d e f g : AV} {t : Hp} {w n : Bool} (k : K β) : ldK 1 false (.ptr 3 0 0 1) (o0 :: o1 :: o2 :: .arr 7 [[a, b, c, d, e, f, g]] w n :: t) k = k a := rfl
theorem es7_3_0 {o0 : AObj} {o1 : AObj} {o2 : AObj} {a b c d e f g : AV} {x : Int} {t : Hp} {n : Bool} (k : AV → Hp → Option β) : effK (stE 1 (.ptr 3 0 0 1) (.s (.int .i64 x)) (o0 :: o1 :: o2 :: .arr 7 [[a, b, c, d, e, f, g]] true n :: t)) (o0 :: o1 :: o2 :: .arr 7 [[a, b, c, d, e, f, g]] true n :: t) k = k .u (o0 :: o1 :: o2 :: .arr 7 [[(.s (.int .i64 x)), b, c, d, e, f, g]] true n :: t) := effK_put rfl k
theorem ed7_3_0 {o0 : AObj} {o1 : AObj} {o2 : AObj} {a b c d e f g : AV} {x : Int} {t : Hp} {n : Bool} (k : AV → Hp → Ent → Option β) : effD (stE 1 (.ptr 3 0 0 1) (.s (.int .i64 x)) (o0 :: o1 :: o2 :: .arr 7 [[a, b, c, d, e, f, g]] true n :: t)) (o0 :: o1 :: o2 :: .arr 7 [[a, b, c, d, e, f, g]] true n :: t) k = k .u (o0 :: o1 :: o2 :: .arr 7 [[(.s (.int .i64 x)), b, c, d, e, f, g]] true n :: t) ([3], [3]) := effD_put rfl k
theorem ld7_3_1 {o0 : AObj} {o1 : AObj} {o2 : AObj} {a b c d e f g : AV} {t : Hp} {w n : Bool} (k : K β) : ldK 1 false (.ptr 3 0 1 1) (o0 :: o1 :: o2 :: .arr 7 [[a, b, c, d, e, f, g]] w n :: t) k = k b := rfl
theorem es7_3_1 {o0 : AObj} {o1 : AObj} {o2 : AObj} {a b c d e f g : AV} {x : Int} {t : Hp} {n : Bool} (k : AV → Hp → Option β) : effK (stE 1 (.ptr 3 0 1 1) (.s (.int .i64 x)) (o0 :: o1 :: o2 :: .arr 7 [[a, b, c, d, e, f, g]] true n :: t)) (o0 :: o1 :: o2 :: .arr 7 [[a, b, c, d, e, f, g]] true n :: t) k = k .u (o0 :: o1 :: o2 :: .arr 7 [[a, (.s (.int .i64 x)), c, d, e, f, g]] true n :: t) := effK_put rfl k
theorem ed7_3_1 {o0 : AObj} {o1 : AObj} {o2 : AObj} {a b c d e f g : AV} {x : Int} {t : Hp} {n : Bool} (k : AV → Hp → Ent → Option β) : effD (stE 1 (.ptr 3 0 1 1) (.s (.int .i64 x)) (o0 :: o1 :: o2 :: .arr 7 [[a, b, c, d, e, f, g]] true n :: t)) (o0 :: o1 :: o2 :: .arr 7 [[a, b, c, d, e, f, g]] true n :: t) k = k .u (o0 :: o1 :: o2 :: .arr 7 [[a, (.s (.int .i64 x)), c, d, e, f, g]] true n :: t) ([3], [3]) := effD_put rfl k
theorem ld7_3_2 {o0 : AObj} {o1 : AObj} {o2 : AObj} {a b c d e f g : AV} {t : Hp} {w n : Bool} (k : K β) : ldK 1 false (.ptr 3 0 2 1) (o0 :: o1 :: o2 :: .arr 7 [[a, b, c, d, e, f, g]] w n :: t) k = k c := rfl
theorem es7_3_2 {o0 : AObj} {o1 : AObj} {o2 : AObj} {a b c d e f g : AV} {x : Int} {t : Hp} {n : Bool} (k : AV → Hp → Option β) : effK (stE 1 (.ptr 3 0 2 1) (.s (.int .i64 x)) (o0 :: o1 :: o2 :: .arr 7 [[a, b, c, d, e, f, g]] true n :: t)) (o0 :: o1 :: o2 :: .arr 7 [[a, b, c, d, e, f, g]] true n :: t) k = k .u (o0 :: o1 :: o2 :: .arr 7 [[a, b, (.s (.int .i64 x)), d, e, f, g]] true n :: t) := effK_put rfl k
theorem ed7_3_2 {o0 : AObj} {o1 : AObj} {o2 : AObj} {a b c d e f g : AV} {x : Int} {t : Hp} {n : Bool} (k : AV → Hp → Ent → Option β) : effD (stE 1 (.ptr 3 0 2 1) (.s (.int .i64 x)) (o0 :: o1 :: o2 :: .arr 7 [[a, b, c, d, e, f, g]] true n :: t)) (o0 :: o1 :: o2 :: .arr 7 [[a, b, c, d, e, f, g]] true n :: t) k = k .u (o0 :: o1 :: o2 :: .arr 7 [[a, b, (.s (.int .i64 x)), d, e, f, g]] true n :: t) ([3], [3]) := effD_put rfl k
theorem ld7_3_3 {o0 : AObj} {o1 : AObj} {o2 : AObj} {a b c d e f g : AV} {t : Hp} {w n : Bool} (k : K β) : ldK 1 false (.ptr 3 0 3 1) (o0 :: o1 :: o2 :: .arr 7 [[a, b, c, d, e, f, g]] w n :: t) k = k d := rfl
theorem es7_3_3 {o0 : AObj} {o1 : AObj} {o2 : AObj} {a b c d e f g : AV} {x : Int} {t : Hp} {n : Bool} (k : AV → Hp → Option β) : effK (stE 1 (.ptr 3 0 3 1) (.s (.int .i64 x)) (o0 :: o1 :: o2 :: .arr 7 [[a, b, c, d, e, f, g]] true n :: t)) (o0 :: o1 :: o2 :: .arr 7 [[a, b, c, d, e, f, g]] true n :: t) k = k .u (o0 :: o1 :: o2 :: .arr 7 [[a, b, c, (.s (.int .i64 x)), e, f, g]] true n :: t) := effK_put rfl k
theorem ed7_3_3 {o0 : AObj} {o1 : AObj} {o2 : AObj} {a b c d e f g : AV} {x : Int} {t : Hp} {n : Bool} (k : AV → Hp → Ent → Option β) : effD (stE 1 (.ptr 3 0 3 1) (.s (.int .i64 x)) (o0 :: o1 :: o2 :: .arr 7 [[a, b, c, d, e, f, g]] true n :: t)) (o0 :: o1 :: o2 :: .arr 7 [[a, b, c, d, e, f, g]] true n :: t) k = k .u (o0 :: o1 :: o2 :: .arr 7 [[a, b, c, (.s (.int .i64 x)), e, f, g]] true n :: t) ([3], [3]) := effD_put rfl k
theorem ld7_3_4 {o0 : AObj} {o1 : AObj} {o2 : AObj} {a b c d e f g : AV} {t : Hp} {w n : Bool} (k : K β) : ldK 1 false (.ptr 3 0 4 1) (o0 :: o1 :: o2 :: .arr 7 [[a, b, c, d, e, f, g]] w n :: t) k = k e := rfl
theorem es7_3_4 {o0 : AObj} {o1 : AObj} {o2 : AObj} {a b c d e f g : AV} {x : Int} {t : Hp} {n : Bool} (k : AV → Hp → Option β) : effK (stE 1 (.ptr 3 0 4 1) (.s (.int .i64 x)) (o0 :: o1 :: o2 :: .arr 7 [[a, b, c, d, e, f, g]] true n :: t)) (o0 :: o1 :: o2 :: .arr 7 [[a, b, c, d, e, f, g]] true n :: t) k = k .u (o0 :: o1 :: o2 :: .arr 7 [[a, b, c, d, (.s (.int .i64 x)), f, g]] true n :: t) := effK_put rfl k
theorem ed7_3_4 {o0 : AObj} {o1 : AObj} {o2 : AObj} {a b c d e f g : AV} {x : Int} {t : Hp} {n : Bool} (k : AV → Hp → Ent → Option β) : effD (stE 1 (.ptr 3 0 4 1) (.s (.int .i64 x)) (o0 :: o1 :: o2 :: .arr 7 [[a, b, c, d, e, f, g]] true n :: t)) (o0 :: o1 :: o2 :: .arr 7 [[a, b, c, d, e, f, g]] true n :: t) k = k .u (o0 :: o1 :: o2 :: .arr 7 [[a, b, c, d, (.s (.int .i64 x)), f, g]] true n :: t) ([3], [3]) := effD_put rfl k
theorem ld7_3_5 {o0 : AObj} {o1 : AObj} {o2 : AObj} {a b c d e f g : AV} {t : Hp} {w n : Bool} (k : K β) : ldK 1 false (.ptr 3 0 5 1) (o0 :: o1 :: o2 :: .arr 7 [[a, b, c, d, e, f, g]] w n :: t) k = k f := rfl
theorem es7_3_5 {o0 : AObj} {o1 : AObj} {o2 : AObj} {a b c d e f g : AV} {x : Int} {t : Hp} {n : Bool} (k : AV → Hp → Option β) : effK (stE 1 (.ptr 3 0 5 1) (.s (.int .i64 x)) (o0 :: o1 :: o2 :: .arr 7 [[a, b, c, d, e, f, g]] true n :: t)) (o0 :: o1 :: o2 :: .arr 7 [[a, b, c, d, e, f, g]] true n :: t) k = k .u (o0 :: o1 :: o2 :: .arr 7 [[a, b, c, d, e, (.s (.int .i64 x)), g]] true n :: t) := effK_put rfl k
theorem ed7_3_5 {o0 : AObj} {o1 : AObj} {o2 : AObj} {a b c d e f g : AV} {x : Int} {t : Hp} {n : Bool} (k : AV → Hp → Ent → Option β) : effD (stE 1 (.ptr 3 0 5 1) (.s (.int .i64 x)) (o0 :: o1 :: o2 :: .arr 7 [[a, b, c, d, e, f, g]] true n :: t)) (o0 :: o1 :: o2 :: .arr 7 [[a, b, c, d, e, f, g]] true n :: t) k = k .u (o0 :: o1 :: o2 :: .arr 7 [[a, b, c, d, e, (.s (.int .i64 x)), g]] true n :: t) ([3], [3]) := effD_put rfl k
theorem ld7_3_6 {o0 : AObj} {o1 : AObj} {o2 : AObj} {a b c d e f g : AV} {t : Hp} {w n : Bool} (k : K β) : ldK 1 false (.ptr 3 0 6 1) (o0 :: o1 :: o2 :: .arr 7 [[a, b, c, d, e, f, g]] w n :: t) k = k g := rfl
theorem es7_3_6 {o0 : AObj} {o1 : AObj} {o2 : AObj} {a b c d e f g : AV} {x : Int} {t : Hp} {n : Bool} (k : AV → Hp → Option β) : effK (stE 1 (.ptr 3 0 6 1) (.s (.int .i64 x)) (o0 :: o1 :: o2 :: .arr 7 [[a, b, c, d, e, f, g]] true n :: t)) (o0 :: o1 :: o2 :: .arr 7 [[a, b, c, d, e, f, g]] true n :: t) k = k .u (o0 :: o1 :: o2 :: .arr 7 [[a, b, c, d, e, f, (.s (.int .i64 x))]] true n :: t) := effK_put rfl k
theorem ed7_3_6 {o0 : AObj} {o1 : AObj} {o2 : AObj} {a b c d e f g : AV} {x : Int} {t : Hp} {n : Bool} (k : AV → Hp → Ent → Option β) : effD (stE 1 (.ptr 3 0 6 1) (.s (.int .i64 x)) (o0 :: o1 :: o2 :: .arr 7 [[a, b, c, d, e, f, g]] true n :: t)) (o0 :: o1 :: o2 :: .arr 7 [[a, b, c, d, e, f, g]] true n :: t) k = k .u (o0 :: o1 :: o2 :: .arr 7 [[a, b, c, d, e, f, (.s (.int .i64 x))]] true n :: t) ([3], [3]) := effD_put rfl k
theorem lw7_3 {o0 : AObj} {o1 : AObj} {o2 : AObj} {a b c d e f g : AV} {t : Hp} {w n : Bool} (k : K β) : ldK 7 true (.ptr 3 0 0 1) (o0 :: o1 :: o2 :: .arr 7 [[a, b, c, d, e, f, g]] w n :: t) k = k (.agg [a, b, c, d, e, f, g]) := rfl
theorem ew7_3 {o0 : AObj} {o1 : AObj} {o2 : AObj} {a b c d e f g : AV} {x0 x1 x2 x3 x4 x5 x6 : Int} {t : Hp} {n : Bool} (k : AV → Hp → Option β) : effK (stE 7 (.ptr 3 0 0 1) (.agg [(.s (.int .i64 x0)), (.s (.int .i64 x1)), (.s (.int .i64 x2)), (.s (.int .i64 x3)), (.s (.int .i64 x4)), (.s (.int .i64 x5)), (.s (.int .i64 x6))]) (o0 :: o1 :: o2 :: .arr 7 [[a, b, c, d, e, f, g]] true n :: t)) (o0 :: o1 :: o2 :: .arr 7 [[a, b, c, d, e, f, g]] true n :: t) k = k .u (o0 :: o1 :: o2 :: .arr 7 [[(.s (.int .i64 x0)), (.s (.int .i64 x1)), (.s (.int .i64 x2)), (.s (.int .i64 x3)), (.s (.int .i64 x4)), (.s (.int .i64 x5)), (.s (.int .i64 x6))]] true n :: t) := effK_put rfl k
theorem bx7_3 {o0 : AObj} {o1 : AObj} {o2 : AObj} {x0 x1 x2 x3 x4 x5 x6 : Int} (k : AV → Hp → Option β) : effK (boxE 7 (.agg [(.s (.int .i64 x0)), (.s (.int .i64 x1)), (.s (.int .i64 x2)), (.s (.int .i64 x3)), (.s (.int .i64 x4)), (.s (.int .i64 x5)), (.s (.int .i64 x6))]) ([o0, o1, o2] : Hp).length) [o0, o1, o2] k = k (.ptr 3 0 0 1) [o0, o1, o2, .arr 7 [[(.s (.int .i64 x0)), (.s (.int .i64 x1)), (.s (.int .i64 x2)), (.s (.int .i64 x3)), (.s (.int .i64 x4)), (.s (.int .i64 x5)), (.s (.int .i64 x6))]] true false] := rfl
end
abbrev SLm (b : Bool) (l : List Msg) : AV := .lst 7 (b && l.isEmpty) (l.map encM)
end Go.AM


namespace Go.AM
set_option linter.unusedVariables false
variable {β : Type}
theorem arithK_cg {op : BinOp} {x : AV} {y : AV} {k : K β} {x' : AV} {y' : AV} (e_x : x = x') (e_y : y = y') : arithK op x y k = arithK op x' y' k := by subst e_x e_y; rfl
theorem eqK_cg {P : Program} {neq : Bool} {ty : TypeId} {x : AV} {y : AV} {h : Hp} {k : K β} {x' : AV} {y' : AV} {h' : Hp} (e_x : x = x') (e_y : y = y') (e_h : h = h') : eqK P neq ty x y h k = eqK P neq ty x' y' h' k := by subst e_x e_y e_h; rfl
theorem notK_cg {x : AV} {k : K β} {x' : AV} (e_x : x = x') : notK x k = notK x' k := by subst e_x; rfl
theorem convK_cg {P : Program} {a : TypeId} {b : TypeId} {x : AV} {k : K β} {x' : AV} (e_x : x = x') : convK P a b x k = convK P a b x' k := by subst e_x; rfl
theorem pickK_cg {c : AV} {a : AV} {b : AV} {k : K β} {c' : AV} {a' : AV} {b' : AV} (e_c : c = c') (e_a : a = a') (e_b : b = b') : pickK c a b k = pickK c' a' b' k := by subst e_c e_a e_b; rfl
theorem buildK_cg {z : List AV} {parts : List (Option (Nat × Nat) × AV)} {k : K β} {z' : List AV} (e_z : z = z') : buildK z parts k = buildK z' parts k := by subst e_z; rfl
theorem ldK_cg {n : Nat} {agg : Bool} {p : AV} {h : Hp} {k : K β} {p' : AV} {h' : Hp} (e_p : p = p') (e_h : h = h') : ldK n agg p h k = ldK n agg p' h' k := by subst e_p e_h; rfl
theorem nilK_cg {x : AV} {k : K β} {x' : AV} (e_x : x = x') : nilK x k = nilK x' k := by subst e_x; rfl
theorem sliceK_cg {n : Nat} {x : AV} {lo : Option AV} {hi : Option AV} {mx : Option AV} {k : K β} {x' : AV} (e_x : x = x') : sliceK n x lo hi mx k = sliceK n x' lo hi mx k := by subst e_x; rfl
theorem faK_cg {off : Nat} {p : AV} {k : K β} {p' : AV} (e_p : p = p') : faK off p k = faK off p' k := by subst e_p; rfl
theorem fldK_cg {n : Nat} {agg : Bool} {off : Nat} {x : AV} {k : K β} {x' : AV} (e_x : x = x') : fldK n agg off x k = fldK n agg off x' k := by subst e_x; rfl
theorem iaK_cg {n : Nat} {x : AV} {i : AV} {k : K β} {x' : AV} {i' : AV} (e_x : x = x') (e_i : i = i') : iaK n x i k = iaK n x' i' k := by subst e_x e_i; rfl
theorem iaA_cg {n : Nat} {len : Nat} {x : AV} {i : AV} {k : K β} {x' : AV} {i' : AV} (e_x : x = x') (e_i : i = i') : iaA n len x i k = iaA n len x' i' k := by subst e_x e_i; rfl
theorem lookK_cg {P : Program} {kt : TypeId} {z : AV} {ok : Bool} {m : AV} {kk : AV} {h : Hp} {k : K β} {z' : AV} {m' : AV} {kk' : AV} {h' : Hp} (e_z : z = z') (e_m : m = m') (e_kk : kk = kk') (e_h : h = h') : lookK P kt z ok m kk h k = lookK P kt z' ok m' kk' h' k := by subst e_z e_m e_kk e_h; rfl
theorem capK_cg {x : AV} {k : K β} {x' : AV} (e_x : x = x') : capK x k = capK x' k := by subst e_x; rfl
theorem exK_cg {x : AV} {i : Nat} {k : K β} {x' : AV} (e_x : x = x') : exK x i k = exK x' i k := by subst e_x; rfl
theorem lenK_cg {x : AV} {k : K β} {x' : AV} (e_x : x = x') : lenK x k = lenK x' k := by subst e_x; rfl
theorem minK_cg {x : AV} {y : AV} {k : K β} {x' : AV} {y' : AV} (e_x : x = x') (e_y : y = y') : minK x y k = minK x' y' k := by subst e_x e_y; rfl
theorem maxK_cg {x : AV} {y : AV} {k : K β} {x' : AV} {y' : AV} (e_x : x = x') (e_y : y = y') : maxK x y k = maxK x' y' k := by subst e_x e_y; rfl
theorem effK_cg {r : R} {h : Hp} {k : AV → Hp → Option β} {r' : R} {h' : Hp} (e_r : r = r') (e_h : h = h') : effK r h k = effK r' h' k := by subst e_r e_h; rfl
theorem callK_cg {F : Option Fun} {args : List AV} {h : Hp} {k : AV → Hp → Option β} {F' : Option Fun} {args' : List AV} {h' : Hp} (e_F : F = F') (e_args : args = args') (e_h : h = h') : callK F args h k = callK F' args' h' k := by subst e_F e_args e_h; rfl
theorem callVK_cg {T : Tab} {f : AV} {args : List AV} {h : Hp} {k : AV → Hp → Option β} {T' : Tab} {f' : AV} {args' : List AV} {h' : Hp} (e_T : T = T') (e_f : f = f') (e_args : args = args') (e_h : h = h') : callVK T f args h k = callVK T' f' args' h' k := by subst e_T e_f e_args e_h; rfl
theorem effD_cg {r : R} {h : Hp} {k : AV → Hp → Ent → Option β} {r' : R} {h' : Hp} (e_r : r = r') (e_h : h = h') : effD r h k = effD r' h' k := by subst e_r e_h; rfl
theorem gopD_cg {g : Option Bool} {h : Hp} {run : (AV → Hp → Ent → Option β) → Option β} {k : AV → Hp → Ent → Option β} {g' : Option Bool} {h' : Hp} (e_g : g = g') (e_h : h = h') : gopD g h run k = gopD g' h' run k := by subst e_g e_h; rfl
theorem grpK_cg {want : Bool} {x : AV} {h : Hp} {run : (AV → Hp → Option β) → Option β} {k : AV → Hp → Option β} {x' : AV} {h' : Hp} {run' : (AV → Hp → Option β) → Option β} (e_x : x = x') (e_h : h = h') (e_run : ∀ K, run K = run' K) : grpK want x h run k = grpK want x' h' run' k := by
  have : run = run' := funext e_run
  subst e_x e_h this; rfl
theorem condK_cg {c : AV} {a : Option β} {b : Option β} {c' : AV} (e_c : c = c') : condK c a b = condK c' a b := by subst e_c; rfl
theorem cond_cg {α : Type} {c c' : Bool} {a b : α} (e : c = c') : cond c a b = cond c' a b := by subst e; rfl
end Go.AM


namespace Go.AM
open Go.Proofs
set_option linter.unusedVariables false
set_option linter.unusedSimpArgs false
set_option linter.constructorNameAsVariable false
set_option maxRecDepth 20000
attribute [local congr] arithK_cg eqK_cg notK_cg convK_cg pickK_cg buildK_cg ldK_cg nilK_cg sliceK_cg faK_cg fldK_cg iaK_cg iaA_cg lookK_cg capK_cg exK_cg lenK_cg minK_cg maxK_cg effK_cg callK_cg callVK_cg effD_cg gopD_cg grpK_cg condK_cg cond_cg
def isNode (n : Int) : Bool := decide (1 ≤ n) && decide (n ≤ 99)
def formM (m : Msg) : Bool :=
  if m.kind = 1 then m.num == 0 && isNode m.frm && isNode m.to && m.frm != m.to && decide (1 ≤ m.alc) && decide (m.alc ≤ 10737418240000)
  else if m.kind = 2 then decide (1 ≤ m.num) && decide (m.num ≤ 64) && m.frm == 0 && isNode m.to && m.alc == 0
  else if m.kind = 3 then m.num == 0 && m.frm == 0 && m.to == 0 && decide (0 ≤ m.alc) && decide (m.alc ≤ 10737418240000)
  else m.num == 0 && m.frm == 0 && m.to == 0 && m.alc == 0
def rangeM (m : Msg) : Bool := decide (m.mv < 1) || decide (1073741824 < m.mv) || decide (m.kind < 1) || decide (5 < m.kind) || decide (m.day < 0) || decide (100000 < m.day)
def checkM (m : Msg) : Int := if rangeM m = true then 2 else if formM m = true then 0 else 1
theorem F_document_node_val (n : Int) (h : Hp) : F_document_node [I n] h = some (B (isNode n), h) := F_document_node_run rfl (by simp [f_document_node, isNode]) h
theorem F_document_Check_val (m : Msg) (h : Hp) : F_document_Check [.agg (encM m)] h = some (I (checkM m), h) := by
  refine F_document_Check_run (by simp [encM]) ?_ h
  obtain ⟨mv, kind, num, day, frm, to, alc⟩ := m
  obtain ⟨r, hr⟩ : ∃ r, rangeM ⟨mv, kind, num, day, frm, to, alc⟩ = r := ⟨_, rfl⟩
  have hr' := hr
  simp only [rangeM] at hr'
  simp only [checkM, hr]
  have b0 : ∀ k : Go.AM.K AV, buildK [I 0, I 0, I 0, I 0, I 0, I 0, I 0] [(some (0, 1), I mv), (some (1, 1), I kind), (some (3, 1), I day)] k = k (.agg [I mv, I kind, I 0, I day, I 0, I 0, I 0]) := fun k => rfl
  simp only [f_document_Check, encM, encDo, faK_ptr, faK_ep, Nat.zero_add, Nat.add_zero, Nat.reduceAdd, ld7_0_0, es7_0_0, ed7_0_0, ld7_0_1, es7_0_1, ed7_0_1, ld7_0_2, es7_0_2, ed7_0_2, ld7_0_3, es7_0_3, ed7_0_3, ld7_0_4, es7_0_4, ed7_0_4, ld7_0_5, es7_0_5, ed7_0_5, ld7_0_6, es7_0_6, ed7_0_6, lw7_0, ew7_0, bx7_0, ld7_1_0, es7_1_0, ed7_1_0, ld7_1_1, es7_1_1, ed7_1_1, ld7_1_2, es7_1_2, ed7_1_2, ld7_1_3, es7_1_3, ed7_1_3, ld7_1_4, es7_1_4, ed7_1_4, ld7_1_5, es7_1_5, ed7_1_5, ld7_1_6, es7_1_6, ed7_1_6, lw7_1, ew7_1, bx7_1, ld7_2_0, es7_2_0, ed7_2_0, ld7_2_1, es7_2_1, ed7_2_1, ld7_2_2, es7_2_2, ed7_2_2, ld7_2_3, es7_2_3, ed7_2_3, ld7_2_4, es7_2_4, ed7_2_4, ld7_2_5, es7_2_5, ed7_2_5, ld7_2_6, es7_2_6, ed7_2_6, lw7_2, ew7_2, bx7_2, ld7_3_0, es7_3_0, ed7_3_0, ld7_3_1, es7_3_1, ed7_3_1, ld7_3_2, es7_3_2, ed7_3_2, ld7_3_3, es7_3_3, ed7_3_3, ld7_3_4, es7_3_4, ed7_3_4, ld7_3_5, es7_3_5, ed7_3_5, ld7_3_6, es7_3_6, ed7_3_6, lw7_3, ew7_3, bx7_3, ldK_ep, arithK_lss, arithK_leq, arithK_gtr, arithK_geq, grpK_or, grpK_and, condK_bool, eqK_int, notK_bool, Bool.false_xor, Bool.true_xor, callK_F, exK_tup, lenK_lst, lenK_sl, lenK_nil, List.length_map, hr', b0]
  have n1 := F_document_node_val frm
  have n2 := F_document_node_val to
  clear hr hr'
  cases r with
  | true => rfl
  | false =>
    by_cases k1 : kind = 1
    · subst k1
      simp only [if_true, Bool.false_eq_true, if_false, beq_self_eq_true, t_document_Check_44, callK_F, f_document_Check_j2, f_document_Check_j1, n1, n2, encM, encDo, faK_ptr, faK_ep, Nat.zero_add, Nat.add_zero, Nat.reduceAdd, ld7_0_0, es7_0_0, ed7_0_0, ld7_0_1, es7_0_1, ed7_0_1, ld7_0_2, es7_0_2, ed7_0_2, ld7_0_3, es7_0_3, ed7_0_3, ld7_0_4, es7_0_4, ed7_0_4, ld7_0_5, es7_0_5, ed7_0_5, ld7_0_6, es7_0_6, ed7_0_6, lw7_0, ew7_0, bx7_0, ld7_1_0, es7_1_0, ed7_1_0, ld7_1_1, es7_1_1, ed7_1_1, ld7_1_2, es7_1_2, ed7_1_2, ld7_1_3, es7_1_3, ed7_1_3, ld7_1_4, es7_1_4, ed7_1_4, ld7_1_5, es7_1_5, ed7_1_5, ld7_1_6, es7_1_6, ed7_1_6, lw7_1, ew7_1, bx7_1, ld7_2_0, es7_2_0, ed7_2_0, ld7_2_1, es7_2_1, ed7_2_1, ld7_2_2, es7_2_2, ed7_2_2, ld7_2_3, es7_2_3, ed7_2_3, ld7_2_4, es7_2_4, ed7_2_4, ld7_2_5, es7_2_5, ed7_2_5, ld7_2_6, es7_2_6, ed7_2_6, lw7_2, ew7_2, bx7_2, ld7_3_0, es7_3_0, ed7_3_0, ld7_3_1, es7_3_1, ed7_3_1, ld7_3_2, es7_3_2, ed7_3_2, ld7_3_3, es7_3_3, ed7_3_3, ld7_3_4, es7_3_4, ed7_3_4, ld7_3_5, es7_3_5, ed7_3_5, ld7_3_6, es7_3_6, ed7_3_6, lw7_3, ew7_3, bx7_3, ldK_ep, arithK_lss, arithK_leq, arithK_gtr, arithK_geq, grpK_or, grpK_and, condK_bool, eqK_int, notK_bool, Bool.false_xor, Bool.true_xor, callK_F, exK_tup, lenK_lst, lenK_sl, lenK_nil, List.length_map, formM, show (disjAll [(3, 7), (5, 7), (5, 9)] [([], []), (idsOf (AV.ptr 0 0 4 1), []), ([], []), (idsOf (AV.ptr 0 0 5 1), []), ([], []), (idsOf (AV.ptr 0 0 6 1), []), ([], []), ([1], [1]), ([], []), ([1], [1]), ([], []), ([1], [1])]) = true from rfl, cond_true, eqs_23]
      clear n1 n2 b0
      by_cases h1 : num = 0
      · subst h1
        simp only [beq_self_eq_true, Bool.true_and, Bool.and_self, Bool.not_true, Bool.or_false, show (frm != to) = !(frm == to) from rfl]
        generalize (isNode frm && isNode to && !(frm == to) && decide (1 ≤ alc) && decide (alc ≤ 10737418240000)) = e
        cases e <;> rfl
      · simp [h1]
    by_cases k2 : kind = 2
    · subst k2
      simp only [if_true, Bool.false_eq_true, if_false, beq_self_eq_true, t_document_Check_44, callK_F, f_document_Check_j2, f_document_Check_j1, n1, n2, encM, encDo, faK_ptr, faK_ep, Nat.zero_add, Nat.add_zero, Nat.reduceAdd, ld7_0_0, es7_0_0, ed7_0_0, ld7_0_1, es7_0_1, ed7_0_1, ld7_0_2, es7_0_2, ed7_0_2, ld7_0_3, es7_0_3, ed7_0_3, ld7_0_4, es7_0_4, ed7_0_4, ld7_0_5, es7_0_5, ed7_0_5, ld7_0_6, es7_0_6, ed7_0_6, lw7_0, ew7_0, bx7_0, ld7_1_0, es7_1_0, ed7_1_0, ld7_1_1, es7_1_1, ed7_1_1, ld7_1_2, es7_1_2, ed7_1_2, ld7_1_3, es7_1_3, ed7_1_3, ld7_1_4, es7_1_4, ed7_1_4, ld7_1_5, es7_1_5, ed7_1_5, ld7_1_6, es7_1_6, ed7_1_6, lw7_1, ew7_1, bx7_1, ld7_2_0, es7_2_0, ed7_2_0, ld7_2_1, es7_2_1, ed7_2_1, ld7_2_2, es7_2_2, ed7_2_2, ld7_2_3, es7_2_3, ed7_2_3, ld7_2_4, es7_2_4, ed7_2_4, ld7_2_5, es7_2_5, ed7_2_5, ld7_2_6, es7_2_6, ed7_2_6, lw7_2, ew7_2, bx7_2, ld7_3_0, es7_3_0, ed7_3_0, ld7_3_1, es7_3_1, ed7_3_1, ld7_3_2, es7_3_2, ed7_3_2, ld7_3_3, es7_3_3, ed7_3_3, ld7_3_4, es7_3_4, ed7_3_4, ld7_3_5, es7_3_5, ed7_3_5, ld7_3_6, es7_3_6, ed7_3_6, lw7_3, ew7_3, bx7_3, ldK_ep, arithK_lss, arithK_leq, arithK_gtr, arithK_geq, grpK_or, grpK_and, condK_bool, eqK_int, notK_bool, Bool.false_xor, Bool.true_xor, callK_F, exK_tup, lenK_lst, lenK_sl, lenK_nil, List.length_map, formM, show (disjAll [(3, 5)] [([], []), (idsOf (AV.ptr 0 0 2 1), []), ([], []), (idsOf (AV.ptr 0 0 5 1), []), ([], []), ([1], [1]), ([], []), ([1], [1])]) = true from rfl, cond_true, eqs_23, show ((2 : Int) == 1) = false from rfl, show ¬ ((2 : Int) = 1) by decide]
      clear n1 n2 b0
      by_cases h1 : frm = 0
      · by_cases h2 : alc = 0
        · subst h1 h2
          simp only [beq_self_eq_true, Bool.true_and, Bool.and_true, Bool.not_true, Bool.or_false]
          generalize (decide (1 ≤ num) && decide (num ≤ 64) && isNode to) = e
          cases e <;> rfl
        · simp [h1, h2]
      · simp [h1]
    by_cases k3 : kind = 3
    · subst k3
      simp only [if_true, Bool.false_eq_true, if_false, beq_self_eq_true, t_document_Check_44, callK_F, f_document_Check_j2, f_document_Check_j1, n1, n2, encM, encDo, faK_ptr, faK_ep, Nat.zero_add, Nat.add_zero, Nat.reduceAdd, ld7_0_0, es7_0_0, ed7_0_0, ld7_0_1, es7_0_1, ed7_0_1, ld7_0_2, es7_0_2, ed7_0_2, ld7_0_3, es7_0_3, ed7_0_3, ld7_0_4, es7_0_4, ed7_0_4, ld7_0_5, es7_0_5, ed7_0_5, ld7_0_6, es7_0_6, ed7_0_6, lw7_0, ew7_0, bx7_0, ld7_1_0, es7_1_0, ed7_1_0, ld7_1_1, es7_1_1, ed7_1_1, ld7_1_2, es7_1_2, ed7_1_2, ld7_1_3, es7_1_3, ed7_1_3, ld7_1_4, es7_1_4, ed7_1_4, ld7_1_5, es7_1_5, ed7_1_5, ld7_1_6, es7_1_6, ed7_1_6, lw7_1, ew7_1, bx7_1, ld7_2_0, es7_2_0, ed7_2_0, ld7_2_1, es7_2_1, ed7_2_1, ld7_2_2, es7_2_2, ed7_2_2, ld7_2_3, es7_2_3, ed7_2_3, ld7_2_4, es7_2_4, ed7_2_4, ld7_2_5, es7_2_5, ed7_2_5, ld7_2_6, es7_2_6, ed7_2_6, lw7_2, ew7_2, bx7_2, ld7_3_0, es7_3_0, ed7_3_0, ld7_3_1, es7_3_1, ed7_3_1, ld7_3_2, es7_3_2, ed7_3_2, ld7_3_3, es7_3_3, ed7_3_3, ld7_3_4, es7_3_4, ed7_3_4, ld7_3_5, es7_3_5, ed7_3_5, ld7_3_6, es7_3_6, ed7_3_6, lw7_3, ew7_3, bx7_3, ldK_ep, arithK_lss, arithK_leq, arithK_gtr, arithK_geq, grpK_or, grpK_and, condK_bool, eqK_int, notK_bool, Bool.false_xor, Bool.true_xor, callK_F, exK_tup, lenK_lst, lenK_sl, lenK_nil, List.length_map, formM, eqs_23, show ((3 : Int) == 1) = false from rfl, show ((3 : Int) == 2) = false from rfl, show ¬ ((3 : Int) = 1) by decide, show ¬ ((3 : Int) = 2) by decide]
      clear n1 n2 b0
      generalize hE : (decide (0 ≤ alc) && decide (alc ≤ 10737418240000)) = e
      have hA : ∀ x : Bool, (x && decide (0 ≤ alc) && decide (alc ≤ 10737418240000)) = (x && e) := fun x => by rw [Bool.and_assoc, hE]
      rw [hA]
      by_cases h1 : num = 0 <;> by_cases h2 : frm = 0 <;> by_cases h3 : to = 0 <;> simp [h1, h2, h3] <;> cases e <;> simp
    · have e1 : (kind == 1) = false := by simpa using k1
      have e2 : (kind == 2) = false := by simpa using k2
      have e3 : (kind == 3) = false := by simpa using k3
      simp only [if_true, Bool.false_eq_true, if_false, beq_self_eq_true, f_document_Check_j2, f_document_Check_j1, encM, encDo, faK_ptr, faK_ep, Nat.zero_add, Nat.add_zero, Nat.reduceAdd, ld7_0_0, es7_0_0, ed7_0_0, ld7_0_1, es7_0_1, ed7_0_1, ld7_0_2, es7_0_2, ed7_0_2, ld7_0_3, es7_0_3, ed7_0_3, ld7_0_4, es7_0_4, ed7_0_4, ld7_0_5, es7_0_5, ed7_0_5, ld7_0_6, es7_0_6, ed7_0_6, lw7_0, ew7_0, bx7_0, ld7_1_0, es7_1_0, ed7_1_0, ld7_1_1, es7_1_1, ed7_1_1, ld7_1_2, es7_1_2, ed7_1_2, ld7_1_3, es7_1_3, ed7_1_3, ld7_1_4, es7_1_4, ed7_1_4, ld7_1_5, es7_1_5, ed7_1_5, ld7_1_6, es7_1_6, ed7_1_6, lw7_1, ew7_1, bx7_1, ld7_2_0, es7_2_0, ed7_2_0, ld7_2_1, es7_2_1, ed7_2_1, ld7_2_2, es7_2_2, ed7_2_2, ld7_2_3, es7_2_3, ed7_2_3, ld7_2_4, es7_2_4, ed7_2_4, ld7_2_5, es7_2_5, ed7_2_5, ld7_2_6, es7_2_6, ed7_2_6, lw7_2, ew7_2, bx7_2, ld7_3_0, es7_3_0, ed7_3_0, ld7_3_1, es7_3_1, ed7_3_1, ld7_3_2, es7_3_2, ed7_3_2, ld7_3_3, es7_3_3, ed7_3_3, ld7_3_4, es7_3_4, ed7_3_4, ld7_3_5, es7_3_5, ed7_3_5, ld7_3_6, es7_3_6, ed7_3_6, lw7_3, ew7_3, bx7_3, ldK_ep, arithK_lss, arithK_leq, arithK_gtr, arithK_geq, grpK_or, grpK_and, condK_bool, eqK_int, notK_bool, Bool.false_xor, Bool.true_xor, callK_F, exK_tup, lenK_lst, lenK_sl, lenK_nil, List.length_map, formM, eqs_23, e1, e2, e3, k1, k2, k3]
      clear n1 n2 b0
      by_cases h1 : num = 0 <;> by_cases h2 : frm = 0 <;> by_cases h3 : to = 0 <;> by_cases h4 : alc = 0 <;> simp [h1, h2, h3, h4]
def cellsM (m : Msg) : List Int := [m.mv, m.kind, m.num, m.day, m.frm, m.to, m.alc]
def cmpZ (a b : Int) : Int := if a < b then -1 else if b < a then 1 else 0
theorem F_cmp_isNaN_int_val (a : Int) (h : Hp) : F_cmp_isNaN_int [I a] h = some (B false, h) := F_cmp_isNaN_int_run rfl (by simp [f_cmp_isNaN_int]) h
theorem F_cmp_Compare_int_val (a b : Int) (h : Hp) : F_cmp_Compare_int [I a, I b] h = some (I (cmpZ a b), h) := by
  refine F_cmp_Compare_int_run rfl ?_ h
  have n1 := F_cmp_isNaN_int_val
  by_cases h1 : a < b
  · simp [f_cmp_Compare_int, n1, h1, cmpZ]
  · by_cases h2 : b < a <;> simp [f_cmp_Compare_int, n1, h1, h2, cmpZ]
theorem G_cmp_Compare_int_val (a b : Int) (h : Hp) (base : Nat) : G_cmp_Compare_int [I a, I b] h base = some (I (cmpZ a b), EF []) := (closedXD_val (F_cmp_Compare_int_val a b h) base).trans (by simp [idss, ids])
def orZ : List Int → Int
  | [] => 0
  | a :: l => if a ≠ 0 then a else orZ l
theorem Or_L2 {T : Tab} {D : DTab} {N : Nat} {x0 : AV → Hp → Option AV} {xr : AV → Hp → Option AV} {h : Hp} (l : List Int) (b : Bool) (hx : ∀ z, x0 (I z) h = xr (I z) h) (hl : l.length < 1000) : ∀ (n : Nat) (pre post : List Int), l = pre ++ post → post.length < n →
    f_cmp_Or_int_L2 Try.prog T D N x0 xr n (I 0) (.lst 1 b (l.map fun z => [I z])) (I l.length) (I pre.length) h = xr (I (orZ post)) h := by
  intro n
  induction n with
  | zero => intro pre post _ h2; omega
  | succ n ih =>
    intro pre post hc hn
    show f_cmp_Or_int_b2 Try.prog T D N (f_cmp_Or_int_L2 Try.prog T D N x0 xr n) x0 xr _ _ _ _ h = _
    cases post with
    | nil =>
      have : l = pre := by simpa using hc
      subst this
      simp only [f_cmp_Or_int_b2, encM, encDo, faK_ptr, faK_ep, Nat.zero_add, Nat.add_zero, Nat.reduceAdd, ld7_0_0, es7_0_0, ed7_0_0, ld7_0_1, es7_0_1, ed7_0_1, ld7_0_2, es7_0_2, ed7_0_2, ld7_0_3, es7_0_3, ed7_0_3, ld7_0_4, es7_0_4, ed7_0_4, ld7_0_5, es7_0_5, ed7_0_5, ld7_0_6, es7_0_6, ed7_0_6, lw7_0, ew7_0, bx7_0, ld7_1_0, es7_1_0, ed7_1_0, ld7_1_1, es7_1_1, ed7_1_1, ld7_1_2, es7_1_2, ed7_1_2, ld7_1_3, es7_1_3, ed7_1_3, ld7_1_4, es7_1_4, ed7_1_4, ld7_1_5, es7_1_5, ed7_1_5, ld7_1_6, es7_1_6, ed7_1_6, lw7_1, ew7_1, bx7_1, ld7_2_0, es7_2_0, ed7_2_0, ld7_2_1, es7_2_1, ed7_2_1, ld7_2_2, es7_2_2, ed7_2_2, ld7_2_3, es7_2_3, ed7_2_3, ld7_2_4, es7_2_4, ed7_2_4, ld7_2_5, es7_2_5, ed7_2_5, ld7_2_6, es7_2_6, ed7_2_6, lw7_2, ew7_2, bx7_2, ld7_3_0, es7_3_0, ed7_3_0, ld7_3_1, es7_3_1, ed7_3_1, ld7_3_2, es7_3_2, ed7_3_2, ld7_3_3, es7_3_3, ed7_3_3, ld7_3_4, es7_3_4, ed7_3_4, ld7_3_5, es7_3_5, ed7_3_5, ld7_3_6, es7_3_6, ed7_3_6, lw7_3, ew7_3, bx7_3, ldK_ep, arithK_lss, arithK_leq, arithK_gtr, arithK_geq, grpK_or, grpK_and, condK_bool, eqK_int, notK_bool, Bool.false_xor, Bool.true_xor, callK_F, exK_tup, lenK_lst, lenK_sl, lenK_nil, List.length_map]
      simp [orZ, hx]
    | cons c post =>
      have hi : pre.length < l.length := by rw [hc]; simp
      have hci : l[pre.length]? = some c := by rw [hc]; simp
      have hlt : ((pre.length : Int) < (l.length : Int)) := by omega
      have hw : IntKind.i64.wrap ((pre.length : Int) + 1) = (((pre ++ [c]).length : Nat) : Int) := by rw [wrap64 (by omega) (by omega)]; simp
      have ic : ∀ k : Go.AM.K AV, iaK 1 (.lst 1 b (l.map fun z => [I z])) (I pre.length) k = k (.ep [I c] 0) := fun k => iaK_at pre.length rfl hci k
      have step := ih (pre ++ [c]) post (by simpa using hc) (by simpa using hn)
      by_cases h0 : c = 0
      · simp [f_cmp_Or_int_b2, hlt, ic, h0, hw, orZ] at step ⊢
        exact step
      · simp [f_cmp_Or_int_b2, hlt, ic, h0, orZ]
theorem or_lex : ∀ {n : Nat} {a b : List Int}, a.length = n → b.length = n → orZ (List.zipWith cmpZ a b) = lexZ a b
  | 0, a, b, ha, hb => by rw [List.eq_nil_of_length_eq_zero ha, List.eq_nil_of_length_eq_zero hb]; rfl
  | n + 1, [], b, ha, hb => by simp at ha
  | n + 1, a :: l, [], ha, hb => by simp at hb
  | n + 1, a :: l, b :: r, ha, hb => by
    have ih := or_lex (n := n) (a := l) (b := r) (by simpa using ha) (by simpa using hb)
    simp only [List.zipWith_cons_cons, orZ, lexZ, ih, cmpZ]
    by_cases h1 : a < b
    · simp [h1]
    · by_cases h2 : b < a <;> simp [h1, h2]
end Go.AM


namespace Go.AM
open Go.Proofs
set_option linter.unusedVariables false
set_option linter.unusedSimpArgs false
set_option linter.constructorNameAsVariable false
set_option maxRecDepth 20000
attribute [local congr] arithK_cg eqK_cg notK_cg convK_cg pickK_cg buildK_cg ldK_cg nilK_cg sliceK_cg faK_cg fldK_cg iaK_cg iaA_cg lookK_cg capK_cg exK_cg lenK_cg minK_cg maxK_cg effK_cg callK_cg callVK_cg effD_cg gopD_cg grpK_cg condK_cg cond_cg
theorem effD_ro {β : Type} (v : AV) (ft : List Nat) (h : Hp) (k : AV → Hp → Ent → Option β) : effD (some (v, EF ft)) h k = k v h (ft, []) := by simp [effD, ap, wrOf]
theorem effD_nw {β : Type} (v : AV) (o : AObj) (h : Hp) (k : AV → Hp → Ent → Option β) : effD (some (v, EN o)) h k = k v (h ++ [o]) ([], [h.length]) := by simp [effD, ap, wrOf]
theorem F_cmp_Or_int_at (c : List Int) (hl : c.length < 1000) {h : Hp} {id n : Nat} {b : Bool} (hid : h[id]? = some (.arr 1 (c.map fun z => [I z]) true false)) (hn : c.length = n) : F_cmp_Or_int [.sl 1 id 0 n n b] h = some (I (orZ c), h) := by
  subst hn
  refine (F_cmp_Or_int_own (a0 := .lst 1 false (c.map fun z => [I z])) ?_ fun st => ?_)
  · rw [cvts_cons, cvt_whole hid (by simp) (by simp) (okE_map fun x => rfl), cvts_nil]
  · have := Or_L2 (T := t_cmp_Or_int) (D := d_cmp_Or_int) (N := NN) (x0 := fun w7_3 h => f_cmp_Or_int_j1 Try.prog t_cmp_Or_int d_cmp_Or_int NN (fun v g => cvt st g v) w7_3 h) (xr := fun w8_2 h => cvt st h w8_2) (h := []) c false (fun z => rfl) hl NN [] c rfl (by have := NN_ge; omega)
    simp only [nrm, nrmC, f_cmp_Or_int, lenK_lst, List.length_map]
    exact this.trans rfl
theorem F_document_compare_val (a b : Msg) (h : Hp) : F_document_compare [.agg (encM a), .agg (encM b)] h = some (I (lexZ (cellsM a) (cellsM b)), h) := by
  refine F_document_compare_run (by simp [encM]) ?_ h
  obtain ⟨a0, a1, a2, a3, a4, a5, a6⟩ := a
  obtain ⟨b0, b1, b2, b3, b4, b5, b6⟩ := b
  have g := G_cmp_Compare_int_val
  have bs : ∀ (c0 c1 c2 c3 c4 c5 c6 : Int), bsE 1 [.s (.int .i64 0)] 7 [(0, I c0), (1, I c1), (2, I c2), (3, I c3), (4, I c4), (5, I c5), (6, I c6)] ([AObj.arr 7 [[I a0, I a1, I a2, I a3, I a4, I a5, I a6]] true false, .arr 7 [[I b0, I b1, I b2, I b3, I b4, I b5, I b6]] true false] : Hp).length = some (.sl 1 2 0 7 7 true, EN (.arr 1 [[I c0], [I c1], [I c2], [I c3], [I c4], [I c5], [I c6]] true false)) := fun _ _ _ _ _ _ _ => rfl
  have go : ∀ (c0 c1 c2 c3 c4 c5 c6 : Int) (o0 o1 : AObj) (base : Nat), G_cmp_Or_int [.sl 1 2 0 7 7 true] [o0, o1, .arr 1 [[I c0], [I c1], [I c2], [I c3], [I c4], [I c5], [I c6]] true false] base = some (I (orZ [c0, c1, c2, c3, c4, c5, c6]), EF [2]) := fun c0 c1 c2 c3 c4 c5 c6 o0 o1 base =>
    (closedXD_val (F_cmp_Or_int_at [c0, c1, c2, c3, c4, c5, c6] (by simp) rfl rfl) base).trans rfl
  simp -implicitDefEqProofs only [f_document_compare, encM, encDo, faK_ptr, faK_ep, Nat.zero_add, Nat.add_zero, Nat.reduceAdd, ld7_0_0, es7_0_0, ed7_0_0, ld7_0_1, es7_0_1, ed7_0_1, ld7_0_2, es7_0_2, ed7_0_2, ld7_0_3, es7_0_3, ed7_0_3, ld7_0_4, es7_0_4, ed7_0_4, ld7_0_5, es7_0_5, ed7_0_5, ld7_0_6, es7_0_6, ed7_0_6, lw7_0, ew7_0, bx7_0, ld7_1_0, es7_1_0, ed7_1_0, ld7_1_1, es7_1_1, ed7_1_1, ld7_1_2, es7_1_2, ed7_1_2, ld7_1_3, es7_1_3, ed7_1_3, ld7_1_4, es7_1_4, ed7_1_4, ld7_1_5, es7_1_5, ed7_1_5, ld7_1_6, es7_1_6, ed7_1_6, lw7_1, ew7_1, bx7_1, ld7_2_0, es7_2_0, ed7_2_0, ld7_2_1, es7_2_1, ed7_2_1, ld7_2_2, es7_2_2, ed7_2_2, ld7_2_3, es7_2_3, ed7_2_3, ld7_2_4, es7_2_4, ed7_2_4, ld7_2_5, es7_2_5, ed7_2_5, ld7_2_6, es7_2_6, ed7_2_6, lw7_2, ew7_2, bx7_2, ld7_3_0, es7_3_0, ed7_3_0, ld7_3_1, es7_3_1, ed7_3_1, ld7_3_2, es7_3_2, ed7_3_2, ld7_3_3, es7_3_3, ed7_3_3, ld7_3_4, es7_3_4, ed7_3_4, ld7_3_5, es7_3_5, ed7_3_5, ld7_3_6, es7_3_6, ed7_3_6, lw7_3, ew7_3, bx7_3, ldK_ep, arithK_lss, arithK_leq, arithK_gtr, arithK_geq, grpK_or, grpK_and, condK_bool, eqK_int, notK_bool, Bool.false_xor, Bool.true_xor, callK_F, exK_tup, lenK_lst, lenK_sl, lenK_nil, List.length_map, d_document_compare_58, d_document_compare_57, callE_F, g, effD_ro, bs, effD_nw, List.cons_append, List.nil_append, go]
  have := or_lex (n := 7) (a := [a0, a1, a2, a3, a4, a5, a6]) (b := [b0, b1, b2, b3, b4, b5, b6]) rfl rfl
  simp only [List.zipWith_cons_cons, List.zipWith_nil_left] at this
  rw [this]
  rfl
theorem eqs_Do (x y : Docu) (n : Bool) (h : Hp) {β : Type} (k : Go.AM.K β) : eqK Try.prog n 35 (.agg (encDo x)) (.agg (encDo y)) h k = k (B (xor n (x == y))) := by
  obtain ⟨a0, a1, a2, a3, a4, a5, a6⟩ := x
  obtain ⟨b0, b1, b2, b3, b4, b5, b6⟩ := y
  have : ((⟨a0, a1, a2, a3, a4, a5, a6⟩ : Docu) == ⟨b0, b1, b2, b3, b4, b5, b6⟩) = ((a0 == b0) && ((a1 == b1) && ((a2 == b2) && ((a3 == b3) && ((a4 == b4) && ((a5 == b5) && ((a6 == b6) && true))))))) := by
    rw [Bool.eq_iff_iff]; simp
  simp only [encDo, eqs_35, this]
theorem eqs_Me (x y : Msg) (n : Bool) (h : Hp) {β : Type} (k : Go.AM.K β) : eqK Try.prog n 23 (.agg (encM x)) (.agg (encM y)) h k = k (B (xor n (x == y))) := by
  obtain ⟨a0, a1, a2, a3, a4, a5, a6⟩ := x
  obtain ⟨b0, b1, b2, b3, b4, b5, b6⟩ := y
  have : ((⟨a0, a1, a2, a3, a4, a5, a6⟩ : Msg) == ⟨b0, b1, b2, b3, b4, b5, b6⟩) = ((a0 == b0) && ((a1 == b1) && ((a2 == b2) && ((a3 == b3) && ((a4 == b4) && ((a5 == b5) && ((a6 == b6) && true))))))) := by
    rw [Bool.eq_iff_iff]; simp
  simp only [encM, eqs_23, this]
def goesS (a b : Docu) : Bool :=
  if a.stage = 1 then decide (1 ≤ b.stage) && decide (b.stage ≤ 4)
  else if a.stage = 2 then (b.stage == 2 || b.stage == 4) && a.got == b.got
  else if a.stage = 3 then b.stage == 3 || b.stage == 4 && b.got == 0
  else if a.stage = 4 then b.stage == 4 && a.got == b.got
  else false
def laterS (a b : Docu) : Bool :=
  if a.mv ≠ b.mv then false
  else if (a == b || a.stage == 0 || b.stage == 5) = true then true
  else a.frm == b.frm && a.sent == b.sent && (decide (a.chg < b.chg) || (b.chg == a.chg && a.to == b.to)) && goesS a b
theorem F_document_goes_val (a b : Docu) (h : Hp) : F_document_goes [.agg (encDo a), .agg (encDo b)] h = some (B (goesS a b), h) := by
  refine F_document_goes_run (by simp [encDo]) ?_ h
  obtain ⟨a0, a1, a2, a3, a4, a5, a6⟩ := a
  obtain ⟨b0, b1, b2, b3, b4, b5, b6⟩ := b
  have l2 : ∀ (o0 o1 : AObj) (x y : AV) (k : Go.AM.K AV), ldK 2 true (.ptr 2 0 0 1) [o0, o1, .arr 2 [[x, y]] true false] k = k (.agg [x, y]) := fun _ _ _ _ _ => rfl
  have bd : ∀ (x y : Int) (k : Go.AM.K AV), buildK [.s (.int .i64 0), .s (.int .i64 0)] [(some (0, 1), I x), (some (1, 1), I y)] k = k (.agg [I x, I y]) := fun _ _ _ => rfl
  have bx : ∀ (o0 o1 : AObj) (k : AV → Hp → Option AV), effK (boxE 2 (.agg [.s (.int .i64 0), .s (.int .i64 0)]) ([o0, o1] : Hp).length) [o0, o1] k = k (.ptr 2 0 0 1) [o0, o1, .arr 2 [[I 0, I 0]] true false] := fun _ _ _ => rfl
  have st : ∀ (o0 o1 : AObj) (x y : Int) (k : AV → Hp → Option AV), effK (stE 2 (.ptr 2 0 0 1) (.agg [I x, I y]) [o0, o1, .arr 2 [[I 0, I 0]] true false]) [o0, o1, .arr 2 [[I 0, I 0]] true false] k = k .u [o0, o1, .arr 2 [[I x, I y]] true false] := fun _ _ _ _ k => effK_put rfl k
  simp -implicitDefEqProofs only [f_document_goes, encM, encDo, faK_ptr, faK_ep, Nat.zero_add, Nat.add_zero, Nat.reduceAdd, ld7_0_0, es7_0_0, ed7_0_0, ld7_0_1, es7_0_1, ed7_0_1, ld7_0_2, es7_0_2, ed7_0_2, ld7_0_3, es7_0_3, ed7_0_3, ld7_0_4, es7_0_4, ed7_0_4, ld7_0_5, es7_0_5, ed7_0_5, ld7_0_6, es7_0_6, ed7_0_6, lw7_0, ew7_0, bx7_0, ld7_1_0, es7_1_0, ed7_1_0, ld7_1_1, es7_1_1, ed7_1_1, ld7_1_2, es7_1_2, ed7_1_2, ld7_1_3, es7_1_3, ed7_1_3, ld7_1_4, es7_1_4, ed7_1_4, ld7_1_5, es7_1_5, ed7_1_5, ld7_1_6, es7_1_6, ed7_1_6, lw7_1, ew7_1, bx7_1, ld7_2_0, es7_2_0, ed7_2_0, ld7_2_1, es7_2_1, ed7_2_1, ld7_2_2, es7_2_2, ed7_2_2, ld7_2_3, es7_2_3, ed7_2_3, ld7_2_4, es7_2_4, ed7_2_4, ld7_2_5, es7_2_5, ed7_2_5, ld7_2_6, es7_2_6, ed7_2_6, lw7_2, ew7_2, bx7_2, ld7_3_0, es7_3_0, ed7_3_0, ld7_3_1, es7_3_1, ed7_3_1, ld7_3_2, es7_3_2, ed7_3_2, ld7_3_3, es7_3_3, ed7_3_3, ld7_3_4, es7_3_4, ed7_3_4, ld7_3_5, es7_3_5, ed7_3_5, ld7_3_6, es7_3_6, ed7_3_6, lw7_3, ew7_3, bx7_3, ldK_ep, arithK_lss, arithK_leq, arithK_gtr, arithK_geq, grpK_or, grpK_and, condK_bool, eqK_int, notK_bool, Bool.false_xor, Bool.true_xor, callK_F, exK_tup, lenK_lst, lenK_sl, lenK_nil, List.length_map, bd, bx, st, l2, eqs_80, goesS]
  by_cases h1 : a1 = 1
  · subst h1; simp
  · have e1 : (a1 == 1) = false := by simpa using h1
    simp only [e1, h1, if_false, Bool.false_eq_true]
    by_cases h3 : a1 = 3
    · subst h3
      by_cases q1 : b1 = 3
      · subst q1; simp
      · by_cases q2 : b1 = 4
        · subst q2; simp
        · simp [q1, q2]
    · by_cases h2 : a1 = 2
      · subst h2
        by_cases q1 : b1 = 2
        · subst q1; simp
        · by_cases q2 : b1 = 4
          · subst q2; simp
          · simp [q1, q2]
      · by_cases h4 : a1 = 4
        · subst h4
          by_cases q2 : b1 = 4
          · subst q2; simp
          · simp [q2]
        · simp [h2, h3, h4]
theorem F_document_Later_val (a b : Docu) (h : Hp) : F_document_Later [.agg (encDo a), .agg (encDo b)] h = some (B (laterS a b), h) := by
  refine F_document_Later_run (by simp [encDo]) ?_ h
  have fg := F_document_goes_val a b
  have eq := fun h k => eqs_Do a b false h (β := AV) k
  obtain ⟨e, he⟩ : ∃ e, (a == b) = e := ⟨_, rfl⟩
  obtain ⟨g, hg⟩ : ∃ g, goesS a b = g := ⟨_, rfl⟩
  simp only [laterS, he, hg]
  rw [he] at eq
  rw [hg] at fg
  clear he hg
  obtain ⟨a0, a1, a2, a3, a4, a5, a6⟩ := a
  obtain ⟨b0, b1, b2, b3, b4, b5, b6⟩ := b
  simp only [encDo] at fg eq
  simp -implicitDefEqProofs only [f_document_Later, encM, encDo, faK_ptr, faK_ep, Nat.zero_add, Nat.add_zero, Nat.reduceAdd, ld7_0_0, es7_0_0, ed7_0_0, ld7_0_1, es7_0_1, ed7_0_1, ld7_0_2, es7_0_2, ed7_0_2, ld7_0_3, es7_0_3, ed7_0_3, ld7_0_4, es7_0_4, ed7_0_4, ld7_0_5, es7_0_5, ed7_0_5, ld7_0_6, es7_0_6, ed7_0_6, lw7_0, ew7_0, bx7_0, ld7_1_0, es7_1_0, ed7_1_0, ld7_1_1, es7_1_1, ed7_1_1, ld7_1_2, es7_1_2, ed7_1_2, ld7_1_3, es7_1_3, ed7_1_3, ld7_1_4, es7_1_4, ed7_1_4, ld7_1_5, es7_1_5, ed7_1_5, ld7_1_6, es7_1_6, ed7_1_6, lw7_1, ew7_1, bx7_1, ld7_2_0, es7_2_0, ed7_2_0, ld7_2_1, es7_2_1, ed7_2_1, ld7_2_2, es7_2_2, ed7_2_2, ld7_2_3, es7_2_3, ed7_2_3, ld7_2_4, es7_2_4, ed7_2_4, ld7_2_5, es7_2_5, ed7_2_5, ld7_2_6, es7_2_6, ed7_2_6, lw7_2, ew7_2, bx7_2, ld7_3_0, es7_3_0, ed7_3_0, ld7_3_1, es7_3_1, ed7_3_1, ld7_3_2, es7_3_2, ed7_3_2, ld7_3_3, es7_3_3, ed7_3_3, ld7_3_4, es7_3_4, ed7_3_4, ld7_3_5, es7_3_5, ed7_3_5, ld7_3_6, es7_3_6, ed7_3_6, lw7_3, ew7_3, bx7_3, ldK_ep, arithK_lss, arithK_leq, arithK_gtr, arithK_geq, grpK_or, grpK_and, condK_bool, eqK_int, notK_bool, Bool.false_xor, Bool.true_xor, callK_F, exK_tup, lenK_lst, lenK_sl, lenK_nil, List.length_map, eq, t_document_Later_50, fg]
  by_cases h1 : a0 = b0
  · subst h1
    simp only [beq_self_eq_true, Bool.not_true, Bool.false_eq_true, if_false, ne_eq, not_true_eq_false]
    cases e || a1 == 0 || b1 == 5 <;> rfl
  · simp [h1]
end Go.AM


namespace Go.AM
open Go.Proofs
set_option linter.unusedVariables false
set_option linter.unusedSimpArgs false
set_option linter.constructorNameAsVariable false
set_option maxRecDepth 20000
attribute [local congr] arithK_cg eqK_cg notK_cg convK_cg pickK_cg buildK_cg ldK_cg nilK_cg sliceK_cg faK_cg fldK_cg iaK_cg iaA_cg lookK_cg capK_cg exK_cg lenK_cg minK_cg maxK_cg effK_cg callK_cg callVK_cg effD_cg gopD_cg grpK_cg condK_cg cond_cg
def compL : List Msg → List Msg
  | [] => []
  | [a] => [a]
  | a :: b :: l => if a = b then compL (b :: l) else a :: compL (b :: l)
theorem compL_snoc (y x : Msg) : ∀ q : List Msg, compL (q ++ [y] ++ [x]) = if y = x then compL (q ++ [y]) else compL (q ++ [y]) ++ [x]
  | [] => by
    simp only [List.nil_append, List.cons_append, compL]
    split
    · rename_i e; rw [e]
    · rfl
  | [a] => by
    have ih := compL_snoc y x []
    simp only [List.nil_append, List.cons_append, compL] at ih ⊢
    split <;> split <;> simp_all
  | a :: b :: q => by
    have ih := compL_snoc y x (b :: q)
    simp only [List.cons_append, compL] at ih ⊢
    rw [ih]
    split <;> split <;> simp_all
theorem compL_length : ∀ l : List Msg, (compL l).length ≤ l.length
  | [] => by simp [compL]
  | [a] => by simp [compL]
  | a :: b :: l => by
    have := compL_length (b :: l)
    simp only [compL, List.length_cons] at this ⊢
    split <;> simp at * <;> omega
theorem take_succ_get {l : List Msg} {i : Nat} {x : Msg} (hx : l[i]? = some x) : l.take (i + 1) = l.take i ++ [x] := by
  rw [List.take_add_one, hx]; rfl
theorem compL_next {l : List Msg} {i : Nat} {x y : Msg} (hi : 1 ≤ i) (hx : l[i]? = some x) (hy : l[i - 1]? = some y) : compL (l.take (i + 1)) = if y = x then compL (l.take i) else compL (l.take i) ++ [x] := by
  obtain ⟨j, rfl⟩ : ∃ j, i = j + 1 := ⟨i - 1, by omega⟩
  rw [take_succ_get hx, take_succ_get (by simpa using hy), compL_snoc]
theorem ld_el {β : Type} {W : List Msg} {id i n : Nat} {h : Hp} {b : Bool} {x : Msg} (hid : h[id]? = some (.arr 7 (W.map encM) true b)) (hn : W.length = n) (hx : W[i]? = some x) (k : Go.AM.K β) : ldK 7 true (.ptr id i 0 n) h k = k (.agg (encM x)) := by
  simp [hid, hn, hx, encM]
theorem st_el {β : Type} {W : List Msg} {id i n : Nat} {h : Hp} {b : Bool} {x : Msg} (hid : h[id]? = some (.arr 7 (W.map encM) true b)) (hn : W.length = n) (hi : i < W.length) (k : AV → Hp → Option β) : effK (stE 7 (.ptr id i 0 n) (.agg (encM x)) h) h k = k .u (h.set id (.arr 7 ((W.set i x).map encM) true b)) := by
  have hx : W[i]? = some W[i] := List.getElem?_eq_getElem hi
  have : stE 7 (.ptr id i 0 n) (.agg (encM x)) h = some (.u, ⟨[(id, .arr 7 ((W.map encM).set i (encM x)) true b)], [], [id]⟩) := by
    simp [hid, hn, hx, encM]
  rw [this, effK_put rfl, List.map_set]
theorem ia_sl {β : Type} {id off len fr : Nat} {b : Bool} {m : Int} (i : Nat) (hm : m = i) (hi : i < len) (k : Go.AM.K β) : iaK 7 (.sl 7 id off len fr b) (I m) k = k (.ptr id (off + i) 0 fr) := by
  subst hm
  rw [iaK_sl (by omega) (by omega)]
  simp
theorem sl_lo {β : Type} {id n k : Nat} (hk : k ≤ n) (K : Go.AM.K β) : sliceK 7 (.sl 7 id 0 n n false) (some (I k)) none none K = K (.sl 7 id k (n - k) n false) := by
  have : (0 : Int) ≤ (k : Int) := by omega
  simp [sliceK, boundOr, hk]
theorem sl_hi {β : Type} {id n k : Nat} (hk : k ≤ n) (K : Go.AM.K β) : sliceK 7 (.sl 7 id 0 n n false) none (some (I k)) none K = K (.sl 7 id 0 k n false) := by
  have : (0 : Int) ≤ (k : Int) := by omega
  simp [sliceK, boundOr, hk]
abbrev zM : List AV := [.s (.int .i64 0), .s (.int .i64 0), .s (.int .i64 0), .s (.int .i64 0), .s (.int .i64 0), .s (.int .i64 0), .s (.int .i64 0)]
theorem Compact_L5 {β : Type} {T : Tab} {D : DTab} {N : Nat} {x2 : AV → AV → Hp → Option β} {l : List Msg} {id k : Nat} {h0 : Hp} (hid : id < h0.length) (hl : l.length < 1000000) : ∀ (n i : Nat) (W : List Msg) (w : Nat), 1 ≤ i → k + i ≤ l.length → l.length < k + i + n →
    W.length = l.length → w = (compL (l.take (k + i))).length → w + 1 ≤ k + i → W.take w = compL (l.take (k + i)) → W.drop (k + i - 1) = l.drop (k + i - 1) →
    ∃ W' : List Msg, W'.length = l.length ∧ W'.take (compL l).length = compL l ∧
      f_slices_Compact_Message_L5 Try.prog T D N x2 n (.sl 7 id 0 l.length l.length false) (I w) (.sl 7 id k (l.length - k) l.length false) (I i) (h0.set id (.arr 7 (W.map encM) true false)) =
        x2 (.sl 7 id 0 l.length l.length false) (I (compL l).length) (h0.set id (.arr 7 (W'.map encM) true false)) := by
  intro n
  induction n with
  | zero => intro i W w _ h2 h3; omega
  | succ n ih =>
    intro i W w hi h2 h3 hW hw hwi ht hd
    have hget : (h0.set id (.arr 7 (W.map encM) true false))[id]? = some (.arr 7 (W.map encM) true false) := by simp [hid]
    rcases Nat.lt_or_ge (k + i) l.length with hlt | hge
    · have hx : l[k + i]? = some l[k + i] := List.getElem?_eq_getElem hlt
      have hy : l[k + i - 1]? = some l[k + i - 1] := List.getElem?_eq_getElem (by omega)
      have hWx : W[k + i]? = some l[k + i] := by
        have := congrArg (fun q => q[1]?) hd
        simp only [List.getElem?_drop] at this
        rw [show k + i - 1 + 1 = k + i by omega] at this
        rw [this, hx]
      have hWy : W[k + i - 1]? = some l[k + i - 1] := by
        have := congrArg (fun q => q[0]?) hd
        simp only [List.getElem?_drop, Nat.add_zero] at this
        rw [this, hy]
      have hnx := compL_next (by omega) hx hy
      generalize hxx : l[k + i] = x at *
      generalize hyy : l[k + i - 1] = y at *
      have c1 : ((i : Int) < ((l.length - k : Nat) : Int)) := by omega
      have w1 : IntKind.i64.wrap ((i : Int) - 1) = ((i - 1 : Nat) : Int) := by rw [wrap64 (by omega) (by omega)]; omega
      have w2 : IntKind.i64.wrap ((i : Int) + 1) = ((i + 1 : Nat) : Int) := by rw [wrap64 (by omega) (by omega)]; omega
      have w3 : IntKind.i64.wrap ((w : Int) + 1) = ((w + 1 : Nat) : Int) := by rw [wrap64 (by omega) (by omega)]; omega
      have i1 : ∀ K : Go.AM.K β, iaK 7 (.sl 7 id k (l.length - k) l.length false) (I i) K = K (.ptr id (k + i) 0 l.length) := fun K => ia_sl i rfl (by omega) K
      have i2 : ∀ K : Go.AM.K β, iaK 7 (.sl 7 id k (l.length - k) l.length false) (I ((i - 1 : Nat) : Int)) K = K (.ptr id (k + (i - 1)) 0 l.length) := fun K => ia_sl (i - 1) rfl (by omega) K
      have i3 : ∀ K : Go.AM.K β, iaK 7 (.sl 7 id 0 l.length l.length false) (I w) K = K (.ptr id (0 + w) 0 l.length) := fun K => ia_sl w rfl (by omega) K
      have l1 := fun K : Go.AM.K β => ld_el hget hW hWx K
      have l2 := fun K : Go.AM.K β => ld_el (i := k + (i - 1)) hget hW (by rw [show k + (i - 1) = k + i - 1 by omega]; exact hWy) K
      have s1 := fun K : AV → Hp → Option β => st_el (i := 0 + w) (x := x) hget hW (by omega) K
      show ∃ W', _ ∧ _ ∧ f_slices_Compact_Message_b5 Try.prog T D N (f_slices_Compact_Message_L5 Try.prog T D N x2 n) x2 _ _ _ _ _ = _
      simp -implicitDefEqProofs only [f_slices_Compact_Message_b5, lenK_sl, arithK_lss, c1, decide_true, condK_bool, if_true, i1, l1, arithK_sub, w1, i2, l2, eqs_Me, Bool.true_xor, i3, s1, arithK_add, w3, f_slices_Compact_Message_j7, f_slices_Compact_Message_j6, w2, List.set_set]
      by_cases hxy : y = x
      · have e : (x == y) = true := by simp [hxy]
        rw [if_pos hxy] at hnx
        simp only [e, Bool.not_true, Bool.false_eq_true, if_false]
        have hkk : k + (i + 1) = k + i + 1 := by omega
        obtain ⟨W', g1, g2, g3⟩ := ih (i + 1) W w (by omega) (by omega) (by omega) hW (by rw [hkk, hnx]; exact hw) (by omega) (by rw [hkk, hnx]; exact ht) (by
          have := congrArg (List.drop 1) hd
          simp only [List.drop_drop] at this
          rw [show k + (i + 1) - 1 = k + i - 1 + 1 by omega]
          exact this)
        exact ⟨W', g1, g2, g3⟩
      · have e : (x == y) = false := by simpa using Ne.symm hxy
        rw [if_neg hxy] at hnx
        simp only [e, Bool.not_false, if_true]
        have hkk : k + (i + 1) = k + i + 1 := by omega
        rw [Nat.zero_add]
        obtain ⟨W', g1, g2, g3⟩ := ih (i + 1) (W.set w x) (w + 1) (by omega) (by omega) (by omega) (by simpa using hW) (by rw [hkk, hnx, List.length_append, ← hw]; rfl) (by omega) (by
          rw [hkk, hnx, ← ht]
          rw [List.take_add_one, List.take_set_of_le (Nat.le_refl _), List.getElem?_set_self (by omega)]
          rfl) (by
          have := congrArg (List.drop 1) hd
          simp only [List.drop_drop] at this
          rw [show k + (i + 1) - 1 = k + i - 1 + 1 by omega, List.drop_set_of_lt (by omega)]
          exact this)
        exact ⟨W', g1, g2, g3⟩
    · have hN : k + i = l.length := by omega
      have c1 : ¬ ((i : Int) < ((l.length - k : Nat) : Int)) := by omega
      refine ⟨W, hW, ?_, ?_⟩
      · rw [hN, List.take_length] at ht hw
        rw [← hw]; exact ht
      · show f_slices_Compact_Message_b5 Try.prog T D N (f_slices_Compact_Message_L5 Try.prog T D N x2 n) x2 _ _ _ _ _ = _
        rw [hN, List.take_length] at hw
        simp only [f_slices_Compact_Message_b5, lenK_sl, arithK_lss, c1, decide_false, condK_bool, Bool.false_eq_true, if_false]
        rw [hw]
theorem Compact_j4 {β : Type} {T : Tab} {D : DTab} {N : Nat} {xn : AV → AV → Hp → Option β} {x0 : AV → Hp → Option β} {xr : AV → Hp → Option β} {W : List Msg} {id w n : Nat} {h : Hp} (hid : h[id]? = some (.arr 7 (W.map encM) true false)) (hW : W.length = n) (hw : w ≤ n) :
    f_slices_Compact_Message_j4 Try.prog T D N xn x0 xr (.sl 7 id 0 n n false) (I w) h = xr (.sl 7 id 0 w n false) (h.set id (.arr 7 ((W.take w).map encM ++ List.replicate (n - w) zM) true false)) := by
  have hc : clrE 7 zM (.sl 7 id w (n - w) n false) h = some (.tup [], ⟨[(id, .arr 7 ((W.map encM).take w ++ List.replicate (n - w) zM ++ (W.map encM).drop (w + (n - w))) true false)], [], [id]⟩) := by
    simp only [clrE, hid]
    rw [if_pos (by simp [hW]; omega)]
  simp only [f_slices_Compact_Message_j4, sl_lo hw, sl_hi hw]
  rw [hc, effK_put rfl]
  rw [show (W.map encM).drop (w + (n - w)) = [] from List.drop_eq_nil_of_le (by simp; omega), List.append_nil, List.map_take]
theorem Compact_L2 {β : Type} {T : Tab} {D : DTab} {N : Nat} {x0 : AV → Hp → Option β} {xr : AV → Hp → Option β} {l : List Msg} {id : Nat} {h : Hp} (hid : h[id]? = some (.arr 7 (l.map encM) true false)) (hl : l.length < 1000000) (hN : 1000000 ≤ N) (hx : ∀ v h, x0 v h = xr v h) : ∀ (n i : Nat), 1 ≤ i → i ≤ l.length → l.length < i + n → compL (l.take i) = l.take i →
    f_slices_Compact_Message_L2 Try.prog T D N x0 xr n (.sl 7 id 0 l.length l.length false) (I i) h = xr (.sl 7 id 0 (compL l).length l.length false) (h.set id (.arr 7 ((compL l).map encM ++ List.replicate (l.length - (compL l).length) zM) true false)) := by
  intro n
  have hlt0 : id < h.length := (List.getElem?_eq_some_iff.1 hid).1
  induction n with
  | zero => intro i h1 h2 h3; omega
  | succ n ih =>
    intro i h1 h2 h3 hc
    show f_slices_Compact_Message_b2 Try.prog T D N (f_slices_Compact_Message_L2 Try.prog T D N x0 xr n) x0 xr _ _ _ = _
    rcases Nat.lt_or_ge i l.length with hlt | hge
    · have hx' : l[i]? = some l[i] := List.getElem?_eq_getElem hlt
      have hy : l[i - 1]? = some l[i - 1] := List.getElem?_eq_getElem (by omega)
      have hnx := compL_next h1 hx' hy
      generalize hxx : l[i] = x at *
      generalize hyy : l[i - 1] = y at *
      have c1 : ((i : Int) < (l.length : Int)) := by omega
      have w1 : IntKind.i64.wrap ((i : Int) - 1) = ((i - 1 : Nat) : Int) := by rw [wrap64 (by omega) (by omega)]; omega
      have w2 : IntKind.i64.wrap ((i : Int) + 1) = ((i + 1 : Nat) : Int) := by rw [wrap64 (by omega) (by omega)]; omega
      have i1 : ∀ K : Go.AM.K β, iaK 7 (.sl 7 id 0 l.length l.length false) (I i) K = K (.ptr id (0 + i) 0 l.length) := fun K => ia_sl i rfl (by omega) K
      have i2 : ∀ K : Go.AM.K β, iaK 7 (.sl 7 id 0 l.length l.length false) (I ((i - 1 : Nat) : Int)) K = K (.ptr id (0 + (i - 1)) 0 l.length) := fun K => ia_sl (i - 1) rfl (by omega) K
      have l1 := fun K : Go.AM.K β => ld_el (i := 0 + i) hid rfl (by simpa using hx') K
      have l2 := fun K : Go.AM.K β => ld_el (i := 0 + (i - 1)) hid rfl (by simpa using hy) K
      simp -implicitDefEqProofs only [f_slices_Compact_Message_b2, lenK_sl, arithK_lss, c1, decide_true, condK_bool, if_true, i1, l1, arithK_sub, w1, i2, l2, eqs_Me, Bool.false_xor, f_slices_Compact_Message_j3, arithK_add, w2, sl_lo (Nat.le_of_lt hlt)]
      by_cases hxy : y = x
      · have e : (x == y) = true := by simp [hxy]
        rw [if_pos hxy] at hnx
        simp only [e, if_true]
        have hs : h = h.set id (.arr 7 (l.map encM) true false) := (set_same hid).symm
        obtain ⟨W', g1, g2, g3⟩ := Compact_L5 (T := T) (D := D) (N := N) (x2 := fun w32_0 w32_3 h => f_slices_Compact_Message_j4 Try.prog T D N (f_slices_Compact_Message_L2 Try.prog T D N x0 xr n) x0 xr w32_0 w32_3 h) (l := l) (id := id) (k := i) (h0 := h) hlt0 hl N 1 l i (by omega) (by omega) (by omega) rfl (by rw [hnx, hc]; simp; omega) (by omega) (by rw [hnx, hc]) rfl
        rw [← hs] at g3
        refine g3.trans ?_
        rw [Compact_j4 (W := W') (by simp [hlt0]) g1 (compL_length l), List.set_set, g2]
      · have e : (x == y) = false := by simpa using Ne.symm hxy
        rw [if_neg hxy] at hnx
        simp only [e, Bool.false_eq_true, if_false]
        exact ih (i + 1) (by omega) (by omega) (by omega) (by rw [hnx, hc, take_succ_get hx'])
    · have hN : i = l.length := by omega
      subst hN
      have c1 : ¬ ((l.length : Int) < (l.length : Int)) := by omega
      rw [List.take_length] at hc
      simp only [f_slices_Compact_Message_b2, lenK_sl, arithK_lss, c1, decide_false, condK_bool, Bool.false_eq_true, if_false, hx, hc, Nat.sub_self, List.replicate_zero, List.append_nil]
      rw [set_same hid]
theorem R_Compact_val {l : List Msg} {id : Nat} {h : Hp} (hid : h[id]? = some (.arr 7 (l.map encM) true false)) (hl : l.length < 1000000) : R_slices_Compact_Message [.sl 7 id 0 l.length l.length false] h = some (.sl 7 id 0 (compL l).length l.length false, h.set id (.arr 7 ((compL l).map encM ++ List.replicate (l.length - (compL l).length) zM) true false)) := by
  rw [R_slices_Compact_Message_raw]
  by_cases h2 : l.length < 2
  · have hc : compL l = l := by
      match l, h2 with
      | [], _ => rfl
      | [a], _ => rfl
    have c1 : ((l.length : Int) < 2) := by omega
    simp only [f_slices_Compact_Message, lenK_sl, arithK_lss, c1, decide_true, condK_bool, if_true, hc, Nat.sub_self, List.replicate_zero, List.append_nil]
    rw [set_same hid]
  · have c1 : ¬ ((l.length : Int) < 2) := by omega
    simp only [f_slices_Compact_Message, lenK_sl, arithK_lss, c1, decide_false, condK_bool, Bool.false_eq_true, if_false]
    have := Compact_L2 (T := t_slices_Compact_Message) (D := d_slices_Compact_Message) (N := NN) (x0 := fun w33_0 h => f_slices_Compact_Message_j1 Try.prog t_slices_Compact_Message d_slices_Compact_Message NN (fun v h => some (v, h)) w33_0 h) (xr := fun w34_2 h => some (w34_2, h)) hid hl NN_ge (fun v h => rfl) NN 1 (by omega) (by omega) (by have := NN_ge; omega) (by
      match l, h2 with
      | a :: l, _ => rfl)
    exact this
theorem R_Compact_nil (h : Hp) : R_slices_Compact_Message [nilS] h = some (nilS, h) := by
  rw [R_slices_Compact_Message_raw]
  simp [f_slices_Compact_Message]
theorem R_Clone_Msg (l : List Msg) (b : Bool) (hl : l.length < 1000000) (h : Hp) : R_slices_Clone_Message [SLm b l] h = if (b && l.isEmpty) = true then some (nilS, h) else some (.sl 7 (h.length + 1) 0 l.length l.length false, h ++ [.arr 7 [] true false, .arr 7 (l.map encM) true false]) := by
  rw [R_slices_Clone_Message_raw]
  by_cases hb : (b && l.isEmpty) = true
  · simp [f_slices_Clone_Message, hb]
  · have hb' : (b && l.isEmpty) = false := by simpa using hb
    have hle : l.length * 56 ≤ 140737488355328 := by omega
    have h2 : ((l.map encM).all fun e => e.length == 7) = true := by simp [encM]
    simp [f_slices_Clone_Message, hb', bsE, fillS, appE, readSl, hle, h2, ap]
def ltM (a b : Msg) : Bool := ltZ (cellsM a) (cellsM b)
def sortM (l : List Msg) : List Msg := l.mergeSort fun x y => !ltM y x
theorem cmp_rows (x y : List Int) (hx : x.length = 7) (hy : y.length = 7) : F_document_compare [.agg (encZ x), .agg (encZ y)] [] = some (.s (.int .i64 (lexZ x y)), []) := by
  match x, hx, y, hy with
  | [a0, a1, a2, a3, a4, a5, a6], _, [b0, b1, b2, b3, b4, b5, b6], _ => exact F_document_compare_val ⟨a0, a1, a2, a3, a4, a5, a6⟩ ⟨b0, b1, b2, b3, b4, b5, b6⟩ []
theorem F_Sort_val {l : List Msg} {id : Nat} {h : Hp} {b : Bool} (hid : h[id]? = some (.arr 7 (l.map encM) true b)) (hl : l.length < 1000000) : F_slices_SortFunc_Message__document_compare [.sl 7 id 0 l.length l.length false, .fn 40 []] h = some (.tup [], h.set id (.arr 7 ((sortM l).map encM) true b)) := by
  have e1 : ((l.map encM).drop 0).take l.length = (l.map cellsM).map encZ := by
    rw [List.drop_zero, List.map_map, List.take_of_length_le (by simp)]
    rfl
  refine (sortZ_val (g := 40) cmp_rows hid (by simp) (by simp) (by omega) (l := l.map cellsM) (by simp [cellsM]) e1).trans ?_
  have e2 : (l.map cellsM).mergeSort (fun x y => !ltZ y x) = (sortM l).map cellsM := by
    unfold sortM
    rw [List.map_mergeSort]
    intro a _ b _
    rfl
  rw [e2, List.map_map, show encZ ∘ cellsM = encM from rfl, List.take_zero, List.nil_append, List.drop_eq_nil_of_le (by simp), List.append_nil]
theorem F_Sort_nil (h : Hp) : F_slices_SortFunc_Message__document_compare [nilS, .fn 40 []] h = some (.tup [], h) := rfl
def normL (l : List Msg) : List Msg := compL (sortM l)
section
variable {β : Type} {P : Program} {T : Tab} {D : DTab} {N : Nat} {K : AV → Hp → Option β}
theorem IndexFunc_Message_L2 {x0 : Hp → Option β} {xr : AV → Hp → Option β} {l : List Msg} {b : Bool} {fv : AV} {h : Hp} {p : Msg → Bool} (hl : l.length < 4611686018427387904) (hp : ∀ x ∈ l, ∀ k : AV → Hp → Option β, callVK T fv [.agg (encM x)] h k = k (B (p x)) h) :
    ∀ (n i : Nat), i ≤ l.length → l.length < i + n → f_slices_IndexFunc_Message_L2 P T D N x0 xr n (.lst 7 b (l.map encM)) fv (I l.length) (I i) h = match (l.drop i).findIdx? p with | some j => xr (I ((i + j : Nat) : Int)) h | none => x0 h := by
  intro n
  induction n with
  | zero => intro i h1 h2; omega
  | succ n ih =>
    intro i h1 h2
    show f_slices_IndexFunc_Message_b2 P T D N (f_slices_IndexFunc_Message_L2 P T D N x0 xr n) x0 xr _ _ _ _ h = _
    unfold f_slices_IndexFunc_Message_b2
    rcases Nat.lt_or_ge i l.length with hi | hi
    · have hx : l[i]? = some l[i] := List.getElem?_eq_getElem hi
      have hlt : ((i : Int) < (l.length : Int)) := by omega
      have hw : IntKind.i64.wrap ((i : Int) + 1) = ((i + 1 : Nat) : Int) := by rw [wrap64 (by omega) (by omega)]; omega
      have hpx := hp l[i] (List.getElem_mem hi)
      rw [List.drop_eq_getElem_cons hi, List.findIdx?_cons]
      simp [hlt, hx, hw, encM] at hpx ⊢
      rw [hpx]
      cases hc : p l[i] with
      | true => simp
      | false =>
        have h3 := ih (i + 1) hi (by omega)
        rw [show ((i : Int) + 1) = ((i + 1 : Nat) : Int) by omega]
        simp only [Bool.false_eq_true, if_false]
        refine h3.trans ?_
        cases (List.drop (i + 1) l).findIdx? p with
        | none => rfl
        | some j =>
          show xr (I ((i + 1 + j : Nat) : Int)) h = xr (I ((i + (j + 1) : Nat) : Int)) h
          rw [show i + 1 + j = i + (j + 1) by omega]
    · have : i = l.length := by omega
      subst this
      simp
theorem IndexFunc_Message_K {l : List Msg} {b : Bool} {fv : AV} {h : Hp} {p : Msg → Bool} {K : AV → Hp → Option β} (hl : l.length < N) (hN : N < 4611686018427387904) (hp : ∀ x ∈ l, ∀ k : AV → Hp → Option β, callVK T fv [.agg (encM x)] h k = k (B (p x)) h) :
    f_slices_IndexFunc_Message P T D N K (.lst 7 b (l.map encM)) fv h = K (I (match l.findIdx? p with | some j => (j : Int) | none => -1)) h := by
  unfold f_slices_IndexFunc_Message
  simp only [lenK_lst, List.length_map]
  have := IndexFunc_Message_L2 (P := P) (D := D) (N := N) (b := b) (x0 := fun h => f_slices_IndexFunc_Message_j1 P T D N K h) (xr := fun a h => K a h) (by omega) hp N 0 (Nat.zero_le _) (by omega)
  simp only [List.drop_zero] at this
  refine this.trans ?_
  cases l.findIdx? p with
  | none => rfl
  | some j => simp
end
theorem F_document_Normal_1_val (m : Msg) (h : Hp) : F_document_Normal_1 [.agg (encM m)] h = some (B (checkM m != 0), h) := by
  refine F_document_Normal_1_run (by simp [encM]) ?_ h
  have f := F_document_Check_val m
  obtain ⟨a0, a1, a2, a3, a4, a5, a6⟩ := m
  simp only [encM] at f
  simp -implicitDefEqProofs only [f_document_Normal_1, encM, encDo, faK_ptr, faK_ep, Nat.zero_add, Nat.add_zero, Nat.reduceAdd, ld7_0_0, es7_0_0, ed7_0_0, ld7_0_1, es7_0_1, ed7_0_1, ld7_0_2, es7_0_2, ed7_0_2, ld7_0_3, es7_0_3, ed7_0_3, ld7_0_4, es7_0_4, ed7_0_4, ld7_0_5, es7_0_5, ed7_0_5, ld7_0_6, es7_0_6, ed7_0_6, lw7_0, ew7_0, bx7_0, ld7_1_0, es7_1_0, ed7_1_0, ld7_1_1, es7_1_1, ed7_1_1, ld7_1_2, es7_1_2, ed7_1_2, ld7_1_3, es7_1_3, ed7_1_3, ld7_1_4, es7_1_4, ed7_1_4, ld7_1_5, es7_1_5, ed7_1_5, ld7_1_6, es7_1_6, ed7_1_6, lw7_1, ew7_1, bx7_1, ld7_2_0, es7_2_0, ed7_2_0, ld7_2_1, es7_2_1, ed7_2_1, ld7_2_2, es7_2_2, ed7_2_2, ld7_2_3, es7_2_3, ed7_2_3, ld7_2_4, es7_2_4, ed7_2_4, ld7_2_5, es7_2_5, ed7_2_5, ld7_2_6, es7_2_6, ed7_2_6, lw7_2, ew7_2, bx7_2, ld7_3_0, es7_3_0, ed7_3_0, ld7_3_1, es7_3_1, ed7_3_1, ld7_3_2, es7_3_2, ed7_3_2, ld7_3_3, es7_3_3, ed7_3_3, ld7_3_4, es7_3_4, ed7_3_4, ld7_3_5, es7_3_5, ed7_3_5, ld7_3_6, es7_3_6, ed7_3_6, lw7_3, ew7_3, bx7_3, ldK_ep, arithK_lss, arithK_leq, arithK_gtr, arithK_geq, grpK_or, grpK_and, condK_bool, eqK_int, notK_bool, Bool.false_xor, Bool.true_xor, callK_F, exK_tup, lenK_lst, lenK_sl, lenK_nil, List.length_map, t_document_Normal_1_15, f]
  rfl
theorem F_Contains_check (l : List Msg) (hl : l.length < 1000000) (b : Bool) (h : Hp) : F_slices_ContainsFunc_Message__document_Normal_1 [SLm b l, .fn 38 []] h = some (B (l.any fun m => checkM m != 0), h) := by
  have e : ∀ h, F_slices_IndexFunc_Message__document_Normal_1 [SLm b l, .fn 38 []] h = some (I (match l.findIdx? (fun m => checkM m != 0) with | some j => (j : Int) | none => -1), h) :=
    F_slices_IndexFunc_Message__document_Normal_1_run rfl (by
      simp only [nrm, nrmC]
      rw [IndexFunc_Message_K (p := fun m => checkM m != 0) (by have := NN_ge; omega) NN_lt (fun x hx k => by simp [F_document_Normal_1_val])]
      rfl)
  refine F_slices_ContainsFunc_Message__document_Normal_1_run rfl ?_ h
  simp only [nrm, nrmC, f_slices_ContainsFunc_Message, t_slices_ContainsFunc_Message__document_Normal_1_51, callK_F, e]
  have : (l.any fun m => checkM m != 0) = (l.findIdx? fun m => checkM m != 0).isSome := by rw [List.findIdx?_isSome]
  rw [this]
  cases l.findIdx? (fun m => checkM m != 0) <;> simp
def errM (l : List Msg) : Int := if 64 < l.length then 8 else if (l.any fun m => checkM m != 0) = true then 1 else 0
theorem normL_length (l : List Msg) : (normL l).length ≤ l.length := by
  have := compL_length (sortM l)
  unfold normL
  unfold sortM at this ⊢
  rwa [List.length_mergeSort] at this
theorem compL_nil {l : List Msg} : compL l = [] ↔ l = [] := by
  match l with
  | [] => simp [compL]
  | [a] => simp [compL]
  | a :: b :: l =>
    have ih := @compL_nil (b :: l)
    simp only [compL]
    split <;> simp_all
theorem sortM_length (l : List Msg) : (sortM l).length = l.length := by unfold sortM; rw [List.length_mergeSort]
theorem normL_empty (l : List Msg) : (normL l).isEmpty = l.isEmpty := by
  rw [Bool.eq_iff_iff, List.isEmpty_iff, List.isEmpty_iff]
  unfold normL
  rw [compL_nil, ← List.length_eq_zero_iff, sortM_length, List.length_eq_zero_iff]
def normR (b : Bool) (l : List Msg) : AV := .tup [if errM l = 0 then SLm b (normL l) else .lst 7 true [], I (errM l)]
theorem Normal_key (l : List Msg) (b : Bool) (hl : l.length < 1000000) : ∀ st, (f_document_Normal Try.prog t_document_Normal d_document_Normal NN (fun v g => cvt st g v) (SLm b l) []) = some (.tup [if errM l = 0 then (if (b && l.isEmpty) = true then nilS else SLm b (normL l)) else nilS, I (errM l)]) := by
  intro st
  have f1 := F_Contains_check l hl b
  have f2 := R_Clone_Msg l b hl
  by_cases h1 : 64 < l.length
  · have c1 : ((64 : Int) < (l.length : Int)) := by omega
    simp [f_document_Normal, c1, errM, h1]
  · have c1 : ¬ ((64 : Int) < (l.length : Int)) := by omega
    cases h2 : (l.any fun m => checkM m != 0) with
    | true =>
      rw [h2] at f1
      simp only [f_document_Normal, lenK_lst, List.length_map, arithK_gtr, c1, decide_false, condK_bool, Bool.false_eq_true, if_false, t_document_Normal_37, callK_F, f1, if_true, errM, h1, h2]
      rfl
    | false =>
      rw [h2] at f1
      simp only [f_document_Normal, lenK_lst, List.length_map, arithK_gtr, c1, decide_false, condK_bool, Bool.false_eq_true, if_false, t_document_Normal_37, t_document_Normal_13, t_document_Normal_39, t_document_Normal_41, callK_F, f1, errM, h1, h2, f2, if_true]
      by_cases hb : (b && l.isEmpty) = true
      · simp only [hb, if_true, F_Sort_nil, R_Compact_nil]
        rfl
      · have hb' : (b && l.isEmpty) = false := by simpa using hb
        simp only [hb', Bool.false_eq_true, if_false, List.length_nil, Nat.zero_add, List.nil_append]
        rw [F_Sort_val (l := l) (b := false) rfl hl]
        simp only [List.set_cons_succ, List.set_cons_zero]
        have hs := sortM_length l
        have := R_Compact_val (l := sortM l) (id := 1) (h := [.arr 7 [] true false, .arr 7 ((sortM l).map encM) true false]) rfl (by omega)
        rw [hs] at this
        rw [this]
        simp only [List.set_cons_succ, List.set_cons_zero, cvt_tup, cvts_cons, cvts_nil, cvt_s]
        have hn : (compL (sortM l)).length ≤ l.length := by have := compL_length (sortM l); omega
        have : cvt st [.arr 7 [] true false, .arr 7 ((compL (sortM l)).map encM ++ List.replicate (l.length - (compL (sortM l)).length) zM) true false] (.sl 7 1 0 (compL (sortM l)).length l.length false) = some (.lst 7 false ((compL (sortM l)).map encM)) := by
          have ok : okE st ((compL (sortM l)).map encM) = true := okE_map fun x => by cases st <;> simp [encM, isS]
          have tk : (((compL (sortM l)).map encM ++ List.replicate (l.length - (compL (sortM l)).length) zM).drop 0).take (compL (sortM l)).length = (compL (sortM l)).map encM := by
            rw [List.drop_zero, List.take_append_of_le_length (by simp), List.take_of_length_le (by simp)]
          have hg : ([.arr 7 [] true false, .arr 7 ((compL (sortM l)).map encM ++ List.replicate (l.length - (compL (sortM l)).length) zM) true false] : Hp)[1]? = some (.arr 7 ((compL (sortM l)).map encM ++ List.replicate (l.length - (compL (sortM l)).length) zM) true false) := rfl
          unfold cvt
          rw [hg]
          simp only []
          rw [if_pos (by simp; omega), tk, if_pos ok]
        rw [this]
        show some (AV.tup [AV.lst 7 false ((normL l).map encM), I 0]) = some (.tup [.lst 7 (b && (normL l).isEmpty) ((normL l).map encM), I 0])
        rw [normL_empty, hb']
theorem Normal_nrm (l : List Msg) (b : Bool) (h : Hp) : (some (nrmR [.l 7, .o] (AV.tup [if errM l = 0 then (if (b && l.isEmpty) = true then nilS else SLm b (normL l)) else nilS, I (errM l)]), h) : Option (AV × Hp)) = some (normR b l, h) := by
  unfold normR
  by_cases h0 : errM l = 0
  · simp only [h0, if_true]
    by_cases hb : (b && l.isEmpty) = true
    · have hb2 : (b && (normL l).isEmpty) = true := by rw [normL_empty]; exact hb
      have hn : normL l = [] := by simpa using (Bool.and_eq_true_iff.1 hb2).2
      have hb1 := (Bool.and_eq_true_iff.1 hb).1
      subst hb1
      simp only [hb, if_true, SLm, hn, List.map_nil]
      rfl
    · rw [if_neg hb]
      rfl
  · simp only [h0, if_false]
    rfl
theorem F_document_Normal_val (l : List Msg) (b : Bool) (hl : l.length < 1000000) (h : Hp) : F_document_Normal [SLm b l] h = some (normR b l, h) :=
  (F_document_Normal_run (a0 := SLm b l) rfl (Normal_key l b hl false) h).trans (Normal_nrm l b h)
theorem F_document_Normal_at (l : List Msg) {b : Bool} (hl : l.length < 1000000) {h : Hp} {v a : AV} (hv : cvts false h [v] = some [a]) (ha : nrm (.l 7) a = SLm b l) : F_document_Normal [v] h = some (normR b l, h) :=
  (F_document_Normal_own (a0 := a) hv (fun st => by rw [ha]; exact Normal_key l b hl st)).trans (Normal_nrm l b h)
end Go.AM


namespace Go.AM
open Go.Proofs
set_option linter.unusedVariables false
set_option linter.unusedSimpArgs false
set_option linter.constructorNameAsVariable false
theorem ltM_irrefl (a : Msg) : ltM a a = false := ltZ_irrefl _
theorem ltM_trans {a b c : Msg} (h1 : ltM a b = true) (h2 : ltM b c = true) : ltM a c = true := ltZ_trans (n := 7) rfl rfl rfl h1 h2
theorem ltM_total {a b : Msg} (h1 : ltM a b = false) (h2 : ltM b a = false) : a = b := by
  have := ltZ_total (n := 7) (a := cellsM a) (b := cellsM b) rfl rfl h1 h2
  obtain ⟨a0, a1, a2, a3, a4, a5, a6⟩ := a
  obtain ⟨b0, b1, b2, b3, b4, b5, b6⟩ := b
  simpa [cellsM] using this
theorem ltM_asymm {a b : Msg} (h : ltM a b = true) : ltM b a = false := by
  cases h2 : ltM b a with
  | false => rfl
  | true => have := ltM_trans h h2; rw [ltM_irrefl] at this; cases this
abbrev Srt (l : List Msg) : Prop := l.Pairwise fun a b => ltM a b = true
theorem srt_unique : ∀ {a b : List Msg}, Srt a → Srt b → (∀ x, x ∈ a ↔ x ∈ b) → a = b
  | [], [], _, _, _ => rfl
  | [], y :: b, _, _, h => by have := (h y).2 (by simp); simp at this
  | x :: a, [], _, _, h => by have := (h x).1 (by simp); simp at this
  | x :: a, y :: b, ha, hb, h => by
    rw [Srt, List.pairwise_cons] at ha hb
    have e : x = y := by
      rcases List.mem_cons.1 ((h x).1 (by simp)) with e | h1
      · exact e
      · rcases List.mem_cons.1 ((h y).2 (by simp)) with e | h2
        · exact e.symm
        · have h3 := hb.1 x h1
          have h4 := ha.1 y h2
          have := ltM_asymm h3
          rw [h4] at this
          cases this
    subst e
    rw [srt_unique ha.2 hb.2 fun z => ?_]
    have hz := h z
    simp only [List.mem_cons] at hz
    constructor
    · intro hm
      rcases hz.1 (.inr hm) with rfl | h1
      · have := ha.1 z hm; rw [ltM_irrefl] at this; cases this
      · exact h1
    · intro hm
      rcases hz.2 (.inr hm) with rfl | h1
      · have := hb.1 z hm; rw [ltM_irrefl] at this; cases this
      · exact h1
theorem mem_compL : ∀ {l : List Msg} {x : Msg}, x ∈ compL l ↔ x ∈ l
  | [], x => by simp [compL]
  | [a], x => by simp [compL]
  | a :: b :: l, x => by
    have ih := @mem_compL (b :: l) x
    simp only [compL]
    split
    · rename_i e
      subst e
      rw [ih]; simp
    · rw [List.mem_cons, ih, List.mem_cons (a := x) (b := a)]
theorem srt_compL : ∀ {l : List Msg}, l.Pairwise (fun a b => ltM b a = false) → Srt (compL l)
  | [], _ => by simp [compL]
  | [a], _ => by simp [compL]
  | a :: b :: l, h => by
    rw [List.pairwise_cons] at h
    have ih := srt_compL h.2
    simp only [compL]
    split
    · exact ih
    · rename_i hne
      rw [Srt, List.pairwise_cons]
      refine ⟨fun x hx => ?_, ih⟩
      rw [mem_compL] at hx
      cases h1 : ltM a x with
      | true => rfl
      | false =>
        have e := ltM_total h1 (h.1 x hx)
        subst e
        rcases List.mem_cons.1 hx with e | hx
        · exact absurd e hne
        · rw [List.pairwise_cons] at h
          exact absurd (ltM_total (h.2.1 a hx) (h.1 b (by simp))) hne
theorem sortM_pw (l : List Msg) : (sortM l).Pairwise fun a b => ltM b a = false := by
  have := List.pairwise_mergeSort (le := fun x y : Msg => !ltM y x) (fun a b c h1 h2 => ?_) (fun a b => ?_) l
  · exact this.imp fun h => by simpa using h
  · simp only [Bool.not_eq_true'] at h1 h2 ⊢
    cases h3 : ltM c a with
    | false => rfl
    | true =>
      cases h4 : ltM a b with
      | true => rw [ltM_trans h3 h4] at h2; cases h2
      | false =>
        have := ltM_total h4 h1
        subst this
        rw [h3] at h2; cases h2
  · cases h1 : ltM b a with
    | false => rfl
    | true => simp [ltM_asymm h1]
theorem mem_sortM {l : List Msg} {x : Msg} : x ∈ sortM l ↔ x ∈ l := by
  unfold sortM
  exact (List.mergeSort_perm l _).mem_iff
theorem normL_srt (l : List Msg) : Srt (normL l) := srt_compL (sortM_pw l)
theorem mem_normL {l : List Msg} {x : Msg} : x ∈ normL l ↔ x ∈ l := by unfold normL; rw [mem_compL, mem_sortM]
theorem normL_eq {l o : List Msg} (h1 : Srt o) (h2 : ∀ x, x ∈ o ↔ x ∈ l) : o = normL l := srt_unique h1 (normL_srt l) fun x => by rw [h2, mem_normL]
theorem normL_of_srt {l : List Msg} (h : Srt l) : normL l = l := (normL_eq h fun _ => Iff.rfl).symm
theorem normL_congr {l m : List Msg} (h : ∀ x, x ∈ l ↔ x ∈ m) : normL l = normL m := normL_eq (normL_srt l) fun x => by rw [mem_normL, h]
theorem errM_zero {l : List Msg} : errM l = 0 ↔ l.length ≤ 64 ∧ ∀ m ∈ l, checkM m = 0 := by
  unfold errM
  constructor
  · intro h
    split at h
    · simp at h
    · split at h
      · simp at h
      · rename_i h1 h2
        refine ⟨by omega, fun m hm => ?_⟩
        simp only [Bool.not_eq_true, List.any_eq_false] at h2
        simpa using h2 m hm
  · rintro ⟨h1, h2⟩
    rw [if_neg (by omega), if_neg]
    simp only [Bool.not_eq_true, List.any_eq_false]
    intro m hm
    simpa using h2 m hm
end Go.AM


namespace Go.AM
open Go.Proofs
set_option linter.unusedVariables false
set_option linter.unusedSimpArgs false
set_option linter.constructorNameAsVariable false
set_option maxRecDepth 20000
attribute [local congr] arithK_cg eqK_cg notK_cg convK_cg pickK_cg buildK_cg ldK_cg nilK_cg sliceK_cg faK_cg fldK_cg iaK_cg iaA_cg lookK_cg capK_cg exK_cg lenK_cg minK_cg maxK_cg effK_cg callK_cg callVK_cg effD_cg gopD_cg grpK_cg condK_cg cond_cg
end Go.AM


namespace Go.AM
set_option linter.unusedVariables false
set_option linter.unusedSimpArgs false
set_option linter.constructorNameAsVariable false
set_option maxRecDepth 30000
variable {β : Type} {P : Program} {kt : TypeId} {kk : IntKind}
structure TwoInts (P : Program) (kt : TypeId) (t : TypeId) : Prop where
  st : ∃ fs : Array Field, P.underlying kt = some (.struct fs) ∧ ∃ f0 f1 : Field, fs = #[f0, f1] ∧ f0.type = t ∧ f1.type = t ∧ f0.offset = 0 ∧ f1.offset = 1 ∧ (f0.name = "_") = False ∧ (f1.name = "_") = False
  it : P.underlying t = some (.int .i64)
  held : P.stoodInHeld kt = false
theorem part_at {t : TypeId} (it : P.underlying t = some (.int .i64)) (cs : Array Value) (i : Nat) {v : Value} (hv : cs[i]? = some v) : pureVal P (part t cs i) = some v := by
  unfold part
  rw [pureVal_bnd]
  have : pureVal P (isAgg t) = some false := by
    unfold isAgg
    rw [pureVal_bnd, pureVal_underlying it]
    rfl
  rw [this, Option.bind_some]
  simp [hv]
  rfl
theorem equal_int {t : TypeId} (it : P.underlying t = some (.int .i64)) (d : Nat) (a b : Int) : pureVal P (Op.equalIn (d + 1) t (.int .i64 a) (.int .i64 b)) = some (a == b) := by
  unfold Op.equalIn
  rw [pureVal_bnd, pureVal_underlying it]
  rfl
theorem equal_two {t : TypeId} (H : TwoInts P kt t) (a b c e : Int) : pureVal P (Op.equal kt (.agg #[.int .i64 a, .int .i64 b]) (.agg #[.int .i64 c, .int .i64 e])) = some (a == c && b == e) := by
  obtain ⟨⟨fs, hu, f0, f1, rfl, t0, t1, o0, o1, q0, q1⟩, it, hh⟩ := H
  unfold Op.equal
  rw [show Op.maxDepth = (Op.maxDepth - 2) + 1 + 1 from rfl]
  unfold Op.equalIn
  rw [pureVal_bnd, pureVal_underlying hu]
  simp only [Option.bind_some]
  have pp : pureVal P program = some P := rfl
  have e0 := part_at it #[.int .i64 a, .int .i64 b] 0 (v := .int .i64 a) rfl
  have e1 := part_at it #[.int .i64 a, .int .i64 b] 1 (v := .int .i64 b) rfl
  have e2 := part_at it #[.int .i64 c, .int .i64 e] 0 (v := .int .i64 c) rfl
  have e3 := part_at it #[.int .i64 c, .int .i64 e] 1 (v := .int .i64 e) rfl
  have g0 := equal_int it (Op.maxDepth - 2) a c
  have g1 := equal_int it (Op.maxDepth - 2) b e
  rw [pureVal_bnd, pp, Option.bind_some, hh]
  simp only [Bool.false_eq_true, if_false, ← Array.forIn_toList, List.forIn_cons, List.forIn_nil, pureVal_bnd, t0, t1, o0, o1, q0, q1, e0, e1, e2, e3, g0, g1, Option.bind_some, ne_eq, not_false_eq_true, if_true]
  cases h1 : (a == c) <;> cases h2 : (b == e) <;> simp [h1, h2, pureVal_bnd, pureVal_pure, e1, e3, g1]
theorem keyEq_two {t : TypeId} (H : TwoInts P kt t) (a b c e : Int) : keyEq P kt (.agg #[.int .i64 a, .int .i64 b]) (.agg #[.int .i64 c, .int .i64 e]) = some (decide ((a, b) = (c, e))) := by
  unfold keyEq
  rw [equal_two H]
  by_cases h1 : a = c
  · by_cases h2 : b = e
    · subst h1 h2
      have : Instr.sameBits 10000 (.agg #[.int .i64 a, .int .i64 b]) (.agg #[.int .i64 a, .int .i64 b]) = true := by simp [Instr.sameBits]
      simp [this]
    · have : (b == e) = false := by simpa using h2
      rw [this]
      simp [h2]
  · have : (a == c) = false := by simpa using h1
    rw [this]
    simp [h1]
theorem keyOk_two {t : TypeId} (H : TwoInts P kt t) (a b : Int) : keyOk P kt (.agg #[.int .i64 a, .int .i64 b]) = true := by
  obtain ⟨⟨fs, hu, f0, f1, rfl, t0, t1, o0, o1, q0, q1⟩, it, hh⟩ := H
  have ck : ∀ (m : Bool) (n : Nat) (v : Int), pureVal P (Instr.checkKey m (n + 1) t (.int .i64 v)) = some () := by
    intro m n v
    unfold Instr.checkKey
    rw [pureVal_bnd, pureVal_underlying it]
    rfl
  have e0 := part_at it #[.int .i64 a, .int .i64 b] 0 (v := .int .i64 a) rfl
  have e1 := part_at it #[.int .i64 a, .int .i64 b] 1 (v := .int .i64 b) rfl
  have key : ∀ m, pureVal P (Instr.checkKey m 10000 kt (.agg #[.int .i64 a, .int .i64 b])) = some () := by
    intro m
    rw [show (10000 : Nat) = 9998 + 1 + 1 from rfl]
    unfold Instr.checkKey
    rw [pureVal_bnd, pureVal_underlying hu]
    simp only [Option.bind_some]
    simp only [← Array.forIn_toList, List.forIn_cons, List.forIn_nil, pureVal_bnd, t0, t1, o0, o1, q0, q1, e0, e1, ck, Option.bind_some, ne_eq, not_false_eq_true, if_true, pureVal_pure]
  unfold keyOk
  rw [key, key]
  rfl
abbrev keyT (p : Int × Int) : Value := .agg #[.int .i64 p.1, .int .i64 p.2]
abbrev keyA (p : Int × Int) : AV := .agg [.s (.int .i64 p.1), .s (.int .i64 p.2)]
section
variable {α : Type}
def kvT (f : α → AV) (c : List ((Int × Int) × α)) : List (Value × AV) := c.map fun e => (keyT e.1, f e.2)
def fndT : List ((Int × Int) × α) → Int × Int → Option (Nat × α)
  | [], _ => none
  | (q, x) :: r, p => if p = q then some (0, x) else (fndT r p).map fun y => (y.1 + 1, y.2)
def updT : List ((Int × Int) × α) → Int × Int → α → List ((Int × Int) × α)
  | [], p, x => [(p, x)]
  | (q, y) :: r, p, x => if p = q then (p, x) :: r else (q, y) :: updT r p x
theorem fndT_get : ∀ {c : List ((Int × Int) × α)} {p : Int × Int} {j : Nat} {x : α}, fndT c p = some (j, x) → c[j]? = some (p, x) ∧ ∀ y, updT c p y = c.set j (p, y)
  | [], p, j, x, h => by simp [fndT] at h
  | (q, y) :: r, p, j, x, h => by
    simp only [fndT] at h
    by_cases e : p = q
    · rw [if_pos e] at h
      simp only [Option.some.injEq, Prod.mk.injEq] at h
      obtain ⟨rfl, rfl⟩ := h
      subst e
      exact ⟨rfl, fun z => by simp [updT]⟩
    · rw [if_neg e] at h
      simp only [Option.map_eq_some_iff, Prod.mk.injEq] at h
      obtain ⟨⟨i, z⟩, h1, rfl, rfl⟩ := h
      obtain ⟨h2, h3⟩ := fndT_get h1
      exact ⟨by simpa using h2, fun w => by simp only [updT, if_neg e, h3]; rfl⟩
theorem fndT_none : ∀ {c : List ((Int × Int) × α)} {p : Int × Int}, fndT c p = none → (∀ y, updT c p y = c ++ [(p, y)]) ∧ ∀ y, fndT (c ++ [(p, y)]) p = some (c.length, y)
  | [], p, _ => ⟨fun _ => rfl, fun _ => by simp [fndT]⟩
  | (q, z) :: r, p, h => by
    simp only [fndT] at h
    by_cases e : p = q
    · rw [if_pos e] at h; cases h
    · rw [if_neg e, Option.map_eq_none_iff] at h
      obtain ⟨h1, h2⟩ := fndT_none h
      exact ⟨fun y => by simp only [updT, if_neg e, h1]; rfl, fun y => by simp only [List.cons_append, fndT, if_neg e, h2]; rfl⟩
theorem fndT_upd : ∀ (c : List ((Int × Int) × α)) (p q : Int × Int) (x : α), (fndT (updT c p x) q).map (·.2) = if q = p then some x else (fndT c q).map (·.2)
  | [], p, q, x => by simp only [updT, fndT]; by_cases e : q = p <;> simp [e]
  | (r, y) :: c, p, q, x => by
    have ih := fndT_upd c p q x
    simp only [updT]
    by_cases e : p = r
    · subst e
      simp only [if_true, fndT]
      by_cases e2 : q = p <;> simp [e2]
    · simp only [if_neg e, fndT]
      by_cases e2 : q = r
      · subst e2
        simp [Ne.symm e]
      · simp only [if_neg e2, Option.map_map]
        rw [show ((fun x : Nat × α => x.2) ∘ fun y : Nat × α => (y.1 + 1, y.2)) = fun x => x.2 from rfl]
        exact ih
variable {f : α → AV} {t : TypeId}
theorem findKV_two (H : TwoInts P kt t) (p : Int × Int) : ∀ c : List ((Int × Int) × α), findKV (kvT f c) (keyEq P kt) (keyT p) = some ((fndT c p).map fun r => (r.1, f r.2))
  | [] => rfl
  | (q, x) :: c => by
    have ih := findKV_two H p c
    simp only [kvT, List.map_cons, findKV, keyEq_two H, fndT] at ih ⊢
    by_cases e : p = q
    · subst e; simp
    · have hd : decide ((p.1, p.2) = (q.1, q.2)) = false := decide_eq_false e
      simp only [hd, if_neg e, ih, Option.map_some, Option.map_map]
      rfl
theorem lookupKV_two (H : TwoInts P kt t) (p : Int × Int) : ∀ c : List ((Int × Int) × α), lookupKV (kvT f c) (keyEq P kt) (keyT p) = some ((fndT c p).map fun r => f r.2)
  | [] => rfl
  | (q, x) :: c => by
    have ih := lookupKV_two H p c
    simp only [kvT, List.map_cons, lookupKV, keyEq_two H, fndT] at ih ⊢
    by_cases e : p = q
    · subst e; simp
    · have hd : decide ((p.1, p.2) = (q.1, q.2)) = false := decide_eq_false e
      simp only [hd, if_neg e, ih, Option.map_map]
      rfl
theorem lookK_two {h : Hp} {id : Nat} {c : List ((Int × Int) × α)} {z : AV} {ok : Bool} {p : Int × Int} (H : TwoInts P kt t) (hid : h[id]? = some (.map (kvT f c))) (k : K β) :
    lookK P kt z ok (.mp id) (keyA p) h k = match fndT c p with
      | some r => k (if ok then .tup [f r.2, .s (.bool true)] else f r.2)
      | none => k (if ok then .tup [z, .s (.bool false)] else z) := by
  unfold lookK
  have e : toV (keyA p) = some (keyT p) := rfl
  simp only [e, hid, keyOk_two H, lookupKV_two H p c, if_true]
  cases fndT c p <;> rfl
theorem bump_two {h : Hp} {id : Nat} {c : List ((Int × Int) × α)} {p : Int × Int} {z x : α} (H : TwoInts P kt t) (hid : h[id]? = some (.map (kvT f c))) :
    ∃ (b : AV) (j : Nat) (c1 : List ((Int × Int) × α)), mentE P kt (f z) (.mp id) (keyA p) h = some (.tup [b, .s (.int .i64 j)], ⟨[(id, .map (kvT f c1))], [], [id]⟩) ∧
      ∀ h1 : Hp, h1[id]? = some (.map (kvT f c1)) → estE (.mp id) (.s (.int .i64 j)) (f x) h1 = some (.u, ⟨[(id, .map (kvT f (updT c p x)))], [], [id]⟩) := by
  have e : toV (keyA p) = some (keyT p) := rfl
  cases hf : fndT c p with
  | some r =>
    obtain ⟨j, y⟩ := r
    obtain ⟨g1, g2⟩ := fndT_get hf
    have gk : (kvT f c)[j]? = some (keyT p, f y) := by simp [kvT, g1]
    have gs : (kvT f c).set j (keyT p, f y) = kvT f c := set_same gk
    refine ⟨f y, j, c, ?_, fun h1 hh => ?_⟩
    · unfold mentE
      simp only [e, hid, keyOk_two H, findKV_two H p c, hf, Option.map_some, if_true, gs]
    · unfold estE
      simp only [hh]
      rw [if_pos (by omega), Int.toNat_natCast, gk]
      simp only [kvT, g2, List.map_set]
  | none =>
    obtain ⟨g1, g2⟩ := fndT_none hf
    have ga : kvT f c ++ [(keyT p, f z)] = kvT f (c ++ [(p, z)]) := by simp [kvT]
    have gl : (kvT f c).length = c.length := by simp [kvT]
    refine ⟨f z, c.length, c ++ [(p, z)], ?_, fun h1 hh => ?_⟩
    · unfold mentE
      simp only [e, hid, keyOk_two H, findKV_two H p c, hf, Option.map_none, if_true, ga, findKV_two H p (c ++ [(p, z)]), g2, Option.map_some, gl]
    · unfold estE
      simp only [hh]
      rw [if_pos (by omega), Int.toNat_natCast]
      have : (kvT f (c ++ [(p, z)]))[c.length]? = some (keyT p, f z) := by simp [kvT]
      rw [this]
      simp [kvT, g1]
end
theorem leftIt_mem {n j : Nat} {seen : List Nat} : j ∈ leftIt n seen ↔ j < n ∧ j ∉ seen := by
  unfold leftIt
  rw [List.mem_filter, List.mem_range]
  simp
theorem leftIt_snoc {n j : Nat} {seen : List Nat} (hj : j ∈ leftIt n seen) : (leftIt n (seen ++ [j])).length < (leftIt n seen).length := by
  obtain ⟨h1, h2⟩ := leftIt_mem.1 hj
  unfold leftIt
  have : (List.range n).filter (fun i => !(seen ++ [j]).contains i) = ((List.range n).filter fun i => !seen.contains i).filter fun i => i != j := by
    rw [List.filter_filter]
    congr 1
    funext i
    simp [List.contains_append]
    by_cases e : i = j <;> simp [e]
  rw [this]
  exact List.length_filter_lt_length_iff_exists.2 ⟨j, hj, by simp⟩
theorem allSame_of {d x : Option β} {l : List (Option β)} (h0 : l = [] → d = x) (h : ∀ y ∈ l, y = x) : allSame d l = x := by
  cases l with
  | nil => exact h0 rfl
  | cons y ys =>
    simp only [allSame]
    rw [if_pos fun z hz => by rw [h z (by simp [hz]), h y (by simp)]]
    exact h y (by simp)
theorem nextK_of {h : Hp} {id m n : Nat} {seen : List Nat} {kvs : List (Value × AV)} {X : Option β} (hid : h[id]? = some (.iter m n seen)) (hm : h[m]? = some (.map kvs)) (hn : kvs.length = n) (k : AV → Hp → Option β)
    (h0 : leftIt n seen = [] → k (.tup [.s (.bool false)]) h = X) (h1 : ∀ j ∈ leftIt n seen, k (.tup [.s (.bool true), .u, .u]) (h.set id (.iter m n (seen ++ [j]))) = X) : nextK (.it id) h k = X := by
  unfold nextK
  simp only [hid, hm, hn, if_true]
  refine allSame_of (fun e => h0 (by simpa using e)) fun y hy => ?_
  obtain ⟨j, hj, rfl⟩ := List.mem_map.1 hy
  exact h1 j hj
theorem entryK_at {h : Hp} {id m n j : Nat} {seen : List Nat} {kvs : List (Value × AV)} {ky : Value} {v : AV} (hid : h[id]? = some (.iter m n (seen ++ [j]))) (hm : h[m]? = some (.map kvs)) (hn : kvs.length = n) (hj : kvs[j]? = some (ky, v)) (k : K β) : entryK (.it id) h k = k (.tup [keyAV ky, v]) := by
  unfold entryK
  simp only [hid, hm, List.getLast?_append, List.getLast?_singleton, Option.some_or, hn, if_true, hj]
end Go.AM


namespace Go.AM
open Go.Proofs
set_option linter.unusedVariables false
set_option linter.unusedSimpArgs false
set_option linter.constructorNameAsVariable false
set_option maxRecDepth 20000
attribute [local congr] arithK_cg eqK_cg notK_cg convK_cg pickK_cg buildK_cg ldK_cg nilK_cg sliceK_cg faK_cg fldK_cg iaK_cg iaA_cg lookK_cg capK_cg exK_cg lenK_cg minK_cg maxK_cg effK_cg callK_cg callVK_cg effD_cg gopD_cg grpK_cg condK_cg cond_cg
structure Fol where
  d : Docu
  en : Bool
  an : Int
  cnt : List ((Int × Int) × Int)
def cntP (c : List ((Int × Int) × Int)) (p : Int × Int) : Int := ((fndT c p).map (·.2)).getD 0
def bumpP (c : List ((Int × Int) × Int)) (p : Int × Int) : List ((Int × Int) × Int) := updT c p (IntKind.i64.wrap (cntP c p + 1))
def stepF (mv : Int) (s : Fol) (m : Msg) : Fol :=
  if m.mv ≠ mv then s
  else if m.kind = 1 then { s with d := { s.d with stage := 1, frm := m.frm, to := m.to, sent := m.alc }, cnt := bumpP s.cnt (m.kind, m.num) }
  else if m.kind = 2 then { s with d := { s.d with to := m.to, chg := IntKind.i64.wrap (s.d.chg + 1) }, cnt := bumpP s.cnt (m.kind, m.num) }
  else if m.kind = 3 then { s with d := { s.d with got := m.alc }, an := 2, cnt := bumpP s.cnt (m.kind, m.num) }
  else if m.kind = 4 then { s with an := 3, cnt := bumpP s.cnt (3, m.num) }
  else if m.kind = 5 then { s with en := true }
  else { s with cnt := bumpP s.cnt (m.kind, m.num) }
def begF (mv : Int) : Fol := ⟨⟨mv, 0, 0, 0, 0, 0, 0⟩, false, 0, []⟩
def folF (mv : Int) (l : List Msg) : Fol := l.foldl (stepF mv) (begF mv)
def noneD (mv : Int) : Docu := ⟨mv, 0, 0, 0, 0, 0, 0⟩
def confD (mv : Int) : Docu := ⟨mv, 5, 0, 0, 0, 0, 0⟩
def endF (mv : Int) (s : Fol) : Docu :=
  if s.d.stage = 0 then noneD mv
  else if (s.cnt.any fun e => decide (1 < e.2)) = true then confD mv
  else if s.an = 0 then s.d else if s.en = true then { s.d with stage := 4 } else { s.d with stage := s.an }
def docF (mv : Int) (l : List Msg) : Docu := endF mv (folF mv l)
abbrev fI : Int → AV := fun n => .s (.int .i64 n)
theorem twoP : TwoInts Try.prog 78 3 := ⟨⟨_, Try.underlying78, _, _, rfl, rfl, rfl, rfl, rfl, eq_false (by decide), eq_false (by decide)⟩, Try.underlying3, by kernel_rfl⟩
section
variable {β : Type}
theorem get3 {o0 o1 o2 x : AObj} {g t : Hp} : (o0 :: o1 :: o2 :: (g ++ x :: t))[g.length + 3]? = some x := by
  simp [List.getElem?_append_right]
theorem get4 {o0 o1 o2 x y : AObj} {g t : Hp} : (o0 :: o1 :: o2 :: (g ++ x :: y :: t))[g.length + 4]? = some y := by
  simp [List.getElem?_append_right]
theorem set3 {o0 o1 o2 x z : AObj} {g t : Hp} : (o0 :: o1 :: o2 :: (g ++ x :: t)).set (g.length + 3) z = o0 :: o1 :: o2 :: (g ++ z :: t) := by
  simp [List.set_append_right]
theorem set4 {o0 o1 o2 x y z : AObj} {g t : Hp} : (o0 :: o1 :: o2 :: (g ++ x :: y :: t)).set (g.length + 4) z = o0 :: o1 :: o2 :: (g ++ x :: z :: t) := by
  simp [List.set_append_right]
variable {o0 o1 o2 : AObj} {g t : Hp} {m : Msg}
theorem lq (j : Nat) (k : Go.AM.K β) {x : AV} (hx : (encM m)[j]? = some x) : ldK 1 false (.ptr (g.length + 3) 0 j 1) (o0 :: o1 :: o2 :: (g ++ .arr 7 [encM m] true false :: t)) k = k x := by
  rw [ldK_ptr, get3]
  simp [hx]
theorem lq0 (k : Go.AM.K β) : ldK 1 false (.ptr (g.length + 3) 0 0 1) (o0 :: o1 :: o2 :: (g ++ .arr 7 [encM m] true false :: t)) k = k (I m.mv) := lq 0 k rfl
theorem lq1 (k : Go.AM.K β) : ldK 1 false (.ptr (g.length + 3) 0 1 1) (o0 :: o1 :: o2 :: (g ++ .arr 7 [encM m] true false :: t)) k = k (I m.kind) := lq 1 k rfl
theorem lq2 (k : Go.AM.K β) : ldK 1 false (.ptr (g.length + 3) 0 2 1) (o0 :: o1 :: o2 :: (g ++ .arr 7 [encM m] true false :: t)) k = k (I m.num) := lq 2 k rfl
theorem lq4 (k : Go.AM.K β) : ldK 1 false (.ptr (g.length + 3) 0 4 1) (o0 :: o1 :: o2 :: (g ++ .arr 7 [encM m] true false :: t)) k = k (I m.frm) := lq 4 k rfl
theorem lq5 (k : Go.AM.K β) : ldK 1 false (.ptr (g.length + 3) 0 5 1) (o0 :: o1 :: o2 :: (g ++ .arr 7 [encM m] true false :: t)) k = k (I m.to) := lq 5 k rfl
theorem lq6 (k : Go.AM.K β) : ldK 1 false (.ptr (g.length + 3) 0 6 1) (o0 :: o1 :: o2 :: (g ++ .arr 7 [encM m] true false :: t)) k = k (I m.alc) := lq 6 k rfl
theorem bq7 (k : AV → Hp → Option β) : effK (boxE 7 (.agg zM) (o0 :: o1 :: o2 :: g).length) (o0 :: o1 :: o2 :: g) k = k (.ptr (g.length + 3) 0 0 1) (o0 :: o1 :: o2 :: (g ++ [.arr 7 [zM] true false])) := by
  exact (effK_box 7 (o0 :: o1 :: o2 :: g).length (.agg zM) _ k rfl rfl rfl).trans rfl
theorem sq7 (k : AV → Hp → Option β) : effK (stE 7 (.ptr (g.length + 3) 0 0 1) (.agg (encM m)) (o0 :: o1 :: o2 :: (g ++ [.arr 7 [zM] true false]))) (o0 :: o1 :: o2 :: (g ++ [.arr 7 [zM] true false])) k = k .u (o0 :: o1 :: o2 :: (g ++ [.arr 7 [encM m] true false])) := by
  rw [effK_put (v := .u) (id := g.length + 3) (o := .arr 7 [encM m] true false) (ft := [g.length + 3]) (by rw [stE_ptr, get3]; simp [encM]), set3]
theorem bq2 {x : AObj} (k : AV → Hp → Option β) : effK (boxE 2 (.agg [.s (.int .i64 0), .s (.int .i64 0)]) (o0 :: o1 :: o2 :: (g ++ [x])).length) (o0 :: o1 :: o2 :: (g ++ [x])) k = k (.ptr (g.length + 4) 0 0 1) (o0 :: o1 :: o2 :: (g ++ [x, .arr 2 [[I 0, I 0]] true false])) := by
  rw [effK_box 2 _ _ _ k rfl rfl rfl]; simp
theorem sq2 {x : AObj} {a b : Int} (k : AV → Hp → Option β) : effK (stE 2 (.ptr (g.length + 4) 0 0 1) (.agg [I a, I b]) (o0 :: o1 :: o2 :: (g ++ [x, .arr 2 [[I 0, I 0]] true false]))) (o0 :: o1 :: o2 :: (g ++ [x, .arr 2 [[I 0, I 0]] true false])) k = k .u (o0 :: o1 :: o2 :: (g ++ [x, .arr 2 [[I a, I b]] true false])) := by
  rw [effK_put (v := .u) (id := g.length + 4) (o := .arr 2 [[I a, I b]] true false) (ft := [g.length + 4]) (by rw [stE_ptr, get4]; simp), set4]
theorem sq20 {x : AObj} {a b c : Int} (k : AV → Hp → Option β) : effK (stE 1 (.ptr (g.length + 4) 0 0 1) (I c) (o0 :: o1 :: o2 :: (g ++ [x, .arr 2 [[I a, I b]] true false]))) (o0 :: o1 :: o2 :: (g ++ [x, .arr 2 [[I a, I b]] true false])) k = k .u (o0 :: o1 :: o2 :: (g ++ [x, .arr 2 [[I c, I b]] true false])) := by
  rw [effK_put (v := .u) (id := g.length + 4) (o := .arr 2 [[I c, I b]] true false) (ft := [g.length + 4]) (by rw [stE_ptr, get4]; simp), set4]
theorem lw2 {x : AObj} {a b : AV} (k : Go.AM.K β) : ldK 2 true (.ptr (g.length + 4) 0 0 1) (o0 :: o1 :: o2 :: (g ++ [x, .arr 2 [[a, b]] true false])) k = k (.agg [a, b]) := by
  rw [ldK_ptr, get4]
  simp
end
theorem of_j9 {β : Type} {T : Tab} {D : DTab} {N : Nat} {xn : AV → AV → AV → AV → AV → AV → AV → AV → AV → Hp → Option β} {x0 : AV → AV → AV → AV → AV → AV → Hp → Option β} {v1 v4 v6 v7 v8 v17 v18 v19 : AV} {o0 o2 x : AObj} {g : Hp} {c : List ((Int × Int) × Int)} {a b : Int} :
    f_document_of_j10 Try.prog T D N xn x0 v1 v4 (.mp 1) v6 v7 v8 (.ptr (g.length + 4) 0 0 1) v17 v18 v19 (o0 :: .map (kvT fI c) :: o2 :: (g ++ [x, .arr 2 [[I a, I b]] true false])) =
      f_document_of_j8 Try.prog T D N xn x0 v1 v4 (.mp 1) v6 v7 v8 v17 v18 v19 (o0 :: .map (kvT fI (bumpP c (a, b))) :: o2 :: (g ++ [x, .arr 2 [[I a, I b]] true false])) := by
  obtain ⟨bv, j, c1, h1, h2⟩ := bump_two (f := fI) (h := o0 :: .map (kvT fI c) :: o2 :: (g ++ [x, .arr 2 [[I a, I b]] true false])) (id := 1) (c := c) (p := (a, b)) (z := (0 : Int)) (x := IntKind.i64.wrap (cntP c (a, b) + 1)) twoP rfl
  have hl : ∀ k : Go.AM.K β, lookK Try.prog 78 (.s (.int .i64 0)) false (.mp 1) (.agg [I a, I b]) (o0 :: .map (kvT fI c) :: o2 :: (g ++ [x, .arr 2 [[I a, I b]] true false])) k = k (I (cntP c (a, b))) := fun k => by
    rw [lookK_two (p := (a, b)) (f := fI) (c := c) twoP rfl]
    unfold cntP
    cases fndT c (a, b) <;> rfl
  have e1 : ∀ k : AV → Hp → Ent → Option β, effD (mentE Try.prog 78 (.s (.int .i64 0)) (.mp 1) (.agg [I a, I b]) (o0 :: .map (kvT fI c) :: o2 :: (g ++ [x, .arr 2 [[I a, I b]] true false]))) (o0 :: .map (kvT fI c) :: o2 :: (g ++ [x, .arr 2 [[I a, I b]] true false])) k = k (.tup [bv, .s (.int .i64 j)]) (o0 :: .map (kvT fI c1) :: o2 :: (g ++ [x, .arr 2 [[I a, I b]] true false])) ([1], [1]) := fun k => effD_put h1 k
  have e2 : ∀ k : AV → Hp → Ent → Option β, effD (estE (.mp 1) (.s (.int .i64 j)) (I (IntKind.i64.wrap (cntP c (a, b) + 1))) (o0 :: .map (kvT fI c1) :: o2 :: (g ++ [x, .arr 2 [[I a, I b]] true false]))) (o0 :: .map (kvT fI c1) :: o2 :: (g ++ [x, .arr 2 [[I a, I b]] true false])) k = k .u (o0 :: .map (kvT fI (bumpP c (a, b))) :: o2 :: (g ++ [x, .arr 2 [[I a, I b]] true false])) ([1], [1]) := fun k => effD_put (h2 _ rfl) k
  have x1 : ∀ k : Go.AM.K β, exK (.tup [bv, .s (.int .i64 j)]) 1 k = k (.s (.int .i64 j)) := fun k => rfl
  simp -implicitDefEqProofs only [f_document_of_j10, f_document_of_j9, lw2, hl, arithK_add, e1, x1, e2, disjAll_nil, cond_true]
theorem of_b6 {β : Type} {T : Tab} {D : DTab} {N : Nat} {xn : AV → AV → AV → AV → AV → AV → AV → AV → AV → Hp → Option β} {x0 : AV → AV → AV → AV → AV → AV → Hp → Option β} {l : List Msg} {b : Bool} {i : Nat} {m : Msg} {mv : Int} {s : Fol} {o0 : AObj} {g : Hp} (hl : l.length < 1000000) (hi : l[i]? = some m) :
    ∃ g', f_document_of_b6 Try.prog T D N xn x0 (I mv) (.ptr 0 0 0 1) (.mp 1) (.ptr 2 0 0 1) (B s.en) (I s.an) (.lst 7 b (l.map encM)) (I l.length) (I i) (o0 :: .map (kvT fI s.cnt) :: .arr 7 [encDo s.d] true false :: g) =
      xn (I mv) (.ptr 0 0 0 1) (.mp 1) (.ptr 2 0 0 1) (B (stepF mv s m).en) (I (stepF mv s m).an) (.lst 7 b (l.map encM)) (I l.length) (I ((i + 1 : Nat) : Int)) (o0 :: .map (kvT fI (stepF mv s m).cnt) :: .arr 7 [encDo (stepF mv s m).d] true false :: g') := by
  have hil : i < l.length := (List.getElem?_eq_some_iff.1 hi).1
  have c1 : ((i : Int) < (l.length : Int)) := by omega
  have hw : IntKind.i64.wrap ((i : Int) + 1) = ((i + 1 : Nat) : Int) := by rw [wrap64 (by omega) (by omega)]; omega
  have ic : ∀ k : Go.AM.K β, iaK 7 (.lst 7 b (l.map encM)) (I i) k = k (.ep (encM m) 0) := fun k => iaK_at i rfl hi k
  have ld : ∀ (h : Hp) (k : Go.AM.K β), ldK 7 true (.ep (encM m) 0) h k = k (.agg (encM m)) := fun h k => rfl
  have bd : ∀ k : Go.AM.K β, buildK [.s (.int .i64 0), .s (.int .i64 0)] [(some (0, 1), I m.kind), (some (1, 1), I m.num)] k = k (.agg [I m.kind, I m.num]) := fun k => rfl
  obtain ⟨⟨d0, d1, d2, d3, d4, d5, d6⟩, en, an, cnt⟩ := s
  simp only [encDo]
  have dj4 : disjAll [(1, 7), (3, 7), (5, 7), (3, 9), (5, 9), (5, 11)] [([], []), (idsOf (AV.ptr (g.length + 3) 0 4 1), []), ([], []), (idsOf (AV.ptr (g.length + 3) 0 5 1), []), ([], []), (idsOf (AV.ptr (g.length + 3) 0 6 1), []), ([], []), ([2], [2]), ([], []), ([2], [2]), ([], []), ([2], [2]), ([], []), ([2], [2])] = true := by simp [disjAll, disj2, idsOf]
  by_cases hm : m.mv = mv
  · have em : (m.mv == mv) = true := by simpa using hm
    have en' : ¬ (m.mv ≠ mv) := by simpa using hm
    refine ⟨g ++ [.arr 7 [encM m] true false, .arr 2 [[I (if m.kind = 4 then 3 else m.kind), I m.num]] true false], ?_⟩
    simp -implicitDefEqProofs only [f_document_of_b6, arithK_lss, c1, decide_true, condK_bool, if_true, ic, ld, bq7, sq7, faK_ptr, Nat.zero_add, lq0, eqK_int, em, Bool.true_xor, Bool.false_xor, Bool.not_true, Bool.false_eq_true, if_false, lq1, lq2, bd, bq2, sq2]
    by_cases k1 : m.kind = 1
    · have q1 : (m.kind == 1) = true := by simpa using k1
      simp -implicitDefEqProofs only [q1, if_true, lq4, lq5, lq6, faK_ptr, Nat.zero_add, ld7_2_0, es7_2_0, ed7_2_0, ld7_2_1, es7_2_1, ed7_2_1, ld7_2_2, es7_2_2, ed7_2_2, ld7_2_3, es7_2_3, ed7_2_3, ld7_2_4, es7_2_4, ed7_2_4, ld7_2_5, es7_2_5, ed7_2_5, ld7_2_6, es7_2_6, ed7_2_6, of_j9, dj4, cond_true, f_document_of_j8, f_document_of_j7, arithK_add, hw]
      simp [stepF, hm, k1]
    have q1 : (m.kind == 1) = false := by simpa using k1
    by_cases k2 : m.kind = 2
    · have q2 : (m.kind == 2) = true := by simpa using k2
      simp -implicitDefEqProofs only [q1, q2, Bool.false_eq_true, if_false, if_true, lq5, faK_ptr, Nat.zero_add, ld7_2_0, es7_2_0, ed7_2_0, ld7_2_1, es7_2_1, ed7_2_1, ld7_2_2, es7_2_2, ed7_2_2, ld7_2_3, es7_2_3, ed7_2_3, ld7_2_4, es7_2_4, ed7_2_4, ld7_2_5, es7_2_5, ed7_2_5, ld7_2_6, es7_2_6, ed7_2_6, of_j9, f_document_of_j8, f_document_of_j7, arithK_add, hw]
      simp [stepF, hm, k1, k2]
    have q2 : (m.kind == 2) = false := by simpa using k2
    by_cases k3 : m.kind = 3
    · have q3 : (m.kind == 3) = true := by simpa using k3
      have dj : disjAll [(1, 4)] [([], []), (idsOf (AV.ptr (g.length + 3) 0 6 1), []), ([], []), ([], []), ([2], [2])] = true := by simp [disjAll, disj2, idsOf]
      simp -implicitDefEqProofs only [q1, q2, q3, Bool.false_eq_true, if_false, if_true, lq6, faK_ptr, Nat.zero_add, ld7_2_0, es7_2_0, ed7_2_0, ld7_2_1, es7_2_1, ed7_2_1, ld7_2_2, es7_2_2, ed7_2_2, ld7_2_3, es7_2_3, ed7_2_3, ld7_2_4, es7_2_4, ed7_2_4, ld7_2_5, es7_2_5, ed7_2_5, ld7_2_6, es7_2_6, ed7_2_6, of_j9, dj, cond_true, f_document_of_j8, f_document_of_j7, arithK_add, hw]
      simp [stepF, hm, k1, k2, k3]
    have q3 : (m.kind == 3) = false := by simpa using k3
    by_cases k4 : m.kind = 4
    · have q4 : (m.kind == 4) = true := by simpa using k4
      simp -implicitDefEqProofs only [q1, q2, q3, q4, Bool.false_eq_true, if_false, if_true, faK_ptr, Nat.zero_add, sq20, of_j9, f_document_of_j8, f_document_of_j7, arithK_add, hw]
      simp [stepF, hm, k1, k2, k3, k4]
    have q4 : (m.kind == 4) = false := by simpa using k4
    by_cases k5 : m.kind = 5
    · have q5 : (m.kind == 5) = true := by simpa using k5
      simp -implicitDefEqProofs only [q1, q2, q3, q4, q5, Bool.false_eq_true, if_false, if_true, f_document_of_j8, f_document_of_j7, arithK_add, hw]
      simp [stepF, hm, k1, k2, k3, k4, k5]
    have q5 : (m.kind == 5) = false := by simpa using k5
    simp only [k4, if_false]
    simp -implicitDefEqProofs only [q1, q2, q3, q4, q5, Bool.false_eq_true, if_false, if_true, of_j9, f_document_of_j8, f_document_of_j7, arithK_add, hw]
    simp [stepF, hm, k1, k2, k3, k4, k5]
  · have em : (m.mv == mv) = false := by simpa using hm
    have en' : m.mv ≠ mv := hm
    refine ⟨g ++ [.arr 7 [encM m] true false], ?_⟩
    simp -implicitDefEqProofs only [f_document_of_b6, arithK_lss, c1, decide_true, condK_bool, if_true, ic, ld, bq7, sq7, faK_ptr, Nat.zero_add, lq0, eqK_int, em, Bool.true_xor, Bool.not_false, f_document_of_j8, f_document_of_j7, arithK_add, hw, stepF, en', ne_eq, not_false_eq_true]
theorem of_L6 {β : Type} {T : Tab} {D : DTab} {N : Nat} {x0 : AV → AV → AV → AV → AV → AV → Hp → Option β} {X : Option β} {l : List Msg} {b : Bool} {mv : Int} {o0 : AObj} (hl : l.length < 1000000) (hx : ∀ g, x0 (I mv) (.ptr 0 0 0 1) (.mp 1) (.ptr 2 0 0 1) (B (folF mv l).en) (I (folF mv l).an) (o0 :: .map (kvT fI (folF mv l).cnt) :: .arr 7 [encDo (folF mv l).d] true false :: g) = X) : ∀ (n i : Nat) (g : Hp), i ≤ l.length → l.length < i + n →
    f_document_of_L6 Try.prog T D N x0 n (I mv) (.ptr 0 0 0 1) (.mp 1) (.ptr 2 0 0 1) (B (folF mv (l.take i)).en) (I (folF mv (l.take i)).an) (.lst 7 b (l.map encM)) (I l.length) (I i) (o0 :: .map (kvT fI (folF mv (l.take i)).cnt) :: .arr 7 [encDo (folF mv (l.take i)).d] true false :: g) = X := by
  intro n
  induction n with
  | zero => intro i g h1 h2; omega
  | succ n ih =>
    intro i g h1 h2
    show f_document_of_b6 Try.prog T D N (f_document_of_L6 Try.prog T D N x0 n) x0 _ _ _ _ _ _ _ _ _ _ = _
    rcases Nat.lt_or_ge i l.length with hi | hi
    · have hm : l[i]? = some l[i] := List.getElem?_eq_getElem hi
      obtain ⟨g', e⟩ := of_b6 (T := T) (D := D) (N := N) (xn := f_document_of_L6 Try.prog T D N x0 n) (x0 := x0) (b := b) (mv := mv) (s := folF mv (l.take i)) (o0 := o0) (g := g) hl hm
      rw [e]
      have hs : stepF mv (folF mv (l.take i)) l[i] = folF mv (l.take (i + 1)) := by
        unfold folF
        rw [take_succ_get hm, List.foldl_append]
        rfl
      rw [hs]
      exact ih (i + 1) g' (by omega) (by omega)
    · have : i = l.length := by omega
      subst this
      have c1 : ¬ ((l.length : Int) < (l.length : Int)) := by omega
      rw [List.take_length]
      simp -implicitDefEqProofs only [f_document_of_b6, arithK_lss, c1, decide_false, condK_bool, Bool.false_eq_true, if_false]
      exact hx g
theorem of_L5 {T : Tab} {D : DTab} {N : Nat} {x3 : AV → AV → AV → AV → Hp → Option AV} {xr : AV → Hp → Option AV} {X : Option AV} {mv : Int} {en an : AV} {c : List ((Int × Int) × Int)} {d : Docu} {id : Nat}
    (h3 : (c.any fun e => decide (1 < e.2)) = false → ∀ z t, x3 (.ptr 0 0 0 1) (.ptr 2 0 0 1) en an (.arr 7 [zM] true false :: z :: .arr 7 [encDo d] true false :: t) = X) (hr : (c.any fun e => decide (1 < e.2)) = true → ∀ z z2 t, xr (.ptr 0 0 0 1) (.arr 7 [encDo (confD mv)] true false :: z :: z2 :: t) = X) :
    ∀ (n : Nat) (seen : List Nat) (t : Hp), (leftIt c.length seen).length < n → (∀ j ∈ seen, ∀ e, c[j]? = some e → ¬ 1 < e.2) → (.arr 7 [zM] true false :: .map (kvT fI c) :: .arr 7 [encDo d] true false :: t : Hp)[id]? = some (.iter 1 c.length seen) →
    f_document_of_L5 Try.prog T D N x3 xr n (I mv) (.ptr 0 0 0 1) (.ptr 2 0 0 1) en an (.it id) (.arr 7 [zM] true false :: .map (kvT fI c) :: .arr 7 [encDo d] true false :: t) = X := by
  intro n
  induction n with
  | zero => intro seen t h1; omega
  | succ n ih =>
    intro seen t h1 hseen hid
    have hn : (kvT fI c).length = c.length := by simp [kvT]
    have hid3 : ∃ q, id = q + 3 := by
      match id, hid with
      | 0, hid => simp at hid
      | 1, hid => simp at hid
      | 2, hid => simp at hid
      | q + 3, _ => exact ⟨q, rfl⟩
    obtain ⟨q, rfl⟩ := hid3
    have hset : ∀ o, (.arr 7 [zM] true false :: .map (kvT fI c) :: .arr 7 [encDo d] true false :: t : Hp).set (q + 3) o = .arr 7 [zM] true false :: .map (kvT fI c) :: .arr 7 [encDo d] true false :: t.set q o := fun o => rfl
    have hql : q < t.length := by simpa using (List.getElem?_eq_some_iff.1 hid).1
    show f_document_of_b5 Try.prog T D N (f_document_of_L5 Try.prog T D N x3 xr n) x3 xr _ _ _ _ _ _ _ = _
    refine nextK_of hid rfl hn _ (fun h0 => ?_) fun j hj => ?_
    · simp -implicitDefEqProofs only [exK_tup, List.getElem?_cons_zero, condK_bool, Bool.false_eq_true, if_false]
      refine h3 ?_ _ _
      rw [List.any_eq_false]
      intro e he
      obtain ⟨j, hj, rfl⟩ := List.getElem_of_mem he
      have : j ∉ leftIt c.length seen := by rw [h0]; simp
      rw [leftIt_mem] at this
      have hs : j ∈ seen := by
        rcases Decidable.em (j ∈ seen) with h | h
        · exact h
        · exact absurd ⟨hj, h⟩ this
      simpa using hseen j hs _ (List.getElem?_eq_getElem hj)
    · obtain ⟨hjl, hjs⟩ := leftIt_mem.1 hj
      have hcj : c[j]? = some c[j] := List.getElem?_eq_getElem hjl
      have hkj : (kvT fI c)[j]? = some (keyT c[j].1, fI c[j].2) := by simp [kvT, hjl]
      rw [hset]
      have en1 : ∀ k : Go.AM.K AV, entryK (.it (q + 3)) (.arr 7 [zM] true false :: .map (kvT fI c) :: .arr 7 [encDo d] true false :: t.set q (.iter 1 c.length (seen ++ [j]))) k = k (.tup [keyAV (keyT c[j].1), I c[j].2]) := fun k => entryK_at (seen := seen) (n := c.length) (j := j) (h := .arr 7 [zM] true false :: .map (kvT fI c) :: .arr 7 [encDo d] true false :: t.set q (.iter 1 c.length (seen ++ [j]))) (id := q + 3) (m := 1) (by simp [hql]) rfl hn hkj k
      have bc : ∀ k : Go.AM.K AV, buildK [.s (.int .i64 0), .s (.int .i64 0), .s (.int .i64 0), .s (.int .i64 0), .s (.int .i64 0), .s (.int .i64 0), .s (.int .i64 0)] [(some (0, 1), I mv), (some (1, 1), .s (.int .i64 5))] k = k (.agg [I mv, I 5, I 0, I 0, I 0, I 0, I 0]) := fun k => rfl
      simp -implicitDefEqProofs only [exK_tup, List.getElem?_cons_zero, condK_bool, if_true]
      rw [en1]
      simp -implicitDefEqProofs only [exK_tup, List.getElem?_cons_zero, List.getElem?_cons_succ, condK_bool, arithK_gtr, bc, ew7_0]
      by_cases h2 : 1 < c[j].2
      · rw [if_pos (by simpa using h2)]
        exact hr (List.any_eq_true.2 ⟨c[j], List.getElem_mem hjl, by simpa using h2⟩) _ _ _
      · rw [if_neg (by simpa using h2)]
        refine ih (seen ++ [j]) _ (by have := leftIt_snoc hj; omega) (fun i hi e he => ?_) (by simp [hql])
        rcases List.mem_append.1 hi with hi | hi
        · exact hseen i hi e he
        · simp only [List.mem_singleton] at hi
          subst hi
          rw [hcj] at he
          injection he with he
          rw [← he]; exact h2
theorem updT_len {α : Type} : ∀ (c : List ((Int × Int) × α)) (p : Int × Int) (x : α), (updT c p x).length ≤ c.length + 1
  | [], p, x => by simp [updT]
  | (q, y) :: c, p, x => by
    have := updT_len c p x
    simp only [updT]
    split <;> simp <;> omega
theorem stepF_cnt (mv : Int) (s : Fol) (m : Msg) : (stepF mv s m).cnt.length ≤ s.cnt.length + 1 := by
  unfold stepF
  repeat' split
  all_goals first | exact updT_len _ _ _ | (simp; done)
theorem folF_cnt (mv : Int) : ∀ (l : List Msg) (s : Fol), (l.foldl (stepF mv) s).cnt.length ≤ s.cnt.length + l.length
  | [], s => by simp
  | m :: l, s => by
    have h1 := folF_cnt mv l (stepF mv s m)
    have h2 := stepF_cnt mv s m
    simp only [List.foldl_cons, List.length_cons]
    omega
theorem F_document_of_val (l : List Msg) (b : Bool) (mv : Int) (hl : l.length < 1000000) (h : Hp) : F_document_of [.lst 7 b (l.map encM), I mv] h = some (.agg (encDo (docF mv l)), h) := by
  refine F_document_of_run (v := .agg (encDo (docF mv l))) rfl ?_ h
  simp only [nrm, nrmC]
  have b0 : ∀ k : Go.AM.K AV, buildK [.s (.int .i64 0), .s (.int .i64 0), .s (.int .i64 0), .s (.int .i64 0), .s (.int .i64 0), .s (.int .i64 0), .s (.int .i64 0)] [(some (0, 1), I mv)] k = k (.agg (encDo (noneD mv))) := fun k => rfl
  have mk : ∀ (o : AObj) (k : AV → Hp → Option AV), effK (some (.mp (List.length [o]), EN (.map []))) [o] k = k (.mp 1) [o, .map []] := fun o k => rfl
  simp -implicitDefEqProofs only [f_document_of, bx7_0, mk, b0, bx7_2, encDo, noneD, ew7_2, lenK_lst, List.length_map]
  have key := of_L6 (T := t_document_of) (D := d_document_of) (N := NN) (x0 := fun w121_1 w121_4 w121_5 w121_6 w121_7 w121_8 h => f_document_of_j1 Try.prog t_document_of d_document_of NN (fun v g => cvt false g v) w121_1 w121_4 w121_5 w121_6 w121_7 w121_8 h) (X := some (AV.agg (encDo (docF mv l)))) (l := l) (b := b) (mv := mv) (o0 := .arr 7 [zM] true false) hl ?_ NN 0 [] (by omega) (by have := NN_ge; omega)
  · exact key
  · intro g
    have b1 : ∀ k : Go.AM.K AV, buildK zM [(some (0, 1), I mv)] k = k (.agg (encDo (noneD mv))) := fun k => rfl
    unfold docF
    have hcl : (folF mv l).cnt.length ≤ l.length := by have := folF_cnt mv l (begF mv); simpa [begF, folF] using this
    generalize folF mv l = s at *
    obtain ⟨⟨d0, d1, d2, d3, d4, d5, d6⟩, en, an, c⟩ := s
    simp -implicitDefEqProofs only [f_document_of_j1, faK_ptr, Nat.zero_add, encDo, ld7_2_1, eqK_int, Bool.false_xor, condK_bool, b1]
    by_cases h1 : d1 = 0
    · subst h1
      simp -implicitDefEqProofs only [beq_self_eq_true, if_true, encDo, noneD, ew7_0, lw7_0, endF]
      rfl
    · have e1 : (d1 == 0) = false := by simpa using h1
      have rg : ∀ (o2 : AObj) (k : AV → Hp → Option AV), effK (rngE (.mp 1) (.arr 7 [zM] true false :: .map (kvT fI c) :: o2 :: g) (.arr 7 [zM] true false :: .map (kvT fI c) :: o2 :: g : Hp).length) (.arr 7 [zM] true false :: .map (kvT fI c) :: o2 :: g) k = k (.it (g.length + 3)) (.arr 7 [zM] true false :: .map (kvT fI c) :: o2 :: (g ++ [.iter 1 c.length []])) := fun o2 k => by
        have : (kvT fI c).length = c.length := by simp [kvT]
        simp [rngE, effK, ap, this]
      simp -implicitDefEqProofs only [e1, Bool.false_eq_true, if_false, rg]
      refine of_L5 (d := ⟨d0, d1, d2, d3, d4, d5, d6⟩) (c := c) (fun hc z t => ?_) (fun hc z z2 t => ?_) NN [] _ ?_ (by simp) ?_
      · simp -implicitDefEqProofs only [f_document_of_j2, eqK_int, Bool.false_xor, condK_bool, encDo, faK_ptr, Nat.zero_add, es7_2_1, f_document_of_j4, f_document_of_j3, lw7_2, ew7_0, lw7_0, endF, h1, if_false, hc, Bool.false_eq_true]
        by_cases h2 : an = 0
        · subst h2; rfl
        · have e2 : (an == 0) = false := by simpa using h2
          simp only [e2, h2, if_false, Bool.false_eq_true]
          cases en <;> rfl
      · simp -implicitDefEqProofs only [encDo, confD, lw7_0, endF, h1, if_false, hc, if_true]
        rfl
      · have := List.length_filter_le (fun j => !([] : List Nat).contains j) (List.range c.length)
        rw [List.length_range] at this
        have hN := NN_ge
        unfold leftIt
        simp only at hcl
        omega
      · exact get3
end Go.AM


namespace Go.AM
open Go.Proofs
set_option linter.unusedVariables false
set_option linter.unusedSimpArgs false
set_option linter.constructorNameAsVariable false
set_option maxRecDepth 20000
def ofk (mv k : Int) (l : List Msg) : List Msg := l.filter fun m => m.mv == mv && m.kind == k
theorem ofk_snoc (mv k : Int) (l : List Msg) (m : Msg) : ofk mv k (l ++ [m]) = if m.mv = mv ∧ m.kind = k then ofk mv k l ++ [m] else ofk mv k l := by
  unfold ofk
  rw [List.filter_append]
  by_cases h : m.mv = mv ∧ m.kind = k
  · simp [h]
  · rw [if_neg h]
    have : (m.mv == mv && m.kind == k) = false := by
      rw [Bool.eq_false_iff]; intro q; simp at q; exact h q
    simp [this]
theorem mem_ofk {mv k : Int} {l : List Msg} {m : Msg} : m ∈ ofk mv k l ↔ m ∈ l ∧ m.mv = mv ∧ m.kind = k := by unfold ofk; simp
def docS (mv : Int) (l : List Msg) : Docu :=
  match (ofk mv 1 l).getLast? with
  | none => noneD mv
  | some d =>
    if 1 < (ofk mv 1 l).length ∨ 1 < (ofk mv 3 l).length + (ofk mv 4 l).length ∨ ¬ ((ofk mv 2 l).map (·.num)).Nodup then confD mv
    else ⟨mv, if ofk mv 3 l = [] ∧ ofk mv 4 l = [] then 1 else if ofk mv 5 l ≠ [] then 4 else if ofk mv 4 l = [] then 2 else 3, d.frm, match (ofk mv 2 l).getLast? with | some c => c.to | none => d.to, d.alc, (((ofk mv 3 l).getLast?).map (·.alc)).getD 0, (ofk mv 2 l).length⟩
theorem checkM_kind {m : Msg} (h : checkM m = 0) : 1 ≤ m.kind ∧ m.kind ≤ 5 ∧ 1 ≤ m.mv ∧ m.mv ≤ 1073741824 ∧ formM m = true := by
  unfold checkM at h
  split at h
  · simp at h
  · rename_i hr
    split at h
    · rename_i hf
      simp [rangeM] at hr
      exact ⟨by omega, by omega, by omega, by omega, hf⟩
    · simp at h
theorem checkM_num {m : Msg} (h : checkM m = 0) : m.kind = 1 ∨ m.kind = 3 ∨ m.kind = 4 ∨ m.kind = 5 → m.num = 0 := by
  obtain ⟨-, -, -, -, hf⟩ := checkM_kind h
  rintro (k | k | k | k) <;> simp [formM, k] at hf <;> simp_all
theorem ltM_lex {a b : Msg} (h : ltM a b = true) : a.mv ≤ b.mv ∧ (a.mv = b.mv → a.kind ≤ b.kind ∧ (a.kind = b.kind → a.num ≤ b.num)) := by
  unfold ltM cellsM at h
  simp only [ltZ_cons, Bool.or_eq_true, Bool.and_eq_true, decide_eq_true_eq] at h
  omega
def partM (m : Msg) : Option (Int × Int) := if m.kind = 5 then none else if m.kind = 4 then some (3, m.num) else some (m.kind, m.num)
abbrev keysD {α : Type} (c : List ((Int × Int) × α)) : Prop := c.Pairwise fun a b => a.1 ≠ b.1
theorem updT_mem {α : Type} : ∀ {c : List ((Int × Int) × α)} {p : Int × Int} {x : α} {e : (Int × Int) × α}, e ∈ updT c p x → e = (p, x) ∨ e ∈ c
  | [], p, x, e, h => by simp [updT] at h; exact .inl h
  | (q, y) :: c, p, x, e, h => by
    simp only [updT] at h
    split at h
    · rcases List.mem_cons.1 h with h | h
      · exact .inl h
      · exact .inr (by simp [h])
    · rcases List.mem_cons.1 h with h | h
      · exact .inr (by simp [h])
      · rcases updT_mem h with h | h
        · exact .inl h
        · exact .inr (by simp [h])
theorem keysD_upd {α : Type} : ∀ {c : List ((Int × Int) × α)} (p : Int × Int) (x : α), keysD c → keysD (updT c p x)
  | [], p, x, h => by simp [updT]
  | (q, y) :: c, p, x, h => by
    rw [keysD, List.pairwise_cons] at h
    simp only [updT]
    split
    · rename_i e
      subst e
      rw [keysD, List.pairwise_cons]
      exact h
    · rename_i e
      rw [keysD, List.pairwise_cons]
      refine ⟨fun z hz => ?_, keysD_upd p x h.2⟩
      rcases updT_mem hz with rfl | hz
      · exact fun q => e q.symm
      · exact h.1 z hz
theorem fndT_of_mem {α : Type} : ∀ {c : List ((Int × Int) × α)} {e : (Int × Int) × α}, keysD c → e ∈ c → (fndT c e.1).map (·.2) = some e.2
  | [], e, _, h => by simp at h
  | (q, y) :: c, e, hk, h => by
    rw [keysD, List.pairwise_cons] at hk
    rcases List.mem_cons.1 h with rfl | h
    · simp [fndT]
    · have : ¬ e.1 = q := fun q => hk.1 e h q.symm
      simp only [fndT, if_neg this, Option.map_map]
      have ih := fndT_of_mem hk.2 h
      rw [← ih]
      rfl
theorem cntP_bump (c : List ((Int × Int) × Int)) (p q : Int × Int) : cntP (bumpP c p) q = if q = p then IntKind.i64.wrap (cntP c p + 1) else cntP c q := by
  unfold cntP bumpP
  rw [fndT_upd]
  split <;> rfl
theorem any_cnt {c : List ((Int × Int) × Int)} (hk : keysD c) : (c.any fun e => decide (1 < e.2)) = true ↔ ∃ p, 1 < cntP c p := by
  rw [List.any_eq_true]
  constructor
  · rintro ⟨e, he, h⟩
    refine ⟨e.1, ?_⟩
    unfold cntP
    rw [fndT_of_mem hk he]
    simpa using h
  · rintro ⟨p, h⟩
    unfold cntP at h
    cases hf : fndT c p with
    | none => rw [hf] at h; simp at h
    | some r =>
      obtain ⟨j, x⟩ := r
      rw [hf] at h
      exact ⟨(p, x), List.mem_of_getElem? (fndT_get hf).1, by simpa using h⟩
structure InF (mv : Int) (l : List Msg) (s : Fol) : Prop where
  mve : s.d.mv = mv
  stage : s.d.stage = if ofk mv 1 l = [] then 0 else 1
  frm : s.d.frm = (((ofk mv 1 l).getLast?).map (·.frm)).getD 0
  sent : s.d.sent = (((ofk mv 1 l).getLast?).map (·.alc)).getD 0
  to : s.d.to = match (ofk mv 2 l).getLast? with | some c => c.to | none => (((ofk mv 1 l).getLast?).map (·.to)).getD 0
  got : s.d.got = (((ofk mv 3 l).getLast?).map (·.alc)).getD 0
  chg : s.d.chg = (ofk mv 2 l).length
  en : s.en = !(ofk mv 5 l).isEmpty
  an : s.an = if ofk mv 4 l ≠ [] then 3 else if ofk mv 3 l ≠ [] then 2 else 0
  cnt : ∀ p, cntP s.cnt p = (l.countP fun m => m.mv == mv && partM m == some p : Nat)
  keys : keysD s.cnt
theorem ofk_len (mv k : Int) (l : List Msg) : (ofk mv k l).length ≤ l.length := List.length_filter_le _ _
theorem InF.step {mv : Int} {l : List Msg} {s : Fol} {m : Msg} (H : InF mv l s) (hs : Srt (l ++ [m])) (hm : checkM m = 0) (hl : l.length < 1000000) : InF mv (l ++ [m]) (stepF mv s m) := by
  obtain ⟨k0, k5, -⟩ := checkM_kind hm
  have hlt : ∀ x ∈ l, ltM x m = true := fun x hx => by
    rw [Srt, List.pairwise_append] at hs
    exact hs.2.2 x hx m (by simp)
  by_cases hmv : m.mv = mv
  · have noK : ∀ k, m.kind < k → ofk mv k l = [] := fun k hk => by
      rw [List.eq_nil_iff_forall_not_mem]
      intro x hx
      obtain ⟨h1, h2, h3⟩ := mem_ofk.1 hx
      have := ltM_lex (hlt x h1)
      have h4 := this.2 (by omega)
      omega
    have wr : IntKind.i64.wrap (((ofk mv 2 l).length : Int) + 1) = (((ofk mv 2 l).length + 1 : Nat) : Int) := by
      have := ofk_len mv 2 l
      rw [wrap64 (by omega) (by omega)]; rfl
    have cn : ∀ (p q : Int × Int) (b : Bool), ((partM m == some q) = b) → cntP s.cnt q = (l.countP fun m => m.mv == mv && partM m == some q : Nat) → (((l ++ [m]).countP fun m => m.mv == mv && partM m == some q : Nat) : Int) = cntP s.cnt q + if b = true then 1 else 0 := by
      intro p q b hb hc
      rw [List.countP_append, hc]
      simp [hmv, hb]
      cases b <;> rfl
    have wc : ∀ q, IntKind.i64.wrap (cntP s.cnt q + 1) = cntP s.cnt q + 1 := fun q => by
      have h1 := H.cnt q
      have h2 := List.countP_le_length (p := fun m : Msg => m.mv == mv && partM m == some q) (l := l)
      rw [wrap64 (by omega) (by omega)]
    have cb : ∀ p, partM m = some p → ∀ q, cntP (bumpP s.cnt p) q = ((l ++ [m]).countP fun m => m.mv == mv && partM m == some q : Nat) := fun p hp q => by
      rw [cntP_bump]
      by_cases e : q = p
      · subst e
        rw [if_pos rfl, wc, cn q q true (by simp [hp]) (H.cnt q)]; simp
      · rw [if_neg e, cn p q false (by simp [hp]; exact fun h => e h.symm) (H.cnt q)]; simp
    have kb : ∀ p, keysD (bumpP s.cnt p) := fun p => keysD_upd p _ H.keys
    have hk : m.kind = 1 ∨ m.kind = 2 ∨ m.kind = 3 ∨ m.kind = 4 ∨ m.kind = 5 := by omega
    rcases hk with k | k | k | k | k
    · have e2 := noK 2 (by omega)
      have st : stepF mv s m = { s with d := { s.d with stage := 1, frm := m.frm, to := m.to, sent := m.alc }, cnt := bumpP s.cnt (m.kind, m.num) } := by simp [stepF, hmv, k]
      rw [st]
      exact ⟨H.mve, by simp [ofk_snoc, hmv, k], by simp [ofk_snoc, hmv, k], by simp [ofk_snoc, hmv, k], by simp [ofk_snoc, hmv, k, e2], by simp [ofk_snoc, hmv, k, H.got], by simp [ofk_snoc, hmv, k, H.chg], by simp [ofk_snoc, hmv, k, H.en], by simp [ofk_snoc, hmv, k, H.an], cb _ (by simp [partM, k]), kb _⟩
    · have st : stepF mv s m = { s with d := { s.d with to := m.to, chg := IntKind.i64.wrap (s.d.chg + 1) }, cnt := bumpP s.cnt (m.kind, m.num) } := by simp [stepF, hmv, k]
      rw [st]
      exact ⟨H.mve, by simp [ofk_snoc, hmv, k, H.stage], by simp [ofk_snoc, hmv, k, H.frm], by simp [ofk_snoc, hmv, k, H.sent], by simp [ofk_snoc, hmv, k], by simp [ofk_snoc, hmv, k, H.got], by simp [ofk_snoc, hmv, k, H.chg, wr], by simp [ofk_snoc, hmv, k, H.en], by simp [ofk_snoc, hmv, k, H.an], cb _ (by simp [partM, k]), kb _⟩
    · have e4 := noK 4 (by omega)
      have st : stepF mv s m = { s with d := { s.d with got := m.alc }, an := 2, cnt := bumpP s.cnt (m.kind, m.num) } := by simp [stepF, hmv, k]
      rw [st]
      exact ⟨H.mve, by simp [ofk_snoc, hmv, k, H.stage], by simp [ofk_snoc, hmv, k, H.frm], by simp [ofk_snoc, hmv, k, H.sent], by simp [ofk_snoc, hmv, k, H.to], by simp [ofk_snoc, hmv, k], by simp [ofk_snoc, hmv, k, H.chg], by simp [ofk_snoc, hmv, k, H.en], by simp [ofk_snoc, hmv, k, e4], cb _ (by simp [partM, k]), kb _⟩
    · have st : stepF mv s m = { s with an := 3, cnt := bumpP s.cnt (3, m.num) } := by simp [stepF, hmv, k]
      rw [st]
      exact ⟨H.mve, by simp [ofk_snoc, hmv, k, H.stage], by simp [ofk_snoc, hmv, k, H.frm], by simp [ofk_snoc, hmv, k, H.sent], by simp [ofk_snoc, hmv, k, H.to], by simp [ofk_snoc, hmv, k, H.got], by simp [ofk_snoc, hmv, k, H.chg], by simp [ofk_snoc, hmv, k, H.en], by simp [ofk_snoc, hmv, k], cb _ (by simp [partM, k]), kb _⟩
    · have st : stepF mv s m = { s with en := true } := by simp [stepF, hmv, k]
      rw [st]
      exact ⟨H.mve, by simp [ofk_snoc, hmv, k, H.stage], by simp [ofk_snoc, hmv, k, H.frm], by simp [ofk_snoc, hmv, k, H.sent], by simp [ofk_snoc, hmv, k, H.to], by simp [ofk_snoc, hmv, k, H.got], by simp [ofk_snoc, hmv, k, H.chg], by simp [ofk_snoc, hmv, k], by simp [ofk_snoc, hmv, k, H.an], fun q => by rw [cn q q false (by simp [partM, k]) (H.cnt q)]; simp, H.keys⟩
  · have st : stepF mv s m = s := by simp [stepF, hmv]
    have ek : ∀ k, ofk mv k (l ++ [m]) = ofk mv k l := fun k => by rw [ofk_snoc, if_neg (by simp [hmv])]
    rw [st]
    exact ⟨H.mve, by rw [ek]; exact H.stage, by rw [ek]; exact H.frm, by rw [ek]; exact H.sent, by rw [ek, ek]; exact H.to, by rw [ek]; exact H.got, by rw [ek]; exact H.chg, by rw [ek]; exact H.en, by rw [ek, ek]; exact H.an, fun p => by rw [List.countP_append, H.cnt p]; simp [hmv], H.keys⟩
theorem InF.beg (mv : Int) : InF mv [] (begF mv) := ⟨rfl, rfl, rfl, rfl, rfl, rfl, rfl, rfl, rfl, fun p => rfl, .nil⟩
theorem InF.all {mv : Int} {l : List Msg} (hs : Srt l) (hv : ∀ m ∈ l, checkM m = 0) (hl : l.length < 1000000) : ∀ i, i ≤ l.length → InF mv (l.take i) (folF mv (l.take i))
  | 0, _ => by rw [List.take_zero]; exact InF.beg mv
  | i + 1, hi => by
    have ih := InF.all (mv := mv) hs hv hl i (by omega)
    have hx : l[i]? = some l[i] := List.getElem?_eq_getElem (by omega)
    have ht := take_succ_get hx
    have : folF mv (l.take (i + 1)) = stepF mv (folF mv (l.take i)) l[i] := by
      unfold folF; rw [ht, List.foldl_append]; rfl
    rw [this, ht]
    refine ih.step ?_ (hv _ (List.getElem_mem _)) (by simp; omega)
    rw [← ht]
    exact hs.sublist (List.take_sublist _ _)
theorem conflict_iff {mv : Int} {l : List Msg} (hv : ∀ m ∈ l, checkM m = 0) : (∃ p, 1 < (l.countP fun m => m.mv == mv && partM m == some p)) ↔ (1 < (ofk mv 1 l).length ∨ 1 < (ofk mv 3 l).length + (ofk mv 4 l).length ∨ ¬ ((ofk mv 2 l).map (·.num)).Nodup) := by
  have h1 : (l.countP fun m => m.mv == mv && partM m == some (1, 0)) = (ofk mv 1 l).length := by
    unfold ofk
    rw [← List.countP_eq_length_filter]
    refine List.countP_congr fun m hm => ?_
    have hk := checkM_kind (hv m hm)
    have hn := checkM_num (hv m hm)
    simp only [Bool.and_eq_true, beq_iff_eq, partM]
    constructor
    · rintro ⟨a, b⟩
      refine ⟨a, ?_⟩
      split at b
      · simp at b
      · split at b
        · simp at b
        · simp at b; exact b.1
    · rintro ⟨a, b⟩
      exact ⟨a, by simp [b, hn (.inl b)]⟩
  have h3 : (l.countP fun m => m.mv == mv && partM m == some (3, 0)) = (ofk mv 3 l).length + (ofk mv 4 l).length := by
    unfold ofk
    rw [← List.countP_eq_length_filter, ← List.countP_eq_length_filter]
    clear h1
    induction l with
    | nil => rfl
    | cons m l ih =>
      have ih := ih fun x hx => hv x (by simp [hx])
      have hn := checkM_num (hv m (by simp))
      simp only [List.countP_cons, ih]
      by_cases hmv : m.mv = mv
      · by_cases q5 : m.kind = 5
        · simp [partM, hmv, q5]
        · by_cases q4 : m.kind = 4
          · simp [partM, hmv, q4, hn (.inr (.inr (.inl q4)))]; omega
          · by_cases q3 : m.kind = 3
            · simp [partM, hmv, q3, hn (.inr (.inl q3))]; omega
            · simp [partM, hmv, q5, q4, q3]
      · simp [hmv]
  have h2 : ∀ j, (l.countP fun m => m.mv == mv && partM m == some (2, j)) = ((ofk mv 2 l).map (·.num)).count j := by
    intro j
    clear h1 h3
    rw [List.count_eq_countP, List.countP_map]
    unfold ofk
    rw [List.countP_filter]
    refine List.countP_congr fun m hm => ?_
    simp only [Bool.and_eq_true, beq_iff_eq, partM, Function.comp]
    constructor
    · rintro ⟨a, b⟩
      split at b
      · simp at b
      · split at b
        · simp at b
        · simp at b; exact ⟨b.2, a, b.1⟩
    · rintro ⟨a, b, c⟩
      exact ⟨b, by simp [c, a]⟩
  constructor
  · rintro ⟨⟨a, b⟩, h⟩
    -- the key is one of these
    obtain ⟨m, hm, hp⟩ := List.countP_pos_iff.1 (by omega : 0 < l.countP fun m => m.mv == mv && partM m == some (a, b))
    simp only [Bool.and_eq_true, beq_iff_eq] at hp
    have hk := checkM_kind (hv m hm)
    have hn := checkM_num (hv m hm)
    have hpp := hp.2
    unfold partM at hpp
    split at hpp
    · simp at hpp
    · split at hpp
      · rename_i q5 q4
        simp at hpp
        obtain ⟨rfl, rfl⟩ := hpp
        rw [hn (.inr (.inr (.inl q4))), h3] at h
        exact .inr (.inl h)
      · rename_i q5 q4
        simp at hpp
        obtain ⟨rfl, rfl⟩ := hpp
        have : m.kind = 1 ∨ m.kind = 2 ∨ m.kind = 3 := by omega
        rcases this with k | k | k
        · rw [k, hn (.inl k), h1] at h; exact .inl h
        · rw [k, h2] at h
          refine .inr (.inr fun hnd => ?_)
          rw [List.nodup_iff_count] at hnd
          have := hnd m.num
          omega
        · rw [k, hn (.inr (.inl k)), h3] at h; exact .inr (.inl h)
  · rintro (h | h | h)
    · exact ⟨(1, 0), by rw [h1]; exact h⟩
    · exact ⟨(3, 0), by rw [h3]; exact h⟩
    · rw [List.nodup_iff_count] at h
      simp only [Classical.not_forall] at h
      obtain ⟨j, hj⟩ := h
      exact ⟨(2, j), by rw [h2]; omega⟩
theorem docF_eq {mv : Int} {l : List Msg} (hs : Srt l) (hv : ∀ m ∈ l, checkM m = 0) (hl : l.length < 1000000) : docF mv l = docS mv l := by
  have H := InF.all (mv := mv) hs hv hl l.length (Nat.le_refl _)
  rw [List.take_length] at H
  unfold docF
  generalize folF mv l = s at *
  unfold endF docS
  cases hd : (ofk mv 1 l).getLast? with
  | none =>
    have h0 : ofk mv 1 l = [] := List.getLast?_eq_none_iff.1 hd
    rw [if_pos (by rw [H.stage, if_pos h0])]
  | some d =>
    have h0 : ofk mv 1 l ≠ [] := fun e => by rw [e] at hd; simp at hd
    have hst : s.d.stage = 1 := by rw [H.stage, if_neg h0]
    rw [if_neg (by rw [hst]; decide)]
    simp only []
    have hc : (s.cnt.any fun e => decide (1 < e.2)) = true ↔ (1 < (ofk mv 1 l).length ∨ 1 < (ofk mv 3 l).length + (ofk mv 4 l).length ∨ ¬ ((ofk mv 2 l).map (·.num)).Nodup) := by
      rw [any_cnt H.keys, ← conflict_iff hv]
      constructor
      · rintro ⟨p, h⟩; rw [H.cnt] at h; exact ⟨p, by omega⟩
      · rintro ⟨p, h⟩; exact ⟨p, by rw [H.cnt]; omega⟩
    by_cases hcc : (s.cnt.any fun e => decide (1 < e.2)) = true
    · rw [if_pos hcc, if_pos (hc.1 hcc)]
    · rw [if_neg hcc, if_neg fun h => hcc (hc.2 h)]
      obtain ⟨⟨d0, d1, d2, d3, d4, d5, d6⟩, en, an, c⟩ := s
      obtain ⟨q1, q2, q3, q4, q5, q6, q7, q8, q9, -, -⟩ := H
      simp only at q1 q2 q3 q4 q5 q6 q7 q8 q9 hst
      rw [hd] at q3 q4 q5
      subst q1 q3 q4 q6 q7 q8 q9 hst
      simp only [Option.map_some, Option.getD_some] at q5 ⊢
      subst q5
      by_cases r3 : ofk d0 3 l = []
      · by_cases r4 : ofk d0 4 l = []
        · simp [r3, r4]
        · by_cases r5 : ofk d0 5 l = []
          · simp [r3, r4, r5]
          · simp [r3, r4, r5]
      · by_cases r4 : ofk d0 4 l = []
        · by_cases r5 : ofk d0 5 l = []
          · simp [r3, r4, r5]
          · simp [r3, r4, r5]
        · by_cases r5 : ofk d0 5 l = []
          · simp [r3, r4, r5]
          · simp [r3, r4, r5]
end Go.AM


namespace Go.AM
open Go.Proofs
set_option linter.unusedVariables false
set_option linter.unusedSimpArgs false
set_option linter.constructorNameAsVariable false
set_option maxRecDepth 20000
attribute [local congr] arithK_cg eqK_cg notK_cg convK_cg pickK_cg buildK_cg ldK_cg nilK_cg sliceK_cg faK_cg fldK_cg iaK_cg iaA_cg lookK_cg capK_cg exK_cg lenK_cg minK_cg maxK_cg effK_cg callK_cg callVK_cg effD_cg gopD_cg grpK_cg condK_cg cond_cg
structure Frs where
  d : Docu
  dis : Int
  ans : Int
  en : Int
  cf : Bool
  rf : Bool
def stepR (mv : Int) (p : Msg) (s : Frs) (m : Msg) : Frs :=
  if m.mv ≠ mv then s
  else if m.kind = 1 then { s with d := { s.d with frm := m.frm, to := m.to, sent := m.alc }, dis := IntKind.i64.wrap (s.dis + 1) }
  else if m.kind = 2 then { s with d := { s.d with to := m.to, chg := IntKind.i64.wrap (s.d.chg + 1) }, cf := s.cf || (p.mv == mv && p.kind == m.kind && p.num == m.num) }
  else if m.kind = 3 then { s with d := { s.d with got := m.alc }, ans := IntKind.i64.wrap (s.ans + 1) }
  else if m.kind = 4 then { s with ans := IntKind.i64.wrap (s.ans + 1), rf := true }
  else { s with en := IntKind.i64.wrap (s.en + 1) }
def foldR (mv : Int) : Msg → Frs → List Msg → Frs
  | _, s, [] => s
  | p, s, m :: l => foldR mv m (stepR mv p s m) l
def begR (mv : Int) : Frs := ⟨noneD mv, 0, 0, 0, false, false⟩
def zeroM : Msg := ⟨0, 0, 0, 0, 0, 0, 0⟩
section
variable {β : Type}
variable {o0 o1 : AObj} {g t : Hp} {m : Msg}
theorem le0 (h : Hp) (k : Go.AM.K β) : ldK 1 false (.ep (encM m) 0) h k = k (I m.mv) := rfl
end
end Go.AM


namespace Go.AM
open Go.Proofs
set_option linter.unusedVariables false
set_option linter.unusedSimpArgs false
set_option linter.constructorNameAsVariable false
set_option maxRecDepth 20000
structure InR (mv : Int) (l : List Msg) (s : Frs) : Prop where
  mve : s.d.mv = mv
  stage : s.d.stage = 0
  frm : s.d.frm = (((ofk mv 1 l).getLast?).map (·.frm)).getD 0
  sent : s.d.sent = (((ofk mv 1 l).getLast?).map (·.alc)).getD 0
  to : s.d.to = match (ofk mv 2 l).getLast? with | some c => c.to | none => (((ofk mv 1 l).getLast?).map (·.to)).getD 0
  got : s.d.got = (((ofk mv 3 l).getLast?).map (·.alc)).getD 0
  chg : s.d.chg = (ofk mv 2 l).length
  dis : s.dis = (ofk mv 1 l).length
  ans : s.ans = ((ofk mv 3 l).length + (ofk mv 4 l).length : Nat)
  en : s.en = (ofk mv 5 l).length
  rf : s.rf = !(ofk mv 4 l).isEmpty
  cf : s.cf = decide (¬ ((ofk mv 2 l).map (·.num)).Nodup)
theorem srt_last {l : List Msg} {m p x : Msg} (hs : Srt (l ++ [m])) (hp : (zeroM :: l).getLast? = some p) (hx : x ∈ l) : p ∈ l ∧ (x = p ∨ ltM x p = true) := by
  rcases List.eq_nil_or_concat l with rfl | ⟨l', q, rfl⟩
  · simp at hx
  · rw [List.concat_eq_append] at *
    have : p = q := by rw [← List.cons_append, List.getLast?_append] at hp; simpa using hp.symm
    subst this
    refine ⟨by simp, ?_⟩
    rcases List.mem_append.1 hx with hx | hx
    · right
      rw [Srt, List.append_assoc, List.pairwise_append] at hs
      exact hs.2.2 x hx p (by simp)
    · simp at hx; exact .inl hx
theorem InR.step {mv : Int} {l : List Msg} {s : Frs} {m p : Msg} (H : InR mv l s) (hs : Srt (l ++ [m])) (hm : checkM m = 0) (hp : (zeroM :: l).getLast? = some p) (h0 : mv ≠ 0) (hl : l.length < 1000000) : InR mv (l ++ [m]) (stepR mv p s m) := by
  obtain ⟨k0, k5, -⟩ := checkM_kind hm
  have hlt : ∀ x ∈ l, ltM x m = true := fun x hx => by
    rw [Srt, List.pairwise_append] at hs
    exact hs.2.2 x hx m (by simp)
  by_cases hmv : m.mv = mv
  · have noK : ∀ k, m.kind < k → ofk mv k l = [] := fun k hk => by
      rw [List.eq_nil_iff_forall_not_mem]
      intro x hx
      obtain ⟨h1, h2, h3⟩ := mem_ofk.1 hx
      have := ltM_lex (hlt x h1)
      have h4 := this.2 (by omega)
      omega
    have wr : ∀ k, IntKind.i64.wrap (((ofk mv k l).length : Int) + 1) = ((ofk mv k l).length : Int) + 1 := fun k => by
      have := ofk_len mv k l
      rw [wrap64 (by omega) (by omega)]
    have wa : IntKind.i64.wrap (((((ofk mv 3 l).length + (ofk mv 4 l).length : Nat)) : Int) + 1) = ((((ofk mv 3 l).length + (ofk mv 4 l).length : Nat)) : Int) + 1 := by
      have h3 := ofk_len mv 3 l
      have h4 := ofk_len mv 4 l
      rw [wrap64 (by omega) (by omega)]
    have hk : m.kind = 1 ∨ m.kind = 2 ∨ m.kind = 3 ∨ m.kind = 4 ∨ m.kind = 5 := by omega
    rcases hk with k | k | k | k | k
    · have e2 := noK 2 (by omega)
      have st : stepR mv p s m = { s with d := { s.d with frm := m.frm, to := m.to, sent := m.alc }, dis := IntKind.i64.wrap (s.dis + 1) } := by simp [stepR, hmv, k]
      rw [st]
      exact ⟨H.mve, H.stage, by simp [ofk_snoc, hmv, k], by simp [ofk_snoc, hmv, k], by simp [ofk_snoc, hmv, k, e2], by simp [ofk_snoc, hmv, k, H.got], by simp [ofk_snoc, hmv, k, H.chg], by simp [ofk_snoc, hmv, k, H.dis, wr], by simp [ofk_snoc, hmv, k, H.ans], by simp [ofk_snoc, hmv, k, H.en], by simp [ofk_snoc, hmv, k, H.rf], by simp [ofk_snoc, hmv, k, H.cf]⟩
    · have st : stepR mv p s m = { s with d := { s.d with to := m.to, chg := IntKind.i64.wrap (s.d.chg + 1) }, cf := s.cf || (p.mv == mv && p.kind == m.kind && p.num == m.num) } := by simp [stepR, hmv, k]
      rw [st]
      refine ⟨H.mve, H.stage, by simp [ofk_snoc, hmv, k, H.frm], by simp [ofk_snoc, hmv, k, H.sent], by simp [ofk_snoc, hmv, k], by simp [ofk_snoc, hmv, k, H.got], by simp [ofk_snoc, hmv, k, H.chg, wr], by simp [ofk_snoc, hmv, k, H.dis], by simp [ofk_snoc, hmv, k, H.ans], by simp [ofk_snoc, hmv, k, H.en], by simp [ofk_snoc, hmv, k, H.rf], ?_⟩
      rw [ofk_snoc, if_pos ⟨hmv, k⟩, List.map_append, H.cf]
      rw [Bool.eq_iff_iff]
      simp only [Bool.or_eq_true, Bool.and_eq_true, beq_iff_eq, decide_eq_true_eq]
      rw [List.nodup_append]
      have key : (p.mv = mv ∧ p.kind = m.kind) ∧ p.num = m.num ↔ ∃ x ∈ ofk mv 2 l, x.num = m.num := by
        constructor
        · rintro ⟨⟨h1, h2⟩, h3⟩
          have hpl : p ∈ l := by
            rcases List.eq_nil_or_concat l with rfl | ⟨l', q, rfl⟩
            · simp at hp; subst hp; exact absurd h1.symm h0
            · rw [List.concat_eq_append, ← List.cons_append, List.getLast?_append] at hp
              have : q = p := by simpa using hp
              simp [this]
          exact ⟨p, mem_ofk.2 ⟨hpl, h1, by omega⟩, h3⟩
        · rintro ⟨x, hx, h3⟩
          obtain ⟨h1, h2, h4⟩ := mem_ofk.1 hx
          obtain ⟨hpl, hxp⟩ := srt_last hs hp h1
          rcases hxp with rfl | hxp
          · exact ⟨⟨h2, by omega⟩, h3⟩
          · have a1 := ltM_lex hxp
            have a2 := ltM_lex (hlt p hpl)
            omega
      constructor
      · rintro (h | h)
        · exact fun q => h q.1
        · obtain ⟨x, hx, hxn⟩ := key.1 h
          intro q
          exact q.2.2 x.num (List.mem_map.2 ⟨x, hx, rfl⟩) m.num (by simp) hxn
      · intro h
        by_cases hn : ((ofk mv 2 l).map (·.num)).Nodup
        · right
          refine key.2 ?_
          rcases Classical.em (∃ x ∈ ofk mv 2 l, x.num = m.num) with h2 | h2
          · exact h2
          · refine absurd ⟨hn, by simp, ?_⟩ h
            intro a ha b hb hab
            obtain ⟨x, hx, rfl⟩ := List.mem_map.1 ha
            simp at hb
            exact h2 ⟨x, hx, by rw [hab, hb]⟩
        · exact .inl hn
    · have st : stepR mv p s m = { s with d := { s.d with got := m.alc }, ans := IntKind.i64.wrap (s.ans + 1) } := by simp [stepR, hmv, k]
      rw [st]
      exact ⟨H.mve, H.stage, by simp [ofk_snoc, hmv, k, H.frm], by simp [ofk_snoc, hmv, k, H.sent], by simp [ofk_snoc, hmv, k, H.to], by simp [ofk_snoc, hmv, k], by simp [ofk_snoc, hmv, k, H.chg], by simp [ofk_snoc, hmv, k, H.dis], by rw [H.ans, wa, ofk_snoc, ofk_snoc, if_pos ⟨hmv, k⟩, if_neg (by omega), List.length_append]; simp; omega, by simp [ofk_snoc, hmv, k, H.en], by simp [ofk_snoc, hmv, k, H.rf], by simp [ofk_snoc, hmv, k, H.cf]⟩
    · have st : stepR mv p s m = { s with ans := IntKind.i64.wrap (s.ans + 1), rf := true } := by simp [stepR, hmv, k]
      rw [st]
      exact ⟨H.mve, H.stage, by simp [ofk_snoc, hmv, k, H.frm], by simp [ofk_snoc, hmv, k, H.sent], by simp [ofk_snoc, hmv, k, H.to], by simp [ofk_snoc, hmv, k, H.got], by simp [ofk_snoc, hmv, k, H.chg], by simp [ofk_snoc, hmv, k, H.dis], by rw [H.ans, wa, ofk_snoc, ofk_snoc, if_neg (by omega), if_pos ⟨hmv, k⟩, List.length_append]; simp; omega, by simp [ofk_snoc, hmv, k, H.en], by simp [ofk_snoc, hmv, k], by simp [ofk_snoc, hmv, k, H.cf]⟩
    · have st : stepR mv p s m = { s with en := IntKind.i64.wrap (s.en + 1) } := by simp [stepR, hmv, k]
      rw [st]
      exact ⟨H.mve, H.stage, by simp [ofk_snoc, hmv, k, H.frm], by simp [ofk_snoc, hmv, k, H.sent], by simp [ofk_snoc, hmv, k, H.to], by simp [ofk_snoc, hmv, k, H.got], by simp [ofk_snoc, hmv, k, H.chg], by simp [ofk_snoc, hmv, k, H.dis], by simp [ofk_snoc, hmv, k, H.ans], by simp [ofk_snoc, hmv, k, H.en, wr], by simp [ofk_snoc, hmv, k, H.rf], by simp [ofk_snoc, hmv, k, H.cf]⟩
  · have st : stepR mv p s m = s := by simp [stepR, hmv]
    have ek : ∀ k, ofk mv k (l ++ [m]) = ofk mv k l := fun k => by rw [ofk_snoc, if_neg (by simp [hmv])]
    rw [st]
    exact ⟨H.mve, H.stage, by rw [ek]; exact H.frm, by rw [ek]; exact H.sent, by rw [ek, ek]; exact H.to, by rw [ek]; exact H.got, by rw [ek]; exact H.chg, by rw [ek]; exact H.dis, by rw [ek, ek]; exact H.ans, by rw [ek]; exact H.en, by rw [ek]; exact H.rf, by rw [ek]; exact H.cf⟩
theorem InR.beg (mv : Int) : InR mv [] (begR mv) := ⟨rfl, rfl, rfl, rfl, rfl, rfl, rfl, rfl, rfl, rfl, rfl, rfl⟩
theorem InR.all {mv : Int} (h0 : mv ≠ 0) : ∀ (post pre : List Msg) (p : Msg) (s : Frs), Srt (pre ++ post) → (∀ m ∈ post, checkM m = 0) → (pre ++ post).length < 1000000 → (zeroM :: pre).getLast? = some p → InR mv pre s → InR mv (pre ++ post) (foldR mv p s post)
  | [], pre, p, s, _, _, _, _, H => by simpa [foldR] using H
  | m :: post, pre, p, s, hs, hv, hl, hp, H => by
    have e : pre ++ m :: post = (pre ++ [m]) ++ post := by simp
    rw [e] at hs hl ⊢
    refine InR.all h0 post (pre ++ [m]) m (stepR mv p s m) hs (fun x hx => hv x (by simp [hx])) hl (by rw [← List.cons_append, List.getLast?_append]; simp) (H.step ?_ (hv m (by simp)) hp h0 (by simp at hl; omega))
    exact hs.sublist (List.sublist_append_left _ _)
end Go.AM


namespace Go.AM
open Go.Proofs
set_option linter.unusedVariables false
set_option linter.unusedSimpArgs false
set_option linter.constructorNameAsVariable false
set_option maxRecDepth 20000
attribute [local congr] arithK_cg eqK_cg notK_cg convK_cg pickK_cg buildK_cg ldK_cg nilK_cg sliceK_cg faK_cg fldK_cg iaK_cg iaA_cg lookK_cg capK_cg exK_cg lenK_cg minK_cg maxK_cg effK_cg callK_cg callVK_cg effD_cg gopD_cg grpK_cg condK_cg cond_cg
def zeroD : Docu := ⟨0, 0, 0, 0, 0, 0, 0⟩
def badMv (mv : Int) : Bool := decide (mv < 1) || decide (1073741824 < mv)
def ofS (l : List Msg) (mv : Int) : Docu × Int := if errM l ≠ 0 then (zeroD, errM l) else if badMv mv = true then (zeroD, 2) else (docS mv (normL l), 0)
def tupD (r : Docu × Int) : AV := .tup [.agg (encDo r.1), I r.2]
theorem normL_ok {l : List Msg} (h : errM l = 0) : (normL l).length ≤ 64 ∧ ∀ m ∈ normL l, checkM m = 0 := by
  obtain ⟨h1, h2⟩ := errM_zero.1 h
  exact ⟨Nat.le_trans (normL_length l) h1, fun m hm => h2 m (mem_normL.1 hm)⟩
theorem ofS_ok {l : List Msg} {mv : Int} (he : errM l = 0) : ofS l mv = if badMv mv = true then (zeroD, 2) else (docS mv (normL l), 0) := if_neg (by simp [he])
theorem F_document_Of_val (l : List Msg) (b : Bool) (mv : Int) (hl : l.length < 1000000) (h : Hp) : F_document_Of [SLm b l, I mv] h = some (tupD (ofS l mv), h) := by
  refine F_document_Of_run (a0 := SLm b l) (a1 := I mv) rfl ?_ h
  have fN := F_document_Normal_val l b hl
  have bz : ∀ k : Go.AM.K AV, buildK zM [] k = k (.agg (encDo zeroD)) := fun k => rfl
  have x0 : ∀ k : Go.AM.K AV, exK (normR b l) 0 k = k (if errM l = 0 then SLm b (normL l) else .lst 7 true []) := fun k => rfl
  have x1 : ∀ k : Go.AM.K AV, exK (normR b l) 1 k = k (I (errM l)) := fun k => rfl
  simp only [nrm, nrmC]
  simp -implicitDefEqProofs only [f_document_Of, bx7_0, t_document_Of_12, callK_F, fN, x0, x1, eqK_int, Bool.true_xor, condK_bool, bz, encDo, zeroD, ew7_0, lw7_0]
  by_cases he : errM l = 0
  · have fo := fun h => F_document_of_val (normL l) (b && (normL l).isEmpty) mv (by have := normL_length l; omega) h
    rw [docF_eq (normL_srt l) (normL_ok he).2 (by have := normL_length l; omega)] at fo
    simp -implicitDefEqProofs only [he, beq_self_eq_true, Bool.not_true, Bool.false_eq_true, if_false, if_true, arithK_lss, arithK_gtr, grpK_or, condK_bool, SLm, t_document_Of_46, callK_F, fo, bz, encDo, zeroD, ew7_0, lw7_0]
    rw [ofS_ok he, show (decide (mv < 1) || decide (1073741824 < mv)) = badMv mv from rfl]
    generalize docS mv (normL l) = d
    cases badMv mv <;> rfl
  · have e : (errM l == 0) = false := by simpa using he
    simp only [e, Bool.not_false, if_true]
    rw [show ofS l mv = (zeroD, errM l) from if_pos he]
    rfl
def allG (n : List Msg) : Int → List Msg → List Docu
  | _, [] => []
  | p, m :: l => if m.mv ≠ p then docS m.mv n :: allG n m.mv l else allG n p l
theorem allG_len (n : List Msg) : ∀ (l : List Msg) (p : Int), (allG n p l).length ≤ l.length
  | [], p => by simp [allG]
  | m :: l, p => by
    have h1 := allG_len n l m.mv
    have h2 := allG_len n l p
    simp only [allG]
    split <;> simp <;> omega
def allS (l : List Msg) : List Docu := if errM l = 0 then allG (normL l) 0 (normL l) else []
theorem allS_len (l : List Msg) : (allS l).length ≤ l.length := by
  have h1 := allG_len (normL l) (normL l) 0
  have h2 := normL_length l
  unfold allS
  split
  · omega
  · simp
section
variable {β : Type}
theorem bxh {h : Hp} (k : AV → Hp → Option β) : effK (boxE 7 (.agg zM) h.length) h k = k (.ptr h.length 0 0 1) (h ++ [.arr 7 [zM] true false]) := effK_box 7 h.length (.agg zM) h k rfl rfl rfl
theorem sth {h : Hp} {m : Msg} (k : AV → Hp → Option β) : effK (stE 7 (.ptr h.length 0 0 1) (.agg (encM m)) (h ++ [.arr 7 [zM] true false])) (h ++ [.arr 7 [zM] true false]) k = k .u (h ++ [.arr 7 [encM m] true false]) := by
  rw [effK_put (v := .u) (id := h.length) (o := .arr 7 [encM m] true false) (ft := [h.length]) (by simp [encM]), set_new0]; rfl
theorem std {h : Hp} {m : Docu} (k : AV → Hp → Option β) : effK (stE 7 (.ptr h.length 0 0 1) (.agg (encDo m)) (h ++ [.arr 7 [zM] true false])) (h ++ [.arr 7 [zM] true false]) k = k .u (h ++ [.arr 7 [encDo m] true false]) := by
  rw [effK_put (v := .u) (id := h.length) (o := .arr 7 [encDo m] true false) (ft := [h.length]) (by simp [encDo]), set_new0]; rfl
theorem lh0 {h : Hp} {m : Msg} (k : Go.AM.K β) : ldK 1 false (.ptr h.length 0 0 1) (h ++ [.arr 7 [encM m] true false]) k = k (I m.mv) := by simp [encM]
theorem ld1 {h : Hp} {m : Docu} (k : Go.AM.K β) : ldK 1 false (.ptr h.length 0 1 1) (h ++ [.arr 7 [encDo m] true false]) k = k (I m.stage) := by simp [encDo]
theorem ld3 {h : Hp} {m : Docu} (k : Go.AM.K β) : ldK 1 false (.ptr h.length 0 3 1) (h ++ [.arr 7 [encDo m] true false]) k = k (I m.to) := by simp [encDo]
theorem ld4 {h : Hp} {m : Docu} (k : Go.AM.K β) : ldK 1 false (.ptr h.length 0 4 1) (h ++ [.arr 7 [encDo m] true false]) k = k (I m.sent) := by simp [encDo]
theorem bsD {h : Hp} {d : Docu} (k : AV → Hp → Option β) : effK (bsE 7 zM 1 [(0, .agg (encDo d))] h.length) h k = k (.sl 7 h.length 0 1 1 true) (h ++ [.arr 7 [encDo d] true false]) := by simp [bsE, fillS, encDo, effK, ap]
theorem gro_doc {h : Hp} {v : AV} {o : List Docu} {d : Docu} (O : Gro 7 encDo h v o) (hl : o.length < 1000000) : ∃ v' h', (∀ {β : Type} (k : AV → Hp → Option β), effK (appE 7 56 v (.sl 7 h.length 0 1 1 true) (h ++ [.arr 7 [encDo d] true false]) (h ++ [AObj.arr 7 [encDo d] true false]).length) (h ++ [.arr 7 [encDo d] true false]) k = k v' h') ∧ Gro 7 encDo h' v' (o ++ [d]) := by
  obtain ⟨v', e, a1, a2, -⟩ := Gro.snocE (h := h ++ [AObj.arr 7 [encDo d] true false]) (by_ := 56) (m := h.length) (z := d) (b := true) (O.app [AObj.arr 7 [encDo d] true false]) (by simp) (fun q => by have := O.lt q; omega) (by simp [encDo]) (by omega)
  exact ⟨v', _, fun k => by rw [a1]; rfl, a2⟩
end
theorem All_L2 {N : Nat} {x0 : AV → Hp → Option AV} {X : Option AV} {n : List Msg} {b : Bool} (hs : Srt n) (hv : ∀ m ∈ n, checkM m = 0) (hl : n.length < 1000) (hx : ∀ v h, Gro 7 encDo h v (allG n 0 n) → x0 v h = X) : ∀ (k : Nat) (pre post : List Msg) (p : Int) (o : List Docu) (v : AV) (h : Hp), n = pre ++ post → post.length < k → (pre = [] → p = 0) → (∀ q, pre.getLast? = some q → p = q.mv) → o ++ allG n p post = allG n 0 n → o.length ≤ pre.length → Gro 7 encDo h v o →
    f_document_All_L2 Try.prog t_document_All d_document_All N x0 k (.lst 7 b (n.map encM)) v (.lst 7 b (n.map encM)) (I n.length) (I pre.length) h = X := by
  intro k
  induction k with
  | zero => intro pre post p o v h _ h2; omega
  | succ k ih =>
    intro pre post p o v h hc hn hp0 hp ho hol O
    show f_document_All_b2 Try.prog t_document_All d_document_All N (f_document_All_L2 Try.prog t_document_All d_document_All N x0 k) x0 _ _ _ _ _ h = _
    cases post with
    | nil =>
      have : n = pre := by simpa using hc
      subst this
      have c1 : ¬ ((n.length : Int) < (n.length : Int)) := by omega
      simp -implicitDefEqProofs only [f_document_All_b2, arithK_lss, c1, decide_false, condK_bool, Bool.false_eq_true, if_false]
      simp only [allG, List.append_nil] at ho
      exact hx v h (by rw [← ho]; exact O)
    | cons m post =>
      have hi : pre.length < n.length := by rw [hc]; simp
      have hci : n[pre.length]? = some m := by rw [hc]; simp
      have hmn : m ∈ n := by rw [hc]; simp
      obtain ⟨-, -, hm1, -⟩ := checkM_kind (hv m hmn)
      have hlt : ((pre.length : Int) < (n.length : Int)) := by omega
      have hw : IntKind.i64.wrap ((pre.length : Int) + 1) = (((pre ++ [m]).length : Nat) : Int) := by rw [wrap64 (by omega) (by omega)]; simp
      have ic : ∀ k : Go.AM.K AV, iaK 7 (.lst 7 b (n.map encM)) (I pre.length) k = k (.ep (encM m) 0) := fun k => iaK_at pre.length rfl hci k
      have ld : ∀ k : Go.AM.K AV, ldK 7 true (.ep (encM m) 0) h k = k (.agg (encM m)) := fun k => rfl
      have O1 := O.app [AObj.arr 7 [encM m] true false]
      have cnd : ∀ (K : AV → Hp → Option AV), grpK false (.s (.bool ((pre.length : Int) == 0))) (h ++ [.arr 7 [encM m] true false]) (fun k16 => arithK .sub (I pre.length) (.s (.int .i64 1)) fun x19 => iaK 7 (.lst 7 b (n.map encM)) x19 fun x20 => faK 0 x20 fun x21 => ldK 1 false x21 (h ++ [.arr 7 [encM m] true false]) fun x22 => eqK Try.prog true 3 (I m.mv) x22 (h ++ [.arr 7 [encM m] true false]) fun x23 => k16 x23 (h ++ [.arr 7 [encM m] true false])) K = K (B (!(m.mv == p))) (h ++ [.arr 7 [encM m] true false]) := fun K => by
        rcases List.eq_nil_or_concat pre with e | ⟨pre', q, e⟩
        · subst e
          have : (m.mv == p) = false := by rw [hp0 rfl]; simp; omega
          rw [this]
          rfl
        · rw [List.concat_eq_append] at e
          subst e
          have hq : p = q.mv := hp q (by simp)
          have e0 : (((pre' ++ [q]).length : Nat) : Int) ≠ 0 := by simp; omega
          have e0' : ((((pre' ++ [q]).length : Nat) : Int) == 0) = false := by simpa using e0
          have w1 : IntKind.i64.wrap ((((pre' ++ [q]).length : Nat) : Int) - 1) = ((pre'.length : Nat) : Int) := by
            have hpl : (pre' ++ [q]).length = pre'.length + 1 := by simp
            rw [hpl] at hi ⊢
            rw [wrap64 (by omega) (by omega)]; omega
          have gq : n[pre'.length]? = some q := by rw [hc]; simp
          have iq : ∀ k : Go.AM.K AV, iaK 7 (.lst 7 b (n.map encM)) (I pre'.length) k = k (.ep (encM q) 0) := fun k => iaK_at pre'.length rfl gq k
          simp -implicitDefEqProofs only [e0', grpK_ff, arithK_sub, w1, iq, faK_ep, Nat.add_zero, le0, eqK_int, Bool.true_xor, hq]
      simp -implicitDefEqProofs only [f_document_All_b2, arithK_lss, hlt, decide_true, condK_bool, if_true, ic, ld, bxh, sth, eqK_int, Bool.false_xor, faK_ptr, Nat.zero_add, lh0, cnd]
      by_cases hmp : m.mv = p
      · have e : (m.mv == p) = true := by simpa using hmp
        simp -implicitDefEqProofs only [e, Bool.not_true, Bool.false_eq_true, if_false, f_document_All_j4, f_document_All_j3, arithK_add, hw]
        simp only [allG, hmp, ne_eq, not_true_eq_false, if_false] at ho
        refine ih (pre ++ [m]) post p o v _ (by simpa using hc) (by simpa using hn) (by simp) (fun q hq => ?_) ho (by simp; omega) O1
        simp at hq; rw [← hq]; exact hmp.symm
      · have e : (m.mv == p) = false := by simpa using hmp
        have fo := fun h => F_document_of_val n b m.mv (by omega) h
        rw [docF_eq hs hv (by omega)] at fo
        have hoN : o.length < 1000000 := by omega
        obtain ⟨v', h', g1, g2⟩ := gro_doc (d := docS m.mv n) O1 hoN
        simp -implicitDefEqProofs only [e, Bool.not_false, if_true, t_document_All_46, callK_F, fo, bsD, g1, f_document_All_j4, f_document_All_j3, arithK_add, hw]
        simp only [allG, if_pos hmp] at ho
        exact ih (pre ++ [m]) post m.mv (o ++ [docS m.mv n]) v' h' (by simpa using hc) (by simpa using hn) (by simp) (fun q hq => by simp at hq; rw [hq]) (by simpa using ho) (by simp; omega) g2
theorem All_key (l : List Msg) (b : Bool) (hl : l.length < 1000) : ∃ w, (∀ st, f_document_All Try.prog t_document_All d_document_All NN (fun v g => cvt st g v) (SLm b l) [] = some (.tup [w, I (errM l)])) ∧ nrm (.l 7) w = .lst 7 (allS l).isEmpty ((allS l).map encDo) := by
  have fN := F_document_Normal_val l b (by omega)
  have x0 : ∀ k : Go.AM.K AV, exK (normR b l) 0 k = k (if errM l = 0 then SLm b (normL l) else .lst 7 true []) := fun k => rfl
  have x1 : ∀ k : Go.AM.K AV, exK (normR b l) 1 k = k (I (errM l)) := fun k => rfl
  by_cases he : errM l = 0
  · have hn := normL_length l
    obtain ⟨w, hw1, hw2⟩ : ∃ w, (∀ st v h, Gro 7 encDo h v (allG (normL l) 0 (normL l)) → f_document_All_j1 Try.prog t_document_All d_document_All NN (fun v g => cvt st g v) v h = some (.tup [w, I 0])) ∧ nrm (.l 7) w = .lst 7 (allG (normL l) 0 (normL l)).isEmpty ((allG (normL l) 0 (normL l)).map encDo) := by
      by_cases hz : allG (normL l) 0 (normL l) = []
      · refine ⟨nilS, fun st v h O => ?_, by rw [hz]; rfl⟩
        rcases O with ⟨-, rfl⟩ | ⟨h1, -⟩
        · rfl
        · exact absurd hz h1
      · refine ⟨.lst 7 false ((allG (normL l) 0 (normL l)).map encDo), fun st v h O => ?_, ?_⟩
        · rcases O with ⟨h1, -⟩ | ⟨h1, k, rfl, h2⟩
          · exact absurd h1 hz
          · have := cvt_whole (st := st) (full := false) h2 (n := (allG (normL l) 0 (normL l)).length) (fr := (allG (normL l) 0 (normL l)).length) (by simp) (by simp) (okE_map fun x => by cases st <;> simp [encDo, isS])
            simp only [f_document_All_j1, cvt_tup, cvts_cons, cvts_nil, this, cvt_s]
            rfl
        · have : (allG (normL l) 0 (normL l)).isEmpty = false := by simpa using hz
          rw [this]; rfl
    refine ⟨w, fun st => ?_, by unfold allS; rw [if_pos he]; exact hw2⟩
    simp -implicitDefEqProofs only [f_document_All, t_document_All_12, callK_F, fN, x0, x1, he, eqK_int, beq_self_eq_true, Bool.true_xor, Bool.not_true, condK_bool, Bool.false_eq_true, if_false, if_true, SLm, lenK_lst, List.length_map]
    exact All_L2 (normL_srt l) (normL_ok he).2 (by omega) (hw1 st) NN [] (normL l) 0 [] nilS [] rfl (by have := NN_ge; omega) (fun _ => rfl) (by simp) rfl (by simp) .nil
  · have e : (errM l == 0) = false := by simpa using he
    refine ⟨nilS, fun st => ?_, by unfold allS; rw [if_neg he]; rfl⟩
    simp -implicitDefEqProofs only [f_document_All, t_document_All_12, callK_F, fN, x0, x1, eqK_int, e, Bool.true_xor, Bool.not_false, condK_bool, if_true]
    rfl
def allV (l : List Msg) : AV := .tup [.lst 7 (allS l).isEmpty ((allS l).map encDo), I (errM l)]
theorem F_document_All_val (l : List Msg) (b : Bool) (hl : l.length < 1000) (h : Hp) : F_document_All [SLm b l] h = some (allV l, h) := by
  obtain ⟨w, hw1, hw2⟩ := All_key l b hl
  refine (F_document_All_run (a0 := SLm b l) rfl (hw1 false) h).trans ?_
  show some (AV.tup [nrm (.l 7) w, I (errM l)], h) = _
  rw [hw2]
  rfl
theorem F_document_All_at (l : List Msg) {b : Bool} (hl : l.length < 1000) {h : Hp} {v : AV} (hv : cvts false h [v] = some [SLm b l]) : F_document_All [v] h = some (allV l, h) := by
  obtain ⟨w, hw1, hw2⟩ := All_key l b hl
  refine (F_document_All_own hv hw1).trans ?_
  show some (AV.tup [nrm (.l 7) w, I (errM l)], h) = _
  rw [hw2]
  rfl
theorem F_document_Of_at (l : List Msg) (mv : Int) {b : Bool} (hl : l.length < 1000) {h : Hp} {v : AV} (hv : cvts false h [v, I mv] = some [SLm b l, I mv]) : F_document_Of [v, I mv] h = some (tupD (ofS l mv), h) :=
  closedX_scal hv (F_document_Of_val l b mv (by omega) []) (by generalize ofS l mv = r; obtain ⟨⟨a0, a1, a2, a3, a4, a5, a6⟩, e⟩ := r; rfl)
end Go.AM


namespace Go.AM
open Go.Proofs
set_option linter.unusedVariables false
set_option linter.unusedSimpArgs false
set_option linter.constructorNameAsVariable false
set_option maxRecDepth 20000
attribute [local congr] arithK_cg eqK_cg notK_cg convK_cg pickK_cg buildK_cg ldK_cg nilK_cg sliceK_cg faK_cg fldK_cg iaK_cg iaA_cg lookK_cg capK_cg exK_cg lenK_cg minK_cg maxK_cg effK_cg callK_cg callVK_cg effD_cg gopD_cg grpK_cg condK_cg cond_cg
def openF (to : Int) (s : Int) (d : Docu) : Int := if d.stage = 1 ∧ d.to = to then IntKind.i64.wrap (s + d.sent) else s
def openS (l : List Msg) (to : Int) : Int × Int := if errM l ≠ 0 then (0, errM l) else if isNode to = false then (0, 2) else ((allS l).foldl (openF to) 0, 0)
theorem Open_L2 {T : Tab} {D : DTab} {N : Nat} {x1 : AV → Hp → Option AV} {X : Option AV} {l : List Docu} {b : Bool} {to : Int} (hl : l.length < 1000000) (hx : ∀ h, x1 (I (l.foldl (openF to) 0)) h = X) : ∀ (n i : Nat) (h : Hp), i ≤ l.length → l.length < i + n →
    f_document_Open_L2 Try.prog T D N x1 n (I to) (I ((l.take i).foldl (openF to) 0)) (.lst 7 b (l.map encDo)) (I l.length) (I i) h = X := by
  intro n
  induction n with
  | zero => intro i h h1 h2; omega
  | succ n ih =>
    intro i h h1 h2
    show f_document_Open_b2 Try.prog T D N (f_document_Open_L2 Try.prog T D N x1 n) x1 _ _ _ _ _ h = _
    rcases Nat.lt_or_ge i l.length with hi | hi
    · have hd : l[i]? = some l[i] := List.getElem?_eq_getElem hi
      have c1 : ((i : Int) < (l.length : Int)) := by omega
      have hw : IntKind.i64.wrap ((i : Int) + 1) = ((i + 1 : Nat) : Int) := by rw [wrap64 (by omega) (by omega)]; omega
      have ic : ∀ k : Go.AM.K AV, iaK 7 (.lst 7 b (l.map encDo)) (I i) k = k (.ep (encDo l[i]) 0) := fun k => iaK_at i rfl hd k
      have ld : ∀ k : Go.AM.K AV, ldK 7 true (.ep (encDo l[i]) 0) h k = k (.agg (encDo l[i])) := fun k => rfl
      have e : (l.take (i + 1)).foldl (openF to) 0 = openF to ((l.take i).foldl (openF to) 0) l[i] := by
        rw [List.take_add_one, hd, List.foldl_append]
        rfl
      have step := fun h => ih (i + 1) h (by omega) (by omega)
      rw [e] at step
      generalize l[i] = d at *
      simp -implicitDefEqProofs only [f_document_Open_b2, arithK_lss, c1, decide_true, condK_bool, if_true, ic, ld, bxh, std, faK_ptr, Nat.zero_add, ld1, ld3, ld4, eqK_int, Bool.false_xor, grpK_and, f_document_Open_j4, f_document_Open_j3, arithK_add, hw]
      unfold openF at step
      by_cases hc : d.stage = 1 ∧ d.to = to
      · rw [if_pos (by simpa using hc)]
        rw [if_pos hc] at step
        exact step _
      · rw [if_neg (by simpa using hc)]
        rw [if_neg hc] at step
        exact step _
    · have : i = l.length := by omega
      subst this
      have c1 : ¬ ((l.length : Int) < (l.length : Int)) := by omega
      rw [List.take_length]
      simp -implicitDefEqProofs only [f_document_Open_b2, arithK_lss, c1, decide_false, condK_bool, Bool.false_eq_true, if_false]
      exact hx h
abbrev tupI (r : Int × Int) : AV := .tup [I r.1, I r.2]
theorem F_document_Open_val (l : List Msg) (b : Bool) (to : Int) (hl : l.length < 1000) (h : Hp) : F_document_Open [SLm b l, I to] h = some (tupI (openS l to), h) := by
  refine F_document_Open_run (a0 := SLm b l) (a1 := I to) rfl ?_ h
  have fA := F_document_All_val l b hl
  have fn := F_document_node_val to
  have x0 : ∀ k : Go.AM.K AV, exK (allV l) 0 k = k (.lst 7 (allS l).isEmpty ((allS l).map encDo)) := fun k => rfl
  have x1 : ∀ k : Go.AM.K AV, exK (allV l) 1 k = k (I (errM l)) := fun k => rfl
  simp only [nrm, nrmC]
  simp -implicitDefEqProofs only [f_document_Open, t_document_Open_20, t_document_Open_44, callK_F, fA, fn, x0, x1, eqK_int, Bool.true_xor, condK_bool, notK_bool, lenK_lst, List.length_map]
  by_cases he : errM l = 0
  · have e : (errM l == 0) = true := by simpa using he
    have eo : openS l to = if isNode to = false then (0, 2) else ((allS l).foldl (openF to) 0, 0) := if_neg (by simp [he])
    rw [eo]
    simp only [e, Bool.not_true, Bool.false_eq_true, if_false]
    cases isNode to with
    | false => rfl
    | true =>
      simp only [Bool.not_true, Bool.false_eq_true, if_false]
      exact Open_L2 (N := NN) (x1 := fun w30_8 h => f_document_Open_j1 Try.prog t_document_Open d_document_Open NN (fun v g => cvt false g v) w30_8 h) (l := allS l) (b := (allS l).isEmpty) (to := to) (by have := allS_len l; omega) (fun h => rfl) NN 0 [] (by omega) (by have := allS_len l; have := NN_ge; omega)
  · have e : (errM l == 0) = false := by simpa using he
    rw [show openS l to = (0, errM l) from if_pos he]
    simp only [e, Bool.not_false, if_true]
    rfl
theorem F_document_Open_at (l : List Msg) (to : Int) {b : Bool} (hl : l.length < 1000) {h : Hp} {v : AV} (hv : cvts false h [v, I to] = some [SLm b l, I to]) : F_document_Open [v, I to] h = some (tupI (openS l to), h) :=
  closedX_scal hv (F_document_Open_val l b to hl []) rfl
end Go.AM


namespace Go.AM
open Go.Proofs
set_option linter.unusedVariables false
set_option linter.unusedSimpArgs false
set_option linter.constructorNameAsVariable false
set_option maxRecDepth 20000
attribute [local congr] arithK_cg eqK_cg notK_cg convK_cg pickK_cg buildK_cg ldK_cg nilK_cg sliceK_cg faK_cg fldK_cg iaK_cg iaA_cg lookK_cg capK_cg exK_cg lenK_cg minK_cg maxK_cg effK_cg callK_cg callVK_cg effD_cg gopD_cg grpK_cg condK_cg cond_cg
theorem slices_Equal_Document_L2 {T : Tab} {D : DTab} {N : Nat} {x0 : Hp → Option AV} {xr : AV → Hp → Option AV} {a b : List Docu} {p q : Bool} {h : Hp} (hab : a.length = b.length) (hl : a.length < 1000000) (hx : x0 h = xr (B true) h) (heq : ∀ (x y : Docu) (k : Go.AM.K AV), eqK Try.prog true 35 (.agg (encDo x)) (.agg (encDo y)) h k = k (B (!(x == y)))) : ∀ (n i : Nat), i ≤ a.length → a.length < i + n →
    f_slices_Equal_Document_L2 Try.prog T D N x0 xr n (.lst 7 p (a.map encDo)) (.lst 7 q (b.map encDo)) (I a.length) (I i) h = xr (B (decide (a.drop i = b.drop i))) h := by
  intro n
  induction n with
  | zero => intro i h1 h2; omega
  | succ n ih =>
    intro i h1 h2
    show f_slices_Equal_Document_b2 Try.prog T D N (f_slices_Equal_Document_L2 Try.prog T D N x0 xr n) x0 xr _ _ _ _ h = _
    rcases Nat.lt_or_ge i a.length with hi | hi
    · have c1 : ((i : Int) < (a.length : Int)) := by omega
      have hw : IntKind.i64.wrap ((i : Int) + 1) = ((i + 1 : Nat) : Int) := by rw [wrap64 (by omega) (by omega)]; omega
      have ia : ∀ k : Go.AM.K AV, iaK 7 (.lst 7 p (a.map encDo)) (I i) k = k (.ep (encDo a[i]) 0) := fun k => iaK_at i rfl (List.getElem?_eq_getElem hi) k
      have ib : ∀ k : Go.AM.K AV, iaK 7 (.lst 7 q (b.map encDo)) (I i) k = k (.ep (encDo (b[i]'(by omega))) 0) := fun k => iaK_at i rfl (List.getElem?_eq_getElem (by omega)) k
      have ld : ∀ (x : Docu) (k : Go.AM.K AV), ldK 7 true (.ep (encDo x) 0) h k = k (.agg (encDo x)) := fun x k => rfl
      rw [List.drop_eq_getElem_cons hi, List.drop_eq_getElem_cons (show i < b.length by omega)]
      simp -implicitDefEqProofs only [f_slices_Equal_Document_b2, lenK_lst, List.length_map, arithK_lss, c1, decide_true, condK_bool, if_true, ia, ib, ld, heq, arithK_add, hw, ih (i + 1) (by omega) (by omega), List.cons.injEq, Bool.decide_and]
      by_cases e : a[i] = b[i]
      · simp [e]
      · simp [e]
    · have : i = a.length := by omega
      subst this
      have c1 : ¬ ((a.length : Int) < (a.length : Int)) := by omega
      simp -implicitDefEqProofs only [f_slices_Equal_Document_b2, lenK_lst, List.length_map, arithK_lss, c1, decide_false, condK_bool, Bool.false_eq_true, if_false, hx]
      rw [List.drop_eq_nil_of_le (Nat.le_refl _), List.drop_eq_nil_of_le (by omega)]
      rfl
theorem F_slices_Equal_Document_val (a b : List Docu) (p q : Bool) (hl : a.length < 1000000) (heq : ∀ (x y : Docu) (h : Hp) (k : Go.AM.K AV), eqK Try.prog true 35 (.agg (encDo x)) (.agg (encDo y)) h k = k (B (!(x == y)))) (h : Hp) : F_slices_Equal_Document [.lst 7 p (a.map encDo), .lst 7 q (b.map encDo)] h = some (B (decide (a = b)), h) := by
  refine F_slices_Equal_Document_run rfl ?_ h
  simp only [nrm, nrmC]
  by_cases hab : a.length = b.length
  · have e : ((a.length : Int) == (b.length : Int)) = true := by simp [hab]
    have := slices_Equal_Document_L2 (T := t_slices_Equal_Document) (D := d_slices_Equal_Document) (N := NN) (x0 := fun h => f_slices_Equal_Document_j1 Try.prog t_slices_Equal_Document d_slices_Equal_Document NN (fun v g => cvt false g v) h) (xr := fun w13_4 h => cvt false h w13_4) (a := a) (b := b) (p := p) (q := q) (h := []) hab hl rfl (fun x y k => heq x y [] k) NN 0 (by omega) (by have := NN_ge; omega)
    simp only [List.drop_zero] at this
    simp -implicitDefEqProofs only [f_slices_Equal_Document, lenK_lst, List.length_map, eqK_int, e, Bool.true_xor, Bool.not_true, condK_bool, Bool.false_eq_true, if_false]
    exact this
  · have e : ((a.length : Int) == (b.length : Int)) = false := by simp; omega
    have hne : a ≠ b := fun h => hab (by rw [h])
    simp [f_slices_Equal_Document, e, hne]
section
variable {β : Type} {P : Program} {T : Tab} {D : DTab} {N : Nat} {K : AV → Hp → Option β}
abbrev SL {α : Type} (sz : Nat) (f : α → List AV) (b : Bool) (l : List α) : AV := .lst sz (b && l.isEmpty) (l.map f)
end
theorem equal_D (a b : List Docu) (p q : Bool) (hl : a.length < 1000000) (h : Hp) : F_slices_Equal_Document [.lst 7 p (a.map encDo), .lst 7 q (b.map encDo)] h = some (B (decide (a = b)), h) := F_slices_Equal_Document_val a b p q hl (fun x y h k => by rw [eqs_Do, Bool.true_xor]) h
abbrev e1 : Msg := ⟨5, 1, 0, 1, 1, 2, 100⟩
abbrev e2 : Msg := ⟨5, 2, 1, 2, 0, 3, 0⟩
abbrev e3 : Msg := ⟨5, 3, 0, 4, 0, 0, 98⟩
abbrev e4 : Msg := ⟨5, 3, 0, 4, 0, 0, 97⟩
abbrev exM : List Msg := [e1, e2, e3]
abbrev exD : Docu := ⟨5, 2, 1, 3, 100, 98, 1⟩
theorem ex_norm : normL exM = exM := normL_of_srt (by decide)
theorem ex_norm1 : normL [e1] = [e1] := normL_of_srt (by decide)
theorem ex_norm4 : normL [e1, e2, e3, e4] = [e1, e2, e4, e3] := by
  refine (normL_eq (o := [e1, e2, e4, e3]) (by decide) fun x => ?_).symm
  simp only [List.mem_cons, List.not_mem_nil, or_false]
  constructor
  · rintro (h | h | h | h) <;> simp [h]
  · rintro (h | h | h | h) <;> simp [h]
theorem ex_of : ofS exM 5 = (exD, 0) := by
  rw [ofS_ok (by decide), ex_norm]; decide
theorem ex_of4 : ofS [e1, e2, e3, e4] 5 = (confD 5, 0) := by
  rw [ofS_ok (by decide), ex_norm4]; decide
theorem ex_all : allS exM = [exD] := by
  unfold allS
  rw [if_pos (by decide), ex_norm]; decide
theorem ex_all1 : allS [e1] = [⟨5, 1, 1, 2, 100, 0, 0⟩] := by
  unfold allS
  rw [if_pos (by decide), ex_norm1]; decide
theorem ex_open : openS [e1] 2 = (100, 0) := by
  unfold openS
  rw [if_neg (by decide), if_neg (by decide), ex_all1]
  decide
theorem R_law40_example_val (h : Hp) : R_law40_example [] h = some (.sl 7 h.length 0 3 3 true, h ++ [.arr 7 (exM.map encM) true false]) := by
  rw [R_law40_example_raw]
  simp [f_law40_example, buildK, fillA, bsE, fillS, encM]
theorem cv_ex {h : Hp} {id : Nat} {b : Bool} {l : List Msg} {n : Nat} (x : Int) (hid : h[id]? = some (.arr 7 (l.map encM) true false)) (hn : l.length = n) : cvts false h [.sl 7 id 0 n n b, I x] = some [SLm false l, I x] := by
  rw [cvts_cons, cvt_whole hid (by simpa using hn) (by simpa using hn) (okE_map fun x => by simp [encM])]
  rfl
theorem cv_ex1 {h : Hp} {id : Nat} (x : Int) (hid : h[id]? = some (.arr 7 (exM.map encM) true false)) : cvts false h [.sl 7 id 0 1 3 false, I x] = some [SLm false [e1], I x] := by
  simp only [cvts_cons, cvts_nil, cvt, hid]
  rfl
section
variable {β : Type} {h : Hp} {n : Nat}
theorem bxn (hn : h.length = n) (k : AV → Hp → Option β) : effK (boxE 7 (.agg zM) n) h k = k (.ptr n 0 0 1) (h ++ [.arr 7 [zM] true false]) := effK_box 7 n (.agg zM) h k hn rfl rfl
theorem bsMn {d : Msg} (hn : h.length = n) (k : AV → Hp → Option β) : effK (bsE 7 zM 1 [(0, .agg (encM d))] n) h k = k (.sl 7 n 0 1 1 true) (h ++ [.arr 7 [encM d] true false]) := by simp [bsE, fillS, encM, effK, ap]
theorem bsDn {d : Docu} (hn : h.length = n) (k : AV → Hp → Option β) : effK (bsE 7 zM 1 [(0, .agg (encDo d))] n) h k = k (.sl 7 n 0 1 1 true) (h ++ [.arr 7 [encDo d] true false]) := by simp [bsE, fillS, encDo, effK, ap]
theorem ap_ex {i j : Nat} (hi : h[i]? = some (.arr 7 (exM.map encM) true false)) (hj : h[j]? = some (.arr 7 [encM e4] true false)) (hn : h.length = n) (k : AV → Hp → Option β) : effK (appE 7 56 (.sl 7 i 0 3 3 true) (.sl 7 j 0 1 1 true) h n) h k = k (.sl 7 n 0 4 4 false) (h ++ [.arr 7 ([e1, e2, e3, e4].map encM) true false]) := by
  simp [appE, readSl, hi, hj, encM, effK, ap]
end
set_option maxHeartbeats 1000000 in
theorem F_law40_awake_val (h : Hp) : F_law40_awake [] h = some (B true, h) := by
  refine F_law40_awake_run rfl ?_ h
  have fe := R_law40_example_val
  have fo : ∀ (h : Hp) (id : Nat), h[id]? = some (.arr 7 (exM.map encM) true false) → F_document_Of [.sl 7 id 0 3 3 true, I 5] h = some (tupD (exD, 0), h) := fun h id hid => (F_document_Of_at exM 5 (by simp) (cv_ex (n := 3) (b := true) 5 hid rfl)).trans (by rw [ex_of])
  have f4 : ∀ (h : Hp) (id : Nat), h[id]? = some (.arr 7 ([e1, e2, e3, e4].map encM) true false) → F_document_Of [.sl 7 id 0 4 4 false, I 5] h = some (tupD (confD 5, 0), h) := fun h id hid => (F_document_Of_at [e1, e2, e3, e4] 5 (by simp) (cv_ex (n := 4) (b := false) 5 hid rfl)).trans (by rw [ex_of4])
  have fp : ∀ (h : Hp) (id : Nat), h[id]? = some (.arr 7 (exM.map encM) true false) → F_document_Open [.sl 7 id 0 1 3 false, I 2] h = some (tupI (100, 0), h) := fun h id hid => (F_document_Open_at [e1] 2 (by simp) (cv_ex1 2 hid)).trans (by rw [ex_open])
  have fa : ∀ (h : Hp) (id : Nat), h[id]? = some (.arr 7 (exM.map encM) true false) → F_document_All [.sl 7 id 0 3 3 true] h = some (.tup [.lst 7 false ([exD].map encDo), I 0], h) := fun h id hid => by
    have hv : cvts false h [.sl 7 id 0 3 3 true] = some [SLm false exM] := by
      rw [cvts_cons, cvt_whole (n := 3) (fr := 3) (full := true) hid rfl rfl (okE_map fun x => by simp [encM]), cvts_nil]; rfl
    rw [F_document_All_at exM (by simp) hv]
    unfold allV
    rw [ex_all, show errM exM = 0 by decide]
    rfl
  have fq : ∀ (h : Hp) (id : Nat), h[id]? = some (.arr 7 [encDo exD] true false) → F_slices_Equal_Document [.lst 7 false ([exD].map encDo), .sl 7 id 0 1 1 true] h = some (B true, h) := fun h id hid => by
    have hv : cvts false h [.lst 7 false ([exD].map encDo), .sl 7 id 0 1 1 true] = some [.lst 7 false ([exD].map encDo), .lst 7 false ([exD].map encDo)] := by
      rw [cvts_cons, cvt_lst, cvts_cons, cvt_whole (es := [encDo exD]) (n := 1) (fr := 1) (full := true) (st := false) hid rfl rfl rfl, cvts_nil]; rfl
    exact closedX_scal hv (equal_D [exD] [exD] false false (by simp) []) rfl
  have l1 := F_document_Later_val exD (confD 5)
  have l2 := F_document_Later_val (confD 5) exD
  rw [show laterS exD (confD 5) = true by decide] at l1
  rw [show laterS (confD 5) exD = false by decide] at l2
  have ck := F_document_Check_val e1
  rw [show checkM e1 = 0 by decide] at ck
  have xd0 : ∀ (r : Docu × Int) (k : Go.AM.K AV), exK (tupD r) 0 k = k (.agg (encDo r.1)) := fun _ _ => rfl
  have xd1 : ∀ (r : Docu × Int) (k : Go.AM.K AV), exK (tupD r) 1 k = k (I r.2) := fun _ _ => rfl
  have xi0 : ∀ (a b : AV) (k : Go.AM.K AV), exK (.tup [a, b]) 0 k = k a := fun _ _ _ => rfl
  have xi1 : ∀ (a b : AV) (k : Go.AM.K AV), exK (.tup [a, b]) 1 k = k b := fun _ _ _ => rfl
  have b4 : ∀ k : Go.AM.K AV, buildK zM [(some (0, 1), I 5), (some (1, 1), I 3), (some (3, 1), I 4), (some (6, 1), I 97)] k = k (.agg (encM e4)) := fun _ => rfl
  have b5 : ∀ k : Go.AM.K AV, buildK zM [(some (0, 1), I 5), (some (1, 1), I 2), (some (2, 1), I 1), (some (3, 1), I 3), (some (4, 1), I 100), (some (5, 1), I 98), (some (6, 1), I 1)] k = k (.agg (encDo exD)) := fun _ => rfl
  have b6 : ∀ k : Go.AM.K AV, buildK zM [(some (0, 1), I 5), (some (1, 1), I 5)] k = k (.agg (encDo (confD 5))) := fun _ => rfl
  have sc : ∀ (id : Nat) (k : Go.AM.K AV), sliceK 7 (.sl 7 id 0 3 3 true) none (some (I 1)) none k = k (.sl 7 id 0 1 3 false) := fun _ _ => rfl
  have ia : ∀ (id : Nat) (k : Go.AM.K AV), iaK 7 (.sl 7 id 0 3 3 true) (I 0) k = k (.ptr id 0 0 3) := fun _ _ => rfl
  have le : ∀ (h : Hp) (id : Nat), h[id]? = some (.arr 7 (exM.map encM) true false) → ∀ k : Go.AM.K AV, ldK 7 true (.ptr id 0 0 3) h k = k (.agg (encM e1)) := fun h id hid k => ld_el hid rfl rfl k
  have eD : ∀ (x y : Docu) (h : Hp) (k : Go.AM.K AV), eqK Try.prog false 35 (.agg (encDo x)) (.agg (encDo y)) h k = k (B (x == y)) := fun x y h k => by rw [eqs_Do, Bool.false_xor]
  have w0 : IntKind.i64.wrap (0 + 0) = 0 := by kernel_rfl
  have sD : ∀ (d : Docu) (h : Hp) (id : Nat), h[id]? = some (.arr 7 [zM] true false) → ∀ k : AV → Hp → Option AV, effK (stE 7 (.ptr id 0 0 1) (.agg (encDo d)) h) h k = k .u (h.set id (.arr 7 [encDo d] true false)) := fun d h id hid k => by
    rw [effK_put (v := .u) (id := id) (o := .arr 7 [encDo d] true false) (ft := [id]) (by simp [hid, encDo])]
  have lD : ∀ (d : Docu) (h : Hp) (id : Nat), h[id]? = some (.arr 7 [encDo d] true false) → ∀ k : Go.AM.K AV, ldK 7 true (.ptr id 0 0 1) h k = k (.agg (encDo d)) := fun d h id hid k => by simp [hid, encDo]
  have lD1 := lD exD
  have lD2 := lD (confD 5)
  simp -implicitDefEqProofs only [f_law40_awake, t_law40_awake_36, t_law40_awake_18, t_law40_awake_20, t_law40_awake_22, t_law40_awake_25, t_law40_awake_15, t_law40_awake_34, callK_F, fe, List.nil_append, List.cons_append, List.length_cons, List.length_nil, Nat.zero_add, Nat.reduceAdd, fo, f4, fp, fa, fq, l1, l2, ck, xd0, xd1, xi0, xi1, b4, b5, b6, sc, ia, le, eD, bxn, sD, lD1, lD2, bsMn, bsDn, ap_ex, List.getElem?_cons_succ, List.getElem?_cons_zero, List.set_cons_succ, List.set_cons_zero, eqK_int, beq_self_eq_true, Bool.false_xor, grpK_tt, notK_bool, Bool.not_false, arithK_add, w0]
  rfl
end Go.AM


namespace Go.AM
open Go.RowKit
set_option linter.unusedVariables false
def mu0 (w : World) : Mu := ⟨fun _ => .virt none, w, fun k => k < w.heap.size⟩
theorem rel0 (w : World) : Rel (mu0 w) [] w where
  obj := fun id o h => by simp at h
  sep := fun i j o p b x c y d h => by simp at h
  apart := fun i sz es nil b x c h => by simp at h
  imm := fun k hk => ⟨hk, rfl, fun ⟨id, o, off, c, h, _⟩ => by simp at h⟩
theorem own0 (w : World) (b : Nat) : ¬ Own (mu0 w) [] b := fun ⟨id, o, off, c, h, _⟩ => by simp at h
theorem below0 {w w' : World} {μ' : Mu} {h' : Hp} (s : Step (mu0 w) [] w μ' h' w') : Below w.heap.size w w' :=
  ⟨s.frame.os, s.frame.tape, s.frame.output, s.frame.size, fun k hk => s.frame.block k hk (own0 w k)⟩
theorem row_calls {P : Program} {f : FuncId} {F : Fun} {args : List AV} {h' : Hp} {b : Bool} {W : World} {cargs : Array Value} (hc : CSound P f F) (hF : F args [] = some (.s (.bool b), h')) (hv : VRs (mu0 W) [] args cargs.toList) :
    Calls P f cargs W fun e W' => e = .returned (.bool b) ∧ Below W.heap.size W W' := by
  refine (hc args [] _ h' hF (mu0 W) W cargs (rel0 W) hv).2.mono fun e W' => ?_
  rintro ⟨cv, μ', rfl, s, hr⟩
  simp only [VR] at hr
  exact ⟨by rw [hr.2], below0 s⟩

inductive Ty where
  | int (k : IntKind)
  | bool
  | str
  | sl (e : List Ty)
def tyFs (f : TypeId → Option (List Ty)) (size : TypeId → Nat) : List Field → Nat → Option (List Ty)
  | [], _ => some []
  | x :: l, pos => match f x.type, tyFs f size l (pos + size x.type) with
    | some a, some b => if x.offset = pos ∧ a.length = size x.type then some (a ++ b) else none
    | _, _ => none
def tyOf (P : Program) : Nat → TypeId → Option (List Ty)
  | 0, _ => none
  | n + 1, t => match P.underlying t with
    | some .bool => some [.bool]
    | some (.int k) => some [.int k]
    | some .string => some [.str]
    | some (.slice e) => match tyOf P n e with
      | some l => if l.length = P.cellsOf e ∧ 0 < l.length then some [.sl l] else none
      | none => none
    | some (.struct fs) => match tyFs (tyOf P n) P.cellsOf fs.toList 0 with
      | some l => if l.length = P.cellsOf t then some l else none
      | none => none
    | some (.array m e) => match tyOf P n e with
      | some l => if l.length = P.cellsOf e ∧ m * P.cellsOf e = P.cellsOf t then some (List.replicate m l).flatten else none
      | none => none
    | _ => none
mutual
def HasT : Ty → AV → Prop
  | .int k, a => ∃ n, a = .s (.int k n) ∧ (Lit.int k n).wf = true
  | .bool, a => ∃ b, a = .s (.bool b)
  | .str, a => ∃ s : ByteArray, a = .s (.string s) ∧ s.size ≤ maxLen
  | .sl ts, a => ∃ nil es, a = .lst ts.length nil es ∧ (nil = true → es = []) ∧ es.length ≤ maxLen ∧ ∀ e ∈ es, HasTs ts e
def HasTs : List Ty → List AV → Prop
  | [], asl => asl = []
  | t :: ts, asl => ∃ a as', asl = a :: as' ∧ HasT t a ∧ HasTs ts as'
end
theorem HasTs.app : ∀ {ts us : List Ty} {asl bs : List AV}, HasTs ts asl → HasTs us bs → HasTs (ts ++ us) (asl ++ bs)
  | [], us, asl, bs, h, k => by simp only [HasTs] at h; subst h; exact k
  | t :: ts, us, asl, bs, h, k => by
    simp only [HasTs] at h
    obtain ⟨a, as', rfl, h1, h2⟩ := h
    simp only [List.cons_append, HasTs]
    exact ⟨a, _, rfl, h1, HasTs.app h2 k⟩
theorem HasTs.len : ∀ {ts : List Ty} {asl : List AV}, HasTs ts asl → asl.length = ts.length
  | [], asl, h => by simp only [HasTs] at h; subst h; rfl
  | t :: ts, asl, h => by
    simp only [HasTs] at h
    obtain ⟨a, as', rfl, h1, h2⟩ := h
    simp [HasTs.len h2]
theorem HasT.ok : ∀ {t : Ty} {a : AV}, HasT t a → okC a = true
  | .int k, a, h => by simp only [HasT] at h; obtain ⟨n, rfl, _⟩ := h; rfl
  | .bool, a, h => by simp only [HasT] at h; obtain ⟨n, rfl⟩ := h; rfl
  | .str, a, h => by simp only [HasT] at h; obtain ⟨n, rfl, _⟩ := h; rfl
  | .sl ts, a, h => by simp only [HasT] at h; obtain ⟨n, es, rfl, _⟩ := h; rfl
theorem HasTs.ok : ∀ {ts : List Ty} {asl : List AV}, HasTs ts asl → ∀ x ∈ asl, okC x = true
  | [], asl, h, x, hx => by simp only [HasTs] at h; subst h; simp at hx
  | t :: ts, asl, h, x, hx => by
    simp only [HasTs] at h
    obtain ⟨a, as', rfl, h1, h2⟩ := h
    rcases List.mem_cons.1 hx with rfl | hx
    · exact h1.ok
    · exact h2.ok x hx
theorem VRs_app' {μ : Mu} {h : Hp} : ∀ {asl bs : List AV} {cs ds : List Value}, VRs μ h asl cs → VRs μ h bs ds → VRs μ h (asl ++ bs) (cs ++ ds)
  | [], bs, cs, ds, h1, h2 => by simp only [VRs] at h1; subst h1; exact h2
  | a :: asl, bs, cs, ds, h1, h2 => by
    simp only [VRs] at h1
    obtain ⟨v, vs, rfl, h3, h4⟩ := h1
    simp only [List.cons_append, VRs]
    exact ⟨v, _, rfl, h3, VRs_app' h4 h2⟩
section
variable {H : Type} {enc : TypeId × Value → H} {P : Program} {w : World} {base : Nat} {spare : Nat → Bool} {held : Bool}
def Opened (w : World) (ts : List Ty) (cs : List Value) : Prop := ∃ asl, HasTs ts asl ∧ VRs (mu0 w) [] asl cs ∧ ∀ u ∈ cs, u.oneCell' = true
theorem open_one {t : Ty} {u : Value} {a : AV} (h1 : HasT t a) (h2 : VR (mu0 w) [] a u) (h3 : u.oneCell' = true) : Opened w [t] [u] :=
  ⟨[a], by simp only [HasTs]; exact ⟨a, [], rfl, h1, rfl⟩, by simp only [VRs]; exact ⟨u, [], rfl, h2, rfl⟩, by simpa using h3⟩
theorem open_fs {f : TypeId → Option (List Ty)} {g : TypeId → List Value → Prop} {cs : List Value} (hg : ∀ t ts cs', f t = some ts → g t cs' → Opened w ts cs') : ∀ (l : List Field) (pos : Nat) (ts : List Ty), tyFs f P.cellsOf l pos = some ts →
    (∀ x ∈ l, g x.type ((cs.drop x.offset).take (P.cellsOf x.type))) → Opened w ts ((cs.drop pos).take ts.length)
  | [], pos, ts, h, _ => by
    simp only [tyFs, Option.some.injEq] at h
    subst h
    exact ⟨[], rfl, rfl, by simp⟩
  | x :: l, pos, ts, h, hx => by
    simp only [tyFs] at h
    split at h
    · rename_i a b h1 h2
      split at h
      · rename_i hc
        simp only [Option.some.injEq] at h
        subst h
        obtain ⟨h3, h4⟩ := hc
        obtain ⟨asl, p1, p2, p3⟩ := hg _ _ _ h1 (hx x (by simp))
        obtain ⟨bs, q1, q2, q3⟩ := open_fs hg l _ b h2 (fun y hy => hx y (by simp [hy]))
        have e : (cs.drop pos).take (a ++ b).length = (cs.drop x.offset).take (P.cellsOf x.type) ++ (cs.drop (pos + P.cellsOf x.type)).take b.length := by
          rw [List.length_append, h4, h3, ← List.drop_drop, List.take_add]
        rw [e]
        refine ⟨asl ++ bs, p1.app q1, VRs_app' p2 q2, ?_⟩
        intro u hu
        rcases List.mem_append.1 hu with hu | hu
        · exact p3 u hu
        · exact q3 u hu
      · simp at h
    · simp at h
theorem open_arr {ts : List Ty} {sz : Nat} {cs : List Value} : ∀ (n i0 : Nat), (∀ i, i < n → Opened w ts ((cs.drop ((i0 + i) * sz)).take sz)) → Opened w (List.replicate n ts).flatten ((cs.drop (i0 * sz)).take (n * sz))
  | 0, i0, _ => ⟨[], rfl, by simp [VRs], by simp⟩
  | n + 1, i0, h => by
    obtain ⟨asl, p1, p2, p3⟩ := h 0 (by omega)
    obtain ⟨bs, q1, q2, q3⟩ := open_arr n (i0 + 1) (fun i hi => by have := h (i + 1) (by omega); rwa [show i0 + (i + 1) = i0 + 1 + i by omega] at this)
    have e : (cs.drop (i0 * sz)).take ((n + 1) * sz) = (cs.drop (i0 * sz)).take sz ++ (cs.drop ((i0 + 1) * sz)).take (n * sz) := by
      rw [show (n + 1) * sz = sz + n * sz by rw [Nat.add_mul]; omega, show (i0 + 1) * sz = i0 * sz + sz by rw [Nat.add_mul]; omega, ← List.drop_drop, List.take_add]
    rw [e, List.replicate_succ, List.flatten_cons]
    refine ⟨asl ++ bs, p1.app q1, VRs_app' p2 q2, ?_⟩
    intro u hu
    rcases List.mem_append.1 hu with hu | hu
    · exact p3 u hu
    · exact q3 u hu
theorem open_es {ts : List Ty} {sz b : Nat} (hts : ts.length = sz) : ∀ (n o : Nat), (∀ i, i < n → ∃ cs, Opened w ts cs ∧ cs.length = sz ∧ ∀ j u, cs[j]? = some u → w.cell? ⟨b, o + i * sz + j, none⟩ = some u) →
    ∃ es vs, es.length = n ∧ (∀ e ∈ es, HasTs ts e) ∧ VRf (mu0 w) [] es vs ∧ ∀ j u, vs[j]? = some u → w.cell? ⟨b, o + j, none⟩ = some u ∧ u.oneCell' = true
  | 0, o, h => ⟨[], [], rfl, by simp, rfl, by simp⟩
  | n + 1, o, h => by
    obtain ⟨cs, ⟨asl, h1, h2, h3⟩, h4, h5⟩ := h 0 (by omega)
    obtain ⟨es, vs, k1, k2, k3, k4⟩ := open_es hts n (o + sz) (fun i hi => by
      obtain ⟨cs', q1, q2, q3⟩ := h (i + 1) (by omega)
      refine ⟨cs', q1, q2, fun j u hu => ?_⟩
      rw [← q3 j u hu]
      congr 2
      rw [Nat.add_mul]; omega)
    refine ⟨asl :: es, cs ++ vs, by simp [k1], ?_, ?_, ?_⟩
    · intro e he
      rcases List.mem_cons.1 he with rfl | he
      · exact h1
      · exact k2 e he
    · simp only [VRf]; exact ⟨cs, vs, rfl, h2, k3⟩
    · intro j u hj
      by_cases hlt : j < cs.length
      · rw [List.getElem?_append_left hlt] at hj
        have := h5 j u hj
        exact ⟨by simpa using this, h3 u (List.mem_of_getElem? hj)⟩
      · rw [List.getElem?_append_right (by omega)] at hj
        have := k4 _ _ hj
        rw [show o + sz + (j - cs.length) = o + j by omega] at this
        exact this
theorem cell_lt {a : Addr} {v : Value} (h : w.cell? a = some v) : a.block < w.heap.size := by
  rcases Nat.lt_or_ge a.block w.heap.size with h1 | h1
  · exact h1
  · have : w.heap[a.block]? = none := by simpa using h1
    simp [World.cell?, this] at h
theorem open_cells : ∀ (fuel n : Nat) (t : TypeId) (ts : List Ty) (cs : List Value) (x : DataW H × List MemPlace), tyOf P n t = some ts → DataW.trod enc P w base spare held fuel t cs = some x → Opened w ts cs
  | 0, n, t, ts, cs, x, _, h => by simp [DataW.trod] at h
  | fuel + 1, 0, t, ts, cs, x, h0, _ => by simp [tyOf] at h0
  | fuel + 1, n + 1, t, ts, cs, x, h0, h => by
    unfold tyOf at h0
    cases hu : P.underlying t with
    | none => rw [hu] at h0; simp at h0
    | some T =>
      rw [hu] at h0
      cases T with
      | bool =>
        simp only [Option.some.injEq] at h0
        subst h0
        obtain ⟨b, rfl, _⟩ := DataW.trod_bool hu h
        exact open_one (a := .s (.bool b)) (by simp [HasT]) (by simp [VR, gv]) rfl
      | int k =>
        simp only [Option.some.injEq] at h0
        subst h0
        obtain ⟨m, rfl, _, hw⟩ := DataW.trod_int hu h
        exact open_one (a := .s (.int k m)) (by simp [HasT, hw]) (by simp [VR, gv]) rfl
      | string =>
        simp only [Option.some.injEq] at h0
        subst h0
        obtain ⟨s, rfl, _, hs⟩ := DataW.trod_string hu h
        exact open_one (a := .s (.string s)) (by simp [HasT, hs]) (by simp [VR, gv]) rfl
      | slice e =>
        simp only at h0
        cases he : tyOf P n e with
        | none => rw [he] at h0; simp at h0
        | some l =>
          rw [he] at h0
          simp only at h0
          split at h0
          · rename_i hl
            simp only [Option.some.injEq] at h0
            subst h0
            rcases DataW.trod_slice hu h with ⟨rfl, _⟩ | ⟨a, len, cap, elems, rest, m, hm, rfl, _, hb, h1, h2, h3, h4, _, _⟩
            · refine open_one (a := .lst l.length true []) ?_ ?_ rfl
              · simp only [HasT]; exact ⟨true, [], rfl, fun _ => rfl, by simp, by simp⟩
              · simp only [VR]
                exact ⟨none, 0, rfl, by simp, by simp, rfl, fun _ => rfl, by simp, by simp⟩
            · have hm' : m = fuel := by omega
              subst hm'
              have cell : ∀ i, i < len → ∃ cs, Opened w l cs ∧ cs.length = P.cellsOf e ∧ ∀ j, j < P.cellsOf e → w.cell? ((a.add (i * P.cellsOf e)).add j) = cs[j]? := by
                intro i hi
                have hi' := h4 i hi
                rw [List.getElem?_eq_getElem (by omega), Option.bind_eq_some_iff] at hi'
                obtain ⟨cs, q1, q2⟩ := hi'
                have q3 := World.cells?_some q1
                exact ⟨cs, open_cells m n e l cs _ he q2, q3.2.1, q3.2.2⟩
              obtain ⟨b, off, spot⟩ := a
              have hsp : len ≠ 0 → spot = none := fun hn => by
                obtain ⟨cs, _, q2, q3⟩ := cell 0 (by omega)
                have q4 := q3 0 (by omega)
                rw [List.getElem?_eq_getElem (by omega)] at q4
                simpa [Addr.add] using World.cell?_spot q4
              by_cases hn : len = 0
              · subst hn
                refine open_one (a := .lst l.length false []) ?_ ?_ rfl
                · simp only [HasT]; exact ⟨false, [], rfl, fun _ => rfl, by simp, by simp⟩
                · simp only [VR]
                  exact ⟨_, cap, rfl, by simp, h2, rfl, by simp, by simp, by simp⟩
              · have hs := hsp hn
                subst hs
                obtain ⟨es, vs, k1, k2, k3, k4⟩ := open_es (w := w) (ts := l) (sz := P.cellsOf e) (b := b) hl.1 len off (fun i hi => by
                  obtain ⟨cs, q1, q2, q3⟩ := cell i hi
                  refine ⟨cs, q1, q2, fun j u hj => ?_⟩
                  have hjl := (List.getElem?_eq_some_iff.1 hj).1
                  have := q3 j (by omega)
                  rw [hj] at this
                  rw [← this, Go.WideShapes.add_plain, Go.WideShapes.add_plain])
                refine open_one (a := .lst l.length false es) ?_ ?_ rfl
                · simp only [HasT]; exact ⟨false, es, rfl, by simp, by omega, k2⟩
                · simp only [VR]
                  refine ⟨_, cap, by rw [k1], by omega, h2, rfl, by simp, fun e' he' => ⟨(k2 e' he').len, (k2 e' he').ok⟩, fun _ => ⟨b, off, vs, rfl, ?_, k3, k4⟩⟩
                  obtain ⟨cs, q1, q2, q3⟩ := cell 0 (by omega)
                  have q4 := q3 0 (by omega)
                  rw [List.getElem?_eq_getElem (by omega)] at q4
                  show b < w.heap.size
                  rw [Go.WideShapes.add_plain, Go.WideShapes.add_plain] at q4
                  exact cell_lt q4
          · simp at h0
      | struct fs =>
        simp only at h0
        cases he : tyFs (tyOf P n) P.cellsOf fs.toList 0 with
        | none => rw [he] at h0; simp at h0
        | some l =>
          rw [he] at h0
          simp only at h0
          split at h0
          · rename_i hl
            simp only [Option.some.injEq] at h0
            subst h0
            obtain ⟨xs, m, hm, _, h2, h3, h4⟩ := DataW.trod_struct hu h
            have hm' : m = fuel := by omega
            subst hm'
            have := open_fs (w := w) (P := P) (f := tyOf P n) (g := fun t cs' => ∃ y, DataW.trod enc P w base spare held m t cs' = some y) (cs := cs) (fun t ts cs' q1 ⟨y, q2⟩ => open_cells m n t ts cs' y q1 q2) fs.toList 0 l he (fun y hy => by
              obtain ⟨i, hi⟩ := List.getElem?_of_mem hy
              have hi2 : fs[i]? = some y := by simpa using hi
              have := h4 i y hi2
              have hlt : i < xs.length := by rw [h3]; exact (Array.getElem?_eq_some_iff.1 hi2).1
              rw [List.getElem?_eq_getElem hlt] at this
              exact ⟨_, this⟩)
            rw [List.drop_zero, hl, ← h2, List.take_length] at this
            exact this
          · simp at h0
      | array k e =>
        simp only at h0
        cases he : tyOf P n e with
        | none => rw [he] at h0; simp at h0
        | some l =>
          rw [he] at h0
          simp only at h0
          split at h0
          · rename_i hl
            simp only [Option.some.injEq] at h0
            subst h0
            obtain ⟨xs, m, hm, _, h2, h3, h4⟩ := DataW.trod_array hu h
            have hm' : m = fuel := by omega
            subst hm'
            have := open_arr (w := w) (ts := l) (sz := P.cellsOf e) (cs := cs) k 0 (fun i hi => by
              have h5 := h4 i hi
              rw [List.getElem?_eq_getElem (by omega)] at h5
              have h6 := open_cells m n e l _ _ he h5
              rwa [Nat.zero_add])
            rw [Nat.zero_mul, List.drop_zero, hl.2, ← h2, List.take_length] at this
            exact this
          · simp at h0
      | _ => simp at h0
theorem open_cell {t : TypeId} {v : Value} {d : DataW H} {ps : List MemPlace} {n : Nat} {ty : Ty} (hv : v.cells = #[v]) (ht : tyOf P n t = some [ty]) (hd : DataW.Trod enc P w base spare held t v d ps) : ∃ a, HasT ty a ∧ VR (mu0 w) [] a v := by
  obtain ⟨fuel, hf⟩ := hd
  rw [hv] at hf
  obtain ⟨asl, h1, h2, _⟩ := open_cells fuel n t [ty] _ _ ht hf
  simp only [HasTs] at h1
  obtain ⟨a, as', rfl, h1, rfl⟩ := h1
  simp only [VRs] at h2
  obtain ⟨v', vs', h3, h4, _⟩ := h2
  simp at h3
  exact ⟨a, h1, by rw [h3.1]; exact h4⟩
end
theorem has_list {α : Type} {ts : List Ty} {f : α → List AV} (hf : ∀ cs, HasTs ts cs → ∃ x, cs = f x) {a : AV} (h : HasT (.sl ts) a) : ∃ (l : List α) (b : Bool), a = .lst ts.length (b && l.isEmpty) (l.map f) := by
  simp only [HasT] at h
  obtain ⟨nil, es, rfl, hn, hm, he⟩ := h
  have : ∃ l : List α, es = l.map f := by
    clear hn hm
    induction es with
    | nil => exact ⟨[], rfl⟩
    | cons e es ih =>
      obtain ⟨x, hx⟩ := hf e (he e (by simp))
      obtain ⟨l, hl⟩ := ih (fun e' h' => he e' (by simp [h']))
      exact ⟨x :: l, by simp [hx, hl]⟩
  obtain ⟨l, rfl⟩ := this
  refine ⟨l, nil, ?_⟩
  cases nil with
  | false => rfl
  | true =>
    have : l = [] := by simpa using hn rfl
    subst this; rfl
end Go.AM


namespace Go.AM
open Go.Proofs
set_option linter.unusedVariables false
set_option linter.unusedSimpArgs false
set_option linter.constructorNameAsVariable false
set_option maxRecDepth 20000
attribute [local congr] arithK_cg eqK_cg notK_cg convK_cg pickK_cg buildK_cg ldK_cg nilK_cg sliceK_cg faK_cg fldK_cg iaK_cg iaA_cg lookK_cg capK_cg exK_cg lenK_cg minK_cg maxK_cg effK_cg callK_cg callVK_cg effD_cg gopD_cg grpK_cg condK_cg cond_cg
theorem has_Msg {cs : List AV} (h : HasTs [.int .i64, .int .i64, .int .i64, .int .i64, .int .i64, .int .i64, .int .i64] cs) : ∃ p : Msg, cs = encM p := by
  simp only [HasTs, HasT] at h
  obtain ⟨_, _, rfl, ⟨a, rfl, _⟩, _, _, rfl, ⟨b, rfl, _⟩, _, _, rfl, ⟨c, rfl, _⟩, _, _, rfl, ⟨d, rfl, _⟩, _, _, rfl, ⟨e, rfl, _⟩, _, _, rfl, ⟨f, rfl, _⟩, _, _, rfl, ⟨g, rfl, _⟩, rfl⟩ := h
  exact ⟨⟨a, b, c, d, e, f, g⟩, rfl⟩
theorem has_Msgs {a : AV} (h : HasT (.sl [.int .i64, .int .i64, .int .i64, .int .i64, .int .i64, .int .i64, .int .i64]) a) : ∃ (l : List Msg) (b : Bool), a = SL 7 encM b l := has_list (fun _ h => has_Msg h) h
theorem xd0 {β : Type} (r : Docu × Int) (k : Go.AM.K β) : exK (tupD r) 0 k = k (.agg (encDo r.1)) := rfl
theorem xd1 {β : Type} (r : Docu × Int) (k : Go.AM.K β) : exK (tupD r) 1 k = k (I r.2) := rfl
end Go.AM


namespace Go.AM
open Go.Proofs
set_option linter.unusedVariables false
set_option linter.unusedSimpArgs false
set_option linter.constructorNameAsVariable false
set_option maxRecDepth 20000
end Go.AM

