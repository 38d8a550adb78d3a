import Derived.Test.YtjmoiabkdpaknaaG3
import Derived.Lib.Mul64
import Derived.Below
import Derived.ChangeOld
import Derived.Carry
import Derived.OpenShut
set_option linter.unusedSectionVars false
set_option linter.unusedVariables false
set_option linter.unusedSimpArgs false
set_option linter.constructorNameAsVariable false
namespace Go.AM
open Go.Proofs
set_option linter.unusedVariables false
set_option maxRecDepth 100000
theorem mixed : Try.prog.follows .mixedOrders = true := by kernel_rfl
theorem NN_ex : ∃ n : Nat, 1000000 ≤ n ∧ n < 4611686018427387904 := ⟨1000000, by omega, by omega⟩
noncomputable def NN : Nat := NN_ex.choose
theorem NN_ge : 1000000 ≤ NN := NN_ex.choose_spec.1
theorem NN_lt : NN < 4611686018427387904 := NN_ex.choose_spec.2
noncomputable def d_receipt_in : DTab := D0
theorem d_receipt_in_ok : DSound Try.prog d_receipt_in := DSound.zero
noncomputable def t_receipt_in : Tab := T0
theorem t_receipt_in_ok : TSound Try.prog t_receipt_in := TSound.zero
noncomputable def R_receipt_in : Fun := runF Try.prog t_receipt_in d_receipt_in NN [0, 1, 2, 6] Try.f41 3
theorem R_receipt_in_ok : CSound Try.prog 41 R_receipt_in := run_sound t_receipt_in_ok d_receipt_in_ok mixed Try.func41 (by kernel_rfl) NN
theorem R_receipt_in_eq {β : Type} (K : AV → Hp → Option β) (a0 : AV) (a1 : AV) (a2 : AV) (h : Hp) : (R_receipt_in [a0, a1, a2] h).bind (fun p => K p.1 p.2) = f_receipt_in Try.prog t_receipt_in d_receipt_in NN K a0 a1 a2 h := by
  rw [← f_receipt_in_run]; exact runF_bind rfl
noncomputable def F_receipt_in : Fun := closedX [.o, .o, .o] [.o] R_receipt_in
theorem F_receipt_in_ok : CSound Try.prog 41 F_receipt_in := closedX_sound _ _ R_receipt_in_ok
theorem F_receipt_in_run {a0 : AV} {a1 : AV} {a2 : AV} {v : AV} (ha : plains [a0, a1, a2] = true) (hv : f_receipt_in Try.prog t_receipt_in d_receipt_in NN (fun v g => cvt false g v) a0 a1 a2 [] = some v) (h : Hp) : F_receipt_in [a0, a1, a2] h = some (v, h) := by
  have e : (R_receipt_in (nrms [.o, .o, .o] [a0, a1, a2]) []).bind (fun (p : AV × Hp) => cvt false p.2 p.1) = some v := (R_receipt_in_eq (fun v g => cvt false g v) a0 a1 a2 []).trans hv
  exact (closedX_bind (shr := [.o]) ha e h).trans (congrArg (fun x => some (x, h)) (nrmR_rep 1 v))
noncomputable def d_receipt_Compare_1 : DTab := D0
theorem d_receipt_Compare_1_ok : DSound Try.prog d_receipt_Compare_1 := DSound.zero
noncomputable def t_receipt_Compare_1 : Tab := (updF T0 41 F_receipt_in)
theorem t_receipt_Compare_1_ok : TSound Try.prog t_receipt_Compare_1 := (TSound.upd TSound.zero F_receipt_in_ok)
@[simp] theorem t_receipt_Compare_1_41 : t_receipt_Compare_1 41 = some F_receipt_in := rfl
noncomputable def R_receipt_Compare_1 : Fun := runF Try.prog t_receipt_Compare_1 d_receipt_Compare_1 NN [0, 2] Try.f61 1
theorem R_receipt_Compare_1_ok : CSound Try.prog 61 R_receipt_Compare_1 := run_sound t_receipt_Compare_1_ok d_receipt_Compare_1_ok mixed Try.func61 (by kernel_rfl) NN
theorem R_receipt_Compare_1_eq {β : Type} (K : AV → Hp → Option β) (a0 : AV) (h : Hp) : (R_receipt_Compare_1 [a0] h).bind (fun p => K p.1 p.2) = f_receipt_Compare_1 Try.prog t_receipt_Compare_1 d_receipt_Compare_1 NN K a0 h := by
  rw [← f_receipt_Compare_1_run]; exact runF_bind rfl
noncomputable def F_receipt_Compare_1 : Fun := closedX [.o] [.o] R_receipt_Compare_1
theorem F_receipt_Compare_1_ok : CSound Try.prog 61 F_receipt_Compare_1 := closedX_sound _ _ R_receipt_Compare_1_ok
theorem F_receipt_Compare_1_run {a0 : AV} {v : AV} (ha : plains [a0] = true) (hv : f_receipt_Compare_1 Try.prog t_receipt_Compare_1 d_receipt_Compare_1 NN (fun v g => cvt false g v) a0 [] = some v) (h : Hp) : F_receipt_Compare_1 [a0] h = some (v, h) := by
  have e : (R_receipt_Compare_1 (nrms [.o] [a0]) []).bind (fun (p : AV × Hp) => cvt false p.2 p.1) = some v := (R_receipt_Compare_1_eq (fun v g => cvt false g v) a0 []).trans hv
  exact (closedX_bind (shr := [.o]) ha e h).trans (congrArg (fun x => some (x, h)) (nrmR_rep 1 v))
noncomputable def d_slices_IndexFunc_int__receipt_Compare_1 : DTab := D0
theorem d_slices_IndexFunc_int__receipt_Compare_1_ok : DSound Try.prog d_slices_IndexFunc_int__receipt_Compare_1 := DSound.zero
noncomputable def t_slices_IndexFunc_int__receipt_Compare_1 : Tab := (updF T0 61 F_receipt_Compare_1)
theorem t_slices_IndexFunc_int__receipt_Compare_1_ok : TSound Try.prog t_slices_IndexFunc_int__receipt_Compare_1 := (TSound.upd TSound.zero F_receipt_Compare_1_ok)
@[simp] theorem t_slices_IndexFunc_int__receipt_Compare_1_61 : t_slices_IndexFunc_int__receipt_Compare_1 61 = some F_receipt_Compare_1 := rfl
noncomputable def R_slices_IndexFunc_int__receipt_Compare_1 : Fun := runF Try.prog t_slices_IndexFunc_int__receipt_Compare_1 d_slices_IndexFunc_int__receipt_Compare_1 NN [0, 1, 4, 5, 7, 8, 9, 16] Try.f68 2
theorem R_slices_IndexFunc_int__receipt_Compare_1_ok : CSound Try.prog 68 R_slices_IndexFunc_int__receipt_Compare_1 := run_sound t_slices_IndexFunc_int__receipt_Compare_1_ok d_slices_IndexFunc_int__receipt_Compare_1_ok mixed Try.func68 (by kernel_rfl) NN
theorem R_slices_IndexFunc_int__receipt_Compare_1_eq {β : Type} (K : AV → Hp → Option β) (a0 : AV) (a1 : AV) (h : Hp) : (R_slices_IndexFunc_int__receipt_Compare_1 [a0, a1] h).bind (fun p => K p.1 p.2) = f_slices_IndexFunc_int Try.prog t_slices_IndexFunc_int__receipt_Compare_1 d_slices_IndexFunc_int__receipt_Compare_1 NN K a0 a1 h := by
  rw [← f_slices_IndexFunc_int_run]; exact runF_bind rfl
noncomputable def F_slices_IndexFunc_int__receipt_Compare_1 : Fun := closedX [.l 1, .o] [.o] R_slices_IndexFunc_int__receipt_Compare_1
theorem F_slices_IndexFunc_int__receipt_Compare_1_ok : CSound Try.prog 68 F_slices_IndexFunc_int__receipt_Compare_1 := closedX_sound _ _ R_slices_IndexFunc_int__receipt_Compare_1_ok
theorem F_slices_IndexFunc_int__receipt_Compare_1_run {a0 : AV} {a1 : AV} {v : AV} (ha : plains [a0, a1] = true) (hv : f_slices_IndexFunc_int Try.prog t_slices_IndexFunc_int__receipt_Compare_1 d_slices_IndexFunc_int__receipt_Compare_1 NN (fun v g => cvt false g v) (nrm (.l 1) a0) a1 [] = some v) (h : Hp) : F_slices_IndexFunc_int__receipt_Compare_1 [a0, a1] h = some (v, h) := by
  have e : (R_slices_IndexFunc_int__receipt_Compare_1 (nrms [.l 1, .o] [a0, a1]) []).bind (fun (p : AV × Hp) => cvt false p.2 p.1) = some v := (R_slices_IndexFunc_int__receipt_Compare_1_eq (fun v g => cvt false g v) (nrm (.l 1) a0) a1 []).trans hv
  exact (closedX_bind (shr := [.o]) ha e h).trans (congrArg (fun x => some (x, h)) (nrmR_rep 1 v))
noncomputable def d_slices_ContainsFunc_int__receipt_Compare_1 : DTab := D0
theorem d_slices_ContainsFunc_int__receipt_Compare_1_ok : DSound Try.prog d_slices_ContainsFunc_int__receipt_Compare_1 := DSound.zero
noncomputable def t_slices_ContainsFunc_int__receipt_Compare_1 : Tab := (updF T0 68 F_slices_IndexFunc_int__receipt_Compare_1)
theorem t_slices_ContainsFunc_int__receipt_Compare_1_ok : TSound Try.prog t_slices_ContainsFunc_int__receipt_Compare_1 := (TSound.upd TSound.zero F_slices_IndexFunc_int__receipt_Compare_1_ok)
@[simp] theorem t_slices_ContainsFunc_int__receipt_Compare_1_68 : t_slices_ContainsFunc_int__receipt_Compare_1 68 = some F_slices_IndexFunc_int__receipt_Compare_1 := rfl
noncomputable def R_slices_ContainsFunc_int__receipt_Compare_1 : Fun := runF Try.prog t_slices_ContainsFunc_int__receipt_Compare_1 d_slices_ContainsFunc_int__receipt_Compare_1 NN [0, 1, 4] Try.f55 2
theorem R_slices_ContainsFunc_int__receipt_Compare_1_ok : CSound Try.prog 55 R_slices_ContainsFunc_int__receipt_Compare_1 := run_sound t_slices_ContainsFunc_int__receipt_Compare_1_ok d_slices_ContainsFunc_int__receipt_Compare_1_ok mixed Try.func55 (by kernel_rfl) NN
theorem R_slices_ContainsFunc_int__receipt_Compare_1_eq {β : Type} (K : AV → Hp → Option β) (a0 : AV) (a1 : AV) (h : Hp) : (R_slices_ContainsFunc_int__receipt_Compare_1 [a0, a1] h).bind (fun p => K p.1 p.2) = f_slices_ContainsFunc_int Try.prog t_slices_ContainsFunc_int__receipt_Compare_1 d_slices_ContainsFunc_int__receipt_Compare_1 NN K a0 a1 h := by
  rw [← f_slices_ContainsFunc_int_run]; exact runF_bind rfl
noncomputable def F_slices_ContainsFunc_int__receipt_Compare_1 : Fun := closedX [.l 1, .o] [.o] R_slices_ContainsFunc_int__receipt_Compare_1
theorem F_slices_ContainsFunc_int__receipt_Compare_1_ok : CSound Try.prog 55 F_slices_ContainsFunc_int__receipt_Compare_1 := closedX_sound _ _ R_slices_ContainsFunc_int__receipt_Compare_1_ok
theorem F_slices_ContainsFunc_int__receipt_Compare_1_run {a0 : AV} {a1 : AV} {v : AV} (ha : plains [a0, a1] = true) (hv : f_slices_ContainsFunc_int Try.prog t_slices_ContainsFunc_int__receipt_Compare_1 d_slices_ContainsFunc_int__receipt_Compare_1 NN (fun v g => cvt false g v) (nrm (.l 1) a0) a1 [] = some v) (h : Hp) : F_slices_ContainsFunc_int__receipt_Compare_1 [a0, a1] h = some (v, h) := by
  have e : (R_slices_ContainsFunc_int__receipt_Compare_1 (nrms [.l 1, .o] [a0, a1]) []).bind (fun (p : AV × Hp) => cvt false p.2 p.1) = some v := (R_slices_ContainsFunc_int__receipt_Compare_1_eq (fun v g => cvt false g v) (nrm (.l 1) a0) a1 []).trans hv
  exact (closedX_bind (shr := [.o]) ha e h).trans (congrArg (fun x => some (x, h)) (nrmR_rep 1 v))
noncomputable def d_receipt_Check : DTab := D0
theorem d_receipt_Check_ok : DSound Try.prog d_receipt_Check := DSound.zero
noncomputable def t_receipt_Check : Tab := (updF T0 41 F_receipt_in)
theorem t_receipt_Check_ok : TSound Try.prog t_receipt_Check := (TSound.upd TSound.zero F_receipt_in_ok)
@[simp] theorem t_receipt_Check_41 : t_receipt_Check 41 = some F_receipt_in := rfl
noncomputable def R_receipt_Check : Fun := runF Try.prog t_receipt_Check d_receipt_Check NN [0, 2, 3, 4, 5, 8, 9, 10, 11, 12, 16, 34] Try.f13 1
theorem R_receipt_Check_ok : CSound Try.prog 13 R_receipt_Check := run_sound t_receipt_Check_ok d_receipt_Check_ok mixed Try.func13 (by kernel_rfl) NN
theorem R_receipt_Check_eq {β : Type} (K : AV → Hp → Option β) (a0 : AV) (h : Hp) : (R_receipt_Check [a0] h).bind (fun p => K p.1 p.2) = f_receipt_Check Try.prog t_receipt_Check d_receipt_Check NN K a0 h := by
  rw [← f_receipt_Check_run]; exact runF_bind rfl
noncomputable def F_receipt_Check : Fun := closedX [.l 3] [.o, .o] R_receipt_Check
theorem F_receipt_Check_ok : CSound Try.prog 13 F_receipt_Check := closedX_sound _ _ R_receipt_Check_ok
theorem F_receipt_Check_run {a0 : AV} {v : AV} (ha : plains [a0] = true) (hv : f_receipt_Check Try.prog t_receipt_Check d_receipt_Check NN (fun v g => cvt false g v) (nrm (.l 3) a0) [] = some v) (h : Hp) : F_receipt_Check [a0] h = some (v, h) := by
  have e : (R_receipt_Check (nrms [.l 3] [a0]) []).bind (fun (p : AV × Hp) => cvt false p.2 p.1) = some v := (R_receipt_Check_eq (fun v g => cvt false g v) (nrm (.l 3) a0) []).trans hv
  exact (closedX_bind (shr := [.o, .o]) ha e h).trans (congrArg (fun x => some (x, h)) (nrmR_rep 2 v))
noncomputable def d_receipt_right : DTab := D0
theorem d_receipt_right_ok : DSound Try.prog d_receipt_right := DSound.zero
noncomputable def t_receipt_right : Tab := (updF T0 13 F_receipt_Check)
theorem t_receipt_right_ok : TSound Try.prog t_receipt_right := (TSound.upd TSound.zero F_receipt_Check_ok)
@[simp] theorem t_receipt_right_13 : t_receipt_right 13 = some F_receipt_Check := rfl
noncomputable def R_receipt_right : Fun := runF Try.prog t_receipt_right d_receipt_right NN [0, 2, 4] Try.f60 1
theorem R_receipt_right_ok : CSound Try.prog 60 R_receipt_right := run_sound t_receipt_right_ok d_receipt_right_ok mixed Try.func60 (by kernel_rfl) NN
theorem R_receipt_right_eq {β : Type} (K : AV → Hp → Option β) (a0 : AV) (h : Hp) : (R_receipt_right [a0] h).bind (fun p => K p.1 p.2) = f_receipt_right Try.prog t_receipt_right d_receipt_right NN K a0 h := by
  rw [← f_receipt_right_run]; exact runF_bind rfl
noncomputable def F_receipt_right : Fun := closedX [.l 3] [.o] R_receipt_right
theorem F_receipt_right_ok : CSound Try.prog 60 F_receipt_right := closedX_sound _ _ R_receipt_right_ok
theorem F_receipt_right_run {a0 : AV} {v : AV} (ha : plains [a0] = true) (hv : f_receipt_right Try.prog t_receipt_right d_receipt_right NN (fun v g => cvt false g v) (nrm (.l 3) a0) [] = some v) (h : Hp) : F_receipt_right [a0] h = some (v, h) := by
  have e : (R_receipt_right (nrms [.l 3] [a0]) []).bind (fun (p : AV × Hp) => cvt false p.2 p.1) = some v := (R_receipt_right_eq (fun v g => cvt false g v) (nrm (.l 3) a0) []).trans hv
  exact (closedX_bind (shr := [.o]) ha e h).trans (congrArg (fun x => some (x, h)) (nrmR_rep 1 v))
noncomputable def d_receipt_merged_1 : DTab := D0
theorem d_receipt_merged_1_ok : DSound Try.prog d_receipt_merged_1 := DSound.zero
noncomputable def t_receipt_merged_1 : Tab := T0
theorem t_receipt_merged_1_ok : TSound Try.prog t_receipt_merged_1 := TSound.zero
noncomputable def R_receipt_merged_1 : Fun := runF Try.prog t_receipt_merged_1 d_receipt_merged_1 NN [0, 1, 2, 4, 5, 6, 7, 8, 9, 19, 66, 71, 76, 79, 86] Try.f69 3
theorem R_receipt_merged_1_ok : CSound Try.prog 69 R_receipt_merged_1 := run_sound t_receipt_merged_1_ok d_receipt_merged_1_ok mixed Try.func69 (by kernel_rfl) NN
noncomputable def F_receipt_merged_1 : Fun := quietT R_receipt_merged_1
theorem F_receipt_merged_1_ok : CSound Try.prog 69 F_receipt_merged_1 := quietT_sound R_receipt_merged_1_ok
noncomputable def d_receipt_merged : DTab := D0
theorem d_receipt_merged_ok : DSound Try.prog d_receipt_merged := DSound.zero
noncomputable def t_receipt_merged : Tab := (updF T0 69 F_receipt_merged_1)
theorem t_receipt_merged_ok : TSound Try.prog t_receipt_merged := (TSound.upd TSound.zero F_receipt_merged_1_ok)
@[simp] theorem t_receipt_merged_69 : t_receipt_merged 69 = some F_receipt_merged_1 := rfl
noncomputable def R_receipt_merged : Fun := runF Try.prog t_receipt_merged d_receipt_merged NN [0, 1, 2, 3, 4] Try.f62 2
theorem R_receipt_merged_ok : CSound Try.prog 62 R_receipt_merged := run_sound t_receipt_merged_ok d_receipt_merged_ok mixed Try.func62 (by kernel_rfl) NN
theorem R_receipt_merged_eq {β : Type} (K : AV → Hp → Option β) (a0 : AV) (a1 : AV) (h : Hp) : (R_receipt_merged [a0, a1] h).bind (fun p => K p.1 p.2) = f_receipt_merged Try.prog t_receipt_merged d_receipt_merged NN K a0 a1 h := by
  rw [← f_receipt_merged_run]; exact runF_bind rfl
noncomputable def F_receipt_merged : Fun := R_receipt_merged
theorem F_receipt_merged_ok : CSound Try.prog 62 F_receipt_merged := R_receipt_merged_ok
theorem F_receipt_merged_raw (a0 : AV) (a1 : AV) (h : Hp) : F_receipt_merged [a0, a1] h = f_receipt_merged Try.prog t_receipt_merged d_receipt_merged NN (fun v h => some (v, h)) a0 a1 h := (bind_pair _).symm.trans (R_receipt_merged_eq (fun v h => some (v, h)) a0 a1 h)
noncomputable def d_proportion_amount : DTab := D0
theorem d_proportion_amount_ok : DSound Try.prog d_proportion_amount := DSound.zero
noncomputable def t_proportion_amount : Tab := T0
theorem t_proportion_amount_ok : TSound Try.prog t_proportion_amount := TSound.zero
noncomputable def R_proportion_amount : Fun := runF Try.prog t_proportion_amount d_proportion_amount NN [0, 2] Try.f77 1
theorem R_proportion_amount_ok : CSound Try.prog 77 R_proportion_amount := run_sound t_proportion_amount_ok d_proportion_amount_ok mixed Try.func77 (by kernel_rfl) NN
theorem R_proportion_amount_eq {β : Type} (K : AV → Hp → Option β) (a0 : AV) (h : Hp) : (R_proportion_amount [a0] h).bind (fun p => K p.1 p.2) = f_proportion_amount Try.prog t_proportion_amount d_proportion_amount NN K a0 h := by
  rw [← f_proportion_amount_run]; exact runF_bind rfl
noncomputable def F_proportion_amount : Fun := closedX [.o] [.o] R_proportion_amount
theorem F_proportion_amount_ok : CSound Try.prog 77 F_proportion_amount := closedX_sound _ _ R_proportion_amount_ok
theorem F_proportion_amount_run {a0 : AV} {v : AV} (ha : plains [a0] = true) (hv : f_proportion_amount Try.prog t_proportion_amount d_proportion_amount NN (fun v g => cvt false g v) a0 [] = some v) (h : Hp) : F_proportion_amount [a0] h = some (v, h) := by
  have e : (R_proportion_amount (nrms [.o] [a0]) []).bind (fun (p : AV × Hp) => cvt false p.2 p.1) = some v := (R_proportion_amount_eq (fun v g => cvt false g v) a0 []).trans hv
  exact (closedX_bind (shr := [.o]) ha e h).trans (congrArg (fun x => some (x, h)) (nrmR_rep 1 v))
noncomputable def d_proportion_amounts_1 : DTab := D0
theorem d_proportion_amounts_1_ok : DSound Try.prog d_proportion_amounts_1 := DSound.zero
noncomputable def t_proportion_amounts_1 : Tab := (updF T0 77 F_proportion_amount)
theorem t_proportion_amounts_1_ok : TSound Try.prog t_proportion_amounts_1 := (TSound.upd TSound.zero F_proportion_amount_ok)
@[simp] theorem t_proportion_amounts_1_77 : t_proportion_amounts_1 77 = some F_proportion_amount := rfl
noncomputable def R_proportion_amounts_1 : Fun := runF Try.prog t_proportion_amounts_1 d_proportion_amounts_1 NN [0, 2] Try.f76 1
theorem R_proportion_amounts_1_ok : CSound Try.prog 76 R_proportion_amounts_1 := run_sound t_proportion_amounts_1_ok d_proportion_amounts_1_ok mixed Try.func76 (by kernel_rfl) NN
theorem R_proportion_amounts_1_eq {β : Type} (K : AV → Hp → Option β) (a0 : AV) (h : Hp) : (R_proportion_amounts_1 [a0] h).bind (fun p => K p.1 p.2) = f_proportion_amounts_1 Try.prog t_proportion_amounts_1 d_proportion_amounts_1 NN K a0 h := by
  rw [← f_proportion_amounts_1_run]; exact runF_bind rfl
noncomputable def F_proportion_amounts_1 : Fun := closedX [.o] [.o] R_proportion_amounts_1
theorem F_proportion_amounts_1_ok : CSound Try.prog 76 F_proportion_amounts_1 := closedX_sound _ _ R_proportion_amounts_1_ok
theorem F_proportion_amounts_1_run {a0 : AV} {v : AV} (ha : plains [a0] = true) (hv : f_proportion_amounts_1 Try.prog t_proportion_amounts_1 d_proportion_amounts_1 NN (fun v g => cvt false g v) a0 [] = some v) (h : Hp) : F_proportion_amounts_1 [a0] h = some (v, h) := by
  have e : (R_proportion_amounts_1 (nrms [.o] [a0]) []).bind (fun (p : AV × Hp) => cvt false p.2 p.1) = some v := (R_proportion_amounts_1_eq (fun v g => cvt false g v) a0 []).trans hv
  exact (closedX_bind (shr := [.o]) ha e h).trans (congrArg (fun x => some (x, h)) (nrmR_rep 1 v))
noncomputable def d_slices_IndexFunc_int__proportion_amounts_1 : DTab := D0
theorem d_slices_IndexFunc_int__proportion_amounts_1_ok : DSound Try.prog d_slices_IndexFunc_int__proportion_amounts_1 := DSound.zero
noncomputable def t_slices_IndexFunc_int__proportion_amounts_1 : Tab := (updF T0 76 F_proportion_amounts_1)
theorem t_slices_IndexFunc_int__proportion_amounts_1_ok : TSound Try.prog t_slices_IndexFunc_int__proportion_amounts_1 := (TSound.upd TSound.zero F_proportion_amounts_1_ok)
@[simp] theorem t_slices_IndexFunc_int__proportion_amounts_1_76 : t_slices_IndexFunc_int__proportion_amounts_1 76 = some F_proportion_amounts_1 := rfl
noncomputable def R_slices_IndexFunc_int__proportion_amounts_1 : Fun := runF Try.prog t_slices_IndexFunc_int__proportion_amounts_1 d_slices_IndexFunc_int__proportion_amounts_1 NN [0, 1, 4, 5, 7, 8, 9, 16] Try.f68 2
theorem R_slices_IndexFunc_int__proportion_amounts_1_ok : CSound Try.prog 68 R_slices_IndexFunc_int__proportion_amounts_1 := run_sound t_slices_IndexFunc_int__proportion_amounts_1_ok d_slices_IndexFunc_int__proportion_amounts_1_ok mixed Try.func68 (by kernel_rfl) NN
theorem R_slices_IndexFunc_int__proportion_amounts_1_eq {β : Type} (K : AV → Hp → Option β) (a0 : AV) (a1 : AV) (h : Hp) : (R_slices_IndexFunc_int__proportion_amounts_1 [a0, a1] h).bind (fun p => K p.1 p.2) = f_slices_IndexFunc_int Try.prog t_slices_IndexFunc_int__proportion_amounts_1 d_slices_IndexFunc_int__proportion_amounts_1 NN K a0 a1 h := by
  rw [← f_slices_IndexFunc_int_run]; exact runF_bind rfl
noncomputable def F_slices_IndexFunc_int__proportion_amounts_1 : Fun := closedX [.l 1, .o] [.o] R_slices_IndexFunc_int__proportion_amounts_1
theorem F_slices_IndexFunc_int__proportion_amounts_1_ok : CSound Try.prog 68 F_slices_IndexFunc_int__proportion_amounts_1 := closedX_sound _ _ R_slices_IndexFunc_int__proportion_amounts_1_ok
theorem F_slices_IndexFunc_int__proportion_amounts_1_run {a0 : AV} {a1 : AV} {v : AV} (ha : plains [a0, a1] = true) (hv : f_slices_IndexFunc_int Try.prog t_slices_IndexFunc_int__proportion_amounts_1 d_slices_IndexFunc_int__proportion_amounts_1 NN (fun v g => cvt false g v) (nrm (.l 1) a0) a1 [] = some v) (h : Hp) : F_slices_IndexFunc_int__proportion_amounts_1 [a0, a1] h = some (v, h) := by
  have e : (R_slices_IndexFunc_int__proportion_amounts_1 (nrms [.l 1, .o] [a0, a1]) []).bind (fun (p : AV × Hp) => cvt false p.2 p.1) = some v := (R_slices_IndexFunc_int__proportion_amounts_1_eq (fun v g => cvt false g v) (nrm (.l 1) a0) a1 []).trans hv
  exact (closedX_bind (shr := [.o]) ha e h).trans (congrArg (fun x => some (x, h)) (nrmR_rep 1 v))
noncomputable def d_slices_ContainsFunc_int__proportion_amounts_1 : DTab := D0
theorem d_slices_ContainsFunc_int__proportion_amounts_1_ok : DSound Try.prog d_slices_ContainsFunc_int__proportion_amounts_1 := DSound.zero
noncomputable def t_slices_ContainsFunc_int__proportion_amounts_1 : Tab := (updF T0 68 F_slices_IndexFunc_int__proportion_amounts_1)
theorem t_slices_ContainsFunc_int__proportion_amounts_1_ok : TSound Try.prog t_slices_ContainsFunc_int__proportion_amounts_1 := (TSound.upd TSound.zero F_slices_IndexFunc_int__proportion_amounts_1_ok)
@[simp] theorem t_slices_ContainsFunc_int__proportion_amounts_1_68 : t_slices_ContainsFunc_int__proportion_amounts_1 68 = some F_slices_IndexFunc_int__proportion_amounts_1 := rfl
noncomputable def R_slices_ContainsFunc_int__proportion_amounts_1 : Fun := runF Try.prog t_slices_ContainsFunc_int__proportion_amounts_1 d_slices_ContainsFunc_int__proportion_amounts_1 NN [0, 1, 4] Try.f55 2
theorem R_slices_ContainsFunc_int__proportion_amounts_1_ok : CSound Try.prog 55 R_slices_ContainsFunc_int__proportion_amounts_1 := run_sound t_slices_ContainsFunc_int__proportion_amounts_1_ok d_slices_ContainsFunc_int__proportion_amounts_1_ok mixed Try.func55 (by kernel_rfl) NN
theorem R_slices_ContainsFunc_int__proportion_amounts_1_eq {β : Type} (K : AV → Hp → Option β) (a0 : AV) (a1 : AV) (h : Hp) : (R_slices_ContainsFunc_int__proportion_amounts_1 [a0, a1] h).bind (fun p => K p.1 p.2) = f_slices_ContainsFunc_int Try.prog t_slices_ContainsFunc_int__proportion_amounts_1 d_slices_ContainsFunc_int__proportion_amounts_1 NN K a0 a1 h := by
  rw [← f_slices_ContainsFunc_int_run]; exact runF_bind rfl
noncomputable def F_slices_ContainsFunc_int__proportion_amounts_1 : Fun := closedX [.l 1, .o] [.o] R_slices_ContainsFunc_int__proportion_amounts_1
theorem F_slices_ContainsFunc_int__proportion_amounts_1_ok : CSound Try.prog 55 F_slices_ContainsFunc_int__proportion_amounts_1 := closedX_sound _ _ R_slices_ContainsFunc_int__proportion_amounts_1_ok
theorem F_slices_ContainsFunc_int__proportion_amounts_1_run {a0 : AV} {a1 : AV} {v : AV} (ha : plains [a0, a1] = true) (hv : f_slices_ContainsFunc_int Try.prog t_slices_ContainsFunc_int__proportion_amounts_1 d_slices_ContainsFunc_int__proportion_amounts_1 NN (fun v g => cvt false g v) (nrm (.l 1) a0) a1 [] = some v) (h : Hp) : F_slices_ContainsFunc_int__proportion_amounts_1 [a0, a1] h = some (v, h) := by
  have e : (R_slices_ContainsFunc_int__proportion_amounts_1 (nrms [.l 1, .o] [a0, a1]) []).bind (fun (p : AV × Hp) => cvt false p.2 p.1) = some v := (R_slices_ContainsFunc_int__proportion_amounts_1_eq (fun v g => cvt false g v) (nrm (.l 1) a0) a1 []).trans hv
  exact (closedX_bind (shr := [.o]) ha e h).trans (congrArg (fun x => some (x, h)) (nrmR_rep 1 v))
noncomputable def d_proportion_amounts : DTab := D0
theorem d_proportion_amounts_ok : DSound Try.prog d_proportion_amounts := DSound.zero
noncomputable def t_proportion_amounts : Tab := (updF (updF T0 55 F_slices_ContainsFunc_int__proportion_amounts_1) 76 F_proportion_amounts_1)
theorem t_proportion_amounts_ok : TSound Try.prog t_proportion_amounts := (TSound.upd (TSound.upd TSound.zero F_slices_ContainsFunc_int__proportion_amounts_1_ok) F_proportion_amounts_1_ok)
@[simp] theorem t_proportion_amounts_55 : t_proportion_amounts 55 = some F_slices_ContainsFunc_int__proportion_amounts_1 := rfl
@[simp] theorem t_proportion_amounts_76 : t_proportion_amounts 76 = some F_proportion_amounts_1 := rfl
noncomputable def R_proportion_amounts : Fun := runF Try.prog t_proportion_amounts d_proportion_amounts NN [0, 2] Try.f70 1
theorem R_proportion_amounts_ok : CSound Try.prog 70 R_proportion_amounts := run_sound t_proportion_amounts_ok d_proportion_amounts_ok mixed Try.func70 (by kernel_rfl) NN
theorem R_proportion_amounts_eq {β : Type} (K : AV → Hp → Option β) (a0 : AV) (h : Hp) : (R_proportion_amounts [a0] h).bind (fun p => K p.1 p.2) = f_proportion_amounts Try.prog t_proportion_amounts d_proportion_amounts NN K a0 h := by
  rw [← f_proportion_amounts_run]; exact runF_bind rfl
noncomputable def F_proportion_amounts : Fun := closedX [.l 1] [.o] R_proportion_amounts
theorem F_proportion_amounts_ok : CSound Try.prog 70 F_proportion_amounts := closedX_sound _ _ R_proportion_amounts_ok
theorem F_proportion_amounts_run {a0 : AV} {v : AV} (ha : plains [a0] = true) (hv : f_proportion_amounts Try.prog t_proportion_amounts d_proportion_amounts NN (fun v g => cvt false g v) (nrm (.l 1) a0) [] = some v) (h : Hp) : F_proportion_amounts [a0] h = some (v, h) := by
  have e : (R_proportion_amounts (nrms [.l 1] [a0]) []).bind (fun (p : AV × Hp) => cvt false p.2 p.1) = some v := (R_proportion_amounts_eq (fun v g => cvt false g v) (nrm (.l 1) a0) []).trans hv
  exact (closedX_bind (shr := [.o]) ha e h).trans (congrArg (fun x => some (x, h)) (nrmR_rep 1 v))
noncomputable def d_bits_Mul64 : DTab := D0
theorem d_bits_Mul64_ok : DSound Try.prog d_bits_Mul64 := DSound.zero
noncomputable def t_bits_Mul64 : Tab := T0
theorem t_bits_Mul64_ok : TSound Try.prog t_bits_Mul64 := TSound.zero
noncomputable def R_bits_Mul64 : Fun := runF Try.prog t_bits_Mul64 d_bits_Mul64 NN [0, 1, 4, 5, 6, 7, 8, 9, 10, 11, 12, 13] Try.f81 2
theorem R_bits_Mul64_ok : CSound Try.prog 81 R_bits_Mul64 := run_sound t_bits_Mul64_ok d_bits_Mul64_ok mixed Try.func81 (by kernel_rfl) NN
theorem R_bits_Mul64_eq {β : Type} (K : AV → Hp → Option β) (a0 : AV) (a1 : AV) (h : Hp) : (R_bits_Mul64 [a0, a1] h).bind (fun p => K p.1 p.2) = f_bits_Mul64 Try.prog t_bits_Mul64 d_bits_Mul64 NN K a0 a1 h := by
  rw [← f_bits_Mul64_run]; exact runF_bind rfl
noncomputable def F_bits_Mul64 : Fun := closedX [.o, .o] [.o, .o] R_bits_Mul64
theorem F_bits_Mul64_ok : CSound Try.prog 81 F_bits_Mul64 := closedX_sound _ _ R_bits_Mul64_ok
theorem F_bits_Mul64_run {a0 : AV} {a1 : AV} {v : AV} (ha : plains [a0, a1] = true) (hv : f_bits_Mul64 Try.prog t_bits_Mul64 d_bits_Mul64 NN (fun v g => cvt false g v) a0 a1 [] = some v) (h : Hp) : F_bits_Mul64 [a0, a1] h = some (v, h) := by
  have e : (R_bits_Mul64 (nrms [.o, .o] [a0, a1]) []).bind (fun (p : AV × Hp) => cvt false p.2 p.1) = some v := (R_bits_Mul64_eq (fun v g => cvt false g v) a0 a1 []).trans hv
  exact (closedX_bind (shr := [.o, .o]) ha e h).trans (congrArg (fun x => some (x, h)) (nrmR_rep 2 v))
noncomputable def d_proportion_product : DTab := D0
theorem d_proportion_product_ok : DSound Try.prog d_proportion_product := DSound.zero
noncomputable def t_proportion_product : Tab := (updF T0 81 F_bits_Mul64)
theorem t_proportion_product_ok : TSound Try.prog t_proportion_product := (TSound.upd TSound.zero F_bits_Mul64_ok)
@[simp] theorem t_proportion_product_81 : t_proportion_product 81 = some F_bits_Mul64 := rfl
noncomputable def R_proportion_product : Fun := runF Try.prog t_proportion_product d_proportion_product NN [0, 1, 4, 5, 6] Try.f78 2
theorem R_proportion_product_ok : CSound Try.prog 78 R_proportion_product := run_sound t_proportion_product_ok d_proportion_product_ok mixed Try.func78 (by kernel_rfl) NN
theorem R_proportion_product_eq {β : Type} (K : AV → Hp → Option β) (a0 : AV) (a1 : AV) (h : Hp) : (R_proportion_product [a0, a1] h).bind (fun p => K p.1 p.2) = f_proportion_product Try.prog t_proportion_product d_proportion_product NN K a0 a1 h := by
  rw [← f_proportion_product_run]; exact runF_bind rfl
noncomputable def F_proportion_product : Fun := closedX [.o, .o] [.o] R_proportion_product
theorem F_proportion_product_ok : CSound Try.prog 78 F_proportion_product := closedX_sound _ _ R_proportion_product_ok
theorem F_proportion_product_run {a0 : AV} {a1 : AV} {v : AV} (ha : plains [a0, a1] = true) (hv : f_proportion_product Try.prog t_proportion_product d_proportion_product NN (fun v g => cvt false g v) a0 a1 [] = some v) (h : Hp) : F_proportion_product [a0, a1] h = some (v, h) := by
  have e : (R_proportion_product (nrms [.o, .o] [a0, a1]) []).bind (fun (p : AV × Hp) => cvt false p.2 p.1) = some v := (R_proportion_product_eq (fun v g => cvt false g v) a0 a1 []).trans hv
  exact (closedX_bind (shr := [.o]) ha e h).trans (congrArg (fun x => some (x, h)) (nrmR_rep 1 v))
noncomputable def d_bits_Len64 : DTab := D0
theorem d_bits_Len64_ok : DSound Try.prog d_bits_Len64 := DSound.zero
noncomputable def t_bits_Len64 : Tab := T0
theorem t_bits_Len64_ok : TSound Try.prog t_bits_Len64 := TSound.zero
noncomputable def R_bits_Len64 : Fun := runF Try.prog t_bits_Len64 d_bits_Len64 NN [0, 2, 4, 8, 14] Try.f83 1
theorem R_bits_Len64_ok : CSound Try.prog 83 R_bits_Len64 := run_sound t_bits_Len64_ok d_bits_Len64_ok mixed Try.func83 (by kernel_rfl) NN
theorem R_bits_Len64_eq {β : Type} (K : AV → Hp → Option β) (a0 : AV) (h : Hp) : (R_bits_Len64 [a0] h).bind (fun p => K p.1 p.2) = f_bits_Len64 Try.prog t_bits_Len64 d_bits_Len64 NN K a0 h := by
  rw [← f_bits_Len64_run]; exact runF_bind rfl
noncomputable def F_bits_Len64 : Fun := closedX [.o] [.o] R_bits_Len64
theorem F_bits_Len64_ok : CSound Try.prog 83 F_bits_Len64 := closedX_sound _ _ R_bits_Len64_ok
theorem F_bits_Len64_run {a0 : AV} {v : AV} (ha : plains [a0] = true) (hv : f_bits_Len64 Try.prog t_bits_Len64 d_bits_Len64 NN (fun v g => cvt false g v) a0 [] = some v) (h : Hp) : F_bits_Len64 [a0] h = some (v, h) := by
  have e : (R_bits_Len64 (nrms [.o] [a0]) []).bind (fun (p : AV × Hp) => cvt false p.2 p.1) = some v := (R_bits_Len64_eq (fun v g => cvt false g v) a0 []).trans hv
  exact (closedX_bind (shr := [.o]) ha e h).trans (congrArg (fun x => some (x, h)) (nrmR_rep 1 v))
noncomputable def d_bits_LeadingZeros64 : DTab := D0
theorem d_bits_LeadingZeros64_ok : DSound Try.prog d_bits_LeadingZeros64 := DSound.zero
noncomputable def t_bits_LeadingZeros64 : Tab := (updF T0 83 F_bits_Len64)
theorem t_bits_LeadingZeros64_ok : TSound Try.prog t_bits_LeadingZeros64 := (TSound.upd TSound.zero F_bits_Len64_ok)
@[simp] theorem t_bits_LeadingZeros64_83 : t_bits_LeadingZeros64 83 = some F_bits_Len64 := rfl
noncomputable def R_bits_LeadingZeros64 : Fun := runF Try.prog t_bits_LeadingZeros64 d_bits_LeadingZeros64 NN [0, 2] Try.f82 1
theorem R_bits_LeadingZeros64_ok : CSound Try.prog 82 R_bits_LeadingZeros64 := run_sound t_bits_LeadingZeros64_ok d_bits_LeadingZeros64_ok mixed Try.func82 (by kernel_rfl) NN
theorem R_bits_LeadingZeros64_eq {β : Type} (K : AV → Hp → Option β) (a0 : AV) (h : Hp) : (R_bits_LeadingZeros64 [a0] h).bind (fun p => K p.1 p.2) = f_bits_LeadingZeros64 Try.prog t_bits_LeadingZeros64 d_bits_LeadingZeros64 NN K a0 h := by
  rw [← f_bits_LeadingZeros64_run]; exact runF_bind rfl
noncomputable def F_bits_LeadingZeros64 : Fun := closedX [.o] [.o] R_bits_LeadingZeros64
theorem F_bits_LeadingZeros64_ok : CSound Try.prog 82 F_bits_LeadingZeros64 := closedX_sound _ _ R_bits_LeadingZeros64_ok
theorem F_bits_LeadingZeros64_run {a0 : AV} {v : AV} (ha : plains [a0] = true) (hv : f_bits_LeadingZeros64 Try.prog t_bits_LeadingZeros64 d_bits_LeadingZeros64 NN (fun v g => cvt false g v) a0 [] = some v) (h : Hp) : F_bits_LeadingZeros64 [a0] h = some (v, h) := by
  have e : (R_bits_LeadingZeros64 (nrms [.o] [a0]) []).bind (fun (p : AV × Hp) => cvt false p.2 p.1) = some v := (R_bits_LeadingZeros64_eq (fun v g => cvt false g v) a0 []).trans hv
  exact (closedX_bind (shr := [.o]) ha e h).trans (congrArg (fun x => some (x, h)) (nrmR_rep 1 v))
noncomputable def d_bits_Div64 : DTab := D0
theorem d_bits_Div64_ok : DSound Try.prog d_bits_Div64 := DSound.zero
noncomputable def t_bits_Div64 : Tab := (updF T0 82 F_bits_LeadingZeros64)
theorem t_bits_Div64_ok : TSound Try.prog t_bits_Div64 := (TSound.upd TSound.zero F_bits_LeadingZeros64_ok)
@[simp] theorem t_bits_Div64_82 : t_bits_Div64 82 = some F_bits_LeadingZeros64 := rfl
noncomputable def R_bits_Div64 : Fun := runF Try.prog t_bits_Div64 d_bits_Div64 NN [0, 1, 2, 6, 7, 8, 9, 10, 11, 12, 13, 14, 15, 16, 17, 18, 20, 24, 27, 78, 85, 113, 120] Try.f79 3
theorem R_bits_Div64_ok : CSound Try.prog 79 R_bits_Div64 := run_sound t_bits_Div64_ok d_bits_Div64_ok mixed Try.func79 (by kernel_rfl) NN
theorem R_bits_Div64_eq {β : Type} (K : AV → Hp → Option β) (a0 : AV) (a1 : AV) (a2 : AV) (h : Hp) : (R_bits_Div64 [a0, a1, a2] h).bind (fun p => K p.1 p.2) = f_bits_Div64 Try.prog t_bits_Div64 d_bits_Div64 NN K a0 a1 a2 h := by
  rw [← f_bits_Div64_run]; exact runF_bind rfl
noncomputable def F_bits_Div64 : Fun := closedX [.o, .o, .o] [.o, .o] R_bits_Div64
theorem F_bits_Div64_ok : CSound Try.prog 79 F_bits_Div64 := closedX_sound _ _ R_bits_Div64_ok
theorem F_bits_Div64_run {a0 : AV} {a1 : AV} {a2 : AV} {v : AV} (ha : plains [a0, a1, a2] = true) (hv : f_bits_Div64 Try.prog t_bits_Div64 d_bits_Div64 NN (fun v g => cvt false g v) a0 a1 a2 [] = some v) (h : Hp) : F_bits_Div64 [a0, a1, a2] h = some (v, h) := by
  have e : (R_bits_Div64 (nrms [.o, .o, .o] [a0, a1, a2]) []).bind (fun (p : AV × Hp) => cvt false p.2 p.1) = some v := (R_bits_Div64_eq (fun v g => cvt false g v) a0 a1 a2 []).trans hv
  exact (closedX_bind (shr := [.o, .o]) ha e h).trans (congrArg (fun x => some (x, h)) (nrmR_rep 2 v))
noncomputable def d_proportion_divided : DTab := D0
theorem d_proportion_divided_ok : DSound Try.prog d_proportion_divided := DSound.zero
noncomputable def t_proportion_divided : Tab := (updF (updF T0 78 F_proportion_product) 79 F_bits_Div64)
theorem t_proportion_divided_ok : TSound Try.prog t_proportion_divided := (TSound.upd (TSound.upd TSound.zero F_proportion_product_ok) F_bits_Div64_ok)
@[simp] theorem t_proportion_divided_78 : t_proportion_divided 78 = some F_proportion_product := rfl
@[simp] theorem t_proportion_divided_79 : t_proportion_divided 79 = some F_bits_Div64 := rfl
noncomputable def R_proportion_divided : Fun := runF Try.prog t_proportion_divided d_proportion_divided NN [0, 1, 2, 6, 7, 8, 9, 10, 11, 19, 31] Try.f71 3
theorem R_proportion_divided_ok : CSound Try.prog 71 R_proportion_divided := run_sound t_proportion_divided_ok d_proportion_divided_ok mixed Try.func71 (by kernel_rfl) NN
theorem R_proportion_divided_eq {β : Type} (K : AV → Hp → Option β) (a0 : AV) (a1 : AV) (a2 : AV) (h : Hp) : (R_proportion_divided [a0, a1, a2] h).bind (fun p => K p.1 p.2) = f_proportion_divided Try.prog t_proportion_divided d_proportion_divided NN K a0 a1 a2 h := by
  rw [← f_proportion_divided_run]; exact runF_bind rfl
noncomputable def F_proportion_divided : Fun := closedX [.o, .o, .o] [.o, .o, .o] R_proportion_divided
theorem F_proportion_divided_ok : CSound Try.prog 71 F_proportion_divided := closedX_sound _ _ R_proportion_divided_ok
theorem F_proportion_divided_run {a0 : AV} {a1 : AV} {a2 : AV} {v : AV} (ha : plains [a0, a1, a2] = true) (hv : f_proportion_divided Try.prog t_proportion_divided d_proportion_divided NN (fun v g => cvt false g v) a0 a1 a2 [] = some v) (h : Hp) : F_proportion_divided [a0, a1, a2] h = some (v, h) := by
  have e : (R_proportion_divided (nrms [.o, .o, .o] [a0, a1, a2]) []).bind (fun (p : AV × Hp) => cvt false p.2 p.1) = some v := (R_proportion_divided_eq (fun v g => cvt false g v) a0 a1 a2 []).trans hv
  exact (closedX_bind (shr := [.o, .o, .o]) ha e h).trans (congrArg (fun x => some (x, h)) (nrmR_rep 3 v))
noncomputable def d_proportion_Of : DTab := D0
theorem d_proportion_Of_ok : DSound Try.prog d_proportion_Of := DSound.zero
noncomputable def t_proportion_Of : Tab := (updF (updF T0 70 F_proportion_amounts) 71 F_proportion_divided)
theorem t_proportion_Of_ok : TSound Try.prog t_proportion_Of := (TSound.upd (TSound.upd TSound.zero F_proportion_amounts_ok) F_proportion_divided_ok)
@[simp] theorem t_proportion_Of_70 : t_proportion_Of 70 = some F_proportion_amounts := rfl
@[simp] theorem t_proportion_Of_71 : t_proportion_Of 71 = some F_proportion_divided := rfl
noncomputable def R_proportion_Of : Fun := runF Try.prog t_proportion_Of d_proportion_Of NN [0, 1, 2, 6, 7, 8, 9, 10, 11, 17, 19, 29] Try.f63 3
theorem R_proportion_Of_ok : CSound Try.prog 63 R_proportion_Of := run_sound t_proportion_Of_ok d_proportion_Of_ok mixed Try.func63 (by kernel_rfl) NN
theorem R_proportion_Of_eq {β : Type} (K : AV → Hp → Option β) (a0 : AV) (a1 : AV) (a2 : AV) (h : Hp) : (R_proportion_Of [a0, a1, a2] h).bind (fun p => K p.1 p.2) = f_proportion_Of Try.prog t_proportion_Of d_proportion_Of NN K a0 a1 a2 h := by
  rw [← f_proportion_Of_run]; exact runF_bind rfl
noncomputable def F_proportion_Of : Fun := closedX [.o, .o, .o] [.o, .o, .o] R_proportion_Of
theorem F_proportion_Of_ok : CSound Try.prog 63 F_proportion_Of := closedX_sound _ _ R_proportion_Of_ok
theorem F_proportion_Of_run {a0 : AV} {a1 : AV} {a2 : AV} {v : AV} (ha : plains [a0, a1, a2] = true) (hv : f_proportion_Of Try.prog t_proportion_Of d_proportion_Of NN (fun v g => cvt false g v) a0 a1 a2 [] = some v) (h : Hp) : F_proportion_Of [a0, a1, a2] h = some (v, h) := by
  have e : (R_proportion_Of (nrms [.o, .o, .o] [a0, a1, a2]) []).bind (fun (p : AV × Hp) => cvt false p.2 p.1) = some v := (R_proportion_Of_eq (fun v g => cvt false g v) a0 a1 a2 []).trans hv
  exact (closedX_bind (shr := [.o, .o, .o]) ha e h).trans (congrArg (fun x => some (x, h)) (nrmR_rep 3 v))
noncomputable def d_loss_amount : DTab := D0
theorem d_loss_amount_ok : DSound Try.prog d_loss_amount := DSound.zero
noncomputable def t_loss_amount : Tab := T0
theorem t_loss_amount_ok : TSound Try.prog t_loss_amount := TSound.zero
noncomputable def R_loss_amount : Fun := runF Try.prog t_loss_amount d_loss_amount NN [0, 2, 4, 5, 6, 7, 8, 16] Try.f66 1
theorem R_loss_amount_ok : CSound Try.prog 66 R_loss_amount := run_sound t_loss_amount_ok d_loss_amount_ok mixed Try.func66 (by kernel_rfl) NN
theorem R_loss_amount_eq {β : Type} (K : AV → Hp → Option β) (a0 : AV) (h : Hp) : (R_loss_amount [a0] h).bind (fun p => K p.1 p.2) = f_loss_amount Try.prog t_loss_amount d_loss_amount NN K a0 h := by
  rw [← f_loss_amount_run]; exact runF_bind rfl
noncomputable def F_loss_amount : Fun := closedX [.l 1] [.o] R_loss_amount
theorem F_loss_amount_ok : CSound Try.prog 66 F_loss_amount := closedX_sound _ _ R_loss_amount_ok
theorem F_loss_amount_own {a0 : AV} {x0 : AV} {h : Hp} {v : AV} (ha : cvts false h [x0] = some [a0]) (hv : ∀ st, f_loss_amount Try.prog t_loss_amount d_loss_amount NN (fun v g => cvt st g v) (nrm (.l 1) a0) [] = some v) : F_loss_amount [x0] h = some (v, h) := by
  have e : ∀ st, (R_loss_amount (nrms [.l 1] [a0]) []).bind (fun (p : AV × Hp) => cvt st p.2 p.1) = some v := fun st => (R_loss_amount_eq (fun v g => cvt st g v) (nrm (.l 1) a0) []).trans (hv st)
  exact (closedX_ownB (shr := [.o]) ha e).trans (congrArg (fun x => some (x, h)) (nrmR_rep 1 v))
noncomputable def d_loss_split_1 : DTab := D0
theorem d_loss_split_1_ok : DSound Try.prog d_loss_split_1 := DSound.zero
noncomputable def t_loss_split_1 : Tab := T0
theorem t_loss_split_1_ok : TSound Try.prog t_loss_split_1 := TSound.zero
noncomputable def R_loss_split_1 : Fun := runF Try.prog t_loss_split_1 d_loss_split_1 NN [0, 1, 3, 4] Try.f80 2
theorem R_loss_split_1_ok : CSound Try.prog 80 R_loss_split_1 := run_sound t_loss_split_1_ok d_loss_split_1_ok mixed Try.func80 (by kernel_rfl) NN
theorem R_loss_split_1_eq {β : Type} (K : AV → Hp → Option β) (a0 : AV) (a1 : AV) (h : Hp) : (R_loss_split_1 [a0, a1] h).bind (fun p => K p.1 p.2) = f_loss_split_1 Try.prog t_loss_split_1 d_loss_split_1 NN K a0 a1 h := by
  rw [← f_loss_split_1_run]; exact runF_bind rfl
noncomputable def F_loss_split_1 : Fun := R_loss_split_1
theorem F_loss_split_1_ok : CSound Try.prog 80 F_loss_split_1 := R_loss_split_1_ok
theorem F_loss_split_1_raw (a0 : AV) (a1 : AV) (h : Hp) : F_loss_split_1 [a0, a1] h = f_loss_split_1 Try.prog t_loss_split_1 d_loss_split_1 NN (fun v h => some (v, h)) a0 a1 h := (bind_pair _).symm.trans (R_loss_split_1_eq (fun v h => some (v, h)) a0 a1 h)
noncomputable def d_loss_split : DTab := D0
theorem d_loss_split_ok : DSound Try.prog d_loss_split := DSound.zero
noncomputable def t_loss_split : Tab := (updF T0 80 F_loss_split_1)
theorem t_loss_split_ok : TSound Try.prog t_loss_split := (TSound.upd TSound.zero F_loss_split_1_ok)
@[simp] theorem t_loss_split_80 : t_loss_split 80 = some F_loss_split_1 := rfl
noncomputable def R_loss_split : Fun := runF Try.prog t_loss_split d_loss_split NN [0, 1, 2, 3, 8, 9, 10, 11, 14] Try.f72 4
theorem R_loss_split_ok : CSound Try.prog 72 R_loss_split := run_sound t_loss_split_ok d_loss_split_ok mixed Try.func72 (by kernel_rfl) NN
theorem R_loss_split_eq {β : Type} (K : AV → Hp → Option β) (a0 : AV) (a1 : AV) (a2 : AV) (a3 : AV) (h : Hp) : (R_loss_split [a0, a1, a2, a3] h).bind (fun p => K p.1 p.2) = f_loss_split Try.prog t_loss_split d_loss_split NN K a0 a1 a2 a3 h := by
  rw [← f_loss_split_run]; exact runF_bind rfl
noncomputable def F_loss_split : Fun := closedX [.o, .o, .o, .o] [.o] R_loss_split
theorem F_loss_split_ok : CSound Try.prog 72 F_loss_split := closedX_sound _ _ R_loss_split_ok
theorem F_loss_split_run {a0 : AV} {a1 : AV} {a2 : AV} {a3 : AV} {v : AV} (ha : plains [a0, a1, a2, a3] = true) (hv : f_loss_split Try.prog t_loss_split d_loss_split NN (fun v g => cvt false g v) a0 a1 a2 a3 [] = some v) (h : Hp) : F_loss_split [a0, a1, a2, a3] h = some (v, h) := by
  have e : (R_loss_split (nrms [.o, .o, .o, .o] [a0, a1, a2, a3]) []).bind (fun (p : AV × Hp) => cvt false p.2 p.1) = some v := (R_loss_split_eq (fun v g => cvt false g v) a0 a1 a2 a3 []).trans hv
  exact (closedX_bind (shr := [.o]) ha e h).trans (congrArg (fun x => some (x, h)) (nrmR_rep 1 v))
noncomputable def d_loss_Split : DTab := D0
theorem d_loss_Split_ok : DSound Try.prog d_loss_Split := DSound.zero
noncomputable def t_loss_Split : Tab := (updF (updF T0 66 F_loss_amount) 72 F_loss_split)
theorem t_loss_Split_ok : TSound Try.prog t_loss_Split := (TSound.upd (TSound.upd TSound.zero F_loss_amount_ok) F_loss_split_ok)
@[simp] theorem t_loss_Split_66 : t_loss_Split 66 = some F_loss_amount := rfl
@[simp] theorem t_loss_Split_72 : t_loss_Split 72 = some F_loss_split := rfl
noncomputable def R_loss_Split : Fun := runF Try.prog t_loss_Split d_loss_Split NN [0, 1, 2, 3, 8, 9, 16] Try.f64 4
theorem R_loss_Split_ok : CSound Try.prog 64 R_loss_Split := run_sound t_loss_Split_ok d_loss_Split_ok mixed Try.func64 (by kernel_rfl) NN
theorem R_loss_Split_eq {β : Type} (K : AV → Hp → Option β) (a0 : AV) (a1 : AV) (a2 : AV) (a3 : AV) (h : Hp) : (R_loss_Split [a0, a1, a2, a3] h).bind (fun p => K p.1 p.2) = f_loss_Split Try.prog t_loss_Split d_loss_Split NN K a0 a1 a2 a3 h := by
  rw [← f_loss_Split_run]; exact runF_bind rfl
noncomputable def F_loss_Split : Fun := closedX [.o, .o, .o, .o] [.o, .o] R_loss_Split
theorem F_loss_Split_ok : CSound Try.prog 64 F_loss_Split := closedX_sound _ _ R_loss_Split_ok
theorem F_loss_Split_run {a0 : AV} {a1 : AV} {a2 : AV} {a3 : AV} {v : AV} (ha : plains [a0, a1, a2, a3] = true) (hv : f_loss_Split Try.prog t_loss_Split d_loss_Split NN (fun v g => cvt false g v) a0 a1 a2 a3 [] = some v) (h : Hp) : F_loss_Split [a0, a1, a2, a3] h = some (v, h) := by
  have e : (R_loss_Split (nrms [.o, .o, .o, .o] [a0, a1, a2, a3]) []).bind (fun (p : AV × Hp) => cvt false p.2 p.1) = some v := (R_loss_Split_eq (fun v g => cvt false g v) a0 a1 a2 a3 []).trans hv
  exact (closedX_bind (shr := [.o, .o]) ha e h).trans (congrArg (fun x => some (x, h)) (nrmR_rep 2 v))
noncomputable def d_receipt_Compare : DTab := D0
theorem d_receipt_Compare_ok : DSound Try.prog d_receipt_Compare := DSound.zero
noncomputable def ty_receipt_Compare : Tab := (updF (updF (updF (updF (updF (updF T0 55 F_slices_ContainsFunc_int__receipt_Compare_1) 60 F_receipt_right) 61 F_receipt_Compare_1) 62 F_receipt_merged) 63 F_proportion_Of) 64 F_loss_Split)
theorem ty_receipt_Compare_ok : TSound Try.prog ty_receipt_Compare := (TSound.upd (TSound.upd (TSound.upd (TSound.upd (TSound.upd (TSound.upd TSound.zero F_slices_ContainsFunc_int__receipt_Compare_1_ok) F_receipt_right_ok) F_receipt_Compare_1_ok) F_receipt_merged_ok) F_proportion_Of_ok) F_loss_Split_ok)
@[simp] theorem ty_receipt_Compare_55 : ty_receipt_Compare 55 = some F_slices_ContainsFunc_int__receipt_Compare_1 := rfl
@[simp] theorem ty_receipt_Compare_60 : ty_receipt_Compare 60 = some F_receipt_right := rfl
@[simp] theorem ty_receipt_Compare_61 : ty_receipt_Compare 61 = some F_receipt_Compare_1 := rfl
@[simp] theorem ty_receipt_Compare_62 : ty_receipt_Compare 62 = some F_receipt_merged := rfl
@[simp] theorem ty_receipt_Compare_63 : ty_receipt_Compare 63 = some F_proportion_Of := rfl
@[simp] theorem ty_receipt_Compare_64 : ty_receipt_Compare 64 = some F_loss_Split := rfl
noncomputable def Y_receipt_Compare : Fun := yieldF Try.prog ty_receipt_Compare d_receipt_Compare NN [0, 1, 2, 5, 6, 7, 8, 9, 10, 11, 12, 15, 17, 26, 30, 35, 36, 37, 52, 96] 3
theorem Y_receipt_Compare_ok : YSound Try.prog Y_receipt_Compare := yieldF_sound ty_receipt_Compare_ok d_receipt_Compare_ok mixed NN
theorem Y_receipt_Compare_R0 {L : Nat} {h : Hp} {pend : Option Code} {v5 : AV} {v6 : AV} {v7 : AV} {v8 : AV} {v36 : AV} {v37 : AV} (hL : h[L]? = some (.loop (lpm_receipt_Compare_0) (lpp_receipt_Compare_0) (lpa_receipt_Compare_0) (lpb_receipt_Compare_0) (envT [(5, v5), (6, v6), (7, v7), (8, v8)]) .ready pend)) : Y_receipt_Compare [ymark, .yl L, v36, v37] h = f_receipt_Compare_R0 Try.prog ty_receipt_Compare d_receipt_Compare NN L (envT [(5, v5), (6, v6), (7, v7), (8, v8)]) (fun h => some (.s (.bool true), h.set L (.loop (lpm_receipt_Compare_0) (lpp_receipt_Compare_0) (lpa_receipt_Compare_0) (lpb_receipt_Compare_0) (envT [(5, v5), (6, v6), (7, v7), (8, v8)]) .ready none))) (fun h => some (.s (.bool false), h.set L (.loop (lpm_receipt_Compare_0) (lpp_receipt_Compare_0) (lpa_receipt_Compare_0) (lpb_receipt_Compare_0) (envT [(5, v5), (6, v6), (7, v7), (8, v8)]) .done (some .ret)))) v5 v6 v7 v8 v36 v37 h := (yieldF_val hL (by kernel_rfl)).trans (f_receipt_Compare_R0_run ty_receipt_Compare d_receipt_Compare NN L v5 v6 v7 v8 v36 v37 h)
noncomputable def t_receipt_merged_1__receipt_Compare : Tab := (updF T0 YB Y_receipt_Compare)
theorem t_receipt_merged_1__receipt_Compare_ok : TSound Try.prog t_receipt_merged_1__receipt_Compare := (TSound.updY TSound.zero Y_receipt_Compare_ok)
@[simp] theorem t_receipt_merged_1__receipt_Compare_Y : t_receipt_merged_1__receipt_Compare YB = some Y_receipt_Compare := rfl
noncomputable def F_receipt_merged_1__receipt_Compare : Fun := runF Try.prog t_receipt_merged_1__receipt_Compare D0 NN [0, 1, 2, 4, 5, 6, 7, 8, 9, 19, 66, 71, 76, 79, 86] Try.f69 3
theorem F_receipt_merged_1__receipt_Compare_ok : CSound Try.prog 69 F_receipt_merged_1__receipt_Compare := run_sound t_receipt_merged_1__receipt_Compare_ok DSound.zero mixed Try.func69 (by kernel_rfl) NN
theorem F_receipt_merged_1__receipt_Compare_eq {β : Type} (K : AV → Hp → Option β) (a0 : AV) (a1 : AV) (a2 : AV) (h : Hp) : (F_receipt_merged_1__receipt_Compare [a0, a1, a2] h).bind (fun p => K p.1 p.2) = f_receipt_merged_1 Try.prog t_receipt_merged_1__receipt_Compare D0 NN K a0 a1 a2 h := by
  rw [← f_receipt_merged_1_run]; exact runF_bind rfl
theorem F_receipt_merged_1__receipt_Compare_raw (a0 : AV) (a1 : AV) (a2 : AV) (h : Hp) : F_receipt_merged_1__receipt_Compare [a0, a1, a2] h = f_receipt_merged_1 Try.prog t_receipt_merged_1__receipt_Compare D0 NN (fun v h => some (v, h)) a0 a1 a2 h := (bind_pair _).symm.trans (F_receipt_merged_1__receipt_Compare_eq (fun v h => some (v, h)) a0 a1 a2 h)
noncomputable def t_receipt_Compare : Tab := (updF ty_receipt_Compare 69 F_receipt_merged_1__receipt_Compare)
theorem t_receipt_Compare_ok : TSound Try.prog t_receipt_Compare := (TSound.upd ty_receipt_Compare_ok F_receipt_merged_1__receipt_Compare_ok)
@[simp] theorem t_receipt_Compare_55 : t_receipt_Compare 55 = some F_slices_ContainsFunc_int__receipt_Compare_1 := rfl
@[simp] theorem t_receipt_Compare_60 : t_receipt_Compare 60 = some F_receipt_right := rfl
@[simp] theorem t_receipt_Compare_61 : t_receipt_Compare 61 = some F_receipt_Compare_1 := rfl
@[simp] theorem t_receipt_Compare_62 : t_receipt_Compare 62 = some F_receipt_merged := rfl
@[simp] theorem t_receipt_Compare_63 : t_receipt_Compare 63 = some F_proportion_Of := rfl
@[simp] theorem t_receipt_Compare_64 : t_receipt_Compare 64 = some F_loss_Split := rfl
@[simp] theorem t_receipt_Compare_69 : t_receipt_Compare 69 = some F_receipt_merged_1__receipt_Compare := rfl
noncomputable def R_receipt_Compare : Fun := runF Try.prog t_receipt_Compare d_receipt_Compare NN [0, 1, 2, 5, 6, 7, 8, 9, 10, 11, 12, 15, 17, 26, 30, 35, 36, 37, 52, 96] Try.f38 3
theorem R_receipt_Compare_ok : CSound Try.prog 38 R_receipt_Compare := run_sound t_receipt_Compare_ok d_receipt_Compare_ok mixed Try.func38 (by kernel_rfl) NN
theorem R_receipt_Compare_eq {β : Type} (K : AV → Hp → Option β) (a0 : AV) (a1 : AV) (a2 : AV) (h : Hp) : (R_receipt_Compare [a0, a1, a2] h).bind (fun p => K p.1 p.2) = f_receipt_Compare Try.prog t_receipt_Compare d_receipt_Compare NN K a0 a1 a2 h := by
  rw [← f_receipt_Compare_run]; exact runF_bind rfl
noncomputable def F_receipt_Compare : Fun := closedX [.l 3, .l 3, .l 1] [.l 8, .o] R_receipt_Compare
theorem F_receipt_Compare_ok : CSound Try.prog 38 F_receipt_Compare := closedX_sound _ _ R_receipt_Compare_ok
noncomputable def G_receipt_Compare : DFun := closedXD [.l 3, .l 3, .l 1] [.l 8, .o] R_receipt_Compare
theorem G_receipt_Compare_ro : Ro F_receipt_Compare G_receipt_Compare := closedX_ro _ _ _
theorem F_receipt_Compare_run {a0 : AV} {a1 : AV} {a2 : AV} {v : AV} (ha : plains [a0, a1, a2] = true) (hv : f_receipt_Compare Try.prog t_receipt_Compare d_receipt_Compare NN (fun v g => cvt false g v) (nrm (.l 3) a0) (nrm (.l 3) a1) (nrm (.l 1) a2) [] = some v) (h : Hp) : F_receipt_Compare [a0, a1, a2] h = some ((nrmR [.l 8, .o] v), h) := by
  have e : (R_receipt_Compare (nrms [.l 3, .l 3, .l 1] [a0, a1, a2]) []).bind (fun (p : AV × Hp) => cvt false p.2 p.1) = some v := (R_receipt_Compare_eq (fun v g => cvt false g v) (nrm (.l 3) a0) (nrm (.l 3) a1) (nrm (.l 1) a2) []).trans hv
  exact (closedX_bind (shr := [.l 8, .o]) ha e h).trans (congrArg (fun x => some (x, h)) rfl)
noncomputable def d_slices_Equal_Line : DTab := D0
theorem d_slices_Equal_Line_ok : DSound Try.prog d_slices_Equal_Line := DSound.zero
noncomputable def t_slices_Equal_Line : Tab := T0
theorem t_slices_Equal_Line_ok : TSound Try.prog t_slices_Equal_Line := TSound.zero
noncomputable def R_slices_Equal_Line : Fun := runF Try.prog t_slices_Equal_Line d_slices_Equal_Line NN [0, 1, 4, 5, 10, 12, 13, 14, 24] Try.f39 2
theorem R_slices_Equal_Line_ok : CSound Try.prog 39 R_slices_Equal_Line := run_sound t_slices_Equal_Line_ok d_slices_Equal_Line_ok mixed Try.func39 (by kernel_rfl) NN
theorem R_slices_Equal_Line_eq {β : Type} (K : AV → Hp → Option β) (a0 : AV) (a1 : AV) (h : Hp) : (R_slices_Equal_Line [a0, a1] h).bind (fun p => K p.1 p.2) = f_slices_Equal_Line Try.prog t_slices_Equal_Line d_slices_Equal_Line NN K a0 a1 h := by
  rw [← f_slices_Equal_Line_run]; exact runF_bind rfl
noncomputable def F_slices_Equal_Line : Fun := closedX [.l 8, .l 8] [.o] R_slices_Equal_Line
theorem F_slices_Equal_Line_ok : CSound Try.prog 39 F_slices_Equal_Line := closedX_sound _ _ R_slices_Equal_Line_ok
theorem F_slices_Equal_Line_run {a0 : AV} {a1 : AV} {v : AV} (ha : plains [a0, a1] = true) (hv : f_slices_Equal_Line Try.prog t_slices_Equal_Line d_slices_Equal_Line NN (fun v g => cvt false g v) (nrm (.l 8) a0) (nrm (.l 8) a1) [] = some v) (h : Hp) : F_slices_Equal_Line [a0, a1] h = some (v, h) := by
  have e : (R_slices_Equal_Line (nrms [.l 8, .l 8] [a0, a1]) []).bind (fun (p : AV × Hp) => cvt false p.2 p.1) = some v := (R_slices_Equal_Line_eq (fun v g => cvt false g v) (nrm (.l 8) a0) (nrm (.l 8) a1) []).trans hv
  exact (closedX_bind (shr := [.o]) ha e h).trans (congrArg (fun x => some (x, h)) (nrmR_rep 1 v))
noncomputable def d_receipt_Verify : DTab := D0
theorem d_receipt_Verify_ok : DSound Try.prog d_receipt_Verify := DSound.zero
noncomputable def t_receipt_Verify : Tab := (updF (updF T0 38 F_receipt_Compare) 39 F_slices_Equal_Line)
theorem t_receipt_Verify_ok : TSound Try.prog t_receipt_Verify := (TSound.upd (TSound.upd TSound.zero F_receipt_Compare_ok) F_slices_Equal_Line_ok)
@[simp] theorem t_receipt_Verify_38 : t_receipt_Verify 38 = some F_receipt_Compare := rfl
@[simp] theorem t_receipt_Verify_39 : t_receipt_Verify 39 = some F_slices_Equal_Line := rfl
noncomputable def R_receipt_Verify : Fun := runF Try.prog t_receipt_Verify d_receipt_Verify NN [0, 1, 2, 3, 8, 9, 10, 19, 24] Try.f19 4
theorem R_receipt_Verify_ok : CSound Try.prog 19 R_receipt_Verify := run_sound t_receipt_Verify_ok d_receipt_Verify_ok mixed Try.func19 (by kernel_rfl) NN
theorem R_receipt_Verify_eq {β : Type} (K : AV → Hp → Option β) (a0 : AV) (a1 : AV) (a2 : AV) (a3 : AV) (h : Hp) : (R_receipt_Verify [a0, a1, a2, a3] h).bind (fun p => K p.1 p.2) = f_receipt_Verify Try.prog t_receipt_Verify d_receipt_Verify NN K a0 a1 a2 a3 h := by
  rw [← f_receipt_Verify_run]; exact runF_bind rfl
noncomputable def F_receipt_Verify : Fun := closedX [.l 3, .l 3, .l 1, .l 8] [.o] R_receipt_Verify
theorem F_receipt_Verify_ok : CSound Try.prog 19 F_receipt_Verify := closedX_sound _ _ R_receipt_Verify_ok
theorem F_receipt_Verify_run {a0 : AV} {a1 : AV} {a2 : AV} {a3 : AV} {v : AV} (ha : plains [a0, a1, a2, a3] = true) (hv : f_receipt_Verify Try.prog t_receipt_Verify d_receipt_Verify NN (fun v g => cvt false g v) (nrm (.l 3) a0) (nrm (.l 3) a1) (nrm (.l 1) a2) (nrm (.l 8) a3) [] = some v) (h : Hp) : F_receipt_Verify [a0, a1, a2, a3] h = some (v, h) := by
  have e : (R_receipt_Verify (nrms [.l 3, .l 3, .l 1, .l 8] [a0, a1, a2, a3]) []).bind (fun (p : AV × Hp) => cvt false p.2 p.1) = some v := (R_receipt_Verify_eq (fun v g => cvt false g v) (nrm (.l 3) a0) (nrm (.l 3) a1) (nrm (.l 1) a2) (nrm (.l 8) a3) []).trans hv
  exact (closedX_bind (shr := [.o]) ha e h).trans (congrArg (fun x => some (x, h)) (nrmR_rep 1 v))
noncomputable def d_receipt_lines : DTab := D0
theorem d_receipt_lines_ok : DSound Try.prog d_receipt_lines := DSound.zero
noncomputable def t_receipt_lines : Tab := (updF T0 41 F_receipt_in)
theorem t_receipt_lines_ok : TSound Try.prog t_receipt_lines := (TSound.upd TSound.zero F_receipt_in_ok)
@[simp] theorem t_receipt_lines_41 : t_receipt_lines 41 = some F_receipt_in := rfl
noncomputable def R_receipt_lines : Fun := runF Try.prog t_receipt_lines d_receipt_lines NN [0, 2, 3, 4, 5, 7, 8, 9, 10, 11, 29, 30, 31, 32, 37, 92] Try.f47 1
theorem R_receipt_lines_ok : CSound Try.prog 47 R_receipt_lines := run_sound t_receipt_lines_ok d_receipt_lines_ok mixed Try.func47 (by kernel_rfl) NN
theorem R_receipt_lines_eq {β : Type} (K : AV → Hp → Option β) (a0 : AV) (h : Hp) : (R_receipt_lines [a0] h).bind (fun p => K p.1 p.2) = f_receipt_lines Try.prog t_receipt_lines d_receipt_lines NN K a0 h := by
  rw [← f_receipt_lines_run]; exact runF_bind rfl
noncomputable def F_receipt_lines : Fun := closedX [.l 8] [.o] R_receipt_lines
theorem F_receipt_lines_ok : CSound Try.prog 47 F_receipt_lines := closedX_sound _ _ R_receipt_lines_ok
theorem F_receipt_lines_run {a0 : AV} {v : AV} (ha : plains [a0] = true) (hv : f_receipt_lines Try.prog t_receipt_lines d_receipt_lines NN (fun v g => cvt false g v) (nrm (.l 8) a0) [] = some v) (h : Hp) : F_receipt_lines [a0] h = some (v, h) := by
  have e : (R_receipt_lines (nrms [.l 8] [a0]) []).bind (fun (p : AV × Hp) => cvt false p.2 p.1) = some v := (R_receipt_lines_eq (fun v g => cvt false g v) (nrm (.l 8) a0) []).trans hv
  exact (closedX_bind (shr := [.o]) ha e h).trans (congrArg (fun x => some (x, h)) (nrmR_rep 1 v))
noncomputable def d_loss_Sum : DTab := D0
theorem d_loss_Sum_ok : DSound Try.prog d_loss_Sum := DSound.zero
noncomputable def t_loss_Sum : Tab := (updF T0 66 F_loss_amount)
theorem t_loss_Sum_ok : TSound Try.prog t_loss_Sum := (TSound.upd TSound.zero F_loss_amount_ok)
@[simp] theorem t_loss_Sum_66 : t_loss_Sum 66 = some F_loss_amount := rfl
noncomputable def R_loss_Sum : Fun := runF Try.prog t_loss_Sum d_loss_Sum NN [0, 2, 3, 4, 6, 9, 11, 12, 13, 14, 27, 64] Try.f48 1
theorem R_loss_Sum_ok : CSound Try.prog 48 R_loss_Sum := run_sound t_loss_Sum_ok d_loss_Sum_ok mixed Try.func48 (by kernel_rfl) NN
theorem R_loss_Sum_eq {β : Type} (K : AV → Hp → Option β) (a0 : AV) (h : Hp) : (R_loss_Sum [a0] h).bind (fun p => K p.1 p.2) = f_loss_Sum Try.prog t_loss_Sum d_loss_Sum NN K a0 h := by
  rw [← f_loss_Sum_run]; exact runF_bind rfl
noncomputable def F_loss_Sum : Fun := closedX [.l 4] [.o, .o] R_loss_Sum
theorem F_loss_Sum_ok : CSound Try.prog 48 F_loss_Sum := closedX_sound _ _ R_loss_Sum_ok
theorem F_loss_Sum_run {a0 : AV} {v : AV} (ha : plains [a0] = true) (hv : f_loss_Sum Try.prog t_loss_Sum d_loss_Sum NN (fun v g => cvt false g v) (nrm (.l 4) a0) [] = some v) (h : Hp) : F_loss_Sum [a0] h = some (v, h) := by
  have e : (R_loss_Sum (nrms [.l 4] [a0]) []).bind (fun (p : AV × Hp) => cvt false p.2 p.1) = some v := (R_loss_Sum_eq (fun v g => cvt false g v) (nrm (.l 4) a0) []).trans hv
  exact (closedX_bind (shr := [.o, .o]) ha e h).trans (congrArg (fun x => some (x, h)) (nrmR_rep 2 v))
noncomputable def d_receipt_Total : DTab := D0
theorem d_receipt_Total_ok : DSound Try.prog d_receipt_Total := DSound.zero
noncomputable def t_receipt_Total : Tab := (updF (updF T0 47 F_receipt_lines) 48 F_loss_Sum)
theorem t_receipt_Total_ok : TSound Try.prog t_receipt_Total := (TSound.upd (TSound.upd TSound.zero F_receipt_lines_ok) F_loss_Sum_ok)
@[simp] theorem t_receipt_Total_47 : t_receipt_Total 47 = some F_receipt_lines := rfl
@[simp] theorem t_receipt_Total_48 : t_receipt_Total 48 = some F_loss_Sum := rfl
noncomputable def R_receipt_Total : Fun := runF Try.prog t_receipt_Total d_receipt_Total NN [0, 2, 3, 4, 5, 6, 7, 8, 10, 11, 12, 15, 17, 18, 19, 20, 51] Try.f26 1
theorem R_receipt_Total_ok : CSound Try.prog 26 R_receipt_Total := run_sound t_receipt_Total_ok d_receipt_Total_ok mixed Try.func26 (by kernel_rfl) NN
theorem R_receipt_Total_eq {β : Type} (K : AV → Hp → Option β) (a0 : AV) (h : Hp) : (R_receipt_Total [a0] h).bind (fun p => K p.1 p.2) = f_receipt_Total Try.prog t_receipt_Total d_receipt_Total NN K a0 h := by
  rw [← f_receipt_Total_run]; exact runF_bind rfl
noncomputable def F_receipt_Total : Fun := closedX [.l 8] [.o, .o, .o, .o] R_receipt_Total
theorem F_receipt_Total_ok : CSound Try.prog 26 F_receipt_Total := closedX_sound _ _ R_receipt_Total_ok
theorem F_receipt_Total_run {a0 : AV} {v : AV} (ha : plains [a0] = true) (hv : f_receipt_Total Try.prog t_receipt_Total d_receipt_Total NN (fun v g => cvt false g v) (nrm (.l 8) a0) [] = some v) (h : Hp) : F_receipt_Total [a0] h = some (v, h) := by
  have e : (R_receipt_Total (nrms [.l 8] [a0]) []).bind (fun (p : AV × Hp) => cvt false p.2 p.1) = some v := (R_receipt_Total_eq (fun v g => cvt false g v) (nrm (.l 8) a0) []).trans hv
  exact (closedX_bind (shr := [.o, .o, .o, .o]) ha e h).trans (congrArg (fun x => some (x, h)) (nrmR_rep 4 v))
noncomputable def d_receipt_Accepts : DTab := D0
theorem d_receipt_Accepts_ok : DSound Try.prog d_receipt_Accepts := DSound.zero
noncomputable def t_receipt_Accepts : Tab := (updF (updF T0 26 F_receipt_Total) 41 F_receipt_in)
theorem t_receipt_Accepts_ok : TSound Try.prog t_receipt_Accepts := (TSound.upd (TSound.upd TSound.zero F_receipt_Total_ok) F_receipt_in_ok)
@[simp] theorem t_receipt_Accepts_26 : t_receipt_Accepts 26 = some F_receipt_Total := rfl
@[simp] theorem t_receipt_Accepts_41 : t_receipt_Accepts 41 = some F_receipt_in := rfl
noncomputable def R_receipt_Accepts : Fun := runF Try.prog t_receipt_Accepts d_receipt_Accepts NN [0, 1, 4, 5, 8, 9, 17, 21] Try.f23 2
theorem R_receipt_Accepts_ok : CSound Try.prog 23 R_receipt_Accepts := run_sound t_receipt_Accepts_ok d_receipt_Accepts_ok mixed Try.func23 (by kernel_rfl) NN
theorem R_receipt_Accepts_eq {β : Type} (K : AV → Hp → Option β) (a0 : AV) (a1 : AV) (h : Hp) : (R_receipt_Accepts [a0, a1] h).bind (fun p => K p.1 p.2) = f_receipt_Accepts Try.prog t_receipt_Accepts d_receipt_Accepts NN K a0 a1 h := by
  rw [← f_receipt_Accepts_run]; exact runF_bind rfl
noncomputable def F_receipt_Accepts : Fun := closedX [.l 8, .o] [.o, .o] R_receipt_Accepts
theorem F_receipt_Accepts_ok : CSound Try.prog 23 F_receipt_Accepts := closedX_sound _ _ R_receipt_Accepts_ok
theorem F_receipt_Accepts_run {a0 : AV} {a1 : AV} {v : AV} (ha : plains [a0, a1] = true) (hv : f_receipt_Accepts Try.prog t_receipt_Accepts d_receipt_Accepts NN (fun v g => cvt false g v) (nrm (.l 8) a0) a1 [] = some v) (h : Hp) : F_receipt_Accepts [a0, a1] h = some (v, h) := by
  have e : (R_receipt_Accepts (nrms [.l 8, .o] [a0, a1]) []).bind (fun (p : AV × Hp) => cvt false p.2 p.1) = some v := (R_receipt_Accepts_eq (fun v g => cvt false g v) (nrm (.l 8) a0) a1 []).trans hv
  exact (closedX_bind (shr := [.o, .o]) ha e h).trans (congrArg (fun x => some (x, h)) (nrmR_rep 2 v))
noncomputable def d_law44_example : DTab := D0
theorem d_law44_example_ok : DSound Try.prog d_law44_example := DSound.zero
noncomputable def t_law44_example : Tab := T0
theorem t_law44_example_ok : TSound Try.prog t_law44_example := TSound.zero
noncomputable def R_law44_example : Fun := runF Try.prog t_law44_example d_law44_example NN [0, 1, 2] Try.f37 0
theorem R_law44_example_ok : CSound Try.prog 37 R_law44_example := run_sound t_law44_example_ok d_law44_example_ok mixed Try.func37 (by kernel_rfl) NN
theorem R_law44_example_eq {β : Type} (K : AV → Hp → Option β) (h : Hp) : (R_law44_example [] h).bind (fun p => K p.1 p.2) = f_law44_example Try.prog t_law44_example d_law44_example NN K  h := by
  rw [← f_law44_example_run]; exact runF_bind rfl
noncomputable def F_law44_example : Fun := closedX [] [.l 3, .l 3, .l 1] R_law44_example
theorem F_law44_example_ok : CSound Try.prog 37 F_law44_example := closedX_sound _ _ R_law44_example_ok
theorem F_law44_example_run {v : AV} (ha : plains [] = true) (hv : f_law44_example Try.prog t_law44_example d_law44_example NN (fun v g => cvt false g v)  [] = some v) (h : Hp) : F_law44_example [] h = some ((nrmR [.l 3, .l 3, .l 1] v), h) := by
  have e : (R_law44_example (nrms [] []) []).bind (fun (p : AV × Hp) => cvt false p.2 p.1) = some v := (R_law44_example_eq (fun v g => cvt false g v)  []).trans hv
  exact (closedX_bind (shr := [.l 3, .l 3, .l 1]) ha e h).trans (congrArg (fun x => some (x, h)) rfl)
noncomputable def d_law44_awake : DTab := D0
theorem d_law44_awake_ok : DSound Try.prog d_law44_awake := DSound.zero
noncomputable def t_law44_awake : Tab := (updF (updF (updF (updF (updF (updF T0 19 F_receipt_Verify) 23 F_receipt_Accepts) 26 F_receipt_Total) 37 F_law44_example) 38 F_receipt_Compare) 39 F_slices_Equal_Line)
theorem t_law44_awake_ok : TSound Try.prog t_law44_awake := (TSound.upd (TSound.upd (TSound.upd (TSound.upd (TSound.upd (TSound.upd TSound.zero F_receipt_Verify_ok) F_receipt_Accepts_ok) F_receipt_Total_ok) F_law44_example_ok) F_receipt_Compare_ok) F_slices_Equal_Line_ok)
@[simp] theorem t_law44_awake_19 : t_law44_awake 19 = some F_receipt_Verify := rfl
@[simp] theorem t_law44_awake_23 : t_law44_awake 23 = some F_receipt_Accepts := rfl
@[simp] theorem t_law44_awake_26 : t_law44_awake 26 = some F_receipt_Total := rfl
@[simp] theorem t_law44_awake_37 : t_law44_awake 37 = some F_law44_example := rfl
@[simp] theorem t_law44_awake_38 : t_law44_awake 38 = some F_receipt_Compare := rfl
@[simp] theorem t_law44_awake_39 : t_law44_awake 39 = some F_slices_Equal_Line := rfl
noncomputable def R_law44_awake : Fun := runF Try.prog t_law44_awake d_law44_awake NN [0, 1, 2, 3, 4, 5, 6, 7, 8, 9, 10, 11, 12, 13, 14] Try.f10 0
theorem R_law44_awake_ok : CSound Try.prog 10 R_law44_awake := run_sound t_law44_awake_ok d_law44_awake_ok mixed Try.func10 (by kernel_rfl) NN
theorem R_law44_awake_eq {β : Type} (K : AV → Hp → Option β) (h : Hp) : (R_law44_awake [] h).bind (fun p => K p.1 p.2) = f_law44_awake Try.prog t_law44_awake d_law44_awake NN K  h := by
  rw [← f_law44_awake_run]; exact runF_bind rfl
noncomputable def F_law44_awake : Fun := closedX [] [.o] R_law44_awake
theorem F_law44_awake_ok : CSound Try.prog 10 F_law44_awake := closedX_sound _ _ R_law44_awake_ok
theorem F_law44_awake_run {v : AV} (ha : plains [] = true) (hv : f_law44_awake Try.prog t_law44_awake d_law44_awake NN (fun v g => cvt false g v)  [] = some v) (h : Hp) : F_law44_awake [] h = some (v, h) := by
  have e : (R_law44_awake (nrms [] []) []).bind (fun (p : AV × Hp) => cvt false p.2 p.1) = some v := (R_law44_awake_eq (fun v g => cvt false g v)  []).trans hv
  exact (closedX_bind (shr := [.o]) ha e h).trans (congrArg (fun x => some (x, h)) (nrmR_rep 1 v))
noncomputable def d_slices_Clone_Good : DTab := D0
theorem d_slices_Clone_Good_ok : DSound Try.prog d_slices_Clone_Good := DSound.zero
noncomputable def t_slices_Clone_Good : Tab := T0
theorem t_slices_Clone_Good_ok : TSound Try.prog t_slices_Clone_Good := TSound.zero
noncomputable def R_slices_Clone_Good : Fun := runF Try.prog t_slices_Clone_Good d_slices_Clone_Good NN [0, 2, 4] Try.f14 1
theorem R_slices_Clone_Good_ok : CSound Try.prog 14 R_slices_Clone_Good := run_sound t_slices_Clone_Good_ok d_slices_Clone_Good_ok mixed Try.func14 (by kernel_rfl) NN
theorem R_slices_Clone_Good_eq {β : Type} (K : AV → Hp → Option β) (a0 : AV) (h : Hp) : (R_slices_Clone_Good [a0] h).bind (fun p => K p.1 p.2) = f_slices_Clone_Good Try.prog t_slices_Clone_Good d_slices_Clone_Good NN K a0 h := by
  rw [← f_slices_Clone_Good_run]; exact runF_bind rfl
noncomputable def F_slices_Clone_Good : Fun := closedX [.l 3] [.l 3] R_slices_Clone_Good
theorem F_slices_Clone_Good_ok : CSound Try.prog 14 F_slices_Clone_Good := closedX_sound _ _ R_slices_Clone_Good_ok
noncomputable def G_slices_Clone_Good : DFun := closedXD [.l 3] [.l 3] R_slices_Clone_Good
theorem G_slices_Clone_Good_ro : Ro F_slices_Clone_Good G_slices_Clone_Good := closedX_ro _ _ _
theorem F_slices_Clone_Good_run {a0 : AV} {v : AV} (ha : plains [a0] = true) (hv : f_slices_Clone_Good Try.prog t_slices_Clone_Good d_slices_Clone_Good NN (fun v g => cvt false g v) (nrm (.l 3) a0) [] = some v) (h : Hp) : F_slices_Clone_Good [a0] h = some ((nrmR [.l 3] v), h) := by
  have e : (R_slices_Clone_Good (nrms [.l 3] [a0]) []).bind (fun (p : AV × Hp) => cvt false p.2 p.1) = some v := (R_slices_Clone_Good_eq (fun v g => cvt false g v) (nrm (.l 3) a0) []).trans hv
  exact (closedX_bind (shr := [.l 3]) ha e h).trans (congrArg (fun x => some (x, h)) rfl)
noncomputable def d_slices_Clone_int : DTab := D0
theorem d_slices_Clone_int_ok : DSound Try.prog d_slices_Clone_int := DSound.zero
noncomputable def t_slices_Clone_int : Tab := T0
theorem t_slices_Clone_int_ok : TSound Try.prog t_slices_Clone_int := TSound.zero
noncomputable def R_slices_Clone_int : Fun := runF Try.prog t_slices_Clone_int d_slices_Clone_int NN [0, 2, 4] Try.f20 1
theorem R_slices_Clone_int_ok : CSound Try.prog 20 R_slices_Clone_int := run_sound t_slices_Clone_int_ok d_slices_Clone_int_ok mixed Try.func20 (by kernel_rfl) NN
theorem R_slices_Clone_int_eq {β : Type} (K : AV → Hp → Option β) (a0 : AV) (h : Hp) : (R_slices_Clone_int [a0] h).bind (fun p => K p.1 p.2) = f_slices_Clone_int Try.prog t_slices_Clone_int d_slices_Clone_int NN K a0 h := by
  rw [← f_slices_Clone_int_run]; exact runF_bind rfl
noncomputable def F_slices_Clone_int : Fun := closedX [.l 1] [.l 1] R_slices_Clone_int
theorem F_slices_Clone_int_ok : CSound Try.prog 20 F_slices_Clone_int := closedX_sound _ _ R_slices_Clone_int_ok
noncomputable def G_slices_Clone_int : DFun := closedXD [.l 1] [.l 1] R_slices_Clone_int
theorem G_slices_Clone_int_ro : Ro F_slices_Clone_int G_slices_Clone_int := closedX_ro _ _ _
theorem F_slices_Clone_int_run {a0 : AV} {v : AV} (ha : plains [a0] = true) (hv : f_slices_Clone_int Try.prog t_slices_Clone_int d_slices_Clone_int NN (fun v g => cvt false g v) (nrm (.l 1) a0) [] = some v) (h : Hp) : F_slices_Clone_int [a0] h = some ((nrmR [.l 1] v), h) := by
  have e : (R_slices_Clone_int (nrms [.l 1] [a0]) []).bind (fun (p : AV × Hp) => cvt false p.2 p.1) = some v := (R_slices_Clone_int_eq (fun v g => cvt false g v) (nrm (.l 1) a0) []).trans hv
  exact (closedX_bind (shr := [.l 1]) ha e h).trans (congrArg (fun x => some (x, h)) rfl)
noncomputable def d_law44_compare : DTab := (updD (updD (updD D0 14 G_slices_Clone_Good) 20 G_slices_Clone_int) 38 G_receipt_Compare)
theorem d_law44_compare_ok : DSound Try.prog d_law44_compare := (DSound.ro (DSound.ro (DSound.ro DSound.zero G_slices_Clone_Good_ro F_slices_Clone_Good_ok) G_slices_Clone_int_ro F_slices_Clone_int_ok) G_receipt_Compare_ro F_receipt_Compare_ok)
@[simp] theorem d_law44_compare_14 : d_law44_compare 14 = some G_slices_Clone_Good := rfl
@[simp] theorem d_law44_compare_20 : d_law44_compare 20 = some G_slices_Clone_int := rfl
@[simp] theorem d_law44_compare_38 : d_law44_compare 38 = some G_receipt_Compare := rfl
noncomputable def t_law44_compare : Tab := (updF (updF (updF T0 14 F_slices_Clone_Good) 20 F_slices_Clone_int) 38 F_receipt_Compare)
theorem t_law44_compare_ok : TSound Try.prog t_law44_compare := (TSound.upd (TSound.upd (TSound.upd TSound.zero F_slices_Clone_Good_ok) F_slices_Clone_int_ok) F_receipt_Compare_ok)
@[simp] theorem t_law44_compare_14 : t_law44_compare 14 = some F_slices_Clone_Good := rfl
@[simp] theorem t_law44_compare_20 : t_law44_compare 20 = some F_slices_Clone_int := rfl
@[simp] theorem t_law44_compare_38 : t_law44_compare 38 = some F_receipt_Compare := rfl
noncomputable def R_law44_compare : Fun := runF Try.prog t_law44_compare d_law44_compare NN [0, 1, 2, 3] Try.f16 1
theorem R_law44_compare_ok : CSound Try.prog 16 R_law44_compare := run_sound t_law44_compare_ok d_law44_compare_ok mixed Try.func16 (by kernel_rfl) NN
theorem R_law44_compare_eq {β : Type} (K : AV → Hp → Option β) (a0 : AV) (h : Hp) : (R_law44_compare [a0] h).bind (fun p => K p.1 p.2) = f_law44_compare Try.prog t_law44_compare d_law44_compare NN K a0 h := by
  rw [← f_law44_compare_run]; exact runF_bind rfl
noncomputable def F_law44_compare : Fun := closedX [.a [some 3, some 3, some 1]] [.l 8, .o] R_law44_compare
theorem F_law44_compare_ok : CSound Try.prog 16 F_law44_compare := closedX_sound _ _ R_law44_compare_ok
theorem F_law44_compare_run {a0 : AV} {v : AV} (ha : plains [a0] = true) (hv : f_law44_compare Try.prog t_law44_compare d_law44_compare NN (fun v g => cvt false g v) (nrm (.a [some 3, some 3, some 1]) a0) [] = some v) (h : Hp) : F_law44_compare [a0] h = some ((nrmR [.l 8, .o] v), h) := by
  have e : (R_law44_compare (nrms [.a [some 3, some 3, some 1]] [a0]) []).bind (fun (p : AV × Hp) => cvt false p.2 p.1) = some v := (R_law44_compare_eq (fun v g => cvt false g v) (nrm (.a [some 3, some 3, some 1]) a0) []).trans hv
  exact (closedX_bind (shr := [.l 8, .o]) ha e h).trans (congrArg (fun x => some (x, h)) rfl)
noncomputable def d_slices_Clone_Line : DTab := D0
theorem d_slices_Clone_Line_ok : DSound Try.prog d_slices_Clone_Line := DSound.zero
noncomputable def t_slices_Clone_Line : Tab := T0
theorem t_slices_Clone_Line_ok : TSound Try.prog t_slices_Clone_Line := TSound.zero
noncomputable def R_slices_Clone_Line : Fun := runF Try.prog t_slices_Clone_Line d_slices_Clone_Line NN [0, 2, 4] Try.f21 1
theorem R_slices_Clone_Line_ok : CSound Try.prog 21 R_slices_Clone_Line := run_sound t_slices_Clone_Line_ok d_slices_Clone_Line_ok mixed Try.func21 (by kernel_rfl) NN
theorem R_slices_Clone_Line_eq {β : Type} (K : AV → Hp → Option β) (a0 : AV) (h : Hp) : (R_slices_Clone_Line [a0] h).bind (fun p => K p.1 p.2) = f_slices_Clone_Line Try.prog t_slices_Clone_Line d_slices_Clone_Line NN K a0 h := by
  rw [← f_slices_Clone_Line_run]; exact runF_bind rfl
noncomputable def F_slices_Clone_Line : Fun := closedX [.l 8] [.l 8] R_slices_Clone_Line
theorem F_slices_Clone_Line_ok : CSound Try.prog 21 F_slices_Clone_Line := closedX_sound _ _ R_slices_Clone_Line_ok
theorem F_slices_Clone_Line_run {a0 : AV} {v : AV} (ha : plains [a0] = true) (hv : f_slices_Clone_Line Try.prog t_slices_Clone_Line d_slices_Clone_Line NN (fun v g => cvt false g v) (nrm (.l 8) a0) [] = some v) (h : Hp) : F_slices_Clone_Line [a0] h = some ((nrmR [.l 8] v), h) := by
  have e : (R_slices_Clone_Line (nrms [.l 8] [a0]) []).bind (fun (p : AV × Hp) => cvt false p.2 p.1) = some v := (R_slices_Clone_Line_eq (fun v g => cvt false g v) (nrm (.l 8) a0) []).trans hv
  exact (closedX_bind (shr := [.l 8]) ha e h).trans (congrArg (fun x => some (x, h)) rfl)
noncomputable def d_law44_ReceiptCloses_1 : DTab := D0
theorem d_law44_ReceiptCloses_1_ok : DSound Try.prog d_law44_ReceiptCloses_1 := DSound.zero
noncomputable def t_law44_ReceiptCloses_1 : Tab := T0
theorem t_law44_ReceiptCloses_1_ok : TSound Try.prog t_law44_ReceiptCloses_1 := TSound.zero
noncomputable def R_law44_ReceiptCloses_1 : Fun := runF Try.prog t_law44_ReceiptCloses_1 d_law44_ReceiptCloses_1 NN [0, 1, 2, 3] Try.f28 2
theorem R_law44_ReceiptCloses_1_ok : CSound Try.prog 28 R_law44_ReceiptCloses_1 := run_sound t_law44_ReceiptCloses_1_ok d_law44_ReceiptCloses_1_ok mixed Try.func28 (by kernel_rfl) NN
theorem R_law44_ReceiptCloses_1_eq {β : Type} (K : AV → Hp → Option β) (a0 : AV) (a1 : AV) (h : Hp) : (R_law44_ReceiptCloses_1 [a0, a1] h).bind (fun p => K p.1 p.2) = f_law44_ReceiptCloses_1 Try.prog t_law44_ReceiptCloses_1 d_law44_ReceiptCloses_1 NN K a0 a1 h := by
  rw [← f_law44_ReceiptCloses_1_run]; exact runF_bind rfl
noncomputable def F_law44_ReceiptCloses_1 : Fun := quietT R_law44_ReceiptCloses_1
theorem F_law44_ReceiptCloses_1_ok : CSound Try.prog 28 F_law44_ReceiptCloses_1 := quietT_sound R_law44_ReceiptCloses_1_ok
theorem F_law44_ReceiptCloses_1_q {a0 : AV} {a1 : AV} {h : Hp} {g : List AObj} {v : AV} (hv : f_law44_ReceiptCloses_1 Try.prog t_law44_ReceiptCloses_1 d_law44_ReceiptCloses_1 NN (fun v h => some (v, h)) a0 a1 h = some (v, h ++ g)) (hp : plain v = true) : F_law44_ReceiptCloses_1 [a0, a1] h = some (v, h) := quietT_val (F := R_law44_ReceiptCloses_1) (((bind_pair _).symm.trans (R_law44_ReceiptCloses_1_eq (fun v h => some (v, h)) a0 a1 h)).trans hv) hp
noncomputable def d_slices_IndexFunc_Line__law44_ReceiptCloses_1 : DTab := D0
theorem d_slices_IndexFunc_Line__law44_ReceiptCloses_1_ok : DSound Try.prog d_slices_IndexFunc_Line__law44_ReceiptCloses_1 := DSound.zero
noncomputable def t_slices_IndexFunc_Line__law44_ReceiptCloses_1 : Tab := (updF T0 28 F_law44_ReceiptCloses_1)
theorem t_slices_IndexFunc_Line__law44_ReceiptCloses_1_ok : TSound Try.prog t_slices_IndexFunc_Line__law44_ReceiptCloses_1 := (TSound.upd TSound.zero F_law44_ReceiptCloses_1_ok)
@[simp] theorem t_slices_IndexFunc_Line__law44_ReceiptCloses_1_28 : t_slices_IndexFunc_Line__law44_ReceiptCloses_1 28 = some F_law44_ReceiptCloses_1 := rfl
noncomputable def R_slices_IndexFunc_Line__law44_ReceiptCloses_1 : Fun := runF Try.prog t_slices_IndexFunc_Line__law44_ReceiptCloses_1 d_slices_IndexFunc_Line__law44_ReceiptCloses_1 NN [0, 1, 4, 5, 7, 8, 9, 16] Try.f46 2
theorem R_slices_IndexFunc_Line__law44_ReceiptCloses_1_ok : CSound Try.prog 46 R_slices_IndexFunc_Line__law44_ReceiptCloses_1 := run_sound t_slices_IndexFunc_Line__law44_ReceiptCloses_1_ok d_slices_IndexFunc_Line__law44_ReceiptCloses_1_ok mixed Try.func46 (by kernel_rfl) NN
theorem R_slices_IndexFunc_Line__law44_ReceiptCloses_1_eq {β : Type} (K : AV → Hp → Option β) (a0 : AV) (a1 : AV) (h : Hp) : (R_slices_IndexFunc_Line__law44_ReceiptCloses_1 [a0, a1] h).bind (fun p => K p.1 p.2) = f_slices_IndexFunc_Line Try.prog t_slices_IndexFunc_Line__law44_ReceiptCloses_1 d_slices_IndexFunc_Line__law44_ReceiptCloses_1 NN K a0 a1 h := by
  rw [← f_slices_IndexFunc_Line_run]; exact runF_bind rfl
noncomputable def F_slices_IndexFunc_Line__law44_ReceiptCloses_1 : Fun := quietT R_slices_IndexFunc_Line__law44_ReceiptCloses_1
theorem F_slices_IndexFunc_Line__law44_ReceiptCloses_1_ok : CSound Try.prog 46 F_slices_IndexFunc_Line__law44_ReceiptCloses_1 := quietT_sound R_slices_IndexFunc_Line__law44_ReceiptCloses_1_ok
theorem F_slices_IndexFunc_Line__law44_ReceiptCloses_1_q {a0 : AV} {a1 : AV} {h : Hp} {g : List AObj} {v : AV} (hv : f_slices_IndexFunc_Line Try.prog t_slices_IndexFunc_Line__law44_ReceiptCloses_1 d_slices_IndexFunc_Line__law44_ReceiptCloses_1 NN (fun v h => some (v, h)) a0 a1 h = some (v, h ++ g)) (hp : plain v = true) : F_slices_IndexFunc_Line__law44_ReceiptCloses_1 [a0, a1] h = some (v, h) := quietT_val (F := R_slices_IndexFunc_Line__law44_ReceiptCloses_1) (((bind_pair _).symm.trans (R_slices_IndexFunc_Line__law44_ReceiptCloses_1_eq (fun v h => some (v, h)) a0 a1 h)).trans hv) hp
noncomputable def d_slices_ContainsFunc_Line__law44_ReceiptCloses_1 : DTab := D0
theorem d_slices_ContainsFunc_Line__law44_ReceiptCloses_1_ok : DSound Try.prog d_slices_ContainsFunc_Line__law44_ReceiptCloses_1 := DSound.zero
noncomputable def t_slices_ContainsFunc_Line__law44_ReceiptCloses_1 : Tab := (updF T0 46 F_slices_IndexFunc_Line__law44_ReceiptCloses_1)
theorem t_slices_ContainsFunc_Line__law44_ReceiptCloses_1_ok : TSound Try.prog t_slices_ContainsFunc_Line__law44_ReceiptCloses_1 := (TSound.upd TSound.zero F_slices_IndexFunc_Line__law44_ReceiptCloses_1_ok)
@[simp] theorem t_slices_ContainsFunc_Line__law44_ReceiptCloses_1_46 : t_slices_ContainsFunc_Line__law44_ReceiptCloses_1 46 = some F_slices_IndexFunc_Line__law44_ReceiptCloses_1 := rfl
noncomputable def R_slices_ContainsFunc_Line__law44_ReceiptCloses_1 : Fun := runF Try.prog t_slices_ContainsFunc_Line__law44_ReceiptCloses_1 d_slices_ContainsFunc_Line__law44_ReceiptCloses_1 NN [0, 1, 4] Try.f24 2
theorem R_slices_ContainsFunc_Line__law44_ReceiptCloses_1_ok : CSound Try.prog 24 R_slices_ContainsFunc_Line__law44_ReceiptCloses_1 := run_sound t_slices_ContainsFunc_Line__law44_ReceiptCloses_1_ok d_slices_ContainsFunc_Line__law44_ReceiptCloses_1_ok mixed Try.func24 (by kernel_rfl) NN
theorem R_slices_ContainsFunc_Line__law44_ReceiptCloses_1_eq {β : Type} (K : AV → Hp → Option β) (a0 : AV) (a1 : AV) (h : Hp) : (R_slices_ContainsFunc_Line__law44_ReceiptCloses_1 [a0, a1] h).bind (fun p => K p.1 p.2) = f_slices_ContainsFunc_Line Try.prog t_slices_ContainsFunc_Line__law44_ReceiptCloses_1 d_slices_ContainsFunc_Line__law44_ReceiptCloses_1 NN K a0 a1 h := by
  rw [← f_slices_ContainsFunc_Line_run]; exact runF_bind rfl
noncomputable def F_slices_ContainsFunc_Line__law44_ReceiptCloses_1 : Fun := quietT R_slices_ContainsFunc_Line__law44_ReceiptCloses_1
theorem F_slices_ContainsFunc_Line__law44_ReceiptCloses_1_ok : CSound Try.prog 24 F_slices_ContainsFunc_Line__law44_ReceiptCloses_1 := quietT_sound R_slices_ContainsFunc_Line__law44_ReceiptCloses_1_ok
theorem F_slices_ContainsFunc_Line__law44_ReceiptCloses_1_q {a0 : AV} {a1 : AV} {h : Hp} {g : List AObj} {v : AV} (hv : f_slices_ContainsFunc_Line Try.prog t_slices_ContainsFunc_Line__law44_ReceiptCloses_1 d_slices_ContainsFunc_Line__law44_ReceiptCloses_1 NN (fun v h => some (v, h)) a0 a1 h = some (v, h ++ g)) (hp : plain v = true) : F_slices_ContainsFunc_Line__law44_ReceiptCloses_1 [a0, a1] h = some (v, h) := quietT_val (F := R_slices_ContainsFunc_Line__law44_ReceiptCloses_1) (((bind_pair _).symm.trans (R_slices_ContainsFunc_Line__law44_ReceiptCloses_1_eq (fun v h => some (v, h)) a0 a1 h)).trans hv) hp
noncomputable def d_slices_Grow_Good : DTab := D0
theorem d_slices_Grow_Good_ok : DSound Try.prog d_slices_Grow_Good := DSound.zero
noncomputable def t_slices_Grow_Good : Tab := T0
theorem t_slices_Grow_Good_ok : TSound Try.prog t_slices_Grow_Good := TSound.zero
noncomputable def R_slices_Grow_Good : Fun := runF Try.prog t_slices_Grow_Good d_slices_Grow_Good NN [0, 1, 4, 6, 16] Try.f49 2
theorem R_slices_Grow_Good_ok : CSound Try.prog 49 R_slices_Grow_Good := run_sound t_slices_Grow_Good_ok d_slices_Grow_Good_ok mixed Try.func49 (by kernel_rfl) NN
theorem R_slices_Grow_Good_eq {β : Type} (K : AV → Hp → Option β) (a0 : AV) (a1 : AV) (h : Hp) : (R_slices_Grow_Good [a0, a1] h).bind (fun p => K p.1 p.2) = f_slices_Grow_Good Try.prog t_slices_Grow_Good d_slices_Grow_Good NN K a0 a1 h := by
  rw [← f_slices_Grow_Good_run]; exact runF_bind rfl
theorem R_slices_Grow_Good_raw (a0 : AV) (a1 : AV) (h : Hp) : R_slices_Grow_Good [a0, a1] h = f_slices_Grow_Good Try.prog t_slices_Grow_Good d_slices_Grow_Good NN (fun v h => some (v, h)) a0 a1 h := (bind_pair _).symm.trans (R_slices_Grow_Good_eq (fun v h => some (v, h)) a0 a1 h)
noncomputable def d_slices_Concat_Good : DTab := D0
theorem d_slices_Concat_Good_ok : DSound Try.prog d_slices_Concat_Good := DSound.zero
noncomputable def t_slices_Concat_Good : Tab := (updF T0 49 R_slices_Grow_Good)
theorem t_slices_Concat_Good_ok : TSound Try.prog t_slices_Concat_Good := (TSound.upd TSound.zero R_slices_Grow_Good_ok)
@[simp] theorem t_slices_Concat_Good_49 : t_slices_Concat_Good 49 = some R_slices_Grow_Good := rfl
noncomputable def R_slices_Concat_Good : Fun := runF Try.prog t_slices_Concat_Good d_slices_Concat_Good NN [0, 2, 3, 5, 6, 8, 9, 10, 11, 12, 20, 25, 26, 27, 28] Try.f27 1
theorem R_slices_Concat_Good_ok : CSound Try.prog 27 R_slices_Concat_Good := run_sound t_slices_Concat_Good_ok d_slices_Concat_Good_ok mixed Try.func27 (by kernel_rfl) NN
theorem R_slices_Concat_Good_eq {β : Type} (K : AV → Hp → Option β) (a0 : AV) (h : Hp) : (R_slices_Concat_Good [a0] h).bind (fun p => K p.1 p.2) = f_slices_Concat_Good Try.prog t_slices_Concat_Good d_slices_Concat_Good NN K a0 h := by
  rw [← f_slices_Concat_Good_run]; exact runF_bind rfl
noncomputable def F_slices_Concat_Good : Fun := closedX [.l 1] [.l 3] R_slices_Concat_Good
theorem F_slices_Concat_Good_ok : CSound Try.prog 27 F_slices_Concat_Good := closedX_sound _ _ R_slices_Concat_Good_ok
theorem F_slices_Concat_Good_own {a0 : AV} {x0 : AV} {h : Hp} {v : AV} (ha : cvts false h [x0] = some [a0]) (hv : ∀ st, f_slices_Concat_Good Try.prog t_slices_Concat_Good d_slices_Concat_Good NN (fun v g => cvt st g v) (nrm (.l 1) a0) [] = some v) : F_slices_Concat_Good [x0] h = some ((nrmR [.l 3] v), h) := by
  have e : ∀ st, (R_slices_Concat_Good (nrms [.l 1] [a0]) []).bind (fun (p : AV × Hp) => cvt st p.2 p.1) = some v := fun st => (R_slices_Concat_Good_eq (fun v g => cvt st g v) (nrm (.l 1) a0) []).trans (hv st)
  exact (closedX_ownB (shr := [.l 3]) ha e).trans (congrArg (fun x => some (x, h)) rfl)
noncomputable def d_law44_sum : DTab := D0
theorem d_law44_sum_ok : DSound Try.prog d_law44_sum := DSound.zero
noncomputable def t_law44_sum : Tab := T0
theorem t_law44_sum_ok : TSound Try.prog t_law44_sum := TSound.zero
noncomputable def R_law44_sum : Fun := runF Try.prog t_law44_sum d_law44_sum NN [0, 2, 3, 5, 6, 7, 8, 9] Try.f29 1
theorem R_law44_sum_ok : CSound Try.prog 29 R_law44_sum := run_sound t_law44_sum_ok d_law44_sum_ok mixed Try.func29 (by kernel_rfl) NN
theorem R_law44_sum_eq {β : Type} (K : AV → Hp → Option β) (a0 : AV) (h : Hp) : (R_law44_sum [a0] h).bind (fun p => K p.1 p.2) = f_law44_sum Try.prog t_law44_sum d_law44_sum NN K a0 h := by
  rw [← f_law44_sum_run]; exact runF_bind rfl
noncomputable def F_law44_sum : Fun := closedX [.l 3] [.o] R_law44_sum
theorem F_law44_sum_ok : CSound Try.prog 29 F_law44_sum := closedX_sound _ _ R_law44_sum_ok
theorem F_law44_sum_run {a0 : AV} {v : AV} (ha : plains [a0] = true) (hv : f_law44_sum Try.prog t_law44_sum d_law44_sum NN (fun v g => cvt false g v) (nrm (.l 3) a0) [] = some v) (h : Hp) : F_law44_sum [a0] h = some (v, h) := by
  have e : (R_law44_sum (nrms [.l 3] [a0]) []).bind (fun (p : AV × Hp) => cvt false p.2 p.1) = some v := (R_law44_sum_eq (fun v g => cvt false g v) (nrm (.l 3) a0) []).trans hv
  exact (closedX_bind (shr := [.o]) ha e h).trans (congrArg (fun x => some (x, h)) (nrmR_rep 1 v))
noncomputable def d_law44_ReceiptCloses : DTab := D0
theorem d_law44_ReceiptCloses_ok : DSound Try.prog d_law44_ReceiptCloses := DSound.zero
noncomputable def t_law44_ReceiptCloses : Tab := (updF (updF (updF (updF (updF (updF (updF (updF T0 10 F_law44_awake) 16 F_law44_compare) 21 F_slices_Clone_Line) 24 F_slices_ContainsFunc_Line__law44_ReceiptCloses_1) 26 F_receipt_Total) 27 F_slices_Concat_Good) 28 F_law44_ReceiptCloses_1) 29 F_law44_sum)
theorem t_law44_ReceiptCloses_ok : TSound Try.prog t_law44_ReceiptCloses := (TSound.upd (TSound.upd (TSound.upd (TSound.upd (TSound.upd (TSound.upd (TSound.upd (TSound.upd TSound.zero F_law44_awake_ok) F_law44_compare_ok) F_slices_Clone_Line_ok) F_slices_ContainsFunc_Line__law44_ReceiptCloses_1_ok) F_receipt_Total_ok) F_slices_Concat_Good_ok) F_law44_ReceiptCloses_1_ok) F_law44_sum_ok)
@[simp] theorem t_law44_ReceiptCloses_10 : t_law44_ReceiptCloses 10 = some F_law44_awake := rfl
@[simp] theorem t_law44_ReceiptCloses_16 : t_law44_ReceiptCloses 16 = some F_law44_compare := rfl
@[simp] theorem t_law44_ReceiptCloses_21 : t_law44_ReceiptCloses 21 = some F_slices_Clone_Line := rfl
@[simp] theorem t_law44_ReceiptCloses_24 : t_law44_ReceiptCloses 24 = some F_slices_ContainsFunc_Line__law44_ReceiptCloses_1 := rfl
@[simp] theorem t_law44_ReceiptCloses_26 : t_law44_ReceiptCloses 26 = some F_receipt_Total := rfl
@[simp] theorem t_law44_ReceiptCloses_27 : t_law44_ReceiptCloses 27 = some F_slices_Concat_Good := rfl
@[simp] theorem t_law44_ReceiptCloses_28 : t_law44_ReceiptCloses 28 = some F_law44_ReceiptCloses_1 := rfl
@[simp] theorem t_law44_ReceiptCloses_29 : t_law44_ReceiptCloses 29 = some F_law44_sum := rfl
noncomputable def R_law44_ReceiptCloses : Fun := runF Try.prog t_law44_ReceiptCloses d_law44_ReceiptCloses NN [0, 1, 2, 3, 4, 5, 6, 8, 9, 10, 11, 12, 14, 30, 37, 41, 42, 43, 44, 60, 67, 68, 69, 70, 76, 87] Try.f7 1
theorem R_law44_ReceiptCloses_ok : CSound Try.prog 7 R_law44_ReceiptCloses := run_sound t_law44_ReceiptCloses_ok d_law44_ReceiptCloses_ok mixed Try.func7 (by kernel_rfl) NN
theorem R_law44_ReceiptCloses_eq {β : Type} (K : AV → Hp → Option β) (a0 : AV) (h : Hp) : (R_law44_ReceiptCloses [a0] h).bind (fun p => K p.1 p.2) = f_law44_ReceiptCloses Try.prog t_law44_ReceiptCloses d_law44_ReceiptCloses NN K a0 h := by
  rw [← f_law44_ReceiptCloses_run]; exact runF_bind rfl
noncomputable def F_law44_ReceiptCloses : Fun := closedX [.a [some 3, some 3, some 1]] [.o] R_law44_ReceiptCloses
theorem F_law44_ReceiptCloses_ok : CSound Try.prog 7 F_law44_ReceiptCloses := closedX_sound _ _ R_law44_ReceiptCloses_ok
theorem F_law44_ReceiptCloses_run {a0 : AV} {v : AV} (ha : plains [a0] = true) (hv : f_law44_ReceiptCloses Try.prog t_law44_ReceiptCloses d_law44_ReceiptCloses NN (fun v g => cvt false g v) (nrm (.a [some 3, some 3, some 1]) a0) [] = some v) (h : Hp) : F_law44_ReceiptCloses [a0] h = some (v, h) := by
  have e : (R_law44_ReceiptCloses (nrms [.a [some 3, some 3, some 1]] [a0]) []).bind (fun (p : AV × Hp) => cvt false p.2 p.1) = some v := (R_law44_ReceiptCloses_eq (fun v g => cvt false g v) (nrm (.a [some 3, some 3, some 1]) a0) []).trans hv
  exact (closedX_bind (shr := [.o]) ha e h).trans (congrArg (fun x => some (x, h)) (nrmR_rep 1 v))
end Go.AM


set_option linter.unusedVariables false
namespace Go.AM.Div
theorem le_iff {b y1 y0 x c q r : Nat} (hx : x = q * y1 + r) : q * (y1 * b + y0) ≤ x * b + c ↔ q * y0 ≤ b * r + c := by
  have e1 : q * (y1 * b + y0) = q * y1 * b + q * y0 := by rw [Nat.mul_add, Nat.mul_assoc]
  have e2 : x * b + c = q * y1 * b + (b * r + c) := by rw [hx, Nat.add_mul, Nat.mul_comm r b]; omega
  rw [e1, e2]
  omega
theorem start_le {b y1 y0 x c : Nat} (hb : 0 < b) (hy1 : 0 < y1) (hc : c < b) : (x * b + c) / (y1 * b + y0) ≤ x / y1 := by
  have hy : 0 < y1 * b + y0 := by have := Nat.mul_pos hy1 hb; omega
  rw [Nat.le_div_iff_mul_le hy1]
  generalize hQ : (x * b + c) / (y1 * b + y0) = Q
  have h1 : Q * (y1 * b + y0) ≤ x * b + c := by rw [← hQ]; exact Nat.div_mul_le_self _ _
  rcases Nat.lt_or_ge x (Q * y1) with h2 | h2
  · exfalso
    have h3 : (x + 1) * b ≤ Q * y1 * b := Nat.mul_le_mul_right _ h2
    rw [Nat.mul_add, ← Nat.mul_assoc] at h1
    rw [Nat.add_mul] at h3
    omega
  · exact h2
theorem lt_base {b y x c : Nat} (hc : c < b) (hx : x < y) : (x * b + c) / y < b := by
  rw [Nat.div_lt_iff_lt_mul (by omega)]
  have : (x + 1) * b ≤ y * b := Nat.mul_le_mul_right _ hx
  rw [Nat.add_mul] at this
  rw [Nat.mul_comm b y]
  omega
theorem digit_eq {b y1 y0 x c q r : Nat} (hy : 0 < y1 * b + y0) (hx : x = q * y1 + r) (hQ : (x * b + c) / (y1 * b + y0) ≤ q) (hle : q * y0 ≤ b * r + c) : q = (x * b + c) / (y1 * b + y0) := by
  have := (Nat.le_div_iff_mul_le hy).2 ((le_iff (c := c) (b := b) (y0 := y0) hx).2 hle)
  omega
theorem digit_gt {b y1 y0 x c q r : Nat} (hy : 0 < y1 * b + y0) (hxy : x < y1 * b + y0) (hc : c < b) (hx : x = q * y1 + r) (hg : b ≤ q ∨ b * r + c < q * y0) : (x * b + c) / (y1 * b + y0) < q := by
  rcases hg with hg | hg
  · have := lt_base hc hxy; omega
  · rw [Nat.div_lt_iff_lt_mul hy]
    have := mt (le_iff (c := c) (b := b) (y0 := y0) hx).1 (by omega)
    omega
theorem digit_big {b y1 y0 x c q r : Nat} (hb : 0 < b) (hy0 : y0 < b) (hy1 : 0 < y1) (hxy : x < y1 * b + y0) (hx : x = q * y1 + r) (hr : b ≤ r) (hQ : (x * b + c) / (y1 * b + y0) ≤ q) : q = (x * b + c) / (y1 * b + y0) := by
  have hy : 0 < y1 * b + y0 := by have := Nat.mul_pos hy1 hb; omega
  have hqb : q < b := by
    rcases Nat.lt_or_ge q b with h | h
    · exact h
    · exfalso
      have h1 : b * y1 ≤ q * y1 := Nat.mul_le_mul_right _ h
      rw [Nat.mul_comm b y1] at h1
      omega
  refine digit_eq hy hx hQ ?_
  have h1 : q * y0 ≤ b * b := Nat.mul_le_mul (by omega) (by omega)
  have h2 : b * b ≤ b * r := Nat.mul_le_mul_left _ hr
  omega
theorem two_digits {b y x c1 c0 : Nat} (hb : 0 < b) (hc1 : c1 < b) (hc0 : c0 < b) (hy : 0 < y) (hx : x < y) :
    (x * b + c1) / y * b + ((x * b + c1) % y * b + c0) / y = (x * (b * b) + c1 * b + c0) / y ∧ ((x * b + c1) % y * b + c0) % y = (x * (b * b) + c1 * b + c0) % y := by
  have e : x * (b * b) + c1 * b + c0 = ((x * b + c1) % y * b + c0) + y * ((x * b + c1) / y * b) := by
    have h1 := Nat.mod_add_div (x * b + c1) y
    have h2 : (x * b + c1) * b = (x * b + c1) % y * b + y * ((x * b + c1) / y * b) := by
      have : ((x * b + c1) % y + y * ((x * b + c1) / y)) * b = (x * b + c1) % y * b + y * ((x * b + c1) / y * b) := by rw [Nat.add_mul, Nat.mul_assoc]
      rw [← this, h1]
    rw [Nat.add_mul, Nat.mul_assoc] at h2
    omega
  rw [e, Nat.add_mul_div_left _ _ hy, Nat.add_mul_mod_self_left]
  exact ⟨Nat.add_comm _ _, rfl⟩
theorem scaled {u y s : Nat} (hs : 0 < s) : (u * s) / (y * s) = u / y ∧ (u * s) % (y * s) = u % y * s :=
  ⟨Nat.mul_div_mul_right _ _ hs, Nat.mul_mod_mul_right _ _ _⟩
end Go.AM.Div


namespace Go.AM
open Go.Proofs
set_option linter.unusedVariables false
set_option linter.unusedSimpArgs false
set_option linter.constructorNameAsVariable false
set_option maxRecDepth 20000
section
variable {β : Type} {P : Program} {T : Tab} {D : DTab} {N : Nat}
theorem dec_u (a b : Nat) : decide ((a : Int) ≤ (b : Int)) = decide (a ≤ b) := by apply decide_eq_decide.2; omega
theorem dec_ul (a b : Nat) : decide ((a : Int) < (b : Int)) = decide (a < b) := by apply decide_eq_decide.2; omega
theorem b8_step {xn : AV → AV → AV → AV → AV → AV → AV → AV → AV → Hp → Option β} {x0 : AV → AV → AV → AV → AV → AV → AV → AV → Hp → Option β} {v2 v8 v11 v14 : AV} {h : Hp} {q r y1 y0 c : Nat}
    (hq : q < 17179869184) (hr : r < 4294967296) (hy1 : y1 < 4294967296) (hy0 : y0 < 4294967296) (hc : c < 4294967296) (h0 : 4294967296 ≤ q ∨ 4294967296 * r + c < q * y0 → 0 < q) :
    f_bits_Div64_b8 P T D N xn x0 v2 v8 (U y1) (U y0) v11 (U c) v14 (U q) (U r) h = if 4294967296 ≤ q ∨ 4294967296 * r + c < q * y0 then (if 4294967296 ≤ r + y1 then x0 v2 v8 (U y1) (U y0) v11 (U c) v14 (U (q - 1)) h else xn v2 v8 (U y1) (U y0) v11 (U c) v14 (U (q - 1)) (U (r + y1)) h)
      else x0 v2 v8 (U y1) (U y0) v11 (U c) v14 (U q) h := by
  have m1 : ∀ kk : AV → Option β, arithK .mul (.s (.int .u64 4294967296)) (U r) kk = kk (U (4294967296 * r)) := fun kk => u_mul 4294967296 r (by omega) kk
  have a1 : ∀ kk : AV → Option β, arithK .add (U (4294967296 * r)) (U c) kk = kk (U (4294967296 * r + c)) := fun kk => u_add _ _ (by omega) kk
  have a2 : ∀ kk : AV → Option β, arithK .add (U r) (U y1) kk = kk (U (r + y1)) := fun kk => u_add _ _ (by omega) kk
  have g1 : ∀ (a b : Nat) (kk : AV → Option β), arithK .geq (U a) (.s (.int .u64 (b : Int))) kk = kk (.s (.bool (decide (b ≤ a)))) := fun a b kk => by rw [arithK_geq, dec_u]
  have g2 : ∀ (a : Nat) (kk : AV → Option β), arithK .geq (U a) (.s (.int .u64 4294967296)) kk = kk (.s (.bool (decide (4294967296 ≤ a)))) := fun a kk => g1 a 4294967296 kk
  have tail : 0 < q → (arithK .sub (U q) (.s (.int .u64 1)) fun x54 => arithK .add (U r) (U y1) fun x55 => arithK .geq x55 (.s (.int .u64 4294967296)) fun x56 => condK x56 (x0 v2 v8 (U y1) (U y0) v11 (U c) v14 x54 h) (xn v2 v8 (U y1) (U y0) v11 (U c) v14 x54 x55 h)) =
      if 4294967296 ≤ r + y1 then x0 v2 v8 (U y1) (U y0) v11 (U c) v14 (U (q - 1)) h else xn v2 v8 (U y1) (U y0) v11 (U c) v14 (U (q - 1)) (U (r + y1)) h := by
    intro h0
    have s1 : ∀ kk : AV → Option β, arithK .sub (U q) (.s (.int .u64 1)) kk = kk (U (q - 1)) := fun kk => u_sub q 1 h0 (by omega) kk
    rw [s1, a2, g2, condK_bool]
    simp
  unfold f_bits_Div64_b8
  rw [g2]
  by_cases hb : 4294967296 ≤ q
  · rw [decide_eq_true hb, grpK_ft, condK_bool, if_pos rfl, if_pos (.inl hb), tail (by omega)]
  · have hp : q * y0 < 18446744073709551616 := by
      have : q * y0 ≤ 4294967295 * 4294967295 := Nat.mul_le_mul (by omega) (by omega)
      omega
    have m2 : ∀ kk : AV → Option β, arithK .mul (U q) (U y0) kk = kk (U (q * y0)) := fun kk => u_mul _ _ hp kk
    rw [decide_eq_false hb, grpK_ff, m2, m1, a1, arithK_gtr, dec_ul]
    dsimp only
    rw [condK_bool]
    by_cases hl : 4294967296 * r + c < q * y0
    · rw [decide_eq_true hl, if_pos rfl, if_pos (.inr hl), tail (h0 (.inr hl))]
    · rw [decide_eq_false hl, if_neg (by simp), if_neg (by omega)]
theorem b6_step {xn : AV → AV → AV → AV → AV → AV → AV → AV → AV → Hp → Option β} {x2 : AV → AV → AV → AV → AV → AV → Hp → Option β} {v2 v8 v15 v17 : AV} {h : Hp} {q r y1 y0 c : Nat}
    (hq : q < 17179869184) (hr : r < 4294967296) (hy1 : y1 < 4294967296) (hy0 : y0 < 4294967296) (hc : c < 4294967296) (h0 : 4294967296 ≤ q ∨ 4294967296 * r + c < q * y0 → 0 < q) :
    f_bits_Div64_b6 P T D N xn x2 v2 v8 (U y1) (U y0) (U c) v15 (U r) v17 (U q) h = if 4294967296 ≤ q ∨ 4294967296 * r + c < q * y0 then (if 4294967296 ≤ r + y1 then x2 v2 v8 (U c) v15 v17 (U (q - 1)) h else xn v2 v8 (U y1) (U y0) (U c) v15 (U (r + y1)) v17 (U (q - 1)) h)
      else x2 v2 v8 (U c) v15 v17 (U q) h := by
  have m1 : ∀ kk : AV → Option β, arithK .mul (.s (.int .u64 4294967296)) (U r) kk = kk (U (4294967296 * r)) := fun kk => u_mul 4294967296 r (by omega) kk
  have a1 : ∀ kk : AV → Option β, arithK .add (U (4294967296 * r)) (U c) kk = kk (U (4294967296 * r + c)) := fun kk => u_add _ _ (by omega) kk
  have a2 : ∀ kk : AV → Option β, arithK .add (U r) (U y1) kk = kk (U (r + y1)) := fun kk => u_add _ _ (by omega) kk
  have g1 : ∀ (a b : Nat) (kk : AV → Option β), arithK .geq (U a) (.s (.int .u64 (b : Int))) kk = kk (.s (.bool (decide (b ≤ a)))) := fun a b kk => by rw [arithK_geq, dec_u]
  have g2 : ∀ (a : Nat) (kk : AV → Option β), arithK .geq (U a) (.s (.int .u64 4294967296)) kk = kk (.s (.bool (decide (4294967296 ≤ a)))) := fun a kk => g1 a 4294967296 kk
  have tail : 0 < q → (arithK .sub (U q) (.s (.int .u64 1)) fun x54 => arithK .add (U r) (U y1) fun x55 => arithK .geq x55 (.s (.int .u64 4294967296)) fun x56 => condK x56 (x2 v2 v8 (U c) v15 v17 x54 h) (xn v2 v8 (U y1) (U y0) (U c) v15 x55 v17 x54 h)) =
      if 4294967296 ≤ r + y1 then x2 v2 v8 (U c) v15 v17 (U (q - 1)) h else xn v2 v8 (U y1) (U y0) (U c) v15 (U (r + y1)) v17 (U (q - 1)) h := by
    intro h0
    have s1 : ∀ kk : AV → Option β, arithK .sub (U q) (.s (.int .u64 1)) kk = kk (U (q - 1)) := fun kk => u_sub q 1 h0 (by omega) kk
    rw [s1, a2, g2, condK_bool]
    simp
  unfold f_bits_Div64_b6
  rw [g2]
  by_cases hb : 4294967296 ≤ q
  · rw [decide_eq_true hb, grpK_ft, condK_bool, if_pos rfl, if_pos (.inl hb), tail (by omega)]
  · have hp : q * y0 < 18446744073709551616 := by
      have : q * y0 ≤ 4294967295 * 4294967295 := Nat.mul_le_mul (by omega) (by omega)
      omega
    have m2 : ∀ kk : AV → Option β, arithK .mul (U q) (U y0) kk = kk (U (q * y0)) := fun kk => u_mul _ _ hp kk
    rw [decide_eq_false hb, grpK_ff, m2, m1, a1, arithK_gtr, dec_ul]
    dsimp only
    rw [condK_bool]
    by_cases hl : 4294967296 * r + c < q * y0
    · rw [decide_eq_true hl, if_pos rfl, if_pos (.inr hl), tail (h0 (.inr hl))]
    · rw [decide_eq_false hl, if_neg (by simp), if_neg (by omega)]
theorem digit_step {y1 y0 c x q r : Nat} (hy1 : y1 < 4294967296) (hy1' : 2147483648 ≤ y1) (hy0 : y0 < 4294967296) (hc : c < 4294967296) (hx : x < y1 * 4294967296 + y0) (hxe : x = q * y1 + r) (hQ : (x * 4294967296 + c) / (y1 * 4294967296 + y0) ≤ q) :
    (¬ (4294967296 ≤ q ∨ 4294967296 * r + c < q * y0) → q = (x * 4294967296 + c) / (y1 * 4294967296 + y0)) ∧
    ((4294967296 ≤ q ∨ 4294967296 * r + c < q * y0) → 0 < q ∧ x = (q - 1) * y1 + (r + y1) ∧ (x * 4294967296 + c) / (y1 * 4294967296 + y0) ≤ q - 1 ∧ (4294967296 ≤ r + y1 → q - 1 = (x * 4294967296 + c) / (y1 * 4294967296 + y0))) := by
  have hy : 0 < y1 * 4294967296 + y0 := by omega
  refine ⟨fun hcond => Div.digit_eq (b := 4294967296) hy hxe hQ (by omega), fun hcond => ?_⟩
  have hgt := Div.digit_gt (b := 4294967296) hy hx hc hxe hcond
  have hpos : 0 < q := Nat.lt_of_le_of_lt (Nat.zero_le _) hgt
  have hle1 := Nat.le_sub_one_of_lt hgt
  have hxe' : x = (q - 1) * y1 + (r + y1) := by
    have : q * y1 = (q - 1) * y1 + y1 := by
      conv => lhs; rw [show q = (q - 1) + 1 by omega, Nat.add_mul]
      omega
    omega
  exact ⟨hpos, hxe', hle1, fun hb => Div.digit_big (b := 4294967296) (by omega) hy0 (by omega) hx hxe' hb hle1⟩
theorem L8_val {x0 : AV → AV → AV → AV → AV → AV → AV → AV → Hp → Option β} {v2 v8 v11 v14 : AV} {h : Hp} {y1 y0 c x : Nat} (hy1 : y1 < 4294967296) (hy1' : 2147483648 ≤ y1) (hy0 : y0 < 4294967296) (hc : c < 4294967296) (hx : x < y1 * 4294967296 + y0) :
    ∀ (m q r : Nat), q < 17179869184 → r < 4294967296 → 4294967296 ≤ r + m * 2147483648 → x = q * y1 + r → (x * 4294967296 + c) / (y1 * 4294967296 + y0) ≤ q →
      f_bits_Div64_L8 P T D N x0 (m + 1) v2 v8 (U y1) (U y0) v11 (U c) v14 (U q) (U r) h = x0 v2 v8 (U y1) (U y0) v11 (U c) v14 (U ((x * 4294967296 + c) / (y1 * 4294967296 + y0))) h := by
  intro m
  induction m with
  | zero => intro q r _ hr hm; omega
  | succ m ih =>
    intro q r hq hr hm hxe hQ
    obtain ⟨d1, d2⟩ := digit_step hy1 hy1' hy0 hc hx hxe hQ
    show f_bits_Div64_b8 P T D N (f_bits_Div64_L8 P T D N x0 (m + 1)) x0 v2 v8 (U y1) (U y0) v11 (U c) v14 (U q) (U r) h = _
    rw [b8_step hq hr hy1 hy0 hc (fun hc => (d2 hc).1)]
    split
    · rename_i hcond
      obtain ⟨e1, e2, e3, e4⟩ := d2 hcond
      split
      · rename_i hb
        rw [e4 hb]
      · exact ih (q - 1) (r + y1) (by omega) (by omega) (by omega) e2 e3
    · rename_i hcond
      rw [← d1 hcond]
theorem L6_val {x2 : AV → AV → AV → AV → AV → AV → Hp → Option β} {v2 v8 v15 v17 : AV} {h : Hp} {y1 y0 c x : Nat} (hy1 : y1 < 4294967296) (hy1' : 2147483648 ≤ y1) (hy0 : y0 < 4294967296) (hc : c < 4294967296) (hx : x < y1 * 4294967296 + y0) :
    ∀ (m q r : Nat), q < 17179869184 → r < 4294967296 → 4294967296 ≤ r + m * 2147483648 → x = q * y1 + r → (x * 4294967296 + c) / (y1 * 4294967296 + y0) ≤ q →
      f_bits_Div64_L6 P T D N x2 (m + 1) v2 v8 (U y1) (U y0) (U c) v15 (U r) v17 (U q) h = x2 v2 v8 (U c) v15 v17 (U ((x * 4294967296 + c) / (y1 * 4294967296 + y0))) h := by
  intro m
  induction m with
  | zero => intro q r _ hr hm; omega
  | succ m ih =>
    intro q r hq hr hm hxe hQ
    obtain ⟨d1, d2⟩ := digit_step hy1 hy1' hy0 hc hx hxe hQ
    show f_bits_Div64_b6 P T D N (f_bits_Div64_L6 P T D N x2 (m + 1)) x2 v2 v8 (U y1) (U y0) (U c) v15 (U r) v17 (U q) h = _
    rw [b6_step hq hr hy1 hy0 hc (fun hc => (d2 hc).1)]
    split
    · rename_i hcond
      obtain ⟨e1, e2, e3, e4⟩ := d2 hcond
      split
      · rename_i hb
        rw [e4 hb]
      · exact ih (q - 1) (r + y1) (by omega) (by omega) (by omega) e2 e3
    · rename_i hcond
      rw [← d1 hcond]
def tab8 : List UInt8 := ([0, 1] ++ List.replicate 2 2 ++ List.replicate 4 3 ++ List.replicate 8 4 ++ List.replicate 16 5 ++ List.replicate 32 6 ++ List.replicate 64 7 ++ List.replicate 128 8)
theorem tab8_get : ∀ y : Fin 256, 0 < y.val → ∃ l : Fin 9, (ByteArray.mk tab8.toArray)[y.val]? = some (UInt8.ofNat l.val) ∧ 2 ^ (l.val - 1) ≤ y.val ∧ y.val < 2 ^ l.val ∧ 0 < l.val := by decide +kernel
variable {K : AV → Hp → Option β}
theorem len_j3 {h : Hp} {y z : Nat} (hy : 0 < y) (hy' : y < 256) (hz' : z ≤ 56) :
    ∃ l : Nat, f_bits_Len64_j3 Try.prog T D N K (U y) (I z) h = K (I ((z + l : Nat) : Int)) h ∧ 2 ^ (l - 1) ≤ y ∧ y < 2 ^ l ∧ 0 < l ∧ l ≤ 8 := by
  obtain ⟨l, h1, h3, h4, h5⟩ := tab8_get ⟨y, hy'⟩ hy
  refine ⟨l.val, ?_, h3, h4, h5, by omega⟩
  unfold f_bits_Len64_j3
  simp only [U]
  rw [convK_int un_99 un_5]
  have hw : IntKind.u8.wrap (y : Int) = (y : Int) := by rw [IntKind.wrap_u8]; omega
  rw [hw]
  have hch : ∀ (k : AV → Option β), chK (.s (.string (ByteArray.mk tab8.toArray))) (.s (.int .u8 (y : Int))) k = k (.s (.int .u8 (l.val : Int))) := by
    intro k
    have h6 : (UInt8.ofNat l.val).toNat = l.val := by
      have := l.isLt
      simp
      omega
    simp only [chK, Int.toNat_natCast, h1, h6]
    rw [if_pos (by omega)]
  refine (hch _).trans ?_
  have hl := l.isLt
  rw [convK_int un_5 un_3, wrap64 (by omega) (by omega), arithK_add, wrap64 (by omega) (by omega)]
  congr 2
theorem up8 (y l s : Nat) (h0 : 0 < y / 2 ^ s) (h1 : 2 ^ (l - 1) ≤ y / 2 ^ s) (h2 : y / 2 ^ s < 2 ^ l) (h3 : 0 < l) : 2 ^ (s + l - 1) ≤ y ∧ y < 2 ^ (s + l) := by
  have hp : 0 < 2 ^ s := Nat.two_pow_pos s
  constructor
  · rw [show s + l - 1 = (l - 1) + s by omega, Nat.pow_add]
    exact (Nat.le_div_iff_mul_le hp).1 h1
  · rw [Nat.add_comm, Nat.pow_add]
    exact (Nat.div_lt_iff_lt_mul hp).1 h2
theorem len_j2 {h : Hp} {y z : Nat} (hy : 0 < y) (hy' : y < 65536) (hz : z ≤ 48) :
    ∃ l : Nat, f_bits_Len64_j2 Try.prog T D N K (U y) (I z) h = K (I ((z + l : Nat) : Int)) h ∧ 2 ^ (l - 1) ≤ y ∧ y < 2 ^ l ∧ 0 < l ∧ l ≤ 16 := by
  unfold f_bits_Len64_j2
  rw [arithK_geq, condK_bool]
  by_cases hb : 256 ≤ y
  · have hd : decide ((256 : Int) ≤ ((y : Nat) : Int)) = true := decide_eq_true (by omega)
    have hs : ∀ k : AV → Option β, reckK Try.prog .shr 99 (U y) (.s (.int .u64 8)) k = k (U (y / 2 ^ 8)) := fun k => reck_shr y 8 (by omega) k
    rw [hd, if_pos rfl, hs, arithK_add, wrap64 (by omega) (by omega)]
    obtain ⟨l, g1, g2, g3, g4, g5⟩ := len_j3 (T := T) (D := D) (N := N) (K := K) (h := h) (y := y / 2 ^ 8) (z := z + 8) (by omega) (by omega) (by omega)
    obtain ⟨u1, u2⟩ := up8 y l 8 (by omega) g2 g3 g4
    exact ⟨8 + l, by rw [show z + (8 + l) = z + 8 + l by omega, ← g1]; congr 4, u1, u2, by omega, by omega⟩
  · have hd : decide ((256 : Int) ≤ ((y : Nat) : Int)) = false := decide_eq_false (by omega)
    rw [hd, if_neg (by simp)]
    obtain ⟨l, g1, g2, g3, g4, g5⟩ := len_j3 (T := T) (D := D) (N := N) (K := K) (h := h) (y := y) (z := z) hy (by omega) (by omega)
    exact ⟨l, g1, g2, g3, g4, by omega⟩
theorem len_j1 {h : Hp} {y z : Nat} (hy : 0 < y) (hy' : y < 4294967296) (hz : z ≤ 32) :
    ∃ l : Nat, f_bits_Len64_j1 Try.prog T D N K (U y) (I z) h = K (I ((z + l : Nat) : Int)) h ∧ 2 ^ (l - 1) ≤ y ∧ y < 2 ^ l ∧ 0 < l ∧ l ≤ 32 := by
  unfold f_bits_Len64_j1
  rw [arithK_geq, condK_bool]
  by_cases hb : 65536 ≤ y
  · have hd : decide ((65536 : Int) ≤ ((y : Nat) : Int)) = true := decide_eq_true (by omega)
    have hs : ∀ k : AV → Option β, reckK Try.prog .shr 99 (U y) (.s (.int .u64 16)) k = k (U (y / 2 ^ 16)) := fun k => reck_shr y 16 (by omega) k
    rw [hd, if_pos rfl, hs, arithK_add, wrap64 (by omega) (by omega)]
    obtain ⟨l, g1, g2, g3, g4, g5⟩ := len_j2 (T := T) (D := D) (N := N) (K := K) (h := h) (y := y / 2 ^ 16) (z := z + 16) (by omega) (by omega) (by omega)
    obtain ⟨u1, u2⟩ := up8 y l 16 (by omega) g2 g3 g4
    exact ⟨16 + l, by rw [show z + (16 + l) = z + 16 + l by omega, ← g1]; congr 4, u1, u2, by omega, by omega⟩
  · have hd : decide ((65536 : Int) ≤ ((y : Nat) : Int)) = false := decide_eq_false (by omega)
    rw [hd, if_neg (by simp)]
    obtain ⟨l, g1, g2, g3, g4, g5⟩ := len_j2 (T := T) (D := D) (N := N) (K := K) (h := h) (y := y) (z := z) hy (by omega) (by omega)
    exact ⟨l, g1, g2, g3, g4, by omega⟩
theorem len_run {y : Nat} (hy : 0 < y) (hy' : y < 18446744073709551616) (h : Hp) : ∃ l : Nat, f_bits_Len64 Try.prog T D N K (U y) h = K (I l) h ∧ 2 ^ (l - 1) ≤ y ∧ y < 2 ^ l ∧ 0 < l ∧ l ≤ 64 := by
  unfold f_bits_Len64
  rw [arithK_geq, condK_bool]
  by_cases hb : 4294967296 ≤ y
  · have hd : decide ((4294967296 : Int) ≤ ((y : Nat) : Int)) = true := decide_eq_true (by omega)
    rw [hd, if_pos rfl, reck_shr32]
    obtain ⟨l, g1, g2, g3, g4, g5⟩ := len_j1 (T := T) (D := D) (N := N) (K := K) (h := h) (y := y / 4294967296) (z := 32) (by omega) (by omega) (by omega)
    obtain ⟨u1, u2⟩ := up8 y l 32 (by omega) g2 g3 g4
    exact ⟨32 + l, g1, u1, u2, by omega, by omega⟩
  · have hd : decide ((4294967296 : Int) ≤ ((y : Nat) : Int)) = false := decide_eq_false (by omega)
    rw [hd, if_neg (by simp)]
    obtain ⟨l, g1, g2, g3, g4, g5⟩ := len_j1 (T := T) (D := D) (N := N) (K := K) (h := h) (y := y) (z := 0) hy (by omega) (by omega)
    rw [Nat.zero_add] at g1
    exact ⟨l, g1, g2, g3, g4, by omega⟩
theorem F_bits_LeadingZeros64_val {y : Nat} (hy : 0 < y) (hy' : y < 18446744073709551616) (h : Hp) : ∃ s : Nat, F_bits_LeadingZeros64 [U y] h = some (I s, h) ∧ s ≤ 63 ∧ 9223372036854775808 ≤ y * 2 ^ s ∧ y * 2 ^ s < 18446744073709551616 := by
  obtain ⟨l, g1, g2, g3, g4, g5⟩ := len_run (T := t_bits_Len64) (D := d_bits_Len64) (N := NN) (K := fun v g => cvt false g v) hy hy' []
  have e59 : ∀ h, F_bits_Len64 [U y] h = some (I l, h) := F_bits_Len64_run rfl g1
  refine ⟨64 - l, F_bits_LeadingZeros64_run (v := I ((64 - l : Nat) : Int)) rfl ?_ h, by omega, ?_, ?_⟩
  · simp only [f_bits_LeadingZeros64, t_bits_LeadingZeros64_83, callK_F, e59, arithK_sub]
    rw [wrap64 (by omega) (by omega)]
    show some (I _) = some (I _)
    congr 3
    omega
  · have : 2 ^ (l - 1) * 2 ^ (64 - l) ≤ y * 2 ^ (64 - l) := Nat.mul_le_mul_right _ g2
    rw [← Nat.pow_add, show l - 1 + (64 - l) = 63 by omega] at this
    exact this
  · have : y * 2 ^ (64 - l) < 2 ^ l * 2 ^ (64 - l) := Nat.mul_lt_mul_of_pos_right g3 (Nat.two_pow_pos _)
    rw [← Nat.pow_add, show l + (64 - l) = 64 by omega] at this
    exact this
theorem div_j4 {h : Hp} {q1 q0 u c0 y s : Nat} (hq1 : q1 < 4294967296) (hq0 : q0 = (u * 4294967296 + c0) / y) (hq0' : q0 < 4294967296)
    (hy : 0 < y) (hy' : y < 18446744073709551616) (hs : s ≤ 64) : f_bits_Div64_j4 Try.prog T D N K (U y) (U s) (U c0) (U q1) (U u) (U q0) h = K (.tup [U (q1 * 4294967296 + q0), U ((u * 4294967296 + c0) % y / 2 ^ s)]) h := by
  have m1 : ∀ k : AV → Option β, arithK .mul (U q1) (.s (.int .u64 4294967296)) k = k (U (q1 * 4294967296)) := fun k => u_mul q1 4294967296 (by omega) k
  have a1 : ∀ k : AV → Option β, arithK .add (U (q1 * 4294967296)) (U q0) k = k (U (q1 * 4294967296 + q0)) := fun k => u_add _ _ (by omega) k
  have m2 : ∀ k : AV → Option β, arithK .mul (U u) (.s (.int .u64 4294967296)) k = k (U (u * 4294967296 % 18446744073709551616)) := fun k => u_mulM u 4294967296 k
  have hd := Nat.div_add_mod (u * 4294967296 + c0) y
  rw [← hq0] at hd
  have hr := Nat.mod_lt (u * 4294967296 + c0) hy
  generalize hX : (u * 4294967296 + c0) % y = R at hd hr ⊢
  have a2 : ∀ k : AV → Option β, arithK .add (U (u * 4294967296 % 18446744073709551616)) (U c0) k = k (U ((u * 4294967296 + c0) % 18446744073709551616)) := fun k => u_addM _ _ _ (by omega) (by omega) k
  have m3 : ∀ k : AV → Option β, arithK .mul (U q0) (U y) k = k (U (q0 * y % 18446744073709551616)) := fun k => u_mulM q0 y k
  rw [Nat.mul_comm y q0] at hd
  have s1 : ∀ k : AV → Option β, arithK .sub (U ((u * 4294967296 + c0) % 18446744073709551616)) (U (q0 * y % 18446744073709551616)) k = k (U R) := fun k => u_subM _ _ _ (by omega) (by omega) k
  unfold f_bits_Div64_j4
  rw [m1, a1, m2, a2, m3, s1, reck_shr _ _ hs]
theorem div_j3 {h : Hp} {q1 x y1 y0 c1 c0 y s : Nat} (hN : ∃ m, N = m + 3) (hye : y = y1 * 4294967296 + y0) (hy1 : y1 < 4294967296) (hy1' : 2147483648 ≤ y1) (hy0 : y0 < 4294967296) (hc1 : c1 < 4294967296) (hc0 : c0 < 4294967296) (hx : x < y) (hq : q1 = (x * 4294967296 + c1) / y) (hs : s ≤ 64) :
    f_bits_Div64_j3 Try.prog T D N K (U y) (U s) (U y1) (U y0) (U x) (U c1) (U c0) (U q1) h = K (.tup [U ((x * (4294967296 * 4294967296) + c1 * 4294967296 + c0) / y), U ((x * (4294967296 * 4294967296) + c1 * 4294967296 + c0) % y / 2 ^ s)]) h := by
  have hyp : 0 < y := by omega
  have hyl : y < 18446744073709551616 := by omega
  have hq1 : q1 < 4294967296 := by rw [hq]; exact Div.lt_base hc1 hx
  have m2 : ∀ k : AV → Option β, arithK .mul (U x) (.s (.int .u64 4294967296)) k = k (U (x * 4294967296 % 18446744073709551616)) := fun k => u_mulM x 4294967296 k
  have hd := Nat.div_add_mod (x * 4294967296 + c1) y
  rw [← hq] at hd
  have hr := Nat.mod_lt (x * 4294967296 + c1) hyp
  have two := Div.two_digits (b := 4294967296) (c1 := c1) (c0 := c0) (by omega) hc1 hc0 hyp hx
  rw [← hq] at two
  obtain ⟨w, hX⟩ : ∃ w, w = (x * 4294967296 + c1) % y := ⟨_, rfl⟩
  rw [← hX] at hd hr two
  have a2 : ∀ k : AV → Option β, arithK .add (U (x * 4294967296 % 18446744073709551616)) (U c1) k = k (U ((x * 4294967296 + c1) % 18446744073709551616)) := fun k => u_addM _ _ _ (by omega) (by omega) k
  have m3 : ∀ k : AV → Option β, arithK .mul (U q1) (U y) k = k (U (q1 * y % 18446744073709551616)) := fun k => u_mulM q1 y k
  rw [Nat.mul_comm y q1] at hd
  have s1 : ∀ k : AV → Option β, arithK .sub (U ((x * 4294967296 + c1) % 18446744073709551616)) (U (q1 * y % 18446744073709551616)) k = k (U w) := fun k => u_subM _ _ _ (by omega) (by omega) k
  have hdm := Nat.div_add_mod w y1
  have hrm := Nat.mod_lt w (show 0 < y1 by omega)
  have hqle : w / y1 < 17179869184 := by
    rw [Nat.div_lt_iff_lt_mul (by omega)]
    omega
  have hsl : (w * 4294967296 + c0) / (y1 * 4294967296 + y0) ≤ w / y1 := Div.start_le (by omega) (by omega) hc0
  generalize hQ : w / y1 = q0 at hdm hqle hsl
  generalize hR : w % y1 = r at hdm hrm
  rw [Nat.mul_comm y1 q0] at hdm
  have m4 : ∀ k : AV → Option β, arithK .mul (U q0) (U y1) k = k (U (q0 * y1)) := fun k => u_mul _ _ (by omega) k
  have s2 : ∀ k : AV → Option β, arithK .sub (U w) (U (q0 * y1)) k = k (U r) := fun k => by
    rw [u_sub _ _ (by omega) (by omega)]; congr 3; omega
  unfold f_bits_Div64_j3
  rw [m2, a2, m3, s1, reck_quo _ _ (by omega) (by omega), hQ, m4, s2]
  obtain ⟨m, rfl⟩ := hN
  rw [L6_val (x := w) hy1 hy1' hy0 hc0 (by omega) (m + 2) q0 r hqle (by omega) (by omega) (by omega) hsl]
  have hq0b : (w * 4294967296 + c0) / y < 4294967296 := Div.lt_base hc0 hr
  rw [← hye]
  have g := div_j4 (T := T) (D := D) (N := m + 3) (K := K) (h := h) (q1 := q1) (q0 := (w * 4294967296 + c0) / y) (u := w) (c0 := c0) (y := y) (s := s) hq1 rfl hq0b hyp hyl hs
  rw [← two.1, ← two.2]
  exact g
theorem eqK_u (a b : Nat) (h : Hp) (ty : TypeId) (k : Go.AM.K β) : eqK P false ty (U a) (U b) h k = k (.s (.bool (decide (a = b)))) := by
  rw [eqK_int]
  congr 3
  simp
  by_cases hab : a = b
  · subst hab; simp
  · have : ¬ ((a : Int) = (b : Int)) := by omega
    simp [hab, this]
theorem lo_split (lo s : Nat) (hs : s ≤ 64) (hlo : lo < 18446744073709551616) : lo / 2 ^ (64 - s) < 2 ^ s ∧ lo * 2 ^ s = lo / 2 ^ (64 - s) * 18446744073709551616 + lo * 2 ^ s % 18446744073709551616 := by
  have e64 : (18446744073709551616 : Nat) = 2 ^ (64 - s) * 2 ^ s := by rw [← Nat.pow_add, show 64 - s + s = 64 by omega]
  constructor
  · rw [Nat.div_lt_iff_lt_mul (Nat.two_pow_pos _), Nat.mul_comm, ← e64]; exact hlo
  · have h1 : lo * 2 ^ s / 18446744073709551616 = lo / 2 ^ (64 - s) := by
      rw [e64, Nat.mul_div_mul_right _ _ (Nat.two_pow_pos s)]
    have h2 := Nat.div_add_mod (lo * 2 ^ s) 18446744073709551616
    rw [h1, Nat.mul_comm] at h2
    exact h2.symm
theorem div_j2 {h : Hp} {hi lo y : Nat} (hT : T 82 = some F_bits_LeadingZeros64) (hN : ∃ m, N = m + 3) (hhi : hi < y) (hlo : lo < 18446744073709551616) (hy : y < 18446744073709551616) :
    f_bits_Div64_j2 Try.prog T D N K (U hi) (U lo) (U y) h = K (.tup [U ((hi * 18446744073709551616 + lo) / y), U ((hi * 18446744073709551616 + lo) % y)]) h := by
  unfold f_bits_Div64_j2
  have e0 : ∀ k : AV → Option β, eqK Try.prog false 99 (U hi) (.s (.int .u64 0)) h k = k (.s (.bool (decide (hi = 0)))) := fun k => eqK_u hi 0 h _ k
  rw [e0, condK_bool]
  by_cases hz : hi = 0
  · subst hz
    rw [decide_eq_true rfl, if_pos rfl, reck_quo _ _ (by omega) hlo, reck_rem _ _ (by omega)]
    simp
  · rw [decide_eq_false hz, if_neg (by simp)]
    obtain ⟨s, g1, g2, g3, g4⟩ := F_bits_LeadingZeros64_val (y := y) (by omega) hy h
    rw [callK_some hT g1]
    simp only [I]
    rw [cv_3_110]
    have hw : IntKind.u64.wrap (s : Int) = (s : Int) := wrapU (by omega) (by omega)
    rw [hw]
    obtain ⟨Y, hY⟩ : ∃ Y, Y = y * 2 ^ s := ⟨_, rfl⟩
    rw [← hY] at g3 g4
    have ySh : ∀ k : AV → Option β, reckK Try.prog .shl 99 (U y) (U s) k = k (U Y) := fun k => by
      rw [reck_shl _ _ (by omega), ← hY, Nat.mod_eq_of_lt g4]
    rw [ySh, reck_shr32, reck_mask _ g4]
    have hp : 0 < 2 ^ s := Nat.two_pow_pos s
    obtain ⟨hl1, hl2⟩ := lo_split lo s (by omega) hlo
    obtain ⟨H, hH⟩ : ∃ H, H = hi * 2 ^ s := ⟨_, rfl⟩
    obtain ⟨L, hL⟩ : ∃ L, L = lo / 2 ^ (64 - s) := ⟨_, rfl⟩
    obtain ⟨M, hM⟩ : ∃ M, M = lo * 2 ^ s % 18446744073709551616 := ⟨_, rfl⟩
    rw [← hL] at hl1
    rw [← hL, ← hM] at hl2
    have hMl : M < 18446744073709551616 := by rw [hM]; exact Nat.mod_lt _ (by decide)
    -- the shifted number, and its digits
    have hbig : (H + L) * 18446744073709551616 + M = (hi * 18446744073709551616 + lo) * 2 ^ s := by
      rw [Nat.add_mul, Nat.add_mul, hl2, hH, Nat.mul_right_comm]
      omega
    have hlt : (hi * 18446744073709551616 + lo) * 2 ^ s < y * 18446744073709551616 * 2 ^ s := Nat.mul_lt_mul_of_pos_right (by omega) hp
    have hx : H + L < Y := by
      rw [← hbig, Nat.mul_right_comm, ← hY] at hlt
      omega
    have hHl : H < 18446744073709551616 := by omega
    have hSh : ∀ k : AV → Option β, reckK Try.prog .shl 99 (U hi) (U s) k = k (U H) := fun k => by
      rw [reck_shl _ _ (by omega), ← hH, Nat.mod_eq_of_lt hHl]
    have s64 : ∀ k : AV → Option β, arithK .sub (.s (.int .u64 64)) (U s) k = k (U (64 - s)) := fun k => u_sub 64 s (by omega) (by omega) k
    have hor : H ||| L = H + L := by
      rw [hH, Nat.mul_comm]
      exact (Nat.two_pow_add_eq_or_of_lt hl1 hi).symm
    have lSh : ∀ k : AV → Option β, reckK Try.prog .shl 99 (U lo) (U s) k = k (U M) := fun k => by rw [reck_shl _ _ (by omega), ← hM]
    rw [hSh, s64, reck_shr _ _ (by omega), ← hL, reck_or _ _ hHl (by omega), hor, lSh, reck_shr32, reck_mask _ hMl]
    obtain ⟨x, hxe⟩ : ∃ x, x = H + L := ⟨_, rfl⟩
    rw [← hxe] at hx hbig ⊢
    obtain ⟨y1, hy1⟩ : ∃ y1, y1 = Y / 4294967296 := ⟨_, rfl⟩
    obtain ⟨y0, hy0⟩ : ∃ y0, y0 = Y % 4294967296 := ⟨_, rfl⟩
    obtain ⟨c1, hc1⟩ : ∃ c1, c1 = M / 4294967296 := ⟨_, rfl⟩
    obtain ⟨c0, hc0⟩ : ∃ c0, c0 = M % 4294967296 := ⟨_, rfl⟩
    rw [← hy1, ← hy0, ← hc1, ← hc0]
    have hye : Y = y1 * 4294967296 + y0 := by omega
    have b1 : y1 < 4294967296 := by omega
    have b2 : 2147483648 ≤ y1 := by omega
    have b3 : y0 < 4294967296 := by omega
    have b4 : c1 < 4294967296 := by omega
    have b5 : c0 < 4294967296 := by omega
    have hdm := Nat.div_add_mod x y1
    have hrm := Nat.mod_lt x (show 0 < y1 by omega)
    have hqle : x / y1 < 17179869184 := by
      rw [Nat.div_lt_iff_lt_mul (by omega)]
      omega
    have hsl : (x * 4294967296 + c1) / (y1 * 4294967296 + y0) ≤ x / y1 := Div.start_le (by omega) (by omega) b4
    obtain ⟨q, hq⟩ : ∃ q, q = x / y1 := ⟨_, rfl⟩
    obtain ⟨r, hr⟩ : ∃ r, r = x % y1 := ⟨_, rfl⟩
    rw [← hq] at hdm hqle hsl
    rw [← hr] at hdm hrm
    rw [Nat.mul_comm y1 q] at hdm
    have m4 : ∀ k : AV → Option β, arithK .mul (U q) (U y1) k = k (U (q * y1)) := fun k => u_mul _ _ (by omega) k
    have s2 : ∀ k : AV → Option β, arithK .sub (U x) (U (q * y1)) k = k (U r) := fun k => by
      rw [u_sub _ _ (by omega) (by omega)]; congr 3; omega
    rw [reck_quo _ _ (by omega) (by omega), ← hq, m4, s2]
    obtain ⟨m, rfl⟩ := hN
    rw [L8_val (x := x) b1 b2 b3 b4 (by omega) (m + 2) q r hqle (by omega) (by omega) (by omega) hsl]
    rw [← hye]
    have g := div_j3 (T := T) (D := D) (N := m + 3) (K := K) (h := h) (q1 := (x * 4294967296 + c1) / Y) (x := x) (y1 := y1) (y0 := y0) (c1 := c1) (c0 := c0) (y := Y) (s := s) ⟨m, rfl⟩
      hye b1 b2 b3 b4 b5 hx rfl (by omega)
    have hdig : x * (4294967296 * 4294967296) + c1 * 4294967296 + c0 = (hi * 18446744073709551616 + lo) * 2 ^ s := by
      have hM2 : M = c1 * 4294967296 + c0 := by omega
      refine Eq.trans ?_ hbig
      rw [hM2, show (4294967296 * 4294967296 : Nat) = 18446744073709551616 from by decide, Nat.add_assoc]
    rw [hdig, hY, (Div.scaled hp).1, (Div.scaled hp).2, Nat.mul_div_cancel _ hp] at g
    rw [← hY] at g
    exact g
theorem NN_3 : ∃ m, NN = m + 3 := ⟨NN - 3, (Nat.sub_add_cancel (show 3 ≤ NN by have := NN_ge; omega)).symm⟩
theorem F_bits_Div64_val {hi lo y : Nat} (hhi : hi < y) (hlo : lo < 18446744073709551616) (hy : y < 18446744073709551616) (h : Hp) :
    F_bits_Div64 [U hi, U lo, U y] h = some (.tup [U ((hi * 18446744073709551616 + lo) / y), U ((hi * 18446744073709551616 + lo) % y)], h) := by
  refine F_bits_Div64_run (v := .tup [U ((hi * 18446744073709551616 + lo) / y), U ((hi * 18446744073709551616 + lo) % y)]) rfl ?_ h
  unfold f_bits_Div64
  have e0 : ∀ k : AV → Option AV, eqK Try.prog false 99 (U y) (.s (.int .u64 0)) [] k = k (.s (.bool (decide (y = 0)))) := fun k => eqK_u y 0 [] _ k
  rw [e0, condK_bool, decide_eq_false (by omega), if_neg (by simp)]
  unfold f_bits_Div64_j1
  have e1 : ∀ k : AV → Option AV, arithK .leq (U y) (U hi) k = k (.s (.bool false)) := fun k => by
    rw [arithK_leq, decide_eq_false (by omega)]
  rw [e1, condK_bool, if_neg (by simp)]
  exact div_j2 t_bits_Div64_82 NN_3 hhi hlo hy
theorem F_bits_Mul64_val {x y : Nat} (hx : x < 18446744073709551616) (hy : y < 18446744073709551616) (h : Hp) : F_bits_Mul64 [U x, U y] h = some (.tup [U (x * y / 18446744073709551616), U (x * y % 18446744073709551616)], h) := by
  refine F_bits_Mul64_run (v := .tup [U (x * y / 18446744073709551616), U (x * y % 18446744073709551616)]) rfl ?_ h
  obtain ⟨b1, b2, b3, b4⟩ := Lib.mul64_hi x y hx hy
  have ba := Lib.half_mul_le (a := x / 4294967296) (b := y / 4294967296) (by omega) (by omega)
  have bb := Lib.half_mul_le (a := x / 4294967296) (b := y % 4294967296) (by omega) (by omega)
  have bc := Lib.half_mul_le (a := x % 4294967296) (b := y / 4294967296) (by omega) (by omega)
  unfold f_bits_Mul64
  rw [reck_mask _ hx, reck_shr32, reck_mask _ hy, reck_shr32, u_mul _ _ b1, u_mul _ _ (by omega), reck_shr32, u_add _ _ b2, reck_mask _ b2, reck_shr32, u_mul _ _ (by omega), u_add _ _ b3, u_mul _ _ (by omega), u_add _ _ (by omega), reck_shr32, u_add _ _ (by omega), u_mulM]
  show some (AV.tup _) = _
  rw [b4]
end
end Go.AM


namespace Go.AM
open Go.Proofs
set_option linter.unusedVariables false
set_option linter.unusedSimpArgs false
set_option linter.constructorNameAsVariable false
set_option maxRecDepth 20000
section
variable {β : Type} {P : Program} {T : Tab} {D : DTab} {N : Nat} {K : AV → Hp → Option β}
abbrev encI (n : Int) : List AV := [I n]
theorem IndexFunc_int_L2 {x0 : Hp → Option β} {xr : AV → Hp → Option β} {l : List Int} {b : Bool} {fv : AV} {h : Hp} {p : Int → Bool} (hl : l.length < 4611686018427387904) (hp : ∀ x ∈ l, ∀ k : AV → Hp → Option β, callVK T fv [I x] h k = k (B (p x)) h) :
    ∀ (n i : Nat), i ≤ l.length → l.length < i + n → f_slices_IndexFunc_int_L2 P T D N x0 xr n (.lst 1 b (l.map encI)) fv (I l.length) (I i) h = match (l.drop i).findIdx? p with | some j => xr (I ((i + j : Nat) : Int)) h | none => x0 h := by
  intro n
  induction n with
  | zero => intro i h1 h2; omega
  | succ n ih =>
    intro i h1 h2
    show f_slices_IndexFunc_int_b2 P T D N (f_slices_IndexFunc_int_L2 P T D N x0 xr n) x0 xr _ _ _ _ h = _
    unfold f_slices_IndexFunc_int_b2
    rcases Nat.lt_or_ge i l.length with hi | hi
    · have hx : l[i]? = some l[i] := List.getElem?_eq_getElem hi
      have hlt : ((i : Int) < (l.length : Int)) := by omega
      have hw : IntKind.i64.wrap ((i : Int) + 1) = ((i + 1 : Nat) : Int) := by rw [wrap64 (by omega) (by omega)]; omega
      have hpx := hp l[i] (List.getElem_mem hi)
      rw [List.drop_eq_getElem_cons hi, List.findIdx?_cons]
      simp [hlt, hx, hw, encI] at hpx ⊢
      rw [hpx]
      cases hc : p l[i] with
      | true => simp
      | false =>
        have h3 := ih (i + 1) hi (by omega)
        rw [show ((i : Int) + 1) = ((i + 1 : Nat) : Int) by omega]
        simp only [Bool.false_eq_true, if_false]
        refine h3.trans ?_
        cases (List.drop (i + 1) l).findIdx? p with
        | none => rfl
        | some j =>
          show xr (I ((i + 1 + j : Nat) : Int)) h = xr (I ((i + (j + 1) : Nat) : Int)) h
          rw [show i + 1 + j = i + (j + 1) by omega]
    · have : i = l.length := by omega
      subst this
      simp
theorem IndexFunc_int_K {l : List Int} {b : Bool} {fv : AV} {h : Hp} {p : Int → Bool} {K : AV → Hp → Option β} (hl : l.length < N) (hN : N < 4611686018427387904) (hp : ∀ x ∈ l, ∀ k : AV → Hp → Option β, callVK T fv [I x] h k = k (B (p x)) h) :
    f_slices_IndexFunc_int P T D N K (.lst 1 b (l.map encI)) fv h = K (I (match l.findIdx? p with | some j => (j : Int) | none => -1)) h := by
  unfold f_slices_IndexFunc_int
  simp only [lenK_lst, List.length_map]
  have := IndexFunc_int_L2 (P := P) (D := D) (N := N) (b := b) (x0 := fun h => f_slices_IndexFunc_int_j1 P T D N K h) (xr := fun a h => K a h) (by omega) hp N 0 (Nat.zero_le _) (by omega)
  simp only [List.drop_zero] at this
  refine this.trans ?_
  cases l.findIdx? p with
  | none => rfl
  | some j => simp
def amt (n : Int) : Bool := decide (0 ≤ n) && decide (n ≤ 128849018880000)
theorem F_proportion_amount_val (a : Int) (h : Hp) : F_proportion_amount [I a] h = some (B (amt a), h) := F_proportion_amount_run rfl (by simp [f_proportion_amount, amt]) h
theorem F_proportion_amounts_1_val (a : Int) (h : Hp) : F_proportion_amounts_1 [I a] h = some (B (!amt a), h) := F_proportion_amounts_1_run rfl (by simp [f_proportion_amounts_1, F_proportion_amount_val]) h
theorem F_ContainsFunc_amounts (l : List Int) (hl : l.length < 1000) (b : Bool) (h : Hp) : F_slices_ContainsFunc_int__proportion_amounts_1 [.lst 1 b (l.map encI), .fn 76 []] h = some (B (l.any fun n => !amt n), h) := by
  have e : ∀ h, F_slices_IndexFunc_int__proportion_amounts_1 [.lst 1 b (l.map encI), .fn 76 []] h = some (I (match l.findIdx? (fun n => !amt n) with | some j => (j : Int) | none => -1), h) :=
    F_slices_IndexFunc_int__proportion_amounts_1_run rfl (by
      simp only [nrm, nrmC]
      rw [IndexFunc_int_K (p := fun n => !amt n) (by have := NN_ge; omega) NN_lt (fun x _ k => by simp [F_proportion_amounts_1_val])]
      rfl)
  refine F_slices_ContainsFunc_int__proportion_amounts_1_run rfl ?_ h
  simp only [nrm, nrmC, f_slices_ContainsFunc_int, t_slices_ContainsFunc_int__proportion_amounts_1_68, callK_F, e]
  have : (l.any fun n => !amt n) = (l.findIdx? (fun n => !amt n)).isSome := by rw [List.findIdx?_isSome]
  rw [this]
  cases l.findIdx? (fun n => !amt n) <;> simp
theorem F_proportion_amounts_val (l : List Int) (hl : l.length < 1000) (b : Bool) (h : Hp) : F_proportion_amounts [.lst 1 b (l.map encI)] h = some (B (l.all amt), h) := by
  refine F_proportion_amounts_run rfl ?_ h
  simp [f_proportion_amounts, F_ContainsFunc_amounts l hl, List.all_eq_not_any_not]
theorem F_proportion_product_val {a b : Nat} (ha : a < 9223372036854775808) (hb : b < 9223372036854775808) (h : Hp) : F_proportion_product [I a, I b] h = some (.agg [U (a * b / 18446744073709551616), U (a * b % 18446744073709551616)], h) := by
  have e54 : ∀ hh, F_bits_Mul64 [U a, U b] hh = some (.tup [U (a * b / 18446744073709551616), U (a * b % 18446744073709551616)], hh) := fun hh => F_bits_Mul64_val (by omega) (by omega) hh
  generalize a * b / 18446744073709551616 = p at *
  generalize a * b % 18446744073709551616 = q at *
  refine F_proportion_product_run rfl ?_ h
  simp [f_proportion_product, wrapU (show (0 : Int) ≤ (a : Int) by omega) (by omega), wrapU (show (0 : Int) ≤ (b : Int) by omega) (by omega), e54, buildK, fillA]
theorem F_proportion_divided_val {a b c : Nat} (ha : a < 9223372036854775808) (hb : b < 9223372036854775808) (hc : c < 9223372036854775808) (hc0 : 0 < c) (h : Hp) :
    F_proportion_divided [I a, I b, I c] h = some (if a * b / c ≤ 128849018880000 then .tup [I ((a * b / c : Nat) : Int), I ((a * b % c : Nat) : Int), B true] else .tup [I 0, I 0, B false], h) := by
  obtain ⟨p, hp⟩ : ∃ p, p = a * b / 18446744073709551616 := ⟨_, rfl⟩
  obtain ⟨q, hq⟩ : ∃ q, q = a * b % 18446744073709551616 := ⟨_, rfl⟩
  have e44 := fun hh => F_proportion_product_val ha hb hh
  rw [← hp, ← hq] at e44
  have hql : q < 18446744073709551616 := by omega
  have hab : p * 18446744073709551616 + q = a * b := by omega
  have wc : IntKind.u64.wrap (c : Int) = (c : Int) := wrapU (by omega) (by omega)
  refine F_proportion_divided_run rfl ?_ h
  by_cases hpc : c ≤ p
  · have hbig : ¬ a * b / c ≤ 128849018880000 := by
      have h1 : 18446744073709551616 ≤ a * b / c := by
        rw [Nat.le_div_iff_mul_le hc0]
        have : 18446744073709551616 * c ≤ p * 18446744073709551616 := by rw [Nat.mul_comm]; exact Nat.mul_le_mul_right _ hpc
        omega
      omega
    have hpc' : (c : Int) ≤ (p : Int) := by omega
    rw [if_neg hbig]
    simp [f_proportion_divided, e44, iaA, wc, hpc, hpc']
  · have e45 := fun hh => F_bits_Div64_val (hi := p) (lo := q) (y := c) (by omega) hql (by omega) hh
    rw [hab] at e45
    obtain ⟨Q, hQ⟩ : ∃ Q, Q = a * b / c := ⟨_, rfl⟩
    obtain ⟨R, hR⟩ : ∃ R, R = a * b % c := ⟨_, rfl⟩
    have hRl : R < c := by rw [hR]; exact Nat.mod_lt _ hc0
    rw [← hQ, ← hR] at e45 ⊢
    have wR : IntKind.i64.wrap (R : Int) = (R : Int) := wrap64 (by omega) (by omega)
    by_cases hq2 : Q ≤ 128849018880000
    · have wQ : IntKind.i64.wrap (Q : Int) = (Q : Int) := wrap64 (by omega) (by omega)
      have h3 : ¬ (128849018880000 : Int) < (Q : Int) := by omega
      simp [f_proportion_divided, e44, iaA, wc, hpc, e45, hq2, h3, wR, wQ]
    · have h3 : (128849018880000 : Int) < (Q : Int) := by omega
      simp [f_proportion_divided, e44, iaA, wc, hpc, e45, hq2, h3]
def propOf (a b c : Int) : Int × Int × Int :=
  if (amt a && amt b && amt c) = false then (0, 0, 2) else if c = 0 then (0, 0, 16) else if a * b / c ≤ 128849018880000 then (a * b / c, a * b % c, 0) else (0, 0, 15)
theorem F_proportion_Of_val (a b c : Int) (h : Hp) : F_proportion_Of [I a, I b, I c] h = some (.tup [I (propOf a b c).1, I (propOf a b c).2.1, I (propOf a b c).2.2], h) := by
  refine F_proportion_Of_run rfl ?_ h
  have e35 : F_proportion_amounts [.sl 1 0 0 3 3 true] [.arr 1 [[I a], [I b], [I c]] true false] = some (B (amt a && amt b && amt c), [.arr 1 [[I a], [I b], [I c]] true false]) := by
    refine closedX_sl1 (es := [a, b, c].map encI) rfl rfl rfl rfl ?_
    have := F_proportion_amounts_val [a, b, c] (by simp) false []
    simp only [List.all_cons, List.all_nil, Bool.and_true, ← Bool.and_assoc] at this
    exact this
  cases hm : (amt a && amt b && amt c) with
  | false => simp [f_proportion_Of, bsE, fillS, e35, hm, propOf]
  | true =>
    simp only [Bool.and_eq_true] at hm
    obtain ⟨⟨m1, m2⟩, m3⟩ := hm
    by_cases hc : c = 0
    · subst hc
      simp [f_proportion_Of, bsE, fillS, e35, m1, m2, m3, propOf]
    · simp only [amt, Bool.and_eq_true, decide_eq_true_eq] at m1 m2 m3
      obtain ⟨x, rfl⟩ := Int.eq_ofNat_of_zero_le m1.1
      obtain ⟨y, rfl⟩ := Int.eq_ofNat_of_zero_le m2.1
      obtain ⟨z, rfl⟩ := Int.eq_ofNat_of_zero_le m3.1
      have e36 := fun hh => F_proportion_divided_val (a := x) (b := y) (c := z) (by omega) (by omega) (by omega) (by omega) hh
      have q1 : ((x : Int) * y / z) = ((x * y / z : Nat) : Int) := by push_cast; rfl
      have q2 : ((x : Int) * y % z) = ((x * y % z : Nat) : Int) := by push_cast; rfl
      unfold propOf
      rw [q1, q2]
      have hz : z ≠ 0 := by omega
      have a1 : amt x = true := by simp [amt]; omega
      have a2 : amt y = true := by simp [amt]; omega
      have a3 : amt z = true := by simp [amt]; omega
      generalize x * y / z = q at *
      generalize x * y % z = r at *
      by_cases hq : q ≤ 128849018880000
      · have hq' : (q : Int) ≤ 128849018880000 := by omega
        rw [if_pos hq] at e36
        simp [f_proportion_Of, bsE, fillS, e35, a1, a2, a3, hc, hz, e36, hq']
      · have hq' : ¬ (q : Int) ≤ 128849018880000 := by omega
        rw [if_neg hq] at e36
        simp [f_proportion_Of, bsE, fillS, e35, a1, a2, a3, hc, hz, e36, hq']
end
end Go.AM


namespace Go.AM
set_option linter.unusedVariables false
set_option linter.unusedSimpArgs false
set_option linter.constructorNameAsVariable false
set_option maxRecDepth 30000
variable {β : Type} {P : Program} {kt : TypeId} {kk : IntKind}
end Go.AM


namespace Go.AM
set_option linter.unusedVariables false
def idOf : AV → Option Nat
  | .sl _ id .. => some id
  | _ => none
@[simp] theorem idOf_sl (sz id off len fr : Nat) (full : Bool) : idOf (.sl sz id off len fr full) = some id := rfl
@[simp] theorem idOf_nilS : idOf nilS = none := rfl
def Gro {α : Type} (sz : Nat) (f : α → List AV) (h : Hp) (v : AV) (l : List α) : Prop := (l = [] ∧ v = nilS) ∨ (l ≠ [] ∧ ∃ k, v = .sl sz k 0 l.length l.length false ∧ h[k]? = some (.arr sz (l.map f) true false))
section
variable {α β : Type} {sz : Nat} {f : α → List AV} {h h' : Hp} {v : AV} {l : List α}
theorem Gro.nil : Gro sz f h nilS [] := .inl ⟨rfl, rfl⟩
theorem Gro.keep (O : Gro sz f h v l) (hk : ∀ k o, idOf v = some k → h[k]? = some o → h'[k]? = some o) : Gro sz f h' v l := by
  rcases O with O | ⟨h1, k, rfl, h2⟩
  · exact .inl O
  · exact .inr ⟨h1, k, rfl, hk k _ rfl h2⟩
theorem Gro.app (O : Gro sz f h v l) (x : List AObj) : Gro sz f (h ++ x) v l := O.keep fun k o _ hk => get_app hk
theorem Gro.lt (O : Gro sz f h v l) {k : Nat} (hk : idOf v = some k) : k < h.length := by
  rcases O with ⟨_, rfl⟩ | ⟨h1, j, rfl, h2⟩
  · simp at hk
  · simp at hk; subst hk; exact (List.getElem?_eq_some_iff.1 h2).1
theorem Gro.len (O : Gro sz f h v l) (k : K β) : lenK v k = k (I l.length) := by
  rcases O with ⟨rfl, rfl⟩ | ⟨h1, j, rfl, h2⟩ <;> simp
theorem Gro.cvts (O : Gro sz f h v l) (hf : ∀ x st, (f x).all (fun c => bif st then isS c else plain c) = true) : ∃ w, (∀ st, Go.AM.cvt st h v = some w) ∧ nrm (.l sz) w = .lst sz l.isEmpty (l.map f) := by
  rcases O with ⟨rfl, rfl⟩ | ⟨h1, k, rfl, h2⟩
  · exact ⟨nilS, fun st => rfl, rfl⟩
  · have he : l.isEmpty = false := by simpa using h1
    refine ⟨.lst sz false (l.map f), fun st => cvt_whole h2 (by simp) (by simp) (okE_map fun x => hf x st), ?_⟩
    rw [he]; rfl
theorem Gro.snoc (β : Type) (O : Gro sz f h v l) {by_ m : Nat} {z : α} {b : Bool} (hm : h[m]? = some (.arr sz [f z] true false)) (hv : idOf v ≠ some m) (hf : ∀ x ∈ z :: l, (f x).length = sz) (hl : (l.length + 1) * by_ ≤ 140737488355328) :
    ∃ v' h', (∀ k : AV → Hp → Option β, effK (appE sz by_ v (.sl sz m 0 1 1 b) h h.length) h k = k v' h') ∧ Gro sz f h' v' (l ++ [z]) ∧ h.length ≤ h'.length ∧ (∀ j o, h[j]? = some o → idOf v ≠ some j → h'[j]? = some o) ∧ (idOf v' = idOf v ∨ idOf v' = some h.length) := by
  have hz : (f z).length = sz := hf z (by simp)
  rcases O with ⟨rfl, rfl⟩ | ⟨h1, k, rfl, h2⟩
  · have hb : by_ ≤ 140737488355328 := by simpa using hl
    refine ⟨.sl sz h.length 0 1 1 false, h ++ [.arr sz [f z] true false], fun k => ?_, .inr ⟨by simp, h.length, rfl, by simp⟩, by simp, fun j o hj _ => get_app hj, .inr rfl⟩
    simp [appE, readSl, hm, hz, hb, effK, ap]
  · have hkl := (List.getElem?_eq_some_iff.1 h2).1
    refine ⟨.sl sz k 0 (l ++ [z]).length (l ++ [z]).length false, h.set k (.arr sz ((l ++ [z]).map f) true false), fun k' => ?_, .inr ⟨by simp, k, rfl, by simp [hkl]⟩, by simp, fun j o hj hn => ?_, .inl rfl⟩
    · simp [appE, readSl, hm, h2, hz, hl, effK, ap]
    · have hkj : k ≠ j := by rintro rfl; exact hn rfl
      rw [List.getElem?_set_ne hkj]; exact hj
end
theorem closedX_scal' {shp shr : List Sh} {F : Fun} {h : Hp} {args as' asl : List AV} {v : AV} {h0 : Hp} (ha : cvts false h args = some as') (hn : nrms shp as' = nrms shp asl) (hp : plains asl = true) (hF : closedX shp shr F asl h0 = some (v, h0)) (hs : scal v = true) : closedX shp shr F args h = some (v, h) := by
  unfold closedX at hF ⊢
  rw [cvts_plain hp] at hF
  rw [ha]
  dsimp only at hF ⊢
  rw [hn]
  split at hF <;> try (simp at hF; done)
  rename_i w g hR
  split at hF <;> try (simp at hF; done)
  rename_i w' hw
  simp only [Option.some.injEq, Prod.mk.injEq] at hF
  obtain ⟨rfl, -⟩ := hF
  rw [hp, Bool.not_true] at hw
  have hw2 : ∀ st, cvt st g w = some w' := fun st => by
    cases st with
    | false => exact hw
    | true => exact cvt_scal hw (nrmR_scal hs)
  rw [hw2]
end Go.AM


namespace Go.AM
set_option linter.unusedVariables false
variable {α β : Type} {sz : Nat} {enc : α → List AV} {h : Hp}
structure Part (enc : α → List AV) (h : Hp) (p : AV × List α) : Prop where
  read : readSl h p.1 = some (p.2.map enc)
  len : lenK p.1 some = some (I p.2.length)
theorem Part.lenK {p : AV × List α} (q : Part enc h p) (k : K β) : Go.AM.lenK p.1 k = k (I p.2.length) := by rw [lenK_nat, q.len]; rfl
theorem Part.app {p : AV × List α} (q : Part enc h p) (g : List AObj) : Part enc (h ++ g) p := ⟨readSl_local q.read fun id _ o ho => get_app ho, q.len⟩
theorem Part.nil : Part enc h (nilS, []) := ⟨rfl, rfl⟩
theorem Part.lst (sz : Nat) (b : Bool) (l : List α) : Part enc h (.lst sz b (l.map enc), l) := ⟨rfl, by simp⟩
theorem Part.sl {sz id n : Nat} {b nl : Bool} {l : List α} (hid : h[id]? = some (.arr sz (l.map enc) true nl)) (hn : l.length = n) : Part enc h (.sl sz id 0 n n b, l) := by
  subst hn
  have ht : (l.map enc).take l.length = l.map enc := List.take_of_length_le (by simp)
  exact ⟨by simp [readSl, hid, ht], by simp⟩
def total (ps : List (AV × List α)) : Nat := (ps.map (·.2.length)).sum
def flat (ps : List (AV × List α)) : List α := ps.flatMap (·.2)
theorem total_snoc (ps : List (AV × List α)) (p : AV × List α) : total (ps ++ [p]) = total ps + p.2.length := by simp [total]
theorem total_app (ps qs : List (AV × List α)) : total (ps ++ qs) = total ps + total qs := by simp [total]
theorem total_cons (p : AV × List α) (ps : List (AV × List α)) : total (p :: ps) = p.2.length + total ps := by simp [total]
theorem flat_length' (ps : List (AV × List α)) : (flat ps).length = total ps := by
  induction ps with
  | nil => rfl
  | cons p ps ih => simp only [flat, List.flatMap_cons, List.length_append, total_cons] at ih ⊢; rw [ih]
theorem flat_snoc (ps : List (AV × List α)) (p : AV × List α) : flat (ps ++ [p]) = flat ps ++ p.2 := by simp [flat]
theorem appE_fill {sz by_ n id base : Nat} {h : Hp} {A B news : List (List AV)} {x : AV} (hr : readSl h x = some news) (hid : h[id]? = some (.arr sz (A ++ B) true false)) (hn : A.length + B.length = n) (hl : news.length ≤ B.length) (hs : (news.all fun e => e.length == sz) = true) (hb : n * by_ ≤ 140737488355328) :
    appE sz by_ (.sl sz id 0 A.length n false) x h base = some (.sl sz id 0 (A.length + news.length) n false, ⟨[(id, .arr sz (A ++ news ++ B.drop news.length) true false)], [], id :: idsOf x⟩) := by
  have hb2 : (A.length + news.length) * by_ ≤ 140737488355328 := Nat.le_trans (Nat.mul_le_mul_right _ (by omega)) hb
  have hl2 : (A ++ B).length = n := by simpa using hn
  by_cases he : A.length = n
  · have hB : B = [] := List.eq_nil_of_length_eq_zero (by omega)
    subst hB
    have hN : news = [] := List.eq_nil_of_length_eq_zero (by simpa using hl)
    subst hN
    simp [appE, hr, hid, he, hb]
  · have h1 : (A ++ B).take A.length = A := by simp
    have h2 : (A ++ B).drop (A.length + news.length) = B.drop news.length := by rw [List.drop_append, List.drop_of_length_le (by omega)]; simp
    unfold appE
    simp only [hr, hid]
    rw [if_pos ⟨hl2, trivial, hb2, hs⟩, if_neg (by simp), if_neg (by omega), if_pos ⟨trivial, trivial, by omega⟩]
    simp only [Nat.zero_add, h1, h2]
end Go.AM
namespace Go.AM
def notBehind {α : Type} (bef : α → α → Bool) : Option α → α → Bool
  | some q, p => !bef q p
  | none, _ => false
@[simp] theorem notBehind_some {α : Type} (bef : α → α → Bool) (q p : α) : notBehind bef (some q) p = !bef q p := rfl
@[simp] theorem notBehind_none {α : Type} (bef : α → α → Bool) (p : α) : notBehind bef none p = false := rfl
def checkG {α : Type} (bad : α → Bool) (bef : α → α → Bool) : Option α → List α → Int → Option (Int × Int)
  | _, [], _ => none
  | prev, p :: l, i => if bad p then some (i, 2) else if notBehind bef prev p then some (i, 5) else checkG bad bef (some p) l (i + 1)
theorem checkG_ne {α : Type} {bad : α → Bool} {bef : α → α → Bool} : ∀ (l : List α) (prev : Option α) (i : Int) (x : Int × Int), checkG bad bef prev l i = some x → x.2 ≠ 0
  | [], prev, i, x, h => by simp [checkG] at h
  | p :: l, prev, i, x, h => by
    simp only [checkG] at h
    split at h
    · simp at h; subst h; simp
    · split at h
      · simp at h; subst h; simp
      · exact checkG_ne l _ _ x h
theorem checkG_none {α : Type} {bad : α → Bool} {bef : α → α → Bool} (tr : ∀ a b c, bef a b = true → bef b c = true → bef a c = true) : ∀ (l : List α) (prev : Option α) (i : Int), checkG bad bef prev l i = none → (∀ p ∈ l, bad p = false) ∧ l.Pairwise (fun a b => bef a b = true) ∧ ∀ q, prev = some q → ∀ p ∈ l, bef q p = true
  | [], prev, i, h => by simp
  | p :: l, prev, i, h => by
    simp only [checkG] at h
    split at h
    · simp at h
    · rename_i hb
      split at h
      · simp at h
      · rename_i ho
        obtain ⟨h1, h2, h3⟩ := checkG_none tr l (some p) (i + 1) h
        have h4 := h3 p rfl
        have hq : ∀ q, prev = some q → bef q p = true := by
          rintro q rfl
          simpa using ho
        refine ⟨by simpa using ⟨by simpa using hb, h1⟩, by simpa using ⟨h4, h2⟩, ?_⟩
        rintro q hq' r hr
        rcases List.mem_cons.1 hr with rfl | hr
        · exact hq q hq'
        · exact tr q p r (hq q hq') (h4 r hr)
end Go.AM


namespace Go.AM
set_option linter.unusedVariables false
set_option linter.unusedSimpArgs false
variable {β : Type} {P : Program} {ty : TypeId}
namespace Cal
def leapB (y : Int) : Bool := y % 4 == 0 && (y % 100 != 0 || y % 400 == 0)
def len (y m : Int) : Int := if m = 2 then (if leapB y then 29 else 28) else if m = 4 ∨ m = 6 ∨ m = 9 ∨ m = 11 then 30 else 31
def leaps (n : Int) : Int := n / 4 - n / 100 + n / 400
def bef (y : Int) : Int := 365 * (y - 1900) + leaps (y - 1) - 460
def yl (y : Int) : Int := if leapB y then 366 else 365
def pre (y m : Int) : Int := (if m ≤ 1 then 0 else if m = 2 then 31 else if m = 3 then 59 else if m = 4 then 90 else if m = 5 then 120 else if m = 6 then 151 else if m = 7 then 181 else if m = 8 then 212 else if m = 9 then 243 else if m = 10 then 273 else if m = 11 then 304 else if m = 12 then 334 else 365) + (if 3 ≤ m ∧ leapB y = true then 1 else 0)
def dn (y m : Int) : Int := bef y + pre y m
theorem leap_iff (y : Int) : leapB y = true ↔ y % 4 = 0 ∧ (y % 100 ≠ 0 ∨ y % 400 = 0) := by
  simp [leapB]
theorem bef_succ (y : Int) : bef (y + 1) = bef y + yl y := by
  unfold bef leaps yl
  by_cases h : leapB y = true
  · rw [if_pos h]; rw [leap_iff] at h; omega
  · rw [if_neg h]; rw [leap_iff] at h; omega
theorem months {m : Int} (h1 : 1 ≤ m) (h2 : m ≤ 12) : m = 1 ∨ m = 2 ∨ m = 3 ∨ m = 4 ∨ m = 5 ∨ m = 6 ∨ m = 7 ∨ m = 8 ∨ m = 9 ∨ m = 10 ∨ m = 11 ∨ m = 12 := by omega
theorem pre_bd (y : Int) {m : Int} (h1 : 1 ≤ m) (h2 : m ≤ 12) : 0 ≤ pre y m ∧ pre y m + len y m ≤ yl y := by
  rcases months h1 h2 with rfl | rfl | rfl | rfl | rfl | rfl | rfl | rfl | rfl | rfl | rfl | rfl <;> cases h : leapB y <;> simp [pre, len, yl, h]
structure Is (day y m d : Int) : Prop where
  year : 1900 ≤ y
  month : 1 ≤ m ∧ m ≤ 12
  dy : 1 ≤ d ∧ d ≤ len y m
  at_ : dn y m + (d - 1) = day
theorem Is.lo {day y m d : Int} (h : Is day y m d) : bef y ≤ day ∧ day < bef (y + 1) := by
  have h1 := h.at_; have h2 := pre_bd y h.month.1 h.month.2; have h3 := h.dy; have h4 := bef_succ y
  unfold dn at h1
  omega
end Cal
end Go.AM


namespace Go.AM
open Go.Proofs
set_option linter.unusedVariables false
set_option linter.unusedSimpArgs false
set_option linter.constructorNameAsVariable false
set_option maxRecDepth 20000
def win (n lo hi : Int) : Bool := decide (lo ≤ n) && decide (n ≤ hi)
section
variable {β : Type} {P : Program} {T : Tab} {D : DTab} {N : Nat} {K : AV → Hp → Option β}
set_option maxHeartbeats 2000000 in
end
end Go.AM


namespace Go.AM
open Go.Proofs
set_option linter.unusedVariables false
set_option linter.unusedSimpArgs false
set_option linter.constructorNameAsVariable false
set_option maxRecDepth 20000
structure Gd where
  id : Int
  cls : Int
  alc : Int
deriving DecidableEq
def encG (g : Gd) : List AV := [I g.id, I g.cls, I g.alc]
def badG (g : Gd) : Bool := !win g.id 1 1073741824 || !win g.cls 1 9 || !win g.alc 1 10737418240000
def ltG (a b : Gd) : Bool := decide (a.id < b.id)
def checkD (l : List Gd) : Int × Int := if 64 < l.length then (-1, 8) else (checkG badG ltG none l 0).getD (-1, 0)
def rightG (l : List Gd) : Bool := (checkD l).2 == 0
section
variable {β : Type} {P : Program} {T : Tab} {D : DTab} {N : Nat} {K : AV → Hp → Option β}
theorem F_receipt_in_val (a b c : Int) (h : Hp) : F_receipt_in [I a, I b, I c] h = some (B (win a b c), h) := F_receipt_in_run rfl (by simp [f_receipt_in, win]) h
theorem receipt_Check_L2 (hT1 : T 41 = some F_receipt_in) {x0 : Hp → Option β} {xr : AV → AV → Hp → Option β} {X : Option β} {R : Int → Int → Option β} (hx : ∀ h, x0 h = X) (hr : ∀ a b h, xr (I a) (I b) h = R a b) (l : List Gd) (b : Bool) (hl : l.length < 1000000) :
    ∀ (n : Nat) (pre post : List Gd) (h : Hp), l = pre ++ post → post.length < n →
    f_receipt_Check_L2 P T D N x0 xr n (.lst 3 b (l.map encG)) (.lst 3 b (l.map encG)) (I l.length) (I pre.length) h = match checkG badG ltG pre.getLast? post pre.length with | none => X | some (a, b) => R a b := by
  intro n
  induction n with
  | zero => intro pre post h _ h2; omega
  | succ n ih =>
    intro pre post h hc hn
    show f_receipt_Check_b2 P T D N (f_receipt_Check_L2 P T D N x0 xr n) x0 xr _ _ _ _ h = _
    cases post with
    | nil =>
      have : l = pre := by simpa using hc
      subst this
      simp [f_receipt_Check_b2, hx, checkG]
    | cons c post =>
      have hi : pre.length < l.length := by rw [hc]; simp
      have hci : l[pre.length]? = some c := by rw [hc]; simp
      have hlt : ((pre.length : Int) < (l.length : Int)) := by omega
      have hw : IntKind.i64.wrap ((pre.length : Int) + 1) = (((pre ++ [c]).length : Nat) : Int) := by rw [wrap64 (by omega) (by omega)]; simp
      have step := fun h => ih (pre ++ [c]) post h (by simpa using hc) (by simpa using hn)
      have hgl : (pre ++ [c]).getLast? = some c := by simp
      rw [hgl] at step
      have e1 : (((pre ++ [c]).length : Nat) : Int) = (pre.length : Int) + 1 := by simp
      rw [checkG]
      have ic : ∀ k : Go.AM.K β, iaK 3 (.lst 3 b (l.map encG)) (I pre.length) k = k (.ep (encG c) 0) := fun k => iaK_at pre.length rfl hci k
      rw [e1] at step hw
      by_cases hb : badG c = true
      · have hb' := hb
        simp only [badG] at hb'
        simp only [f_receipt_Check_b2, arithK_lss, hlt, decide_true, condK_bool, if_true, ic]
        simp [encG, hT1, F_receipt_in_val, hb, hb', hr]
      · have hb' : badG c = false := by simpa using hb
        have hb2 := hb'
        simp only [badG] at hb2
        rw [hb', if_neg (by simp)]
        simp only [f_receipt_Check_b2, arithK_lss, hlt, decide_true, condK_bool, if_true, ic]
        rcases List.eq_nil_or_concat pre with rfl | ⟨pre', q, hq⟩
        · have w1 : IntKind.i64.wrap 1 = 1 := wrap64 (by omega) (by omega)
          simp only [List.length_nil] at step ⊢
          simp [encG, hT1, F_receipt_in_val, hb2, w1]
          simpa [encG] using step (h ++ [.arr 3 [[I c.id, I c.cls, I c.alc]] true false])
        · have hq : pre = pre' ++ [q] := by rw [hq]; simp
          have hgp : pre.getLast? = some q := by rw [hq]; simp
          have hqi : l[pre'.length]? = some q := by rw [hc, hq]; simp
          have hpl : (pre.length : Int) = (pre'.length : Int) + 1 := by rw [hq]; simp
          have iq : ∀ k : Go.AM.K β, iaK 3 (.lst 3 b (l.map encG)) (I pre'.length) k = k (.ep (encG q) 0) := fun k => iaK_at pre'.length rfl hqi k
          rw [hgp]
          clear hgp hq ih hc
          have hlb : (pre.length : Int) < 1000000 := by omega
          generalize (pre.length : Int) = i at *
          have h0 : (0 : Int) < i := by omega
          have w2 : IntKind.i64.wrap (i - 1) = (pre'.length : Int) := by rw [wrap64 (by omega) (by omega)]; omega
          by_cases ho : q.id < c.id
          · have ho2 : ¬ c.id ≤ q.id := by omega
            have ho3 : ltG q c = true := by simpa [ltG] using ho
            simp [encG, hqi, hT1, F_receipt_in_val, hb2, h0, w2, ho2, ho3, hw]
            simpa [encG] using step _
          · have ho2 : c.id ≤ q.id := by omega
            have ho3 : ltG q c = false := by simpa [ltG] using ho2
            simp [encG, hqi, hT1, F_receipt_in_val, hb2, h0, w2, ho2, ho3, hr]
theorem F_receipt_Check_val (l : List Gd) (b : Bool) (hl : l.length < 1000000) (h : Hp) : F_receipt_Check [.lst 3 b (l.map encG)] h = some (.tup [I (checkD l).1, I (checkD l).2], h) := by
  refine F_receipt_Check_run rfl ?_ h
  unfold checkD
  by_cases h1 : 64 < l.length
  · have h1' : (64 : Int) < (l.length : Int) := by omega
    simp [f_receipt_Check, h1, h1']
  · have h1' : ¬ (64 : Int) < (l.length : Int) := by omega
    have L := receipt_Check_L2 (P := Try.prog) (T := t_receipt_Check) (D := d_receipt_Check) (N := NN) (x0 := fun h => f_receipt_Check_j1 Try.prog t_receipt_Check d_receipt_Check NN (fun v g => cvt false g v) h) (xr := fun a b h => cvt false h (.tup [a, b])) rfl
      (X := some (.tup [I (-1), I 0])) (R := fun a b => some (.tup [I a, I b])) (fun h => rfl) (fun a b h => rfl) l b hl NN [] l [] rfl (by have := NN_ge; omega)
    simp [f_receipt_Check, h1, h1'] at L ⊢
    refine L.trans ?_
    cases checkG badG ltG none l 0 <;> rfl
theorem F_receipt_right_val (l : List Gd) (b : Bool) (hl : l.length < 1000000) (h : Hp) : F_receipt_right [.lst 3 b (l.map encG)] h = some (B (rightG l), h) :=
  F_receipt_right_run rfl (by simp [f_receipt_right, F_receipt_Check_val l b hl, rightG]) h
end
end Go.AM


namespace Go.AM
open Go.Proofs
set_option linter.unusedVariables false
set_option linter.unusedSimpArgs false
set_option linter.constructorNameAsVariable false
set_option maxRecDepth 20000
structure Los where
  ev : Int
  op : Int
  df : Int
  su : Int
deriving DecidableEq
def encO (x : Los) : List AV := [I x.ev, I x.op, I x.df, I x.su]
def lossL (e f a o : Int) : Los := if e < f then ⟨0, 0, 0, f - e⟩ else ⟨min a (e - f), min o (e - f - min a (e - f)), e - f - min a (e - f) - min o (e - f - min a (e - f)), 0⟩
def alcL (n : Int) : Bool := win n 0 10737418240000
theorem loss_amount_L2 {β : Type} {P : Program} {T : Tab} {D : DTab} {N : Nat} {x0 : Hp → Option β} {xr : AV → Hp → Option β} (l : List Int) (b : Bool) (hl : l.length < 1000000) (h : Hp) : ∀ (n : Nat) (pre post : List Int), l = pre ++ post → post.length < n →
    f_loss_amount_L2 P T D N x0 xr n (.lst 1 b (l.map encI)) (I l.length) (I pre.length) h = if post.all alcL = true then x0 h else xr (B false) h := by
  intro n
  induction n with
  | zero => intro pre post _ h2; omega
  | succ n ih =>
    intro pre post hc hn
    show f_loss_amount_b2 P T D N (f_loss_amount_L2 P T D N x0 xr n) x0 xr _ _ _ h = _
    cases post with
    | nil =>
      have : l = pre := by simpa using hc
      subst this
      simp [f_loss_amount_b2]
    | cons c post =>
      have hi : pre.length < l.length := by rw [hc]; simp
      have hci : l[pre.length]? = some c := by rw [hc]; simp
      have hlt : ((pre.length : Int) < (l.length : Int)) := by omega
      have hw : IntKind.i64.wrap ((pre.length : Int) + 1) = (((pre ++ [c]).length : Nat) : Int) := by rw [wrap64 (by omega) (by omega)]; simp
      have ic : ∀ k : Go.AM.K β, iaK 1 (.lst 1 b (l.map encI)) (I pre.length) k = k (.ep (encI c) 0) := fun k => iaK_at pre.length rfl hci k
      have step := ih (pre ++ [c]) post (by simpa using hc) (by simpa using hn)
      simp only [f_loss_amount_b2, arithK_lss, hlt, decide_true, condK_bool, if_true, ic]
      rw [List.all_cons]
      by_cases q1 : c < 0
      · have : alcL c = false := by simp [alcL, win]; omega
        rw [this]; simp [encI, q1]
      · by_cases q2 : 10737418240000 < c
        · have : alcL c = false := by simp [alcL, win]; omega
          rw [this]; simp [encI, q1, q2]
        · have : alcL c = true := by simp [alcL, win]; omega
          rw [this, Bool.true_and, ← step]; simp [encI, q1, q2, hw]
theorem F_loss_amount_4 (a b c d : Int) (id : Nat) {h : Hp} (hid : h[id]? = some (.arr 1 [[I a], [I b], [I c], [I d]] true false)) : F_loss_amount [.sl 1 id 0 4 4 true] h = some (B (alcL a && (alcL b && (alcL c && alcL d))), h) := by
  refine F_loss_amount_own (a0 := .lst 1 false ([a, b, c, d].map encI)) (by simp [cvts, cvt, hid, okE, plain, encI]) (fun st => ?_)
  have L := loss_amount_L2 (P := Try.prog) (T := t_loss_amount) (D := d_loss_amount) (N := NN) (x0 := fun h => f_loss_amount_j1 Try.prog t_loss_amount d_loss_amount NN (fun v g => cvt st g v) h) (xr := fun w12_2 h => cvt st h w12_2) [a, b, c, d] false (by simp) [] NN [] [a, b, c, d] rfl (by have := NN_ge; simp; omega)
  refine Eq.trans ?_ (L.trans ?_)
  · simp [f_loss_amount]
  · have : [a, b, c, d].all alcL = (alcL a && (alcL b && (alcL c && alcL d))) := by simp
    rw [this]
    cases alcL a && (alcL b && (alcL c && alcL d)) <;> simp [f_loss_amount_j1]
theorem F_loss_split_val (e f a o : Int) (h1 : 0 ≤ e ∧ e ≤ 10737418240000) (h2 : 0 ≤ f ∧ f ≤ 10737418240000) (h3 : 0 ≤ a ∧ a ≤ 10737418240000) (h4 : 0 ≤ o ∧ o ≤ 10737418240000) (h : Hp) : F_loss_split [I e, I f, I a, I o] h = some (.agg (encO (lossL e f a o)), h) := by
  refine F_loss_split_run rfl ?_ h
  unfold lossL
  by_cases hc : e < f
  · have w : IntKind.i64.wrap (f - e) = f - e := wrap64 (by omega) (by omega)
    rw [if_pos hc]
    simp [f_loss_split, boxE, hc, w, buildK, fillA, stE, ap, encO]
  · have w : IntKind.i64.wrap (e - f) = e - f := wrap64 (by omega) (by omega)
    have w2 : IntKind.i64.wrap (e - f - min a (e - f)) = e - f - min a (e - f) := wrap64 (by omega) (by omega)
    have w3 : IntKind.i64.wrap (e - f - min a (e - f) - min o (e - f - min a (e - f))) = e - f - min a (e - f) - min o (e - f - min a (e - f)) := wrap64 (by omega) (by omega)
    rw [if_neg hc]
    simp [f_loss_split, boxE, hc, w, F_loss_split_1_raw, f_loss_split_1, w2, w3, buildK, fillA, stE, ap, encO]
theorem F_loss_Split_val (e f a o : Int) (h1 : 0 ≤ e ∧ e ≤ 10737418240000) (h2 : 0 ≤ f ∧ f ≤ 10737418240000) (h3 : 0 ≤ a ∧ a ≤ 10737418240000) (h4 : 0 ≤ o ∧ o ≤ 10737418240000) (h : Hp) : F_loss_Split [I e, I f, I a, I o] h = some (.tup [.agg (encO (lossL e f a o)), I 0], h) := by
  refine F_loss_Split_run rfl ?_ h
  have am := F_loss_amount_4 e f a o 1 (h := [.arr 4 [[I 0, I 0, I 0, I 0]] true false, .arr 1 [[I e], [I f], [I a], [I o]] true false]) rfl
  have hall : (alcL e && (alcL f && (alcL a && alcL o))) = true := by simp [alcL, win]; omega
  rw [hall] at am
  have fs := F_loss_split_val e f a o h1 h2 h3 h4
  simp only [encO] at fs ⊢
  simp [f_loss_Split, boxE, bsE, fillS, am, fs, stE, ap]
def zeroO : Los := ⟨0, 0, 0, 0⟩
def addO (x y : Los) : Los := ⟨x.ev + y.ev, x.op + y.op, x.df + y.df, x.su + y.su⟩
def okO (x : Los) : Bool := alcL x.ev && (alcL x.op && (alcL x.df && alcL x.su))
def sumO (l : List Los) : Los := l.foldl addO zeroO
def sumOS (l : List Los) : Los × Int := if 1024 < l.length then (zeroO, 8) else if l.all okO = false then (zeroO, 2) else if okO (sumO l) = false then (zeroO, 15) else (sumO l, 0)
theorem okO_bd {x : Los} (h : okO x = true) : (0 ≤ x.ev ∧ x.ev ≤ 10737418240000) ∧ (0 ≤ x.op ∧ x.op ≤ 10737418240000) ∧ (0 ≤ x.df ∧ x.df ≤ 10737418240000) ∧ (0 ≤ x.su ∧ x.su ≤ 10737418240000) := by
  simp [okO, alcL, win] at h; omega
def bdO (n : Nat) (x : Los) : Prop := (0 ≤ x.ev ∧ x.ev ≤ 10737418240000 * n) ∧ (0 ≤ x.op ∧ x.op ≤ 10737418240000 * n) ∧ (0 ≤ x.df ∧ x.df ≤ 10737418240000 * n) ∧ (0 ≤ x.su ∧ x.su ≤ 10737418240000 * n)
theorem bdO_add {n : Nat} {x y : Los} (h1 : bdO n x) (h2 : okO y = true) : bdO (n + 1) (addO x y) := by
  have := okO_bd h2
  unfold bdO addO at *
  simp only
  omega
theorem loss_Sum_L2 {β : Type} {D : DTab} {N : Nat} {x0 xr : AV → AV → Hp → Option β} {X : Los → Option β} {Y : Option β}
    (hx : ∀ (h : Hp) (s : Los), h[0]? = some (.arr 4 [encO zeroO] true false) → h[1]? = some (.arr 4 [encO s] true false) → x0 (.ptr 0 0 0 1) (.ptr 1 0 0 1) h = X s)
    (hy : ∀ (h : Hp), h[0]? = some (.arr 4 [encO zeroO] true false) → xr (.ptr 0 0 0 1) (I 2) h = Y)
    (l : List Los) (b : Bool) (hl : l.length ≤ 1024) : ∀ (n : Nat) (pre post : List Los) (h : Hp) (s : Los), l = pre ++ post → post.length < n → bdO pre.length s → h[0]? = some (.arr 4 [encO zeroO] true false) → h[1]? = some (.arr 4 [encO s] true false) →
    f_loss_Sum_L2 Try.prog t_loss_Sum D N x0 xr n (.ptr 0 0 0 1) (.ptr 1 0 0 1) (.lst 4 b (l.map encO)) (I l.length) (I pre.length) h = if post.all okO = true then X (post.foldl addO s) else Y := by
  intro n
  induction n with
  | zero => intro pre post h s _ h2; omega
  | succ n ih =>
    intro pre post h s hc hn hs h0 h1
    show f_loss_Sum_b2 Try.prog t_loss_Sum D N (f_loss_Sum_L2 Try.prog t_loss_Sum D N x0 xr n) x0 xr _ _ _ _ _ h = _
    cases post with
    | nil =>
      have : l = pre := by simpa using hc
      subst this
      simp [f_loss_Sum_b2, hx h s h0 h1]
    | cons c post =>
      have hi : pre.length < l.length := by rw [hc]; simp
      have hci : l[pre.length]? = some c := by rw [hc]; simp
      have hlt : ((pre.length : Int) < (l.length : Int)) := by omega
      have hw : IntKind.i64.wrap ((pre.length : Int) + 1) = (((pre ++ [c]).length : Nat) : Int) := by rw [wrap64 (by omega) (by omega)]; simp
      have ic : ∀ k : Go.AM.K β, iaK 4 (.lst 4 b (l.map encO)) (I pre.length) k = k (.ep (encO c) 0) := fun k => iaK_at pre.length rfl hci k
      obtain ⟨hd, t1, rfl⟩ : ∃ o0 t1, h = o0 :: t1 := by cases h with
        | nil => simp at h0
        | cons o t => exact ⟨o, t, rfl⟩
      obtain ⟨hd2, t2, rfl⟩ : ∃ o0 t2, t1 = o0 :: t2 := by cases t1 with
        | nil => simp at h1
        | cons o t => exact ⟨o, t, rfl⟩
      simp only [List.getElem?_cons_zero, List.getElem?_cons_succ, Option.some.injEq] at h0 h1
      subst h0 h1
      have am := F_loss_amount_4 c.ev c.op c.df c.su (t2.length + 3) (h := .arr 4 [encO zeroO] true false :: .arr 4 [encO s] true false :: (t2 ++ [.arr 4 [encO c] true false, .arr 1 [[I c.ev], [I c.op], [I c.df], [I c.su]] true false])) (by simp)
      have hok : (alcL c.ev && (alcL c.op && (alcL c.df && alcL c.su))) = okO c := rfl
      rw [hok] at am
      rw [List.all_cons]
      simp only [f_loss_Sum_b2, arithK_lss, hlt, decide_true, condK_bool, if_true, ic]
      cases hq : okO c with
      | false =>
        rw [hq] at am
        have hy' := hy (.arr 4 [encO zeroO] true false :: .arr 4 [encO s] true false :: (t2 ++ [.arr 4 [encO c] true false, .arr 1 [[I c.ev], [I c.op], [I c.df], [I c.su]] true false])) rfl
        simp [encO, zeroO] at am hy' ⊢
        simp [boxE, stE, ap, bsE, fillS, am, buildK, fillA, hy']
      | true =>
        rw [hq] at am
        have hbd := bdO_add hs hq
        have hb2 := okO_bd hq
        have w1 : IntKind.i64.wrap (s.ev + c.ev) = s.ev + c.ev := wrap64 (by unfold bdO at hs; omega) (by unfold bdO at hs; omega)
        have w2 : IntKind.i64.wrap (s.op + c.op) = s.op + c.op := wrap64 (by unfold bdO at hs; omega) (by unfold bdO at hs; omega)
        have w3 : IntKind.i64.wrap (s.df + c.df) = s.df + c.df := wrap64 (by unfold bdO at hs; omega) (by unfold bdO at hs; omega)
        have w4 : IntKind.i64.wrap (s.su + c.su) = s.su + c.su := wrap64 (by unfold bdO at hs; omega) (by unfold bdO at hs; omega)
        have step := ih (pre ++ [c]) post (.arr 4 [encO zeroO] true false :: .arr 4 [encO (addO s c)] true false :: (t2 ++ [.arr 4 [encO c] true false, .arr 1 [[I c.ev], [I c.op], [I c.df], [I c.su]] true false])) (addO s c) (by simpa using hc) (by simpa using hn) (by simpa using hbd) rfl rfl
        simp only [List.foldl_cons, Bool.true_and]
        rw [← step]
        simp [encO, zeroO, boxE, stE, ap, bsE, fillS, addO] at am ⊢
        simp [am, w1, w2, w3, w4, hw, stE, ap]
theorem F_loss_Sum_val (l : List Los) (b : Bool) (hl : l.length < 1000000) (h : Hp) : F_loss_Sum [.lst 4 b (l.map encO)] h = some (.tup [.agg (encO (sumOS l).1), I (sumOS l).2], h) := by
  refine F_loss_Sum_run rfl ?_ h
  unfold sumOS
  by_cases h1 : 1024 < l.length
  · have h1' : (1024 : Int) < (l.length : Int) := by omega
    rw [if_pos h1]
    simp [f_loss_Sum, boxE, h1', buildK, fillA, stE, ap, encO, zeroO]
  · have h1' : ¬ (1024 : Int) < (l.length : Int) := by omega
    rw [if_neg h1]
    have L := loss_Sum_L2 (N := NN) (D := d_loss_Sum) (x0 := fun w89_2 w89_4 h => f_loss_Sum_j1 Try.prog t_loss_Sum d_loss_Sum NN (fun v g => cvt false g v) w89_2 w89_4 h) (xr := fun w90_2 w90_3 h => ldK 4 true w90_2 h fun r91 => cvt false h (.tup [r91, w90_3]))
      (X := fun s => some (if okO s = false then .tup [.agg (encO zeroO), I 15] else .tup [.agg (encO s), I 0])) (Y := some (.tup [.agg (encO zeroO), I 2]))
      (fun h s h0 h1 => by
        have am := F_loss_amount_4 s.ev s.op s.df s.su h.length (h := h ++ [.arr 1 [[I s.ev], [I s.op], [I s.df], [I s.su]] true false]) (by rw [get_new0]; rfl)
        rw [show (alcL s.ev && (alcL s.op && (alcL s.df && alcL s.su))) = okO s from rfl] at am
        obtain ⟨o0, t1, rfl⟩ : ∃ o0 t1, h = o0 :: t1 := by cases h with
          | nil => simp at h0
          | cons o t => exact ⟨o, t, rfl⟩
        obtain ⟨o1, t2, rfl⟩ : ∃ o0 t2, t1 = o0 :: t2 := by cases t1 with
          | nil => simp at h1
          | cons o t => exact ⟨o, t, rfl⟩
        simp only [List.getElem?_cons_zero, List.getElem?_cons_succ, Option.some.injEq] at h0 h1
        subst h0 h1
        simp [encO, zeroO] at am ⊢
        cases hq : okO s <;> simp [f_loss_Sum_j1, bsE, fillS, ap, am, hq, buildK, fillA, stE, encO, zeroO])
      (fun h h0 => by simp [h0, encO, zeroO]) l b (by omega) NN [] l [.arr 4 [encO zeroO] true false, .arr 4 [encO zeroO] true false] zeroO rfl (by have := NN_ge; omega) (by simp [bdO, zeroO]) rfl rfl
    refine Eq.trans ?_ (L.trans ?_)
    · simp [f_loss_Sum, boxE, h1', encO, zeroO]
    · cases h2 : l.all okO with
      | false => simp
      | true =>
        simp only [if_true]
        show some (if okO (sumO l) = false then _ else _) = _
        cases okO (sumO l) <;> simp [sumO]
end Go.AM


namespace Go.AM
open Go.Proofs
set_option linter.unusedVariables false
set_option linter.unusedSimpArgs false
set_option linter.constructorNameAsVariable false
set_option maxRecDepth 20000
structure Ln where
  id : Int
  cls : Int
  sent : Int
  got : Int
  los : Los
deriving DecidableEq
def encLn (x : Ln) : List AV := [I x.id, I x.cls, I x.sent, I x.got, I x.los.ev, I x.los.op, I x.los.df, I x.los.su]
def zG : Gd := ⟨0, 0, 0⟩
def mergeG : List Gd → List Gd → List (Gd × Gd)
  | [], [] => []
  | a :: s, [] => (a, zG) :: mergeG s []
  | [], b :: t => (zG, b) :: mergeG [] t
  | a :: s, b :: t => if a.id = b.id then (a, b) :: mergeG s t else if a.id < b.id then (a, zG) :: mergeG s (b :: t) else (zG, b) :: mergeG (a :: s) t
termination_by s t => s.length + t.length
def clashG (p : Gd × Gd) : Bool := decide (0 < p.1.id) && (decide (0 < p.2.id) && p.1.cls != p.2.cls)
def tolAt (tol : List Int) (c : Int) : Int := (tol[(c - 1).toNat]?).getD 0
def lineG (tol : List Int) (p : Gd × Gd) : Ln := ⟨max p.1.id p.2.id, max p.1.cls p.2.cls, p.1.alc, p.2.alc, lossL p.1.alc p.2.alc (p.1.alc * tolAt tol (max p.1.cls p.2.cls) / 10000) 0⟩
def fitG (tol : List Int) (p : Gd × Gd) : Prop := (0 ≤ p.1.alc ∧ p.1.alc ≤ 10737418240000) ∧ (0 ≤ p.2.alc ∧ p.2.alc ≤ 10737418240000) ∧ (1 ≤ max p.1.cls p.2.cls ∧ max p.1.cls p.2.cls ≤ 9)
def okTol (tol : List Int) : Prop := tol.length = 9 ∧ ∀ n ∈ tol, 0 ≤ n ∧ n ≤ 10000
theorem tolAt_bd {tol : List Int} (ht : okTol tol) {c : Int} (h1 : 1 ≤ c) (h2 : c ≤ 9) : tol[(c - 1).toNat]? = some (tolAt tol c) ∧ 0 ≤ tolAt tol c ∧ tolAt tol c ≤ 10000 := by
  obtain ⟨l, hb⟩ := ht
  have hi : (c - 1).toNat < tol.length := by omega
  have : tol[(c - 1).toNat]? = some tol[(c - 1).toNat] := List.getElem?_eq_getElem hi
  have e : tolAt tol c = tol[(c - 1).toNat] := by unfold tolAt; rw [this]; rfl
  rw [e]
  exact ⟨this, hb _ (List.getElem_mem hi)⟩
noncomputable abbrev loopC (st : LoopState) (pd : Option Code) : AObj := .loop lpm_receipt_Compare_0 lpp_receipt_Compare_0 lpa_receipt_Compare_0 lpb_receipt_Compare_0 (envT [(5, .ptr 0 0 0 1), (6, .ptr 1 0 0 1), (7, .ptr 2 0 0 1), (8, .ptr 3 0 0 1)]) st pd
structure InvM (tol : List Int) (b3 : Bool) (sent got : List Gd) (b1 b2 : Bool) (o : List Ln) (h : Hp) : Prop where
  l0 : h[0]? = some (.arr 1 [[.lst 1 b3 (tol.map encI)]] true false)
  l1 : h[1]? = some (.arr 1 [[nilS]] true false)
  l2 : h[2]? = some (.arr 1 [[I 0]] true false)
  l3 : ∃ v, h[3]? = some (.arr 1 [[v]] true false) ∧ Gro 8 encLn h v o ∧ (∀ k, idOf v = some k → 7 ≤ k) ∧ okC v = true
  l4 : h[4]? = some (.arr 1 [[.lst 3 b1 (sent.map encG)]] true false)
  l5 : h[5]? = some (.arr 1 [[.lst 3 b2 (got.map encG)]] true false)
  l6 : h[6]? = some (loopC .ready none)
  len : o.length < 10000
structure BadM (h : Hp) : Prop where
  l1 : h[1]? = some (.arr 1 [[nilS]] true false)
  l2 : h[2]? = some (.arr 1 [[I 18]] true false)
  l6 : h[6]? = some (loopC .done (some .ret))
section
variable {tol : List Int} {b1 b2 b3 : Bool} {sent got : List Gd} {o : List Ln} {h : Hp}
theorem InvM.app (hI : InvM tol b3 sent got b1 b2 o h) (g : List AObj) : InvM tol b3 sent got b1 b2 o (h ++ g) := by
  obtain ⟨h0, h1, h2, ⟨v, h3, h3a, h3b, h3c⟩, h4, h5, h6, h7⟩ := hI
  exact ⟨get_app h0, get_app h1, get_app h2, ⟨v, get_app h3, h3a.app g, h3b, h3c⟩, get_app h4, get_app h5, get_app h6, h7⟩
theorem set_app' {h : Hp} {g : List AObj} {id : Nat} {x o : AObj} (hid : h[id]? = some x) : (h ++ g).set id o = h.set id o ++ g := by
  rw [List.set_append_left _ _ (List.getElem?_eq_some_iff.1 hid).1]
theorem begin_val {β : Type} {h : Hp} {g : List AObj} {L m : Nat} {ps : Array Tmp} {asg body : Code} {ts : Tm} {pend : Option Code} (hL : h[L]? = some (.loop m ps asg body ts .ready pend)) (k : Hp → Option β) :
    beginX L m ps asg body ts (h ++ g) k = k (h.set L (.loop m ps asg body ts .busy pend) ++ g) := by
  unfold beginX
  rw [get_app hL]
  simp only
  rw [set_app' hL]
theorem getSet {h : Hp} {i j : Nat} {x o : AObj} (hj : h[j]? = some x) (hij : i ≠ j) : (h.set i o)[j]? = some x := by rw [List.getElem?_set_ne hij]; exact hj
theorem getSelf {h : Hp} {i : Nat} {x o : AObj} (hi : h[i]? = some x) : (h.set i o)[i]? = some o := List.getElem?_set_self (List.getElem?_eq_some_iff.1 hi).1
theorem round_bad (hI : InvM tol b3 sent got b1 b2 o h) {a b : Gd} (hc : clashG (a, b) = true) : ∃ h', Y_receipt_Compare [ymark, .yl 6, .agg (encG a), .agg (encG b)] h = some (B false, h') ∧ BadM h' := by
  obtain ⟨h0, h1, h2, -, h4, h5, h6, h7⟩ := hI
  rw [Y_receipt_Compare_R0 h6]
  obtain ⟨x1, e1⟩ : ∃ x, x = h.set 6 (loopC .busy none) := ⟨_, rfl⟩
  have hl : x1.length = h.length := by rw [e1]; simp
  have q1 : ∀ g, (x1 ++ g)[1]? = some (.arr 1 [[nilS]] true false) := fun g => get_app (by rw [e1]; exact getSet h1 (by decide))
  have q2 : ∀ g, (x1 ++ g)[2]? = some (.arr 1 [[I 0]] true false) := fun g => get_app (by rw [e1]; exact getSet h2 (by decide))
  have q6 : x1[6]? = some (loopC .busy none) := by rw [e1]; exact getSelf h6
  have hb := fun g => fun k : Hp → Option (AV × Hp) => begin_val (g := g) h6 k
  simp only [← e1] at hb
  simp only [clashG, Bool.and_eq_true, decide_eq_true_eq] at hc
  obtain ⟨c1, c2, c3⟩ := hc
  have c3' : (a.cls == b.cls) = false := by simpa using c3
  unfold f_receipt_Compare_R0
  simp only [encG]
  simp [boxE, stE, ap]
  rw [hb]
  rw [← hl]
  obtain ⟨y, hy⟩ : ∃ y, y = [AObj.arr 3 [[I a.id, I a.cls, I a.alc]] true false, AObj.arr 3 [[I b.id, I b.cls, I b.alc]] true false] := ⟨_, rfl⟩
  rw [← hy]
  have y0 : (x1 ++ y)[x1.length]? = some (.arr 3 [[I a.id, I a.cls, I a.alc]] true false) := by rw [hy, get_new0]; rfl
  have y1 : (x1 ++ y)[x1.length + 1]? = some (.arr 3 [[I b.id, I b.cls, I b.alc]] true false) := by rw [hy, get_new]; rfl
  have z1 := q1 y
  have z2 := q2 y
  have z6 : (x1 ++ y)[6]? = some (loopC .busy none) := get_app q6
  generalize x1 ++ y = x at *
  have s2 : (x.set 1 (.arr 1 [[nilS]] true false))[2]? = some (.arr 1 [[I 0]] true false) := getSet z2 (by decide)
  simp [y0, y1, c1, c2, c3', z1, s2, effK, ap]
  have t6 : ((x.set 1 (.arr 1 [[nilS]] true false)).set 2 (.arr 1 [[I 18]] true false))[6]? = some (loopC .busy none) := getSet (getSet z6 (by decide)) (by decide)
  exact ⟨getSet (getSet (getSelf z1) (by decide)) (by decide), getSet (getSelf s2) (by decide), getSelf t6⟩
theorem round_ok (hI : InvM tol b3 sent got b1 b2 o h) {a b : Gd} (ht : okTol tol) (hf : fitG tol (a, b)) (hc : clashG (a, b) = false) (ho : o.length < 9999) :
    ∃ h', Y_receipt_Compare [ymark, .yl 6, .agg (encG a), .agg (encG b)] h = some (B true, h') ∧ InvM tol b3 sent got b1 b2 (o ++ [lineG tol (a, b)]) h' := by
  obtain ⟨h0, h1, h2, ⟨v, h3, h3a, h3b, h3c⟩, h4, h5, h6, h7⟩ := hI
  rw [Y_receipt_Compare_R0 h6]
  obtain ⟨x1, e1⟩ : ∃ x, x = h.set 6 (loopC .busy none) := ⟨_, rfl⟩
  have hl : x1.length = h.length := by rw [e1]; simp
  have hb := fun g => fun k : Hp → Option (AV × Hp) => begin_val (g := g) h6 k
  simp only [← e1] at hb
  obtain ⟨⟨f1, f2⟩, ⟨f3, f4⟩, f5, f6⟩ := hf
  dsimp only at f1 f2 f3 f4 f5 f6
  obtain ⟨t1, t2, t3⟩ := tolAt_bd ht f5 f6
  have hc' : (decide (0 < a.id) && (decide (0 < b.id) && !(a.cls == b.cls))) = false := hc
  have w1 : IntKind.i64.wrap (max a.cls b.cls - 1) = max a.cls b.cls - 1 := wrap64 (by omega) (by omega)
  have hg : 0 ≤ a.alc * tolAt tol (max a.cls b.cls) / 10000 ∧ a.alc * tolAt tol (max a.cls b.cls) / 10000 ≤ 10737418240000 := by
    have m1 : 0 ≤ a.alc * tolAt tol (max a.cls b.cls) := Int.mul_nonneg f1 t2
    have m2 : a.alc * tolAt tol (max a.cls b.cls) ≤ a.alc * 10000 := Int.mul_le_mul_of_nonneg_left t3 f1
    omega
  have hp : (propOf a.alc (tolAt tol (max a.cls b.cls)) 10000).1 = a.alc * tolAt tol (max a.cls b.cls) / 10000 := by
    unfold propOf
    have a1 : amt a.alc = true := by simp [amt]; omega
    have a2 : amt (tolAt tol (max a.cls b.cls)) = true := by simp [amt]; omega
    rw [a1, a2, if_neg (by simp [amt]), if_neg (by omega), if_pos (by omega)]
  have fp := F_proportion_Of_val a.alc (tolAt tol (max a.cls b.cls)) 10000
  rw [hp] at fp
  have fl := F_loss_Split_val a.alc b.alc (a.alc * tolAt tol (max a.cls b.cls) / 10000) 0 ⟨f1, f2⟩ ⟨f3, f4⟩ hg ⟨by omega, by omega⟩
  obtain ⟨ln, hln⟩ : ∃ ln, ln = lineG tol (a, b) := ⟨_, rfl⟩
  rw [← hln]
  have hle : encLn ln = [I (max a.id b.id), I (max a.cls b.cls), I a.alc, I b.alc] ++ encO (lossL a.alc b.alc (a.alc * tolAt tol (max a.cls b.cls) / 10000) 0) := by rw [hln]; rfl
  generalize (propOf a.alc (tolAt tol (max a.cls b.cls)) 10000).2.1 = pr1 at fp
  generalize (propOf a.alc (tolAt tol (max a.cls b.cls)) 10000).2.2 = pr2 at fp
  generalize lossL a.alc b.alc (a.alc * tolAt tol (max a.cls b.cls) / 10000) 0 = lo at *
  generalize a.alc * tolAt tol (max a.cls b.cls) / 10000 = al at *
  unfold f_receipt_Compare_R0
  simp only [encG]
  simp [boxE, stE, ap]
  rw [hb]
  rw [← hl]
  obtain ⟨y, hy⟩ : ∃ y, y = [AObj.arr 3 [[I a.id, I a.cls, I a.alc]] true false, AObj.arr 3 [[I b.id, I b.cls, I b.alc]] true false] := ⟨_, rfl⟩
  rw [← hy]
  obtain ⟨x, hx⟩ : ∃ x, x = x1 ++ y := ⟨_, rfl⟩
  have y0 : x[x1.length]? = some (.arr 3 [[I a.id, I a.cls, I a.alc]] true false) := by rw [hx, hy, get_new0]; rfl
  have y1 : x[x1.length + 1]? = some (.arr 3 [[I b.id, I b.cls, I b.alc]] true false) := by rw [hx, hy, get_new]; rfl
  have keep : ∀ j o', h[j]? = some o' → j ≠ 6 → x[j]? = some o' := fun j o' hj hn => by rw [hx, e1]; exact get_app (getSet hj (Ne.symm hn))
  have z0 := keep 0 _ h0 (by decide)
  have z1 := keep 1 _ h1 (by decide)
  have z2 := keep 2 _ h2 (by decide)
  have z3 := keep 3 _ h3 (by decide)
  have z4 := keep 4 _ h4 (by decide)
  have z5 := keep 5 _ h5 (by decide)
  have z6 : x[6]? = some (loopC .busy none) := by rw [hx, e1]; exact get_app (getSelf h6)
  have zG' : Gro 8 encLn x v o := h3a.keep fun k o' hk hko => keep k o' hko (by have := h3b k hk; omega)
  rw [← hx]
  clear hb keep hx hy e1
  have tk : ∀ k : Go.AM.K (AV × Hp), iaK 1 (.lst 1 b3 (tol.map encI)) (I (max a.cls b.cls - 1)) k = k (.ep [I (tolAt tol (max a.cls b.cls))] 0) := fun k => iaK_at (max a.cls b.cls - 1).toNat (by omega) t1 k
  generalize tolAt tol (max a.cls b.cls) = tl at *
  have hcn : ¬ ((0 < a.id ∧ 0 < b.id) ∧ ¬ a.cls = b.cls) := by
    simp only [Bool.and_eq_false_iff, decide_eq_false_iff_not, Bool.not_eq_false', beq_iff_eq] at hc'
    rintro ⟨⟨p1, p2⟩, p3⟩
    rcases hc' with q | q | q
    · exact q p1
    · exact q p2
    · exact p3 q
  simp only [encO] at fl hle
  simp only [y0, y1, ldK_ptr, List.length_singleton, if_true, List.getElem?_cons_zero, List.getElem?_cons_succ, pickC, Bool.false_eq_true, if_false, arithK_gtr, grpK_and, eqK_int, condK_bool, Bool.true_bne, Bool.and_eq_true, decide_eq_true_eq, faK_ptr, maxK_int, z0, arithK_sub, w1, tk]
  have g0 : ∀ g, (x ++ g)[x1.length]? = some (.arr 3 [[I a.id, I a.cls, I a.alc]] true false) := fun g => get_app y0
  have g1 : ∀ g, (x ++ g)[x1.length + 1]? = some (.arr 3 [[I b.id, I b.cls, I b.alc]] true false) := fun g => get_app y1
  have g3 : ∀ g, (x ++ g)[3]? = some (.arr 1 [[v]] true false) := fun g => get_app z3
  have hvl : ∀ k, idOf v = some k → k < x.length := fun k hk => zG'.lt hk
  obtain ⟨v', h', q1, q2, q3, q4, q5⟩ := Gro.snoc (AV × Hp) (zG'.app [.arr 4 [[I lo.ev, I lo.op, I lo.df, I lo.su]] true false, .arr 8 [encLn ln] true false]) (by_ := 64) (m := x.length + 1) (z := ln) (b := true) (by rw [get_new]; rfl) (fun hk => by have := hvl _ hk; omega) (fun x _ => rfl) (by omega)
  rw [hle] at q1
  simp [hcn, fp, fl, y0, y1, g0, g1, g3, buildK, fillA, bsE, fillS, ap] at q1 ⊢
  rw [q1]
  have r : ∀ j o', x[j]? = some o' → j < 7 → h'[j]? = some o' := fun j o' hj h7 => q4 j o' (get_app hj) (fun hk => by have := h3b j hk; omega)
  have r3 := r 3 _ z3 (by decide)
  have hv7 : ∀ k, idOf v' = some k → 7 ≤ k := fun k hk => by
    have hx7 : 7 ≤ x.length := (List.getElem?_eq_some_iff.1 z6).1
    rcases q5 with e | e
    · exact h3b k (e ▸ hk)
    · rw [e] at hk; simp at hk; omega
  have q2' := q2
  rcases q2 with ⟨hn, -⟩ | ⟨-, kk, rfl, -⟩
  · simp at hn
  simp [r3, effK, ap]
  have s6 : (h'.set 3 (.arr 1 [[.sl 8 kk 0 (o.length + 1) (o.length + 1) false]] true false))[6]? = some (loopC .busy none) := getSet (r 6 _ z6 (by decide)) (by decide)
  have hs : ∀ j o', h'[j]? = some o' → j ≠ 3 → j ≠ 6 → ((h'.set 3 (.arr 1 [[.sl 8 kk 0 (o.length + 1) (o.length + 1) false]] true false)).set 6 (loopC .ready none))[j]? = some o' := fun j o' hj h3 h6 => getSet (getSet hj (Ne.symm h3)) (Ne.symm h6)
  refine ⟨hs 0 _ (r 0 _ z0 (by decide)) (by decide) (by decide), hs 1 _ (r 1 _ z1 (by decide)) (by decide) (by decide), hs 2 _ (r 2 _ z2 (by decide)) (by decide) (by decide), ⟨_, getSet (getSelf r3) (by decide), ?_, ?_, rfl⟩, hs 4 _ (r 4 _ z4 (by decide)) (by decide) (by decide), hs 5 _ (r 5 _ z5 (by decide)) (by decide) (by decide), getSelf s6, by simp; omega⟩
  · have := q2'.keep (h' := (h'.set 3 (.arr 1 [[.sl 8 kk 0 (o.length + 1) (o.length + 1) false]] true false)).set 6 (loopC .ready none)) fun k o' hk hko => hs k o' hko (by have := hv7 k hk; omega) (by have := hv7 k hk; omega)
    simpa using this
  · simpa using hv7
end
end Go.AM


namespace Go.AM
open Go.Proofs
set_option linter.unusedVariables false
set_option linter.unusedSimpArgs false
set_option linter.constructorNameAsVariable false
set_option maxRecDepth 20000
theorem callVK_yl {β : Type} (T : Tab) (l : Nat) (args : List AV) (h : Hp) (k : AV → Hp → Option β) : callVK T (.yl l) args h k = callK (T YB) (ymark :: .yl l :: args) h k := rfl
section
variable {tol : List Int} {b1 b2 b3 : Bool} {sent got : List Gd} {o : List Ln} {h : Hp}
theorem merged_turn {β : Type} {N : Nat} {x0 xr : Hp → Option β} {xn : AV → AV → AV → AV → AV → Hp → Option β} (hI : InvM tol b3 sent got b1 b2 o h) {i k : Nat} (f s : Bool) (a b : Gd) (hi : i ≤ sent.length) (hk : k ≤ got.length) (hsl : sent.length < 1000000) (hgl : got.length < 1000000)
    (hf : f = (decide (k = got.length) || (decide (i < sent.length) && match sent[i]?, got[k]? with | some x, some y => decide (x.id ≤ y.id) | _, _ => false)))
    (hs : s = (decide (i = sent.length) || (decide (k < got.length) && match got[k]?, sent[i]? with | some y, some x => decide (y.id ≤ x.id) | _, _ => false)))
    (hm : i < sent.length ∨ k < got.length) (ha : if f = true then sent[i]? = some a else a = zG) (hb : if s = true then got[k]? = some b else b = zG) :
    f_receipt_merged_1_b2 Try.prog t_receipt_merged_1__receipt_Compare D0 N xn x0 xr (.yl 6) (.ptr 4 0 0 1) (.ptr 5 0 0 1) (I i) (I k) h =
      match Y_receipt_Compare [ymark, .yl 6, .agg (encG a), .agg (encG b)] (h ++ [.arr 3 [encG a] true false, .arr 3 [encG b] true false]) with
      | some (v, h') => notK v fun x60 => condK x60 (xr h') (xn (.yl 6) (.ptr 4 0 0 1) (.ptr 5 0 0 1) (I ((i + f.toNat : Nat) : Int)) (I ((k + s.toNat : Nat) : Int)) h')
      | none => none := by
  have a4 : ∀ g, (h ++ g)[4]? = some (.arr 1 [[.lst 3 b1 (sent.map encG)]] true false) := fun g => get_app hI.l4
  have a5 : ∀ g, (h ++ g)[5]? = some (.arr 1 [[.lst 3 b2 (got.map encG)]] true false) := fun g => get_app hI.l5
  have m4 := hI.l4
  have m5 := hI.l5
  have e1 : ∀ k : Go.AM.K β, lenK (.lst 3 b1 (sent.map encG)) k = k (I sent.length) := fun k => by simp
  have e2 : ∀ k : Go.AM.K β, lenK (.lst 3 b2 (got.map encG)) k = k (I got.length) := fun k => by simp
  have ld4 : ∀ (g : List AObj) (k : Go.AM.K β), ldK 1 false (.ptr 4 0 0 1) (h ++ g) k = k (.lst 3 b1 (sent.map encG)) := fun g k => by simp [a4]
  have ld5 : ∀ (g : List AObj) (k : Go.AM.K β), ldK 1 false (.ptr 5 0 0 1) (h ++ g) k = k (.lst 3 b2 (got.map encG)) := fun g k => by simp [a5]
  have ld40 : ∀ (k : Go.AM.K β), ldK 1 false (.ptr 4 0 0 1) h k = k (.lst 3 b1 (sent.map encG)) := fun k => by simp [m4]
  have ld50 : ∀ (k : Go.AM.K β), ldK 1 false (.ptr 5 0 0 1) h k = k (.lst 3 b2 (got.map encG)) := fun k => by simp [m5]
  have wi : IntKind.i64.wrap ((i : Int) + 1) = ((i + 1 : Nat) : Int) := by rw [wrap64 (by omega) (by omega)]; simp
  have wk : IntKind.i64.wrap ((k : Int) + 1) = ((k + 1 : Nat) : Int) := by rw [wrap64 (by omega) (by omega)]; simp
  have hm' : (decide ((i : Int) < (sent.length : Int)) || decide ((k : Int) < (got.length : Int))) = true := by simp; omega
  have gF : ∀ (hh : Hp) (K : AV → Hp → Option β), hh = h ++ [.arr 3 [encG zG] true false, .arr 3 [encG zG] true false] → grpK false (B ((k : Int) == (got.length : Int))) hh (fun k17 => ldK 1 false (.ptr 4 0 0 1) hh fun x18 => lenK x18 fun x19 => arithK .lss (I i) x19 fun x20 => grpK true x20 hh (fun k21 => ldK 1 false (.ptr 4 0 0 1) hh fun x22 => iaK 3 x22 (I i) fun x23 => faK 0 x23 fun x24 => ldK 1 false x24 hh fun x25 => ldK 1 false (.ptr 5 0 0 1) hh fun x26 => iaK 3 x26 (I k) fun x27 => faK 0 x27 fun x28 => ldK 1 false x28 hh fun x29 => arithK .leq x25 x29 fun x30 => k21 x30 hh) fun x31 h32 => k17 x31 h32) K = K (B f) hh := by
    rintro hh K rfl
    rw [hf]
    by_cases q : k = got.length
    · subst q; simp
    · have q' : ((k : Int) == (got.length : Int)) = false := by simpa using (fun h : (k : Int) = got.length => q (by omega))
      have hkl : k < got.length := by omega
      have hy : got[k]? = some got[k] := List.getElem?_eq_getElem hkl
      rw [q']
      simp only [grpK_ff, ld4, ld5, e1, arithK_lss]
      by_cases p : i < sent.length
      · have p' : (i : Int) < (sent.length : Int) := by omega
        have hx : sent[i]? = some sent[i] := List.getElem?_eq_getElem p
        simp [p', hx, hy, q, p, encG]
      · have p' : ¬ (i : Int) < (sent.length : Int) := by omega
        simp [p', p, q]
  have gS : ∀ (hh : Hp) (K : AV → Hp → Option β), hh = h ++ [.arr 3 [encG zG] true false, .arr 3 [encG zG] true false] → grpK false (B ((i : Int) == (sent.length : Int))) hh (fun k17 => ldK 1 false (.ptr 5 0 0 1) hh fun x18 => lenK x18 fun x19 => arithK .lss (I k) x19 fun x20 => grpK true x20 hh (fun k21 => ldK 1 false (.ptr 5 0 0 1) hh fun x22 => iaK 3 x22 (I k) fun x23 => faK 0 x23 fun x24 => ldK 1 false x24 hh fun x25 => ldK 1 false (.ptr 4 0 0 1) hh fun x26 => iaK 3 x26 (I i) fun x27 => faK 0 x27 fun x28 => ldK 1 false x28 hh fun x29 => arithK .leq x25 x29 fun x30 => k21 x30 hh) fun x31 h32 => k17 x31 h32) K = K (B s) hh := by
    rintro hh K rfl
    rw [hs]
    by_cases q : i = sent.length
    · subst q; simp
    · have q' : ((i : Int) == (sent.length : Int)) = false := by simpa using (fun h : (i : Int) = sent.length => q (by omega))
      have hil : i < sent.length := by omega
      have hx : sent[i]? = some sent[i] := List.getElem?_eq_getElem hil
      rw [q']
      simp only [grpK_ff, ld4, ld5, e2, arithK_lss]
      by_cases p : k < got.length
      · have p' : (k : Int) < (got.length : Int) := by omega
        have hy : got[k]? = some got[k] := List.getElem?_eq_getElem p
        simp [p', hx, hy, q, p, encG]
      · have p' : ¬ (k : Int) < (got.length : Int) := by omega
        simp [p', p, q]
  unfold f_receipt_merged_1_b2
  simp only [ld40, ld50, e1, e2, arithK_lss, grpK_or, hm', condK_bool, if_true]
  rw [effK_box 3 _ _ _ _ rfl rfl rfl, effK_box 3 _ _ _ _ (by simp) rfl rfl]
  have hz : h ++ [AObj.arr 3 [cellsOf (AV.agg [I 0, I 0, I 0])] true false] ++ [AObj.arr 3 [cellsOf (AV.agg [I 0, I 0, I 0])] true false] = h ++ [.arr 3 [encG zG] true false, .arr 3 [encG zG] true false] := by simp [encG, zG]
  rw [hz]
  rw [ld5, e2, eqK_int, Bool.false_xor, gF _ _ rfl, ld4, e1, eqK_int, Bool.false_xor, gS _ _ rfl]
  clear gF gS hf hs
  cases f with
  | true =>
    simp only [if_true] at ha
    have iA : ∀ k : Go.AM.K β, iaK 3 (.lst 3 b1 (sent.map encG)) (I i) k = k (.ep (encG a) 0) := fun k => iaK_at i rfl ha k
    cases s with
    | true =>
      simp only [if_true] at hb
      have iB : ∀ kk : Go.AM.K β, iaK 3 (.lst 3 b2 (got.map encG)) (I k) kk = kk (.ep (encG b) 0) := fun kk => iaK_at k rfl hb kk
      simp only [encG] at iA iB ⊢
      simp [ld4, ld5, a4, a5, iA, iB, f_receipt_merged_1_j3, f_receipt_merged_1_j4, f_receipt_merged_1_j5, f_receipt_merged_1_j6, zG, wi, wk, callVK_yl, stE, ap, effK]
      try rfl
    | false =>
      simp only [Bool.false_eq_true, if_false] at hb
      subst hb
      simp only [encG] at iA ⊢
      simp [ld4, ld5, a4, a5, iA, f_receipt_merged_1_j3, f_receipt_merged_1_j4, f_receipt_merged_1_j5, f_receipt_merged_1_j6, zG, wi, wk, callVK_yl, stE, ap, effK]
      try rfl
  | false =>
    simp only [Bool.false_eq_true, if_false] at ha
    subst ha
    cases s with
    | true =>
      simp only [if_true] at hb
      have iB : ∀ kk : Go.AM.K β, iaK 3 (.lst 3 b2 (got.map encG)) (I k) kk = kk (.ep (encG b) 0) := fun kk => iaK_at k rfl hb kk
      simp only [encG] at iB ⊢
      simp [ld4, ld5, a4, a5, iB, f_receipt_merged_1_j3, f_receipt_merged_1_j4, f_receipt_merged_1_j5, f_receipt_merged_1_j6, zG, wi, wk, callVK_yl, stE, ap, effK]
      try rfl
    | false =>
      simp only [Bool.false_eq_true, if_false] at hb
      subst hb
      simp [ld4, ld5, a4, a5, encG, f_receipt_merged_1_j3, f_receipt_merged_1_j4, f_receipt_merged_1_j5, f_receipt_merged_1_j6, zG, wi, wk, callVK_yl, stE, ap, effK]
      try rfl
theorem merged_L2 {β : Type} {N : Nat} {x0 xr : Hp → Option β} (ht : okTol tol) (hsl : sent.length < 1000) (hgl : got.length < 1000) : ∀ (n : Nat) (p1 s p2 t : List Gd) (o : List Ln) (h : Hp), sent = p1 ++ s → got = p2 ++ t → s.length + t.length < n → InvM tol b3 sent got b1 b2 o h → (∀ p ∈ mergeG s t, fitG tol p) → o.length + (s.length + t.length) < 5000 →
    ∃ h', ((mergeG s t).any clashG = false ∧ InvM tol b3 sent got b1 b2 (o ++ (mergeG s t).map (lineG tol)) h' ∧ f_receipt_merged_1_L2 Try.prog t_receipt_merged_1__receipt_Compare D0 N x0 xr n (.yl 6) (.ptr 4 0 0 1) (.ptr 5 0 0 1) (I p1.length) (I p2.length) h = x0 h') ∨
      ((mergeG s t).any clashG = true ∧ BadM h' ∧ f_receipt_merged_1_L2 Try.prog t_receipt_merged_1__receipt_Compare D0 N x0 xr n (.yl 6) (.ptr 4 0 0 1) (.ptr 5 0 0 1) (I p1.length) (I p2.length) h = xr h') := by
  intro n
  induction n with
  | zero => intro p1 s p2 t o h _ _ h2; omega
  | succ n ih =>
    intro p1 s p2 t o h h1 h2 hn hI hfit ho
    have key : ∀ (f sb : Bool) (a b : Gd) (s' t' : List Gd), mergeG s t = (a, b) :: mergeG s' t' → s = (if f then [a] else []) ++ s' → t = (if sb then [b] else []) ++ t' → (f = false → a = zG) → (sb = false → b = zG) → s'.length + t'.length < s.length + t.length →
        f = (decide (p2.length = got.length) || (decide (p1.length < sent.length) && match sent[p1.length]?, got[p2.length]? with | some x, some y => decide (x.id ≤ y.id) | _, _ => false)) →
        sb = (decide (p1.length = sent.length) || (decide (p2.length < got.length) && match got[p2.length]?, sent[p1.length]? with | some y, some x => decide (y.id ≤ x.id) | _, _ => false)) → (p1.length < sent.length ∨ p2.length < got.length) →
        ∃ h', ((mergeG s t).any clashG = false ∧ InvM tol b3 sent got b1 b2 (o ++ (mergeG s t).map (lineG tol)) h' ∧ f_receipt_merged_1_L2 Try.prog t_receipt_merged_1__receipt_Compare D0 N x0 xr (n + 1) (.yl 6) (.ptr 4 0 0 1) (.ptr 5 0 0 1) (I p1.length) (I p2.length) h = x0 h') ∨
          ((mergeG s t).any clashG = true ∧ BadM h' ∧ f_receipt_merged_1_L2 Try.prog t_receipt_merged_1__receipt_Compare D0 N x0 xr (n + 1) (.yl 6) (.ptr 4 0 0 1) (.ptr 5 0 0 1) (I p1.length) (I p2.length) h = xr h') := by
      intro f sb a b s' t' hm hs htt ha0 hb0 hlt hf hsb hmore
      have ha : if f = true then sent[p1.length]? = some a else a = zG := by
        cases f with
        | true => simp only [if_true] at hs ⊢; rw [h1, hs]; simp
        | false => simpa using ha0 rfl
      have hb : if sb = true then got[p2.length]? = some b else b = zG := by
        cases sb with
        | true => simp only [if_true] at htt ⊢; rw [h2, htt]; simp
        | false => simpa using hb0 rfl
      have turn := merged_turn (N := N) (x0 := x0) (xr := xr) (xn := f_receipt_merged_1_L2 Try.prog t_receipt_merged_1__receipt_Compare D0 N x0 xr n) hI f sb a b (by rw [h1]; simp) (by rw [h2]; simp) (by omega) (by omega) hf hsb hmore ha hb
      have hI' := hI.app [.arr 3 [encG a] true false, .arr 3 [encG b] true false]
      rw [hm] at hfit ⊢
      simp only [List.any_cons, List.map_cons]
      have unf : f_receipt_merged_1_L2 Try.prog t_receipt_merged_1__receipt_Compare D0 N x0 xr (n + 1) (.yl 6) (.ptr 4 0 0 1) (.ptr 5 0 0 1) (I p1.length) (I p2.length) h = f_receipt_merged_1_b2 Try.prog t_receipt_merged_1__receipt_Compare D0 N (f_receipt_merged_1_L2 Try.prog t_receipt_merged_1__receipt_Compare D0 N x0 xr n) x0 xr (.yl 6) (.ptr 4 0 0 1) (.ptr 5 0 0 1) (I p1.length) (I p2.length) h := rfl
      rw [unf, turn]
      cases hc : clashG (a, b) with
      | true =>
        obtain ⟨h', e1, e2⟩ := round_bad hI' hc
        rw [e1]
        exact ⟨h', .inr ⟨by simp, e2, by simp⟩⟩
      | false =>
        obtain ⟨h', e1, e2⟩ := round_ok hI' ht (hfit _ (by simp)) hc (by omega)
        rw [e1]
        have l1 : p1.length + f.toNat = (p1 ++ (if f then [a] else [])).length := by cases f <;> simp
        have l2 : p2.length + sb.toNat = (p2 ++ (if sb then [b] else [])).length := by cases sb <;> simp
        obtain ⟨h2', hh⟩ := ih (p1 ++ (if f then [a] else [])) s' (p2 ++ (if sb then [b] else [])) t' _ h' (by rw [h1, hs]; simp) (by rw [h2, htt]; simp) (by omega) e2 (fun p hp => hfit p (by simp [hp])) (by simp; omega)
        rw [← l1, ← l2] at hh
        refine ⟨h2', ?_⟩
        simp only [Bool.false_or]
        rcases hh with ⟨g1, g2, g3⟩ | ⟨g1, g2, g3⟩
        · exact .inl ⟨g1, by simpa using g2, by simpa using g3⟩
        · exact .inr ⟨g1, g2, by simpa using g3⟩
    cases s with
    | nil =>
      cases t with
      | nil =>
        have e1 : sent = p1 := by simpa using h1
        have e2 : got = p2 := by simpa using h2
        refine ⟨h, .inl ⟨by simp [mergeG], by simpa [mergeG] using hI, ?_⟩⟩
        show f_receipt_merged_1_b2 Try.prog t_receipt_merged_1__receipt_Compare D0 N (f_receipt_merged_1_L2 Try.prog t_receipt_merged_1__receipt_Compare D0 N x0 xr n) x0 xr _ _ _ _ _ h = _
        have m4 := hI.l4
        have m5 := hI.l5
        rw [e1] at m4
        rw [e2] at m5
        simp [f_receipt_merged_1_b2, m4, m5]
      | cons b t' => exact key false true zG b [] t' (by rw [mergeG]) rfl rfl (fun _ => rfl) (by simp) (by simp) (by rw [h1, h2]; simp) (by rw [h1]; simp) (by rw [h2]; simp)
    | cons a s' =>
      cases t with
      | nil => exact key true false a zG s' [] (by rw [mergeG]) rfl rfl (by simp) (fun _ => rfl) (by simp) (by rw [h2]; simp) (by rw [h1, h2]; simp) (by rw [h1]; simp)
      | cons b t' =>
        have q1 : sent[p1.length]? = some a := by rw [h1]; simp
        have q2 : got[p2.length]? = some b := by rw [h2]; simp
        have q3 : p1.length < sent.length := by rw [h1]; simp
        have q4 : p2.length < got.length := by rw [h2]; simp
        have q5 : p1.length ≠ sent.length := by omega
        have q6 : p2.length ≠ got.length := by omega
        rcases Int.lt_trichotomy a.id b.id with q | q | q
        · exact key true false a zG s' (b :: t') (by rw [mergeG, if_neg (by omega), if_pos q]) rfl rfl (by simp) (fun _ => rfl) (by simp) (by rw [q1, q2, decide_eq_false q6, decide_eq_true q3]; simp; omega) (by rw [q1, q2, decide_eq_false q5, decide_eq_true q4]; simp; omega) (.inl q3)
        · exact key true true a b s' t' (by rw [mergeG, if_pos q]) rfl rfl (by simp) (by simp) (by simp; omega) (by rw [q1, q2, decide_eq_false q6, decide_eq_true q3]; simp; omega) (by rw [q1, q2, decide_eq_false q5, decide_eq_true q4]; simp; omega) (.inl q3)
        · exact key false true zG b (a :: s') t' (by rw [mergeG, if_neg (by omega), if_neg (by omega)]) rfl rfl (fun _ => rfl) (by simp) (by simp) (by rw [q1, q2, decide_eq_false q6, decide_eq_true q3]; simp; omega) (by rw [q1, q2, decide_eq_false q5, decide_eq_true q4]; simp; omega) (.inl q3)
def cmpS (sent got : List Gd) (tol : List Int) : List Ln × Int :=
  if (rightG sent && rightG got) = false then ([], 1) else if tol.length ≠ 9 then ([], 10) else if (tol.any fun n => !win n 0 10000) = true then ([], 2) else if (mergeG sent got).any clashG = true then ([], 18)
  else if 64 < (mergeG sent got).length then ([], 8) else ((mergeG sent got).map (lineG tol), 0)
theorem F_Contains_tol (l : List Int) (hl : l.length < 1000) (b : Bool) (h : Hp) : F_slices_ContainsFunc_int__receipt_Compare_1 [.lst 1 b (l.map encI), .fn 61 []] h = some (B (l.any fun n => !win n 0 10000), h) := by
  have f1 : ∀ (n : Int) (h : Hp), F_receipt_Compare_1 [I n] h = some (B (!win n 0 10000), h) := fun n => F_receipt_Compare_1_run rfl (by simp [f_receipt_Compare_1, F_receipt_in_val])
  have e : ∀ h, F_slices_IndexFunc_int__receipt_Compare_1 [.lst 1 b (l.map encI), .fn 61 []] h = some (I (match l.findIdx? (fun n => !win n 0 10000) with | some j => (j : Int) | none => -1), h) :=
    F_slices_IndexFunc_int__receipt_Compare_1_run rfl (by
      simp only [nrm, nrmC]
      rw [IndexFunc_int_K (p := fun n => !win n 0 10000) (by have := NN_ge; omega) NN_lt (fun x _ k => by simp [f1])]
      rfl)
  refine F_slices_ContainsFunc_int__receipt_Compare_1_run rfl ?_ h
  simp only [nrm, nrmC, f_slices_ContainsFunc_int, t_slices_ContainsFunc_int__receipt_Compare_1_68, callK_F, e]
  have : (l.any fun n => !win n 0 10000) = (l.findIdx? (fun n => !win n 0 10000)).isSome := by rw [List.findIdx?_isSome]
  rw [this]
  cases l.findIdx? (fun n => !win n 0 10000) <;> simp
theorem rightG_spec {l : List Gd} (h : rightG l = true) : l.length ≤ 64 ∧ (∀ g ∈ l, badG g = false) ∧ l.Pairwise (fun a b => ltG a b = true) := by
  unfold rightG checkD at h
  split at h
  · simp at h
  · rename_i h1
    cases hc : checkG badG ltG none l 0 with
    | none =>
      have := checkG_none (fun a b c p q => by simp [ltG] at *; omega) l none 0 hc
      exact ⟨by omega, this.1, this.2.1⟩
    | some x =>
      have := checkG_ne l none 0 x hc
      rw [hc] at h
      simp at h
      exact absurd h this
theorem merge_fit {tol : List Int} : ∀ (s t : List Gd), (∀ g ∈ s, badG g = false) → (∀ g ∈ t, badG g = false) → ∀ p ∈ mergeG s t, fitG tol p := by
  intro s t
  have one : ∀ g, badG g = false → (0 ≤ g.alc ∧ g.alc ≤ 10737418240000) ∧ 1 ≤ g.cls ∧ g.cls ≤ 9 := fun g hg => by simp [badG, win] at hg; omega
  have gz : (0 ≤ zG.alc ∧ zG.alc ≤ 10737418240000) ∧ zG.cls = 0 := by decide
  fun_induction mergeG s t with
  | case1 => intro _ _ p hp; simp at hp
  | case2 a s ih =>
    intro h1 h2 p hp
    rcases List.mem_cons.1 hp with rfl | hp
    · have := one a (h1 a (by simp)); unfold fitG; dsimp only; rw [gz.2]; exact ⟨this.1, gz.1, by omega⟩
    · exact ih (fun g hg => h1 g (by simp [hg])) h2 p hp
  | case3 b t ih =>
    intro h1 h2 p hp
    rcases List.mem_cons.1 hp with rfl | hp
    · have := one b (h2 b (by simp)); unfold fitG; dsimp only; rw [gz.2]; exact ⟨gz.1, this.1, by omega⟩
    · exact ih h1 (fun g hg => h2 g (by simp [hg])) p hp
  | case4 a s b t he ih =>
    intro h1 h2 p hp
    rcases List.mem_cons.1 hp with rfl | hp
    · have := one a (h1 a (by simp)); have := one b (h2 b (by simp)); unfold fitG; dsimp only; omega
    · exact ih (fun g hg => h1 g (by simp [hg])) (fun g hg => h2 g (by simp [hg])) p hp
  | case5 a s b t he hlt ih =>
    intro h1 h2 p hp
    rcases List.mem_cons.1 hp with rfl | hp
    · have := one a (h1 a (by simp)); unfold fitG; dsimp only; rw [gz.2]; exact ⟨this.1, gz.1, by omega⟩
    · exact ih (fun g hg => h1 g (by simp [hg])) h2 p hp
  | case6 a s b t he hlt ih =>
    intro h1 h2 p hp
    rcases List.mem_cons.1 hp with rfl | hp
    · have := one b (h2 b (by simp)); unfold fitG; dsimp only; rw [gz.2]; exact ⟨gz.1, this.1, by omega⟩
    · exact ih h1 (fun g hg => h2 g (by simp [hg])) p hp
theorem merge_len (s t : List Gd) : (mergeG s t).length ≤ s.length + t.length := by
  fun_induction mergeG s t <;> simp only [List.length_cons, List.length_nil] at * <;> omega
theorem seven {h : Hp} (hl : 6 < h.length) : ∃ o0 o1 o2 o3 o4 o5 o6 t, h = o0 :: o1 :: o2 :: o3 :: o4 :: o5 :: o6 :: t := by
  match h, hl with
  | o0 :: o1 :: o2 :: o3 :: o4 :: o5 :: o6 :: t, _ => exact ⟨o0, o1, o2, o3, o4, o5, o6, t, rfl⟩
theorem cmp_many {T : Tab} {D : DTab} {o0 o4 o5 o6 : AObj} {t : Hp} {v : AV} {n : Nat} (hlen : ∀ k : Go.AM.K AV, lenK v k = k (I n)) (hn : 64 < n) :
    f_receipt_Compare_j1 Try.prog T D NN (fun v g => cvt false g v) (.ptr 1 0 0 1) (.ptr 2 0 0 1) (.ptr 3 0 0 1) (o0 :: .arr 1 [[nilS]] true false :: .arr 1 [[I 0]] true false :: .arr 1 [[v]] true false :: o4 :: o5 :: o6 :: t) = some (.tup [nilS, I 8]) := by
  have h64' : (64 : Int) < (n : Int) := by omega
  simp [f_receipt_Compare_j1, hlen, h64', stE, ap, effK]
theorem cmp_nil {T : Tab} {D : DTab} {o0 o4 o5 o6 : AObj} {t : Hp} :
    f_receipt_Compare_j1 Try.prog T D NN (fun v g => cvt false g v) (.ptr 1 0 0 1) (.ptr 2 0 0 1) (.ptr 3 0 0 1) (o0 :: .arr 1 [[nilS]] true false :: .arr 1 [[I 0]] true false :: .arr 1 [[nilS]] true false :: o4 :: o5 :: o6 :: t) = some (.tup [nilS, I 0]) := by
  simp [f_receipt_Compare_j1, stE, ap, effK]
theorem cmp_some {T : Tab} {D : DTab} {o0 o4 o5 o6 : AObj} {t : Hp} {k n : Nat} {L : List (List AV)} (hk : t[k]? = some (.arr 8 L true false)) (hl : L.length = n) (hok : okE false L = true) (hn : ¬ 64 < n) :
    f_receipt_Compare_j1 Try.prog T D NN (fun v g => cvt false g v) (.ptr 1 0 0 1) (.ptr 2 0 0 1) (.ptr 3 0 0 1) (o0 :: .arr 1 [[nilS]] true false :: .arr 1 [[I 0]] true false :: .arr 1 [[.sl 8 (k + 7) 0 n n false]] true false :: o4 :: o5 :: o6 :: t) = some (.tup [.lst 8 false L, I 0]) := by
  subst hl
  have h64' : ¬ (64 : Int) < (L.length : Int) := by omega
  simp [f_receipt_Compare_j1, h64', stE, ap, effK, cvt, hk, hok]
set_option maxHeartbeats 2000000 in
theorem F_receipt_Compare_val (sent got : List Gd) (tol : List Int) (b1 b2 b3 : Bool) (h1 : sent.length < 1000) (h2 : got.length < 1000) (h3 : tol.length < 1000) (h : Hp) :
    F_receipt_Compare [.lst 3 b1 (sent.map encG), .lst 3 b2 (got.map encG), .lst 1 b3 (tol.map encI)] h = some (.tup [.lst 8 (cmpS sent got tol).1.isEmpty ((cmpS sent got tol).1.map encLn), I (cmpS sent got tol).2], h) := by
  have base : ∀ w v, f_receipt_Compare Try.prog t_receipt_Compare d_receipt_Compare NN (fun v g => cvt false g v) (.lst 3 b1 (sent.map encG)) (.lst 3 b2 (got.map encG)) (.lst 1 b3 (tol.map encI)) [] = some w → nrmR [.l 8, .o] w = v → F_receipt_Compare [.lst 3 b1 (sent.map encG), .lst 3 b2 (got.map encG), .lst 1 b3 (tol.map encI)] h = some (v, h) := fun w v e1 e2 => by
    rw [← e2]
    exact F_receipt_Compare_run (a0 := .lst 3 b1 (sent.map encG)) (a1 := .lst 3 b2 (got.map encG)) (a2 := .lst 1 b3 (tol.map encI)) rfl e1 h
  have fs := F_receipt_right_val sent b1 (by omega)
  have fg := F_receipt_right_val got b2 (by omega)
  have ft := F_Contains_tol tol h3 b3
  have ln : ∀ k : Go.AM.K AV, lenK (.lst 1 b3 (tol.map encI)) k = k (I tol.length) := fun k => by simp
  unfold cmpS
  cases hr : (rightG sent && rightG got) with
  | false =>
    refine base (.tup [nilS, I 1]) _ ?_ rfl
    generalize sent.map encG = S at *
    generalize got.map encG = G at *
    generalize tol.map encI = TT at *
    have : ¬ (rightG sent = true ∧ rightG got = true) := by simpa using hr
    cases e1 : rightG sent <;> cases e2 : rightG got <;> simp [e1, e2] at this fs fg
    all_goals simp [f_receipt_Compare, boxE, fs, fg, stE, ap]
  | true =>
    simp only [Bool.and_eq_true] at hr
    rw [hr.1] at fs
    rw [hr.2] at fg
    by_cases hn : tol.length = 9
    · have hn' : ((tol.length : Int) == 9) = true := by simp [hn]
      cases ha : (tol.any fun n => !win n 0 10000) with
      | true =>
        rw [ha] at ft
        refine base (.tup [nilS, I 2]) _ ?_ (by simp [hn])
        generalize sent.map encG = S at *
        generalize got.map encG = G at *
        generalize tol.map encI = TT at *
        simp [f_receipt_Compare, boxE, fs, fg, ln, hn', ft, stE, ap]
      | false =>
        rw [ha] at ft
        have hok : okTol tol := ⟨hn, fun n hn => by
          have : win n 0 10000 = true := by simpa using List.any_eq_false.1 ha n hn
          simpa [win] using this⟩
        obtain ⟨l1, c1, -⟩ := rightG_spec hr.1
        obtain ⟨l2, c2, -⟩ := rightG_spec hr.2
        have hml := merge_len sent got
        have hI0 : InvM tol b3 sent got b1 b2 [] [.arr 1 [[.lst 1 b3 (tol.map encI)]] true false, .arr 1 [[nilS]] true false, .arr 1 [[I 0]] true false, .arr 1 [[nilS]] true false, .arr 1 [[.lst 3 b1 (sent.map encG)]] true false, .arr 1 [[.lst 3 b2 (got.map encG)]] true false, loopC .ready none] :=
          ⟨rfl, rfl, rfl, ⟨nilS, rfl, .nil, by simp, rfl⟩, rfl, rfl, rfl, by simp⟩
        obtain ⟨h', hL⟩ := merged_L2 (N := NN) (x0 := fun h => f_receipt_merged_1_j1 Try.prog t_receipt_merged_1__receipt_Compare D0 NN (fun v h => some (v, h)) h) (xr := fun h => some (.tup [], h)) hok h1 h2 NN [] sent [] got [] _ rfl rfl (by have := NN_ge; omega) hI0 (merge_fit sent got c1 c2) (by simp; omega)
        have hF : F_receipt_merged_1__receipt_Compare [.yl 6, .ptr 4 0 0 1, .ptr 5 0 0 1] [.arr 1 [[.lst 1 b3 (tol.map encI)]] true false, .arr 1 [[nilS]] true false, .arr 1 [[I 0]] true false, .arr 1 [[nilS]] true false, .arr 1 [[.lst 3 b1 (sent.map encG)]] true false, .arr 1 [[.lst 3 b2 (got.map encG)]] true false, loopC .ready none] = some (.tup [], h') := by
          rw [F_receipt_merged_1__receipt_Compare_raw]
          unfold f_receipt_merged_1
          rcases hL with ⟨-, -, e⟩ | ⟨-, -, e⟩
          · exact e
          · exact e
        have len7 : 6 < h'.length := by
          rcases hL with ⟨-, g2, -⟩ | ⟨-, g2, -⟩
          · exact (List.getElem?_eq_some_iff.1 g2.l6).1
          · exact (List.getElem?_eq_some_iff.1 g2.l6).1
        obtain ⟨o0, o1, o2, o3, o4, o5, o6, tl, rfl⟩ := seven len7
        rw [if_neg (by simp), if_neg (by simp [hn]), if_neg (by simp)]
        rcases hL with ⟨g1, g2, -⟩ | ⟨g1, g2, -⟩
        · rw [if_neg (by rw [g1]; simp)]
          obtain ⟨-, p1, p2, ⟨v, p3, p4, p5, p6⟩, -, -, p7, -⟩ := g2
          simp only [List.nil_append] at p4
          have hlen : ∀ k : Go.AM.K AV, lenK v k = k (I (mergeG sent got).length) := fun k => by rw [p4.len]; simp
          simp only [List.getElem?_cons_zero, List.getElem?_cons_succ, Option.some.injEq] at p1 p2 p3 p7
          subst p1 p2 p3 p7
          have red : f_receipt_Compare Try.prog t_receipt_Compare d_receipt_Compare NN (fun v g => cvt false g v) (.lst 3 b1 (sent.map encG)) (.lst 3 b2 (got.map encG)) (.lst 1 b3 (tol.map encI)) [] = f_receipt_Compare_j1 Try.prog t_receipt_Compare d_receipt_Compare NN (fun v g => cvt false g v) (.ptr 1 0 0 1) (.ptr 2 0 0 1) (.ptr 3 0 0 1) (o0 :: .arr 1 [[nilS]] true false :: .arr 1 [[I 0]] true false :: .arr 1 [[v]] true false :: o4 :: o5 :: loopC .exhausted none :: tl) := by
            clear base hI0 p4 hlen
            generalize sent.map encG = S at *
            generalize got.map encG = G at *
            generalize tol.map encI = TT at *
            simp [f_receipt_Compare, boxE, fs, fg, ln, hn', ft, F_receipt_merged_raw, f_receipt_merged, rangeX, hF, jumpC]
          by_cases h64 : 64 < (mergeG sent got).length
          · rw [if_pos h64]
            exact base (.tup [nilS, I 8]) _ (red.trans (cmp_many hlen h64)) rfl
          · rw [if_neg h64]
            have hok1 : okE false (((mergeG sent got).map (lineG tol)).map encLn) = true := okE_map (fun x => by simp [encLn])
            obtain ⟨ls, hls⟩ : ∃ ls, ls = (mergeG sent got).map (lineG tol) := ⟨_, rfl⟩
            rw [← hls] at p4 hok1 ⊢
            have hll : ls.length = (mergeG sent got).length := by rw [hls]; simp
            clear hls
            rcases p4 with ⟨rfl, rfl⟩ | ⟨hne, k, rfl, p8⟩
            · exact base (.tup [nilS, I 0]) _ (red.trans cmp_nil) rfl
            · obtain ⟨k, rfl⟩ : ∃ j, k = j + 7 := ⟨k - 7, by have := p5 k rfl; omega⟩
              have hie : ls.isEmpty = false := by simpa using hne
              simp only [List.getElem?_cons_succ] at p8
              exact base (.tup [.lst 8 false (ls.map encLn), I 0]) _ (red.trans (cmp_some p8 (by simp) hok1 (by omega))) (by rw [hie]; rfl)
        · rw [if_pos g1]
          obtain ⟨p1, p2, p7⟩ := g2
          simp only [List.getElem?_cons_zero, List.getElem?_cons_succ, Option.some.injEq] at p1 p2 p7
          subst p1 p2 p7
          refine base (.tup [nilS, I 18]) _ ?_ rfl
          clear base hI0
          generalize sent.map encG = S at *
          generalize got.map encG = G at *
          generalize tol.map encI = TT at *
          simp [f_receipt_Compare, boxE, fs, fg, ln, hn', ft, F_receipt_merged_raw, f_receipt_merged, rangeX, hF, jumpC]
    · have hn' : ((tol.length : Int) == 9) = false := by simpa using (fun h : (tol.length : Int) = 9 => hn (by omega))
      refine base (.tup [nilS, I 10]) _ ?_ (by simp [hn])
      generalize sent.map encG = S at *
      generalize got.map encG = G at *
      generalize tol.map encI = TT at *
      simp [f_receipt_Compare, boxE, fs, fg, ln, hn', stE, ap]
end
end Go.AM


namespace Go.AM
open Go.Proofs
set_option linter.unusedVariables false
set_option linter.unusedSimpArgs false
set_option linter.constructorNameAsVariable false
set_option maxRecDepth 20000
def sumLn (x : Ln) : Bool := x.sent + x.los.su == x.got + x.los.ev + x.los.op + x.los.df
def okLn (x : Ln) : Bool := (alcL x.sent && alcL x.got && okO x.los) && (win x.id 1 1073741824 && win x.cls 1 9 && !(x.sent == 0 && x.got == 0) && sumLn x)
def ltLn (a b : Ln) : Bool := decide (a.id < b.id)
def linesS (l : List Ln) : Bool := (checkG (fun x => !okLn x) ltLn none l 0).isNone && decide (l.length ≤ 64)
def linesG : Option Ln → List Ln → Bool
  | _, [] => true
  | p, x :: l => okLn x && (!notBehind ltLn p x && linesG (some x) l)
theorem linesG_eq : ∀ (l : List Ln) (p : Option Ln) (i : Int), (checkG (fun x => !okLn x) ltLn p l i).isNone = linesG p l
  | [], p, i => rfl
  | x :: l, p, i => by
    rw [checkG, linesG]
    cases okLn x with
    | false => simp
    | true =>
      cases notBehind ltLn p x with
      | true => simp
      | false => simpa using linesG_eq l (some x) (i + 1)
theorem linesS_eq (l : List Ln) : linesS l = (linesG none l && decide (l.length ≤ 64)) := by unfold linesS; rw [linesG_eq]
section
variable {β : Type} {P : Program} {T : Tab} {D : DTab} {N : Nat} {K : AV → Hp → Option β}
theorem lines_L5 (hT1 : T 41 = some F_receipt_in) {x2 : AV → AV → AV → AV → AV → AV → AV → Hp → Option β} {xr : AV → Hp → Option β} {v0 v3 v4 v5 v8 v9 v10 : AV} (l : List Int) (id : Nat) (h : Hp) (hid : h[id]? = some (.arr 1 (l.map encI) true false)) (hl : l.length < 1000) :
    ∀ (n : Nat) (pre post : List Int), l = pre ++ post → post.length < n →
    f_receipt_lines_L5 P T D N x2 xr n v0 v3 v4 v5 v8 v9 v10 (.sl 1 id 0 l.length l.length true) (I l.length) (I pre.length) h = if post.all alcL = true then x2 v0 v3 v4 v5 v8 v9 v10 h else xr (B false) h := by
  intro n
  induction n with
  | zero => intro pre post _ h2; omega
  | succ n ih =>
    intro pre post hc hn
    show f_receipt_lines_b5 P T D N (f_receipt_lines_L5 P T D N x2 xr n) x2 xr _ _ _ _ _ _ _ _ _ _ h = _
    cases post with
    | nil =>
      have : l = pre := by simpa using hc
      subst this
      simp [f_receipt_lines_b5]
    | cons c post =>
      have hi : pre.length < l.length := by rw [hc]; simp
      have hci : l[pre.length]? = some c := by rw [hc]; simp
      have hlt : ((pre.length : Int) < (l.length : Int)) := by omega
      have hw : IntKind.i64.wrap ((pre.length : Int) + 1) = (((pre ++ [c]).length : Nat) : Int) := by rw [wrap64 (by omega) (by omega)]; simp
      have ic : ∀ k : Go.AM.K β, iaK 1 (.sl 1 id 0 l.length l.length true) (I pre.length) k = k (.ptr id pre.length 0 l.length) := fun k => by rw [iaK_sl (by omega) (by omega)]; simp
      have lc : ∀ k : Go.AM.K β, ldK 1 false (.ptr id pre.length 0 l.length) h k = k (I c) := fun k => by simp [ldK_ptr, hid, hci]
      have step := ih (pre ++ [c]) post (by simpa using hc) (by simpa using hn)
      have e : win c 0 10737418240000 = alcL c := rfl
      rw [List.all_cons]
      simp only [f_receipt_lines_b5, arithK_lss, hlt, decide_true, condK_bool, if_true, ic, lc, hT1, callK_F, F_receipt_in_val, notK_bool, e]
      cases alcL c with
      | false => simp
      | true => simp only [Bool.not_true, Bool.false_eq_true, if_false, Bool.true_and, arithK_add, hw]; exact step
theorem receipt_lines_L2 (hT1 : T 41 = some F_receipt_in) (hN : 100 < N) {x0 : AV → Hp → Option β} {xr : AV → Hp → Option β} {X Y : Option β} (l : List Ln) (b : Bool) (hx : ∀ h, x0 (.lst 8 b (l.map encLn)) h = X) (hr : ∀ h, xr (B false) h = Y) (hl : l.length < 1000000) :
    ∀ (n : Nat) (pre post : List Ln) (h : Hp), l = pre ++ post → post.length < n →
    f_receipt_lines_L2 P T D N x0 xr n (.lst 8 b (l.map encLn)) (.lst 8 b (l.map encLn)) (I l.length) (I pre.length) h = if linesG pre.getLast? post = true then X else Y := by
  intro n
  induction n with
  | zero => intro pre post h _ h2; omega
  | succ n ih =>
    intro pre post h hc hn
    show f_receipt_lines_b2 P T D N (f_receipt_lines_L2 P T D N x0 xr n) x0 xr _ _ _ _ h = _
    cases post with
    | nil =>
      have : l = pre := by simpa using hc
      subst this
      simp [f_receipt_lines_b2, hx, linesG]
    | cons c post =>
      have hi : pre.length < l.length := by rw [hc]; simp
      have hci : l[pre.length]? = some c := by rw [hc]; simp
      have hlt : ((pre.length : Int) < (l.length : Int)) := by omega
      have hw : IntKind.i64.wrap ((pre.length : Int) + 1) = (((pre ++ [c]).length : Nat) : Int) := by rw [wrap64 (by omega) (by omega)]; simp
      have ic : ∀ k : Go.AM.K β, iaK 8 (.lst 8 b (l.map encLn)) (I pre.length) k = k (.ep (encLn c) 0) := fun k => iaK_at pre.length rfl hci k
      have hq : ∀ q, pre.getLast? = some q → 0 < pre.length ∧ l[pre.length - 1]? = some q := fun q hq => by
        have h1 : pre ≠ [] := by rintro rfl; simp at hq
        have h2 : 0 < pre.length := List.length_pos_iff.2 h1
        refine ⟨h2, ?_⟩
        rw [hc, List.getElem?_append_left (by omega), ← hq, List.getLast?_eq_getElem?]
      have hg0 : pre.getLast? = none → pre.length = 0 := fun hq => by simpa using hq
      have step := fun h => ih (pre ++ [c]) post h (by simpa using hc) (by simpa using hn)
      have hgl : (pre ++ [c]).getLast? = some c := by simp
      rw [hgl] at step
      generalize pre.getLast? = pl at *
      have hp1 : (pre.length : Int) < 1000000 := by omega
      generalize hpn : pre.length = pn at *
      clear ih hc
      rw [linesG]
      obtain ⟨x1, e1⟩ : ∃ x, x = h ++ [AObj.arr 8 [encLn c] true false, .arr 4 [encO c.los] true false, .arr 1 ([c.sent, c.got, c.los.ev, c.los.op, c.los.df, c.los.su].map encI) true false] := ⟨_, rfl⟩
      have y0 : x1[h.length]? = some (.arr 8 [encLn c] true false) := by rw [e1, get_new0]; rfl
      have y1 : x1[h.length + 1]? = some (.arr 4 [encO c.los] true false) := by rw [e1, get_new]; rfl
      have y2 : x1[h.length + 2]? = some (.arr 1 ([c.sent, c.got, c.los.ev, c.los.op, c.los.df, c.los.su].map encI) true false) := by rw [e1, get_new]; rfl
      have L5 := lines_L5 (P := P) (D := D) (N := N) (x2 := fun w99_0 w99_3 w99_4 w99_5 w99_8 w99_9 w99_10 h => f_receipt_lines_j4 P T D N (f_receipt_lines_L2 P T D N x0 xr n) x0 xr w99_0 w99_3 w99_4 w99_5 w99_8 w99_9 w99_10 h) (xr := fun w100_2 h => xr w100_2 h) (v0 := .lst 8 b (l.map encLn)) (v3 := I pn) (v4 := .ptr h.length 0 0 1) (v5 := .ptr (h.length + 1) 0 0 1) (v8 := .lst 8 b (l.map encLn)) (v9 := I l.length) (v10 := I pn) hT1 [c.sent, c.got, c.los.ev, c.los.op, c.los.df, c.los.su] (h.length + 2) x1 y2 (by simp) N [] _ rfl (by simp; omega)
      have red : f_receipt_lines_b2 P T D N (f_receipt_lines_L2 P T D N x0 xr n) x0 xr (.lst 8 b (l.map encLn)) (.lst 8 b (l.map encLn)) (I l.length) (I pn) h = if [c.sent, c.got, c.los.ev, c.los.op, c.los.df, c.los.su].all alcL = true then f_receipt_lines_j4 P T D N (f_receipt_lines_L2 P T D N x0 xr n) x0 xr (.lst 8 b (l.map encLn)) (I pn) (.ptr h.length 0 0 1) (.ptr (h.length + 1) 0 0 1) (.lst 8 b (l.map encLn)) (I l.length) (I pn) x1 else xr (B false) x1 := by
        rw [← L5]
        clear L5 step y0 y1 y2
        simp only [f_receipt_lines_b2, arithK_lss, hlt, decide_true, condK_bool, if_true, ic]
        rw [e1]
        generalize l.map encLn = LL at *
        simp [encLn, encO, boxE, stE, ap, bsE, fillS]
      rw [red]
      have hall : [c.sent, c.got, c.los.ev, c.los.op, c.los.df, c.los.su].all alcL = (alcL c.sent && alcL c.got && okO c.los) := by simp [okO, Bool.and_assoc]
      rw [hall]
      unfold okLn
      cases hA : (alcL c.sent && alcL c.got && okO c.los) with
      | false => simp [hr]
      | true =>
        simp only [if_true, Bool.true_and]
        simp only [Bool.and_eq_true] at hA
        obtain ⟨⟨a1, a2⟩, a3⟩ := hA
        have b1 : 0 ≤ c.sent ∧ c.sent ≤ 10737418240000 := by simpa [alcL, win] using a1
        have b2 : 0 ≤ c.got ∧ c.got ≤ 10737418240000 := by simpa [alcL, win] using a2
        obtain ⟨b3, b4, b5, b6⟩ := okO_bd a3
        have w1 : IntKind.i64.wrap (c.sent + c.los.su) = c.sent + c.los.su := wrap64 (by omega) (by omega)
        have w2 : IntKind.i64.wrap (c.got + c.los.ev) = c.got + c.los.ev := wrap64 (by omega) (by omega)
        have w3 : IntKind.i64.wrap (c.got + c.los.ev + c.los.op) = c.got + c.los.ev + c.los.op := wrap64 (by omega) (by omega)
        have w4 : IntKind.i64.wrap (c.got + c.los.ev + c.los.op + c.los.df) = c.got + c.los.ev + c.los.op + c.los.df := wrap64 (by omega) (by omega)
        have stp := step x1
        have hno : notBehind ltLn pl c = (decide (0 < (pn : Int)) && match l[pn - 1]? with | some q => decide (c.id ≤ q.id) | none => false) := by
          cases pl with
          | none => simp [hg0 rfl]
          | some q =>
            obtain ⟨p1, p2⟩ := hq q rfl
            rw [p2]
            have : (0 : Int) < (pn : Int) := by omega
            simp [ltLn, this]
            by_cases q1 : q.id < c.id <;> simp [q1] <;> omega
        have hgrp : ∀ K : AV → Hp → Option β, grpK true (B (decide (0 < (pn : Int)))) x1 (fun k40 => faK 0 (.ptr h.length 0 0 1) fun x41 => ldK 1 false x41 x1 fun x42 => arithK .sub (I pn) (I 1) fun x43 => iaK 8 (.lst 8 b (l.map encLn)) x43 fun x44 => faK 0 x44 fun x45 => ldK 1 false x45 x1 fun x46 => arithK .leq x42 x46 fun x47 => k40 x47 x1) K = K (B (notBehind ltLn pl c)) x1 := by
          intro K
          rw [hno]
          by_cases q0 : 0 < pn
          · have q0' : (0 : Int) < (pn : Int) := by omega
            have wp : IntKind.i64.wrap ((pn : Int) - 1) = ((pn - 1 : Nat) : Int) := by rw [wrap64 (by omega) (by omega)]; omega
            have hx : l[pn - 1]? = some l[pn - 1] := List.getElem?_eq_getElem (by omega)
            have iq : ∀ k : Go.AM.K β, iaK 8 (.lst 8 b (l.map encLn)) (I ((pn - 1 : Nat) : Int)) k = k (.ep (encLn l[pn - 1]) 0) := fun k => iaK_at (pn - 1) rfl hx k
            rw [hx]
            simp only [q0', decide_true, grpK_tt, arithK_sub, wp, iq, faK_ptr, faK_ep]
            simp [y0, encLn]
          · have q0' : ¬ (0 : Int) < (pn : Int) := by omega
            simp [q0, q0']
        clear red step hno hq hg0
        have e1 : (((pn + 1 : Nat)) : Int) = (pn : Int) + 1 := by simp
        simp only [f_receipt_lines_j4, arithK_gtr]
        have f0 : ∀ (off : Nat) (k : Go.AM.K β), faK off (.ptr h.length 0 0 1) k = k (.ptr h.length 0 (0 + off) 1) := fun off k => faK_ptr ..
        have l0 : ∀ k : Go.AM.K β, ldK 1 false (.ptr h.length 0 (0 + 0) 1) x1 k = k (I c.id) := fun k => by simp [y0, encLn]
        rw [f0 0, l0]
        rw [show T 41 = some F_receipt_in from hT1, callK_F, F_receipt_in_val]
        simp only [notK_bool]
        have hg2 : ∀ (p : Bool) (K : AV → Hp → Option β), grpK false (B p) x1 (fun k38 => grpK true (B (decide (0 < (pn : Int)))) x1 (fun k40 => faK 0 (.ptr h.length 0 0 1) fun x41 => ldK 1 false x41 x1 fun x42 => arithK .sub (I pn) (I 1) fun x43 => iaK 8 (.lst 8 b (l.map encLn)) x43 fun x44 => faK 0 x44 fun x45 => ldK 1 false x45 x1 fun x46 => arithK .leq x42 x46 fun x47 => k40 x47 x1) fun x48 h49 => k38 x48 h49) K = K (B (p || notBehind ltLn pl c)) x1 := fun p K => by
          cases p with
          | true => rfl
          | false => simp only [grpK_ff, Bool.false_or]; exact hgrp K
        rw [hg2]
        clear hgrp hg2
        have hsum : (c.sent + c.los.su == c.got + c.los.ev + c.los.op + c.los.df) = sumLn c := rfl
        generalize notBehind ltLn pl c = nb at *
        generalize l.map encLn = LL at *
        simp only [encLn, encO] at y0 y1
        simp [y0, y1, F_receipt_in_val, w1, w2, w3, w4, f_receipt_lines_j3, hw, hr]
        have stp' : f_receipt_lines_L2 P T D N x0 xr n (.lst 8 b LL) (.lst 8 b LL) (I l.length) (.s (.int .i64 ((pre.length : Int) + 1))) x1 = if linesG (some c) post = true then X else Y := by simpa using stp
        rw [stp']
        simp only [sumLn, beq_iff_eq]
        generalize linesG (some c) post = lg
        split
        · rename_i g
          rw [if_neg]
          rintro ⟨⟨⟨⟨a1, a2⟩, a3⟩, a4⟩, a5, a6⟩
          rcases g with (((g | g) | g) | g) | g
          · rw [a1] at g; cases g
          · rw [a5] at g; cases g
          · rw [a2] at g; cases g
          · rcases a3 with q | q
            · exact q g.1
            · exact q g.2
          · exact g a4
        · rename_i g
          simp only [not_or, Classical.not_not, not_and] at g
          obtain ⟨⟨⟨⟨g1, g2⟩, g3⟩, g4⟩, g5⟩ := g
          have g1' : win c.id 1 1073741824 = true := by simpa using g1
          have g3' : win c.cls 1 9 = true := by simpa using g3
          have g2' : nb = false := by simpa using g2
          have g4' : ¬ c.sent = 0 ∨ ¬ c.got = 0 := by
            by_cases q : c.sent = 0
            · exact .inr (g4 q)
            · exact .inl q
          cases lg with
          | false => rw [if_neg (by simp), if_neg (by simp)]
          | true => rw [if_pos rfl, if_pos ⟨⟨⟨⟨g1', g3'⟩, g4'⟩, g5⟩, g2', rfl⟩]
theorem F_receipt_lines_val (l : List Ln) (b : Bool) (hl : l.length < 1000000) (h : Hp) : F_receipt_lines [.lst 8 b (l.map encLn)] h = some (B (linesS l), h) := by
  refine F_receipt_lines_run rfl ?_ h
  have L := receipt_lines_L2 (P := Try.prog) (T := t_receipt_lines) (D := d_receipt_lines) (N := NN) (x0 := fun w101_0 h => f_receipt_lines_j1 Try.prog t_receipt_lines d_receipt_lines NN (fun v g => cvt false g v) w101_0 h) (xr := fun w102_2 h => cvt false h w102_2) rfl (by have := NN_ge; omega)
    (X := some (B (decide (l.length ≤ 64)))) (Y := some (B false)) l b (fun h => by simp [f_receipt_lines_j1]; omega) (fun h => rfl) hl NN [] l [] rfl (by have := NN_ge; omega)
  rw [linesS_eq]
  refine Eq.trans ?_ (L.trans ?_)
  · simp [f_receipt_lines]
  · show (if linesG none l = true then _ else _) = _
    cases linesG none l <;> simp
end
end Go.AM


namespace Go.AM
open Go.Proofs
set_option linter.unusedVariables false
set_option linter.unusedSimpArgs false
set_option linter.constructorNameAsVariable false
set_option maxRecDepth 20000
def sentS (l : List Ln) : Int := (l.map (·.sent)).sum
def gotS (l : List Ln) : Int := (l.map (·.got)).sum
def losS (l : List Ln) : List Los := l.map (·.los)
def totalLn (l : List Ln) : (Int × Int × Los) × Int :=
  if linesS l = false then ((0, 0, zeroO), 1) else if (sumOS (losS l)).2 ≠ 0 ∨ 10737418240000 < sentS l ∨ 10737418240000 < gotS l then ((0, 0, zeroO), 15) else ((sentS l, gotS l, (sumOS (losS l)).1), 0)
theorem linesG_mem : ∀ (l : List Ln) (p : Option Ln), linesG p l = true → ∀ x ∈ l, okLn x = true
  | [], p, _, x, hx => by simp at hx
  | y :: l, p, h, x, hx => by
    rw [linesG, Bool.and_eq_true, Bool.and_eq_true] at h
    rcases List.mem_cons.1 hx with rfl | hx
    · exact h.1
    · exact linesG_mem l _ h.2.2 x hx
theorem okLn_bd {x : Ln} (h : okLn x = true) : (0 ≤ x.sent ∧ x.sent ≤ 10737418240000) ∧ (0 ≤ x.got ∧ x.got ≤ 10737418240000) ∧ okO x.los = true := by
  simp [okLn, alcL, win] at h; obtain ⟨⟨⟨h1, h2⟩, h3⟩, -⟩ := h; exact ⟨h1, h2, h3⟩
theorem F_loss_Sum_gro {h : Hp} {v : AV} {l : List Los} (O : Gro 4 encO h v l) (hl : l.length < 1000000) : F_loss_Sum [v] h = some (.tup [.agg (encO (sumOS l).1), I (sumOS l).2], h) := by
  obtain ⟨w, h1, h2⟩ := O.cvts (fun x st => by cases st <;> simp [encO, isS])
  have := F_loss_Sum_val l l.isEmpty hl []
  refine closedX_scal' (as' := [w]) (asl := [.lst 4 l.isEmpty (l.map encO)]) (by simp [h1]) (by simp only [nrms]; rw [h2]; rfl) rfl this (by simp [scal, scals, encO])
section
variable {β : Type} {P : Program} {T : Tab} {D : DTab} {N : Nat} {K : AV → Hp → Option β}
theorem receipt_Total_L2 {x0 : AV → AV → AV → AV → Hp → Option β} {X : List Los → Int → Int → Option β}
    (hx : ∀ (h : Hp) (v : AV) (o : List Los) (s g : Int), h[0]? = some (.arr 4 [encO zeroO] true false) → Gro 4 encO h v o → (∀ k, idOf v = some k → 1 ≤ k) → o.length < 1000 → x0 (.ptr 0 0 0 1) (I s) (I g) v h = X o s g)
    (l : List Ln) (b : Bool) (hok : ∀ x ∈ l, okLn x = true) (hl : l.length ≤ 64) : ∀ (n : Nat) (pre post : List Ln) (h : Hp) (v : AV) (o : List Los) (s g : Int), l = pre ++ post → post.length < n → h[0]? = some (.arr 4 [encO zeroO] true false) → Gro 4 encO h v o → (∀ k, idOf v = some k → 1 ≤ k) → o.length = pre.length →
    (0 ≤ s ∧ s ≤ 10737418240000 * pre.length) → (0 ≤ g ∧ g ≤ 10737418240000 * pre.length) →
    f_receipt_Total_L2 P T D N x0 n (.ptr 0 0 0 1) (I s) (I g) v (.lst 8 b (l.map encLn)) (I l.length) (I pre.length) h = X (o ++ losS post) (s + sentS post) (g + gotS post) := by
  intro n
  induction n with
  | zero => intro pre post h v o s g _ h2; omega
  | succ n ih =>
    intro pre post h v o s g hc hn h0 hO hv hol hs hg
    show f_receipt_Total_b2 P T D N (f_receipt_Total_L2 P T D N x0 n) x0 _ _ _ _ _ _ _ h = _
    cases post with
    | nil =>
      have : l = pre := by simpa using hc
      subst this
      simp [f_receipt_Total_b2, hx h v o s g h0 hO hv (by omega), losS, sentS, gotS]
    | cons c post =>
      have hi : pre.length < l.length := by rw [hc]; simp
      have hci : l[pre.length]? = some c := by rw [hc]; simp
      have hlt : ((pre.length : Int) < (l.length : Int)) := by omega
      have hw : IntKind.i64.wrap ((pre.length : Int) + 1) = (((pre ++ [c]).length : Nat) : Int) := by rw [wrap64 (by omega) (by omega)]; simp
      have ic : ∀ k : Go.AM.K β, iaK 8 (.lst 8 b (l.map encLn)) (I pre.length) k = k (.ep (encLn c) 0) := fun k => iaK_at pre.length rfl hci k
      obtain ⟨c1, c2, c3⟩ := okLn_bd (hok c (by rw [hc]; simp))
      have w1 : IntKind.i64.wrap (s + c.sent) = s + c.sent := wrap64 (by omega) (by omega)
      have w2 : IntKind.i64.wrap (g + c.got) = g + c.got := wrap64 (by omega) (by omega)
      obtain ⟨v', h', q1, q2, q3, q4, q5⟩ := Gro.snoc β (hO.app [.arr 8 [encLn c] true false, .arr 4 [encO c.los] true false]) (by_ := 32) (m := h.length + 1) (z := c.los) (b := true) (by rw [get_new]; rfl) (fun hk => by have := hO.lt hk; omega) (fun x _ => rfl) (by omega)
      have h0' := q4 0 _ (get_app h0) (fun hk => by have := hv 0 hk; omega)
      have hv' : ∀ k, idOf v' = some k → 1 ≤ k := fun k hk => by
        rcases q5 with e | e
        · exact hv k (e ▸ hk)
        · rw [e] at hk; simp at hk; omega
      have step := ih (pre ++ [c]) post h' v' (o ++ [c.los]) (s + c.sent) (g + c.got) (by simpa using hc) (by simpa using hn) h0' q2 hv' (by simp [hol]) (by simp; omega) (by simp; omega)
      have e1 : X (o ++ losS (c :: post)) (s + sentS (c :: post)) (g + gotS (c :: post)) = X (o ++ [c.los] ++ losS post) (s + c.sent + sentS post) (g + c.got + gotS post) := by simp [losS, sentS, gotS, Int.add_assoc]
      rw [e1, ← step]
      simp only [f_receipt_Total_b2, arithK_lss, hlt, decide_true, condK_bool, if_true, ic]
      generalize l.map encLn = LL at *
      simp only [encLn, encO] at q1 ⊢
      simp [boxE, stE, ap, bsE, fillS, w1, w2, hw] at q1 ⊢
      rw [q1]
theorem F_receipt_Total_val (l : List Ln) (b : Bool) (hl : l.length < 1000000) (h : Hp) : F_receipt_Total [.lst 8 b (l.map encLn)] h = some (.tup [I (totalLn l).1.1, I (totalLn l).1.2.1, .agg (encO (totalLn l).1.2.2), I (totalLn l).2], h) := by
  refine F_receipt_Total_run rfl ?_ h
  have fl := F_receipt_lines_val l b hl
  unfold totalLn
  have ln : ∀ k : Go.AM.K AV, lenK (.lst 8 b (l.map encLn)) k = k (I l.length) := fun k => by simp
  cases hA : linesS l with
  | false =>
    rw [hA] at fl
    generalize l.map encLn = LL at *
    simp [f_receipt_Total, boxE, fl, buildK, fillA, stE, ap, encO, zeroO]
  | true =>
    rw [hA] at fl
    rw [linesS_eq, Bool.and_eq_true, decide_eq_true_eq] at hA
    have L := receipt_Total_L2 (P := Try.prog) (T := t_receipt_Total) (D := d_receipt_Total) (N := NN) (x0 := fun w56_4 w56_6 w56_7 w56_8 h => f_receipt_Total_j1 Try.prog t_receipt_Total d_receipt_Total NN (fun v g => cvt false g v) w56_4 w56_6 w56_7 w56_8 h)
      (X := fun o s g => some (if (sumOS o).2 ≠ 0 ∨ 10737418240000 < s ∨ 10737418240000 < g then .tup [I 0, I 0, .agg (encO zeroO), I 15] else .tup [I s, I g, .agg (encO (sumOS o).1), I 0]))
      (fun h v o s g h0 hO hv hlo => by
        have fs := F_loss_Sum_gro hO (by omega)
        obtain ⟨o0, t, rfl⟩ : ∃ o0 t, h = o0 :: t := by cases h with
          | nil => simp at h0
          | cons o t => exact ⟨o, t, rfl⟩
        simp only [List.getElem?_cons_zero, Option.some.injEq] at h0
        subst h0
        generalize sumOS o = so at *
        obtain ⟨so, er⟩ := so
        simp only [encO, zeroO] at fs ⊢
        by_cases q1 : er = 0
        · by_cases q2 : 10737418240000 < s
          · simp [f_receipt_Total_j1, fs, boxE, stE, ap, q1, q2, buildK, fillA]
          · by_cases q3 : 10737418240000 < g
            · simp [f_receipt_Total_j1, fs, boxE, stE, ap, q1, q2, q3, buildK, fillA]
            · simp [f_receipt_Total_j1, fs, boxE, stE, ap, q1, q2, q3]
        · have q1' : (er == 0) = false := by simpa using q1
          simp [f_receipt_Total_j1, fs, boxE, stE, ap, q1, q1', buildK, fillA]) l b (linesG_mem l none hA.1) hA.2 NN [] l [.arr 4 [encO zeroO] true false] nilS [] 0 0 rfl (by have := NN_ge; omega) rfl .nil (by simp) rfl (by simp) (by simp)
    refine Eq.trans ?_ (L.trans ?_)
    · generalize l.map encLn = LL at *
      simp [f_receipt_Total, boxE, fl, ln, encO, zeroO]
    · simp only [List.nil_append, Int.zero_add, Bool.true_eq_false, if_false]
      split <;> rfl
def acceptLn (l : List Ln) (lim : Int) : Bool × Int := if (totalLn l).2 ≠ 0 then (false, (totalLn l).2) else if win lim 0 10737418240000 = false then (false, 2) else (decide ((totalLn l).1.2.2.df ≤ lim), 0)
theorem F_receipt_Accepts_val (l : List Ln) (b : Bool) (lim : Int) (hl : l.length < 1000000) (h : Hp) : F_receipt_Accepts [.lst 8 b (l.map encLn), I lim] h = some (.tup [B (acceptLn l lim).1, I (acceptLn l lim).2], h) := by
  refine F_receipt_Accepts_run rfl ?_ h
  have ft := F_receipt_Total_val l b hl
  unfold acceptLn
  generalize totalLn l = tt at *
  obtain ⟨⟨s, g, lo⟩, er⟩ := tt
  generalize l.map encLn = LL at *
  simp only [encO] at ft
  by_cases q1 : er = 0
  · cases q2 : win lim 0 10737418240000 <;> simp [f_receipt_Accepts, ft, boxE, stE, ap, q1, q2, F_receipt_in_val]
  · have q1' : (er == 0) = false := by simpa using q1
    simp [f_receipt_Accepts, ft, boxE, stE, ap, q1, q1']
theorem eq_Ln (x y : Ln) (neq : Bool) (h : Hp) (k : Go.AM.K β) : eqK Try.prog neq 46 (.agg (encLn x)) (.agg (encLn y)) h k = k (B (xor neq (x == y))) := by
  simp only [encLn, eqs_46]
  have : (x == y) = ((x.id == y.id) && ((x.cls == y.cls) && ((x.sent == y.sent) && ((x.got == y.got) && (((x.los.ev == y.los.ev) && ((x.los.op == y.los.op) && ((x.los.df == y.los.df) && ((x.los.su == y.los.su) && true)))) && true))))) := by
    obtain ⟨a, b, c, d, e1, e2, e3, e4⟩ := x
    obtain ⟨a', b', c', d', f1, f2, f3, f4⟩ := y
    rw [Bool.eq_iff_iff]
    simp [Ln.mk.injEq, Los.mk.injEq]
  rw [this]
theorem Equal_Line_L2 {T : Tab} {D : DTab} {x0 : Hp → Option β} {xr : AV → Hp → Option β} (l m : List Ln) (b1 b2 : Bool) (hlm : l.length = m.length) (hl : l.length < 1000000) (h : Hp) : ∀ (n : Nat) (p1 s p2 t : List Ln), l = p1 ++ s → m = p2 ++ t → p1.length = p2.length → s.length < n →
    f_slices_Equal_Line_L2 Try.prog T D N x0 xr n (.lst 8 b1 (l.map encLn)) (.lst 8 b2 (m.map encLn)) (I l.length) (I p1.length) h = if s = t then x0 h else xr (B false) h := by
  intro n
  induction n with
  | zero => intro p1 s p2 t _ _ _ h2; omega
  | succ n ih =>
    intro p1 s p2 t h1 h2 hp hn
    show f_slices_Equal_Line_b2 Try.prog T D N (f_slices_Equal_Line_L2 Try.prog T D N x0 xr n) x0 xr _ _ _ _ h = _
    have e1 := congrArg List.length h1
    have e2 := congrArg List.length h2
    rw [List.length_append] at e1 e2
    cases s with
    | nil =>
      have : t = [] := List.eq_nil_of_length_eq_zero (by simp at e1; omega)
      subst this
      have : l = p1 := by simpa using h1
      subst this
      simp [f_slices_Equal_Line_b2]
    | cons a s =>
      cases t with
      | nil => simp at e1 e2; omega
      | cons c t =>
        have ha : l[p1.length]? = some a := by rw [h1]; simp
        have hb : m[p1.length]? = some c := by rw [h2, hp]; simp
        have hlt : ((p1.length : Int) < (l.length : Int)) := by simp at e1; omega
        have hw : IntKind.i64.wrap ((p1.length : Int) + 1) = (((p1 ++ [a]).length : Nat) : Int) := by rw [wrap64 (by omega) (by omega)]; simp
        have ia : ∀ k : Go.AM.K β, iaK 8 (.lst 8 b1 (l.map encLn)) (I p1.length) k = k (.ep (encLn a) 0) := fun k => iaK_at p1.length rfl ha k
        have ib : ∀ k : Go.AM.K β, iaK 8 (.lst 8 b2 (m.map encLn)) (I p1.length) k = k (.ep (encLn c) 0) := fun k => iaK_at p1.length rfl hb k
        have ld : ∀ (x : Ln) (k : Go.AM.K β), ldK 8 true (.ep (encLn x) 0) h k = k (.agg (encLn x)) := fun x k => by simp [encLn]
        have step := ih (p1 ++ [a]) s (p2 ++ [c]) t (by simpa using h1) (by simpa using h2) (by simp [hp]) (by simpa using hn)
        simp only [f_slices_Equal_Line_b2, arithK_lss, hlt, decide_true, condK_bool, if_true, ia, ib, ld, eq_Ln, Bool.true_xor, arithK_add, hw]
        by_cases q : a = c
        · subst q
          simp only [beq_self_eq_true, Bool.not_true, Bool.false_eq_true, if_false, List.cons.injEq, true_and]
          exact step
        · have q' : (a == c) = false := by simpa using q
          simp only [q', Bool.not_false, if_true]
          rw [if_neg (by simp [q])]
theorem F_slices_Equal_Line_val (l m : List Ln) (b1 b2 : Bool) (hl : l.length < 1000000) (h : Hp) : F_slices_Equal_Line [.lst 8 b1 (l.map encLn), .lst 8 b2 (m.map encLn)] h = some (B (decide (l = m)), h) := by
  refine F_slices_Equal_Line_run rfl ?_ h
  have ln1 : ∀ k : Go.AM.K AV, lenK (.lst 8 b1 (l.map encLn)) k = k (I l.length) := fun k => by simp
  have ln2 : ∀ k : Go.AM.K AV, lenK (.lst 8 b2 (m.map encLn)) k = k (I m.length) := fun k => by simp
  by_cases hlm : l.length = m.length
  · have L := Equal_Line_L2 (N := NN) (T := t_slices_Equal_Line) (D := d_slices_Equal_Line) (x0 := fun h => f_slices_Equal_Line_j1 Try.prog t_slices_Equal_Line d_slices_Equal_Line NN (fun v g => cvt false g v) h) (xr := fun w13_4 h => cvt false h w13_4) l m b1 b2 hlm hl [] NN [] l [] m rfl rfl rfl (by have := NN_ge; omega)
    have hb : ((l.length : Int) == (m.length : Int)) = true := by simp [hlm]
    refine Eq.trans ?_ (L.trans ?_)
    · generalize l.map encLn = L1 at *
      generalize m.map encLn = L2 at *
      simp [f_slices_Equal_Line, ln1, ln2, hlm]
    · by_cases q : l = m
      · rw [if_pos q, decide_eq_true q]; rfl
      · rw [if_neg q, decide_eq_false q]; rfl
  · have q : l ≠ m := fun e => hlm (by rw [e])
    have hb : ((l.length : Int) == (m.length : Int)) = false := by simpa using (fun h : (l.length : Int) = m.length => hlm (by omega))
    rw [decide_eq_false q]
    generalize l.map encLn = L1 at *
    generalize m.map encLn = L2 at *
    simp [f_slices_Equal_Line, ln1, ln2, hb]
def verifyS (sent got : List Gd) (tol : List Int) (l : List Ln) : Int := if (cmpS sent got tol).2 ≠ 0 then (cmpS sent got tol).2 else if (cmpS sent got tol).1 = l then 0 else 14
theorem cmpS_len (sent got : List Gd) (tol : List Int) : (cmpS sent got tol).1.length ≤ 64 := by
  unfold cmpS
  split
  · simp
  · split
    · simp
    · split
      · simp
      · split
        · simp
        · split
          · simp
          · simp; omega
theorem F_receipt_Verify_val (sent got : List Gd) (tol : List Int) (l : List Ln) (b1 b2 b3 b4 : Bool) (h1 : sent.length < 1000) (h2 : got.length < 1000) (h3 : tol.length < 1000) (h : Hp) :
    F_receipt_Verify [.lst 3 b1 (sent.map encG), .lst 3 b2 (got.map encG), .lst 1 b3 (tol.map encI), .lst 8 b4 (l.map encLn)] h = some (I (verifyS sent got tol l), h) := by
  refine F_receipt_Verify_run rfl ?_ h
  have fc := F_receipt_Compare_val sent got tol b1 b2 b3 h1 h2 h3
  have fe := F_slices_Equal_Line_val (cmpS sent got tol).1 l (cmpS sent got tol).1.isEmpty b4 (by have := cmpS_len sent got tol; omega)
  unfold verifyS
  generalize cmpS sent got tol = cc at *
  obtain ⟨o, er⟩ := cc
  dsimp only at *
  generalize sent.map encG = S1 at *
  generalize got.map encG = S2 at *
  generalize tol.map encI = S3 at *
  generalize l.map encLn = S4 at *
  generalize o.map encLn = S5 at *
  by_cases q1 : er = 0
  · by_cases q2 : o = l
    · subst q2
      simp [f_receipt_Verify, fc, fe, q1]
    · simp [f_receipt_Verify, fc, fe, q1, q2]
  · have q1' : (er == 0) = false := by simpa using q1
    simp [f_receipt_Verify, fc, q1, q1']
end
end Go.AM


namespace Go.AM
open Go.Proofs
set_option linter.unusedVariables false
set_option linter.unusedSimpArgs false
set_option linter.constructorNameAsVariable false
set_option maxRecDepth 20000
section
variable {β : Type} {P : Program} {T : Tab} {D : DTab} {N : Nat} {K : AV → Hp → Option β}
end
end Go.AM


namespace Go.AM
open Go.Proofs
set_option linter.unusedVariables false
set_option linter.unusedSimpArgs false
set_option linter.constructorNameAsVariable false
set_option maxRecDepth 20000
section
variable {β : Type} {P : Program} {T : Tab} {D : DTab} {N : Nat} {K : AV → Hp → Option β}
def Grm {α : Type} (sz : Nat) (f : α → List AV) (h : Hp) (v : AV) (l : List α) : Prop := ∃ k b, v = .sl sz k 0 l.length l.length b ∧ h[k]? = some (.arr sz (l.map f) true false) ∧ (b = true → l = [])
theorem Grm.keep {α : Type} {sz : Nat} {f : α → List AV} {h h' : Hp} {v : AV} {l : List α} (O : Grm sz f h v l) (hk : ∀ k o, idOf v = some k → h[k]? = some o → h'[k]? = some o) : Grm sz f h' v l := by
  obtain ⟨k, b, rfl, h2, h3⟩ := O
  exact ⟨k, b, rfl, hk k _ rfl h2, h3⟩
theorem Grm.app {α : Type} {sz : Nat} {f : α → List AV} {h : Hp} {v : AV} {l : List α} (O : Grm sz f h v l) (x : List AObj) : Grm sz f (h ++ x) v l := O.keep fun k o _ hk => get_app hk
theorem Grm.lt {α : Type} {sz : Nat} {f : α → List AV} {h : Hp} {v : AV} {l : List α} (O : Grm sz f h v l) : ∃ k, idOf v = some k ∧ k < h.length := by
  obtain ⟨k, b, rfl, h2, h3⟩ := O
  exact ⟨k, rfl, (List.getElem?_eq_some_iff.1 h2).1⟩
theorem Grm.cvt {α : Type} {sz : Nat} {f : α → List AV} {h : Hp} {v : AV} {l : List α} (O : Grm sz f h v l) (hf : ∀ x st, (f x).all (fun c => bif st then isS c else plain c) = true) (st : Bool) : Go.AM.cvt st h v = some (.lst sz false (l.map f)) := by
  obtain ⟨k, b, rfl, h2, h3⟩ := O
  exact cvt_whole h2 (by simp) (by simp) (okE_map fun x => hf x st)
theorem Grm.len {α : Type} {sz : Nat} {f : α → List AV} {h : Hp} {v : AV} {l : List α} (O : Grm sz f h v l) (k : Go.AM.K β) : lenK v k = k (I l.length) := by
  obtain ⟨j, b, rfl, h2, h3⟩ := O
  simp
end
end Go.AM


namespace Go.AM
open Go.Proofs
set_option linter.unusedVariables false
set_option linter.unusedSimpArgs false
set_option linter.constructorNameAsVariable false
set_option maxRecDepth 20000
section
variable {β : Type} {P : Program} {T : Tab} {D : DTab} {N : Nat} {K : AV → Hp → Option β}
def findG (l : List Gd) (id : Int) : Gd := (l.find? fun g => g.id == id).getD zG
end
end Go.AM


namespace Go.AM
open Go.Proofs
set_option linter.unusedVariables false
set_option linter.unusedSimpArgs false
set_option linter.constructorNameAsVariable false
set_option maxRecDepth 20000
section
variable {β : Type} {P : Program} {ty : TypeId}
end
end Go.AM


namespace Go.AM
open Go.Proofs
set_option linter.unusedVariables false
set_option linter.unusedSimpArgs false
set_option linter.constructorNameAsVariable false
set_option maxRecDepth 20000
end Go.AM


namespace Go.AM
open Go.Proofs
set_option linter.unusedVariables false
set_option linter.unusedSimpArgs false
set_option linter.constructorNameAsVariable false
set_option maxRecDepth 20000
section
variable {β : Type} {P : Program} {ty : TypeId}
variable {T : Tab} {D : DTab} {N : Nat} {x0 : AV → AV → AV → Hp → Option β}
end
end Go.AM


namespace Go.AM
open Go.Proofs
set_option linter.unusedVariables false
set_option linter.unusedSimpArgs false
set_option linter.constructorNameAsVariable false
set_option maxRecDepth 20000
end Go.AM


namespace Go.AM
open Go.Proofs
set_option linter.unusedVariables false
set_option linter.unusedSimpArgs false
set_option linter.constructorNameAsVariable false
set_option maxRecDepth 20000
end Go.AM


namespace Go.AM
open Go.Proofs
set_option linter.unusedVariables false
set_option linter.unusedSimpArgs false
set_option linter.constructorNameAsVariable false
set_option maxRecDepth 20000
section
variable {β : Type} {P : Program} {T : Tab} {D : DTab} {N : Nat} {K : AV → Hp → Option β}
end
end Go.AM


namespace Go.AM
open Go.Proofs
set_option linter.unusedVariables false
set_option linter.unusedSimpArgs false
set_option linter.constructorNameAsVariable false
set_option maxRecDepth 20000
section
variable {β : Type} {P : Program} {T : Tab} {D : DTab} {N : Nat} {K : AV → Hp → Option β}
end
end Go.AM


namespace Go.AM
open Go.Proofs
set_option linter.unusedVariables false
set_option linter.unusedSimpArgs false
set_option linter.constructorNameAsVariable false
set_option maxRecDepth 20000
def sLn (l : List Ln) : Prop := l.Pairwise fun a b => a.id < b.id
def sG (l : List Gd) : Prop := l.Pairwise fun a b => a.id < b.id
def keyG (p : Gd × Gd) : Int := max p.1.id p.2.id
theorem find_lt {l : List Gd} {id : Int} (h : ∀ g ∈ l, id < g.id) : findG l id = zG := by
  unfold findG
  have : l.find? (fun g => g.id == id) = none := by
    rw [List.find?_eq_none]
    intro g hg
    have := h g hg
    simp; omega
  rw [this]; rfl
theorem find_cons_self (g : Gd) (l : List Gd) : findG (g :: l) g.id = g := by simp [findG]
theorem find_cons_ne {g : Gd} {l : List Gd} {id : Int} (h : g.id ≠ id) : findG (g :: l) id = findG l id := by
  have : (g.id == id) = false := by simpa using h
  simp [findG, this]
theorem find_mem {l : List Gd} (hs : sG l) {g : Gd} (hg : g ∈ l) : findG l g.id = g := by
  induction l with
  | nil => simp at hg
  | cons a l ih =>
    obtain ⟨p1, p2⟩ := List.pairwise_cons.1 hs
    rcases List.mem_cons.1 hg with rfl | hg
    · exact find_cons_self _ _
    · rw [find_cons_ne (by have := p1 g hg; omega)]; exact ih p2 hg
theorem find_cases (l : List Gd) (id : Int) : (findG l id = zG ∧ ∀ g ∈ l, g.id ≠ id) ∨ (findG l id ∈ l ∧ (findG l id).id = id) := by
  unfold findG
  cases hf : l.find? (fun g => g.id == id) with
  | none =>
    left
    refine ⟨rfl, fun g hg => ?_⟩
    have := List.find?_eq_none.1 hf g hg
    simpa using this
  | some g =>
    right
    exact ⟨List.mem_of_find?_eq_some hf, by simpa using List.find?_some hf⟩
theorem merge_spec : ∀ (s t : List Gd), sG s → sG t → (∀ g ∈ s, 0 < g.id) → (∀ g ∈ t, 0 < g.id) →
    (∀ p ∈ mergeG s t, p = (findG s (keyG p), findG t (keyG p)) ∧ ((∃ g ∈ s, g.id = keyG p) ∨ ∃ g ∈ t, g.id = keyG p)) ∧ (mergeG s t).Pairwise (fun a b => keyG a < keyG b) ∧
    (∀ g ∈ s, (findG s g.id, findG t g.id) ∈ mergeG s t) ∧ (∀ g ∈ t, (findG s g.id, findG t g.id) ∈ mergeG s t) := by
  intro s t
  fun_induction mergeG s t with
  | case1 => intro _ _ _ _; simp
  | case2 a s ih =>
    intro h1 h2 h3 h4
    obtain ⟨p1, p2⟩ := List.pairwise_cons.1 h1
    obtain ⟨i1, i2, i3, i4⟩ := ih p2 h2 (fun g hg => h3 g (by simp [hg])) h4
    have ha := h3 a (by simp)
    have k0 : keyG (a, zG) = a.id := by simp [keyG, zG]; omega
    have gt : ∀ p ∈ mergeG s [], a.id < keyG p := fun p hp => by
      rcases (i1 p hp).2 with ⟨g, hg, e⟩ | ⟨g, hg, e⟩
      · rw [← e]; exact p1 g hg
      · simp at hg
    refine ⟨fun p hp => ?_, List.pairwise_cons.2 ⟨fun p hp => by rw [k0]; exact gt p hp, i2⟩, fun g hg => ?_, fun g hg => by simp at hg⟩
    · rcases List.mem_cons.1 hp with rfl | hp
      · rw [k0]; exact ⟨by rw [find_cons_self]; rfl, .inl ⟨a, by simp, rfl⟩⟩
      · have := gt p hp
        obtain ⟨q1, q2⟩ := i1 p hp
        refine ⟨by rw [find_cons_ne (by omega)]; exact q1, ?_⟩
        rcases q2 with ⟨g, hg, e⟩ | ⟨g, hg, e⟩
        · exact .inl ⟨g, by simp [hg], e⟩
        · exact .inr ⟨g, hg, e⟩
    · rcases List.mem_cons.1 hg with rfl | hg
      · rw [find_cons_self]; exact List.mem_cons.2 (.inl rfl)
      · rw [find_cons_ne (by have := p1 g hg; omega)]
        exact List.mem_cons.2 (.inr (i3 g hg))
  | case3 b t ih =>
    intro h1 h2 h3 h4
    obtain ⟨p1, p2⟩ := List.pairwise_cons.1 h2
    obtain ⟨i1, i2, i3, i4⟩ := ih h1 p2 h3 (fun g hg => h4 g (by simp [hg]))
    have hb := h4 b (by simp)
    have k0 : keyG (zG, b) = b.id := by simp [keyG, zG]; omega
    have gt : ∀ p ∈ mergeG [] t, b.id < keyG p := fun p hp => by
      rcases (i1 p hp).2 with ⟨g, hg, e⟩ | ⟨g, hg, e⟩
      · simp at hg
      · rw [← e]; exact p1 g hg
    refine ⟨fun p hp => ?_, List.pairwise_cons.2 ⟨fun p hp => by rw [k0]; exact gt p hp, i2⟩, fun g hg => by simp at hg, fun g hg => ?_⟩
    · rcases List.mem_cons.1 hp with rfl | hp
      · rw [k0]; exact ⟨by rw [find_cons_self]; rfl, .inr ⟨b, by simp, rfl⟩⟩
      · have := gt p hp
        obtain ⟨q1, q2⟩ := i1 p hp
        refine ⟨by rw [find_cons_ne (by omega)]; exact q1, ?_⟩
        rcases q2 with ⟨g, hg, e⟩ | ⟨g, hg, e⟩
        · exact .inl ⟨g, hg, e⟩
        · exact .inr ⟨g, by simp [hg], e⟩
    · rcases List.mem_cons.1 hg with rfl | hg
      · rw [find_cons_self]; exact List.mem_cons.2 (.inl rfl)
      · rw [find_cons_ne (by have := p1 g hg; omega)]
        exact List.mem_cons.2 (.inr (i4 g hg))
  | case4 a s b t he ih =>
    intro h1 h2 h3 h4
    obtain ⟨p1, p2⟩ := List.pairwise_cons.1 h1
    obtain ⟨r1, r2⟩ := List.pairwise_cons.1 h2
    obtain ⟨i1, i2, i3, i4⟩ := ih p2 r2 (fun g hg => h3 g (by simp [hg])) (fun g hg => h4 g (by simp [hg]))
    have k0 : keyG (a, b) = a.id := by simp [keyG]; omega
    have gt : ∀ p ∈ mergeG s t, a.id < keyG p := fun p hp => by
      rcases (i1 p hp).2 with ⟨g, hg, e⟩ | ⟨g, hg, e⟩
      · rw [← e]; exact p1 g hg
      · rw [← e, he]; exact r1 g hg
    refine ⟨fun p hp => ?_, List.pairwise_cons.2 ⟨fun p hp => by rw [k0]; exact gt p hp, i2⟩, fun g hg => ?_, fun g hg => ?_⟩
    · rcases List.mem_cons.1 hp with rfl | hp
      · rw [k0]; exact ⟨by rw [find_cons_self]; conv => rhs; rw [he, find_cons_self], .inl ⟨a, by simp, rfl⟩⟩
      · have := gt p hp
        obtain ⟨q1, q2⟩ := i1 p hp
        refine ⟨by rw [find_cons_ne (by omega), find_cons_ne (by omega)]; exact q1, ?_⟩
        rcases q2 with ⟨g, hg, e⟩ | ⟨g, hg, e⟩
        · exact .inl ⟨g, by simp [hg], e⟩
        · exact .inr ⟨g, by simp [hg], e⟩
    · rcases List.mem_cons.1 hg with rfl | hg
      · rw [find_cons_self, he, find_cons_self]; exact List.mem_cons.2 (.inl rfl)
      · have := p1 g hg
        rw [find_cons_ne (by omega), find_cons_ne (by omega)]
        exact List.mem_cons.2 (.inr (i3 g hg))
    · rcases List.mem_cons.1 hg with rfl | hg
      · rw [find_cons_self, ← he, find_cons_self]; exact List.mem_cons.2 (.inl rfl)
      · have := r1 g hg
        rw [find_cons_ne (by omega), find_cons_ne (by omega)]
        exact List.mem_cons.2 (.inr (i4 g hg))
  | case5 a s b t he hlt ih =>
    intro h1 h2 h3 h4
    obtain ⟨p1, p2⟩ := List.pairwise_cons.1 h1
    obtain ⟨r1, r2⟩ := List.pairwise_cons.1 h2
    obtain ⟨i1, i2, i3, i4⟩ := ih p2 h2 (fun g hg => h3 g (by simp [hg])) h4
    have ha := h3 a (by simp)
    have k0 : keyG (a, zG) = a.id := by simp [keyG, zG]; omega
    have gt : ∀ p ∈ mergeG s (b :: t), a.id < keyG p := fun p hp => by
      rcases (i1 p hp).2 with ⟨g, hg, e⟩ | ⟨g, hg, e⟩
      · rw [← e]; exact p1 g hg
      · rcases List.mem_cons.1 hg with rfl | hg
        · omega
        · have := r1 g hg; omega
    have fz : findG (b :: t) a.id = zG := find_lt (fun g hg => by
      rcases List.mem_cons.1 hg with rfl | hg
      · exact hlt
      · have := r1 g hg; omega)
    refine ⟨fun p hp => ?_, List.pairwise_cons.2 ⟨fun p hp => by rw [k0]; exact gt p hp, i2⟩, fun g hg => ?_, fun g hg => ?_⟩
    · rcases List.mem_cons.1 hp with rfl | hp
      · rw [k0]; exact ⟨by rw [find_cons_self, fz], .inl ⟨a, by simp, rfl⟩⟩
      · have := gt p hp
        obtain ⟨q1, q2⟩ := i1 p hp
        refine ⟨by rw [find_cons_ne (g := a) (by omega)]; exact q1, ?_⟩
        rcases q2 with ⟨g, hg, e⟩ | ⟨g, hg, e⟩
        · exact .inl ⟨g, by simp [hg], e⟩
        · exact .inr ⟨g, hg, e⟩
    · rcases List.mem_cons.1 hg with rfl | hg
      · rw [find_cons_self, fz]; exact List.mem_cons.2 (.inl rfl)
      · have := p1 g hg
        rw [find_cons_ne (g := a) (by omega)]
        exact List.mem_cons.2 (.inr (i3 g hg))
    · have : a.id < g.id := by
        rcases List.mem_cons.1 hg with rfl | hg
        · exact hlt
        · have := r1 g hg; omega
      rw [find_cons_ne (g := a) (by omega)]
      exact List.mem_cons.2 (.inr (i4 g hg))
  | case6 a s b t he hlt ih =>
    intro h1 h2 h3 h4
    obtain ⟨p1, p2⟩ := List.pairwise_cons.1 h1
    obtain ⟨r1, r2⟩ := List.pairwise_cons.1 h2
    obtain ⟨i1, i2, i3, i4⟩ := ih h1 r2 h3 (fun g hg => h4 g (by simp [hg]))
    have hb := h4 b (by simp)
    have hba : b.id < a.id := by omega
    have k0 : keyG (zG, b) = b.id := by simp [keyG, zG]; omega
    have gt : ∀ p ∈ mergeG (a :: s) t, b.id < keyG p := fun p hp => by
      rcases (i1 p hp).2 with ⟨g, hg, e⟩ | ⟨g, hg, e⟩
      · rcases List.mem_cons.1 hg with rfl | hg
        · omega
        · have := p1 g hg; omega
      · rw [← e]; exact r1 g hg
    have fz : findG (a :: s) b.id = zG := find_lt (fun g hg => by
      rcases List.mem_cons.1 hg with rfl | hg
      · exact hba
      · have := p1 g hg; omega)
    refine ⟨fun p hp => ?_, List.pairwise_cons.2 ⟨fun p hp => by rw [k0]; exact gt p hp, i2⟩, fun g hg => ?_, fun g hg => ?_⟩
    · rcases List.mem_cons.1 hp with rfl | hp
      · rw [k0]; exact ⟨by rw [find_cons_self, fz], .inr ⟨b, by simp, rfl⟩⟩
      · have := gt p hp
        obtain ⟨q1, q2⟩ := i1 p hp
        refine ⟨by rw [find_cons_ne (g := b) (by omega)]; exact q1, ?_⟩
        rcases q2 with ⟨g, hg, e⟩ | ⟨g, hg, e⟩
        · exact .inl ⟨g, hg, e⟩
        · exact .inr ⟨g, by simp [hg], e⟩
    · have : b.id < g.id := by
        rcases List.mem_cons.1 hg with rfl | hg
        · exact hba
        · have := p1 g hg; omega
      rw [find_cons_ne (g := b) (by omega)]
      exact List.mem_cons.2 (.inr (i3 g hg))
    · rcases List.mem_cons.1 hg with rfl | hg
      · rw [find_cons_self, fz]; exact List.mem_cons.2 (.inl rfl)
      · have := r1 g hg
        rw [find_cons_ne (g := b) (by omega)]
        exact List.mem_cons.2 (.inr (i4 g hg))
theorem right_all {l : List Gd} (h : rightG l = true) : l.length ≤ 64 ∧ sG l ∧ (∀ g ∈ l, 0 < g.id ∧ 1 ≤ g.cls ∧ 1 ≤ g.alc) := by
  obtain ⟨h1, h2, h3⟩ := rightG_spec h
  refine ⟨h1, h3.imp fun h => by simpa [ltG] using h, fun g hg => ?_⟩
  have := h2 g hg
  simp [badG, win] at this
  omega
end Go.AM


namespace Go.AM
open Go.RowKit
set_option linter.unusedVariables false
def mu0 (w : World) : Mu := ⟨fun _ => .virt none, w, fun k => k < w.heap.size⟩
theorem rel0 (w : World) : Rel (mu0 w) [] w where
  obj := fun id o h => by simp at h
  sep := fun i j o p b x c y d h => by simp at h
  apart := fun i sz es nil b x c h => by simp at h
  imm := fun k hk => ⟨hk, rfl, fun ⟨id, o, off, c, h, _⟩ => by simp at h⟩
theorem own0 (w : World) (b : Nat) : ¬ Own (mu0 w) [] b := fun ⟨id, o, off, c, h, _⟩ => by simp at h
theorem below0 {w w' : World} {μ' : Mu} {h' : Hp} (s : Step (mu0 w) [] w μ' h' w') : Below w.heap.size w w' :=
  ⟨s.frame.os, s.frame.tape, s.frame.output, s.frame.size, fun k hk => s.frame.block k hk (own0 w k)⟩
theorem row_calls {P : Program} {f : FuncId} {F : Fun} {args : List AV} {h' : Hp} {b : Bool} {W : World} {cargs : Array Value} (hc : CSound P f F) (hF : F args [] = some (.s (.bool b), h')) (hv : VRs (mu0 W) [] args cargs.toList) :
    Calls P f cargs W fun e W' => e = .returned (.bool b) ∧ Below W.heap.size W W' := by
  refine (hc args [] _ h' hF (mu0 W) W cargs (rel0 W) hv).2.mono fun e W' => ?_
  rintro ⟨cv, μ', rfl, s, hr⟩
  simp only [VR] at hr
  exact ⟨by rw [hr.2], below0 s⟩

inductive Ty where
  | int (k : IntKind)
  | bool
  | str
  | sl (e : List Ty)
def tyFs (f : TypeId → Option (List Ty)) (size : TypeId → Nat) : List Field → Nat → Option (List Ty)
  | [], _ => some []
  | x :: l, pos => match f x.type, tyFs f size l (pos + size x.type) with
    | some a, some b => if x.offset = pos ∧ a.length = size x.type then some (a ++ b) else none
    | _, _ => none
def tyOf (P : Program) : Nat → TypeId → Option (List Ty)
  | 0, _ => none
  | n + 1, t => match P.underlying t with
    | some .bool => some [.bool]
    | some (.int k) => some [.int k]
    | some .string => some [.str]
    | some (.slice e) => match tyOf P n e with
      | some l => if l.length = P.cellsOf e ∧ 0 < l.length then some [.sl l] else none
      | none => none
    | some (.struct fs) => match tyFs (tyOf P n) P.cellsOf fs.toList 0 with
      | some l => if l.length = P.cellsOf t then some l else none
      | none => none
    | some (.array m e) => match tyOf P n e with
      | some l => if l.length = P.cellsOf e ∧ m * P.cellsOf e = P.cellsOf t then some (List.replicate m l).flatten else none
      | none => none
    | _ => none
mutual
def HasT : Ty → AV → Prop
  | .int k, a => ∃ n, a = .s (.int k n) ∧ (Lit.int k n).wf = true
  | .bool, a => ∃ b, a = .s (.bool b)
  | .str, a => ∃ s : ByteArray, a = .s (.string s) ∧ s.size ≤ maxLen
  | .sl ts, a => ∃ nil es, a = .lst ts.length nil es ∧ (nil = true → es = []) ∧ es.length ≤ maxLen ∧ ∀ e ∈ es, HasTs ts e
def HasTs : List Ty → List AV → Prop
  | [], asl => asl = []
  | t :: ts, asl => ∃ a as', asl = a :: as' ∧ HasT t a ∧ HasTs ts as'
end
theorem HasTs.app : ∀ {ts us : List Ty} {asl bs : List AV}, HasTs ts asl → HasTs us bs → HasTs (ts ++ us) (asl ++ bs)
  | [], us, asl, bs, h, k => by simp only [HasTs] at h; subst h; exact k
  | t :: ts, us, asl, bs, h, k => by
    simp only [HasTs] at h
    obtain ⟨a, as', rfl, h1, h2⟩ := h
    simp only [List.cons_append, HasTs]
    exact ⟨a, _, rfl, h1, HasTs.app h2 k⟩
theorem HasTs.len : ∀ {ts : List Ty} {asl : List AV}, HasTs ts asl → asl.length = ts.length
  | [], asl, h => by simp only [HasTs] at h; subst h; rfl
  | t :: ts, asl, h => by
    simp only [HasTs] at h
    obtain ⟨a, as', rfl, h1, h2⟩ := h
    simp [HasTs.len h2]
theorem HasT.ok : ∀ {t : Ty} {a : AV}, HasT t a → okC a = true
  | .int k, a, h => by simp only [HasT] at h; obtain ⟨n, rfl, _⟩ := h; rfl
  | .bool, a, h => by simp only [HasT] at h; obtain ⟨n, rfl⟩ := h; rfl
  | .str, a, h => by simp only [HasT] at h; obtain ⟨n, rfl, _⟩ := h; rfl
  | .sl ts, a, h => by simp only [HasT] at h; obtain ⟨n, es, rfl, _⟩ := h; rfl
theorem HasTs.ok : ∀ {ts : List Ty} {asl : List AV}, HasTs ts asl → ∀ x ∈ asl, okC x = true
  | [], asl, h, x, hx => by simp only [HasTs] at h; subst h; simp at hx
  | t :: ts, asl, h, x, hx => by
    simp only [HasTs] at h
    obtain ⟨a, as', rfl, h1, h2⟩ := h
    rcases List.mem_cons.1 hx with rfl | hx
    · exact h1.ok
    · exact h2.ok x hx
theorem VRs_app' {μ : Mu} {h : Hp} : ∀ {asl bs : List AV} {cs ds : List Value}, VRs μ h asl cs → VRs μ h bs ds → VRs μ h (asl ++ bs) (cs ++ ds)
  | [], bs, cs, ds, h1, h2 => by simp only [VRs] at h1; subst h1; exact h2
  | a :: asl, bs, cs, ds, h1, h2 => by
    simp only [VRs] at h1
    obtain ⟨v, vs, rfl, h3, h4⟩ := h1
    simp only [List.cons_append, VRs]
    exact ⟨v, _, rfl, h3, VRs_app' h4 h2⟩
section
variable {H : Type} {enc : TypeId × Value → H} {P : Program} {w : World} {base : Nat} {spare : Nat → Bool} {held : Bool}
def Opened (w : World) (ts : List Ty) (cs : List Value) : Prop := ∃ asl, HasTs ts asl ∧ VRs (mu0 w) [] asl cs ∧ ∀ u ∈ cs, u.oneCell' = true
theorem open_one {t : Ty} {u : Value} {a : AV} (h1 : HasT t a) (h2 : VR (mu0 w) [] a u) (h3 : u.oneCell' = true) : Opened w [t] [u] :=
  ⟨[a], by simp only [HasTs]; exact ⟨a, [], rfl, h1, rfl⟩, by simp only [VRs]; exact ⟨u, [], rfl, h2, rfl⟩, by simpa using h3⟩
theorem open_fs {f : TypeId → Option (List Ty)} {g : TypeId → List Value → Prop} {cs : List Value} (hg : ∀ t ts cs', f t = some ts → g t cs' → Opened w ts cs') : ∀ (l : List Field) (pos : Nat) (ts : List Ty), tyFs f P.cellsOf l pos = some ts →
    (∀ x ∈ l, g x.type ((cs.drop x.offset).take (P.cellsOf x.type))) → Opened w ts ((cs.drop pos).take ts.length)
  | [], pos, ts, h, _ => by
    simp only [tyFs, Option.some.injEq] at h
    subst h
    exact ⟨[], rfl, rfl, by simp⟩
  | x :: l, pos, ts, h, hx => by
    simp only [tyFs] at h
    split at h
    · rename_i a b h1 h2
      split at h
      · rename_i hc
        simp only [Option.some.injEq] at h
        subst h
        obtain ⟨h3, h4⟩ := hc
        obtain ⟨asl, p1, p2, p3⟩ := hg _ _ _ h1 (hx x (by simp))
        obtain ⟨bs, q1, q2, q3⟩ := open_fs hg l _ b h2 (fun y hy => hx y (by simp [hy]))
        have e : (cs.drop pos).take (a ++ b).length = (cs.drop x.offset).take (P.cellsOf x.type) ++ (cs.drop (pos + P.cellsOf x.type)).take b.length := by
          rw [List.length_append, h4, h3, ← List.drop_drop, List.take_add]
        rw [e]
        refine ⟨asl ++ bs, p1.app q1, VRs_app' p2 q2, ?_⟩
        intro u hu
        rcases List.mem_append.1 hu with hu | hu
        · exact p3 u hu
        · exact q3 u hu
      · simp at h
    · simp at h
theorem open_arr {ts : List Ty} {sz : Nat} {cs : List Value} : ∀ (n i0 : Nat), (∀ i, i < n → Opened w ts ((cs.drop ((i0 + i) * sz)).take sz)) → Opened w (List.replicate n ts).flatten ((cs.drop (i0 * sz)).take (n * sz))
  | 0, i0, _ => ⟨[], rfl, by simp [VRs], by simp⟩
  | n + 1, i0, h => by
    obtain ⟨asl, p1, p2, p3⟩ := h 0 (by omega)
    obtain ⟨bs, q1, q2, q3⟩ := open_arr n (i0 + 1) (fun i hi => by have := h (i + 1) (by omega); rwa [show i0 + (i + 1) = i0 + 1 + i by omega] at this)
    have e : (cs.drop (i0 * sz)).take ((n + 1) * sz) = (cs.drop (i0 * sz)).take sz ++ (cs.drop ((i0 + 1) * sz)).take (n * sz) := by
      rw [show (n + 1) * sz = sz + n * sz by rw [Nat.add_mul]; omega, show (i0 + 1) * sz = i0 * sz + sz by rw [Nat.add_mul]; omega, ← List.drop_drop, List.take_add]
    rw [e, List.replicate_succ, List.flatten_cons]
    refine ⟨asl ++ bs, p1.app q1, VRs_app' p2 q2, ?_⟩
    intro u hu
    rcases List.mem_append.1 hu with hu | hu
    · exact p3 u hu
    · exact q3 u hu
theorem open_es {ts : List Ty} {sz b : Nat} (hts : ts.length = sz) : ∀ (n o : Nat), (∀ i, i < n → ∃ cs, Opened w ts cs ∧ cs.length = sz ∧ ∀ j u, cs[j]? = some u → w.cell? ⟨b, o + i * sz + j, none⟩ = some u) →
    ∃ es vs, es.length = n ∧ (∀ e ∈ es, HasTs ts e) ∧ VRf (mu0 w) [] es vs ∧ ∀ j u, vs[j]? = some u → w.cell? ⟨b, o + j, none⟩ = some u ∧ u.oneCell' = true
  | 0, o, h => ⟨[], [], rfl, by simp, rfl, by simp⟩
  | n + 1, o, h => by
    obtain ⟨cs, ⟨asl, h1, h2, h3⟩, h4, h5⟩ := h 0 (by omega)
    obtain ⟨es, vs, k1, k2, k3, k4⟩ := open_es hts n (o + sz) (fun i hi => by
      obtain ⟨cs', q1, q2, q3⟩ := h (i + 1) (by omega)
      refine ⟨cs', q1, q2, fun j u hu => ?_⟩
      rw [← q3 j u hu]
      congr 2
      rw [Nat.add_mul]; omega)
    refine ⟨asl :: es, cs ++ vs, by simp [k1], ?_, ?_, ?_⟩
    · intro e he
      rcases List.mem_cons.1 he with rfl | he
      · exact h1
      · exact k2 e he
    · simp only [VRf]; exact ⟨cs, vs, rfl, h2, k3⟩
    · intro j u hj
      by_cases hlt : j < cs.length
      · rw [List.getElem?_append_left hlt] at hj
        have := h5 j u hj
        exact ⟨by simpa using this, h3 u (List.mem_of_getElem? hj)⟩
      · rw [List.getElem?_append_right (by omega)] at hj
        have := k4 _ _ hj
        rw [show o + sz + (j - cs.length) = o + j by omega] at this
        exact this
theorem cell_lt {a : Addr} {v : Value} (h : w.cell? a = some v) : a.block < w.heap.size := by
  rcases Nat.lt_or_ge a.block w.heap.size with h1 | h1
  · exact h1
  · have : w.heap[a.block]? = none := by simpa using h1
    simp [World.cell?, this] at h
theorem open_cells : ∀ (fuel n : Nat) (t : TypeId) (ts : List Ty) (cs : List Value) (x : DataW H × List MemPlace), tyOf P n t = some ts → DataW.trod enc P w base spare held fuel t cs = some x → Opened w ts cs
  | 0, n, t, ts, cs, x, _, h => by simp [DataW.trod] at h
  | fuel + 1, 0, t, ts, cs, x, h0, _ => by simp [tyOf] at h0
  | fuel + 1, n + 1, t, ts, cs, x, h0, h => by
    unfold tyOf at h0
    cases hu : P.underlying t with
    | none => rw [hu] at h0; simp at h0
    | some T =>
      rw [hu] at h0
      cases T with
      | bool =>
        simp only [Option.some.injEq] at h0
        subst h0
        obtain ⟨b, rfl, _⟩ := DataW.trod_bool hu h
        exact open_one (a := .s (.bool b)) (by simp [HasT]) (by simp [VR, gv]) rfl
      | int k =>
        simp only [Option.some.injEq] at h0
        subst h0
        obtain ⟨m, rfl, _, hw⟩ := DataW.trod_int hu h
        exact open_one (a := .s (.int k m)) (by simp [HasT, hw]) (by simp [VR, gv]) rfl
      | string =>
        simp only [Option.some.injEq] at h0
        subst h0
        obtain ⟨s, rfl, _, hs⟩ := DataW.trod_string hu h
        exact open_one (a := .s (.string s)) (by simp [HasT, hs]) (by simp [VR, gv]) rfl
      | slice e =>
        simp only at h0
        cases he : tyOf P n e with
        | none => rw [he] at h0; simp at h0
        | some l =>
          rw [he] at h0
          simp only at h0
          split at h0
          · rename_i hl
            simp only [Option.some.injEq] at h0
            subst h0
            rcases DataW.trod_slice hu h with ⟨rfl, _⟩ | ⟨a, len, cap, elems, rest, m, hm, rfl, _, hb, h1, h2, h3, h4, _, _⟩
            · refine open_one (a := .lst l.length true []) ?_ ?_ rfl
              · simp only [HasT]; exact ⟨true, [], rfl, fun _ => rfl, by simp, by simp⟩
              · simp only [VR]
                exact ⟨none, 0, rfl, by simp, by simp, rfl, fun _ => rfl, by simp, by simp⟩
            · have hm' : m = fuel := by omega
              subst hm'
              have cell : ∀ i, i < len → ∃ cs, Opened w l cs ∧ cs.length = P.cellsOf e ∧ ∀ j, j < P.cellsOf e → w.cell? ((a.add (i * P.cellsOf e)).add j) = cs[j]? := by
                intro i hi
                have hi' := h4 i hi
                rw [List.getElem?_eq_getElem (by omega), Option.bind_eq_some_iff] at hi'
                obtain ⟨cs, q1, q2⟩ := hi'
                have q3 := World.cells?_some q1
                exact ⟨cs, open_cells m n e l cs _ he q2, q3.2.1, q3.2.2⟩
              obtain ⟨b, off, spot⟩ := a
              have hsp : len ≠ 0 → spot = none := fun hn => by
                obtain ⟨cs, _, q2, q3⟩ := cell 0 (by omega)
                have q4 := q3 0 (by omega)
                rw [List.getElem?_eq_getElem (by omega)] at q4
                simpa [Addr.add] using World.cell?_spot q4
              by_cases hn : len = 0
              · subst hn
                refine open_one (a := .lst l.length false []) ?_ ?_ rfl
                · simp only [HasT]; exact ⟨false, [], rfl, fun _ => rfl, by simp, by simp⟩
                · simp only [VR]
                  exact ⟨_, cap, rfl, by simp, h2, rfl, by simp, by simp, by simp⟩
              · have hs := hsp hn
                subst hs
                obtain ⟨es, vs, k1, k2, k3, k4⟩ := open_es (w := w) (ts := l) (sz := P.cellsOf e) (b := b) hl.1 len off (fun i hi => by
                  obtain ⟨cs, q1, q2, q3⟩ := cell i hi
                  refine ⟨cs, q1, q2, fun j u hj => ?_⟩
                  have hjl := (List.getElem?_eq_some_iff.1 hj).1
                  have := q3 j (by omega)
                  rw [hj] at this
                  rw [← this, Go.WideShapes.add_plain, Go.WideShapes.add_plain])
                refine open_one (a := .lst l.length false es) ?_ ?_ rfl
                · simp only [HasT]; exact ⟨false, es, rfl, by simp, by omega, k2⟩
                · simp only [VR]
                  refine ⟨_, cap, by rw [k1], by omega, h2, rfl, by simp, fun e' he' => ⟨(k2 e' he').len, (k2 e' he').ok⟩, fun _ => ⟨b, off, vs, rfl, ?_, k3, k4⟩⟩
                  obtain ⟨cs, q1, q2, q3⟩ := cell 0 (by omega)
                  have q4 := q3 0 (by omega)
                  rw [List.getElem?_eq_getElem (by omega)] at q4
                  show b < w.heap.size
                  rw [Go.WideShapes.add_plain, Go.WideShapes.add_plain] at q4
                  exact cell_lt q4
          · simp at h0
      | struct fs =>
        simp only at h0
        cases he : tyFs (tyOf P n) P.cellsOf fs.toList 0 with
        | none => rw [he] at h0; simp at h0
        | some l =>
          rw [he] at h0
          simp only at h0
          split at h0
          · rename_i hl
            simp only [Option.some.injEq] at h0
            subst h0
            obtain ⟨xs, m, hm, _, h2, h3, h4⟩ := DataW.trod_struct hu h
            have hm' : m = fuel := by omega
            subst hm'
            have := open_fs (w := w) (P := P) (f := tyOf P n) (g := fun t cs' => ∃ y, DataW.trod enc P w base spare held m t cs' = some y) (cs := cs) (fun t ts cs' q1 ⟨y, q2⟩ => open_cells m n t ts cs' y q1 q2) fs.toList 0 l he (fun y hy => by
              obtain ⟨i, hi⟩ := List.getElem?_of_mem hy
              have hi2 : fs[i]? = some y := by simpa using hi
              have := h4 i y hi2
              have hlt : i < xs.length := by rw [h3]; exact (Array.getElem?_eq_some_iff.1 hi2).1
              rw [List.getElem?_eq_getElem hlt] at this
              exact ⟨_, this⟩)
            rw [List.drop_zero, hl, ← h2, List.take_length] at this
            exact this
          · simp at h0
      | array k e =>
        simp only at h0
        cases he : tyOf P n e with
        | none => rw [he] at h0; simp at h0
        | some l =>
          rw [he] at h0
          simp only at h0
          split at h0
          · rename_i hl
            simp only [Option.some.injEq] at h0
            subst h0
            obtain ⟨xs, m, hm, _, h2, h3, h4⟩ := DataW.trod_array hu h
            have hm' : m = fuel := by omega
            subst hm'
            have := open_arr (w := w) (ts := l) (sz := P.cellsOf e) (cs := cs) k 0 (fun i hi => by
              have h5 := h4 i hi
              rw [List.getElem?_eq_getElem (by omega)] at h5
              have h6 := open_cells m n e l _ _ he h5
              rwa [Nat.zero_add])
            rw [Nat.zero_mul, List.drop_zero, hl.2, ← h2, List.take_length] at this
            exact this
          · simp at h0
      | _ => simp at h0
theorem open_agg {t : TypeId} {fs : Array Field} {r : Reach} {b : Nat} {v : Value} {d : DataW H} {ps : List MemPlace} {n : Nat} {ts : List Ty} (hu : P.underlying t = some (.struct fs)) (ht : tyOf P n t = some ts) (hval : Value.okWide P w r b t v)
    (hd : DataW.Trod enc P w base spare held t v d ps) : ∃ asl, HasTs ts asl ∧ VR (mu0 w) [] (.agg asl) v := by
  obtain ⟨cs, rfl, _⟩ := WideShapes.okWide_struct hu hval
  obtain ⟨fuel, hf⟩ := hd
  obtain ⟨asl, h1, h2, _⟩ := open_cells fuel n t ts _ _ ht hf
  exact ⟨asl, h1, by simp only [VR]; exact ⟨cs, rfl, h2⟩⟩
end
theorem has_list {α : Type} {ts : List Ty} {f : α → List AV} (hf : ∀ cs, HasTs ts cs → ∃ x, cs = f x) {a : AV} (h : HasT (.sl ts) a) : ∃ (l : List α) (b : Bool), a = .lst ts.length (b && l.isEmpty) (l.map f) := by
  simp only [HasT] at h
  obtain ⟨nil, es, rfl, hn, hm, he⟩ := h
  have : ∃ l : List α, es = l.map f := by
    clear hn hm
    induction es with
    | nil => exact ⟨[], rfl⟩
    | cons e es ih =>
      obtain ⟨x, hx⟩ := hf e (he e (by simp))
      obtain ⟨l, hl⟩ := ih (fun e' h' => he e' (by simp [h']))
      exact ⟨x :: l, by simp [hx, hl]⟩
  obtain ⟨l, rfl⟩ := this
  refine ⟨l, nil, ?_⟩
  cases nil with
  | false => rfl
  | true =>
    have : l = [] := by simpa using hn rfl
    subst this; rfl
end Go.AM


namespace Go.AM
open Go.Proofs
set_option linter.unusedVariables false
set_option linter.unusedSimpArgs false
set_option linter.constructorNameAsVariable false
set_option maxRecDepth 20000
section
variable {β : Type} {P : Program} {T : Tab} {D : DTab} {N : Nat} {K : AV → Hp → Option β}
end
end Go.AM

