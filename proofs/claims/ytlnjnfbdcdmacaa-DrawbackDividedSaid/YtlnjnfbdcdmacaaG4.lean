import Derived.Test.YtlnjnfbdcdmacaaG3
import Derived.Lib.Mul64
namespace Go.AM
open Go.Proofs
set_option linter.unusedVariables false
set_option maxRecDepth 100000
theorem mixed : Try.prog.follows .mixedOrders = true := by kernel_rfl
theorem NN_ex : ∃ n : Nat, 1000000 ≤ n ∧ n < 4611686018427387904 := ⟨1000000, by omega, by omega⟩
noncomputable def NN : Nat := NN_ex.choose
theorem NN_ge : 1000000 ≤ NN := NN_ex.choose_spec.1
theorem NN_lt : NN < 4611686018427387904 := NN_ex.choose_spec.2
/-! spile/drawback.within -/
noncomputable def t_drawback_within : Tab := T0
theorem t_drawback_within_ok : TSound Try.prog t_drawback_within := TSound.zero
noncomputable def d_drawback_within : DTab := D0
theorem d_drawback_within_ok : DSound Try.prog d_drawback_within := DSound.zero
noncomputable def R_drawback_within : Fun := runF Try.prog t_drawback_within d_drawback_within NN [0, 1, 2, 6] Try.f27 3
theorem R_drawback_within_ok : CSound Try.prog 27 R_drawback_within := run_sound t_drawback_within_ok d_drawback_within_ok mixed Try.func27 (by kernel_rfl) NN
theorem R_drawback_within_eq {β : Type} (K : AV → Hp → Option β) (a0 : AV) (a1 : AV) (a2 : AV) (h : Hp) : (R_drawback_within [a0, a1, a2] h).bind (fun p => K p.1 p.2) = f_drawback_within Try.prog t_drawback_within d_drawback_within NN K a0 a1 a2 h := by
  rw [← f_drawback_within_run]; exact runF_bind rfl
noncomputable def F_drawback_within : Fun := closedX [.o, .o, .o] [.o] R_drawback_within
theorem F_drawback_within_ok : CSound Try.prog 27 F_drawback_within := closedX_sound _ _ R_drawback_within_ok
noncomputable def G_drawback_within : DFun := closedXD [.o, .o, .o] [.o] R_drawback_within
theorem G_drawback_within_ro : Ro F_drawback_within G_drawback_within := closedX_ro _ _ _
theorem F_drawback_within_run {a0 : AV} {a1 : AV} {a2 : AV} {v : AV} (ha : plains [a0, a1, a2] = true) (hv : f_drawback_within Try.prog t_drawback_within d_drawback_within NN (fun v g => cvt false g v) a0 a1 a2 [] = some v) (h : Hp) : F_drawback_within [a0, a1, a2] h = some (v, h) := by
  have e : (R_drawback_within (nrms [.o, .o, .o] [a0, a1, a2]) []).bind (fun (p : AV × Hp) => cvt false p.2 p.1) = some v := (R_drawback_within_eq (fun v g => cvt false g v) a0 a1 a2 []).trans hv
  exact (closedX_bind (shr := [.o]) ha e h).trans (congrArg (fun x => some (x, h)) (nrmR_rep 1 v))
theorem F_drawback_within_own {a0 : AV} {a1 : AV} {a2 : AV} {x0 : AV} {x1 : AV} {x2 : AV} {h : Hp} {v : AV} (ha : cvts false h [x0, x1, x2] = some [a0, a1, a2]) (hv : ∀ st, f_drawback_within Try.prog t_drawback_within d_drawback_within NN (fun v g => cvt st g v) a0 a1 a2 [] = some v) : F_drawback_within [x0, x1, x2] h = some (v, h) := by
  have e : ∀ st, (R_drawback_within (nrms [.o, .o, .o] [a0, a1, a2]) []).bind (fun (p : AV × Hp) => cvt st p.2 p.1) = some v := fun st => (R_drawback_within_eq (fun v g => cvt st g v) a0 a1 a2 []).trans (hv st)
  exact (closedX_ownB (shr := [.o]) ha e).trans (congrArg (fun x => some (x, h)) (nrmR_rep 1 v))
/-! spile/drawback.Check -/
noncomputable def t_drawback_Check : Tab := (updF T0 27 F_drawback_within)
theorem t_drawback_Check_ok : TSound Try.prog t_drawback_Check := (TSound.upd TSound.zero F_drawback_within_ok)
@[simp] theorem t_drawback_Check_27 : t_drawback_Check 27 = some F_drawback_within := rfl
noncomputable def d_drawback_Check : DTab := D0
theorem d_drawback_Check_ok : DSound Try.prog d_drawback_Check := DSound.zero
noncomputable def R_drawback_Check : Fun := runF Try.prog t_drawback_Check d_drawback_Check NN [0, 2, 3, 4, 5, 8, 9, 10, 11, 12, 16, 46] Try.f12 1
theorem R_drawback_Check_ok : CSound Try.prog 12 R_drawback_Check := run_sound t_drawback_Check_ok d_drawback_Check_ok mixed Try.func12 (by kernel_rfl) NN
theorem R_drawback_Check_eq {β : Type} (K : AV → Hp → Option β) (a0 : AV) (h : Hp) : (R_drawback_Check [a0] h).bind (fun p => K p.1 p.2) = f_drawback_Check Try.prog t_drawback_Check d_drawback_Check NN K a0 h := by
  rw [← f_drawback_Check_run]; exact runF_bind rfl
noncomputable def F_drawback_Check : Fun := closedX [.l 5] [.o, .o] R_drawback_Check
theorem F_drawback_Check_ok : CSound Try.prog 12 F_drawback_Check := closedX_sound _ _ R_drawback_Check_ok
noncomputable def G_drawback_Check : DFun := closedXD [.l 5] [.o, .o] R_drawback_Check
theorem G_drawback_Check_ro : Ro F_drawback_Check G_drawback_Check := closedX_ro _ _ _
theorem F_drawback_Check_run {a0 : AV} {v : AV} (ha : plains [a0] = true) (hv : f_drawback_Check Try.prog t_drawback_Check d_drawback_Check NN (fun v g => cvt false g v) (nrm (.l 5) a0) [] = some v) (h : Hp) : F_drawback_Check [a0] h = some (v, h) := by
  have e : (R_drawback_Check (nrms [.l 5] [a0]) []).bind (fun (p : AV × Hp) => cvt false p.2 p.1) = some v := (R_drawback_Check_eq (fun v g => cvt false g v) (nrm (.l 5) a0) []).trans hv
  exact (closedX_bind (shr := [.o, .o]) ha e h).trans (congrArg (fun x => some (x, h)) (nrmR_rep 2 v))
theorem F_drawback_Check_own {a0 : AV} {x0 : AV} {h : Hp} {v : AV} (ha : cvts false h [x0] = some [a0]) (hv : ∀ st, f_drawback_Check Try.prog t_drawback_Check d_drawback_Check NN (fun v g => cvt st g v) (nrm (.l 5) a0) [] = some v) : F_drawback_Check [x0] h = some (v, h) := by
  have e : ∀ st, (R_drawback_Check (nrms [.l 5] [a0]) []).bind (fun (p : AV × Hp) => cvt st p.2 p.1) = some v := fun st => (R_drawback_Check_eq (fun v g => cvt st g v) (nrm (.l 5) a0) []).trans (hv st)
  exact (closedX_ownB (shr := [.o, .o]) ha e).trans (congrArg (fun x => some (x, h)) (nrmR_rep 2 v))
/-! slices.Clone[[]spile/api.Paid,spile/api.Paid] -/
noncomputable def t_slices_Clone_Paid : Tab := T0
theorem t_slices_Clone_Paid_ok : TSound Try.prog t_slices_Clone_Paid := TSound.zero
noncomputable def d_slices_Clone_Paid : DTab := D0
theorem d_slices_Clone_Paid_ok : DSound Try.prog d_slices_Clone_Paid := DSound.zero
noncomputable def R_slices_Clone_Paid : Fun := runF Try.prog t_slices_Clone_Paid d_slices_Clone_Paid NN [0, 2, 4] Try.f13 1
theorem R_slices_Clone_Paid_ok : CSound Try.prog 13 R_slices_Clone_Paid := run_sound t_slices_Clone_Paid_ok d_slices_Clone_Paid_ok mixed Try.func13 (by kernel_rfl) NN
theorem R_slices_Clone_Paid_eq {β : Type} (K : AV → Hp → Option β) (a0 : AV) (h : Hp) : (R_slices_Clone_Paid [a0] h).bind (fun p => K p.1 p.2) = f_slices_Clone_Paid Try.prog t_slices_Clone_Paid d_slices_Clone_Paid NN K a0 h := by
  rw [← f_slices_Clone_Paid_run]; exact runF_bind rfl
noncomputable def F_slices_Clone_Paid : Fun := closedX [.l 5] [.l 5] R_slices_Clone_Paid
theorem F_slices_Clone_Paid_ok : CSound Try.prog 13 F_slices_Clone_Paid := closedX_sound _ _ R_slices_Clone_Paid_ok
noncomputable def G_slices_Clone_Paid : DFun := closedXD [.l 5] [.l 5] R_slices_Clone_Paid
theorem G_slices_Clone_Paid_ro : Ro F_slices_Clone_Paid G_slices_Clone_Paid := closedX_ro _ _ _
theorem F_slices_Clone_Paid_run {a0 : AV} {v : AV} (ha : plains [a0] = true) (hv : f_slices_Clone_Paid Try.prog t_slices_Clone_Paid d_slices_Clone_Paid NN (fun v g => cvt false g v) (nrm (.l 5) a0) [] = some v) (h : Hp) : F_slices_Clone_Paid [a0] h = some ((nrmR [.l 5] v), h) := by
  have e : (R_slices_Clone_Paid (nrms [.l 5] [a0]) []).bind (fun (p : AV × Hp) => cvt false p.2 p.1) = some v := (R_slices_Clone_Paid_eq (fun v g => cvt false g v) (nrm (.l 5) a0) []).trans hv
  exact (closedX_bind (shr := [.l 5]) ha e h).trans (congrArg (fun x => some (x, h)) rfl)
theorem F_slices_Clone_Paid_own {a0 : AV} {x0 : AV} {h : Hp} {v : AV} (ha : cvts false h [x0] = some [a0]) (hv : ∀ st, f_slices_Clone_Paid Try.prog t_slices_Clone_Paid d_slices_Clone_Paid NN (fun v g => cvt st g v) (nrm (.l 5) a0) [] = some v) : F_slices_Clone_Paid [x0] h = some ((nrmR [.l 5] v), h) := by
  have e : ∀ st, (R_slices_Clone_Paid (nrms [.l 5] [a0]) []).bind (fun (p : AV × Hp) => cvt st p.2 p.1) = some v := fun st => (R_slices_Clone_Paid_eq (fun v g => cvt st g v) (nrm (.l 5) a0) []).trans (hv st)
  exact (closedX_ownB (shr := [.l 5]) ha e).trans (congrArg (fun x => some (x, h)) rfl)
/-! spile/proportion.amount -/
noncomputable def t_proportion_amount : Tab := T0
theorem t_proportion_amount_ok : TSound Try.prog t_proportion_amount := TSound.zero
noncomputable def d_proportion_amount : DTab := D0
theorem d_proportion_amount_ok : DSound Try.prog d_proportion_amount := DSound.zero
noncomputable def R_proportion_amount : Fun := runF Try.prog t_proportion_amount d_proportion_amount NN [0, 2] Try.f43 1
theorem R_proportion_amount_ok : CSound Try.prog 43 R_proportion_amount := run_sound t_proportion_amount_ok d_proportion_amount_ok mixed Try.func43 (by kernel_rfl) NN
theorem R_proportion_amount_eq {β : Type} (K : AV → Hp → Option β) (a0 : AV) (h : Hp) : (R_proportion_amount [a0] h).bind (fun p => K p.1 p.2) = f_proportion_amount Try.prog t_proportion_amount d_proportion_amount NN K a0 h := by
  rw [← f_proportion_amount_run]; exact runF_bind rfl
noncomputable def F_proportion_amount : Fun := closedX [.o] [.o] R_proportion_amount
theorem F_proportion_amount_ok : CSound Try.prog 43 F_proportion_amount := closedX_sound _ _ R_proportion_amount_ok
noncomputable def G_proportion_amount : DFun := closedXD [.o] [.o] R_proportion_amount
theorem G_proportion_amount_ro : Ro F_proportion_amount G_proportion_amount := closedX_ro _ _ _
theorem F_proportion_amount_run {a0 : AV} {v : AV} (ha : plains [a0] = true) (hv : f_proportion_amount Try.prog t_proportion_amount d_proportion_amount NN (fun v g => cvt false g v) a0 [] = some v) (h : Hp) : F_proportion_amount [a0] h = some (v, h) := by
  have e : (R_proportion_amount (nrms [.o] [a0]) []).bind (fun (p : AV × Hp) => cvt false p.2 p.1) = some v := (R_proportion_amount_eq (fun v g => cvt false g v) a0 []).trans hv
  exact (closedX_bind (shr := [.o]) ha e h).trans (congrArg (fun x => some (x, h)) (nrmR_rep 1 v))
theorem F_proportion_amount_own {a0 : AV} {x0 : AV} {h : Hp} {v : AV} (ha : cvts false h [x0] = some [a0]) (hv : ∀ st, f_proportion_amount Try.prog t_proportion_amount d_proportion_amount NN (fun v g => cvt st g v) a0 [] = some v) : F_proportion_amount [x0] h = some (v, h) := by
  have e : ∀ st, (R_proportion_amount (nrms [.o] [a0]) []).bind (fun (p : AV × Hp) => cvt st p.2 p.1) = some v := fun st => (R_proportion_amount_eq (fun v g => cvt st g v) a0 []).trans (hv st)
  exact (closedX_ownB (shr := [.o]) ha e).trans (congrArg (fun x => some (x, h)) (nrmR_rep 1 v))
/-! spile/proportion.amounts$1 -/
noncomputable def t_proportion_amounts_1 : Tab := (updF T0 43 F_proportion_amount)
theorem t_proportion_amounts_1_ok : TSound Try.prog t_proportion_amounts_1 := (TSound.upd TSound.zero F_proportion_amount_ok)
@[simp] theorem t_proportion_amounts_1_43 : t_proportion_amounts_1 43 = some F_proportion_amount := rfl
noncomputable def d_proportion_amounts_1 : DTab := D0
theorem d_proportion_amounts_1_ok : DSound Try.prog d_proportion_amounts_1 := DSound.zero
noncomputable def R_proportion_amounts_1 : Fun := runF Try.prog t_proportion_amounts_1 d_proportion_amounts_1 NN [0, 2] Try.f42 1
theorem R_proportion_amounts_1_ok : CSound Try.prog 42 R_proportion_amounts_1 := run_sound t_proportion_amounts_1_ok d_proportion_amounts_1_ok mixed Try.func42 (by kernel_rfl) NN
theorem R_proportion_amounts_1_eq {β : Type} (K : AV → Hp → Option β) (a0 : AV) (h : Hp) : (R_proportion_amounts_1 [a0] h).bind (fun p => K p.1 p.2) = f_proportion_amounts_1 Try.prog t_proportion_amounts_1 d_proportion_amounts_1 NN K a0 h := by
  rw [← f_proportion_amounts_1_run]; exact runF_bind rfl
noncomputable def F_proportion_amounts_1 : Fun := closedX [.o] [.o] R_proportion_amounts_1
theorem F_proportion_amounts_1_ok : CSound Try.prog 42 F_proportion_amounts_1 := closedX_sound _ _ R_proportion_amounts_1_ok
noncomputable def G_proportion_amounts_1 : DFun := closedXD [.o] [.o] R_proportion_amounts_1
theorem G_proportion_amounts_1_ro : Ro F_proportion_amounts_1 G_proportion_amounts_1 := closedX_ro _ _ _
theorem F_proportion_amounts_1_run {a0 : AV} {v : AV} (ha : plains [a0] = true) (hv : f_proportion_amounts_1 Try.prog t_proportion_amounts_1 d_proportion_amounts_1 NN (fun v g => cvt false g v) a0 [] = some v) (h : Hp) : F_proportion_amounts_1 [a0] h = some (v, h) := by
  have e : (R_proportion_amounts_1 (nrms [.o] [a0]) []).bind (fun (p : AV × Hp) => cvt false p.2 p.1) = some v := (R_proportion_amounts_1_eq (fun v g => cvt false g v) a0 []).trans hv
  exact (closedX_bind (shr := [.o]) ha e h).trans (congrArg (fun x => some (x, h)) (nrmR_rep 1 v))
theorem F_proportion_amounts_1_own {a0 : AV} {x0 : AV} {h : Hp} {v : AV} (ha : cvts false h [x0] = some [a0]) (hv : ∀ st, f_proportion_amounts_1 Try.prog t_proportion_amounts_1 d_proportion_amounts_1 NN (fun v g => cvt st g v) a0 [] = some v) : F_proportion_amounts_1 [x0] h = some (v, h) := by
  have e : ∀ st, (R_proportion_amounts_1 (nrms [.o] [a0]) []).bind (fun (p : AV × Hp) => cvt st p.2 p.1) = some v := fun st => (R_proportion_amounts_1_eq (fun v g => cvt st g v) a0 []).trans (hv st)
  exact (closedX_ownB (shr := [.o]) ha e).trans (congrArg (fun x => some (x, h)) (nrmR_rep 1 v))
/-! slices.IndexFunc[[]int,int] : spile/proportion.amounts$1 -/
noncomputable def t_slices_IndexFunc_int__proportion_amounts_1 : Tab := (updF T0 42 F_proportion_amounts_1)
theorem t_slices_IndexFunc_int__proportion_amounts_1_ok : TSound Try.prog t_slices_IndexFunc_int__proportion_amounts_1 := (TSound.upd TSound.zero F_proportion_amounts_1_ok)
@[simp] theorem t_slices_IndexFunc_int__proportion_amounts_1_42 : t_slices_IndexFunc_int__proportion_amounts_1 42 = some F_proportion_amounts_1 := rfl
noncomputable def d_slices_IndexFunc_int__proportion_amounts_1 : DTab := D0
theorem d_slices_IndexFunc_int__proportion_amounts_1_ok : DSound Try.prog d_slices_IndexFunc_int__proportion_amounts_1 := DSound.zero
noncomputable def R_slices_IndexFunc_int__proportion_amounts_1 : Fun := runF Try.prog t_slices_IndexFunc_int__proportion_amounts_1 d_slices_IndexFunc_int__proportion_amounts_1 NN [0, 1, 4, 5, 7, 8, 9, 16] Try.f53 2
theorem R_slices_IndexFunc_int__proportion_amounts_1_ok : CSound Try.prog 53 R_slices_IndexFunc_int__proportion_amounts_1 := run_sound t_slices_IndexFunc_int__proportion_amounts_1_ok d_slices_IndexFunc_int__proportion_amounts_1_ok mixed Try.func53 (by kernel_rfl) NN
theorem R_slices_IndexFunc_int__proportion_amounts_1_eq {β : Type} (K : AV → Hp → Option β) (a0 : AV) (a1 : AV) (h : Hp) : (R_slices_IndexFunc_int__proportion_amounts_1 [a0, a1] h).bind (fun p => K p.1 p.2) = f_slices_IndexFunc_int Try.prog t_slices_IndexFunc_int__proportion_amounts_1 d_slices_IndexFunc_int__proportion_amounts_1 NN K a0 a1 h := by
  rw [← f_slices_IndexFunc_int_run]; exact runF_bind rfl
noncomputable def F_slices_IndexFunc_int__proportion_amounts_1 : Fun := closedX [.l 1, .o] [.o] R_slices_IndexFunc_int__proportion_amounts_1
theorem F_slices_IndexFunc_int__proportion_amounts_1_ok : CSound Try.prog 53 F_slices_IndexFunc_int__proportion_amounts_1 := closedX_sound _ _ R_slices_IndexFunc_int__proportion_amounts_1_ok
noncomputable def G_slices_IndexFunc_int__proportion_amounts_1 : DFun := closedXD [.l 1, .o] [.o] R_slices_IndexFunc_int__proportion_amounts_1
theorem G_slices_IndexFunc_int__proportion_amounts_1_ro : Ro F_slices_IndexFunc_int__proportion_amounts_1 G_slices_IndexFunc_int__proportion_amounts_1 := closedX_ro _ _ _
theorem F_slices_IndexFunc_int__proportion_amounts_1_run {a0 : AV} {a1 : AV} {v : AV} (ha : plains [a0, a1] = true) (hv : f_slices_IndexFunc_int Try.prog t_slices_IndexFunc_int__proportion_amounts_1 d_slices_IndexFunc_int__proportion_amounts_1 NN (fun v g => cvt false g v) (nrm (.l 1) a0) a1 [] = some v) (h : Hp) : F_slices_IndexFunc_int__proportion_amounts_1 [a0, a1] h = some (v, h) := by
  have e : (R_slices_IndexFunc_int__proportion_amounts_1 (nrms [.l 1, .o] [a0, a1]) []).bind (fun (p : AV × Hp) => cvt false p.2 p.1) = some v := (R_slices_IndexFunc_int__proportion_amounts_1_eq (fun v g => cvt false g v) (nrm (.l 1) a0) a1 []).trans hv
  exact (closedX_bind (shr := [.o]) ha e h).trans (congrArg (fun x => some (x, h)) (nrmR_rep 1 v))
theorem F_slices_IndexFunc_int__proportion_amounts_1_own {a0 : AV} {a1 : AV} {x0 : AV} {x1 : AV} {h : Hp} {v : AV} (ha : cvts false h [x0, x1] = some [a0, a1]) (hv : ∀ st, f_slices_IndexFunc_int Try.prog t_slices_IndexFunc_int__proportion_amounts_1 d_slices_IndexFunc_int__proportion_amounts_1 NN (fun v g => cvt st g v) (nrm (.l 1) a0) a1 [] = some v) : F_slices_IndexFunc_int__proportion_amounts_1 [x0, x1] h = some (v, h) := by
  have e : ∀ st, (R_slices_IndexFunc_int__proportion_amounts_1 (nrms [.l 1, .o] [a0, a1]) []).bind (fun (p : AV × Hp) => cvt st p.2 p.1) = some v := fun st => (R_slices_IndexFunc_int__proportion_amounts_1_eq (fun v g => cvt st g v) (nrm (.l 1) a0) a1 []).trans (hv st)
  exact (closedX_ownB (shr := [.o]) ha e).trans (congrArg (fun x => some (x, h)) (nrmR_rep 1 v))
/-! slices.ContainsFunc[[]int,int] : spile/proportion.amounts$1 -/
noncomputable def t_slices_ContainsFunc_int__proportion_amounts_1 : Tab := (updF T0 53 F_slices_IndexFunc_int__proportion_amounts_1)
theorem t_slices_ContainsFunc_int__proportion_amounts_1_ok : TSound Try.prog t_slices_ContainsFunc_int__proportion_amounts_1 := (TSound.upd TSound.zero F_slices_IndexFunc_int__proportion_amounts_1_ok)
@[simp] theorem t_slices_ContainsFunc_int__proportion_amounts_1_53 : t_slices_ContainsFunc_int__proportion_amounts_1 53 = some F_slices_IndexFunc_int__proportion_amounts_1 := rfl
noncomputable def d_slices_ContainsFunc_int__proportion_amounts_1 : DTab := D0
theorem d_slices_ContainsFunc_int__proportion_amounts_1_ok : DSound Try.prog d_slices_ContainsFunc_int__proportion_amounts_1 := DSound.zero
noncomputable def R_slices_ContainsFunc_int__proportion_amounts_1 : Fun := runF Try.prog t_slices_ContainsFunc_int__proportion_amounts_1 d_slices_ContainsFunc_int__proportion_amounts_1 NN [0, 1, 4] Try.f41 2
theorem R_slices_ContainsFunc_int__proportion_amounts_1_ok : CSound Try.prog 41 R_slices_ContainsFunc_int__proportion_amounts_1 := run_sound t_slices_ContainsFunc_int__proportion_amounts_1_ok d_slices_ContainsFunc_int__proportion_amounts_1_ok mixed Try.func41 (by kernel_rfl) NN
theorem R_slices_ContainsFunc_int__proportion_amounts_1_eq {β : Type} (K : AV → Hp → Option β) (a0 : AV) (a1 : AV) (h : Hp) : (R_slices_ContainsFunc_int__proportion_amounts_1 [a0, a1] h).bind (fun p => K p.1 p.2) = f_slices_ContainsFunc_int Try.prog t_slices_ContainsFunc_int__proportion_amounts_1 d_slices_ContainsFunc_int__proportion_amounts_1 NN K a0 a1 h := by
  rw [← f_slices_ContainsFunc_int_run]; exact runF_bind rfl
noncomputable def F_slices_ContainsFunc_int__proportion_amounts_1 : Fun := closedX [.l 1, .o] [.o] R_slices_ContainsFunc_int__proportion_amounts_1
theorem F_slices_ContainsFunc_int__proportion_amounts_1_ok : CSound Try.prog 41 F_slices_ContainsFunc_int__proportion_amounts_1 := closedX_sound _ _ R_slices_ContainsFunc_int__proportion_amounts_1_ok
noncomputable def G_slices_ContainsFunc_int__proportion_amounts_1 : DFun := closedXD [.l 1, .o] [.o] R_slices_ContainsFunc_int__proportion_amounts_1
theorem G_slices_ContainsFunc_int__proportion_amounts_1_ro : Ro F_slices_ContainsFunc_int__proportion_amounts_1 G_slices_ContainsFunc_int__proportion_amounts_1 := closedX_ro _ _ _
theorem F_slices_ContainsFunc_int__proportion_amounts_1_run {a0 : AV} {a1 : AV} {v : AV} (ha : plains [a0, a1] = true) (hv : f_slices_ContainsFunc_int Try.prog t_slices_ContainsFunc_int__proportion_amounts_1 d_slices_ContainsFunc_int__proportion_amounts_1 NN (fun v g => cvt false g v) (nrm (.l 1) a0) a1 [] = some v) (h : Hp) : F_slices_ContainsFunc_int__proportion_amounts_1 [a0, a1] h = some (v, h) := by
  have e : (R_slices_ContainsFunc_int__proportion_amounts_1 (nrms [.l 1, .o] [a0, a1]) []).bind (fun (p : AV × Hp) => cvt false p.2 p.1) = some v := (R_slices_ContainsFunc_int__proportion_amounts_1_eq (fun v g => cvt false g v) (nrm (.l 1) a0) a1 []).trans hv
  exact (closedX_bind (shr := [.o]) ha e h).trans (congrArg (fun x => some (x, h)) (nrmR_rep 1 v))
theorem F_slices_ContainsFunc_int__proportion_amounts_1_own {a0 : AV} {a1 : AV} {x0 : AV} {x1 : AV} {h : Hp} {v : AV} (ha : cvts false h [x0, x1] = some [a0, a1]) (hv : ∀ st, f_slices_ContainsFunc_int Try.prog t_slices_ContainsFunc_int__proportion_amounts_1 d_slices_ContainsFunc_int__proportion_amounts_1 NN (fun v g => cvt st g v) (nrm (.l 1) a0) a1 [] = some v) : F_slices_ContainsFunc_int__proportion_amounts_1 [x0, x1] h = some (v, h) := by
  have e : ∀ st, (R_slices_ContainsFunc_int__proportion_amounts_1 (nrms [.l 1, .o] [a0, a1]) []).bind (fun (p : AV × Hp) => cvt st p.2 p.1) = some v := fun st => (R_slices_ContainsFunc_int__proportion_amounts_1_eq (fun v g => cvt st g v) (nrm (.l 1) a0) a1 []).trans (hv st)
  exact (closedX_ownB (shr := [.o]) ha e).trans (congrArg (fun x => some (x, h)) (nrmR_rep 1 v))
/-! spile/proportion.amounts -/
noncomputable def t_proportion_amounts : Tab := (updF (updF T0 41 F_slices_ContainsFunc_int__proportion_amounts_1) 42 F_proportion_amounts_1)
theorem t_proportion_amounts_ok : TSound Try.prog t_proportion_amounts := (TSound.upd (TSound.upd TSound.zero F_slices_ContainsFunc_int__proportion_amounts_1_ok) F_proportion_amounts_1_ok)
@[simp] theorem t_proportion_amounts_41 : t_proportion_amounts 41 = some F_slices_ContainsFunc_int__proportion_amounts_1 := rfl
@[simp] theorem t_proportion_amounts_42 : t_proportion_amounts 42 = some F_proportion_amounts_1 := rfl
noncomputable def d_proportion_amounts : DTab := D0
theorem d_proportion_amounts_ok : DSound Try.prog d_proportion_amounts := DSound.zero
noncomputable def R_proportion_amounts : Fun := runF Try.prog t_proportion_amounts d_proportion_amounts NN [0, 2] Try.f35 1
theorem R_proportion_amounts_ok : CSound Try.prog 35 R_proportion_amounts := run_sound t_proportion_amounts_ok d_proportion_amounts_ok mixed Try.func35 (by kernel_rfl) NN
theorem R_proportion_amounts_eq {β : Type} (K : AV → Hp → Option β) (a0 : AV) (h : Hp) : (R_proportion_amounts [a0] h).bind (fun p => K p.1 p.2) = f_proportion_amounts Try.prog t_proportion_amounts d_proportion_amounts NN K a0 h := by
  rw [← f_proportion_amounts_run]; exact runF_bind rfl
noncomputable def F_proportion_amounts : Fun := closedX [.l 1] [.o] R_proportion_amounts
theorem F_proportion_amounts_ok : CSound Try.prog 35 F_proportion_amounts := closedX_sound _ _ R_proportion_amounts_ok
noncomputable def G_proportion_amounts : DFun := closedXD [.l 1] [.o] R_proportion_amounts
theorem G_proportion_amounts_ro : Ro F_proportion_amounts G_proportion_amounts := closedX_ro _ _ _
theorem F_proportion_amounts_run {a0 : AV} {v : AV} (ha : plains [a0] = true) (hv : f_proportion_amounts Try.prog t_proportion_amounts d_proportion_amounts NN (fun v g => cvt false g v) (nrm (.l 1) a0) [] = some v) (h : Hp) : F_proportion_amounts [a0] h = some (v, h) := by
  have e : (R_proportion_amounts (nrms [.l 1] [a0]) []).bind (fun (p : AV × Hp) => cvt false p.2 p.1) = some v := (R_proportion_amounts_eq (fun v g => cvt false g v) (nrm (.l 1) a0) []).trans hv
  exact (closedX_bind (shr := [.o]) ha e h).trans (congrArg (fun x => some (x, h)) (nrmR_rep 1 v))
theorem F_proportion_amounts_own {a0 : AV} {x0 : AV} {h : Hp} {v : AV} (ha : cvts false h [x0] = some [a0]) (hv : ∀ st, f_proportion_amounts Try.prog t_proportion_amounts d_proportion_amounts NN (fun v g => cvt st g v) (nrm (.l 1) a0) [] = some v) : F_proportion_amounts [x0] h = some (v, h) := by
  have e : ∀ st, (R_proportion_amounts (nrms [.l 1] [a0]) []).bind (fun (p : AV × Hp) => cvt st p.2 p.1) = some v := fun st => (R_proportion_amounts_eq (fun v g => cvt st g v) (nrm (.l 1) a0) []).trans (hv st)
  exact (closedX_ownB (shr := [.o]) ha e).trans (congrArg (fun x => some (x, h)) (nrmR_rep 1 v))
/-! math/bits.Mul64 -/
noncomputable def t_bits_Mul64 : Tab := T0
theorem t_bits_Mul64_ok : TSound Try.prog t_bits_Mul64 := TSound.zero
noncomputable def d_bits_Mul64 : DTab := D0
theorem d_bits_Mul64_ok : DSound Try.prog d_bits_Mul64 := DSound.zero
noncomputable def R_bits_Mul64 : Fun := runF Try.prog t_bits_Mul64 d_bits_Mul64 NN [0, 1, 4, 5, 6, 7, 8, 9, 10, 11, 12, 13] Try.f54 2
theorem R_bits_Mul64_ok : CSound Try.prog 54 R_bits_Mul64 := run_sound t_bits_Mul64_ok d_bits_Mul64_ok mixed Try.func54 (by kernel_rfl) NN
theorem R_bits_Mul64_eq {β : Type} (K : AV → Hp → Option β) (a0 : AV) (a1 : AV) (h : Hp) : (R_bits_Mul64 [a0, a1] h).bind (fun p => K p.1 p.2) = f_bits_Mul64 Try.prog t_bits_Mul64 d_bits_Mul64 NN K a0 a1 h := by
  rw [← f_bits_Mul64_run]; exact runF_bind rfl
noncomputable def F_bits_Mul64 : Fun := closedX [.o, .o] [.o, .o] R_bits_Mul64
theorem F_bits_Mul64_ok : CSound Try.prog 54 F_bits_Mul64 := closedX_sound _ _ R_bits_Mul64_ok
noncomputable def G_bits_Mul64 : DFun := closedXD [.o, .o] [.o, .o] R_bits_Mul64
theorem G_bits_Mul64_ro : Ro F_bits_Mul64 G_bits_Mul64 := closedX_ro _ _ _
theorem F_bits_Mul64_run {a0 : AV} {a1 : AV} {v : AV} (ha : plains [a0, a1] = true) (hv : f_bits_Mul64 Try.prog t_bits_Mul64 d_bits_Mul64 NN (fun v g => cvt false g v) a0 a1 [] = some v) (h : Hp) : F_bits_Mul64 [a0, a1] h = some (v, h) := by
  have e : (R_bits_Mul64 (nrms [.o, .o] [a0, a1]) []).bind (fun (p : AV × Hp) => cvt false p.2 p.1) = some v := (R_bits_Mul64_eq (fun v g => cvt false g v) a0 a1 []).trans hv
  exact (closedX_bind (shr := [.o, .o]) ha e h).trans (congrArg (fun x => some (x, h)) (nrmR_rep 2 v))
theorem F_bits_Mul64_own {a0 : AV} {a1 : AV} {x0 : AV} {x1 : AV} {h : Hp} {v : AV} (ha : cvts false h [x0, x1] = some [a0, a1]) (hv : ∀ st, f_bits_Mul64 Try.prog t_bits_Mul64 d_bits_Mul64 NN (fun v g => cvt st g v) a0 a1 [] = some v) : F_bits_Mul64 [x0, x1] h = some (v, h) := by
  have e : ∀ st, (R_bits_Mul64 (nrms [.o, .o] [a0, a1]) []).bind (fun (p : AV × Hp) => cvt st p.2 p.1) = some v := fun st => (R_bits_Mul64_eq (fun v g => cvt st g v) a0 a1 []).trans (hv st)
  exact (closedX_ownB (shr := [.o, .o]) ha e).trans (congrArg (fun x => some (x, h)) (nrmR_rep 2 v))
/-! spile/proportion.product -/
noncomputable def t_proportion_product : Tab := (updF T0 54 F_bits_Mul64)
theorem t_proportion_product_ok : TSound Try.prog t_proportion_product := (TSound.upd TSound.zero F_bits_Mul64_ok)
@[simp] theorem t_proportion_product_54 : t_proportion_product 54 = some F_bits_Mul64 := rfl
noncomputable def d_proportion_product : DTab := D0
theorem d_proportion_product_ok : DSound Try.prog d_proportion_product := DSound.zero
noncomputable def R_proportion_product : Fun := runF Try.prog t_proportion_product d_proportion_product NN [0, 1, 4, 5, 6] Try.f44 2
theorem R_proportion_product_ok : CSound Try.prog 44 R_proportion_product := run_sound t_proportion_product_ok d_proportion_product_ok mixed Try.func44 (by kernel_rfl) NN
theorem R_proportion_product_eq {β : Type} (K : AV → Hp → Option β) (a0 : AV) (a1 : AV) (h : Hp) : (R_proportion_product [a0, a1] h).bind (fun p => K p.1 p.2) = f_proportion_product Try.prog t_proportion_product d_proportion_product NN K a0 a1 h := by
  rw [← f_proportion_product_run]; exact runF_bind rfl
noncomputable def F_proportion_product : Fun := closedX [.o, .o] [.o] R_proportion_product
theorem F_proportion_product_ok : CSound Try.prog 44 F_proportion_product := closedX_sound _ _ R_proportion_product_ok
noncomputable def G_proportion_product : DFun := closedXD [.o, .o] [.o] R_proportion_product
theorem G_proportion_product_ro : Ro F_proportion_product G_proportion_product := closedX_ro _ _ _
theorem F_proportion_product_run {a0 : AV} {a1 : AV} {v : AV} (ha : plains [a0, a1] = true) (hv : f_proportion_product Try.prog t_proportion_product d_proportion_product NN (fun v g => cvt false g v) a0 a1 [] = some v) (h : Hp) : F_proportion_product [a0, a1] h = some (v, h) := by
  have e : (R_proportion_product (nrms [.o, .o] [a0, a1]) []).bind (fun (p : AV × Hp) => cvt false p.2 p.1) = some v := (R_proportion_product_eq (fun v g => cvt false g v) a0 a1 []).trans hv
  exact (closedX_bind (shr := [.o]) ha e h).trans (congrArg (fun x => some (x, h)) (nrmR_rep 1 v))
theorem F_proportion_product_own {a0 : AV} {a1 : AV} {x0 : AV} {x1 : AV} {h : Hp} {v : AV} (ha : cvts false h [x0, x1] = some [a0, a1]) (hv : ∀ st, f_proportion_product Try.prog t_proportion_product d_proportion_product NN (fun v g => cvt st g v) a0 a1 [] = some v) : F_proportion_product [x0, x1] h = some (v, h) := by
  have e : ∀ st, (R_proportion_product (nrms [.o, .o] [a0, a1]) []).bind (fun (p : AV × Hp) => cvt st p.2 p.1) = some v := fun st => (R_proportion_product_eq (fun v g => cvt st g v) a0 a1 []).trans (hv st)
  exact (closedX_ownB (shr := [.o]) ha e).trans (congrArg (fun x => some (x, h)) (nrmR_rep 1 v))
/-! math/bits.Len64 -/
noncomputable def t_bits_Len64 : Tab := T0
theorem t_bits_Len64_ok : TSound Try.prog t_bits_Len64 := TSound.zero
noncomputable def d_bits_Len64 : DTab := D0
theorem d_bits_Len64_ok : DSound Try.prog d_bits_Len64 := DSound.zero
noncomputable def R_bits_Len64 : Fun := runF Try.prog t_bits_Len64 d_bits_Len64 NN [0, 2, 4, 8, 14] Try.f59 1
theorem R_bits_Len64_ok : CSound Try.prog 59 R_bits_Len64 := run_sound t_bits_Len64_ok d_bits_Len64_ok mixed Try.func59 (by kernel_rfl) NN
theorem R_bits_Len64_eq {β : Type} (K : AV → Hp → Option β) (a0 : AV) (h : Hp) : (R_bits_Len64 [a0] h).bind (fun p => K p.1 p.2) = f_bits_Len64 Try.prog t_bits_Len64 d_bits_Len64 NN K a0 h := by
  rw [← f_bits_Len64_run]; exact runF_bind rfl
noncomputable def F_bits_Len64 : Fun := closedX [.o] [.o] R_bits_Len64
theorem F_bits_Len64_ok : CSound Try.prog 59 F_bits_Len64 := closedX_sound _ _ R_bits_Len64_ok
noncomputable def G_bits_Len64 : DFun := closedXD [.o] [.o] R_bits_Len64
theorem G_bits_Len64_ro : Ro F_bits_Len64 G_bits_Len64 := closedX_ro _ _ _
theorem F_bits_Len64_run {a0 : AV} {v : AV} (ha : plains [a0] = true) (hv : f_bits_Len64 Try.prog t_bits_Len64 d_bits_Len64 NN (fun v g => cvt false g v) a0 [] = some v) (h : Hp) : F_bits_Len64 [a0] h = some (v, h) := by
  have e : (R_bits_Len64 (nrms [.o] [a0]) []).bind (fun (p : AV × Hp) => cvt false p.2 p.1) = some v := (R_bits_Len64_eq (fun v g => cvt false g v) a0 []).trans hv
  exact (closedX_bind (shr := [.o]) ha e h).trans (congrArg (fun x => some (x, h)) (nrmR_rep 1 v))
theorem F_bits_Len64_own {a0 : AV} {x0 : AV} {h : Hp} {v : AV} (ha : cvts false h [x0] = some [a0]) (hv : ∀ st, f_bits_Len64 Try.prog t_bits_Len64 d_bits_Len64 NN (fun v g => cvt st g v) a0 [] = some v) : F_bits_Len64 [x0] h = some (v, h) := by
  have e : ∀ st, (R_bits_Len64 (nrms [.o] [a0]) []).bind (fun (p : AV × Hp) => cvt st p.2 p.1) = some v := fun st => (R_bits_Len64_eq (fun v g => cvt st g v) a0 []).trans (hv st)
  exact (closedX_ownB (shr := [.o]) ha e).trans (congrArg (fun x => some (x, h)) (nrmR_rep 1 v))
/-! math/bits.LeadingZeros64 -/
noncomputable def t_bits_LeadingZeros64 : Tab := (updF T0 59 F_bits_Len64)
theorem t_bits_LeadingZeros64_ok : TSound Try.prog t_bits_LeadingZeros64 := (TSound.upd TSound.zero F_bits_Len64_ok)
@[simp] theorem t_bits_LeadingZeros64_59 : t_bits_LeadingZeros64 59 = some F_bits_Len64 := rfl
noncomputable def d_bits_LeadingZeros64 : DTab := D0
theorem d_bits_LeadingZeros64_ok : DSound Try.prog d_bits_LeadingZeros64 := DSound.zero
noncomputable def R_bits_LeadingZeros64 : Fun := runF Try.prog t_bits_LeadingZeros64 d_bits_LeadingZeros64 NN [0, 2] Try.f55 1
theorem R_bits_LeadingZeros64_ok : CSound Try.prog 55 R_bits_LeadingZeros64 := run_sound t_bits_LeadingZeros64_ok d_bits_LeadingZeros64_ok mixed Try.func55 (by kernel_rfl) NN
theorem R_bits_LeadingZeros64_eq {β : Type} (K : AV → Hp → Option β) (a0 : AV) (h : Hp) : (R_bits_LeadingZeros64 [a0] h).bind (fun p => K p.1 p.2) = f_bits_LeadingZeros64 Try.prog t_bits_LeadingZeros64 d_bits_LeadingZeros64 NN K a0 h := by
  rw [← f_bits_LeadingZeros64_run]; exact runF_bind rfl
noncomputable def F_bits_LeadingZeros64 : Fun := closedX [.o] [.o] R_bits_LeadingZeros64
theorem F_bits_LeadingZeros64_ok : CSound Try.prog 55 F_bits_LeadingZeros64 := closedX_sound _ _ R_bits_LeadingZeros64_ok
noncomputable def G_bits_LeadingZeros64 : DFun := closedXD [.o] [.o] R_bits_LeadingZeros64
theorem G_bits_LeadingZeros64_ro : Ro F_bits_LeadingZeros64 G_bits_LeadingZeros64 := closedX_ro _ _ _
theorem F_bits_LeadingZeros64_run {a0 : AV} {v : AV} (ha : plains [a0] = true) (hv : f_bits_LeadingZeros64 Try.prog t_bits_LeadingZeros64 d_bits_LeadingZeros64 NN (fun v g => cvt false g v) a0 [] = some v) (h : Hp) : F_bits_LeadingZeros64 [a0] h = some (v, h) := by
  have e : (R_bits_LeadingZeros64 (nrms [.o] [a0]) []).bind (fun (p : AV × Hp) => cvt false p.2 p.1) = some v := (R_bits_LeadingZeros64_eq (fun v g => cvt false g v) a0 []).trans hv
  exact (closedX_bind (shr := [.o]) ha e h).trans (congrArg (fun x => some (x, h)) (nrmR_rep 1 v))
theorem F_bits_LeadingZeros64_own {a0 : AV} {x0 : AV} {h : Hp} {v : AV} (ha : cvts false h [x0] = some [a0]) (hv : ∀ st, f_bits_LeadingZeros64 Try.prog t_bits_LeadingZeros64 d_bits_LeadingZeros64 NN (fun v g => cvt st g v) a0 [] = some v) : F_bits_LeadingZeros64 [x0] h = some (v, h) := by
  have e : ∀ st, (R_bits_LeadingZeros64 (nrms [.o] [a0]) []).bind (fun (p : AV × Hp) => cvt st p.2 p.1) = some v := fun st => (R_bits_LeadingZeros64_eq (fun v g => cvt st g v) a0 []).trans (hv st)
  exact (closedX_ownB (shr := [.o]) ha e).trans (congrArg (fun x => some (x, h)) (nrmR_rep 1 v))
/-! math/bits.Div64 -/
noncomputable def t_bits_Div64 : Tab := (updF T0 55 F_bits_LeadingZeros64)
theorem t_bits_Div64_ok : TSound Try.prog t_bits_Div64 := (TSound.upd TSound.zero F_bits_LeadingZeros64_ok)
@[simp] theorem t_bits_Div64_55 : t_bits_Div64 55 = some F_bits_LeadingZeros64 := rfl
noncomputable def d_bits_Div64 : DTab := D0
theorem d_bits_Div64_ok : DSound Try.prog d_bits_Div64 := DSound.zero
noncomputable def R_bits_Div64 : Fun := runF Try.prog t_bits_Div64 d_bits_Div64 NN [0, 1, 2, 6, 7, 8, 9, 10, 11, 12, 13, 14, 15, 16, 17, 18, 20, 24, 27, 78, 85, 113, 120] Try.f45 3
theorem R_bits_Div64_ok : CSound Try.prog 45 R_bits_Div64 := run_sound t_bits_Div64_ok d_bits_Div64_ok mixed Try.func45 (by kernel_rfl) NN
theorem R_bits_Div64_eq {β : Type} (K : AV → Hp → Option β) (a0 : AV) (a1 : AV) (a2 : AV) (h : Hp) : (R_bits_Div64 [a0, a1, a2] h).bind (fun p => K p.1 p.2) = f_bits_Div64 Try.prog t_bits_Div64 d_bits_Div64 NN K a0 a1 a2 h := by
  rw [← f_bits_Div64_run]; exact runF_bind rfl
noncomputable def F_bits_Div64 : Fun := closedX [.o, .o, .o] [.o, .o] R_bits_Div64
theorem F_bits_Div64_ok : CSound Try.prog 45 F_bits_Div64 := closedX_sound _ _ R_bits_Div64_ok
noncomputable def G_bits_Div64 : DFun := closedXD [.o, .o, .o] [.o, .o] R_bits_Div64
theorem G_bits_Div64_ro : Ro F_bits_Div64 G_bits_Div64 := closedX_ro _ _ _
theorem F_bits_Div64_run {a0 : AV} {a1 : AV} {a2 : AV} {v : AV} (ha : plains [a0, a1, a2] = true) (hv : f_bits_Div64 Try.prog t_bits_Div64 d_bits_Div64 NN (fun v g => cvt false g v) a0 a1 a2 [] = some v) (h : Hp) : F_bits_Div64 [a0, a1, a2] h = some (v, h) := by
  have e : (R_bits_Div64 (nrms [.o, .o, .o] [a0, a1, a2]) []).bind (fun (p : AV × Hp) => cvt false p.2 p.1) = some v := (R_bits_Div64_eq (fun v g => cvt false g v) a0 a1 a2 []).trans hv
  exact (closedX_bind (shr := [.o, .o]) ha e h).trans (congrArg (fun x => some (x, h)) (nrmR_rep 2 v))
theorem F_bits_Div64_own {a0 : AV} {a1 : AV} {a2 : AV} {x0 : AV} {x1 : AV} {x2 : AV} {h : Hp} {v : AV} (ha : cvts false h [x0, x1, x2] = some [a0, a1, a2]) (hv : ∀ st, f_bits_Div64 Try.prog t_bits_Div64 d_bits_Div64 NN (fun v g => cvt st g v) a0 a1 a2 [] = some v) : F_bits_Div64 [x0, x1, x2] h = some (v, h) := by
  have e : ∀ st, (R_bits_Div64 (nrms [.o, .o, .o] [a0, a1, a2]) []).bind (fun (p : AV × Hp) => cvt st p.2 p.1) = some v := fun st => (R_bits_Div64_eq (fun v g => cvt st g v) a0 a1 a2 []).trans (hv st)
  exact (closedX_ownB (shr := [.o, .o]) ha e).trans (congrArg (fun x => some (x, h)) (nrmR_rep 2 v))
/-! spile/proportion.divided -/
noncomputable def t_proportion_divided : Tab := (updF (updF T0 44 F_proportion_product) 45 F_bits_Div64)
theorem t_proportion_divided_ok : TSound Try.prog t_proportion_divided := (TSound.upd (TSound.upd TSound.zero F_proportion_product_ok) F_bits_Div64_ok)
@[simp] theorem t_proportion_divided_44 : t_proportion_divided 44 = some F_proportion_product := rfl
@[simp] theorem t_proportion_divided_45 : t_proportion_divided 45 = some F_bits_Div64 := rfl
noncomputable def d_proportion_divided : DTab := D0
theorem d_proportion_divided_ok : DSound Try.prog d_proportion_divided := DSound.zero
noncomputable def R_proportion_divided : Fun := runF Try.prog t_proportion_divided d_proportion_divided NN [0, 1, 2, 6, 7, 8, 9, 10, 11, 19, 31] Try.f36 3
theorem R_proportion_divided_ok : CSound Try.prog 36 R_proportion_divided := run_sound t_proportion_divided_ok d_proportion_divided_ok mixed Try.func36 (by kernel_rfl) NN
theorem R_proportion_divided_eq {β : Type} (K : AV → Hp → Option β) (a0 : AV) (a1 : AV) (a2 : AV) (h : Hp) : (R_proportion_divided [a0, a1, a2] h).bind (fun p => K p.1 p.2) = f_proportion_divided Try.prog t_proportion_divided d_proportion_divided NN K a0 a1 a2 h := by
  rw [← f_proportion_divided_run]; exact runF_bind rfl
noncomputable def F_proportion_divided : Fun := closedX [.o, .o, .o] [.o, .o, .o] R_proportion_divided
theorem F_proportion_divided_ok : CSound Try.prog 36 F_proportion_divided := closedX_sound _ _ R_proportion_divided_ok
noncomputable def G_proportion_divided : DFun := closedXD [.o, .o, .o] [.o, .o, .o] R_proportion_divided
theorem G_proportion_divided_ro : Ro F_proportion_divided G_proportion_divided := closedX_ro _ _ _
theorem F_proportion_divided_run {a0 : AV} {a1 : AV} {a2 : AV} {v : AV} (ha : plains [a0, a1, a2] = true) (hv : f_proportion_divided Try.prog t_proportion_divided d_proportion_divided NN (fun v g => cvt false g v) a0 a1 a2 [] = some v) (h : Hp) : F_proportion_divided [a0, a1, a2] h = some (v, h) := by
  have e : (R_proportion_divided (nrms [.o, .o, .o] [a0, a1, a2]) []).bind (fun (p : AV × Hp) => cvt false p.2 p.1) = some v := (R_proportion_divided_eq (fun v g => cvt false g v) a0 a1 a2 []).trans hv
  exact (closedX_bind (shr := [.o, .o, .o]) ha e h).trans (congrArg (fun x => some (x, h)) (nrmR_rep 3 v))
theorem F_proportion_divided_own {a0 : AV} {a1 : AV} {a2 : AV} {x0 : AV} {x1 : AV} {x2 : AV} {h : Hp} {v : AV} (ha : cvts false h [x0, x1, x2] = some [a0, a1, a2]) (hv : ∀ st, f_proportion_divided Try.prog t_proportion_divided d_proportion_divided NN (fun v g => cvt st g v) a0 a1 a2 [] = some v) : F_proportion_divided [x0, x1, x2] h = some (v, h) := by
  have e : ∀ st, (R_proportion_divided (nrms [.o, .o, .o] [a0, a1, a2]) []).bind (fun (p : AV × Hp) => cvt st p.2 p.1) = some v := fun st => (R_proportion_divided_eq (fun v g => cvt st g v) a0 a1 a2 []).trans (hv st)
  exact (closedX_ownB (shr := [.o, .o, .o]) ha e).trans (congrArg (fun x => some (x, h)) (nrmR_rep 3 v))
/-! spile/proportion.Of -/
noncomputable def t_proportion_Of : Tab := (updF (updF T0 35 F_proportion_amounts) 36 F_proportion_divided)
theorem t_proportion_Of_ok : TSound Try.prog t_proportion_Of := (TSound.upd (TSound.upd TSound.zero F_proportion_amounts_ok) F_proportion_divided_ok)
@[simp] theorem t_proportion_Of_35 : t_proportion_Of 35 = some F_proportion_amounts := rfl
@[simp] theorem t_proportion_Of_36 : t_proportion_Of 36 = some F_proportion_divided := rfl
noncomputable def d_proportion_Of : DTab := D0
theorem d_proportion_Of_ok : DSound Try.prog d_proportion_Of := DSound.zero
noncomputable def R_proportion_Of : Fun := runF Try.prog t_proportion_Of d_proportion_Of NN [0, 1, 2, 6, 7, 8, 9, 10, 11, 17, 19, 29] Try.f25 3
theorem R_proportion_Of_ok : CSound Try.prog 25 R_proportion_Of := run_sound t_proportion_Of_ok d_proportion_Of_ok mixed Try.func25 (by kernel_rfl) NN
theorem R_proportion_Of_eq {β : Type} (K : AV → Hp → Option β) (a0 : AV) (a1 : AV) (a2 : AV) (h : Hp) : (R_proportion_Of [a0, a1, a2] h).bind (fun p => K p.1 p.2) = f_proportion_Of Try.prog t_proportion_Of d_proportion_Of NN K a0 a1 a2 h := by
  rw [← f_proportion_Of_run]; exact runF_bind rfl
noncomputable def F_proportion_Of : Fun := closedX [.o, .o, .o] [.o, .o, .o] R_proportion_Of
theorem F_proportion_Of_ok : CSound Try.prog 25 F_proportion_Of := closedX_sound _ _ R_proportion_Of_ok
noncomputable def G_proportion_Of : DFun := closedXD [.o, .o, .o] [.o, .o, .o] R_proportion_Of
theorem G_proportion_Of_ro : Ro F_proportion_Of G_proportion_Of := closedX_ro _ _ _
theorem F_proportion_Of_run {a0 : AV} {a1 : AV} {a2 : AV} {v : AV} (ha : plains [a0, a1, a2] = true) (hv : f_proportion_Of Try.prog t_proportion_Of d_proportion_Of NN (fun v g => cvt false g v) a0 a1 a2 [] = some v) (h : Hp) : F_proportion_Of [a0, a1, a2] h = some (v, h) := by
  have e : (R_proportion_Of (nrms [.o, .o, .o] [a0, a1, a2]) []).bind (fun (p : AV × Hp) => cvt false p.2 p.1) = some v := (R_proportion_Of_eq (fun v g => cvt false g v) a0 a1 a2 []).trans hv
  exact (closedX_bind (shr := [.o, .o, .o]) ha e h).trans (congrArg (fun x => some (x, h)) (nrmR_rep 3 v))
theorem F_proportion_Of_own {a0 : AV} {a1 : AV} {a2 : AV} {x0 : AV} {x1 : AV} {x2 : AV} {h : Hp} {v : AV} (ha : cvts false h [x0, x1, x2] = some [a0, a1, a2]) (hv : ∀ st, f_proportion_Of Try.prog t_proportion_Of d_proportion_Of NN (fun v g => cvt st g v) a0 a1 a2 [] = some v) : F_proportion_Of [x0, x1, x2] h = some (v, h) := by
  have e : ∀ st, (R_proportion_Of (nrms [.o, .o, .o] [a0, a1, a2]) []).bind (fun (p : AV × Hp) => cvt st p.2 p.1) = some v := fun st => (R_proportion_Of_eq (fun v g => cvt st g v) a0 a1 a2 []).trans (hv st)
  exact (closedX_ownB (shr := [.o, .o, .o]) ha e).trans (congrArg (fun x => some (x, h)) (nrmR_rep 3 v))
/-! spile/drawback.part -/
noncomputable def t_drawback_part : Tab := (updF T0 25 F_proportion_Of)
theorem t_drawback_part_ok : TSound Try.prog t_drawback_part := (TSound.upd TSound.zero F_proportion_Of_ok)
@[simp] theorem t_drawback_part_25 : t_drawback_part 25 = some F_proportion_Of := rfl
noncomputable def d_drawback_part : DTab := D0
theorem d_drawback_part_ok : DSound Try.prog d_drawback_part := DSound.zero
noncomputable def R_drawback_part : Fun := runF Try.prog t_drawback_part d_drawback_part NN [0, 1, 2, 4, 5] Try.f34 2
theorem R_drawback_part_ok : CSound Try.prog 34 R_drawback_part := run_sound t_drawback_part_ok d_drawback_part_ok mixed Try.func34 (by kernel_rfl) NN
theorem R_drawback_part_eq {β : Type} (K : AV → Hp → Option β) (a0 : AV) (a1 : AV) (h : Hp) : (R_drawback_part [a0, a1] h).bind (fun p => K p.1 p.2) = f_drawback_part Try.prog t_drawback_part d_drawback_part NN K a0 a1 h := by
  rw [← f_drawback_part_run]; exact runF_bind rfl
noncomputable def F_drawback_part : Fun := closedX [.o, .o] [.o] R_drawback_part
theorem F_drawback_part_ok : CSound Try.prog 34 F_drawback_part := closedX_sound _ _ R_drawback_part_ok
noncomputable def G_drawback_part : DFun := closedXD [.o, .o] [.o] R_drawback_part
theorem G_drawback_part_ro : Ro F_drawback_part G_drawback_part := closedX_ro _ _ _
theorem F_drawback_part_run {a0 : AV} {a1 : AV} {v : AV} (ha : plains [a0, a1] = true) (hv : f_drawback_part Try.prog t_drawback_part d_drawback_part NN (fun v g => cvt false g v) a0 a1 [] = some v) (h : Hp) : F_drawback_part [a0, a1] h = some (v, h) := by
  have e : (R_drawback_part (nrms [.o, .o] [a0, a1]) []).bind (fun (p : AV × Hp) => cvt false p.2 p.1) = some v := (R_drawback_part_eq (fun v g => cvt false g v) a0 a1 []).trans hv
  exact (closedX_bind (shr := [.o]) ha e h).trans (congrArg (fun x => some (x, h)) (nrmR_rep 1 v))
theorem F_drawback_part_own {a0 : AV} {a1 : AV} {x0 : AV} {x1 : AV} {h : Hp} {v : AV} (ha : cvts false h [x0, x1] = some [a0, a1]) (hv : ∀ st, f_drawback_part Try.prog t_drawback_part d_drawback_part NN (fun v g => cvt st g v) a0 a1 [] = some v) : F_drawback_part [x0, x1] h = some (v, h) := by
  have e : ∀ st, (R_drawback_part (nrms [.o, .o] [a0, a1]) []).bind (fun (p : AV × Hp) => cvt st p.2 p.1) = some v := fun st => (R_drawback_part_eq (fun v g => cvt st g v) a0 a1 []).trans (hv st)
  exact (closedX_ownB (shr := [.o]) ha e).trans (congrArg (fun x => some (x, h)) (nrmR_rep 1 v))
/-! spile/drawback.faults$1 -/
noncomputable def t_drawback_faults_1 : Tab := (updF T0 27 F_drawback_within)
theorem t_drawback_faults_1_ok : TSound Try.prog t_drawback_faults_1 := (TSound.upd TSound.zero F_drawback_within_ok)
@[simp] theorem t_drawback_faults_1_27 : t_drawback_faults_1 27 = some F_drawback_within := rfl
noncomputable def d_drawback_faults_1 : DTab := D0
theorem d_drawback_faults_1_ok : DSound Try.prog d_drawback_faults_1 := DSound.zero
noncomputable def R_drawback_faults_1 : Fun := runF Try.prog t_drawback_faults_1 d_drawback_faults_1 NN [1, 3, 4] Try.f46 2
theorem R_drawback_faults_1_ok : CSound Try.prog 46 R_drawback_faults_1 := run_sound t_drawback_faults_1_ok d_drawback_faults_1_ok mixed Try.func46 (by kernel_rfl) NN
theorem R_drawback_faults_1_eq {β : Type} (K : AV → Hp → Option β) (a0 : AV) (a1 : AV) (h : Hp) : (R_drawback_faults_1 [a0, a1] h).bind (fun p => K p.1 p.2) = f_drawback_faults_1 Try.prog t_drawback_faults_1 d_drawback_faults_1 NN K a0 a1 h := by
  rw [← f_drawback_faults_1_run]; exact runF_bind rfl
noncomputable def F_drawback_faults_1 : Fun := quietT R_drawback_faults_1
theorem F_drawback_faults_1_ok : CSound Try.prog 46 F_drawback_faults_1 := quietT_sound R_drawback_faults_1_ok
noncomputable def G_drawback_faults_1 : DFun := roD F_drawback_faults_1
theorem G_drawback_faults_1_ro : Ro F_drawback_faults_1 G_drawback_faults_1 := ro_ro _
theorem F_drawback_faults_1_q {a0 : AV} {a1 : AV} {h : Hp} {g : List AObj} {v : AV} (hv : f_drawback_faults_1 Try.prog t_drawback_faults_1 d_drawback_faults_1 NN (fun v h => some (v, h)) a0 a1 h = some (v, h ++ g)) (hp : plain v = true) : F_drawback_faults_1 [a0, a1] h = some (v, h) := quietT_val (F := R_drawback_faults_1) (((bind_pair _).symm.trans (R_drawback_faults_1_eq (fun v h => some (v, h)) a0 a1 h)).trans hv) hp
/-! spile/drawback.faults$2 -/
noncomputable def t_drawback_faults_2 : Tab := T0
theorem t_drawback_faults_2_ok : TSound Try.prog t_drawback_faults_2 := TSound.zero
noncomputable def d_drawback_faults_2 : DTab := D0
theorem d_drawback_faults_2_ok : DSound Try.prog d_drawback_faults_2 := DSound.zero
noncomputable def R_drawback_faults_2 : Fun := runF Try.prog t_drawback_faults_2 d_drawback_faults_2 NN [0, 1, 3, 4] Try.f47 2
theorem R_drawback_faults_2_ok : CSound Try.prog 47 R_drawback_faults_2 := run_sound t_drawback_faults_2_ok d_drawback_faults_2_ok mixed Try.func47 (by kernel_rfl) NN
theorem R_drawback_faults_2_eq {β : Type} (K : AV → Hp → Option β) (a0 : AV) (a1 : AV) (h : Hp) : (R_drawback_faults_2 [a0, a1] h).bind (fun p => K p.1 p.2) = f_drawback_faults_2 Try.prog t_drawback_faults_2 d_drawback_faults_2 NN K a0 a1 h := by
  rw [← f_drawback_faults_2_run]; exact runF_bind rfl
noncomputable def F_drawback_faults_2 : Fun := quietT R_drawback_faults_2
theorem F_drawback_faults_2_ok : CSound Try.prog 47 F_drawback_faults_2 := quietT_sound R_drawback_faults_2_ok
noncomputable def G_drawback_faults_2 : DFun := roD F_drawback_faults_2
theorem G_drawback_faults_2_ro : Ro F_drawback_faults_2 G_drawback_faults_2 := ro_ro _
theorem F_drawback_faults_2_q {a0 : AV} {a1 : AV} {h : Hp} {g : List AObj} {v : AV} (hv : f_drawback_faults_2 Try.prog t_drawback_faults_2 d_drawback_faults_2 NN (fun v h => some (v, h)) a0 a1 h = some (v, h ++ g)) (hp : plain v = true) : F_drawback_faults_2 [a0, a1] h = some (v, h) := quietT_val (F := R_drawback_faults_2) (((bind_pair _).symm.trans (R_drawback_faults_2_eq (fun v h => some (v, h)) a0 a1 h)).trans hv) hp
/-! spile/drawback.faults$3 -/
noncomputable def t_drawback_faults_3 : Tab := T0
theorem t_drawback_faults_3_ok : TSound Try.prog t_drawback_faults_3 := TSound.zero
noncomputable def d_drawback_faults_3 : DTab := D0
theorem d_drawback_faults_3_ok : DSound Try.prog d_drawback_faults_3 := DSound.zero
noncomputable def R_drawback_faults_3 : Fun := runF Try.prog t_drawback_faults_3 d_drawback_faults_3 NN [0, 1, 3, 4, 6] Try.f48 2
theorem R_drawback_faults_3_ok : CSound Try.prog 48 R_drawback_faults_3 := run_sound t_drawback_faults_3_ok d_drawback_faults_3_ok mixed Try.func48 (by kernel_rfl) NN
theorem R_drawback_faults_3_eq {β : Type} (K : AV → Hp → Option β) (a0 : AV) (a1 : AV) (h : Hp) : (R_drawback_faults_3 [a0, a1] h).bind (fun p => K p.1 p.2) = f_drawback_faults_3 Try.prog t_drawback_faults_3 d_drawback_faults_3 NN K a0 a1 h := by
  rw [← f_drawback_faults_3_run]; exact runF_bind rfl
noncomputable def F_drawback_faults_3 : Fun := quietT R_drawback_faults_3
theorem F_drawback_faults_3_ok : CSound Try.prog 48 F_drawback_faults_3 := quietT_sound R_drawback_faults_3_ok
noncomputable def G_drawback_faults_3 : DFun := roD F_drawback_faults_3
theorem G_drawback_faults_3_ro : Ro F_drawback_faults_3 G_drawback_faults_3 := ro_ro _
theorem F_drawback_faults_3_q {a0 : AV} {a1 : AV} {h : Hp} {g : List AObj} {v : AV} (hv : f_drawback_faults_3 Try.prog t_drawback_faults_3 d_drawback_faults_3 NN (fun v h => some (v, h)) a0 a1 h = some (v, h ++ g)) (hp : plain v = true) : F_drawback_faults_3 [a0, a1] h = some (v, h) := quietT_val (F := R_drawback_faults_3) (((bind_pair _).symm.trans (R_drawback_faults_3_eq (fun v h => some (v, h)) a0 a1 h)).trans hv) hp
/-! spile/drawback.faults$4 -/
noncomputable def t_drawback_faults_4 : Tab := T0
theorem t_drawback_faults_4_ok : TSound Try.prog t_drawback_faults_4 := TSound.zero
noncomputable def d_drawback_faults_4 : DTab := D0
theorem d_drawback_faults_4_ok : DSound Try.prog d_drawback_faults_4 := DSound.zero
noncomputable def R_drawback_faults_4 : Fun := runF Try.prog t_drawback_faults_4 d_drawback_faults_4 NN [0, 1, 3, 4] Try.f49 2
theorem R_drawback_faults_4_ok : CSound Try.prog 49 R_drawback_faults_4 := run_sound t_drawback_faults_4_ok d_drawback_faults_4_ok mixed Try.func49 (by kernel_rfl) NN
theorem R_drawback_faults_4_eq {β : Type} (K : AV → Hp → Option β) (a0 : AV) (a1 : AV) (h : Hp) : (R_drawback_faults_4 [a0, a1] h).bind (fun p => K p.1 p.2) = f_drawback_faults_4 Try.prog t_drawback_faults_4 d_drawback_faults_4 NN K a0 a1 h := by
  rw [← f_drawback_faults_4_run]; exact runF_bind rfl
noncomputable def F_drawback_faults_4 : Fun := quietT R_drawback_faults_4
theorem F_drawback_faults_4_ok : CSound Try.prog 49 F_drawback_faults_4 := quietT_sound R_drawback_faults_4_ok
noncomputable def G_drawback_faults_4 : DFun := roD F_drawback_faults_4
theorem G_drawback_faults_4_ro : Ro F_drawback_faults_4 G_drawback_faults_4 := ro_ro _
theorem F_drawback_faults_4_q {a0 : AV} {a1 : AV} {h : Hp} {g : List AObj} {v : AV} (hv : f_drawback_faults_4 Try.prog t_drawback_faults_4 d_drawback_faults_4 NN (fun v h => some (v, h)) a0 a1 h = some (v, h ++ g)) (hp : plain v = true) : F_drawback_faults_4 [a0, a1] h = some (v, h) := quietT_val (F := R_drawback_faults_4) (((bind_pair _).symm.trans (R_drawback_faults_4_eq (fun v h => some (v, h)) a0 a1 h)).trans hv) hp
/-! spile/drawback.faults$5 -/
noncomputable def t_drawback_faults_5 : Tab := T0
theorem t_drawback_faults_5_ok : TSound Try.prog t_drawback_faults_5 := TSound.zero
noncomputable def d_drawback_faults_5 : DTab := D0
theorem d_drawback_faults_5_ok : DSound Try.prog d_drawback_faults_5 := DSound.zero
noncomputable def R_drawback_faults_5 : Fun := runF Try.prog t_drawback_faults_5 d_drawback_faults_5 NN [0, 1, 3, 4] Try.f50 2
theorem R_drawback_faults_5_ok : CSound Try.prog 50 R_drawback_faults_5 := run_sound t_drawback_faults_5_ok d_drawback_faults_5_ok mixed Try.func50 (by kernel_rfl) NN
theorem R_drawback_faults_5_eq {β : Type} (K : AV → Hp → Option β) (a0 : AV) (a1 : AV) (h : Hp) : (R_drawback_faults_5 [a0, a1] h).bind (fun p => K p.1 p.2) = f_drawback_faults_5 Try.prog t_drawback_faults_5 d_drawback_faults_5 NN K a0 a1 h := by
  rw [← f_drawback_faults_5_run]; exact runF_bind rfl
noncomputable def F_drawback_faults_5 : Fun := quietT R_drawback_faults_5
theorem F_drawback_faults_5_ok : CSound Try.prog 50 F_drawback_faults_5 := quietT_sound R_drawback_faults_5_ok
noncomputable def G_drawback_faults_5 : DFun := roD F_drawback_faults_5
theorem G_drawback_faults_5_ro : Ro F_drawback_faults_5 G_drawback_faults_5 := ro_ro _
theorem F_drawback_faults_5_q {a0 : AV} {a1 : AV} {h : Hp} {g : List AObj} {v : AV} (hv : f_drawback_faults_5 Try.prog t_drawback_faults_5 d_drawback_faults_5 NN (fun v h => some (v, h)) a0 a1 h = some (v, h ++ g)) (hp : plain v = true) : F_drawback_faults_5 [a0, a1] h = some (v, h) := quietT_val (F := R_drawback_faults_5) (((bind_pair _).symm.trans (R_drawback_faults_5_eq (fun v h => some (v, h)) a0 a1 h)).trans hv) hp
/-! spile/drawback.faults$6 -/
noncomputable def t_drawback_faults_6 : Tab := T0
theorem t_drawback_faults_6_ok : TSound Try.prog t_drawback_faults_6 := TSound.zero
noncomputable def d_drawback_faults_6 : DTab := D0
theorem d_drawback_faults_6_ok : DSound Try.prog d_drawback_faults_6 := DSound.zero
noncomputable def R_drawback_faults_6 : Fun := runF Try.prog t_drawback_faults_6 d_drawback_faults_6 NN [0, 1, 3, 4] Try.f51 2
theorem R_drawback_faults_6_ok : CSound Try.prog 51 R_drawback_faults_6 := run_sound t_drawback_faults_6_ok d_drawback_faults_6_ok mixed Try.func51 (by kernel_rfl) NN
theorem R_drawback_faults_6_eq {β : Type} (K : AV → Hp → Option β) (a0 : AV) (a1 : AV) (h : Hp) : (R_drawback_faults_6 [a0, a1] h).bind (fun p => K p.1 p.2) = f_drawback_faults_6 Try.prog t_drawback_faults_6 d_drawback_faults_6 NN K a0 a1 h := by
  rw [← f_drawback_faults_6_run]; exact runF_bind rfl
noncomputable def F_drawback_faults_6 : Fun := quietT R_drawback_faults_6
theorem F_drawback_faults_6_ok : CSound Try.prog 51 F_drawback_faults_6 := quietT_sound R_drawback_faults_6_ok
noncomputable def G_drawback_faults_6 : DFun := roD F_drawback_faults_6
theorem G_drawback_faults_6_ro : Ro F_drawback_faults_6 G_drawback_faults_6 := ro_ro _
theorem F_drawback_faults_6_q {a0 : AV} {a1 : AV} {h : Hp} {g : List AObj} {v : AV} (hv : f_drawback_faults_6 Try.prog t_drawback_faults_6 d_drawback_faults_6 NN (fun v h => some (v, h)) a0 a1 h = some (v, h ++ g)) (hp : plain v = true) : F_drawback_faults_6 [a0, a1] h = some (v, h) := quietT_val (F := R_drawback_faults_6) (((bind_pair _).symm.trans (R_drawback_faults_6_eq (fun v h => some (v, h)) a0 a1 h)).trans hv) hp
/-! spile/drawback.faults -/
noncomputable def t_drawback_faults : Tab := (updF (updF (updF (updF (updF (updF T0 46 F_drawback_faults_1) 47 F_drawback_faults_2) 48 F_drawback_faults_3) 49 F_drawback_faults_4) 50 F_drawback_faults_5) 51 F_drawback_faults_6)
theorem t_drawback_faults_ok : TSound Try.prog t_drawback_faults := (TSound.upd (TSound.upd (TSound.upd (TSound.upd (TSound.upd (TSound.upd TSound.zero F_drawback_faults_1_ok) F_drawback_faults_2_ok) F_drawback_faults_3_ok) F_drawback_faults_4_ok) F_drawback_faults_5_ok) F_drawback_faults_6_ok)
@[simp] theorem t_drawback_faults_46 : t_drawback_faults 46 = some F_drawback_faults_1 := rfl
@[simp] theorem t_drawback_faults_47 : t_drawback_faults 47 = some F_drawback_faults_2 := rfl
@[simp] theorem t_drawback_faults_48 : t_drawback_faults 48 = some F_drawback_faults_3 := rfl
@[simp] theorem t_drawback_faults_49 : t_drawback_faults 49 = some F_drawback_faults_4 := rfl
@[simp] theorem t_drawback_faults_50 : t_drawback_faults 50 = some F_drawback_faults_5 := rfl
@[simp] theorem t_drawback_faults_51 : t_drawback_faults 51 = some F_drawback_faults_6 := rfl
noncomputable def d_drawback_faults : DTab := D0
theorem d_drawback_faults_ok : DSound Try.prog d_drawback_faults := DSound.zero
noncomputable def R_drawback_faults : Fun := runF Try.prog t_drawback_faults d_drawback_faults NN [0] Try.f39 0
theorem R_drawback_faults_ok : CSound Try.prog 39 R_drawback_faults := run_sound t_drawback_faults_ok d_drawback_faults_ok mixed Try.func39 (by kernel_rfl) NN
theorem R_drawback_faults_eq {β : Type} (K : AV → Hp → Option β) (h : Hp) : (R_drawback_faults [] h).bind (fun p => K p.1 p.2) = f_drawback_faults Try.prog t_drawback_faults d_drawback_faults NN K  h := by
  rw [← f_drawback_faults_run]; exact runF_bind rfl
noncomputable def F_drawback_faults : Fun := R_drawback_faults
theorem F_drawback_faults_ok : CSound Try.prog 39 F_drawback_faults := R_drawback_faults_ok
noncomputable def G_drawback_faults : DFun := roD F_drawback_faults
theorem G_drawback_faults_ro : Ro F_drawback_faults G_drawback_faults := ro_ro _
theorem F_drawback_faults_raw (h : Hp) : F_drawback_faults [] h = f_drawback_faults Try.prog t_drawback_faults d_drawback_faults NN (fun v h => some (v, h))  h := (bind_pair _).symm.trans (R_drawback_faults_eq (fun v h => some (v, h))  h)
/-! spile/drawback.carry -/
noncomputable def t_drawback_carry : Tab := (updF (updF (updF (updF (updF (updF (updF (updF (updF (updF T0 12 F_drawback_Check) 27 F_drawback_within) 34 F_drawback_part) 39 F_drawback_faults) 46 F_drawback_faults_1) 47 F_drawback_faults_2) 48 F_drawback_faults_3) 49 F_drawback_faults_4) 50 F_drawback_faults_5) 51 F_drawback_faults_6)
theorem t_drawback_carry_ok : TSound Try.prog t_drawback_carry := (TSound.upd (TSound.upd (TSound.upd (TSound.upd (TSound.upd (TSound.upd (TSound.upd (TSound.upd (TSound.upd (TSound.upd TSound.zero F_drawback_Check_ok) F_drawback_within_ok) F_drawback_part_ok) F_drawback_faults_ok) F_drawback_faults_1_ok) F_drawback_faults_2_ok) F_drawback_faults_3_ok) F_drawback_faults_4_ok) F_drawback_faults_5_ok) F_drawback_faults_6_ok)
@[simp] theorem t_drawback_carry_12 : t_drawback_carry 12 = some F_drawback_Check := rfl
@[simp] theorem t_drawback_carry_27 : t_drawback_carry 27 = some F_drawback_within := rfl
@[simp] theorem t_drawback_carry_34 : t_drawback_carry 34 = some F_drawback_part := rfl
@[simp] theorem t_drawback_carry_39 : t_drawback_carry 39 = some F_drawback_faults := rfl
@[simp] theorem t_drawback_carry_46 : t_drawback_carry 46 = some F_drawback_faults_1 := rfl
@[simp] theorem t_drawback_carry_47 : t_drawback_carry 47 = some F_drawback_faults_2 := rfl
@[simp] theorem t_drawback_carry_48 : t_drawback_carry 48 = some F_drawback_faults_3 := rfl
@[simp] theorem t_drawback_carry_49 : t_drawback_carry 49 = some F_drawback_faults_4 := rfl
@[simp] theorem t_drawback_carry_50 : t_drawback_carry 50 = some F_drawback_faults_5 := rfl
@[simp] theorem t_drawback_carry_51 : t_drawback_carry 51 = some F_drawback_faults_6 := rfl
noncomputable def d_drawback_carry : DTab := (updD D0 34 G_drawback_part)
theorem d_drawback_carry_ok : DSound Try.prog d_drawback_carry := (DSound.ro DSound.zero G_drawback_part_ro F_drawback_part_ok)
@[simp] theorem d_drawback_carry_34 : d_drawback_carry 34 = some G_drawback_part := rfl
noncomputable def R_drawback_carry : Fun := runF Try.prog t_drawback_carry d_drawback_carry NN [0, 1, 2, 6, 7, 8, 9, 11, 12, 14, 15, 16, 17, 18, 20, 21, 22, 28, 31, 35, 44, 45, 46, 47, 59, 60, 61, 62, 66, 67, 68, 69, 76] Try.f29 3
theorem R_drawback_carry_ok : CSound Try.prog 29 R_drawback_carry := run_sound t_drawback_carry_ok d_drawback_carry_ok mixed Try.func29 (by kernel_rfl) NN
theorem R_drawback_carry_eq {β : Type} (K : AV → Hp → Option β) (a0 : AV) (a1 : AV) (a2 : AV) (h : Hp) : (R_drawback_carry [a0, a1, a2] h).bind (fun p => K p.1 p.2) = f_drawback_carry Try.prog t_drawback_carry d_drawback_carry NN K a0 a1 a2 h := by
  rw [← f_drawback_carry_run]; exact runF_bind rfl
noncomputable def F_drawback_carry : Fun := R_drawback_carry
theorem F_drawback_carry_ok : CSound Try.prog 29 F_drawback_carry := R_drawback_carry_ok
noncomputable def G_drawback_carry : DFun := roD F_drawback_carry
theorem G_drawback_carry_ro : Ro F_drawback_carry G_drawback_carry := ro_ro _
theorem F_drawback_carry_raw (a0 : AV) (a1 : AV) (a2 : AV) (h : Hp) : F_drawback_carry [a0, a1, a2] h = f_drawback_carry Try.prog t_drawback_carry d_drawback_carry NN (fun v h => some (v, h)) a0 a1 a2 h := (bind_pair _).symm.trans (R_drawback_carry_eq (fun v h => some (v, h)) a0 a1 a2 h)
/-! spile/drawback.Refund -/
noncomputable def t_drawback_Refund : Tab := (updF T0 29 F_drawback_carry)
theorem t_drawback_Refund_ok : TSound Try.prog t_drawback_Refund := (TSound.upd TSound.zero F_drawback_carry_ok)
@[simp] theorem t_drawback_Refund_29 : t_drawback_Refund 29 = some F_drawback_carry := rfl
noncomputable def d_drawback_Refund : DTab := D0
theorem d_drawback_Refund_ok : DSound Try.prog d_drawback_Refund := DSound.zero
noncomputable def R_drawback_Refund : Fun := runF Try.prog t_drawback_Refund d_drawback_Refund NN [0, 1, 2, 6, 7, 8, 10, 11, 12] Try.f15 3
theorem R_drawback_Refund_ok : CSound Try.prog 15 R_drawback_Refund := run_sound t_drawback_Refund_ok d_drawback_Refund_ok mixed Try.func15 (by kernel_rfl) NN
theorem R_drawback_Refund_eq {β : Type} (K : AV → Hp → Option β) (a0 : AV) (a1 : AV) (a2 : AV) (h : Hp) : (R_drawback_Refund [a0, a1, a2] h).bind (fun p => K p.1 p.2) = f_drawback_Refund Try.prog t_drawback_Refund d_drawback_Refund NN K a0 a1 a2 h := by
  rw [← f_drawback_Refund_run]; exact runF_bind rfl
noncomputable def F_drawback_Refund : Fun := closedX [.l 5, .l 3, .o] [.l 1, .o, .o] R_drawback_Refund
theorem F_drawback_Refund_ok : CSound Try.prog 15 F_drawback_Refund := closedX_sound _ _ R_drawback_Refund_ok
noncomputable def G_drawback_Refund : DFun := closedXD [.l 5, .l 3, .o] [.l 1, .o, .o] R_drawback_Refund
theorem G_drawback_Refund_ro : Ro F_drawback_Refund G_drawback_Refund := closedX_ro _ _ _
theorem F_drawback_Refund_run {a0 : AV} {a1 : AV} {a2 : AV} {v : AV} (ha : plains [a0, a1, a2] = true) (hv : f_drawback_Refund Try.prog t_drawback_Refund d_drawback_Refund NN (fun v g => cvt false g v) (nrm (.l 5) a0) (nrm (.l 3) a1) a2 [] = some v) (h : Hp) : F_drawback_Refund [a0, a1, a2] h = some ((nrmR [.l 1, .o, .o] v), h) := by
  have e : (R_drawback_Refund (nrms [.l 5, .l 3, .o] [a0, a1, a2]) []).bind (fun (p : AV × Hp) => cvt false p.2 p.1) = some v := (R_drawback_Refund_eq (fun v g => cvt false g v) (nrm (.l 5) a0) (nrm (.l 3) a1) a2 []).trans hv
  exact (closedX_bind (shr := [.l 1, .o, .o]) ha e h).trans (congrArg (fun x => some (x, h)) rfl)
theorem F_drawback_Refund_own {a0 : AV} {a1 : AV} {a2 : AV} {x0 : AV} {x1 : AV} {x2 : AV} {h : Hp} {v : AV} (ha : cvts false h [x0, x1, x2] = some [a0, a1, a2]) (hv : ∀ st, f_drawback_Refund Try.prog t_drawback_Refund d_drawback_Refund NN (fun v g => cvt st g v) (nrm (.l 5) a0) (nrm (.l 3) a1) a2 [] = some v) : F_drawback_Refund [x0, x1, x2] h = some ((nrmR [.l 1, .o, .o] v), h) := by
  have e : ∀ st, (R_drawback_Refund (nrms [.l 5, .l 3, .o] [a0, a1, a2]) []).bind (fun (p : AV × Hp) => cvt st p.2 p.1) = some v := fun st => (R_drawback_Refund_eq (fun v g => cvt st g v) (nrm (.l 5) a0) (nrm (.l 3) a1) a2 []).trans (hv st)
  exact (closedX_ownB (shr := [.l 1, .o, .o]) ha e).trans (congrArg (fun x => some (x, h)) rfl)
/-! slices.Clone[[]spile/api.Claim,spile/api.Claim] -/
noncomputable def t_slices_Clone_Claim : Tab := T0
theorem t_slices_Clone_Claim_ok : TSound Try.prog t_slices_Clone_Claim := TSound.zero
noncomputable def d_slices_Clone_Claim : DTab := D0
theorem d_slices_Clone_Claim_ok : DSound Try.prog d_slices_Clone_Claim := DSound.zero
noncomputable def R_slices_Clone_Claim : Fun := runF Try.prog t_slices_Clone_Claim d_slices_Clone_Claim NN [0, 2, 4] Try.f16 1
theorem R_slices_Clone_Claim_ok : CSound Try.prog 16 R_slices_Clone_Claim := run_sound t_slices_Clone_Claim_ok d_slices_Clone_Claim_ok mixed Try.func16 (by kernel_rfl) NN
theorem R_slices_Clone_Claim_eq {β : Type} (K : AV → Hp → Option β) (a0 : AV) (h : Hp) : (R_slices_Clone_Claim [a0] h).bind (fun p => K p.1 p.2) = f_slices_Clone_Claim Try.prog t_slices_Clone_Claim d_slices_Clone_Claim NN K a0 h := by
  rw [← f_slices_Clone_Claim_run]; exact runF_bind rfl
theorem R_slices_Clone_Claim_raw (a0 : AV) (h : Hp) : R_slices_Clone_Claim [a0] h = f_slices_Clone_Claim Try.prog t_slices_Clone_Claim d_slices_Clone_Claim NN (fun v h => some (v, h)) a0 h := (bind_pair _).symm.trans (R_slices_Clone_Claim_eq (fun v h => some (v, h)) a0 h)
noncomputable def F_slices_Clone_Claim : Fun := closedX [.l 3] [.l 3] R_slices_Clone_Claim
theorem F_slices_Clone_Claim_ok : CSound Try.prog 16 F_slices_Clone_Claim := closedX_sound _ _ R_slices_Clone_Claim_ok
noncomputable def G_slices_Clone_Claim : DFun := closedXD [.l 3] [.l 3] R_slices_Clone_Claim
theorem G_slices_Clone_Claim_ro : Ro F_slices_Clone_Claim G_slices_Clone_Claim := closedX_ro _ _ _
theorem F_slices_Clone_Claim_run {a0 : AV} {v : AV} (ha : plains [a0] = true) (hv : f_slices_Clone_Claim Try.prog t_slices_Clone_Claim d_slices_Clone_Claim NN (fun v g => cvt false g v) (nrm (.l 3) a0) [] = some v) (h : Hp) : F_slices_Clone_Claim [a0] h = some ((nrmR [.l 3] v), h) := by
  have e : (R_slices_Clone_Claim (nrms [.l 3] [a0]) []).bind (fun (p : AV × Hp) => cvt false p.2 p.1) = some v := (R_slices_Clone_Claim_eq (fun v g => cvt false g v) (nrm (.l 3) a0) []).trans hv
  exact (closedX_bind (shr := [.l 3]) ha e h).trans (congrArg (fun x => some (x, h)) rfl)
theorem F_slices_Clone_Claim_own {a0 : AV} {x0 : AV} {h : Hp} {v : AV} (ha : cvts false h [x0] = some [a0]) (hv : ∀ st, f_slices_Clone_Claim Try.prog t_slices_Clone_Claim d_slices_Clone_Claim NN (fun v g => cvt st g v) (nrm (.l 3) a0) [] = some v) : F_slices_Clone_Claim [x0] h = some ((nrmR [.l 3] v), h) := by
  have e : ∀ st, (R_slices_Clone_Claim (nrms [.l 3] [a0]) []).bind (fun (p : AV × Hp) => cvt st p.2 p.1) = some v := fun st => (R_slices_Clone_Claim_eq (fun v g => cvt st g v) (nrm (.l 3) a0) []).trans (hv st)
  exact (closedX_ownB (shr := [.l 3]) ha e).trans (congrArg (fun x => some (x, h)) rfl)
/-! slices.Equal[[]int,int] -/
noncomputable def t_slices_Equal_int : Tab := T0
theorem t_slices_Equal_int_ok : TSound Try.prog t_slices_Equal_int := TSound.zero
noncomputable def d_slices_Equal_int : DTab := D0
theorem d_slices_Equal_int_ok : DSound Try.prog d_slices_Equal_int := DSound.zero
noncomputable def R_slices_Equal_int : Fun := runF Try.prog t_slices_Equal_int d_slices_Equal_int NN [0, 1, 4, 5, 10, 12, 13, 14, 24] Try.f18 2
theorem R_slices_Equal_int_ok : CSound Try.prog 18 R_slices_Equal_int := run_sound t_slices_Equal_int_ok d_slices_Equal_int_ok mixed Try.func18 (by kernel_rfl) NN
theorem R_slices_Equal_int_eq {β : Type} (K : AV → Hp → Option β) (a0 : AV) (a1 : AV) (h : Hp) : (R_slices_Equal_int [a0, a1] h).bind (fun p => K p.1 p.2) = f_slices_Equal_int Try.prog t_slices_Equal_int d_slices_Equal_int NN K a0 a1 h := by
  rw [← f_slices_Equal_int_run]; exact runF_bind rfl
noncomputable def F_slices_Equal_int : Fun := closedX [.l 1, .l 1] [.o] R_slices_Equal_int
theorem F_slices_Equal_int_ok : CSound Try.prog 18 F_slices_Equal_int := closedX_sound _ _ R_slices_Equal_int_ok
noncomputable def G_slices_Equal_int : DFun := closedXD [.l 1, .l 1] [.o] R_slices_Equal_int
theorem G_slices_Equal_int_ro : Ro F_slices_Equal_int G_slices_Equal_int := closedX_ro _ _ _
theorem F_slices_Equal_int_run {a0 : AV} {a1 : AV} {v : AV} (ha : plains [a0, a1] = true) (hv : f_slices_Equal_int Try.prog t_slices_Equal_int d_slices_Equal_int NN (fun v g => cvt false g v) (nrm (.l 1) a0) (nrm (.l 1) a1) [] = some v) (h : Hp) : F_slices_Equal_int [a0, a1] h = some (v, h) := by
  have e : (R_slices_Equal_int (nrms [.l 1, .l 1] [a0, a1]) []).bind (fun (p : AV × Hp) => cvt false p.2 p.1) = some v := (R_slices_Equal_int_eq (fun v g => cvt false g v) (nrm (.l 1) a0) (nrm (.l 1) a1) []).trans hv
  exact (closedX_bind (shr := [.o]) ha e h).trans (congrArg (fun x => some (x, h)) (nrmR_rep 1 v))
theorem F_slices_Equal_int_own {a0 : AV} {a1 : AV} {x0 : AV} {x1 : AV} {h : Hp} {v : AV} (ha : cvts false h [x0, x1] = some [a0, a1]) (hv : ∀ st, f_slices_Equal_int Try.prog t_slices_Equal_int d_slices_Equal_int NN (fun v g => cvt st g v) (nrm (.l 1) a0) (nrm (.l 1) a1) [] = some v) : F_slices_Equal_int [x0, x1] h = some (v, h) := by
  have e : ∀ st, (R_slices_Equal_int (nrms [.l 1, .l 1] [a0, a1]) []).bind (fun (p : AV × Hp) => cvt st p.2 p.1) = some v := fun st => (R_slices_Equal_int_eq (fun v g => cvt st g v) (nrm (.l 1) a0) (nrm (.l 1) a1) []).trans (hv st)
  exact (closedX_ownB (shr := [.o]) ha e).trans (congrArg (fun x => some (x, h)) (nrmR_rep 1 v))
/-! spile/drawback.Left -/
noncomputable def t_drawback_Left : Tab := (updF (updF T0 29 F_drawback_carry) 34 F_drawback_part)
theorem t_drawback_Left_ok : TSound Try.prog t_drawback_Left := (TSound.upd (TSound.upd TSound.zero F_drawback_carry_ok) F_drawback_part_ok)
@[simp] theorem t_drawback_Left_29 : t_drawback_Left 29 = some F_drawback_carry := rfl
@[simp] theorem t_drawback_Left_34 : t_drawback_Left 34 = some F_drawback_part := rfl
noncomputable def d_drawback_Left : DTab := (updD D0 34 G_drawback_part)
theorem d_drawback_Left_ok : DSound Try.prog d_drawback_Left := (DSound.ro DSound.zero G_drawback_part_ro F_drawback_part_ok)
@[simp] theorem d_drawback_Left_34 : d_drawback_Left 34 = some G_drawback_part := rfl
noncomputable def R_drawback_Left : Fun := runF Try.prog t_drawback_Left d_drawback_Left NN [0, 1, 2, 3, 8, 9, 10, 11, 14, 15, 16, 17, 28, 40] Try.f19 4
theorem R_drawback_Left_ok : CSound Try.prog 19 R_drawback_Left := run_sound t_drawback_Left_ok d_drawback_Left_ok mixed Try.func19 (by kernel_rfl) NN
theorem R_drawback_Left_eq {β : Type} (K : AV → Hp → Option β) (a0 : AV) (a1 : AV) (a2 : AV) (a3 : AV) (h : Hp) : (R_drawback_Left [a0, a1, a2, a3] h).bind (fun p => K p.1 p.2) = f_drawback_Left Try.prog t_drawback_Left d_drawback_Left NN K a0 a1 a2 a3 h := by
  rw [← f_drawback_Left_run]; exact runF_bind rfl
noncomputable def F_drawback_Left : Fun := closedX [.l 5, .l 3, .o, .o] [.o, .o, .o] R_drawback_Left
theorem F_drawback_Left_ok : CSound Try.prog 19 F_drawback_Left := closedX_sound _ _ R_drawback_Left_ok
noncomputable def G_drawback_Left : DFun := closedXD [.l 5, .l 3, .o, .o] [.o, .o, .o] R_drawback_Left
theorem G_drawback_Left_ro : Ro F_drawback_Left G_drawback_Left := closedX_ro _ _ _
theorem F_drawback_Left_run {a0 : AV} {a1 : AV} {a2 : AV} {a3 : AV} {v : AV} (ha : plains [a0, a1, a2, a3] = true) (hv : f_drawback_Left Try.prog t_drawback_Left d_drawback_Left NN (fun v g => cvt false g v) (nrm (.l 5) a0) (nrm (.l 3) a1) a2 a3 [] = some v) (h : Hp) : F_drawback_Left [a0, a1, a2, a3] h = some (v, h) := by
  have e : (R_drawback_Left (nrms [.l 5, .l 3, .o, .o] [a0, a1, a2, a3]) []).bind (fun (p : AV × Hp) => cvt false p.2 p.1) = some v := (R_drawback_Left_eq (fun v g => cvt false g v) (nrm (.l 5) a0) (nrm (.l 3) a1) a2 a3 []).trans hv
  exact (closedX_bind (shr := [.o, .o, .o]) ha e h).trans (congrArg (fun x => some (x, h)) (nrmR_rep 3 v))
theorem F_drawback_Left_own {a0 : AV} {a1 : AV} {a2 : AV} {a3 : AV} {x0 : AV} {x1 : AV} {x2 : AV} {x3 : AV} {h : Hp} {v : AV} (ha : cvts false h [x0, x1, x2, x3] = some [a0, a1, a2, a3]) (hv : ∀ st, f_drawback_Left Try.prog t_drawback_Left d_drawback_Left NN (fun v g => cvt st g v) (nrm (.l 5) a0) (nrm (.l 3) a1) a2 a3 [] = some v) : F_drawback_Left [x0, x1, x2, x3] h = some (v, h) := by
  have e : ∀ st, (R_drawback_Left (nrms [.l 5, .l 3, .o, .o] [a0, a1, a2, a3]) []).bind (fun (p : AV × Hp) => cvt st p.2 p.1) = some v := fun st => (R_drawback_Left_eq (fun v g => cvt st g v) (nrm (.l 5) a0) (nrm (.l 3) a1) a2 a3 []).trans (hv st)
  exact (closedX_ownB (shr := [.o, .o, .o]) ha e).trans (congrArg (fun x => some (x, h)) (nrmR_rep 3 v))
/-! spile/drawback.Total -/
noncomputable def t_drawback_Total : Tab := (updF T0 29 F_drawback_carry)
theorem t_drawback_Total_ok : TSound Try.prog t_drawback_Total := (TSound.upd TSound.zero F_drawback_carry_ok)
@[simp] theorem t_drawback_Total_29 : t_drawback_Total 29 = some F_drawback_carry := rfl
noncomputable def d_drawback_Total : DTab := D0
theorem d_drawback_Total_ok : DSound Try.prog d_drawback_Total := DSound.zero
noncomputable def R_drawback_Total : Fun := runF Try.prog t_drawback_Total d_drawback_Total NN [0, 1, 2, 6, 7, 9, 11, 12, 14, 24, 25, 26, 27] Try.f21 3
theorem R_drawback_Total_ok : CSound Try.prog 21 R_drawback_Total := run_sound t_drawback_Total_ok d_drawback_Total_ok mixed Try.func21 (by kernel_rfl) NN
theorem R_drawback_Total_eq {β : Type} (K : AV → Hp → Option β) (a0 : AV) (a1 : AV) (a2 : AV) (h : Hp) : (R_drawback_Total [a0, a1, a2] h).bind (fun p => K p.1 p.2) = f_drawback_Total Try.prog t_drawback_Total d_drawback_Total NN K a0 a1 a2 h := by
  rw [← f_drawback_Total_run]; exact runF_bind rfl
noncomputable def F_drawback_Total : Fun := closedX [.l 5, .l 3, .o] [.o, .o] R_drawback_Total
theorem F_drawback_Total_ok : CSound Try.prog 21 F_drawback_Total := closedX_sound _ _ R_drawback_Total_ok
noncomputable def G_drawback_Total : DFun := closedXD [.l 5, .l 3, .o] [.o, .o] R_drawback_Total
theorem G_drawback_Total_ro : Ro F_drawback_Total G_drawback_Total := closedX_ro _ _ _
theorem F_drawback_Total_run {a0 : AV} {a1 : AV} {a2 : AV} {v : AV} (ha : plains [a0, a1, a2] = true) (hv : f_drawback_Total Try.prog t_drawback_Total d_drawback_Total NN (fun v g => cvt false g v) (nrm (.l 5) a0) (nrm (.l 3) a1) a2 [] = some v) (h : Hp) : F_drawback_Total [a0, a1, a2] h = some (v, h) := by
  have e : (R_drawback_Total (nrms [.l 5, .l 3, .o] [a0, a1, a2]) []).bind (fun (p : AV × Hp) => cvt false p.2 p.1) = some v := (R_drawback_Total_eq (fun v g => cvt false g v) (nrm (.l 5) a0) (nrm (.l 3) a1) a2 []).trans hv
  exact (closedX_bind (shr := [.o, .o]) ha e h).trans (congrArg (fun x => some (x, h)) (nrmR_rep 2 v))
theorem F_drawback_Total_own {a0 : AV} {a1 : AV} {a2 : AV} {x0 : AV} {x1 : AV} {x2 : AV} {h : Hp} {v : AV} (ha : cvts false h [x0, x1, x2] = some [a0, a1, a2]) (hv : ∀ st, f_drawback_Total Try.prog t_drawback_Total d_drawback_Total NN (fun v g => cvt st g v) (nrm (.l 5) a0) (nrm (.l 3) a1) a2 [] = some v) : F_drawback_Total [x0, x1, x2] h = some (v, h) := by
  have e : ∀ st, (R_drawback_Total (nrms [.l 5, .l 3, .o] [a0, a1, a2]) []).bind (fun (p : AV × Hp) => cvt st p.2 p.1) = some v := fun st => (R_drawback_Total_eq (fun v g => cvt st g v) (nrm (.l 5) a0) (nrm (.l 3) a1) a2 []).trans (hv st)
  exact (closedX_ownB (shr := [.o, .o]) ha e).trans (congrArg (fun x => some (x, h)) (nrmR_rep 2 v))
/-! spile/drawback.Overdue -/
noncomputable def t_drawback_Overdue : Tab := (updF (updF T0 27 F_drawback_within) 29 F_drawback_carry)
theorem t_drawback_Overdue_ok : TSound Try.prog t_drawback_Overdue := (TSound.upd (TSound.upd TSound.zero F_drawback_within_ok) F_drawback_carry_ok)
@[simp] theorem t_drawback_Overdue_27 : t_drawback_Overdue 27 = some F_drawback_within := rfl
@[simp] theorem t_drawback_Overdue_29 : t_drawback_Overdue 29 = some F_drawback_carry := rfl
noncomputable def d_drawback_Overdue : DTab := D0
theorem d_drawback_Overdue_ok : DSound Try.prog d_drawback_Overdue := DSound.zero
noncomputable def R_drawback_Overdue : Fun := runF Try.prog t_drawback_Overdue d_drawback_Overdue NN [0, 1, 2, 3, 8, 9, 10, 13, 14, 16, 26, 30, 34, 35, 36, 37, 57] Try.f23 4
theorem R_drawback_Overdue_ok : CSound Try.prog 23 R_drawback_Overdue := run_sound t_drawback_Overdue_ok d_drawback_Overdue_ok mixed Try.func23 (by kernel_rfl) NN
theorem R_drawback_Overdue_eq {β : Type} (K : AV → Hp → Option β) (a0 : AV) (a1 : AV) (a2 : AV) (a3 : AV) (h : Hp) : (R_drawback_Overdue [a0, a1, a2, a3] h).bind (fun p => K p.1 p.2) = f_drawback_Overdue Try.prog t_drawback_Overdue d_drawback_Overdue NN K a0 a1 a2 a3 h := by
  rw [← f_drawback_Overdue_run]; exact runF_bind rfl
noncomputable def F_drawback_Overdue : Fun := closedX [.l 5, .l 3, .o, .o] [.l 1, .o] R_drawback_Overdue
theorem F_drawback_Overdue_ok : CSound Try.prog 23 F_drawback_Overdue := closedX_sound _ _ R_drawback_Overdue_ok
noncomputable def G_drawback_Overdue : DFun := closedXD [.l 5, .l 3, .o, .o] [.l 1, .o] R_drawback_Overdue
theorem G_drawback_Overdue_ro : Ro F_drawback_Overdue G_drawback_Overdue := closedX_ro _ _ _
theorem F_drawback_Overdue_run {a0 : AV} {a1 : AV} {a2 : AV} {a3 : AV} {v : AV} (ha : plains [a0, a1, a2, a3] = true) (hv : f_drawback_Overdue Try.prog t_drawback_Overdue d_drawback_Overdue NN (fun v g => cvt false g v) (nrm (.l 5) a0) (nrm (.l 3) a1) a2 a3 [] = some v) (h : Hp) : F_drawback_Overdue [a0, a1, a2, a3] h = some ((nrmR [.l 1, .o] v), h) := by
  have e : (R_drawback_Overdue (nrms [.l 5, .l 3, .o, .o] [a0, a1, a2, a3]) []).bind (fun (p : AV × Hp) => cvt false p.2 p.1) = some v := (R_drawback_Overdue_eq (fun v g => cvt false g v) (nrm (.l 5) a0) (nrm (.l 3) a1) a2 a3 []).trans hv
  exact (closedX_bind (shr := [.l 1, .o]) ha e h).trans (congrArg (fun x => some (x, h)) rfl)
theorem F_drawback_Overdue_own {a0 : AV} {a1 : AV} {a2 : AV} {a3 : AV} {x0 : AV} {x1 : AV} {x2 : AV} {x3 : AV} {h : Hp} {v : AV} (ha : cvts false h [x0, x1, x2, x3] = some [a0, a1, a2, a3]) (hv : ∀ st, f_drawback_Overdue Try.prog t_drawback_Overdue d_drawback_Overdue NN (fun v g => cvt st g v) (nrm (.l 5) a0) (nrm (.l 3) a1) a2 a3 [] = some v) : F_drawback_Overdue [x0, x1, x2, x3] h = some ((nrmR [.l 1, .o] v), h) := by
  have e : ∀ st, (R_drawback_Overdue (nrms [.l 5, .l 3, .o, .o] [a0, a1, a2, a3]) []).bind (fun (p : AV × Hp) => cvt st p.2 p.1) = some v := fun st => (R_drawback_Overdue_eq (fun v g => cvt st g v) (nrm (.l 5) a0) (nrm (.l 3) a1) a2 a3 []).trans (hv st)
  exact (closedX_ownB (shr := [.l 1, .o]) ha e).trans (congrArg (fun x => some (x, h)) rfl)
/-! spile/spilelaw48.awake -/
noncomputable def t_law48_awake : Tab := (updF (updF (updF (updF (updF (updF (updF (updF T0 12 F_drawback_Check) 13 F_slices_Clone_Paid) 15 F_drawback_Refund) 16 R_slices_Clone_Claim) 18 F_slices_Equal_int) 19 F_drawback_Left) 21 F_drawback_Total) 23 F_drawback_Overdue)
theorem t_law48_awake_ok : TSound Try.prog t_law48_awake := (TSound.upd (TSound.upd (TSound.upd (TSound.upd (TSound.upd (TSound.upd (TSound.upd (TSound.upd TSound.zero F_drawback_Check_ok) F_slices_Clone_Paid_ok) F_drawback_Refund_ok) R_slices_Clone_Claim_ok) F_slices_Equal_int_ok) F_drawback_Left_ok) F_drawback_Total_ok) F_drawback_Overdue_ok)
@[simp] theorem t_law48_awake_12 : t_law48_awake 12 = some F_drawback_Check := rfl
@[simp] theorem t_law48_awake_13 : t_law48_awake 13 = some F_slices_Clone_Paid := rfl
@[simp] theorem t_law48_awake_15 : t_law48_awake 15 = some F_drawback_Refund := rfl
@[simp] theorem t_law48_awake_16 : t_law48_awake 16 = some R_slices_Clone_Claim := rfl
@[simp] theorem t_law48_awake_18 : t_law48_awake 18 = some F_slices_Equal_int := rfl
@[simp] theorem t_law48_awake_19 : t_law48_awake 19 = some F_drawback_Left := rfl
@[simp] theorem t_law48_awake_21 : t_law48_awake 21 = some F_drawback_Total := rfl
@[simp] theorem t_law48_awake_23 : t_law48_awake 23 = some F_drawback_Overdue := rfl
noncomputable def d_law48_awake : DTab := D0
theorem d_law48_awake_ok : DSound Try.prog d_law48_awake := DSound.zero
noncomputable def R_law48_awake : Fun := runF Try.prog t_law48_awake d_law48_awake NN [0, 1, 2, 3, 4, 5, 6, 7, 8, 9, 10, 11, 12, 13, 15, 16, 17, 18] Try.f10 0
theorem R_law48_awake_ok : CSound Try.prog 10 R_law48_awake := run_sound t_law48_awake_ok d_law48_awake_ok mixed Try.func10 (by kernel_rfl) NN
theorem R_law48_awake_eq {β : Type} (K : AV → Hp → Option β) (h : Hp) : (R_law48_awake [] h).bind (fun p => K p.1 p.2) = f_law48_awake Try.prog t_law48_awake d_law48_awake NN K  h := by
  rw [← f_law48_awake_run]; exact runF_bind rfl
noncomputable def F_law48_awake : Fun := closedX [] [.o] R_law48_awake
theorem F_law48_awake_ok : CSound Try.prog 10 F_law48_awake := closedX_sound _ _ R_law48_awake_ok
noncomputable def G_law48_awake : DFun := closedXD [] [.o] R_law48_awake
theorem G_law48_awake_ro : Ro F_law48_awake G_law48_awake := closedX_ro _ _ _
theorem F_law48_awake_run {v : AV} (ha : plains [] = true) (hv : f_law48_awake Try.prog t_law48_awake d_law48_awake NN (fun v g => cvt false g v)  [] = some v) (h : Hp) : F_law48_awake [] h = some (v, h) := by
  have e : (R_law48_awake (nrms [] []) []).bind (fun (p : AV × Hp) => cvt false p.2 p.1) = some v := (R_law48_awake_eq (fun v g => cvt false g v)  []).trans hv
  exact (closedX_bind (shr := [.o]) ha e h).trans (congrArg (fun x => some (x, h)) (nrmR_rep 1 v))
/-! spile/spileref48.Few -/
noncomputable def t_ref48_Few : Tab := T0
theorem t_ref48_Few_ok : TSound Try.prog t_ref48_Few := TSound.zero
noncomputable def d_ref48_Few : DTab := D0
theorem d_ref48_Few_ok : DSound Try.prog d_ref48_Few := DSound.zero
noncomputable def R_ref48_Few : Fun := runF Try.prog t_ref48_Few d_ref48_Few NN [0, 1, 4] Try.f11 2
theorem R_ref48_Few_ok : CSound Try.prog 11 R_ref48_Few := run_sound t_ref48_Few_ok d_ref48_Few_ok mixed Try.func11 (by kernel_rfl) NN
theorem R_ref48_Few_eq {β : Type} (K : AV → Hp → Option β) (a0 : AV) (a1 : AV) (h : Hp) : (R_ref48_Few [a0, a1] h).bind (fun p => K p.1 p.2) = f_ref48_Few Try.prog t_ref48_Few d_ref48_Few NN K a0 a1 h := by
  rw [← f_ref48_Few_run]; exact runF_bind rfl
noncomputable def F_ref48_Few : Fun := closedX [.l 5, .l 3] [.o] R_ref48_Few
theorem F_ref48_Few_ok : CSound Try.prog 11 F_ref48_Few := closedX_sound _ _ R_ref48_Few_ok
noncomputable def G_ref48_Few : DFun := closedXD [.l 5, .l 3] [.o] R_ref48_Few
theorem G_ref48_Few_ro : Ro F_ref48_Few G_ref48_Few := closedX_ro _ _ _
theorem F_ref48_Few_run {a0 : AV} {a1 : AV} {v : AV} (ha : plains [a0, a1] = true) (hv : f_ref48_Few Try.prog t_ref48_Few d_ref48_Few NN (fun v g => cvt false g v) (nrm (.l 5) a0) (nrm (.l 3) a1) [] = some v) (h : Hp) : F_ref48_Few [a0, a1] h = some (v, h) := by
  have e : (R_ref48_Few (nrms [.l 5, .l 3] [a0, a1]) []).bind (fun (p : AV × Hp) => cvt false p.2 p.1) = some v := (R_ref48_Few_eq (fun v g => cvt false g v) (nrm (.l 5) a0) (nrm (.l 3) a1) []).trans hv
  exact (closedX_bind (shr := [.o]) ha e h).trans (congrArg (fun x => some (x, h)) (nrmR_rep 1 v))
theorem F_ref48_Few_own {a0 : AV} {a1 : AV} {x0 : AV} {x1 : AV} {h : Hp} {v : AV} (ha : cvts false h [x0, x1] = some [a0, a1]) (hv : ∀ st, f_ref48_Few Try.prog t_ref48_Few d_ref48_Few NN (fun v g => cvt st g v) (nrm (.l 5) a0) (nrm (.l 3) a1) [] = some v) : F_ref48_Few [x0, x1] h = some (v, h) := by
  have e : ∀ st, (R_ref48_Few (nrms [.l 5, .l 3] [a0, a1]) []).bind (fun (p : AV × Hp) => cvt st p.2 p.1) = some v := fun st => (R_ref48_Few_eq (fun v g => cvt st g v) (nrm (.l 5) a0) (nrm (.l 3) a1) []).trans (hv st)
  exact (closedX_ownB (shr := [.o]) ha e).trans (congrArg (fun x => some (x, h)) (nrmR_rep 1 v))
/-! spile/spileref47.Between -/
noncomputable def t_ref47_Between : Tab := T0
theorem t_ref47_Between_ok : TSound Try.prog t_ref47_Between := TSound.zero
noncomputable def d_ref47_Between : DTab := D0
theorem d_ref47_Between_ok : DSound Try.prog d_ref47_Between := DSound.zero
noncomputable def R_ref47_Between : Fun := runF Try.prog t_ref47_Between d_ref47_Between NN [0, 1, 2, 6] Try.f38 3
theorem R_ref47_Between_ok : CSound Try.prog 38 R_ref47_Between := run_sound t_ref47_Between_ok d_ref47_Between_ok mixed Try.func38 (by kernel_rfl) NN
theorem R_ref47_Between_eq {β : Type} (K : AV → Hp → Option β) (a0 : AV) (a1 : AV) (a2 : AV) (h : Hp) : (R_ref47_Between [a0, a1, a2] h).bind (fun p => K p.1 p.2) = f_ref47_Between Try.prog t_ref47_Between d_ref47_Between NN K a0 a1 a2 h := by
  rw [← f_ref47_Between_run]; exact runF_bind rfl
noncomputable def F_ref47_Between : Fun := closedX [.o, .o, .o] [.o] R_ref47_Between
theorem F_ref47_Between_ok : CSound Try.prog 38 F_ref47_Between := closedX_sound _ _ R_ref47_Between_ok
noncomputable def G_ref47_Between : DFun := closedXD [.o, .o, .o] [.o] R_ref47_Between
theorem G_ref47_Between_ro : Ro F_ref47_Between G_ref47_Between := closedX_ro _ _ _
theorem F_ref47_Between_run {a0 : AV} {a1 : AV} {a2 : AV} {v : AV} (ha : plains [a0, a1, a2] = true) (hv : f_ref47_Between Try.prog t_ref47_Between d_ref47_Between NN (fun v g => cvt false g v) a0 a1 a2 [] = some v) (h : Hp) : F_ref47_Between [a0, a1, a2] h = some (v, h) := by
  have e : (R_ref47_Between (nrms [.o, .o, .o] [a0, a1, a2]) []).bind (fun (p : AV × Hp) => cvt false p.2 p.1) = some v := (R_ref47_Between_eq (fun v g => cvt false g v) a0 a1 a2 []).trans hv
  exact (closedX_bind (shr := [.o]) ha e h).trans (congrArg (fun x => some (x, h)) (nrmR_rep 1 v))
theorem F_ref47_Between_own {a0 : AV} {a1 : AV} {a2 : AV} {x0 : AV} {x1 : AV} {x2 : AV} {h : Hp} {v : AV} (ha : cvts false h [x0, x1, x2] = some [a0, a1, a2]) (hv : ∀ st, f_ref47_Between Try.prog t_ref47_Between d_ref47_Between NN (fun v g => cvt st g v) a0 a1 a2 [] = some v) : F_ref47_Between [x0, x1, x2] h = some (v, h) := by
  have e : ∀ st, (R_ref47_Between (nrms [.o, .o, .o] [a0, a1, a2]) []).bind (fun (p : AV × Hp) => cvt st p.2 p.1) = some v := fun st => (R_ref47_Between_eq (fun v g => cvt st g v) a0 a1 a2 []).trans (hv st)
  exact (closedX_ownB (shr := [.o]) ha e).trans (congrArg (fun x => some (x, h)) (nrmR_rep 1 v))
/-! spile/spileref48.between -/
noncomputable def t_ref48_between : Tab := (updF T0 38 F_ref47_Between)
theorem t_ref48_between_ok : TSound Try.prog t_ref48_between := (TSound.upd TSound.zero F_ref47_Between_ok)
@[simp] theorem t_ref48_between_38 : t_ref48_between 38 = some F_ref47_Between := rfl
noncomputable def d_ref48_between : DTab := D0
theorem d_ref48_between_ok : DSound Try.prog d_ref48_between := DSound.zero
noncomputable def R_ref48_between : Fun := runF Try.prog t_ref48_between d_ref48_between NN [0, 1, 2, 6] Try.f28 3
theorem R_ref48_between_ok : CSound Try.prog 28 R_ref48_between := run_sound t_ref48_between_ok d_ref48_between_ok mixed Try.func28 (by kernel_rfl) NN
theorem R_ref48_between_eq {β : Type} (K : AV → Hp → Option β) (a0 : AV) (a1 : AV) (a2 : AV) (h : Hp) : (R_ref48_between [a0, a1, a2] h).bind (fun p => K p.1 p.2) = f_ref48_between Try.prog t_ref48_between d_ref48_between NN K a0 a1 a2 h := by
  rw [← f_ref48_between_run]; exact runF_bind rfl
noncomputable def F_ref48_between : Fun := closedX [.o, .o, .o] [.o] R_ref48_between
theorem F_ref48_between_ok : CSound Try.prog 28 F_ref48_between := closedX_sound _ _ R_ref48_between_ok
noncomputable def G_ref48_between : DFun := closedXD [.o, .o, .o] [.o] R_ref48_between
theorem G_ref48_between_ro : Ro F_ref48_between G_ref48_between := closedX_ro _ _ _
theorem F_ref48_between_run {a0 : AV} {a1 : AV} {a2 : AV} {v : AV} (ha : plains [a0, a1, a2] = true) (hv : f_ref48_between Try.prog t_ref48_between d_ref48_between NN (fun v g => cvt false g v) a0 a1 a2 [] = some v) (h : Hp) : F_ref48_between [a0, a1, a2] h = some (v, h) := by
  have e : (R_ref48_between (nrms [.o, .o, .o] [a0, a1, a2]) []).bind (fun (p : AV × Hp) => cvt false p.2 p.1) = some v := (R_ref48_between_eq (fun v g => cvt false g v) a0 a1 a2 []).trans hv
  exact (closedX_bind (shr := [.o]) ha e h).trans (congrArg (fun x => some (x, h)) (nrmR_rep 1 v))
theorem F_ref48_between_own {a0 : AV} {a1 : AV} {a2 : AV} {x0 : AV} {x1 : AV} {x2 : AV} {h : Hp} {v : AV} (ha : cvts false h [x0, x1, x2] = some [a0, a1, a2]) (hv : ∀ st, f_ref48_between Try.prog t_ref48_between d_ref48_between NN (fun v g => cvt st g v) a0 a1 a2 [] = some v) : F_ref48_between [x0, x1, x2] h = some (v, h) := by
  have e : ∀ st, (R_ref48_between (nrms [.o, .o, .o] [a0, a1, a2]) []).bind (fun (p : AV × Hp) => cvt st p.2 p.1) = some v := fun st => (R_ref48_between_eq (fun v g => cvt st g v) a0 a1 a2 []).trans (hv st)
  exact (closedX_ownB (shr := [.o]) ha e).trans (congrArg (fun x => some (x, h)) (nrmR_rep 1 v))
/-! spile/spileref48.Check -/
noncomputable def t_ref48_Check : Tab := (updF T0 28 F_ref48_between)
theorem t_ref48_Check_ok : TSound Try.prog t_ref48_Check := (TSound.upd TSound.zero F_ref48_between_ok)
@[simp] theorem t_ref48_Check_28 : t_ref48_Check 28 = some F_ref48_between := rfl
noncomputable def d_ref48_Check : DTab := D0
theorem d_ref48_Check_ok : DSound Try.prog d_ref48_Check := DSound.zero
noncomputable def R_ref48_Check : Fun := runF Try.prog t_ref48_Check d_ref48_Check NN [0, 2, 3, 4, 5, 8, 12, 46, 60] Try.f14 1
theorem R_ref48_Check_ok : CSound Try.prog 14 R_ref48_Check := run_sound t_ref48_Check_ok d_ref48_Check_ok mixed Try.func14 (by kernel_rfl) NN
theorem R_ref48_Check_eq {β : Type} (K : AV → Hp → Option β) (a0 : AV) (h : Hp) : (R_ref48_Check [a0] h).bind (fun p => K p.1 p.2) = f_ref48_Check Try.prog t_ref48_Check d_ref48_Check NN K a0 h := by
  rw [← f_ref48_Check_run]; exact runF_bind rfl
noncomputable def F_ref48_Check : Fun := closedX [.l 5] [.o, .o] R_ref48_Check
theorem F_ref48_Check_ok : CSound Try.prog 14 F_ref48_Check := closedX_sound _ _ R_ref48_Check_ok
noncomputable def G_ref48_Check : DFun := closedXD [.l 5] [.o, .o] R_ref48_Check
theorem G_ref48_Check_ro : Ro F_ref48_Check G_ref48_Check := closedX_ro _ _ _
theorem F_ref48_Check_run {a0 : AV} {v : AV} (ha : plains [a0] = true) (hv : f_ref48_Check Try.prog t_ref48_Check d_ref48_Check NN (fun v g => cvt false g v) (nrm (.l 5) a0) [] = some v) (h : Hp) : F_ref48_Check [a0] h = some (v, h) := by
  have e : (R_ref48_Check (nrms [.l 5] [a0]) []).bind (fun (p : AV × Hp) => cvt false p.2 p.1) = some v := (R_ref48_Check_eq (fun v g => cvt false g v) (nrm (.l 5) a0) []).trans hv
  exact (closedX_bind (shr := [.o, .o]) ha e h).trans (congrArg (fun x => some (x, h)) (nrmR_rep 2 v))
theorem F_ref48_Check_own {a0 : AV} {x0 : AV} {h : Hp} {v : AV} (ha : cvts false h [x0] = some [a0]) (hv : ∀ st, f_ref48_Check Try.prog t_ref48_Check d_ref48_Check NN (fun v g => cvt st g v) (nrm (.l 5) a0) [] = some v) : F_ref48_Check [x0] h = some (v, h) := by
  have e : ∀ st, (R_ref48_Check (nrms [.l 5] [a0]) []).bind (fun (p : AV × Hp) => cvt st p.2 p.1) = some v := fun st => (R_ref48_Check_eq (fun v g => cvt st g v) (nrm (.l 5) a0) []).trans (hv st)
  exact (closedX_ownB (shr := [.o, .o]) ha e).trans (congrArg (fun x => some (x, h)) (nrmR_rep 2 v))
/-! spile/spileref48.find -/
noncomputable def t_ref48_find : Tab := T0
theorem t_ref48_find_ok : TSound Try.prog t_ref48_find := TSound.zero
noncomputable def d_ref48_find : DTab := D0
theorem d_ref48_find_ok : DSound Try.prog d_ref48_find := DSound.zero
noncomputable def R_ref48_find : Fun := runF Try.prog t_ref48_find d_ref48_find NN [0, 1, 4, 5, 9, 18] Try.f31 2
theorem R_ref48_find_ok : CSound Try.prog 31 R_ref48_find := run_sound t_ref48_find_ok d_ref48_find_ok mixed Try.func31 (by kernel_rfl) NN
theorem R_ref48_find_eq {β : Type} (K : AV → Hp → Option β) (a0 : AV) (a1 : AV) (h : Hp) : (R_ref48_find [a0, a1] h).bind (fun p => K p.1 p.2) = f_ref48_find Try.prog t_ref48_find d_ref48_find NN K a0 a1 h := by
  rw [← f_ref48_find_run]; exact runF_bind rfl
noncomputable def F_ref48_find : Fun := closedX [.l 5, .o] [.o] R_ref48_find
theorem F_ref48_find_ok : CSound Try.prog 31 F_ref48_find := closedX_sound _ _ R_ref48_find_ok
noncomputable def G_ref48_find : DFun := closedXD [.l 5, .o] [.o] R_ref48_find
theorem G_ref48_find_ro : Ro F_ref48_find G_ref48_find := closedX_ro _ _ _
theorem F_ref48_find_run {a0 : AV} {a1 : AV} {v : AV} (ha : plains [a0, a1] = true) (hv : f_ref48_find Try.prog t_ref48_find d_ref48_find NN (fun v g => cvt false g v) (nrm (.l 5) a0) a1 [] = some v) (h : Hp) : F_ref48_find [a0, a1] h = some (v, h) := by
  have e : (R_ref48_find (nrms [.l 5, .o] [a0, a1]) []).bind (fun (p : AV × Hp) => cvt false p.2 p.1) = some v := (R_ref48_find_eq (fun v g => cvt false g v) (nrm (.l 5) a0) a1 []).trans hv
  exact (closedX_bind (shr := [.o]) ha e h).trans (congrArg (fun x => some (x, h)) (nrmR_rep 1 v))
theorem F_ref48_find_own {a0 : AV} {a1 : AV} {x0 : AV} {x1 : AV} {h : Hp} {v : AV} (ha : cvts false h [x0, x1] = some [a0, a1]) (hv : ∀ st, f_ref48_find Try.prog t_ref48_find d_ref48_find NN (fun v g => cvt st g v) (nrm (.l 5) a0) a1 [] = some v) : F_ref48_find [x0, x1] h = some (v, h) := by
  have e : ∀ st, (R_ref48_find (nrms [.l 5, .o] [a0, a1]) []).bind (fun (p : AV × Hp) => cvt st p.2 p.1) = some v := fun st => (R_ref48_find_eq (fun v g => cvt st g v) (nrm (.l 5) a0) a1 []).trans (hv st)
  exact (closedX_ownB (shr := [.o]) ha e).trans (congrArg (fun x => some (x, h)) (nrmR_rep 1 v))
/-! spile/spileref48.claimed -/
noncomputable def t_ref48_claimed : Tab := T0
theorem t_ref48_claimed_ok : TSound Try.prog t_ref48_claimed := TSound.zero
noncomputable def d_ref48_claimed : DTab := D0
theorem d_ref48_claimed_ok : DSound Try.prog d_ref48_claimed := DSound.zero
noncomputable def R_ref48_claimed : Fun := runF Try.prog t_ref48_claimed d_ref48_claimed NN [0, 1, 4, 5, 6, 10, 19] Try.f32 2
theorem R_ref48_claimed_ok : CSound Try.prog 32 R_ref48_claimed := run_sound t_ref48_claimed_ok d_ref48_claimed_ok mixed Try.func32 (by kernel_rfl) NN
theorem R_ref48_claimed_eq {β : Type} (K : AV → Hp → Option β) (a0 : AV) (a1 : AV) (h : Hp) : (R_ref48_claimed [a0, a1] h).bind (fun p => K p.1 p.2) = f_ref48_claimed Try.prog t_ref48_claimed d_ref48_claimed NN K a0 a1 h := by
  rw [← f_ref48_claimed_run]; exact runF_bind rfl
noncomputable def F_ref48_claimed : Fun := closedX [.l 3, .o] [.o] R_ref48_claimed
theorem F_ref48_claimed_ok : CSound Try.prog 32 F_ref48_claimed := closedX_sound _ _ R_ref48_claimed_ok
noncomputable def G_ref48_claimed : DFun := closedXD [.l 3, .o] [.o] R_ref48_claimed
theorem G_ref48_claimed_ro : Ro F_ref48_claimed G_ref48_claimed := closedX_ro _ _ _
theorem F_ref48_claimed_run {a0 : AV} {a1 : AV} {v : AV} (ha : plains [a0, a1] = true) (hv : f_ref48_claimed Try.prog t_ref48_claimed d_ref48_claimed NN (fun v g => cvt false g v) (nrm (.l 3) a0) a1 [] = some v) (h : Hp) : F_ref48_claimed [a0, a1] h = some (v, h) := by
  have e : (R_ref48_claimed (nrms [.l 3, .o] [a0, a1]) []).bind (fun (p : AV × Hp) => cvt false p.2 p.1) = some v := (R_ref48_claimed_eq (fun v g => cvt false g v) (nrm (.l 3) a0) a1 []).trans hv
  exact (closedX_bind (shr := [.o]) ha e h).trans (congrArg (fun x => some (x, h)) (nrmR_rep 1 v))
theorem F_ref48_claimed_own {a0 : AV} {a1 : AV} {x0 : AV} {x1 : AV} {h : Hp} {v : AV} (ha : cvts false h [x0, x1] = some [a0, a1]) (hv : ∀ st, f_ref48_claimed Try.prog t_ref48_claimed d_ref48_claimed NN (fun v g => cvt st g v) (nrm (.l 3) a0) a1 [] = some v) : F_ref48_claimed [x0, x1] h = some (v, h) := by
  have e : ∀ st, (R_ref48_claimed (nrms [.l 3, .o] [a0, a1]) []).bind (fun (p : AV × Hp) => cvt st p.2 p.1) = some v := fun st => (R_ref48_claimed_eq (fun v g => cvt st g v) (nrm (.l 3) a0) a1 []).trans (hv st)
  exact (closedX_ownB (shr := [.o]) ha e).trans (congrArg (fun x => some (x, h)) (nrmR_rep 1 v))
/-! spile/spileref48.refused -/
noncomputable def t_ref48_refused : Tab := (updF (updF (updF T0 28 F_ref48_between) 31 F_ref48_find) 32 F_ref48_claimed)
theorem t_ref48_refused_ok : TSound Try.prog t_ref48_refused := (TSound.upd (TSound.upd (TSound.upd TSound.zero F_ref48_between_ok) F_ref48_find_ok) F_ref48_claimed_ok)
@[simp] theorem t_ref48_refused_28 : t_ref48_refused 28 = some F_ref48_between := rfl
@[simp] theorem t_ref48_refused_31 : t_ref48_refused 31 = some F_ref48_find := rfl
@[simp] theorem t_ref48_refused_32 : t_ref48_refused 32 = some F_ref48_claimed := rfl
noncomputable def d_ref48_refused : DTab := (updD D0 32 G_ref48_claimed)
theorem d_ref48_refused_ok : DSound Try.prog d_ref48_refused := (DSound.ro DSound.zero G_ref48_claimed_ro F_ref48_claimed_ok)
@[simp] theorem d_ref48_refused_32 : d_ref48_refused 32 = some G_ref48_claimed := rfl
noncomputable def R_ref48_refused : Fun := runF Try.prog t_ref48_refused d_ref48_refused NN [0, 1, 2, 3, 6, 8, 9, 25, 40, 45, 48, 57, 68] Try.f30 4
theorem R_ref48_refused_ok : CSound Try.prog 30 R_ref48_refused := run_sound t_ref48_refused_ok d_ref48_refused_ok mixed Try.func30 (by kernel_rfl) NN
theorem R_ref48_refused_eq {β : Type} (K : AV → Hp → Option β) (a0 : AV) (a1 : AV) (a2 : AV) (a3 : AV) (h : Hp) : (R_ref48_refused [a0, a1, a2, a3] h).bind (fun p => K p.1 p.2) = f_ref48_refused Try.prog t_ref48_refused d_ref48_refused NN K a0 a1 a2 a3 h := by
  rw [← f_ref48_refused_run]; exact runF_bind rfl
noncomputable def F_ref48_refused : Fun := closedX [.l 5, .l 3, .o, .o] [.o] R_ref48_refused
theorem F_ref48_refused_ok : CSound Try.prog 30 F_ref48_refused := closedX_sound _ _ R_ref48_refused_ok
noncomputable def G_ref48_refused : DFun := closedXD [.l 5, .l 3, .o, .o] [.o] R_ref48_refused
theorem G_ref48_refused_ro : Ro F_ref48_refused G_ref48_refused := closedX_ro _ _ _
theorem F_ref48_refused_run {a0 : AV} {a1 : AV} {a2 : AV} {a3 : AV} {v : AV} (ha : plains [a0, a1, a2, a3] = true) (hv : f_ref48_refused Try.prog t_ref48_refused d_ref48_refused NN (fun v g => cvt false g v) (nrm (.l 5) a0) (nrm (.l 3) a1) a2 a3 [] = some v) (h : Hp) : F_ref48_refused [a0, a1, a2, a3] h = some (v, h) := by
  have e : (R_ref48_refused (nrms [.l 5, .l 3, .o, .o] [a0, a1, a2, a3]) []).bind (fun (p : AV × Hp) => cvt false p.2 p.1) = some v := (R_ref48_refused_eq (fun v g => cvt false g v) (nrm (.l 5) a0) (nrm (.l 3) a1) a2 a3 []).trans hv
  exact (closedX_bind (shr := [.o]) ha e h).trans (congrArg (fun x => some (x, h)) (nrmR_rep 1 v))
theorem F_ref48_refused_own {a0 : AV} {a1 : AV} {a2 : AV} {a3 : AV} {x0 : AV} {x1 : AV} {x2 : AV} {x3 : AV} {h : Hp} {v : AV} (ha : cvts false h [x0, x1, x2, x3] = some [a0, a1, a2, a3]) (hv : ∀ st, f_ref48_refused Try.prog t_ref48_refused d_ref48_refused NN (fun v g => cvt st g v) (nrm (.l 5) a0) (nrm (.l 3) a1) a2 a3 [] = some v) : F_ref48_refused [x0, x1, x2, x3] h = some (v, h) := by
  have e : ∀ st, (R_ref48_refused (nrms [.l 5, .l 3, .o, .o] [a0, a1, a2, a3]) []).bind (fun (p : AV × Hp) => cvt st p.2 p.1) = some v := fun st => (R_ref48_refused_eq (fun v g => cvt st g v) (nrm (.l 5) a0) (nrm (.l 3) a1) a2 a3 []).trans (hv st)
  exact (closedX_ownB (shr := [.o]) ha e).trans (congrArg (fun x => some (x, h)) (nrmR_rep 1 v))
/-! spile/spileref01.Product -/
noncomputable def t_ref01_Product : Tab := T0
theorem t_ref01_Product_ok : TSound Try.prog t_ref01_Product := TSound.zero
noncomputable def d_ref01_Product : DTab := D0
theorem d_ref01_Product_ok : DSound Try.prog d_ref01_Product := DSound.zero
noncomputable def R_ref01_Product : Fun := runF Try.prog t_ref01_Product d_ref01_Product NN [0, 1, 4, 5, 6, 7, 8, 9] Try.f56 2
theorem R_ref01_Product_ok : CSound Try.prog 56 R_ref01_Product := run_sound t_ref01_Product_ok d_ref01_Product_ok mixed Try.func56 (by kernel_rfl) NN
theorem R_ref01_Product_eq {β : Type} (K : AV → Hp → Option β) (a0 : AV) (a1 : AV) (h : Hp) : (R_ref01_Product [a0, a1] h).bind (fun p => K p.1 p.2) = f_ref01_Product Try.prog t_ref01_Product d_ref01_Product NN K a0 a1 h := by
  rw [← f_ref01_Product_run]; exact runF_bind rfl
noncomputable def F_ref01_Product : Fun := closedX [.o, .o] [.o] R_ref01_Product
theorem F_ref01_Product_ok : CSound Try.prog 56 F_ref01_Product := closedX_sound _ _ R_ref01_Product_ok
noncomputable def G_ref01_Product : DFun := closedXD [.o, .o] [.o] R_ref01_Product
theorem G_ref01_Product_ro : Ro F_ref01_Product G_ref01_Product := closedX_ro _ _ _
theorem F_ref01_Product_run {a0 : AV} {a1 : AV} {v : AV} (ha : plains [a0, a1] = true) (hv : f_ref01_Product Try.prog t_ref01_Product d_ref01_Product NN (fun v g => cvt false g v) a0 a1 [] = some v) (h : Hp) : F_ref01_Product [a0, a1] h = some (v, h) := by
  have e : (R_ref01_Product (nrms [.o, .o] [a0, a1]) []).bind (fun (p : AV × Hp) => cvt false p.2 p.1) = some v := (R_ref01_Product_eq (fun v g => cvt false g v) a0 a1 []).trans hv
  exact (closedX_bind (shr := [.o]) ha e h).trans (congrArg (fun x => some (x, h)) (nrmR_rep 1 v))
theorem F_ref01_Product_own {a0 : AV} {a1 : AV} {x0 : AV} {x1 : AV} {h : Hp} {v : AV} (ha : cvts false h [x0, x1] = some [a0, a1]) (hv : ∀ st, f_ref01_Product Try.prog t_ref01_Product d_ref01_Product NN (fun v g => cvt st g v) a0 a1 [] = some v) : F_ref01_Product [x0, x1] h = some (v, h) := by
  have e : ∀ st, (R_ref01_Product (nrms [.o, .o] [a0, a1]) []).bind (fun (p : AV × Hp) => cvt st p.2 p.1) = some v := fun st => (R_ref01_Product_eq (fun v g => cvt st g v) a0 a1 []).trans (hv st)
  exact (closedX_ownB (shr := [.o]) ha e).trans (congrArg (fun x => some (x, h)) (nrmR_rep 1 v))
/-! spile/spileref01.Less -/
noncomputable def t_ref01_Less : Tab := T0
theorem t_ref01_Less_ok : TSound Try.prog t_ref01_Less := TSound.zero
noncomputable def d_ref01_Less : DTab := D0
theorem d_ref01_Less_ok : DSound Try.prog d_ref01_Less := DSound.zero
noncomputable def R_ref01_Less : Fun := runF Try.prog t_ref01_Less d_ref01_Less NN [0, 1, 2, 3, 4] Try.f57 2
theorem R_ref01_Less_ok : CSound Try.prog 57 R_ref01_Less := run_sound t_ref01_Less_ok d_ref01_Less_ok mixed Try.func57 (by kernel_rfl) NN
theorem R_ref01_Less_eq {β : Type} (K : AV → Hp → Option β) (a0 : AV) (a1 : AV) (h : Hp) : (R_ref01_Less [a0, a1] h).bind (fun p => K p.1 p.2) = f_ref01_Less Try.prog t_ref01_Less d_ref01_Less NN K a0 a1 h := by
  rw [← f_ref01_Less_run]; exact runF_bind rfl
noncomputable def F_ref01_Less : Fun := closedX [.o, .o] [.o] R_ref01_Less
theorem F_ref01_Less_ok : CSound Try.prog 57 F_ref01_Less := closedX_sound _ _ R_ref01_Less_ok
noncomputable def G_ref01_Less : DFun := closedXD [.o, .o] [.o] R_ref01_Less
theorem G_ref01_Less_ro : Ro F_ref01_Less G_ref01_Less := closedX_ro _ _ _
theorem F_ref01_Less_run {a0 : AV} {a1 : AV} {v : AV} (ha : plains [a0, a1] = true) (hv : f_ref01_Less Try.prog t_ref01_Less d_ref01_Less NN (fun v g => cvt false g v) a0 a1 [] = some v) (h : Hp) : F_ref01_Less [a0, a1] h = some (v, h) := by
  have e : (R_ref01_Less (nrms [.o, .o] [a0, a1]) []).bind (fun (p : AV × Hp) => cvt false p.2 p.1) = some v := (R_ref01_Less_eq (fun v g => cvt false g v) a0 a1 []).trans hv
  exact (closedX_bind (shr := [.o]) ha e h).trans (congrArg (fun x => some (x, h)) (nrmR_rep 1 v))
theorem F_ref01_Less_own {a0 : AV} {a1 : AV} {x0 : AV} {x1 : AV} {h : Hp} {v : AV} (ha : cvts false h [x0, x1] = some [a0, a1]) (hv : ∀ st, f_ref01_Less Try.prog t_ref01_Less d_ref01_Less NN (fun v g => cvt st g v) a0 a1 [] = some v) : F_ref01_Less [x0, x1] h = some (v, h) := by
  have e : ∀ st, (R_ref01_Less (nrms [.o, .o] [a0, a1]) []).bind (fun (p : AV × Hp) => cvt st p.2 p.1) = some v := fun st => (R_ref01_Less_eq (fun v g => cvt st g v) a0 a1 []).trans (hv st)
  exact (closedX_ownB (shr := [.o]) ha e).trans (congrArg (fun x => some (x, h)) (nrmR_rep 1 v))
/-! spile/spileref01.minus -/
noncomputable def t_ref01_minus : Tab := T0
theorem t_ref01_minus_ok : TSound Try.prog t_ref01_minus := TSound.zero
noncomputable def d_ref01_minus : DTab := D0
theorem d_ref01_minus_ok : DSound Try.prog d_ref01_minus := DSound.zero
noncomputable def R_ref01_minus : Fun := runF Try.prog t_ref01_minus d_ref01_minus NN [0, 1, 2, 3, 4, 9] Try.f58 2
theorem R_ref01_minus_ok : CSound Try.prog 58 R_ref01_minus := run_sound t_ref01_minus_ok d_ref01_minus_ok mixed Try.func58 (by kernel_rfl) NN
theorem R_ref01_minus_eq {β : Type} (K : AV → Hp → Option β) (a0 : AV) (a1 : AV) (h : Hp) : (R_ref01_minus [a0, a1] h).bind (fun p => K p.1 p.2) = f_ref01_minus Try.prog t_ref01_minus d_ref01_minus NN K a0 a1 h := by
  rw [← f_ref01_minus_run]; exact runF_bind rfl
noncomputable def F_ref01_minus : Fun := closedX [.o, .o] [.o] R_ref01_minus
theorem F_ref01_minus_ok : CSound Try.prog 58 F_ref01_minus := closedX_sound _ _ R_ref01_minus_ok
noncomputable def G_ref01_minus : DFun := closedXD [.o, .o] [.o] R_ref01_minus
theorem G_ref01_minus_ro : Ro F_ref01_minus G_ref01_minus := closedX_ro _ _ _
theorem F_ref01_minus_run {a0 : AV} {a1 : AV} {v : AV} (ha : plains [a0, a1] = true) (hv : f_ref01_minus Try.prog t_ref01_minus d_ref01_minus NN (fun v g => cvt false g v) a0 a1 [] = some v) (h : Hp) : F_ref01_minus [a0, a1] h = some (v, h) := by
  have e : (R_ref01_minus (nrms [.o, .o] [a0, a1]) []).bind (fun (p : AV × Hp) => cvt false p.2 p.1) = some v := (R_ref01_minus_eq (fun v g => cvt false g v) a0 a1 []).trans hv
  exact (closedX_bind (shr := [.o]) ha e h).trans (congrArg (fun x => some (x, h)) (nrmR_rep 1 v))
theorem F_ref01_minus_own {a0 : AV} {a1 : AV} {x0 : AV} {x1 : AV} {h : Hp} {v : AV} (ha : cvts false h [x0, x1] = some [a0, a1]) (hv : ∀ st, f_ref01_minus Try.prog t_ref01_minus d_ref01_minus NN (fun v g => cvt st g v) a0 a1 [] = some v) : F_ref01_minus [x0, x1] h = some (v, h) := by
  have e : ∀ st, (R_ref01_minus (nrms [.o, .o] [a0, a1]) []).bind (fun (p : AV × Hp) => cvt st p.2 p.1) = some v := fun st => (R_ref01_minus_eq (fun v g => cvt st g v) a0 a1 []).trans (hv st)
  exact (closedX_ownB (shr := [.o]) ha e).trans (congrArg (fun x => some (x, h)) (nrmR_rep 1 v))
/-! spile/spileref01.Of -/
noncomputable def t_ref01_Of : Tab := (updF (updF (updF T0 56 F_ref01_Product) 57 F_ref01_Less) 58 F_ref01_minus)
theorem t_ref01_Of_ok : TSound Try.prog t_ref01_Of := (TSound.upd (TSound.upd (TSound.upd TSound.zero F_ref01_Product_ok) F_ref01_Less_ok) F_ref01_minus_ok)
@[simp] theorem t_ref01_Of_56 : t_ref01_Of 56 = some F_ref01_Product := rfl
@[simp] theorem t_ref01_Of_57 : t_ref01_Of 57 = some F_ref01_Less := rfl
@[simp] theorem t_ref01_Of_58 : t_ref01_Of 58 = some F_ref01_minus := rfl
noncomputable def d_ref01_Of : DTab := (updD (updD (updD D0 56 G_ref01_Product) 57 G_ref01_Less) 58 G_ref01_minus)
theorem d_ref01_Of_ok : DSound Try.prog d_ref01_Of := (DSound.ro (DSound.ro (DSound.ro DSound.zero G_ref01_Product_ro F_ref01_Product_ok) G_ref01_Less_ro F_ref01_Less_ok) G_ref01_minus_ro F_ref01_minus_ok)
@[simp] theorem d_ref01_Of_56 : d_ref01_Of 56 = some G_ref01_Product := rfl
@[simp] theorem d_ref01_Of_57 : d_ref01_Of 57 = some G_ref01_Less := rfl
@[simp] theorem d_ref01_Of_58 : d_ref01_Of 58 = some G_ref01_minus := rfl
noncomputable def R_ref01_Of : Fun := runF Try.prog t_ref01_Of d_ref01_Of NN [0, 1, 2, 3, 8, 9, 10, 11, 12, 13, 33, 35, 52] Try.f52 4
theorem R_ref01_Of_ok : CSound Try.prog 52 R_ref01_Of := run_sound t_ref01_Of_ok d_ref01_Of_ok mixed Try.func52 (by kernel_rfl) NN
theorem R_ref01_Of_eq {β : Type} (K : AV → Hp → Option β) (a0 : AV) (a1 : AV) (a2 : AV) (a3 : AV) (h : Hp) : (R_ref01_Of [a0, a1, a2, a3] h).bind (fun p => K p.1 p.2) = f_ref01_Of Try.prog t_ref01_Of d_ref01_Of NN K a0 a1 a2 a3 h := by
  rw [← f_ref01_Of_run]; exact runF_bind rfl
noncomputable def F_ref01_Of : Fun := closedX [.o, .o, .o, .o] [.o, .o, .o] R_ref01_Of
theorem F_ref01_Of_ok : CSound Try.prog 52 F_ref01_Of := closedX_sound _ _ R_ref01_Of_ok
noncomputable def G_ref01_Of : DFun := closedXD [.o, .o, .o, .o] [.o, .o, .o] R_ref01_Of
theorem G_ref01_Of_ro : Ro F_ref01_Of G_ref01_Of := closedX_ro _ _ _
theorem F_ref01_Of_run {a0 : AV} {a1 : AV} {a2 : AV} {a3 : AV} {v : AV} (ha : plains [a0, a1, a2, a3] = true) (hv : f_ref01_Of Try.prog t_ref01_Of d_ref01_Of NN (fun v g => cvt false g v) a0 a1 a2 a3 [] = some v) (h : Hp) : F_ref01_Of [a0, a1, a2, a3] h = some (v, h) := by
  have e : (R_ref01_Of (nrms [.o, .o, .o, .o] [a0, a1, a2, a3]) []).bind (fun (p : AV × Hp) => cvt false p.2 p.1) = some v := (R_ref01_Of_eq (fun v g => cvt false g v) a0 a1 a2 a3 []).trans hv
  exact (closedX_bind (shr := [.o, .o, .o]) ha e h).trans (congrArg (fun x => some (x, h)) (nrmR_rep 3 v))
theorem F_ref01_Of_own {a0 : AV} {a1 : AV} {a2 : AV} {a3 : AV} {x0 : AV} {x1 : AV} {x2 : AV} {x3 : AV} {h : Hp} {v : AV} (ha : cvts false h [x0, x1, x2, x3] = some [a0, a1, a2, a3]) (hv : ∀ st, f_ref01_Of Try.prog t_ref01_Of d_ref01_Of NN (fun v g => cvt st g v) a0 a1 a2 a3 [] = some v) : F_ref01_Of [x0, x1, x2, x3] h = some (v, h) := by
  have e : ∀ st, (R_ref01_Of (nrms [.o, .o, .o, .o] [a0, a1, a2, a3]) []).bind (fun (p : AV × Hp) => cvt st p.2 p.1) = some v := fun st => (R_ref01_Of_eq (fun v g => cvt st g v) a0 a1 a2 a3 []).trans (hv st)
  exact (closedX_ownB (shr := [.o, .o, .o]) ha e).trans (congrArg (fun x => some (x, h)) (nrmR_rep 3 v))
/-! spile/spileref01.Proportion -/
noncomputable def t_ref01_Proportion : Tab := (updF T0 52 F_ref01_Of)
theorem t_ref01_Proportion_ok : TSound Try.prog t_ref01_Proportion := (TSound.upd TSound.zero F_ref01_Of_ok)
@[simp] theorem t_ref01_Proportion_52 : t_ref01_Proportion 52 = some F_ref01_Of := rfl
noncomputable def d_ref01_Proportion : DTab := D0
theorem d_ref01_Proportion_ok : DSound Try.prog d_ref01_Proportion := DSound.zero
noncomputable def R_ref01_Proportion : Fun := runF Try.prog t_ref01_Proportion d_ref01_Proportion NN [0, 1, 2, 6, 7, 8, 9] Try.f40 3
theorem R_ref01_Proportion_ok : CSound Try.prog 40 R_ref01_Proportion := run_sound t_ref01_Proportion_ok d_ref01_Proportion_ok mixed Try.func40 (by kernel_rfl) NN
theorem R_ref01_Proportion_eq {β : Type} (K : AV → Hp → Option β) (a0 : AV) (a1 : AV) (a2 : AV) (h : Hp) : (R_ref01_Proportion [a0, a1, a2] h).bind (fun p => K p.1 p.2) = f_ref01_Proportion Try.prog t_ref01_Proportion d_ref01_Proportion NN K a0 a1 a2 h := by
  rw [← f_ref01_Proportion_run]; exact runF_bind rfl
noncomputable def F_ref01_Proportion : Fun := closedX [.o, .o, .o] [.o, .o] R_ref01_Proportion
theorem F_ref01_Proportion_ok : CSound Try.prog 40 F_ref01_Proportion := closedX_sound _ _ R_ref01_Proportion_ok
noncomputable def G_ref01_Proportion : DFun := closedXD [.o, .o, .o] [.o, .o] R_ref01_Proportion
theorem G_ref01_Proportion_ro : Ro F_ref01_Proportion G_ref01_Proportion := closedX_ro _ _ _
theorem F_ref01_Proportion_run {a0 : AV} {a1 : AV} {a2 : AV} {v : AV} (ha : plains [a0, a1, a2] = true) (hv : f_ref01_Proportion Try.prog t_ref01_Proportion d_ref01_Proportion NN (fun v g => cvt false g v) a0 a1 a2 [] = some v) (h : Hp) : F_ref01_Proportion [a0, a1, a2] h = some (v, h) := by
  have e : (R_ref01_Proportion (nrms [.o, .o, .o] [a0, a1, a2]) []).bind (fun (p : AV × Hp) => cvt false p.2 p.1) = some v := (R_ref01_Proportion_eq (fun v g => cvt false g v) a0 a1 a2 []).trans hv
  exact (closedX_bind (shr := [.o, .o]) ha e h).trans (congrArg (fun x => some (x, h)) (nrmR_rep 2 v))
theorem F_ref01_Proportion_own {a0 : AV} {a1 : AV} {a2 : AV} {x0 : AV} {x1 : AV} {x2 : AV} {h : Hp} {v : AV} (ha : cvts false h [x0, x1, x2] = some [a0, a1, a2]) (hv : ∀ st, f_ref01_Proportion Try.prog t_ref01_Proportion d_ref01_Proportion NN (fun v g => cvt st g v) a0 a1 a2 [] = some v) : F_ref01_Proportion [x0, x1, x2] h = some (v, h) := by
  have e : ∀ st, (R_ref01_Proportion (nrms [.o, .o, .o] [a0, a1, a2]) []).bind (fun (p : AV × Hp) => cvt st p.2 p.1) = some v := fun st => (R_ref01_Proportion_eq (fun v g => cvt st g v) a0 a1 a2 []).trans (hv st)
  exact (closedX_ownB (shr := [.o, .o]) ha e).trans (congrArg (fun x => some (x, h)) (nrmR_rep 2 v))
/-! spile/spileref48.share -/
noncomputable def t_ref48_share : Tab := (updF T0 40 F_ref01_Proportion)
theorem t_ref48_share_ok : TSound Try.prog t_ref48_share := (TSound.upd TSound.zero F_ref01_Proportion_ok)
@[simp] theorem t_ref48_share_40 : t_ref48_share 40 = some F_ref01_Proportion := rfl
noncomputable def d_ref48_share : DTab := D0
theorem d_ref48_share_ok : DSound Try.prog d_ref48_share := DSound.zero
noncomputable def R_ref48_share : Fun := runF Try.prog t_ref48_share d_ref48_share NN [0, 1, 2, 4, 5] Try.f33 2
theorem R_ref48_share_ok : CSound Try.prog 33 R_ref48_share := run_sound t_ref48_share_ok d_ref48_share_ok mixed Try.func33 (by kernel_rfl) NN
theorem R_ref48_share_eq {β : Type} (K : AV → Hp → Option β) (a0 : AV) (a1 : AV) (h : Hp) : (R_ref48_share [a0, a1] h).bind (fun p => K p.1 p.2) = f_ref48_share Try.prog t_ref48_share d_ref48_share NN K a0 a1 h := by
  rw [← f_ref48_share_run]; exact runF_bind rfl
noncomputable def F_ref48_share : Fun := closedX [.o, .o] [.o] R_ref48_share
theorem F_ref48_share_ok : CSound Try.prog 33 F_ref48_share := closedX_sound _ _ R_ref48_share_ok
noncomputable def G_ref48_share : DFun := closedXD [.o, .o] [.o] R_ref48_share
theorem G_ref48_share_ro : Ro F_ref48_share G_ref48_share := closedX_ro _ _ _
theorem F_ref48_share_run {a0 : AV} {a1 : AV} {v : AV} (ha : plains [a0, a1] = true) (hv : f_ref48_share Try.prog t_ref48_share d_ref48_share NN (fun v g => cvt false g v) a0 a1 [] = some v) (h : Hp) : F_ref48_share [a0, a1] h = some (v, h) := by
  have e : (R_ref48_share (nrms [.o, .o] [a0, a1]) []).bind (fun (p : AV × Hp) => cvt false p.2 p.1) = some v := (R_ref48_share_eq (fun v g => cvt false g v) a0 a1 []).trans hv
  exact (closedX_bind (shr := [.o]) ha e h).trans (congrArg (fun x => some (x, h)) (nrmR_rep 1 v))
theorem F_ref48_share_own {a0 : AV} {a1 : AV} {x0 : AV} {x1 : AV} {h : Hp} {v : AV} (ha : cvts false h [x0, x1] = some [a0, a1]) (hv : ∀ st, f_ref48_share Try.prog t_ref48_share d_ref48_share NN (fun v g => cvt st g v) a0 a1 [] = some v) : F_ref48_share [x0, x1] h = some (v, h) := by
  have e : ∀ st, (R_ref48_share (nrms [.o, .o] [a0, a1]) []).bind (fun (p : AV × Hp) => cvt st p.2 p.1) = some v := fun st => (R_ref48_share_eq (fun v g => cvt st g v) a0 a1 []).trans (hv st)
  exact (closedX_ownB (shr := [.o]) ha e).trans (congrArg (fun x => some (x, h)) (nrmR_rep 1 v))
/-! spile/spileref48.Refund -/
noncomputable def t_ref48_Refund : Tab := (updF (updF (updF (updF (updF (updF T0 14 F_ref48_Check) 28 F_ref48_between) 30 F_ref48_refused) 31 F_ref48_find) 32 F_ref48_claimed) 33 F_ref48_share)
theorem t_ref48_Refund_ok : TSound Try.prog t_ref48_Refund := (TSound.upd (TSound.upd (TSound.upd (TSound.upd (TSound.upd (TSound.upd TSound.zero F_ref48_Check_ok) F_ref48_between_ok) F_ref48_refused_ok) F_ref48_find_ok) F_ref48_claimed_ok) F_ref48_share_ok)
@[simp] theorem t_ref48_Refund_14 : t_ref48_Refund 14 = some F_ref48_Check := rfl
@[simp] theorem t_ref48_Refund_28 : t_ref48_Refund 28 = some F_ref48_between := rfl
@[simp] theorem t_ref48_Refund_30 : t_ref48_Refund 30 = some F_ref48_refused := rfl
@[simp] theorem t_ref48_Refund_31 : t_ref48_Refund 31 = some F_ref48_find := rfl
@[simp] theorem t_ref48_Refund_32 : t_ref48_Refund 32 = some F_ref48_claimed := rfl
@[simp] theorem t_ref48_Refund_33 : t_ref48_Refund 33 = some F_ref48_share := rfl
noncomputable def d_ref48_Refund : DTab := (updD D0 33 G_ref48_share)
theorem d_ref48_Refund_ok : DSound Try.prog d_ref48_Refund := (DSound.ro DSound.zero G_ref48_share_ro F_ref48_share_ok)
@[simp] theorem d_ref48_Refund_33 : d_ref48_Refund 33 = some G_ref48_share := rfl
noncomputable def R_ref48_Refund : Fun := runF Try.prog t_ref48_Refund d_ref48_Refund NN [0, 1, 2, 6, 7, 8, 10, 11, 12, 13, 14, 15, 16, 23, 26, 29, 33, 48] Try.f17 3
theorem R_ref48_Refund_ok : CSound Try.prog 17 R_ref48_Refund := run_sound t_ref48_Refund_ok d_ref48_Refund_ok mixed Try.func17 (by kernel_rfl) NN
theorem R_ref48_Refund_eq {β : Type} (K : AV → Hp → Option β) (a0 : AV) (a1 : AV) (a2 : AV) (h : Hp) : (R_ref48_Refund [a0, a1, a2] h).bind (fun p => K p.1 p.2) = f_ref48_Refund Try.prog t_ref48_Refund d_ref48_Refund NN K a0 a1 a2 h := by
  rw [← f_ref48_Refund_run]; exact runF_bind rfl
noncomputable def F_ref48_Refund : Fun := closedX [.l 5, .l 3, .o] [.l 1, .o, .o] R_ref48_Refund
theorem F_ref48_Refund_ok : CSound Try.prog 17 F_ref48_Refund := closedX_sound _ _ R_ref48_Refund_ok
noncomputable def G_ref48_Refund : DFun := closedXD [.l 5, .l 3, .o] [.l 1, .o, .o] R_ref48_Refund
theorem G_ref48_Refund_ro : Ro F_ref48_Refund G_ref48_Refund := closedX_ro _ _ _
theorem F_ref48_Refund_run {a0 : AV} {a1 : AV} {a2 : AV} {v : AV} (ha : plains [a0, a1, a2] = true) (hv : f_ref48_Refund Try.prog t_ref48_Refund d_ref48_Refund NN (fun v g => cvt false g v) (nrm (.l 5) a0) (nrm (.l 3) a1) a2 [] = some v) (h : Hp) : F_ref48_Refund [a0, a1, a2] h = some ((nrmR [.l 1, .o, .o] v), h) := by
  have e : (R_ref48_Refund (nrms [.l 5, .l 3, .o] [a0, a1, a2]) []).bind (fun (p : AV × Hp) => cvt false p.2 p.1) = some v := (R_ref48_Refund_eq (fun v g => cvt false g v) (nrm (.l 5) a0) (nrm (.l 3) a1) a2 []).trans hv
  exact (closedX_bind (shr := [.l 1, .o, .o]) ha e h).trans (congrArg (fun x => some (x, h)) rfl)
theorem F_ref48_Refund_own {a0 : AV} {a1 : AV} {a2 : AV} {x0 : AV} {x1 : AV} {x2 : AV} {h : Hp} {v : AV} (ha : cvts false h [x0, x1, x2] = some [a0, a1, a2]) (hv : ∀ st, f_ref48_Refund Try.prog t_ref48_Refund d_ref48_Refund NN (fun v g => cvt st g v) (nrm (.l 5) a0) (nrm (.l 3) a1) a2 [] = some v) : F_ref48_Refund [x0, x1, x2] h = some ((nrmR [.l 1, .o, .o] v), h) := by
  have e : ∀ st, (R_ref48_Refund (nrms [.l 5, .l 3, .o] [a0, a1, a2]) []).bind (fun (p : AV × Hp) => cvt st p.2 p.1) = some v := fun st => (R_ref48_Refund_eq (fun v g => cvt st g v) (nrm (.l 5) a0) (nrm (.l 3) a1) a2 []).trans (hv st)
  exact (closedX_ownB (shr := [.l 1, .o, .o]) ha e).trans (congrArg (fun x => some (x, h)) rfl)
/-! spile/spilelaw48.DrawbackRefunds -/
noncomputable def t_law48_DrawbackRefunds : Tab := (updF (updF (updF (updF (updF (updF (updF (updF (updF T0 10 F_law48_awake) 11 F_ref48_Few) 12 F_drawback_Check) 13 F_slices_Clone_Paid) 14 F_ref48_Check) 15 F_drawback_Refund) 16 F_slices_Clone_Claim) 17 F_ref48_Refund) 18 F_slices_Equal_int)
theorem t_law48_DrawbackRefunds_ok : TSound Try.prog t_law48_DrawbackRefunds := (TSound.upd (TSound.upd (TSound.upd (TSound.upd (TSound.upd (TSound.upd (TSound.upd (TSound.upd (TSound.upd TSound.zero F_law48_awake_ok) F_ref48_Few_ok) F_drawback_Check_ok) F_slices_Clone_Paid_ok) F_ref48_Check_ok) F_drawback_Refund_ok) F_slices_Clone_Claim_ok) F_ref48_Refund_ok) F_slices_Equal_int_ok)
@[simp] theorem t_law48_DrawbackRefunds_10 : t_law48_DrawbackRefunds 10 = some F_law48_awake := rfl
@[simp] theorem t_law48_DrawbackRefunds_11 : t_law48_DrawbackRefunds 11 = some F_ref48_Few := rfl
@[simp] theorem t_law48_DrawbackRefunds_12 : t_law48_DrawbackRefunds 12 = some F_drawback_Check := rfl
@[simp] theorem t_law48_DrawbackRefunds_13 : t_law48_DrawbackRefunds 13 = some F_slices_Clone_Paid := rfl
@[simp] theorem t_law48_DrawbackRefunds_14 : t_law48_DrawbackRefunds 14 = some F_ref48_Check := rfl
@[simp] theorem t_law48_DrawbackRefunds_15 : t_law48_DrawbackRefunds 15 = some F_drawback_Refund := rfl
@[simp] theorem t_law48_DrawbackRefunds_16 : t_law48_DrawbackRefunds 16 = some F_slices_Clone_Claim := rfl
@[simp] theorem t_law48_DrawbackRefunds_17 : t_law48_DrawbackRefunds 17 = some F_ref48_Refund := rfl
@[simp] theorem t_law48_DrawbackRefunds_18 : t_law48_DrawbackRefunds 18 = some F_slices_Equal_int := rfl
noncomputable def d_law48_DrawbackRefunds : DTab := D0
theorem d_law48_DrawbackRefunds_ok : DSound Try.prog d_law48_DrawbackRefunds := DSound.zero
noncomputable def R_law48_DrawbackRefunds : Fun := runF Try.prog t_law48_DrawbackRefunds d_law48_DrawbackRefunds NN [0, 1, 2, 6, 7, 8, 9, 10, 11, 12, 13, 14, 15, 16, 24] Try.f3 3
theorem R_law48_DrawbackRefunds_ok : CSound Try.prog 3 R_law48_DrawbackRefunds := run_sound t_law48_DrawbackRefunds_ok d_law48_DrawbackRefunds_ok mixed Try.func3 (by kernel_rfl) NN
theorem R_law48_DrawbackRefunds_eq {β : Type} (K : AV → Hp → Option β) (a0 : AV) (a1 : AV) (a2 : AV) (h : Hp) : (R_law48_DrawbackRefunds [a0, a1, a2] h).bind (fun p => K p.1 p.2) = f_law48_DrawbackRefunds Try.prog t_law48_DrawbackRefunds d_law48_DrawbackRefunds NN K a0 a1 a2 h := by
  rw [← f_law48_DrawbackRefunds_run]; exact runF_bind rfl
noncomputable def F_law48_DrawbackRefunds : Fun := closedX [.l 5, .l 3, .o] [.o] R_law48_DrawbackRefunds
theorem F_law48_DrawbackRefunds_ok : CSound Try.prog 3 F_law48_DrawbackRefunds := closedX_sound _ _ R_law48_DrawbackRefunds_ok
noncomputable def G_law48_DrawbackRefunds : DFun := closedXD [.l 5, .l 3, .o] [.o] R_law48_DrawbackRefunds
theorem G_law48_DrawbackRefunds_ro : Ro F_law48_DrawbackRefunds G_law48_DrawbackRefunds := closedX_ro _ _ _
theorem F_law48_DrawbackRefunds_run {a0 : AV} {a1 : AV} {a2 : AV} {v : AV} (ha : plains [a0, a1, a2] = true) (hv : f_law48_DrawbackRefunds Try.prog t_law48_DrawbackRefunds d_law48_DrawbackRefunds NN (fun v g => cvt false g v) (nrm (.l 5) a0) (nrm (.l 3) a1) a2 [] = some v) (h : Hp) : F_law48_DrawbackRefunds [a0, a1, a2] h = some (v, h) := by
  have e : (R_law48_DrawbackRefunds (nrms [.l 5, .l 3, .o] [a0, a1, a2]) []).bind (fun (p : AV × Hp) => cvt false p.2 p.1) = some v := (R_law48_DrawbackRefunds_eq (fun v g => cvt false g v) (nrm (.l 5) a0) (nrm (.l 3) a1) a2 []).trans hv
  exact (closedX_bind (shr := [.o]) ha e h).trans (congrArg (fun x => some (x, h)) (nrmR_rep 1 v))
theorem F_law48_DrawbackRefunds_own {a0 : AV} {a1 : AV} {a2 : AV} {x0 : AV} {x1 : AV} {x2 : AV} {h : Hp} {v : AV} (ha : cvts false h [x0, x1, x2] = some [a0, a1, a2]) (hv : ∀ st, f_law48_DrawbackRefunds Try.prog t_law48_DrawbackRefunds d_law48_DrawbackRefunds NN (fun v g => cvt st g v) (nrm (.l 5) a0) (nrm (.l 3) a1) a2 [] = some v) : F_law48_DrawbackRefunds [x0, x1, x2] h = some (v, h) := by
  have e : ∀ st, (R_law48_DrawbackRefunds (nrms [.l 5, .l 3, .o] [a0, a1, a2]) []).bind (fun (p : AV × Hp) => cvt st p.2 p.1) = some v := fun st => (R_law48_DrawbackRefunds_eq (fun v g => cvt st g v) (nrm (.l 5) a0) (nrm (.l 3) a1) a2 []).trans (hv st)
  exact (closedX_ownB (shr := [.o]) ha e).trans (congrArg (fun x => some (x, h)) (nrmR_rep 1 v))
/-! spile/spileref48.Left -/
noncomputable def t_ref48_Left : Tab := (updF (updF (updF (updF T0 17 F_ref48_Refund) 31 F_ref48_find) 32 F_ref48_claimed) 33 F_ref48_share)
theorem t_ref48_Left_ok : TSound Try.prog t_ref48_Left := (TSound.upd (TSound.upd (TSound.upd (TSound.upd TSound.zero F_ref48_Refund_ok) F_ref48_find_ok) F_ref48_claimed_ok) F_ref48_share_ok)
@[simp] theorem t_ref48_Left_17 : t_ref48_Left 17 = some F_ref48_Refund := rfl
@[simp] theorem t_ref48_Left_31 : t_ref48_Left 31 = some F_ref48_find := rfl
@[simp] theorem t_ref48_Left_32 : t_ref48_Left 32 = some F_ref48_claimed := rfl
@[simp] theorem t_ref48_Left_33 : t_ref48_Left 33 = some F_ref48_share := rfl
noncomputable def d_ref48_Left : DTab := (updD D0 33 G_ref48_share)
theorem d_ref48_Left_ok : DSound Try.prog d_ref48_Left := (DSound.ro DSound.zero G_ref48_share_ro F_ref48_share_ok)
@[simp] theorem d_ref48_Left_33 : d_ref48_Left 33 = some G_ref48_share := rfl
noncomputable def R_ref48_Left : Fun := runF Try.prog t_ref48_Left d_ref48_Left NN [0, 1, 2, 3, 8, 9, 10, 13, 14, 15, 25, 31] Try.f20 4
theorem R_ref48_Left_ok : CSound Try.prog 20 R_ref48_Left := run_sound t_ref48_Left_ok d_ref48_Left_ok mixed Try.func20 (by kernel_rfl) NN
theorem R_ref48_Left_eq {β : Type} (K : AV → Hp → Option β) (a0 : AV) (a1 : AV) (a2 : AV) (a3 : AV) (h : Hp) : (R_ref48_Left [a0, a1, a2, a3] h).bind (fun p => K p.1 p.2) = f_ref48_Left Try.prog t_ref48_Left d_ref48_Left NN K a0 a1 a2 a3 h := by
  rw [← f_ref48_Left_run]; exact runF_bind rfl
noncomputable def F_ref48_Left : Fun := closedX [.l 5, .l 3, .o, .o] [.o, .o, .o] R_ref48_Left
theorem F_ref48_Left_ok : CSound Try.prog 20 F_ref48_Left := closedX_sound _ _ R_ref48_Left_ok
noncomputable def G_ref48_Left : DFun := closedXD [.l 5, .l 3, .o, .o] [.o, .o, .o] R_ref48_Left
theorem G_ref48_Left_ro : Ro F_ref48_Left G_ref48_Left := closedX_ro _ _ _
theorem F_ref48_Left_run {a0 : AV} {a1 : AV} {a2 : AV} {a3 : AV} {v : AV} (ha : plains [a0, a1, a2, a3] = true) (hv : f_ref48_Left Try.prog t_ref48_Left d_ref48_Left NN (fun v g => cvt false g v) (nrm (.l 5) a0) (nrm (.l 3) a1) a2 a3 [] = some v) (h : Hp) : F_ref48_Left [a0, a1, a2, a3] h = some (v, h) := by
  have e : (R_ref48_Left (nrms [.l 5, .l 3, .o, .o] [a0, a1, a2, a3]) []).bind (fun (p : AV × Hp) => cvt false p.2 p.1) = some v := (R_ref48_Left_eq (fun v g => cvt false g v) (nrm (.l 5) a0) (nrm (.l 3) a1) a2 a3 []).trans hv
  exact (closedX_bind (shr := [.o, .o, .o]) ha e h).trans (congrArg (fun x => some (x, h)) (nrmR_rep 3 v))
theorem F_ref48_Left_own {a0 : AV} {a1 : AV} {a2 : AV} {a3 : AV} {x0 : AV} {x1 : AV} {x2 : AV} {x3 : AV} {h : Hp} {v : AV} (ha : cvts false h [x0, x1, x2, x3] = some [a0, a1, a2, a3]) (hv : ∀ st, f_ref48_Left Try.prog t_ref48_Left d_ref48_Left NN (fun v g => cvt st g v) (nrm (.l 5) a0) (nrm (.l 3) a1) a2 a3 [] = some v) : F_ref48_Left [x0, x1, x2, x3] h = some (v, h) := by
  have e : ∀ st, (R_ref48_Left (nrms [.l 5, .l 3, .o, .o] [a0, a1, a2, a3]) []).bind (fun (p : AV × Hp) => cvt st p.2 p.1) = some v := fun st => (R_ref48_Left_eq (fun v g => cvt st g v) (nrm (.l 5) a0) (nrm (.l 3) a1) a2 a3 []).trans (hv st)
  exact (closedX_ownB (shr := [.o, .o, .o]) ha e).trans (congrArg (fun x => some (x, h)) (nrmR_rep 3 v))
/-! spile/spileref48.Total -/
noncomputable def t_ref48_Total : Tab := (updF T0 17 F_ref48_Refund)
theorem t_ref48_Total_ok : TSound Try.prog t_ref48_Total := (TSound.upd TSound.zero F_ref48_Refund_ok)
@[simp] theorem t_ref48_Total_17 : t_ref48_Total 17 = some F_ref48_Refund := rfl
noncomputable def d_ref48_Total : DTab := D0
theorem d_ref48_Total_ok : DSound Try.prog d_ref48_Total := DSound.zero
noncomputable def R_ref48_Total : Fun := runF Try.prog t_ref48_Total d_ref48_Total NN [0, 1, 2, 6, 7, 8, 10, 11, 12, 22, 27] Try.f22 3
theorem R_ref48_Total_ok : CSound Try.prog 22 R_ref48_Total := run_sound t_ref48_Total_ok d_ref48_Total_ok mixed Try.func22 (by kernel_rfl) NN
theorem R_ref48_Total_eq {β : Type} (K : AV → Hp → Option β) (a0 : AV) (a1 : AV) (a2 : AV) (h : Hp) : (R_ref48_Total [a0, a1, a2] h).bind (fun p => K p.1 p.2) = f_ref48_Total Try.prog t_ref48_Total d_ref48_Total NN K a0 a1 a2 h := by
  rw [← f_ref48_Total_run]; exact runF_bind rfl
noncomputable def F_ref48_Total : Fun := closedX [.l 5, .l 3, .o] [.o, .o] R_ref48_Total
theorem F_ref48_Total_ok : CSound Try.prog 22 F_ref48_Total := closedX_sound _ _ R_ref48_Total_ok
noncomputable def G_ref48_Total : DFun := closedXD [.l 5, .l 3, .o] [.o, .o] R_ref48_Total
theorem G_ref48_Total_ro : Ro F_ref48_Total G_ref48_Total := closedX_ro _ _ _
theorem F_ref48_Total_run {a0 : AV} {a1 : AV} {a2 : AV} {v : AV} (ha : plains [a0, a1, a2] = true) (hv : f_ref48_Total Try.prog t_ref48_Total d_ref48_Total NN (fun v g => cvt false g v) (nrm (.l 5) a0) (nrm (.l 3) a1) a2 [] = some v) (h : Hp) : F_ref48_Total [a0, a1, a2] h = some (v, h) := by
  have e : (R_ref48_Total (nrms [.l 5, .l 3, .o] [a0, a1, a2]) []).bind (fun (p : AV × Hp) => cvt false p.2 p.1) = some v := (R_ref48_Total_eq (fun v g => cvt false g v) (nrm (.l 5) a0) (nrm (.l 3) a1) a2 []).trans hv
  exact (closedX_bind (shr := [.o, .o]) ha e h).trans (congrArg (fun x => some (x, h)) (nrmR_rep 2 v))
theorem F_ref48_Total_own {a0 : AV} {a1 : AV} {a2 : AV} {x0 : AV} {x1 : AV} {x2 : AV} {h : Hp} {v : AV} (ha : cvts false h [x0, x1, x2] = some [a0, a1, a2]) (hv : ∀ st, f_ref48_Total Try.prog t_ref48_Total d_ref48_Total NN (fun v g => cvt st g v) (nrm (.l 5) a0) (nrm (.l 3) a1) a2 [] = some v) : F_ref48_Total [x0, x1, x2] h = some (v, h) := by
  have e : ∀ st, (R_ref48_Total (nrms [.l 5, .l 3, .o] [a0, a1, a2]) []).bind (fun (p : AV × Hp) => cvt st p.2 p.1) = some v := fun st => (R_ref48_Total_eq (fun v g => cvt st g v) (nrm (.l 5) a0) (nrm (.l 3) a1) a2 []).trans (hv st)
  exact (closedX_ownB (shr := [.o, .o]) ha e).trans (congrArg (fun x => some (x, h)) (nrmR_rep 2 v))
/-! spile/spilelaw48.DrawbackLeaves -/
noncomputable def t_law48_DrawbackLeaves : Tab := (updF (updF (updF (updF (updF (updF (updF (updF T0 10 F_law48_awake) 11 F_ref48_Few) 13 F_slices_Clone_Paid) 16 F_slices_Clone_Claim) 19 F_drawback_Left) 20 F_ref48_Left) 21 F_drawback_Total) 22 F_ref48_Total)
theorem t_law48_DrawbackLeaves_ok : TSound Try.prog t_law48_DrawbackLeaves := (TSound.upd (TSound.upd (TSound.upd (TSound.upd (TSound.upd (TSound.upd (TSound.upd (TSound.upd TSound.zero F_law48_awake_ok) F_ref48_Few_ok) F_slices_Clone_Paid_ok) F_slices_Clone_Claim_ok) F_drawback_Left_ok) F_ref48_Left_ok) F_drawback_Total_ok) F_ref48_Total_ok)
@[simp] theorem t_law48_DrawbackLeaves_10 : t_law48_DrawbackLeaves 10 = some F_law48_awake := rfl
@[simp] theorem t_law48_DrawbackLeaves_11 : t_law48_DrawbackLeaves 11 = some F_ref48_Few := rfl
@[simp] theorem t_law48_DrawbackLeaves_13 : t_law48_DrawbackLeaves 13 = some F_slices_Clone_Paid := rfl
@[simp] theorem t_law48_DrawbackLeaves_16 : t_law48_DrawbackLeaves 16 = some F_slices_Clone_Claim := rfl
@[simp] theorem t_law48_DrawbackLeaves_19 : t_law48_DrawbackLeaves 19 = some F_drawback_Left := rfl
@[simp] theorem t_law48_DrawbackLeaves_20 : t_law48_DrawbackLeaves 20 = some F_ref48_Left := rfl
@[simp] theorem t_law48_DrawbackLeaves_21 : t_law48_DrawbackLeaves 21 = some F_drawback_Total := rfl
@[simp] theorem t_law48_DrawbackLeaves_22 : t_law48_DrawbackLeaves 22 = some F_ref48_Total := rfl
noncomputable def d_law48_DrawbackLeaves : DTab := D0
theorem d_law48_DrawbackLeaves_ok : DSound Try.prog d_law48_DrawbackLeaves := DSound.zero
noncomputable def R_law48_DrawbackLeaves : Fun := runF Try.prog t_law48_DrawbackLeaves d_law48_DrawbackLeaves NN [0, 1, 2, 3, 8, 9, 10, 11, 12, 13, 14, 15, 16, 17, 18, 26] Try.f4 4
theorem R_law48_DrawbackLeaves_ok : CSound Try.prog 4 R_law48_DrawbackLeaves := run_sound t_law48_DrawbackLeaves_ok d_law48_DrawbackLeaves_ok mixed Try.func4 (by kernel_rfl) NN
theorem R_law48_DrawbackLeaves_eq {β : Type} (K : AV → Hp → Option β) (a0 : AV) (a1 : AV) (a2 : AV) (a3 : AV) (h : Hp) : (R_law48_DrawbackLeaves [a0, a1, a2, a3] h).bind (fun p => K p.1 p.2) = f_law48_DrawbackLeaves Try.prog t_law48_DrawbackLeaves d_law48_DrawbackLeaves NN K a0 a1 a2 a3 h := by
  rw [← f_law48_DrawbackLeaves_run]; exact runF_bind rfl
noncomputable def F_law48_DrawbackLeaves : Fun := closedX [.l 5, .l 3, .o, .o] [.o] R_law48_DrawbackLeaves
theorem F_law48_DrawbackLeaves_ok : CSound Try.prog 4 F_law48_DrawbackLeaves := closedX_sound _ _ R_law48_DrawbackLeaves_ok
noncomputable def G_law48_DrawbackLeaves : DFun := closedXD [.l 5, .l 3, .o, .o] [.o] R_law48_DrawbackLeaves
theorem G_law48_DrawbackLeaves_ro : Ro F_law48_DrawbackLeaves G_law48_DrawbackLeaves := closedX_ro _ _ _
theorem F_law48_DrawbackLeaves_run {a0 : AV} {a1 : AV} {a2 : AV} {a3 : AV} {v : AV} (ha : plains [a0, a1, a2, a3] = true) (hv : f_law48_DrawbackLeaves Try.prog t_law48_DrawbackLeaves d_law48_DrawbackLeaves NN (fun v g => cvt false g v) (nrm (.l 5) a0) (nrm (.l 3) a1) a2 a3 [] = some v) (h : Hp) : F_law48_DrawbackLeaves [a0, a1, a2, a3] h = some (v, h) := by
  have e : (R_law48_DrawbackLeaves (nrms [.l 5, .l 3, .o, .o] [a0, a1, a2, a3]) []).bind (fun (p : AV × Hp) => cvt false p.2 p.1) = some v := (R_law48_DrawbackLeaves_eq (fun v g => cvt false g v) (nrm (.l 5) a0) (nrm (.l 3) a1) a2 a3 []).trans hv
  exact (closedX_bind (shr := [.o]) ha e h).trans (congrArg (fun x => some (x, h)) (nrmR_rep 1 v))
theorem F_law48_DrawbackLeaves_own {a0 : AV} {a1 : AV} {a2 : AV} {a3 : AV} {x0 : AV} {x1 : AV} {x2 : AV} {x3 : AV} {h : Hp} {v : AV} (ha : cvts false h [x0, x1, x2, x3] = some [a0, a1, a2, a3]) (hv : ∀ st, f_law48_DrawbackLeaves Try.prog t_law48_DrawbackLeaves d_law48_DrawbackLeaves NN (fun v g => cvt st g v) (nrm (.l 5) a0) (nrm (.l 3) a1) a2 a3 [] = some v) : F_law48_DrawbackLeaves [x0, x1, x2, x3] h = some (v, h) := by
  have e : ∀ st, (R_law48_DrawbackLeaves (nrms [.l 5, .l 3, .o, .o] [a0, a1, a2, a3]) []).bind (fun (p : AV × Hp) => cvt st p.2 p.1) = some v := fun st => (R_law48_DrawbackLeaves_eq (fun v g => cvt st g v) (nrm (.l 5) a0) (nrm (.l 3) a1) a2 a3 []).trans (hv st)
  exact (closedX_ownB (shr := [.o]) ha e).trans (congrArg (fun x => some (x, h)) (nrmR_rep 1 v))
/-! spile/spileref48.Overdue -/
noncomputable def t_ref48_Overdue : Tab := (updF (updF (updF T0 17 F_ref48_Refund) 28 F_ref48_between) 32 F_ref48_claimed)
theorem t_ref48_Overdue_ok : TSound Try.prog t_ref48_Overdue := (TSound.upd (TSound.upd (TSound.upd TSound.zero F_ref48_Refund_ok) F_ref48_between_ok) F_ref48_claimed_ok)
@[simp] theorem t_ref48_Overdue_17 : t_ref48_Overdue 17 = some F_ref48_Refund := rfl
@[simp] theorem t_ref48_Overdue_28 : t_ref48_Overdue 28 = some F_ref48_between := rfl
@[simp] theorem t_ref48_Overdue_32 : t_ref48_Overdue 32 = some F_ref48_claimed := rfl
noncomputable def d_ref48_Overdue : DTab := (updD D0 32 G_ref48_claimed)
theorem d_ref48_Overdue_ok : DSound Try.prog d_ref48_Overdue := (DSound.ro DSound.zero G_ref48_claimed_ro F_ref48_claimed_ok)
@[simp] theorem d_ref48_Overdue_32 : d_ref48_Overdue 32 = some G_ref48_claimed := rfl
noncomputable def R_ref48_Overdue : Fun := runF Try.prog t_ref48_Overdue d_ref48_Overdue NN [0, 1, 2, 3, 8, 9, 12, 13, 14, 24, 28, 32, 58] Try.f24 4
theorem R_ref48_Overdue_ok : CSound Try.prog 24 R_ref48_Overdue := run_sound t_ref48_Overdue_ok d_ref48_Overdue_ok mixed Try.func24 (by kernel_rfl) NN
theorem R_ref48_Overdue_eq {β : Type} (K : AV → Hp → Option β) (a0 : AV) (a1 : AV) (a2 : AV) (a3 : AV) (h : Hp) : (R_ref48_Overdue [a0, a1, a2, a3] h).bind (fun p => K p.1 p.2) = f_ref48_Overdue Try.prog t_ref48_Overdue d_ref48_Overdue NN K a0 a1 a2 a3 h := by
  rw [← f_ref48_Overdue_run]; exact runF_bind rfl
noncomputable def F_ref48_Overdue : Fun := closedX [.l 5, .l 3, .o, .o] [.l 1, .o] R_ref48_Overdue
theorem F_ref48_Overdue_ok : CSound Try.prog 24 F_ref48_Overdue := closedX_sound _ _ R_ref48_Overdue_ok
noncomputable def G_ref48_Overdue : DFun := closedXD [.l 5, .l 3, .o, .o] [.l 1, .o] R_ref48_Overdue
theorem G_ref48_Overdue_ro : Ro F_ref48_Overdue G_ref48_Overdue := closedX_ro _ _ _
theorem F_ref48_Overdue_run {a0 : AV} {a1 : AV} {a2 : AV} {a3 : AV} {v : AV} (ha : plains [a0, a1, a2, a3] = true) (hv : f_ref48_Overdue Try.prog t_ref48_Overdue d_ref48_Overdue NN (fun v g => cvt false g v) (nrm (.l 5) a0) (nrm (.l 3) a1) a2 a3 [] = some v) (h : Hp) : F_ref48_Overdue [a0, a1, a2, a3] h = some ((nrmR [.l 1, .o] v), h) := by
  have e : (R_ref48_Overdue (nrms [.l 5, .l 3, .o, .o] [a0, a1, a2, a3]) []).bind (fun (p : AV × Hp) => cvt false p.2 p.1) = some v := (R_ref48_Overdue_eq (fun v g => cvt false g v) (nrm (.l 5) a0) (nrm (.l 3) a1) a2 a3 []).trans hv
  exact (closedX_bind (shr := [.l 1, .o]) ha e h).trans (congrArg (fun x => some (x, h)) rfl)
theorem F_ref48_Overdue_own {a0 : AV} {a1 : AV} {a2 : AV} {a3 : AV} {x0 : AV} {x1 : AV} {x2 : AV} {x3 : AV} {h : Hp} {v : AV} (ha : cvts false h [x0, x1, x2, x3] = some [a0, a1, a2, a3]) (hv : ∀ st, f_ref48_Overdue Try.prog t_ref48_Overdue d_ref48_Overdue NN (fun v g => cvt st g v) (nrm (.l 5) a0) (nrm (.l 3) a1) a2 a3 [] = some v) : F_ref48_Overdue [x0, x1, x2, x3] h = some ((nrmR [.l 1, .o] v), h) := by
  have e : ∀ st, (R_ref48_Overdue (nrms [.l 5, .l 3, .o, .o] [a0, a1, a2, a3]) []).bind (fun (p : AV × Hp) => cvt st p.2 p.1) = some v := fun st => (R_ref48_Overdue_eq (fun v g => cvt st g v) (nrm (.l 5) a0) (nrm (.l 3) a1) a2 a3 []).trans (hv st)
  exact (closedX_ownB (shr := [.l 1, .o]) ha e).trans (congrArg (fun x => some (x, h)) rfl)
/-! spile/spilelaw48.DrawbackLate -/
noncomputable def t_law48_DrawbackLate : Tab := (updF (updF (updF (updF (updF (updF (updF T0 10 F_law48_awake) 11 F_ref48_Few) 13 F_slices_Clone_Paid) 16 F_slices_Clone_Claim) 18 F_slices_Equal_int) 23 F_drawback_Overdue) 24 F_ref48_Overdue)
theorem t_law48_DrawbackLate_ok : TSound Try.prog t_law48_DrawbackLate := (TSound.upd (TSound.upd (TSound.upd (TSound.upd (TSound.upd (TSound.upd (TSound.upd TSound.zero F_law48_awake_ok) F_ref48_Few_ok) F_slices_Clone_Paid_ok) F_slices_Clone_Claim_ok) F_slices_Equal_int_ok) F_drawback_Overdue_ok) F_ref48_Overdue_ok)
@[simp] theorem t_law48_DrawbackLate_10 : t_law48_DrawbackLate 10 = some F_law48_awake := rfl
@[simp] theorem t_law48_DrawbackLate_11 : t_law48_DrawbackLate 11 = some F_ref48_Few := rfl
@[simp] theorem t_law48_DrawbackLate_13 : t_law48_DrawbackLate 13 = some F_slices_Clone_Paid := rfl
@[simp] theorem t_law48_DrawbackLate_16 : t_law48_DrawbackLate 16 = some F_slices_Clone_Claim := rfl
@[simp] theorem t_law48_DrawbackLate_18 : t_law48_DrawbackLate 18 = some F_slices_Equal_int := rfl
@[simp] theorem t_law48_DrawbackLate_23 : t_law48_DrawbackLate 23 = some F_drawback_Overdue := rfl
@[simp] theorem t_law48_DrawbackLate_24 : t_law48_DrawbackLate 24 = some F_ref48_Overdue := rfl
noncomputable def d_law48_DrawbackLate : DTab := D0
theorem d_law48_DrawbackLate_ok : DSound Try.prog d_law48_DrawbackLate := DSound.zero
noncomputable def R_law48_DrawbackLate : Fun := runF Try.prog t_law48_DrawbackLate d_law48_DrawbackLate NN [0, 1, 2, 3, 8, 9, 10, 11, 12, 20] Try.f5 4
theorem R_law48_DrawbackLate_ok : CSound Try.prog 5 R_law48_DrawbackLate := run_sound t_law48_DrawbackLate_ok d_law48_DrawbackLate_ok mixed Try.func5 (by kernel_rfl) NN
theorem R_law48_DrawbackLate_eq {β : Type} (K : AV → Hp → Option β) (a0 : AV) (a1 : AV) (a2 : AV) (a3 : AV) (h : Hp) : (R_law48_DrawbackLate [a0, a1, a2, a3] h).bind (fun p => K p.1 p.2) = f_law48_DrawbackLate Try.prog t_law48_DrawbackLate d_law48_DrawbackLate NN K a0 a1 a2 a3 h := by
  rw [← f_law48_DrawbackLate_run]; exact runF_bind rfl
noncomputable def F_law48_DrawbackLate : Fun := closedX [.l 5, .l 3, .o, .o] [.o] R_law48_DrawbackLate
theorem F_law48_DrawbackLate_ok : CSound Try.prog 5 F_law48_DrawbackLate := closedX_sound _ _ R_law48_DrawbackLate_ok
noncomputable def G_law48_DrawbackLate : DFun := closedXD [.l 5, .l 3, .o, .o] [.o] R_law48_DrawbackLate
theorem G_law48_DrawbackLate_ro : Ro F_law48_DrawbackLate G_law48_DrawbackLate := closedX_ro _ _ _
theorem F_law48_DrawbackLate_run {a0 : AV} {a1 : AV} {a2 : AV} {a3 : AV} {v : AV} (ha : plains [a0, a1, a2, a3] = true) (hv : f_law48_DrawbackLate Try.prog t_law48_DrawbackLate d_law48_DrawbackLate NN (fun v g => cvt false g v) (nrm (.l 5) a0) (nrm (.l 3) a1) a2 a3 [] = some v) (h : Hp) : F_law48_DrawbackLate [a0, a1, a2, a3] h = some (v, h) := by
  have e : (R_law48_DrawbackLate (nrms [.l 5, .l 3, .o, .o] [a0, a1, a2, a3]) []).bind (fun (p : AV × Hp) => cvt false p.2 p.1) = some v := (R_law48_DrawbackLate_eq (fun v g => cvt false g v) (nrm (.l 5) a0) (nrm (.l 3) a1) a2 a3 []).trans hv
  exact (closedX_bind (shr := [.o]) ha e h).trans (congrArg (fun x => some (x, h)) (nrmR_rep 1 v))
theorem F_law48_DrawbackLate_own {a0 : AV} {a1 : AV} {a2 : AV} {a3 : AV} {x0 : AV} {x1 : AV} {x2 : AV} {x3 : AV} {h : Hp} {v : AV} (ha : cvts false h [x0, x1, x2, x3] = some [a0, a1, a2, a3]) (hv : ∀ st, f_law48_DrawbackLate Try.prog t_law48_DrawbackLate d_law48_DrawbackLate NN (fun v g => cvt st g v) (nrm (.l 5) a0) (nrm (.l 3) a1) a2 a3 [] = some v) : F_law48_DrawbackLate [x0, x1, x2, x3] h = some (v, h) := by
  have e : ∀ st, (R_law48_DrawbackLate (nrms [.l 5, .l 3, .o, .o] [a0, a1, a2, a3]) []).bind (fun (p : AV × Hp) => cvt st p.2 p.1) = some v := fun st => (R_law48_DrawbackLate_eq (fun v g => cvt st g v) (nrm (.l 5) a0) (nrm (.l 3) a1) a2 a3 []).trans (hv st)
  exact (closedX_ownB (shr := [.o]) ha e).trans (congrArg (fun x => some (x, h)) (nrmR_rep 1 v))
/-! spile/spilelaw48.DrawbackSums -/
noncomputable def t_law48_DrawbackSums : Tab := (updF (updF (updF (updF (updF (updF (updF T0 10 F_law48_awake) 11 F_ref48_Few) 13 F_slices_Clone_Paid) 15 F_drawback_Refund) 16 F_slices_Clone_Claim) 19 F_drawback_Left) 21 F_drawback_Total)
theorem t_law48_DrawbackSums_ok : TSound Try.prog t_law48_DrawbackSums := (TSound.upd (TSound.upd (TSound.upd (TSound.upd (TSound.upd (TSound.upd (TSound.upd TSound.zero F_law48_awake_ok) F_ref48_Few_ok) F_slices_Clone_Paid_ok) F_drawback_Refund_ok) F_slices_Clone_Claim_ok) F_drawback_Left_ok) F_drawback_Total_ok)
@[simp] theorem t_law48_DrawbackSums_10 : t_law48_DrawbackSums 10 = some F_law48_awake := rfl
@[simp] theorem t_law48_DrawbackSums_11 : t_law48_DrawbackSums 11 = some F_ref48_Few := rfl
@[simp] theorem t_law48_DrawbackSums_13 : t_law48_DrawbackSums 13 = some F_slices_Clone_Paid := rfl
@[simp] theorem t_law48_DrawbackSums_15 : t_law48_DrawbackSums 15 = some F_drawback_Refund := rfl
@[simp] theorem t_law48_DrawbackSums_16 : t_law48_DrawbackSums 16 = some F_slices_Clone_Claim := rfl
@[simp] theorem t_law48_DrawbackSums_19 : t_law48_DrawbackSums 19 = some F_drawback_Left := rfl
@[simp] theorem t_law48_DrawbackSums_21 : t_law48_DrawbackSums 21 = some F_drawback_Total := rfl
noncomputable def d_law48_DrawbackSums : DTab := (updD (updD (updD D0 13 G_slices_Clone_Paid) 16 G_slices_Clone_Claim) 19 G_drawback_Left)
theorem d_law48_DrawbackSums_ok : DSound Try.prog d_law48_DrawbackSums := (DSound.ro (DSound.ro (DSound.ro DSound.zero G_slices_Clone_Paid_ro F_slices_Clone_Paid_ok) G_slices_Clone_Claim_ro F_slices_Clone_Claim_ok) G_drawback_Left_ro F_drawback_Left_ok)
@[simp] theorem d_law48_DrawbackSums_13 : d_law48_DrawbackSums 13 = some G_slices_Clone_Paid := rfl
@[simp] theorem d_law48_DrawbackSums_16 : d_law48_DrawbackSums 16 = some G_slices_Clone_Claim := rfl
@[simp] theorem d_law48_DrawbackSums_19 : d_law48_DrawbackSums 19 = some G_drawback_Left := rfl
noncomputable def R_law48_DrawbackSums : Fun := runF Try.prog t_law48_DrawbackSums d_law48_DrawbackSums NN [0, 1, 2, 6, 7, 8, 9, 10, 12, 13, 14, 15, 16, 17, 18, 19, 27, 40, 52, 53, 54, 55, 56, 80, 81, 82, 83, 84, 92, 106, 133] Try.f6 3
theorem R_law48_DrawbackSums_ok : CSound Try.prog 6 R_law48_DrawbackSums := run_sound t_law48_DrawbackSums_ok d_law48_DrawbackSums_ok mixed Try.func6 (by kernel_rfl) NN
theorem R_law48_DrawbackSums_eq {β : Type} (K : AV → Hp → Option β) (a0 : AV) (a1 : AV) (a2 : AV) (h : Hp) : (R_law48_DrawbackSums [a0, a1, a2] h).bind (fun p => K p.1 p.2) = f_law48_DrawbackSums Try.prog t_law48_DrawbackSums d_law48_DrawbackSums NN K a0 a1 a2 h := by
  rw [← f_law48_DrawbackSums_run]; exact runF_bind rfl
noncomputable def F_law48_DrawbackSums : Fun := closedX [.l 5, .l 3, .o] [.o] R_law48_DrawbackSums
theorem F_law48_DrawbackSums_ok : CSound Try.prog 6 F_law48_DrawbackSums := closedX_sound _ _ R_law48_DrawbackSums_ok
noncomputable def G_law48_DrawbackSums : DFun := closedXD [.l 5, .l 3, .o] [.o] R_law48_DrawbackSums
theorem G_law48_DrawbackSums_ro : Ro F_law48_DrawbackSums G_law48_DrawbackSums := closedX_ro _ _ _
theorem F_law48_DrawbackSums_run {a0 : AV} {a1 : AV} {a2 : AV} {v : AV} (ha : plains [a0, a1, a2] = true) (hv : f_law48_DrawbackSums Try.prog t_law48_DrawbackSums d_law48_DrawbackSums NN (fun v g => cvt false g v) (nrm (.l 5) a0) (nrm (.l 3) a1) a2 [] = some v) (h : Hp) : F_law48_DrawbackSums [a0, a1, a2] h = some (v, h) := by
  have e : (R_law48_DrawbackSums (nrms [.l 5, .l 3, .o] [a0, a1, a2]) []).bind (fun (p : AV × Hp) => cvt false p.2 p.1) = some v := (R_law48_DrawbackSums_eq (fun v g => cvt false g v) (nrm (.l 5) a0) (nrm (.l 3) a1) a2 []).trans hv
  exact (closedX_bind (shr := [.o]) ha e h).trans (congrArg (fun x => some (x, h)) (nrmR_rep 1 v))
theorem F_law48_DrawbackSums_own {a0 : AV} {a1 : AV} {a2 : AV} {x0 : AV} {x1 : AV} {x2 : AV} {h : Hp} {v : AV} (ha : cvts false h [x0, x1, x2] = some [a0, a1, a2]) (hv : ∀ st, f_law48_DrawbackSums Try.prog t_law48_DrawbackSums d_law48_DrawbackSums NN (fun v g => cvt st g v) (nrm (.l 5) a0) (nrm (.l 3) a1) a2 [] = some v) : F_law48_DrawbackSums [x0, x1, x2] h = some (v, h) := by
  have e : ∀ st, (R_law48_DrawbackSums (nrms [.l 5, .l 3, .o] [a0, a1, a2]) []).bind (fun (p : AV × Hp) => cvt st p.2 p.1) = some v := fun st => (R_law48_DrawbackSums_eq (fun v g => cvt st g v) (nrm (.l 5) a0) (nrm (.l 3) a1) a2 []).trans (hv st)
  exact (closedX_ownB (shr := [.o]) ha e).trans (congrArg (fun x => some (x, h)) (nrmR_rep 1 v))
/-! spile/spilelaw48.DrawbackOthers -/
noncomputable def t_law48_DrawbackOthers : Tab := (updF (updF (updF (updF (updF (updF T0 10 F_law48_awake) 11 F_ref48_Few) 13 F_slices_Clone_Paid) 15 F_drawback_Refund) 16 F_slices_Clone_Claim) 18 F_slices_Equal_int)
theorem t_law48_DrawbackOthers_ok : TSound Try.prog t_law48_DrawbackOthers := (TSound.upd (TSound.upd (TSound.upd (TSound.upd (TSound.upd (TSound.upd TSound.zero F_law48_awake_ok) F_ref48_Few_ok) F_slices_Clone_Paid_ok) F_drawback_Refund_ok) F_slices_Clone_Claim_ok) F_slices_Equal_int_ok)
@[simp] theorem t_law48_DrawbackOthers_10 : t_law48_DrawbackOthers 10 = some F_law48_awake := rfl
@[simp] theorem t_law48_DrawbackOthers_11 : t_law48_DrawbackOthers 11 = some F_ref48_Few := rfl
@[simp] theorem t_law48_DrawbackOthers_13 : t_law48_DrawbackOthers 13 = some F_slices_Clone_Paid := rfl
@[simp] theorem t_law48_DrawbackOthers_15 : t_law48_DrawbackOthers 15 = some F_drawback_Refund := rfl
@[simp] theorem t_law48_DrawbackOthers_16 : t_law48_DrawbackOthers 16 = some F_slices_Clone_Claim := rfl
@[simp] theorem t_law48_DrawbackOthers_18 : t_law48_DrawbackOthers 18 = some F_slices_Equal_int := rfl
noncomputable def d_law48_DrawbackOthers : DTab := D0
theorem d_law48_DrawbackOthers_ok : DSound Try.prog d_law48_DrawbackOthers := DSound.zero
noncomputable def R_law48_DrawbackOthers : Fun := runF Try.prog t_law48_DrawbackOthers d_law48_DrawbackOthers NN [0, 1, 2, 3, 8, 9, 11, 12, 13, 14, 15, 16, 18, 26, 46, 50, 51, 52, 53, 60] Try.f7 4
theorem R_law48_DrawbackOthers_ok : CSound Try.prog 7 R_law48_DrawbackOthers := run_sound t_law48_DrawbackOthers_ok d_law48_DrawbackOthers_ok mixed Try.func7 (by kernel_rfl) NN
theorem R_law48_DrawbackOthers_eq {β : Type} (K : AV → Hp → Option β) (a0 : AV) (a1 : AV) (a2 : AV) (a3 : AV) (h : Hp) : (R_law48_DrawbackOthers [a0, a1, a2, a3] h).bind (fun p => K p.1 p.2) = f_law48_DrawbackOthers Try.prog t_law48_DrawbackOthers d_law48_DrawbackOthers NN K a0 a1 a2 a3 h := by
  rw [← f_law48_DrawbackOthers_run]; exact runF_bind rfl
noncomputable def F_law48_DrawbackOthers : Fun := closedX [.l 5, .l 3, .o, .o] [.o] R_law48_DrawbackOthers
theorem F_law48_DrawbackOthers_ok : CSound Try.prog 7 F_law48_DrawbackOthers := closedX_sound _ _ R_law48_DrawbackOthers_ok
noncomputable def G_law48_DrawbackOthers : DFun := closedXD [.l 5, .l 3, .o, .o] [.o] R_law48_DrawbackOthers
theorem G_law48_DrawbackOthers_ro : Ro F_law48_DrawbackOthers G_law48_DrawbackOthers := closedX_ro _ _ _
theorem F_law48_DrawbackOthers_run {a0 : AV} {a1 : AV} {a2 : AV} {a3 : AV} {v : AV} (ha : plains [a0, a1, a2, a3] = true) (hv : f_law48_DrawbackOthers Try.prog t_law48_DrawbackOthers d_law48_DrawbackOthers NN (fun v g => cvt false g v) (nrm (.l 5) a0) (nrm (.l 3) a1) a2 a3 [] = some v) (h : Hp) : F_law48_DrawbackOthers [a0, a1, a2, a3] h = some (v, h) := by
  have e : (R_law48_DrawbackOthers (nrms [.l 5, .l 3, .o, .o] [a0, a1, a2, a3]) []).bind (fun (p : AV × Hp) => cvt false p.2 p.1) = some v := (R_law48_DrawbackOthers_eq (fun v g => cvt false g v) (nrm (.l 5) a0) (nrm (.l 3) a1) a2 a3 []).trans hv
  exact (closedX_bind (shr := [.o]) ha e h).trans (congrArg (fun x => some (x, h)) (nrmR_rep 1 v))
theorem F_law48_DrawbackOthers_own {a0 : AV} {a1 : AV} {a2 : AV} {a3 : AV} {x0 : AV} {x1 : AV} {x2 : AV} {x3 : AV} {h : Hp} {v : AV} (ha : cvts false h [x0, x1, x2, x3] = some [a0, a1, a2, a3]) (hv : ∀ st, f_law48_DrawbackOthers Try.prog t_law48_DrawbackOthers d_law48_DrawbackOthers NN (fun v g => cvt st g v) (nrm (.l 5) a0) (nrm (.l 3) a1) a2 a3 [] = some v) : F_law48_DrawbackOthers [x0, x1, x2, x3] h = some (v, h) := by
  have e : ∀ st, (R_law48_DrawbackOthers (nrms [.l 5, .l 3, .o, .o] [a0, a1, a2, a3]) []).bind (fun (p : AV × Hp) => cvt st p.2 p.1) = some v := fun st => (R_law48_DrawbackOthers_eq (fun v g => cvt st g v) (nrm (.l 5) a0) (nrm (.l 3) a1) a2 a3 []).trans (hv st)
  exact (closedX_ownB (shr := [.o]) ha e).trans (congrArg (fun x => some (x, h)) (nrmR_rep 1 v))
/-! spile/spilelaw48.DrawbackNear -/
noncomputable def t_law48_DrawbackNear : Tab := (updF (updF (updF T0 10 F_law48_awake) 15 F_drawback_Refund) 25 F_proportion_Of)
theorem t_law48_DrawbackNear_ok : TSound Try.prog t_law48_DrawbackNear := (TSound.upd (TSound.upd (TSound.upd TSound.zero F_law48_awake_ok) F_drawback_Refund_ok) F_proportion_Of_ok)
@[simp] theorem t_law48_DrawbackNear_10 : t_law48_DrawbackNear 10 = some F_law48_awake := rfl
@[simp] theorem t_law48_DrawbackNear_15 : t_law48_DrawbackNear 15 = some F_drawback_Refund := rfl
@[simp] theorem t_law48_DrawbackNear_25 : t_law48_DrawbackNear 25 = some F_proportion_Of := rfl
noncomputable def d_law48_DrawbackNear : DTab := D0
theorem d_law48_DrawbackNear_ok : DSound Try.prog d_law48_DrawbackNear := DSound.zero
noncomputable def R_law48_DrawbackNear : Fun := runF Try.prog t_law48_DrawbackNear d_law48_DrawbackNear NN [0, 1, 2, 3, 6, 7, 8, 10, 11, 13, 14, 16, 18, 36] Try.f8 3
theorem R_law48_DrawbackNear_ok : CSound Try.prog 8 R_law48_DrawbackNear := run_sound t_law48_DrawbackNear_ok d_law48_DrawbackNear_ok mixed Try.func8 (by kernel_rfl) NN
theorem R_law48_DrawbackNear_eq {β : Type} (K : AV → Hp → Option β) (a0 : AV) (a1 : AV) (a2 : AV) (h : Hp) : (R_law48_DrawbackNear [a0, a1, a2] h).bind (fun p => K p.1 p.2) = f_law48_DrawbackNear Try.prog t_law48_DrawbackNear d_law48_DrawbackNear NN K a0 a1 a2 h := by
  rw [← f_law48_DrawbackNear_run]; exact runF_bind rfl
noncomputable def F_law48_DrawbackNear : Fun := closedX [.o, .o, .o] [.o] R_law48_DrawbackNear
theorem F_law48_DrawbackNear_ok : CSound Try.prog 8 F_law48_DrawbackNear := closedX_sound _ _ R_law48_DrawbackNear_ok
noncomputable def G_law48_DrawbackNear : DFun := closedXD [.o, .o, .o] [.o] R_law48_DrawbackNear
theorem G_law48_DrawbackNear_ro : Ro F_law48_DrawbackNear G_law48_DrawbackNear := closedX_ro _ _ _
theorem F_law48_DrawbackNear_run {a0 : AV} {a1 : AV} {a2 : AV} {v : AV} (ha : plains [a0, a1, a2] = true) (hv : f_law48_DrawbackNear Try.prog t_law48_DrawbackNear d_law48_DrawbackNear NN (fun v g => cvt false g v) a0 a1 a2 [] = some v) (h : Hp) : F_law48_DrawbackNear [a0, a1, a2] h = some (v, h) := by
  have e : (R_law48_DrawbackNear (nrms [.o, .o, .o] [a0, a1, a2]) []).bind (fun (p : AV × Hp) => cvt false p.2 p.1) = some v := (R_law48_DrawbackNear_eq (fun v g => cvt false g v) a0 a1 a2 []).trans hv
  exact (closedX_bind (shr := [.o]) ha e h).trans (congrArg (fun x => some (x, h)) (nrmR_rep 1 v))
theorem F_law48_DrawbackNear_own {a0 : AV} {a1 : AV} {a2 : AV} {x0 : AV} {x1 : AV} {x2 : AV} {h : Hp} {v : AV} (ha : cvts false h [x0, x1, x2] = some [a0, a1, a2]) (hv : ∀ st, f_law48_DrawbackNear Try.prog t_law48_DrawbackNear d_law48_DrawbackNear NN (fun v g => cvt st g v) a0 a1 a2 [] = some v) : F_law48_DrawbackNear [x0, x1, x2] h = some (v, h) := by
  have e : ∀ st, (R_law48_DrawbackNear (nrms [.o, .o, .o] [a0, a1, a2]) []).bind (fun (p : AV × Hp) => cvt st p.2 p.1) = some v := fun st => (R_law48_DrawbackNear_eq (fun v g => cvt st g v) a0 a1 a2 []).trans (hv st)
  exact (closedX_ownB (shr := [.o]) ha e).trans (congrArg (fun x => some (x, h)) (nrmR_rep 1 v))
/-! slices.Grow[[]spile/api.Claim,spile/api.Claim] -/
noncomputable def t_slices_Grow_Claim : Tab := T0
theorem t_slices_Grow_Claim_ok : TSound Try.prog t_slices_Grow_Claim := TSound.zero
noncomputable def d_slices_Grow_Claim : DTab := D0
theorem d_slices_Grow_Claim_ok : DSound Try.prog d_slices_Grow_Claim := DSound.zero
noncomputable def R_slices_Grow_Claim : Fun := runF Try.prog t_slices_Grow_Claim d_slices_Grow_Claim NN [0, 1, 4, 6, 16] Try.f37 2
theorem R_slices_Grow_Claim_ok : CSound Try.prog 37 R_slices_Grow_Claim := run_sound t_slices_Grow_Claim_ok d_slices_Grow_Claim_ok mixed Try.func37 (by kernel_rfl) NN
theorem R_slices_Grow_Claim_eq {β : Type} (K : AV → Hp → Option β) (a0 : AV) (a1 : AV) (h : Hp) : (R_slices_Grow_Claim [a0, a1] h).bind (fun p => K p.1 p.2) = f_slices_Grow_Claim Try.prog t_slices_Grow_Claim d_slices_Grow_Claim NN K a0 a1 h := by
  rw [← f_slices_Grow_Claim_run]; exact runF_bind rfl
theorem R_slices_Grow_Claim_raw (a0 : AV) (a1 : AV) (h : Hp) : R_slices_Grow_Claim [a0, a1] h = f_slices_Grow_Claim Try.prog t_slices_Grow_Claim d_slices_Grow_Claim NN (fun v h => some (v, h)) a0 a1 h := (bind_pair _).symm.trans (R_slices_Grow_Claim_eq (fun v h => some (v, h)) a0 a1 h)
noncomputable def F_slices_Grow_Claim : Fun := closedX [.l 3, .o] [.l 3] R_slices_Grow_Claim
theorem F_slices_Grow_Claim_ok : CSound Try.prog 37 F_slices_Grow_Claim := closedX_sound _ _ R_slices_Grow_Claim_ok
noncomputable def G_slices_Grow_Claim : DFun := closedXD [.l 3, .o] [.l 3] R_slices_Grow_Claim
theorem G_slices_Grow_Claim_ro : Ro F_slices_Grow_Claim G_slices_Grow_Claim := closedX_ro _ _ _
theorem F_slices_Grow_Claim_run {a0 : AV} {a1 : AV} {v : AV} (ha : plains [a0, a1] = true) (hv : f_slices_Grow_Claim Try.prog t_slices_Grow_Claim d_slices_Grow_Claim NN (fun v g => cvt false g v) (nrm (.l 3) a0) a1 [] = some v) (h : Hp) : F_slices_Grow_Claim [a0, a1] h = some ((nrmR [.l 3] v), h) := by
  have e : (R_slices_Grow_Claim (nrms [.l 3, .o] [a0, a1]) []).bind (fun (p : AV × Hp) => cvt false p.2 p.1) = some v := (R_slices_Grow_Claim_eq (fun v g => cvt false g v) (nrm (.l 3) a0) a1 []).trans hv
  exact (closedX_bind (shr := [.l 3]) ha e h).trans (congrArg (fun x => some (x, h)) rfl)
theorem F_slices_Grow_Claim_own {a0 : AV} {a1 : AV} {x0 : AV} {x1 : AV} {h : Hp} {v : AV} (ha : cvts false h [x0, x1] = some [a0, a1]) (hv : ∀ st, f_slices_Grow_Claim Try.prog t_slices_Grow_Claim d_slices_Grow_Claim NN (fun v g => cvt st g v) (nrm (.l 3) a0) a1 [] = some v) : F_slices_Grow_Claim [x0, x1] h = some ((nrmR [.l 3] v), h) := by
  have e : ∀ st, (R_slices_Grow_Claim (nrms [.l 3, .o] [a0, a1]) []).bind (fun (p : AV × Hp) => cvt st p.2 p.1) = some v := fun st => (R_slices_Grow_Claim_eq (fun v g => cvt st g v) (nrm (.l 3) a0) a1 []).trans (hv st)
  exact (closedX_ownB (shr := [.l 3]) ha e).trans (congrArg (fun x => some (x, h)) rfl)
/-! slices.Concat[[]spile/api.Claim,spile/api.Claim] -/
noncomputable def t_slices_Concat_Claim : Tab := (updF T0 37 R_slices_Grow_Claim)
theorem t_slices_Concat_Claim_ok : TSound Try.prog t_slices_Concat_Claim := (TSound.upd TSound.zero R_slices_Grow_Claim_ok)
@[simp] theorem t_slices_Concat_Claim_37 : t_slices_Concat_Claim 37 = some R_slices_Grow_Claim := rfl
noncomputable def d_slices_Concat_Claim : DTab := D0
theorem d_slices_Concat_Claim_ok : DSound Try.prog d_slices_Concat_Claim := DSound.zero
noncomputable def R_slices_Concat_Claim : Fun := runF Try.prog t_slices_Concat_Claim d_slices_Concat_Claim NN [0, 2, 3, 5, 6, 8, 9, 10, 11, 12, 20, 25, 26, 27, 28] Try.f26 1
theorem R_slices_Concat_Claim_ok : CSound Try.prog 26 R_slices_Concat_Claim := run_sound t_slices_Concat_Claim_ok d_slices_Concat_Claim_ok mixed Try.func26 (by kernel_rfl) NN
theorem R_slices_Concat_Claim_eq {β : Type} (K : AV → Hp → Option β) (a0 : AV) (h : Hp) : (R_slices_Concat_Claim [a0] h).bind (fun p => K p.1 p.2) = f_slices_Concat_Claim Try.prog t_slices_Concat_Claim d_slices_Concat_Claim NN K a0 h := by
  rw [← f_slices_Concat_Claim_run]; exact runF_bind rfl
noncomputable def F_slices_Concat_Claim : Fun := closedX [.l 1] [.l 3] R_slices_Concat_Claim
theorem F_slices_Concat_Claim_ok : CSound Try.prog 26 F_slices_Concat_Claim := closedX_sound _ _ R_slices_Concat_Claim_ok
noncomputable def G_slices_Concat_Claim : DFun := closedXD [.l 1] [.l 3] R_slices_Concat_Claim
theorem G_slices_Concat_Claim_ro : Ro F_slices_Concat_Claim G_slices_Concat_Claim := closedX_ro _ _ _
theorem F_slices_Concat_Claim_run {a0 : AV} {v : AV} (ha : plains [a0] = true) (hv : f_slices_Concat_Claim Try.prog t_slices_Concat_Claim d_slices_Concat_Claim NN (fun v g => cvt false g v) (nrm (.l 1) a0) [] = some v) (h : Hp) : F_slices_Concat_Claim [a0] h = some ((nrmR [.l 3] v), h) := by
  have e : (R_slices_Concat_Claim (nrms [.l 1] [a0]) []).bind (fun (p : AV × Hp) => cvt false p.2 p.1) = some v := (R_slices_Concat_Claim_eq (fun v g => cvt false g v) (nrm (.l 1) a0) []).trans hv
  exact (closedX_bind (shr := [.l 3]) ha e h).trans (congrArg (fun x => some (x, h)) rfl)
theorem F_slices_Concat_Claim_own {a0 : AV} {x0 : AV} {h : Hp} {v : AV} (ha : cvts false h [x0] = some [a0]) (hv : ∀ st, f_slices_Concat_Claim Try.prog t_slices_Concat_Claim d_slices_Concat_Claim NN (fun v g => cvt st g v) (nrm (.l 1) a0) [] = some v) : F_slices_Concat_Claim [x0] h = some ((nrmR [.l 3] v), h) := by
  have e : ∀ st, (R_slices_Concat_Claim (nrms [.l 1] [a0]) []).bind (fun (p : AV × Hp) => cvt st p.2 p.1) = some v := fun st => (R_slices_Concat_Claim_eq (fun v g => cvt st g v) (nrm (.l 1) a0) []).trans (hv st)
  exact (closedX_ownB (shr := [.l 3]) ha e).trans (congrArg (fun x => some (x, h)) rfl)
/-! spile/spilelaw48.DrawbackDivided -/
noncomputable def t_law48_DrawbackDivided : Tab := (updF (updF (updF (updF (updF (updF (updF T0 10 F_law48_awake) 11 F_ref48_Few) 13 F_slices_Clone_Paid) 15 F_drawback_Refund) 16 F_slices_Clone_Claim) 18 F_slices_Equal_int) 26 F_slices_Concat_Claim)
theorem t_law48_DrawbackDivided_ok : TSound Try.prog t_law48_DrawbackDivided := (TSound.upd (TSound.upd (TSound.upd (TSound.upd (TSound.upd (TSound.upd (TSound.upd TSound.zero F_law48_awake_ok) F_ref48_Few_ok) F_slices_Clone_Paid_ok) F_drawback_Refund_ok) F_slices_Clone_Claim_ok) F_slices_Equal_int_ok) F_slices_Concat_Claim_ok)
@[simp] theorem t_law48_DrawbackDivided_10 : t_law48_DrawbackDivided 10 = some F_law48_awake := rfl
@[simp] theorem t_law48_DrawbackDivided_11 : t_law48_DrawbackDivided 11 = some F_ref48_Few := rfl
@[simp] theorem t_law48_DrawbackDivided_13 : t_law48_DrawbackDivided 13 = some F_slices_Clone_Paid := rfl
@[simp] theorem t_law48_DrawbackDivided_15 : t_law48_DrawbackDivided 15 = some F_drawback_Refund := rfl
@[simp] theorem t_law48_DrawbackDivided_16 : t_law48_DrawbackDivided 16 = some F_slices_Clone_Claim := rfl
@[simp] theorem t_law48_DrawbackDivided_18 : t_law48_DrawbackDivided 18 = some F_slices_Equal_int := rfl
@[simp] theorem t_law48_DrawbackDivided_26 : t_law48_DrawbackDivided 26 = some F_slices_Concat_Claim := rfl
noncomputable def d_law48_DrawbackDivided : DTab := (updD (updD (updD D0 13 G_slices_Clone_Paid) 15 G_drawback_Refund) 26 G_slices_Concat_Claim)
theorem d_law48_DrawbackDivided_ok : DSound Try.prog d_law48_DrawbackDivided := (DSound.ro (DSound.ro (DSound.ro DSound.zero G_slices_Clone_Paid_ro F_slices_Clone_Paid_ok) G_drawback_Refund_ro F_drawback_Refund_ok) G_slices_Concat_Claim_ro F_slices_Concat_Claim_ok)
@[simp] theorem d_law48_DrawbackDivided_13 : d_law48_DrawbackDivided 13 = some G_slices_Clone_Paid := rfl
@[simp] theorem d_law48_DrawbackDivided_15 : d_law48_DrawbackDivided 15 = some G_drawback_Refund := rfl
@[simp] theorem d_law48_DrawbackDivided_26 : d_law48_DrawbackDivided 26 = some G_slices_Concat_Claim := rfl
noncomputable def R_law48_DrawbackDivided : Fun := runF Try.prog t_law48_DrawbackDivided d_law48_DrawbackDivided NN [0, 1, 2, 3, 4, 10, 11, 13, 14, 15, 16, 17, 18, 19, 20, 38, 71] Try.f9 5
theorem R_law48_DrawbackDivided_ok : CSound Try.prog 9 R_law48_DrawbackDivided := run_sound t_law48_DrawbackDivided_ok d_law48_DrawbackDivided_ok mixed Try.func9 (by kernel_rfl) NN
theorem R_law48_DrawbackDivided_eq {β : Type} (K : AV → Hp → Option β) (a0 : AV) (a1 : AV) (a2 : AV) (a3 : AV) (a4 : AV) (h : Hp) : (R_law48_DrawbackDivided [a0, a1, a2, a3, a4] h).bind (fun p => K p.1 p.2) = f_law48_DrawbackDivided Try.prog t_law48_DrawbackDivided d_law48_DrawbackDivided NN K a0 a1 a2 a3 a4 h := by
  rw [← f_law48_DrawbackDivided_run]; exact runF_bind rfl
noncomputable def F_law48_DrawbackDivided : Fun := closedX [.l 5, .l 3, .o, .o, .o] [.o] R_law48_DrawbackDivided
theorem F_law48_DrawbackDivided_ok : CSound Try.prog 9 F_law48_DrawbackDivided := closedX_sound _ _ R_law48_DrawbackDivided_ok
noncomputable def G_law48_DrawbackDivided : DFun := closedXD [.l 5, .l 3, .o, .o, .o] [.o] R_law48_DrawbackDivided
theorem G_law48_DrawbackDivided_ro : Ro F_law48_DrawbackDivided G_law48_DrawbackDivided := closedX_ro _ _ _
theorem F_law48_DrawbackDivided_run {a0 : AV} {a1 : AV} {a2 : AV} {a3 : AV} {a4 : AV} {v : AV} (ha : plains [a0, a1, a2, a3, a4] = true) (hv : f_law48_DrawbackDivided Try.prog t_law48_DrawbackDivided d_law48_DrawbackDivided NN (fun v g => cvt false g v) (nrm (.l 5) a0) (nrm (.l 3) a1) a2 a3 a4 [] = some v) (h : Hp) : F_law48_DrawbackDivided [a0, a1, a2, a3, a4] h = some (v, h) := by
  have e : (R_law48_DrawbackDivided (nrms [.l 5, .l 3, .o, .o, .o] [a0, a1, a2, a3, a4]) []).bind (fun (p : AV × Hp) => cvt false p.2 p.1) = some v := (R_law48_DrawbackDivided_eq (fun v g => cvt false g v) (nrm (.l 5) a0) (nrm (.l 3) a1) a2 a3 a4 []).trans hv
  exact (closedX_bind (shr := [.o]) ha e h).trans (congrArg (fun x => some (x, h)) (nrmR_rep 1 v))
theorem F_law48_DrawbackDivided_own {a0 : AV} {a1 : AV} {a2 : AV} {a3 : AV} {a4 : AV} {x0 : AV} {x1 : AV} {x2 : AV} {x3 : AV} {x4 : AV} {h : Hp} {v : AV} (ha : cvts false h [x0, x1, x2, x3, x4] = some [a0, a1, a2, a3, a4]) (hv : ∀ st, f_law48_DrawbackDivided Try.prog t_law48_DrawbackDivided d_law48_DrawbackDivided NN (fun v g => cvt st g v) (nrm (.l 5) a0) (nrm (.l 3) a1) a2 a3 a4 [] = some v) : F_law48_DrawbackDivided [x0, x1, x2, x3, x4] h = some (v, h) := by
  have e : ∀ st, (R_law48_DrawbackDivided (nrms [.l 5, .l 3, .o, .o, .o] [a0, a1, a2, a3, a4]) []).bind (fun (p : AV × Hp) => cvt st p.2 p.1) = some v := fun st => (R_law48_DrawbackDivided_eq (fun v g => cvt st g v) (nrm (.l 5) a0) (nrm (.l 3) a1) a2 a3 a4 []).trans (hv st)
  exact (closedX_ownB (shr := [.o]) ha e).trans (congrArg (fun x => some (x, h)) (nrmR_rep 1 v))
end Go.AM

/-! The arithmetic under a division of 128 bits by 64 (Knuth's algorithm D with two digits). Plain natural numbers. -/
set_option linter.unusedVariables false
namespace Go.AM.Div
/-- One digit: x b + c over y, where y has two digits. -/
theorem le_iff {b y1 y0 x c q r : Nat} (hx : x = q * y1 + r) : q * (y1 * b + y0) ≤ x * b + c ↔ q * y0 ≤ b * r + c := by
  have e1 : q * (y1 * b + y0) = q * y1 * b + q * y0 := by rw [Nat.mul_add, Nat.mul_assoc]
  have e2 : x * b + c = q * y1 * b + (b * r + c) := by rw [hx, Nat.add_mul, Nat.mul_comm r b]; omega
  rw [e1, e2]
  omega
theorem start_le {b y1 y0 x c : Nat} (hb : 0 < b) (hy1 : 0 < y1) (hc : c < b) : (x * b + c) / (y1 * b + y0) ≤ x / y1 := by
  have hy : 0 < y1 * b + y0 := by have := Nat.mul_pos hy1 hb; omega
  rw [Nat.le_div_iff_mul_le hy1]
  generalize hQ : (x * b + c) / (y1 * b + y0) = Q
  have h1 : Q * (y1 * b + y0) ≤ x * b + c := by rw [← hQ]; exact Nat.div_mul_le_self _ _
  rcases Nat.lt_or_ge x (Q * y1) with h2 | h2
  · exfalso
    have h3 : (x + 1) * b ≤ Q * y1 * b := Nat.mul_le_mul_right _ h2
    rw [Nat.mul_add, ← Nat.mul_assoc] at h1
    rw [Nat.add_mul] at h3
    omega
  · exact h2
theorem lt_base {b y x c : Nat} (hc : c < b) (hx : x < y) : (x * b + c) / y < b := by
  rw [Nat.div_lt_iff_lt_mul (by omega)]
  have : (x + 1) * b ≤ y * b := Nat.mul_le_mul_right _ hx
  rw [Nat.add_mul] at this
  rw [Nat.mul_comm b y]
  omega
/-- The digit is not too great: then it is the quotient. -/
theorem digit_eq {b y1 y0 x c q r : Nat} (hy : 0 < y1 * b + y0) (hx : x = q * y1 + r) (hQ : (x * b + c) / (y1 * b + y0) ≤ q) (hle : q * y0 ≤ b * r + c) : q = (x * b + c) / (y1 * b + y0) := by
  have := (Nat.le_div_iff_mul_le hy).2 ((le_iff (c := c) (b := b) (y0 := y0) hx).2 hle)
  omega
/-- The digit is too great. -/
theorem digit_gt {b y1 y0 x c q r : Nat} (hy : 0 < y1 * b + y0) (hxy : x < y1 * b + y0) (hc : c < b) (hx : x = q * y1 + r) (hg : b ≤ q ∨ b * r + c < q * y0) : (x * b + c) / (y1 * b + y0) < q := by
  rcases hg with hg | hg
  · have := lt_base hc hxy; omega
  · rw [Nat.div_lt_iff_lt_mul hy]
    have := mt (le_iff (c := c) (b := b) (y0 := y0) hx).1 (by omega)
    omega
/-- The rest has a digit more: then it is the quotient. -/
theorem digit_big {b y1 y0 x c q r : Nat} (hb : 0 < b) (hy0 : y0 < b) (hy1 : 0 < y1) (hxy : x < y1 * b + y0) (hx : x = q * y1 + r) (hr : b ≤ r) (hQ : (x * b + c) / (y1 * b + y0) ≤ q) : q = (x * b + c) / (y1 * b + y0) := by
  have hy : 0 < y1 * b + y0 := by have := Nat.mul_pos hy1 hb; omega
  have hqb : q < b := by
    rcases Nat.lt_or_ge q b with h | h
    · exact h
    · exfalso
      have h1 : b * y1 ≤ q * y1 := Nat.mul_le_mul_right _ h
      rw [Nat.mul_comm b y1] at h1
      omega
  refine digit_eq hy hx hQ ?_
  have h1 : q * y0 ≤ b * b := Nat.mul_le_mul (by omega) (by omega)
  have h2 : b * b ≤ b * r := Nat.mul_le_mul_left _ hr
  omega
/-- Two digits, one behind the other. -/
theorem two_digits {b y x c1 c0 : Nat} (hb : 0 < b) (hc1 : c1 < b) (hc0 : c0 < b) (hy : 0 < y) (hx : x < y) :
    (x * b + c1) / y * b + ((x * b + c1) % y * b + c0) / y = (x * (b * b) + c1 * b + c0) / y ∧ ((x * b + c1) % y * b + c0) % y = (x * (b * b) + c1 * b + c0) % y := by
  have e : x * (b * b) + c1 * b + c0 = ((x * b + c1) % y * b + c0) + y * ((x * b + c1) / y * b) := by
    have h1 := Nat.mod_add_div (x * b + c1) y
    have h2 : (x * b + c1) * b = (x * b + c1) % y * b + y * ((x * b + c1) / y * b) := by
      have : ((x * b + c1) % y + y * ((x * b + c1) / y)) * b = (x * b + c1) % y * b + y * ((x * b + c1) / y * b) := by rw [Nat.add_mul, Nat.mul_assoc]
      rw [← this, h1]
    rw [Nat.add_mul, Nat.mul_assoc] at h2
    omega
  rw [e, Nat.add_mul_div_left _ _ hy, Nat.add_mul_mod_self_left]
  exact ⟨Nat.add_comm _ _, rfl⟩
/-- Numbers that are made greater by a power of two. -/
theorem scaled {u y s : Nat} (hs : 0 < s) : (u * s) / (y * s) = u / y ∧ (u * s) % (y * s) = u % y * s :=
  ⟨Nat.mul_div_mul_right _ _ hs, Nat.mul_mod_mul_right _ _ _⟩
end Go.AM.Div

/- math/bits: the high and the low half of a product, the length of a number, and the quotient of 128 bits by 64. -/
namespace Go.AM
open Go.Proofs
set_option linter.unusedVariables false
set_option linter.unusedSimpArgs false
set_option linter.constructorNameAsVariable false
set_option maxRecDepth 20000
section
variable {β : Type} {P : Program} {T : Tab} {D : DTab} {N : Nat}
theorem dec_u (a b : Nat) : decide ((a : Int) ≤ (b : Int)) = decide (a ≤ b) := by apply decide_eq_decide.2; omega
theorem dec_ul (a b : Nat) : decide ((a : Int) < (b : Int)) = decide (a < b) := by apply decide_eq_decide.2; omega
theorem b8_step {xn : AV → AV → AV → AV → AV → AV → AV → AV → AV → Hp → Option β} {x0 : AV → AV → AV → AV → AV → AV → AV → AV → Hp → Option β} {v2 v8 v11 v14 : AV} {h : Hp} {q r y1 y0 c : Nat}
    (hq : q < 17179869184) (hr : r < 4294967296) (hy1 : y1 < 4294967296) (hy0 : y0 < 4294967296) (hc : c < 4294967296) (h0 : 4294967296 ≤ q ∨ 4294967296 * r + c < q * y0 → 0 < q) :
    f_bits_Div64_b8 P T D N xn x0 v2 v8 (U y1) (U y0) v11 (U c) v14 (U q) (U r) h = if 4294967296 ≤ q ∨ 4294967296 * r + c < q * y0 then (if 4294967296 ≤ r + y1 then x0 v2 v8 (U y1) (U y0) v11 (U c) v14 (U (q - 1)) h else xn v2 v8 (U y1) (U y0) v11 (U c) v14 (U (q - 1)) (U (r + y1)) h)
      else x0 v2 v8 (U y1) (U y0) v11 (U c) v14 (U q) h := by
  have m1 : ∀ kk : AV → Option β, arithK .mul (.s (.int .u64 4294967296)) (U r) kk = kk (U (4294967296 * r)) := fun kk => u_mul 4294967296 r (by omega) kk
  have a1 : ∀ kk : AV → Option β, arithK .add (U (4294967296 * r)) (U c) kk = kk (U (4294967296 * r + c)) := fun kk => u_add _ _ (by omega) kk
  have a2 : ∀ kk : AV → Option β, arithK .add (U r) (U y1) kk = kk (U (r + y1)) := fun kk => u_add _ _ (by omega) kk
  have g1 : ∀ (a b : Nat) (kk : AV → Option β), arithK .geq (U a) (.s (.int .u64 (b : Int))) kk = kk (.s (.bool (decide (b ≤ a)))) := fun a b kk => by rw [arithK_geq, dec_u]
  have g2 : ∀ (a : Nat) (kk : AV → Option β), arithK .geq (U a) (.s (.int .u64 4294967296)) kk = kk (.s (.bool (decide (4294967296 ≤ a)))) := fun a kk => g1 a 4294967296 kk
  have tail : 0 < q → (arithK .sub (U q) (.s (.int .u64 1)) fun x54 => arithK .add (U r) (U y1) fun x55 => arithK .geq x55 (.s (.int .u64 4294967296)) fun x56 => condK x56 (x0 v2 v8 (U y1) (U y0) v11 (U c) v14 x54 h) (xn v2 v8 (U y1) (U y0) v11 (U c) v14 x54 x55 h)) =
      if 4294967296 ≤ r + y1 then x0 v2 v8 (U y1) (U y0) v11 (U c) v14 (U (q - 1)) h else xn v2 v8 (U y1) (U y0) v11 (U c) v14 (U (q - 1)) (U (r + y1)) h := by
    intro h0
    have s1 : ∀ kk : AV → Option β, arithK .sub (U q) (.s (.int .u64 1)) kk = kk (U (q - 1)) := fun kk => u_sub q 1 h0 (by omega) kk
    rw [s1, a2, g2, condK_bool]
    simp
  unfold f_bits_Div64_b8
  rw [g2]
  by_cases hb : 4294967296 ≤ q
  · rw [decide_eq_true hb, grpK_ft, condK_bool, if_pos rfl, if_pos (.inl hb), tail (by omega)]
  · have hp : q * y0 < 18446744073709551616 := by
      have : q * y0 ≤ 4294967295 * 4294967295 := Nat.mul_le_mul (by omega) (by omega)
      omega
    have m2 : ∀ kk : AV → Option β, arithK .mul (U q) (U y0) kk = kk (U (q * y0)) := fun kk => u_mul _ _ hp kk
    rw [decide_eq_false hb, grpK_ff, m2, m1, a1, arithK_gtr, dec_ul]
    dsimp only
    rw [condK_bool]
    by_cases hl : 4294967296 * r + c < q * y0
    · rw [decide_eq_true hl, if_pos rfl, if_pos (.inr hl), tail (h0 (.inr hl))]
    · rw [decide_eq_false hl, if_neg (by simp), if_neg (by omega)]
theorem b6_step {xn : AV → AV → AV → AV → AV → AV → AV → AV → AV → Hp → Option β} {x2 : AV → AV → AV → AV → AV → AV → Hp → Option β} {v2 v8 v15 v17 : AV} {h : Hp} {q r y1 y0 c : Nat}
    (hq : q < 17179869184) (hr : r < 4294967296) (hy1 : y1 < 4294967296) (hy0 : y0 < 4294967296) (hc : c < 4294967296) (h0 : 4294967296 ≤ q ∨ 4294967296 * r + c < q * y0 → 0 < q) :
    f_bits_Div64_b6 P T D N xn x2 v2 v8 (U y1) (U y0) (U c) v15 (U r) v17 (U q) h = if 4294967296 ≤ q ∨ 4294967296 * r + c < q * y0 then (if 4294967296 ≤ r + y1 then x2 v2 v8 (U c) v15 v17 (U (q - 1)) h else xn v2 v8 (U y1) (U y0) (U c) v15 (U (r + y1)) v17 (U (q - 1)) h)
      else x2 v2 v8 (U c) v15 v17 (U q) h := by
  have m1 : ∀ kk : AV → Option β, arithK .mul (.s (.int .u64 4294967296)) (U r) kk = kk (U (4294967296 * r)) := fun kk => u_mul 4294967296 r (by omega) kk
  have a1 : ∀ kk : AV → Option β, arithK .add (U (4294967296 * r)) (U c) kk = kk (U (4294967296 * r + c)) := fun kk => u_add _ _ (by omega) kk
  have a2 : ∀ kk : AV → Option β, arithK .add (U r) (U y1) kk = kk (U (r + y1)) := fun kk => u_add _ _ (by omega) kk
  have g1 : ∀ (a b : Nat) (kk : AV → Option β), arithK .geq (U a) (.s (.int .u64 (b : Int))) kk = kk (.s (.bool (decide (b ≤ a)))) := fun a b kk => by rw [arithK_geq, dec_u]
  have g2 : ∀ (a : Nat) (kk : AV → Option β), arithK .geq (U a) (.s (.int .u64 4294967296)) kk = kk (.s (.bool (decide (4294967296 ≤ a)))) := fun a kk => g1 a 4294967296 kk
  have tail : 0 < q → (arithK .sub (U q) (.s (.int .u64 1)) fun x54 => arithK .add (U r) (U y1) fun x55 => arithK .geq x55 (.s (.int .u64 4294967296)) fun x56 => condK x56 (x2 v2 v8 (U c) v15 v17 x54 h) (xn v2 v8 (U y1) (U y0) (U c) v15 x55 v17 x54 h)) =
      if 4294967296 ≤ r + y1 then x2 v2 v8 (U c) v15 v17 (U (q - 1)) h else xn v2 v8 (U y1) (U y0) (U c) v15 (U (r + y1)) v17 (U (q - 1)) h := by
    intro h0
    have s1 : ∀ kk : AV → Option β, arithK .sub (U q) (.s (.int .u64 1)) kk = kk (U (q - 1)) := fun kk => u_sub q 1 h0 (by omega) kk
    rw [s1, a2, g2, condK_bool]
    simp
  unfold f_bits_Div64_b6
  rw [g2]
  by_cases hb : 4294967296 ≤ q
  · rw [decide_eq_true hb, grpK_ft, condK_bool, if_pos rfl, if_pos (.inl hb), tail (by omega)]
  · have hp : q * y0 < 18446744073709551616 := by
      have : q * y0 ≤ 4294967295 * 4294967295 := Nat.mul_le_mul (by omega) (by omega)
      omega
    have m2 : ∀ kk : AV → Option β, arithK .mul (U q) (U y0) kk = kk (U (q * y0)) := fun kk => u_mul _ _ hp kk
    rw [decide_eq_false hb, grpK_ff, m2, m1, a1, arithK_gtr, dec_ul]
    dsimp only
    rw [condK_bool]
    by_cases hl : 4294967296 * r + c < q * y0
    · rw [decide_eq_true hl, if_pos rfl, if_pos (.inr hl), tail (h0 (.inr hl))]
    · rw [decide_eq_false hl, if_neg (by simp), if_neg (by omega)]
/-- What a step of the loops is to a step of the division. -/
theorem digit_step {y1 y0 c x q r : Nat} (hy1 : y1 < 4294967296) (hy1' : 2147483648 ≤ y1) (hy0 : y0 < 4294967296) (hc : c < 4294967296) (hx : x < y1 * 4294967296 + y0) (hxe : x = q * y1 + r) (hQ : (x * 4294967296 + c) / (y1 * 4294967296 + y0) ≤ q) :
    (¬ (4294967296 ≤ q ∨ 4294967296 * r + c < q * y0) → q = (x * 4294967296 + c) / (y1 * 4294967296 + y0)) ∧
    ((4294967296 ≤ q ∨ 4294967296 * r + c < q * y0) → 0 < q ∧ x = (q - 1) * y1 + (r + y1) ∧ (x * 4294967296 + c) / (y1 * 4294967296 + y0) ≤ q - 1 ∧ (4294967296 ≤ r + y1 → q - 1 = (x * 4294967296 + c) / (y1 * 4294967296 + y0))) := by
  have hy : 0 < y1 * 4294967296 + y0 := by omega
  refine ⟨fun hcond => Div.digit_eq (b := 4294967296) hy hxe hQ (by omega), fun hcond => ?_⟩
  have hgt := Div.digit_gt (b := 4294967296) hy hx hc hxe hcond
  have hpos : 0 < q := Nat.lt_of_le_of_lt (Nat.zero_le _) hgt
  have hle1 := Nat.le_sub_one_of_lt hgt
  have hxe' : x = (q - 1) * y1 + (r + y1) := by
    have : q * y1 = (q - 1) * y1 + y1 := by
      conv => lhs; rw [show q = (q - 1) + 1 by omega, Nat.add_mul]
      omega
    omega
  exact ⟨hpos, hxe', hle1, fun hb => Div.digit_big (b := 4294967296) (by omega) hy0 (by omega) hx hxe' hb hle1⟩
theorem L8_val {x0 : AV → AV → AV → AV → AV → AV → AV → AV → Hp → Option β} {v2 v8 v11 v14 : AV} {h : Hp} {y1 y0 c x : Nat} (hy1 : y1 < 4294967296) (hy1' : 2147483648 ≤ y1) (hy0 : y0 < 4294967296) (hc : c < 4294967296) (hx : x < y1 * 4294967296 + y0) :
    ∀ (m q r : Nat), q < 17179869184 → r < 4294967296 → 4294967296 ≤ r + m * 2147483648 → x = q * y1 + r → (x * 4294967296 + c) / (y1 * 4294967296 + y0) ≤ q →
      f_bits_Div64_L8 P T D N x0 (m + 1) v2 v8 (U y1) (U y0) v11 (U c) v14 (U q) (U r) h = x0 v2 v8 (U y1) (U y0) v11 (U c) v14 (U ((x * 4294967296 + c) / (y1 * 4294967296 + y0))) h := by
  intro m
  induction m with
  | zero => intro q r _ hr hm; omega
  | succ m ih =>
    intro q r hq hr hm hxe hQ
    obtain ⟨d1, d2⟩ := digit_step hy1 hy1' hy0 hc hx hxe hQ
    show f_bits_Div64_b8 P T D N (f_bits_Div64_L8 P T D N x0 (m + 1)) x0 v2 v8 (U y1) (U y0) v11 (U c) v14 (U q) (U r) h = _
    rw [b8_step hq hr hy1 hy0 hc (fun hc => (d2 hc).1)]
    split
    · rename_i hcond
      obtain ⟨e1, e2, e3, e4⟩ := d2 hcond
      split
      · rename_i hb
        rw [e4 hb]
      · exact ih (q - 1) (r + y1) (by omega) (by omega) (by omega) e2 e3
    · rename_i hcond
      rw [← d1 hcond]
theorem L6_val {x2 : AV → AV → AV → AV → AV → AV → Hp → Option β} {v2 v8 v15 v17 : AV} {h : Hp} {y1 y0 c x : Nat} (hy1 : y1 < 4294967296) (hy1' : 2147483648 ≤ y1) (hy0 : y0 < 4294967296) (hc : c < 4294967296) (hx : x < y1 * 4294967296 + y0) :
    ∀ (m q r : Nat), q < 17179869184 → r < 4294967296 → 4294967296 ≤ r + m * 2147483648 → x = q * y1 + r → (x * 4294967296 + c) / (y1 * 4294967296 + y0) ≤ q →
      f_bits_Div64_L6 P T D N x2 (m + 1) v2 v8 (U y1) (U y0) (U c) v15 (U r) v17 (U q) h = x2 v2 v8 (U c) v15 v17 (U ((x * 4294967296 + c) / (y1 * 4294967296 + y0))) h := by
  intro m
  induction m with
  | zero => intro q r _ hr hm; omega
  | succ m ih =>
    intro q r hq hr hm hxe hQ
    obtain ⟨d1, d2⟩ := digit_step hy1 hy1' hy0 hc hx hxe hQ
    show f_bits_Div64_b6 P T D N (f_bits_Div64_L6 P T D N x2 (m + 1)) x2 v2 v8 (U y1) (U y0) (U c) v15 (U r) v17 (U q) h = _
    rw [b6_step hq hr hy1 hy0 hc (fun hc => (d2 hc).1)]
    split
    · rename_i hcond
      obtain ⟨e1, e2, e3, e4⟩ := d2 hcond
      split
      · rename_i hb
        rw [e4 hb]
      · exact ih (q - 1) (r + y1) (by omega) (by omega) (by omega) e2 e3
    · rename_i hcond
      rw [← d1 hcond]
/-! ### The length of a number -/
def tab8 : List UInt8 := ([0, 1] ++ List.replicate 2 2 ++ List.replicate 4 3 ++ List.replicate 8 4 ++ List.replicate 16 5 ++ List.replicate 32 6 ++ List.replicate 64 7 ++ List.replicate 128 8)
theorem tab8_get : ∀ y : Fin 256, 0 < y.val → ∃ l : Fin 9, (ByteArray.mk tab8.toArray)[y.val]? = some (UInt8.ofNat l.val) ∧ 2 ^ (l.val - 1) ≤ y.val ∧ y.val < 2 ^ l.val ∧ 0 < l.val := by decide +kernel
variable {K : AV → Hp → Option β}
theorem len_j3 {h : Hp} {y z : Nat} (hy : 0 < y) (hy' : y < 256) (hz' : z ≤ 56) :
    ∃ l : Nat, f_bits_Len64_j3 Try.prog T D N K (U y) (I z) h = K (I ((z + l : Nat) : Int)) h ∧ 2 ^ (l - 1) ≤ y ∧ y < 2 ^ l ∧ 0 < l ∧ l ≤ 8 := by
  obtain ⟨l, h1, h3, h4, h5⟩ := tab8_get ⟨y, hy'⟩ hy
  refine ⟨l.val, ?_, h3, h4, h5, by omega⟩
  unfold f_bits_Len64_j3
  simp only [U]
  rw [convK_int un_77 un_5]
  have hw : IntKind.u8.wrap (y : Int) = (y : Int) := by rw [IntKind.wrap_u8]; omega
  rw [hw]
  have hch : ∀ (k : AV → Option β), chK (.s (.string (ByteArray.mk tab8.toArray))) (.s (.int .u8 (y : Int))) k = k (.s (.int .u8 (l.val : Int))) := by
    intro k
    have h6 : (UInt8.ofNat l.val).toNat = l.val := by
      have := l.isLt
      simp
      omega
    simp only [chK, Int.toNat_natCast, h1, h6]
    rw [if_pos (by omega)]
  refine (hch _).trans ?_
  have hl := l.isLt
  rw [convK_int un_5 un_3, wrap64 (by omega) (by omega), arithK_add, wrap64 (by omega) (by omega)]
  congr 2
theorem up8 (y l s : Nat) (h0 : 0 < y / 2 ^ s) (h1 : 2 ^ (l - 1) ≤ y / 2 ^ s) (h2 : y / 2 ^ s < 2 ^ l) (h3 : 0 < l) : 2 ^ (s + l - 1) ≤ y ∧ y < 2 ^ (s + l) := by
  have hp : 0 < 2 ^ s := Nat.two_pow_pos s
  constructor
  · rw [show s + l - 1 = (l - 1) + s by omega, Nat.pow_add]
    exact (Nat.le_div_iff_mul_le hp).1 h1
  · rw [Nat.add_comm, Nat.pow_add]
    exact (Nat.div_lt_iff_lt_mul hp).1 h2
theorem len_j2 {h : Hp} {y z : Nat} (hy : 0 < y) (hy' : y < 65536) (hz : z ≤ 48) :
    ∃ l : Nat, f_bits_Len64_j2 Try.prog T D N K (U y) (I z) h = K (I ((z + l : Nat) : Int)) h ∧ 2 ^ (l - 1) ≤ y ∧ y < 2 ^ l ∧ 0 < l ∧ l ≤ 16 := by
  unfold f_bits_Len64_j2
  rw [arithK_geq, condK_bool]
  by_cases hb : 256 ≤ y
  · have hd : decide ((256 : Int) ≤ ((y : Nat) : Int)) = true := decide_eq_true (by omega)
    have hs : ∀ k : AV → Option β, reckK Try.prog .shr 77 (U y) (.s (.int .u64 8)) k = k (U (y / 2 ^ 8)) := fun k => reck_shr y 8 (by omega) k
    rw [hd, if_pos rfl, hs, arithK_add, wrap64 (by omega) (by omega)]
    obtain ⟨l, g1, g2, g3, g4, g5⟩ := len_j3 (T := T) (D := D) (N := N) (K := K) (h := h) (y := y / 2 ^ 8) (z := z + 8) (by omega) (by omega) (by omega)
    obtain ⟨u1, u2⟩ := up8 y l 8 (by omega) g2 g3 g4
    exact ⟨8 + l, by rw [show z + (8 + l) = z + 8 + l by omega, ← g1]; congr 4, u1, u2, by omega, by omega⟩
  · have hd : decide ((256 : Int) ≤ ((y : Nat) : Int)) = false := decide_eq_false (by omega)
    rw [hd, if_neg (by simp)]
    obtain ⟨l, g1, g2, g3, g4, g5⟩ := len_j3 (T := T) (D := D) (N := N) (K := K) (h := h) (y := y) (z := z) hy (by omega) (by omega)
    exact ⟨l, g1, g2, g3, g4, by omega⟩
theorem len_j1 {h : Hp} {y z : Nat} (hy : 0 < y) (hy' : y < 4294967296) (hz : z ≤ 32) :
    ∃ l : Nat, f_bits_Len64_j1 Try.prog T D N K (U y) (I z) h = K (I ((z + l : Nat) : Int)) h ∧ 2 ^ (l - 1) ≤ y ∧ y < 2 ^ l ∧ 0 < l ∧ l ≤ 32 := by
  unfold f_bits_Len64_j1
  rw [arithK_geq, condK_bool]
  by_cases hb : 65536 ≤ y
  · have hd : decide ((65536 : Int) ≤ ((y : Nat) : Int)) = true := decide_eq_true (by omega)
    have hs : ∀ k : AV → Option β, reckK Try.prog .shr 77 (U y) (.s (.int .u64 16)) k = k (U (y / 2 ^ 16)) := fun k => reck_shr y 16 (by omega) k
    rw [hd, if_pos rfl, hs, arithK_add, wrap64 (by omega) (by omega)]
    obtain ⟨l, g1, g2, g3, g4, g5⟩ := len_j2 (T := T) (D := D) (N := N) (K := K) (h := h) (y := y / 2 ^ 16) (z := z + 16) (by omega) (by omega) (by omega)
    obtain ⟨u1, u2⟩ := up8 y l 16 (by omega) g2 g3 g4
    exact ⟨16 + l, by rw [show z + (16 + l) = z + 16 + l by omega, ← g1]; congr 4, u1, u2, by omega, by omega⟩
  · have hd : decide ((65536 : Int) ≤ ((y : Nat) : Int)) = false := decide_eq_false (by omega)
    rw [hd, if_neg (by simp)]
    obtain ⟨l, g1, g2, g3, g4, g5⟩ := len_j2 (T := T) (D := D) (N := N) (K := K) (h := h) (y := y) (z := z) hy (by omega) (by omega)
    exact ⟨l, g1, g2, g3, g4, by omega⟩
theorem len_run {y : Nat} (hy : 0 < y) (hy' : y < 18446744073709551616) (h : Hp) : ∃ l : Nat, f_bits_Len64 Try.prog T D N K (U y) h = K (I l) h ∧ 2 ^ (l - 1) ≤ y ∧ y < 2 ^ l ∧ 0 < l ∧ l ≤ 64 := by
  unfold f_bits_Len64
  rw [arithK_geq, condK_bool]
  by_cases hb : 4294967296 ≤ y
  · have hd : decide ((4294967296 : Int) ≤ ((y : Nat) : Int)) = true := decide_eq_true (by omega)
    rw [hd, if_pos rfl, reck_shr32]
    obtain ⟨l, g1, g2, g3, g4, g5⟩ := len_j1 (T := T) (D := D) (N := N) (K := K) (h := h) (y := y / 4294967296) (z := 32) (by omega) (by omega) (by omega)
    obtain ⟨u1, u2⟩ := up8 y l 32 (by omega) g2 g3 g4
    exact ⟨32 + l, g1, u1, u2, by omega, by omega⟩
  · have hd : decide ((4294967296 : Int) ≤ ((y : Nat) : Int)) = false := decide_eq_false (by omega)
    rw [hd, if_neg (by simp)]
    obtain ⟨l, g1, g2, g3, g4, g5⟩ := len_j1 (T := T) (D := D) (N := N) (K := K) (h := h) (y := y) (z := 0) hy (by omega) (by omega)
    rw [Nat.zero_add] at g1
    exact ⟨l, g1, g2, g3, g4, by omega⟩
theorem F_bits_LeadingZeros64_val {y : Nat} (hy : 0 < y) (hy' : y < 18446744073709551616) (h : Hp) : ∃ s : Nat, F_bits_LeadingZeros64 [U y] h = some (I s, h) ∧ s ≤ 63 ∧ 9223372036854775808 ≤ y * 2 ^ s ∧ y * 2 ^ s < 18446744073709551616 := by
  obtain ⟨l, g1, g2, g3, g4, g5⟩ := len_run (T := t_bits_Len64) (D := d_bits_Len64) (N := NN) (K := fun v g => cvt false g v) hy hy' []
  have e59 : ∀ h, F_bits_Len64 [U y] h = some (I l, h) := F_bits_Len64_run rfl g1
  refine ⟨64 - l, F_bits_LeadingZeros64_run (v := I ((64 - l : Nat) : Int)) rfl ?_ h, by omega, ?_, ?_⟩
  · simp only [f_bits_LeadingZeros64, t_bits_LeadingZeros64_59, callK_F, e59, arithK_sub]
    rw [wrap64 (by omega) (by omega)]
    show some (I _) = some (I _)
    congr 3
    omega
  · have : 2 ^ (l - 1) * 2 ^ (64 - l) ≤ y * 2 ^ (64 - l) := Nat.mul_le_mul_right _ g2
    rw [← Nat.pow_add, show l - 1 + (64 - l) = 63 by omega] at this
    exact this
  · have : y * 2 ^ (64 - l) < 2 ^ l * 2 ^ (64 - l) := Nat.mul_lt_mul_of_pos_right g3 (Nat.two_pow_pos _)
    rw [← Nat.pow_add, show l + (64 - l) = 64 by omega] at this
    exact this
/-! ### The division -/
theorem div_j4 {h : Hp} {q1 q0 u c0 y s : Nat} (hq1 : q1 < 4294967296) (hq0 : q0 = (u * 4294967296 + c0) / y) (hq0' : q0 < 4294967296)
    (hy : 0 < y) (hy' : y < 18446744073709551616) (hs : s ≤ 64) : f_bits_Div64_j4 Try.prog T D N K (U y) (U s) (U c0) (U q1) (U u) (U q0) h = K (.tup [U (q1 * 4294967296 + q0), U ((u * 4294967296 + c0) % y / 2 ^ s)]) h := by
  have m1 : ∀ k : AV → Option β, arithK .mul (U q1) (.s (.int .u64 4294967296)) k = k (U (q1 * 4294967296)) := fun k => u_mul q1 4294967296 (by omega) k
  have a1 : ∀ k : AV → Option β, arithK .add (U (q1 * 4294967296)) (U q0) k = k (U (q1 * 4294967296 + q0)) := fun k => u_add _ _ (by omega) k
  have m2 : ∀ k : AV → Option β, arithK .mul (U u) (.s (.int .u64 4294967296)) k = k (U (u * 4294967296 % 18446744073709551616)) := fun k => u_mulM u 4294967296 k
  have hd := Nat.div_add_mod (u * 4294967296 + c0) y
  rw [← hq0] at hd
  have hr := Nat.mod_lt (u * 4294967296 + c0) hy
  generalize hX : (u * 4294967296 + c0) % y = R at hd hr ⊢
  have a2 : ∀ k : AV → Option β, arithK .add (U (u * 4294967296 % 18446744073709551616)) (U c0) k = k (U ((u * 4294967296 + c0) % 18446744073709551616)) := fun k => u_addM _ _ _ (by omega) (by omega) k
  have m3 : ∀ k : AV → Option β, arithK .mul (U q0) (U y) k = k (U (q0 * y % 18446744073709551616)) := fun k => u_mulM q0 y k
  rw [Nat.mul_comm y q0] at hd
  have s1 : ∀ k : AV → Option β, arithK .sub (U ((u * 4294967296 + c0) % 18446744073709551616)) (U (q0 * y % 18446744073709551616)) k = k (U R) := fun k => u_subM _ _ _ (by omega) (by omega) k
  unfold f_bits_Div64_j4
  rw [m1, a1, m2, a2, m3, s1, reck_shr _ _ hs]
theorem div_j3 {h : Hp} {q1 x y1 y0 c1 c0 y s : Nat} (hN : ∃ m, N = m + 3) (hye : y = y1 * 4294967296 + y0) (hy1 : y1 < 4294967296) (hy1' : 2147483648 ≤ y1) (hy0 : y0 < 4294967296) (hc1 : c1 < 4294967296) (hc0 : c0 < 4294967296) (hx : x < y) (hq : q1 = (x * 4294967296 + c1) / y) (hs : s ≤ 64) :
    f_bits_Div64_j3 Try.prog T D N K (U y) (U s) (U y1) (U y0) (U x) (U c1) (U c0) (U q1) h = K (.tup [U ((x * (4294967296 * 4294967296) + c1 * 4294967296 + c0) / y), U ((x * (4294967296 * 4294967296) + c1 * 4294967296 + c0) % y / 2 ^ s)]) h := by
  have hyp : 0 < y := by omega
  have hyl : y < 18446744073709551616 := by omega
  have hq1 : q1 < 4294967296 := by rw [hq]; exact Div.lt_base hc1 hx
  have m2 : ∀ k : AV → Option β, arithK .mul (U x) (.s (.int .u64 4294967296)) k = k (U (x * 4294967296 % 18446744073709551616)) := fun k => u_mulM x 4294967296 k
  have hd := Nat.div_add_mod (x * 4294967296 + c1) y
  rw [← hq] at hd
  have hr := Nat.mod_lt (x * 4294967296 + c1) hyp
  have two := Div.two_digits (b := 4294967296) (c1 := c1) (c0 := c0) (by omega) hc1 hc0 hyp hx
  rw [← hq] at two
  obtain ⟨w, hX⟩ : ∃ w, w = (x * 4294967296 + c1) % y := ⟨_, rfl⟩
  rw [← hX] at hd hr two
  have a2 : ∀ k : AV → Option β, arithK .add (U (x * 4294967296 % 18446744073709551616)) (U c1) k = k (U ((x * 4294967296 + c1) % 18446744073709551616)) := fun k => u_addM _ _ _ (by omega) (by omega) k
  have m3 : ∀ k : AV → Option β, arithK .mul (U q1) (U y) k = k (U (q1 * y % 18446744073709551616)) := fun k => u_mulM q1 y k
  rw [Nat.mul_comm y q1] at hd
  have s1 : ∀ k : AV → Option β, arithK .sub (U ((x * 4294967296 + c1) % 18446744073709551616)) (U (q1 * y % 18446744073709551616)) k = k (U w) := fun k => u_subM _ _ _ (by omega) (by omega) k
  have hdm := Nat.div_add_mod w y1
  have hrm := Nat.mod_lt w (show 0 < y1 by omega)
  have hqle : w / y1 < 17179869184 := by
    rw [Nat.div_lt_iff_lt_mul (by omega)]
    omega
  have hsl : (w * 4294967296 + c0) / (y1 * 4294967296 + y0) ≤ w / y1 := Div.start_le (by omega) (by omega) hc0
  generalize hQ : w / y1 = q0 at hdm hqle hsl
  generalize hR : w % y1 = r at hdm hrm
  rw [Nat.mul_comm y1 q0] at hdm
  have m4 : ∀ k : AV → Option β, arithK .mul (U q0) (U y1) k = k (U (q0 * y1)) := fun k => u_mul _ _ (by omega) k
  have s2 : ∀ k : AV → Option β, arithK .sub (U w) (U (q0 * y1)) k = k (U r) := fun k => by
    rw [u_sub _ _ (by omega) (by omega)]; congr 3; omega
  unfold f_bits_Div64_j3
  rw [m2, a2, m3, s1, reck_quo _ _ (by omega) (by omega), hQ, m4, s2]
  obtain ⟨m, rfl⟩ := hN
  rw [L6_val (x := w) hy1 hy1' hy0 hc0 (by omega) (m + 2) q0 r hqle (by omega) (by omega) (by omega) hsl]
  have hq0b : (w * 4294967296 + c0) / y < 4294967296 := Div.lt_base hc0 hr
  rw [← hye]
  have g := div_j4 (T := T) (D := D) (N := m + 3) (K := K) (h := h) (q1 := q1) (q0 := (w * 4294967296 + c0) / y) (u := w) (c0 := c0) (y := y) (s := s) hq1 rfl hq0b hyp hyl hs
  rw [← two.1, ← two.2]
  exact g
theorem eqK_u (a b : Nat) (h : Hp) (ty : TypeId) (k : Go.AM.K β) : eqK P false ty (U a) (U b) h k = k (.s (.bool (decide (a = b)))) := by
  rw [eqK_int]
  congr 3
  simp
  by_cases hab : a = b
  · subst hab; simp
  · have : ¬ ((a : Int) = (b : Int)) := by omega
    simp [hab, this]
theorem lo_split (lo s : Nat) (hs : s ≤ 64) (hlo : lo < 18446744073709551616) : lo / 2 ^ (64 - s) < 2 ^ s ∧ lo * 2 ^ s = lo / 2 ^ (64 - s) * 18446744073709551616 + lo * 2 ^ s % 18446744073709551616 := by
  have e64 : (18446744073709551616 : Nat) = 2 ^ (64 - s) * 2 ^ s := by rw [← Nat.pow_add, show 64 - s + s = 64 by omega]
  constructor
  · rw [Nat.div_lt_iff_lt_mul (Nat.two_pow_pos _), Nat.mul_comm, ← e64]; exact hlo
  · have h1 : lo * 2 ^ s / 18446744073709551616 = lo / 2 ^ (64 - s) := by
      rw [e64, Nat.mul_div_mul_right _ _ (Nat.two_pow_pos s)]
    have h2 := Nat.div_add_mod (lo * 2 ^ s) 18446744073709551616
    rw [h1, Nat.mul_comm] at h2
    exact h2.symm
theorem div_j2 {h : Hp} {hi lo y : Nat} (hT : T 55 = some F_bits_LeadingZeros64) (hN : ∃ m, N = m + 3) (hhi : hi < y) (hlo : lo < 18446744073709551616) (hy : y < 18446744073709551616) :
    f_bits_Div64_j2 Try.prog T D N K (U hi) (U lo) (U y) h = K (.tup [U ((hi * 18446744073709551616 + lo) / y), U ((hi * 18446744073709551616 + lo) % y)]) h := by
  unfold f_bits_Div64_j2
  have e0 : ∀ k : AV → Option β, eqK Try.prog false 77 (U hi) (.s (.int .u64 0)) h k = k (.s (.bool (decide (hi = 0)))) := fun k => eqK_u hi 0 h _ k
  rw [e0, condK_bool]
  by_cases hz : hi = 0
  · subst hz
    rw [decide_eq_true rfl, if_pos rfl, reck_quo _ _ (by omega) hlo, reck_rem _ _ (by omega)]
    simp
  · rw [decide_eq_false hz, if_neg (by simp)]
    obtain ⟨s, g1, g2, g3, g4⟩ := F_bits_LeadingZeros64_val (y := y) (by omega) hy h
    rw [callK_some hT g1]
    simp only [I]
    rw [cv_3_88]
    have hw : IntKind.u64.wrap (s : Int) = (s : Int) := wrapU (by omega) (by omega)
    rw [hw]
    obtain ⟨Y, hY⟩ : ∃ Y, Y = y * 2 ^ s := ⟨_, rfl⟩
    rw [← hY] at g3 g4
    have ySh : ∀ k : AV → Option β, reckK Try.prog .shl 77 (U y) (U s) k = k (U Y) := fun k => by
      rw [reck_shl _ _ (by omega), ← hY, Nat.mod_eq_of_lt g4]
    rw [ySh, reck_shr32, reck_mask _ g4]
    have hp : 0 < 2 ^ s := Nat.two_pow_pos s
    obtain ⟨hl1, hl2⟩ := lo_split lo s (by omega) hlo
    obtain ⟨H, hH⟩ : ∃ H, H = hi * 2 ^ s := ⟨_, rfl⟩
    obtain ⟨L, hL⟩ : ∃ L, L = lo / 2 ^ (64 - s) := ⟨_, rfl⟩
    obtain ⟨M, hM⟩ : ∃ M, M = lo * 2 ^ s % 18446744073709551616 := ⟨_, rfl⟩
    rw [← hL] at hl1
    rw [← hL, ← hM] at hl2
    have hMl : M < 18446744073709551616 := by rw [hM]; exact Nat.mod_lt _ (by decide)
    -- the shifted number, and its digits
    have hbig : (H + L) * 18446744073709551616 + M = (hi * 18446744073709551616 + lo) * 2 ^ s := by
      rw [Nat.add_mul, Nat.add_mul, hl2, hH, Nat.mul_right_comm]
      omega
    have hlt : (hi * 18446744073709551616 + lo) * 2 ^ s < y * 18446744073709551616 * 2 ^ s := Nat.mul_lt_mul_of_pos_right (by omega) hp
    have hx : H + L < Y := by
      rw [← hbig, Nat.mul_right_comm, ← hY] at hlt
      omega
    have hHl : H < 18446744073709551616 := by omega
    have hSh : ∀ k : AV → Option β, reckK Try.prog .shl 77 (U hi) (U s) k = k (U H) := fun k => by
      rw [reck_shl _ _ (by omega), ← hH, Nat.mod_eq_of_lt hHl]
    have s64 : ∀ k : AV → Option β, arithK .sub (.s (.int .u64 64)) (U s) k = k (U (64 - s)) := fun k => u_sub 64 s (by omega) (by omega) k
    have hor : H ||| L = H + L := by
      rw [hH, Nat.mul_comm]
      exact (Nat.two_pow_add_eq_or_of_lt hl1 hi).symm
    have lSh : ∀ k : AV → Option β, reckK Try.prog .shl 77 (U lo) (U s) k = k (U M) := fun k => by rw [reck_shl _ _ (by omega), ← hM]
    rw [hSh, s64, reck_shr _ _ (by omega), ← hL, reck_or _ _ hHl (by omega), hor, lSh, reck_shr32, reck_mask _ hMl]
    obtain ⟨x, hxe⟩ : ∃ x, x = H + L := ⟨_, rfl⟩
    rw [← hxe] at hx hbig ⊢
    obtain ⟨y1, hy1⟩ : ∃ y1, y1 = Y / 4294967296 := ⟨_, rfl⟩
    obtain ⟨y0, hy0⟩ : ∃ y0, y0 = Y % 4294967296 := ⟨_, rfl⟩
    obtain ⟨c1, hc1⟩ : ∃ c1, c1 = M / 4294967296 := ⟨_, rfl⟩
    obtain ⟨c0, hc0⟩ : ∃ c0, c0 = M % 4294967296 := ⟨_, rfl⟩
    rw [← hy1, ← hy0, ← hc1, ← hc0]
    have hye : Y = y1 * 4294967296 + y0 := by omega
    have b1 : y1 < 4294967296 := by omega
    have b2 : 2147483648 ≤ y1 := by omega
    have b3 : y0 < 4294967296 := by omega
    have b4 : c1 < 4294967296 := by omega
    have b5 : c0 < 4294967296 := by omega
    have hdm := Nat.div_add_mod x y1
    have hrm := Nat.mod_lt x (show 0 < y1 by omega)
    have hqle : x / y1 < 17179869184 := by
      rw [Nat.div_lt_iff_lt_mul (by omega)]
      omega
    have hsl : (x * 4294967296 + c1) / (y1 * 4294967296 + y0) ≤ x / y1 := Div.start_le (by omega) (by omega) b4
    obtain ⟨q, hq⟩ : ∃ q, q = x / y1 := ⟨_, rfl⟩
    obtain ⟨r, hr⟩ : ∃ r, r = x % y1 := ⟨_, rfl⟩
    rw [← hq] at hdm hqle hsl
    rw [← hr] at hdm hrm
    rw [Nat.mul_comm y1 q] at hdm
    have m4 : ∀ k : AV → Option β, arithK .mul (U q) (U y1) k = k (U (q * y1)) := fun k => u_mul _ _ (by omega) k
    have s2 : ∀ k : AV → Option β, arithK .sub (U x) (U (q * y1)) k = k (U r) := fun k => by
      rw [u_sub _ _ (by omega) (by omega)]; congr 3; omega
    rw [reck_quo _ _ (by omega) (by omega), ← hq, m4, s2]
    obtain ⟨m, rfl⟩ := hN
    rw [L8_val (x := x) b1 b2 b3 b4 (by omega) (m + 2) q r hqle (by omega) (by omega) (by omega) hsl]
    rw [← hye]
    have g := div_j3 (T := T) (D := D) (N := m + 3) (K := K) (h := h) (q1 := (x * 4294967296 + c1) / Y) (x := x) (y1 := y1) (y0 := y0) (c1 := c1) (c0 := c0) (y := Y) (s := s) ⟨m, rfl⟩
      hye b1 b2 b3 b4 b5 hx rfl (by omega)
    have hdig : x * (4294967296 * 4294967296) + c1 * 4294967296 + c0 = (hi * 18446744073709551616 + lo) * 2 ^ s := by
      have hM2 : M = c1 * 4294967296 + c0 := by omega
      refine Eq.trans ?_ hbig
      rw [hM2, show (4294967296 * 4294967296 : Nat) = 18446744073709551616 from by decide, Nat.add_assoc]
    rw [hdig, hY, (Div.scaled hp).1, (Div.scaled hp).2, Nat.mul_div_cancel _ hp] at g
    rw [← hY] at g
    exact g
theorem NN_3 : ∃ m, NN = m + 3 := ⟨NN - 3, (Nat.sub_add_cancel (show 3 ≤ NN by have := NN_ge; omega)).symm⟩
theorem F_bits_Div64_val {hi lo y : Nat} (hhi : hi < y) (hlo : lo < 18446744073709551616) (hy : y < 18446744073709551616) (h : Hp) :
    F_bits_Div64 [U hi, U lo, U y] h = some (.tup [U ((hi * 18446744073709551616 + lo) / y), U ((hi * 18446744073709551616 + lo) % y)], h) := by
  refine F_bits_Div64_run (v := .tup [U ((hi * 18446744073709551616 + lo) / y), U ((hi * 18446744073709551616 + lo) % y)]) rfl ?_ h
  unfold f_bits_Div64
  have e0 : ∀ k : AV → Option AV, eqK Try.prog false 77 (U y) (.s (.int .u64 0)) [] k = k (.s (.bool (decide (y = 0)))) := fun k => eqK_u y 0 [] _ k
  rw [e0, condK_bool, decide_eq_false (by omega), if_neg (by simp)]
  unfold f_bits_Div64_j1
  have e1 : ∀ k : AV → Option AV, arithK .leq (U y) (U hi) k = k (.s (.bool false)) := fun k => by
    rw [arithK_leq, decide_eq_false (by omega)]
  rw [e1, condK_bool, if_neg (by simp)]
  exact div_j2 t_bits_Div64_55 NN_3 hhi hlo hy
theorem F_bits_Mul64_val {x y : Nat} (hx : x < 18446744073709551616) (hy : y < 18446744073709551616) (h : Hp) : F_bits_Mul64 [U x, U y] h = some (.tup [U (x * y / 18446744073709551616), U (x * y % 18446744073709551616)], h) := by
  refine F_bits_Mul64_run (v := .tup [U (x * y / 18446744073709551616), U (x * y % 18446744073709551616)]) rfl ?_ h
  obtain ⟨b1, b2, b3, b4⟩ := Lib.mul64_hi x y hx hy
  have ba := Lib.half_mul_le (a := x / 4294967296) (b := y / 4294967296) (by omega) (by omega)
  have bb := Lib.half_mul_le (a := x / 4294967296) (b := y % 4294967296) (by omega) (by omega)
  have bc := Lib.half_mul_le (a := x % 4294967296) (b := y / 4294967296) (by omega) (by omega)
  unfold f_bits_Mul64
  rw [reck_mask _ hx, reck_shr32, reck_mask _ hy, reck_shr32, u_mul _ _ b1, u_mul _ _ (by omega), reck_shr32, u_add _ _ b2, reck_mask _ b2, reck_shr32, u_mul _ _ (by omega), u_add _ _ b3, u_mul _ _ (by omega), u_add _ _ (by omega), reck_shr32, u_add _ _ (by omega), u_mulM]
  show some (AV.tup _) = _
  rw [b4]
end
end Go.AM

/- Proportions: the product of two amounts, divided by a third one. -/
namespace Go.AM
open Go.Proofs
set_option linter.unusedVariables false
set_option linter.unusedSimpArgs false
set_option linter.constructorNameAsVariable false
set_option maxRecDepth 20000
section
variable {β : Type} {P : Program} {T : Tab} {D : DTab} {N : Nat} {K : AV → Hp → Option β}
abbrev encI (n : Int) : List AV := [I n]
theorem IndexFunc_int_L2 {x0 : Hp → Option β} {xr : AV → Hp → Option β} {l : List Int} {b : Bool} {fv : AV} {h : Hp} {p : Int → Bool} (hl : l.length < 4611686018427387904) (hp : ∀ x ∈ l, ∀ k : AV → Hp → Option β, callVK T fv [I x] h k = k (B (p x)) h) :
    ∀ (n i : Nat), i ≤ l.length → l.length < i + n → f_slices_IndexFunc_int_L2 P T D N x0 xr n (.lst 1 b (l.map encI)) fv (I l.length) (I i) h = match (l.drop i).findIdx? p with | some j => xr (I ((i + j : Nat) : Int)) h | none => x0 h := by
  intro n
  induction n with
  | zero => intro i h1 h2; omega
  | succ n ih =>
    intro i h1 h2
    show f_slices_IndexFunc_int_b2 P T D N (f_slices_IndexFunc_int_L2 P T D N x0 xr n) x0 xr _ _ _ _ h = _
    unfold f_slices_IndexFunc_int_b2
    rcases Nat.lt_or_ge i l.length with hi | hi
    · have hx : l[i]? = some l[i] := List.getElem?_eq_getElem hi
      have hlt : ((i : Int) < (l.length : Int)) := by omega
      have hw : IntKind.i64.wrap ((i : Int) + 1) = ((i + 1 : Nat) : Int) := by rw [wrap64 (by omega) (by omega)]; omega
      have hpx := hp l[i] (List.getElem_mem hi)
      rw [List.drop_eq_getElem_cons hi, List.findIdx?_cons]
      simp [hlt, hx, hw, encI] at hpx ⊢
      rw [hpx]
      cases hc : p l[i] with
      | true => simp
      | false =>
        have h3 := ih (i + 1) hi (by omega)
        rw [show ((i : Int) + 1) = ((i + 1 : Nat) : Int) by omega]
        simp only [Bool.false_eq_true, if_false]
        refine h3.trans ?_
        cases (List.drop (i + 1) l).findIdx? p with
        | none => rfl
        | some j =>
          show xr (I ((i + 1 + j : Nat) : Int)) h = xr (I ((i + (j + 1) : Nat) : Int)) h
          rw [show i + 1 + j = i + (j + 1) by omega]
    · have : i = l.length := by omega
      subst this
      simp
theorem IndexFunc_int_K {l : List Int} {b : Bool} {fv : AV} {h : Hp} {p : Int → Bool} {K : AV → Hp → Option β} (hl : l.length < N) (hN : N < 4611686018427387904) (hp : ∀ x ∈ l, ∀ k : AV → Hp → Option β, callVK T fv [I x] h k = k (B (p x)) h) :
    f_slices_IndexFunc_int P T D N K (.lst 1 b (l.map encI)) fv h = K (I (match l.findIdx? p with | some j => (j : Int) | none => -1)) h := by
  unfold f_slices_IndexFunc_int
  simp only [lenK_lst, List.length_map]
  have := IndexFunc_int_L2 (P := P) (D := D) (N := N) (b := b) (x0 := fun h => f_slices_IndexFunc_int_j1 P T D N K h) (xr := fun a h => K a h) (by omega) hp N 0 (Nat.zero_le _) (by omega)
  simp only [List.drop_zero] at this
  refine this.trans ?_
  cases l.findIdx? p with
  | none => rfl
  | some j => simp
def amt (n : Int) : Bool := decide (0 ≤ n) && decide (n ≤ 128849018880000)
theorem F_proportion_amount_val (a : Int) (h : Hp) : F_proportion_amount [I a] h = some (B (amt a), h) := F_proportion_amount_run rfl (by simp [f_proportion_amount, amt]) h
theorem F_proportion_amounts_1_val (a : Int) (h : Hp) : F_proportion_amounts_1 [I a] h = some (B (!amt a), h) := F_proportion_amounts_1_run rfl (by simp [f_proportion_amounts_1, F_proportion_amount_val]) h
theorem F_ContainsFunc_amounts (l : List Int) (hl : l.length < 1000) (b : Bool) (h : Hp) : F_slices_ContainsFunc_int__proportion_amounts_1 [.lst 1 b (l.map encI), .fn 42 []] h = some (B (l.any fun n => !amt n), h) := by
  have e : ∀ h, F_slices_IndexFunc_int__proportion_amounts_1 [.lst 1 b (l.map encI), .fn 42 []] h = some (I (match l.findIdx? (fun n => !amt n) with | some j => (j : Int) | none => -1), h) :=
    F_slices_IndexFunc_int__proportion_amounts_1_run rfl (by
      simp only [nrm, nrmC]
      rw [IndexFunc_int_K (p := fun n => !amt n) (by have := NN_ge; omega) NN_lt (fun x _ k => by simp [F_proportion_amounts_1_val])]
      rfl)
  refine F_slices_ContainsFunc_int__proportion_amounts_1_run rfl ?_ h
  simp only [nrm, nrmC, f_slices_ContainsFunc_int, t_slices_ContainsFunc_int__proportion_amounts_1_53, callK_F, e]
  have : (l.any fun n => !amt n) = (l.findIdx? (fun n => !amt n)).isSome := by rw [List.findIdx?_isSome]
  rw [this]
  cases l.findIdx? (fun n => !amt n) <;> simp
theorem F_proportion_amounts_val (l : List Int) (hl : l.length < 1000) (b : Bool) (h : Hp) : F_proportion_amounts [.lst 1 b (l.map encI)] h = some (B (l.all amt), h) := by
  refine F_proportion_amounts_run rfl ?_ h
  simp [f_proportion_amounts, F_ContainsFunc_amounts l hl, List.all_eq_not_any_not]
theorem F_proportion_product_val {a b : Nat} (ha : a < 9223372036854775808) (hb : b < 9223372036854775808) (h : Hp) : F_proportion_product [I a, I b] h = some (.agg [U (a * b / 18446744073709551616), U (a * b % 18446744073709551616)], h) := by
  have e54 : ∀ hh, F_bits_Mul64 [U a, U b] hh = some (.tup [U (a * b / 18446744073709551616), U (a * b % 18446744073709551616)], hh) := fun hh => F_bits_Mul64_val (by omega) (by omega) hh
  generalize a * b / 18446744073709551616 = p at *
  generalize a * b % 18446744073709551616 = q at *
  refine F_proportion_product_run rfl ?_ h
  simp [f_proportion_product, wrapU (show (0 : Int) ≤ (a : Int) by omega) (by omega), wrapU (show (0 : Int) ≤ (b : Int) by omega) (by omega), e54, buildK, fillA]
theorem F_proportion_divided_val {a b c : Nat} (ha : a < 9223372036854775808) (hb : b < 9223372036854775808) (hc : c < 9223372036854775808) (hc0 : 0 < c) (h : Hp) :
    F_proportion_divided [I a, I b, I c] h = some (if a * b / c ≤ 128849018880000 then .tup [I ((a * b / c : Nat) : Int), I ((a * b % c : Nat) : Int), B true] else .tup [I 0, I 0, B false], h) := by
  obtain ⟨p, hp⟩ : ∃ p, p = a * b / 18446744073709551616 := ⟨_, rfl⟩
  obtain ⟨q, hq⟩ : ∃ q, q = a * b % 18446744073709551616 := ⟨_, rfl⟩
  have e44 := fun hh => F_proportion_product_val ha hb hh
  rw [← hp, ← hq] at e44
  have hql : q < 18446744073709551616 := by omega
  have hab : p * 18446744073709551616 + q = a * b := by omega
  have wc : IntKind.u64.wrap (c : Int) = (c : Int) := wrapU (by omega) (by omega)
  refine F_proportion_divided_run rfl ?_ h
  by_cases hpc : c ≤ p
  · have hbig : ¬ a * b / c ≤ 128849018880000 := by
      have h1 : 18446744073709551616 ≤ a * b / c := by
        rw [Nat.le_div_iff_mul_le hc0]
        have : 18446744073709551616 * c ≤ p * 18446744073709551616 := by rw [Nat.mul_comm]; exact Nat.mul_le_mul_right _ hpc
        omega
      omega
    have hpc' : (c : Int) ≤ (p : Int) := by omega
    rw [if_neg hbig]
    simp [f_proportion_divided, e44, iaA, wc, hpc, hpc']
  · have e45 := fun hh => F_bits_Div64_val (hi := p) (lo := q) (y := c) (by omega) hql (by omega) hh
    rw [hab] at e45
    obtain ⟨Q, hQ⟩ : ∃ Q, Q = a * b / c := ⟨_, rfl⟩
    obtain ⟨R, hR⟩ : ∃ R, R = a * b % c := ⟨_, rfl⟩
    have hRl : R < c := by rw [hR]; exact Nat.mod_lt _ hc0
    rw [← hQ, ← hR] at e45 ⊢
    have wR : IntKind.i64.wrap (R : Int) = (R : Int) := wrap64 (by omega) (by omega)
    by_cases hq2 : Q ≤ 128849018880000
    · have wQ : IntKind.i64.wrap (Q : Int) = (Q : Int) := wrap64 (by omega) (by omega)
      have h3 : ¬ (128849018880000 : Int) < (Q : Int) := by omega
      simp [f_proportion_divided, e44, iaA, wc, hpc, e45, hq2, h3, wR, wQ]
    · have h3 : (128849018880000 : Int) < (Q : Int) := by omega
      simp [f_proportion_divided, e44, iaA, wc, hpc, e45, hq2, h3]
/-- What 'Of' returns. -/
def propOf (a b c : Int) : Int × Int × Int :=
  if (amt a && amt b && amt c) = false then (0, 0, 2) else if c = 0 then (0, 0, 16) else if a * b / c ≤ 128849018880000 then (a * b / c, a * b % c, 0) else (0, 0, 15)
theorem F_proportion_Of_val (a b c : Int) (h : Hp) : F_proportion_Of [I a, I b, I c] h = some (.tup [I (propOf a b c).1, I (propOf a b c).2.1, I (propOf a b c).2.2], h) := by
  refine F_proportion_Of_run rfl ?_ h
  have e35 : F_proportion_amounts [.sl 1 0 0 3 3 true] [.arr 1 [[I a], [I b], [I c]] true false] = some (B (amt a && amt b && amt c), [.arr 1 [[I a], [I b], [I c]] true false]) := by
    refine closedX_sl1 (es := [a, b, c].map encI) rfl rfl rfl rfl ?_
    have := F_proportion_amounts_val [a, b, c] (by simp) false []
    simp only [List.all_cons, List.all_nil, Bool.and_true, ← Bool.and_assoc] at this
    exact this
  cases hm : (amt a && amt b && amt c) with
  | false => simp [f_proportion_Of, bsE, fillS, e35, hm, propOf]
  | true =>
    simp only [Bool.and_eq_true] at hm
    obtain ⟨⟨m1, m2⟩, m3⟩ := hm
    by_cases hc : c = 0
    · subst hc
      simp [f_proportion_Of, bsE, fillS, e35, m1, m2, m3, propOf]
    · simp only [amt, Bool.and_eq_true, decide_eq_true_eq] at m1 m2 m3
      obtain ⟨x, rfl⟩ := Int.eq_ofNat_of_zero_le m1.1
      obtain ⟨y, rfl⟩ := Int.eq_ofNat_of_zero_le m2.1
      obtain ⟨z, rfl⟩ := Int.eq_ofNat_of_zero_le m3.1
      have e36 := fun hh => F_proportion_divided_val (a := x) (b := y) (c := z) (by omega) (by omega) (by omega) (by omega) hh
      have q1 : ((x : Int) * y / z) = ((x * y / z : Nat) : Int) := by push_cast; rfl
      have q2 : ((x : Int) * y % z) = ((x * y % z : Nat) : Int) := by push_cast; rfl
      unfold propOf
      rw [q1, q2]
      have hz : z ≠ 0 := by omega
      have a1 : amt x = true := by simp [amt]; omega
      have a2 : amt y = true := by simp [amt]; omega
      have a3 : amt z = true := by simp [amt]; omega
      generalize x * y / z = q at *
      generalize x * y % z = r at *
      by_cases hq : q ≤ 128849018880000
      · have hq' : (q : Int) ≤ 128849018880000 := by omega
        rw [if_pos hq] at e36
        simp [f_proportion_Of, bsE, fillS, e35, a1, a2, a3, hc, hz, e36, hq']
      · have hq' : ¬ (q : Int) ≤ 128849018880000 := by omega
        rw [if_neg hq] at e36
        simp [f_proportion_Of, bsE, fillS, e35, a1, a2, a3, hc, hz, e36, hq']
end
end Go.AM

/- drawback: Check, Clone, part. -/
namespace Go.AM
open Go.Proofs
set_option linter.unusedVariables false
set_option linter.unusedSimpArgs false
set_option linter.constructorNameAsVariable false
set_option maxRecDepth 20000
structure Paid where
  id : Int
  cls : Int
  day : Int
  alc : Int
  duty : Int
deriving DecidableEq
structure Claim where
  paid : Int
  day : Int
  alc : Int
deriving DecidableEq
def encP (p : Paid) : List AV := [I p.id, I p.cls, I p.day, I p.alc, I p.duty]
def encC (c : Claim) : List AV := [I c.paid, I c.day, I c.alc]
def win (n lo hi : Int) : Bool := decide (lo ≤ n) && decide (n ≤ hi)
section
variable {β : Type} {P : Program} {T : Tab} {D : DTab} {N : Nat} {K : AV → Hp → Option β}
theorem F_drawback_within_val (a b c : Int) (h : Hp) : F_drawback_within [I a, I b, I c] h = some (B (win a b c), h) := F_drawback_within_run rfl (by simp [f_drawback_within, win]) h
def badP (p : Paid) : Bool := !win p.id 1 1073741824 || !win p.cls 1 9 || !win p.day 0 100000 || !win p.alc 1 10737418240000 || !win p.duty 0 1099511627776
def checkAt : Option Int → List Paid → Int → Option (Int × Int)
  | _, [], _ => none
  | prev, p :: l, i => if badP p then some (i, 2) else if (match prev with | some q => decide (p.id ≤ q) | none => false) then some (i, 5) else checkAt (some p.id) l (i + 1)
def checkP (l : List Paid) : Int × Int := if 64 < l.length then (-1, 8) else (checkAt none l 0).getD (-1, 0)
section
variable {xn : AV → AV → AV → AV → Hp → Option β} {x0 : Hp → Option β} {xr : AV → AV → Hp → Option β} {l : List Paid} {b : Bool} {h : Hp}
theorem Check_b2_first (hT : T 27 = some F_drawback_within) (hl : 0 < l.length) :
    f_drawback_Check_b2 P T D N xn x0 xr (.lst 5 b (l.map encP)) (.lst 5 b (l.map encP)) (I l.length) (I 0) h = if badP l[0] then xr (I 0) (I 2) (h ++ [.arr 5 [encP l[0]] true false]) else xn (.lst 5 b (l.map encP)) (.lst 5 b (l.map encP)) (I l.length) (I 1) (h ++ [.arr 5 [encP l[0]] true false]) := by
  have hlt : ((0 : Int) < (l.length : Int)) := by omega
  simp [f_drawback_Check_b2, hlt, hl, hT, encP, F_drawback_within_val, badP, wrap64]
theorem Check_b2_next (hT : T 27 = some F_drawback_within) {i : Nat} (hi : i + 1 < l.length) (hl : l.length < 1000) :
    f_drawback_Check_b2 P T D N xn x0 xr (.lst 5 b (l.map encP)) (.lst 5 b (l.map encP)) (I l.length) (I (i + 1 : Nat)) h = if badP l[i + 1] then xr (I (i + 1 : Nat)) (I 2) (h ++ [.arr 5 [encP l[i + 1]] true false])
      else if l[i + 1].id ≤ l[i].id then xr (I (i + 1 : Nat)) (I 5) (h ++ [.arr 5 [encP l[i + 1]] true false]) else xn (.lst 5 b (l.map encP)) (.lst 5 b (l.map encP)) (I l.length) (I (i + 1 + 1 : Nat)) (h ++ [.arr 5 [encP l[i + 1]] true false]) := by
  have hlt : (((i + 1 : Nat) : Int) < (l.length : Int)) := by omega
  have h0 : (0 : Int) < ((i + 1 : Nat) : Int) := by omega
  have w1 : IntKind.i64.wrap (((i + 1 : Nat) : Int) - 1) = (i : Int) := by rw [wrap64 (by omega) (by omega)]; omega
  have w2 : IntKind.i64.wrap (((i + 1 : Nat) : Int) + 1) = ((i + 1 + 1 : Nat) : Int) := by rw [wrap64 (by omega) (by omega)]; omega
  generalize hj : ((i + 1 : Nat) : Int) = j at *
  have hi1 : iaK (β := β) 5 (.lst 5 b (l.map encP)) (I j) = fun k => k (.ep (encP l[i + 1]) 0) := by funext k; rw [← hj, iaK_map, List.getElem?_eq_getElem hi]
  simp [f_drawback_Check_b2, hlt, h0, w1, w2, hT, encP, F_drawback_within_val, badP, hi1, List.getElem?_eq_getElem (show i < l.length by omega)]
theorem Check_L2_val (hT : T 27 = some F_drawback_within) (hl : l.length < 1000) {X : Option β} {R : Int → Int → Option β} (hx : ∀ h, x0 h = X) (hr : ∀ a b h, xr (I a) (I b) h = R a b) : ∀ (n i : Nat) (h : Hp), i ≤ l.length → l.length < i + n →
    f_drawback_Check_L2 P T D N x0 xr n (.lst 5 b (l.map encP)) (.lst 5 b (l.map encP)) (I l.length) (I i) h = match checkAt (if i = 0 then none else (l[i - 1]?).map (·.id)) (l.drop i) i with | none => X | some (a, b) => R a b := by
  intro n
  induction n with
  | zero => intro i h h1 h2; omega
  | succ n ih =>
    intro i h h1 h2
    show f_drawback_Check_b2 P T D N (f_drawback_Check_L2 P T D N x0 xr n) x0 xr _ _ _ _ h = _
    rcases Nat.lt_or_ge i l.length with hi | hi
    · rw [List.drop_eq_getElem_cons hi]
      unfold checkAt
      match i, hi with
      | 0, hi =>
        refine (Check_b2_first hT hi).trans ?_
        by_cases hb : badP l[0] = true
        · simp [hb, hr]
        · have h3 := fun hh => ih 1 hh (by omega) (by omega)
          simp only [hb, if_false, Bool.false_eq_true, if_true]
          refine (h3 _).trans ?_
          simp [List.getElem?_eq_getElem hi]
      | i + 1, hi =>
        rw [Check_b2_next hT hi hl]
        by_cases hb : badP l[i + 1] = true
        · simp [hb, hr]
        · have h3 := fun hh => ih (i + 1 + 1) hh (by omega) (by omega)
          have hg : l[i]? = some l[i] := List.getElem?_eq_getElem (by omega)
          by_cases hc : l[i + 1].id ≤ l[i].id
          · simp [hb, hr, hc, hg]
          · simp only [hb, hc, if_false, Bool.false_eq_true]
            refine (h3 _).trans ?_
            simp [hg, hc, List.getElem?_eq_getElem hi]
    · have : i = l.length := by omega
      subst this
      simp [f_drawback_Check_b2, hx, checkAt]
end
theorem F_drawback_Check_val (l : List Paid) (b : Bool) (h : Hp) : F_drawback_Check [.lst 5 b (l.map encP)] h = some (.tup [I (checkP l).1, I (checkP l).2], h) := by
  refine F_drawback_Check_run rfl ?_ h
  unfold checkP
  by_cases hl : 64 < l.length
  · have hl' : (64 : Int) < (l.length : Int) := by omega
    simp [f_drawback_Check, hl, hl']
  · have hl' : ¬ (64 : Int) < (l.length : Int) := by omega
    have h1 := Check_L2_val (β := AV) (P := Try.prog) (T := t_drawback_Check) (D := d_drawback_Check) (N := NN) (l := l) (b := b) (x0 := fun h => f_drawback_Check_j1 Try.prog t_drawback_Check d_drawback_Check NN (fun v g => cvt false g v) h) (xr := fun a b h => cvt false h (.tup [a, b])) rfl (by omega)
      (X := some (.tup [I (-1), I 0])) (R := fun a b => some (.tup [I a, I b])) (fun h => rfl) (fun a b h => rfl) NN 0 [] (by omega) (by have := NN_ge; omega)
    simp [f_drawback_Check, hl, hl'] at h1 ⊢
    refine h1.trans ?_
    cases checkAt none l 0 <;> rfl
end
end Go.AM

/- Clone. -/
namespace Go.AM
open Go.Proofs
set_option linter.unusedVariables false
set_option linter.unusedSimpArgs false
set_option linter.constructorNameAsVariable false
set_option maxRecDepth 20000
section
variable {β : Type} {P : Program} {T : Tab} {D : DTab} {N : Nat} {K : AV → Hp → Option β}
/-- A slice as a list. -/
abbrev SL {α : Type} (sz : Nat) (f : α → List AV) (b : Bool) (l : List α) : AV := .lst sz (b && l.isEmpty) (l.map f)
theorem F_slices_Clone_Paid_val (l : List Paid) (b : Bool) (hl : l.length < 1000000) (h : Hp) : F_slices_Clone_Paid [SL 5 encP b l] h = some (SL 5 encP b l, h) := by
  refine (F_slices_Clone_Paid_run (v := if b && l.isEmpty then nilS else SL 5 encP b l) rfl ?_ h).trans ?_
  · by_cases hb : (b && l.isEmpty) = true
    · simp [f_slices_Clone_Paid, hb]
    · have hb' : (b && l.isEmpty) = false := by simpa using hb
      have hle : l.length * 40 ≤ 140737488355328 := by omega
      have h2 : ((l.map encP).all fun e => e.length == 5) = true := by simp [encP]
      have h3 : okE false (l.map encP) = true := okE_map (by intro x; simp [encP])
      simp [f_slices_Clone_Paid, hb', bsE, fillS, appE, readSl, hle, h2, ap]
      rw [cvt_whole rfl (by simp) (by simp) h3, SL, hb']
  · by_cases hb : (b && l.isEmpty) = true
    · obtain ⟨rfl, hl0⟩ := Bool.and_eq_true_iff.1 hb
      have : l = [] := by simpa using hl0
      subst this
      rfl
    · rw [if_neg hb]
      rfl
theorem F_slices_Clone_Claim_val (l : List Claim) (b : Bool) (hl : l.length < 1000000) (h : Hp) : F_slices_Clone_Claim [SL 3 encC b l] h = some (SL 3 encC b l, h) := by
  refine (F_slices_Clone_Claim_run (v := if b && l.isEmpty then nilS else SL 3 encC b l) rfl ?_ h).trans ?_
  · by_cases hb : (b && l.isEmpty) = true
    · simp [f_slices_Clone_Claim, hb]
    · have hb' : (b && l.isEmpty) = false := by simpa using hb
      have hle : l.length * 24 ≤ 140737488355328 := by omega
      have h2 : ((l.map encC).all fun e => e.length == 3) = true := by simp [encC]
      have h3 : okE false (l.map encC) = true := okE_map (by intro x; simp [encC])
      simp [f_slices_Clone_Claim, hb', bsE, fillS, appE, readSl, hle, h2, ap]
      rw [cvt_whole rfl (by simp) (by simp) h3, SL, hb']
  · by_cases hb : (b && l.isEmpty) = true
    · obtain ⟨rfl, hl0⟩ := Bool.and_eq_true_iff.1 hb
      have : l = [] := by simpa using hl0
      subst this
      rfl
    · rw [if_neg hb]
      rfl
end
end Go.AM

namespace Go.AM
set_option linter.unusedVariables false
set_option linter.unusedSimpArgs false
set_option linter.constructorNameAsVariable false
set_option maxRecDepth 30000
variable {β : Type} {P : Program} {kt : TypeId} {kk : IntKind}
/-! Maps whose keys are integers. -/
theorem keyOk_int (hu : P.underlying kt = some (.int kk)) (n : Int) : keyOk P kt (.int kk n) = true := by
  have key : ∀ b, pureVal P (Instr.checkKey b 10000 kt (.int kk n)) = some () := by
    intro b
    rw [show (10000 : Nat) = 9999 + 1 from rfl]
    unfold Instr.checkKey
    rw [pureVal_bnd, pureVal_underlying hu]
    rfl
  simp [keyOk, key]
theorem keyEq_int (hu : P.underlying kt = some (.int kk)) (a b : Int) : keyEq P kt (.int kk a) (.int kk b) = some (decide (a = b)) := by
  have h1 : pureVal P (Op.equal kt (.int kk a) (.int kk b)) = some (a == b) := by
    unfold Op.equal
    rw [show Op.maxDepth = (Op.maxDepth - 1) + 1 from rfl]
    unfold Op.equalIn
    rw [pureVal_bnd, pureVal_underlying hu]
    simp only [Option.bind_some, if_true]
    rfl
  unfold keyEq
  rw [h1]
  by_cases hab : a = b
  · subst hab
    have : Instr.sameBits 10000 (.int kk a) (.int kk a) = true := by simp [Instr.sameBits]
    simp [this]
  · have : (a == b) = false := by simpa using hab
    rw [this]
    simp [hab]
/-- What a map holds at a number. -/
def getKV : List (Value × AV) → Int → Option AV
  | [], _ => none
  | (.int _ m, v) :: r, n => if n = m then some v else getKV r n
  | _ :: r, n => getKV r n
def intKeys (kk : IntKind) (kvs : List (Value × AV)) : Prop := ∀ x ∈ kvs, ∃ m, x.1 = .int kk m
theorem lookupKV_int (hu : P.underlying kt = some (.int kk)) (n : Int) : ∀ {kvs : List (Value × AV)}, intKeys kk kvs → lookupKV kvs (keyEq P kt) (.int kk n) = some (getKV kvs n)
  | [], _ => rfl
  | (k, v) :: r, hk => by
    obtain ⟨m, e⟩ := hk (k, v) (by simp)
    simp only at e
    subst e
    have ih := lookupKV_int hu n (kvs := r) (fun x hx => hk x (by simp [hx]))
    simp only [lookupKV, keyEq_int hu, getKV]
    by_cases h : n = m
    · simp [h]
    · simp [h, ih]
theorem lookK_int {h : Hp} {id : Nat} {kvs : List (Value × AV)} {z : AV} {ok : Bool} {n : Int} (hu : P.underlying kt = some (.int kk)) (hid : h[id]? = some (.map kvs)) (hk : intKeys kk kvs) (k : K β) :
    lookK P kt z ok (.mp id) (.s (.int kk n)) h k = match getKV kvs n with
      | some v => k (if ok then .tup [v, .s (.bool true)] else v)
      | none => k (if ok then .tup [z, .s (.bool false)] else z) := by
  unfold lookK
  simp only [toV, gv, if_true, hid, keyOk_int hu, lookupKV_int hu n hk]
  cases getKV kvs n <;> rfl
theorem updateKV_int (hu : P.underlying kt = some (.int kk)) (n : Int) (v : AV) : ∀ {kvs : List (Value × AV)}, intKeys kk kvs →
    ∃ kvs', updateKV kvs (keyEq P kt) (.int kk n) v = some kvs' ∧ intKeys kk kvs' ∧ ∀ m, getKV kvs' m = if m = n then some v else getKV kvs m
  | [], _ => ⟨_, rfl, fun x hx => by simp at hx; subst hx; exact ⟨n, rfl⟩, fun m => by simp [getKV]⟩
  | (k, u) :: r, hk => by
    obtain ⟨q, e⟩ := hk (k, u) (by simp)
    simp only at e
    subst e
    obtain ⟨r', h1, h2, h3⟩ := updateKV_int hu n v (kvs := r) (fun x hx => hk x (by simp [hx]))
    simp only [updateKV, keyEq_int hu]
    by_cases h : n = q
    · subst h
      refine ⟨(.int kk n, v) :: r, by simp, fun x hx => ?_, fun m => ?_⟩
      · rcases List.mem_cons.1 hx with rfl | hx
        · exact ⟨n, rfl⟩
        · exact hk x (by simp [hx])
      · simp only [getKV]
        split <;> rfl
    · refine ⟨(.int kk q, u) :: r', by simp [h, h1], fun x hx => ?_, fun m => ?_⟩
      · rcases List.mem_cons.1 hx with rfl | hx
        · exact ⟨q, rfl⟩
        · exact h2 x hx
      · simp only [getKV, h3]
        by_cases hm : m = q
        · subst hm; simp [Ne.symm h]
        · simp [hm]
theorem mupE_int {h : Hp} {id : Nat} {kvs : List (Value × AV)} {v : AV} {n : Int} (hu : P.underlying kt = some (.int kk)) (hid : h[id]? = some (.map kvs)) (hk : intKeys kk kvs) :
    ∃ kvs', mupE P kt (.mp id) (.s (.int kk n)) v h = some (.u, ⟨[(id, .map kvs')], [], [id]⟩) ∧ intKeys kk kvs' ∧ ∀ m, getKV kvs' m = if m = n then some v else getKV kvs m := by
  obtain ⟨kvs', h1, h2, h3⟩ := updateKV_int hu n v hk
  refine ⟨kvs', ?_, h2, h3⟩
  unfold mupE
  simp only [toV, gv, if_true, hid, keyOk_int hu, h1]
end Go.AM

/- drawback: the faults of a claim; carry. -/
namespace Go.AM
open Go.Proofs
set_option linter.unusedVariables false
set_option linter.unusedSimpArgs false
set_option linter.constructorNameAsVariable false
set_option maxRecDepth 20000
def okP (p : Paid) : Prop := badP p = false
def bad1 (c : Claim) : Bool := !win c.paid 1 1073741824 || !win c.day 0 100000 || !win c.alc 1 10737418240000
def claimedOf (cs : List Claim) (n : Int) : Int := ((cs.filter (fun c => c.paid = n)).map (·.alc)).foldr (· + ·) 0
def partOf (p : Paid) (n : Int) : Int := (propOf p.duty n p.alc).1
section
variable {β : Type} {P : Program} {T : Tab} {D : DTab} {N : Nat} {K : AV → Hp → Option β}
theorem F_drawback_part_val (p : Paid) (n : Int) (h : Hp) : F_drawback_part [.agg (encP p), I n] h = some (I (partOf p n), h) := by
  refine F_drawback_part_run (by simp [encP]) ?_ h
  simp [f_drawback_part, encP, F_proportion_Of_val, partOf]
/-- The file on which claims are carried out. -/
abbrev fileO (last limit : Int) : AObj := .arr 4 [[.mp 0, .mp 1, I last, I limit]] true false
abbrev fileH (kp kc : List (Value × AV)) (last limit : Int) (g : List AObj) : Hp := .map kp :: .map kc :: fileO last limit :: g
structure PaidAt (kp : List (Value × AV)) (paid : Int → Option Paid) : Prop where
  keys : intKeys .i64 kp
  get : ∀ n, getKV kp n = (paid n).map fun p => .agg (encP p)
structure ClaimedAt (kc : List (Value × AV)) (cl : Int → Int) : Prop where
  keys : intKeys .i64 kc
  get : ∀ n, getKV kc n = some (I (cl n)) ∨ (getKV kc n = none ∧ cl n = 0)
section
variable {kp kc : List (Value × AV)} {last limit : Int} {g : List AObj} {paid : Int → Option Paid} {cl : Int → Int} {c : Claim}
abbrev zP : AV := .agg [I 0, I 0, I 0, I 0, I 0]
theorem look_paid (A : PaidAt kp paid) {h : Hp} (hid : h[0]? = some (.map kp)) (ok : Bool) (n : Int) (k : Go.AM.K β) : lookK Try.prog 3 zP ok (.mp 0) (I n) h k = match paid n with
    | some p => k (if ok then .tup [.agg (encP p), B true] else .agg (encP p))
    | none => k (if ok then .tup [zP, B false] else zP) := by
  rw [lookK_int un_3 hid A.keys, A.get]
  cases paid n <;> rfl
theorem look_claimed (A : ClaimedAt kc cl) {h : Hp} (hid : h[1]? = some (.map kc)) (n : Int) (k : Go.AM.K β) : lookK Try.prog 3 (I 0) false (.mp 1) (I n) h k = k (I (cl n)) := by
  rw [lookK_int un_3 hid A.keys]
  rcases A.get n with e | ⟨e, e0⟩
  · rw [e]; simp
  · rw [e, e0]; simp
theorem fault1 (h : Hp) (x : AV) : F_drawback_faults_1 [x, .agg (encC c)] h = some (B (bad1 c), h) := by
  refine F_drawback_faults_1_q (g := [.arr 3 [encC c] true false]) ?_ rfl
  simp [f_drawback_faults_1, encC, F_drawback_within_val, bad1]
theorem fault2 : F_drawback_faults_2 [.ptr 2 0 0 1, .agg (encC c)] (fileH kp kc last limit g) = some (B (decide (c.day < last)), fileH kp kc last limit g) := by
  refine F_drawback_faults_2_q (g := [.arr 3 [encC c] true false]) ?_ rfl
  simp [f_drawback_faults_2, encC, get_new]
theorem fault3 (A : PaidAt kp paid) : F_drawback_faults_3 [.ptr 2 0 0 1, .agg (encC c)] (fileH kp kc last limit g) = some (B (paid c.paid).isNone, fileH kp kc last limit g) := by
  refine F_drawback_faults_3_q (g := match paid c.paid with | some p => [.arr 3 [encC c] true false, .arr 5 [encP p] true false] | none => [.arr 3 [encC c] true false, .arr 5 [[I 0, I 0, I 0, I 0, I 0]] true false]) ?_ rfl
  have L := fun (h : Hp) (hid : h[0]? = some (.map kp)) (k : Go.AM.K (AV × Hp)) => look_paid A hid true c.paid k
  simp only [f_drawback_faults_3, encC]
  simp
  rw [L _ (by simp)]
  cases paid c.paid with
  | none => simp [boxE, effD, disjAll, disj2, wrOf, idsOf]
  | some p => simp [boxE, effD, disjAll, disj2, wrOf, idsOf, encP]
theorem fault4 (A : PaidAt kp paid) {p : Paid} (hp : paid c.paid = some p) : F_drawback_faults_4 [.ptr 2 0 0 1, .agg (encC c)] (fileH kp kc last limit g) = some (B (decide (c.day < p.day)), fileH kp kc last limit g) := by
  refine F_drawback_faults_4_q (g := [.arr 3 [encC c] true false]) ?_ rfl
  have L := fun (h : Hp) (hid : h[0]? = some (.map kp)) (k : Go.AM.K (AV × Hp)) => look_paid A hid false c.paid k
  simp only [f_drawback_faults_4, encC]
  simp
  rw [L _ (by simp), hp]
  simp [fldK, encP]
theorem fault5 (A : PaidAt kp paid) {p : Paid} (hp : paid c.paid = some p) (hw : IntKind.i64.wrap (c.day - p.day) = c.day - p.day) : F_drawback_faults_5 [.ptr 2 0 0 1, .agg (encC c)] (fileH kp kc last limit g) = some (B (decide (limit < c.day - p.day)), fileH kp kc last limit g) := by
  refine F_drawback_faults_5_q (g := [.arr 3 [encC c] true false]) ?_ rfl
  have L := fun (h : Hp) (hid : h[0]? = some (.map kp)) (k : Go.AM.K (AV × Hp)) => look_paid A hid false c.paid k
  simp only [f_drawback_faults_5, encC]
  simp
  rw [L _ (by simp), hp]
  simp [fldK, encP, hw]
theorem fault6 (A : PaidAt kp paid) (C : ClaimedAt kc cl) {p : Paid} (hp : paid c.paid = some p) (hw : IntKind.i64.wrap (cl c.paid + c.alc) = cl c.paid + c.alc) : F_drawback_faults_6 [.ptr 2 0 0 1, .agg (encC c)] (fileH kp kc last limit g) = some (B (decide (p.alc < cl c.paid + c.alc)), fileH kp kc last limit g) := by
  refine F_drawback_faults_6_q (g := [.arr 3 [encC c] true false]) ?_ rfl
  have L := fun (h : Hp) (hid : h[0]? = some (.map kp)) (k : Go.AM.K (AV × Hp)) => look_paid A hid false c.paid k
  have L2 := fun (h : Hp) (hid : h[1]? = some (.map kc)) (k : Go.AM.K (AV × Hp)) => look_claimed C hid c.paid k
  simp only [f_drawback_faults_6, encC]
  simp
  rw [L2 _ (by simp)]
  simp [hw]
  rw [L _ (by simp), hp]
  simp [fldK, encP, hw]
end
end
end Go.AM

/- drawback: the loop over the faults. -/
namespace Go.AM
open Go.Proofs
set_option linter.unusedVariables false
set_option linter.unusedSimpArgs false
set_option linter.constructorNameAsVariable false
set_option maxRecDepth 20000
def faultRows : List (List AV) := [[.fn 46 [], I 2], [.fn 47 [], I 5], [.fn 48 [], I 7], [.fn 49 [], I 11], [.fn 50 [], I 23], [.fn 51 [], I 17]]
def stepErr (paid : Int → Option Paid) (cl : Int → Int) (last limit : Int) (c : Claim) : Int :=
  if bad1 c then 2 else if c.day < last then 5 else match paid c.paid with
    | none => 7
    | some p => if c.day < p.day then 11 else if limit < c.day - p.day then 23 else if p.alc < cl c.paid + c.alc then 17 else 0
theorem F_faults (h : Hp) : F_drawback_faults [] h = some (.sl 2 h.length 0 6 6 true, h ++ [.arr 2 faultRows true false]) := by
  rw [F_drawback_faults_raw]
  simp [f_drawback_faults, buildK, fillA, bsE, fillS, faultRows]
section
variable {β : Type} {P : Program} {T : Tab} {D : DTab} {N : Nat} {K : AV → Hp → Option β}
variable {xn : AV → AV → AV → AV → AV → AV → AV → AV → AV → AV → AV → Hp → Option β} {x5 : AV → AV → AV → AV → AV → AV → AV → Hp → Option β} {xr : AV → AV → AV → AV → Hp → Option β} {v15 v16 v17 v59 v60 v61 : AV} {h : Hp} {fid cb : Nat} {c : Claim}
theorem carry_b6 {j f : Nat} {e : Int} {b : Bool} (hj : j < 6) (hr : faultRows[j]? = some [.fn f [], I e]) (hf : h[fid]? = some (.arr 2 faultRows true false)) (hc : h[cb]? = some (.arr 3 [encC c] true false))
    (hF : ∀ (x : List AObj) (k : AV → Hp → Option β), callK (T f) [.ptr 2 0 0 1, .agg (encC c)] (h ++ x) k = k (B b) (h ++ x)) :
    f_drawback_carry_b6 P T D N xn x5 xr (.ptr 2 0 0 1) v15 v16 v17 (.ptr cb 0 0 1) v59 v60 v61 (.sl 2 fid 0 6 6 true) (I 6) (I j) h =
      if b = true then xr (.s (.pointer none)) nilS v17 (I e) (h ++ [.arr 2 [[.fn f [], I e]] true false]) else xn (.ptr 2 0 0 1) v15 v16 v17 (.ptr cb 0 0 1) v59 v60 v61 (.sl 2 fid 0 6 6 true) (I 6) (I (j + 1 : Nat)) (h ++ [.arr 2 [[.fn f [], I e]] true false]) := by
  have h1 : (j : Int) < 6 := by omega
  have hw : IntKind.i64.wrap ((j : Int) + 1) = ((j + 1 : Nat) : Int) := by rw [wrap64 (by omega) (by omega)]; omega
  have hl : faultRows.length = 6 := rfl
  have hF' := fun k => hF [.arr 2 [[.fn f [], I e]] true false] k
  simp only [encC] at hF' hc
  simp only [f_drawback_carry_b6, arithK_lss, h1, decide_true, condK_bool, if_true, iaK_sl (show (0 : Int) ≤ (j : Int) by omega) h1]
  simp [hf, hr, hl, get_app hc, hF', hw]
/-- All faults of a claim, in turn. -/
theorem carry_L6 (hT : ∀ g args (hh : Hp) (k : AV → Hp → Option β), callK (T g) args hh k = callK (t_drawback_carry g) args hh k) {kp kc : List (Value × AV)} {last limit : Int} {paid : Int → Option Paid} {cl : Int → Int} (A : PaidAt kp paid) (C : ClaimedAt kc cl) {g : List AObj}
    (hd : ∀ p, paid c.paid = some p → 0 ≤ p.day ∧ p.day ≤ 100000 ∧ 0 ≤ cl c.paid ∧ cl c.paid ≤ 10737418240000) (hf : (fileH kp kc last limit g)[fid]? = some (.arr 2 faultRows true false)) (hc : (fileH kp kc last limit g)[cb]? = some (.arr 3 [encC c] true false)) (n : Nat) :
    ∃ g', f_drawback_carry_L6 P T D N x5 xr (n + 7) (.ptr 2 0 0 1) v15 v16 v17 (.ptr cb 0 0 1) v59 v60 v61 (.sl 2 fid 0 6 6 true) (I 6) (I 0) (fileH kp kc last limit g) =
      if stepErr paid cl last limit c = 0 then x5 (.ptr 2 0 0 1) v15 v16 (.ptr cb 0 0 1) v59 v60 v61 (fileH kp kc last limit (g ++ g')) else xr (.s (.pointer none)) nilS v17 (I (stepErr paid cl last limit c)) (fileH kp kc last limit (g ++ g')) := by
  have one : ∀ (m j f : Nat) (e : Int) (b : Bool) (g' : List AObj), j < 6 → faultRows[j]? = some [.fn f [], I e] → (∀ (x : List AObj) (k : AV → Hp → Option β), callK (t_drawback_carry f) [.ptr 2 0 0 1, .agg (encC c)] (fileH kp kc last limit x) k = k (B b) (fileH kp kc last limit x)) →
      ∃ x, f_drawback_carry_L6 P T D N x5 xr (m + 1) (.ptr 2 0 0 1) v15 v16 v17 (.ptr cb 0 0 1) v59 v60 v61 (.sl 2 fid 0 6 6 true) (I 6) (I j) (fileH kp kc last limit (g ++ g')) =
        if b = true then xr (.s (.pointer none)) nilS v17 (I e) (fileH kp kc last limit (g ++ (g' ++ x))) else f_drawback_carry_L6 P T D N x5 xr m (.ptr 2 0 0 1) v15 v16 v17 (.ptr cb 0 0 1) v59 v60 v61 (.sl 2 fid 0 6 6 true) (I 6) (I (j + 1 : Nat)) (fileH kp kc last limit (g ++ (g' ++ x))) := by
    intro m j f e b g' hj hr hF
    refine ⟨[.arr 2 [[.fn f [], I e]] true false], ?_⟩
    show f_drawback_carry_b6 P T D N (f_drawback_carry_L6 P T D N x5 xr m) x5 xr _ _ _ _ _ _ _ _ _ _ _ _ = _
    have hf' : (fileH kp kc last limit (g ++ g'))[fid]? = some (.arr 2 faultRows true false) := get_app (g := g') hf
    have hc' : (fileH kp kc last limit (g ++ g'))[cb]? = some (.arr 3 [encC c] true false) := get_app (g := g') hc
    refine (carry_b6 (e := e) (b := b) hj hr hf' hc' (fun x k => by rw [hT f _ _ k]; exact hF (g ++ g' ++ x) k)).trans ?_
    simp
  have e1 : ∀ (x : List AObj) (k : AV → Hp → Option β), callK (t_drawback_carry 46) [.ptr 2 0 0 1, .agg (encC c)] (fileH kp kc last limit x) k = k (B (bad1 c)) (fileH kp kc last limit x) := fun x k => by rw [t_drawback_carry_46, callK_F, fault1]
  have e2 : ∀ (x : List AObj) (k : AV → Hp → Option β), callK (t_drawback_carry 47) [.ptr 2 0 0 1, .agg (encC c)] (fileH kp kc last limit x) k = k (B (decide (c.day < last))) (fileH kp kc last limit x) := fun x k => by rw [t_drawback_carry_47, callK_F, fault2]
  have e3 : ∀ (x : List AObj) (k : AV → Hp → Option β), callK (t_drawback_carry 48) [.ptr 2 0 0 1, .agg (encC c)] (fileH kp kc last limit x) k = k (B (paid c.paid).isNone) (fileH kp kc last limit x) := fun x k => by rw [t_drawback_carry_48, callK_F, fault3 A]
  obtain ⟨g1, s1⟩ := one (n + 6) 0 _ _ _ [] (by decide) rfl e1
  simp only [List.append_nil, List.nil_append] at s1
  rw [show ((0 : Nat) : Int) = 0 from rfl] at s1
  by_cases b1 : bad1 c = true
  · exact ⟨g1, by rw [s1]; simp [stepErr, b1]⟩
  rw [if_neg b1] at s1
  obtain ⟨g2, s2⟩ := one (n + 5) 1 _ _ _ g1 (by decide) rfl e2
  rw [s2] at s1
  by_cases b2 : c.day < last
  · exact ⟨g1 ++ g2, by rw [s1]; simp [stepErr, b1, b2]⟩
  rw [if_neg (by simpa using b2)] at s1
  obtain ⟨g3, s3⟩ := one (n + 4) 2 _ _ _ (g1 ++ g2) (by decide) rfl e3
  rw [s3] at s1
  cases hp : paid c.paid with
  | none => exact ⟨g1 ++ g2 ++ g3, by rw [s1]; simp [stepErr, b1, b2, hp]⟩
  | some p =>
    rw [hp, if_neg (by simp)] at s1
    obtain ⟨d1, d2, d3, d4⟩ := hd p hp
    have hb : 0 ≤ c.day ∧ c.day ≤ 100000 ∧ 1 ≤ c.alc ∧ c.alc ≤ 10737418240000 := by simp [bad1, win] at b1; omega
    have w1 : IntKind.i64.wrap (c.day - p.day) = c.day - p.day := wrap64 (by omega) (by omega)
    have w2 : IntKind.i64.wrap (cl c.paid + c.alc) = cl c.paid + c.alc := wrap64 (by omega) (by omega)
    have e4 : ∀ (x : List AObj) (k : AV → Hp → Option β), callK (t_drawback_carry 49) [.ptr 2 0 0 1, .agg (encC c)] (fileH kp kc last limit x) k = k (B (decide (c.day < p.day))) (fileH kp kc last limit x) := fun x k => by rw [t_drawback_carry_49, callK_F, fault4 A hp]
    have e5 : ∀ (x : List AObj) (k : AV → Hp → Option β), callK (t_drawback_carry 50) [.ptr 2 0 0 1, .agg (encC c)] (fileH kp kc last limit x) k = k (B (decide (limit < c.day - p.day))) (fileH kp kc last limit x) := fun x k => by rw [t_drawback_carry_50, callK_F, fault5 A hp w1]
    have e6 : ∀ (x : List AObj) (k : AV → Hp → Option β), callK (t_drawback_carry 51) [.ptr 2 0 0 1, .agg (encC c)] (fileH kp kc last limit x) k = k (B (decide (p.alc < cl c.paid + c.alc))) (fileH kp kc last limit x) := fun x k => by rw [t_drawback_carry_51, callK_F, fault6 A C hp w2]
    obtain ⟨g4, s4⟩ := one (n + 3) 3 _ _ _ (g1 ++ g2 ++ g3) (by decide) rfl e4
    rw [s4] at s1
    by_cases b4 : c.day < p.day
    · exact ⟨g1 ++ g2 ++ g3 ++ g4, by rw [s1]; simp [stepErr, b1, b2, hp, b4]⟩
    rw [if_neg (by simpa using b4)] at s1
    obtain ⟨g5, s5⟩ := one (n + 2) 4 _ _ _ (g1 ++ g2 ++ g3 ++ g4) (by decide) rfl e5
    rw [s5] at s1
    by_cases b5 : limit < c.day - p.day
    · exact ⟨g1 ++ g2 ++ g3 ++ g4 ++ g5, by rw [s1]; simp [stepErr, b1, b2, hp, b4, b5]⟩
    rw [if_neg (by simpa using b5)] at s1
    obtain ⟨g6, s6⟩ := one (n + 1) 5 _ _ _ (g1 ++ g2 ++ g3 ++ g4 ++ g5) (by decide) rfl e6
    rw [s6] at s1
    by_cases b6 : p.alc < cl c.paid + c.alc
    · exact ⟨g1 ++ g2 ++ g3 ++ g4 ++ g5 ++ g6, by rw [s1]; simp [stepErr, b1, b2, hp, b4, b5, b6]⟩
    rw [if_neg (by simpa using b6)] at s1
    refine ⟨g1 ++ g2 ++ g3 ++ g4 ++ g5 ++ g6, ?_⟩
    rw [s1]
    have hs : stepErr paid cl last limit c = 0 := by simp [stepErr, b1, b2, hp, b4, b5, b6]
    rw [if_pos hs]
    show f_drawback_carry_b6 P T D N (f_drawback_carry_L6 P T D N x5 xr n) x5 xr _ _ _ _ _ _ _ _ _ _ _ _ = _
    simp [f_drawback_carry_b6]
end
end Go.AM

/- drawback: one claim carried out. -/
namespace Go.AM
open Go.Proofs
set_option linter.unusedVariables false
set_option linter.unusedSimpArgs false
set_option linter.constructorNameAsVariable false
set_option maxRecDepth 20000
def OutG (g : List AObj) (v : AV) (outs : List Int) : Prop := (outs = [] ∧ v = nilS) ∨ (outs ≠ [] ∧ ∃ k, v = .sl 1 (k + 3) 0 outs.length outs.length false ∧ g[k]? = some (.arr 1 (outs.map encI) true false))
theorem mupE_upd {P : Program} {kt : TypeId} {kk : IntKind} {h : Hp} {id : Nat} {kvs kvs' : List (Value × AV)} {v : AV} {n : Int} (hu : P.underlying kt = some (.int kk)) (hid : h[id]? = some (.map kvs)) (hk : updateKV kvs (keyEq P kt) (.int kk n) v = some kvs') :
    mupE P kt (.mp id) (.s (.int kk n)) v h = some (.u, ⟨[(id, .map kvs')], [], [id]⟩) := by
  unfold mupE
  simp only [toV, gv, if_true, hid, keyOk_int hu, hk]
theorem OutG.app {g : List AObj} {v : AV} {outs : List Int} (O : OutG g v outs) (x : List AObj) : OutG (g ++ x) v outs := by
  rcases O with h | ⟨h1, k, h2, h3⟩
  · exact .inl h
  · exact .inr ⟨h1, k, h2, get_app h3⟩
theorem partOf_bd (p : Paid) (n : Int) (h0 : 0 ≤ n) (hd : 0 ≤ p.duty) (ha : 0 ≤ p.alc) : 0 ≤ partOf p n ∧ partOf p n ≤ 128849018880000 := by
  unfold partOf propOf
  split
  · simp
  · split
    · simp
    · split
      · exact ⟨Int.ediv_nonneg (Int.mul_nonneg hd h0) ha, by assumption⟩
      · simp
section
variable {β : Type} {P : Program} {T : Tab} {D : DTab} {N : Nat} {K : AV → Hp → Option β}
theorem effD_y (v : AV) (e : Eff) (h : Hp) (k : AV → Hp → Ent → Option β) : effD (some (v, e)) h k = k v (ap h e) (e.foot, wrOf h.length e) := rfl
theorem callE_F (F : DFun) (args : List AV) (h : Hp) (base : Nat) : callE (some F) args h base = F args h base := rfl
theorem G_drawback_part_val (p : Paid) (n : Int) (h : Hp) (base : Nat) : G_drawback_part [.agg (encP p), I n] h base = some (I (partOf p n), EF []) := by
  have := closedXD_val (F_drawback_part_val p n h) base
  refine this.trans ?_
  simp [idss, ids, encP]
variable {xn : AV → AV → AV → AV → AV → AV → Hp → Option β} {x3 : AV → AV → Hp → Option β} {xr : AV → AV → AV → AV → Hp → Option β} {v15 v16 v59 v60 : AV} {c : Claim} {kp kc : List (Value × AV)} {last limit : Int} {paid : Int → Option Paid} {cl : Int → Int} {g : List AObj} {outs : List Int} {p : Paid} {i cb : Nat}
set_option maxHeartbeats 2000000 in
theorem carry_j5 (hD : D 34 = some G_drawback_part) (A : PaidAt kp paid) (C : ClaimedAt kc cl) (hp : paid c.paid = some p) (hc : g[cb]? = some (.arr 3 [encC c] true false)) (O : OutG g v16 outs) (ho : outs.length < 1000) (hi : i < 1000)
    (b1 : 0 ≤ cl c.paid ∧ cl c.paid ≤ 10737418240000) (b2 : 0 ≤ c.alc ∧ c.alc ≤ 10737418240000) (b3 : 0 ≤ p.duty ∧ 0 ≤ p.alc) :
    ∃ v' g' kc', f_drawback_carry_j5 Try.prog T D N xn x3 xr (.ptr 2 0 0 1) v15 v16 (.ptr (cb + 3) 0 0 1) v59 v60 (I i) (fileH kp kc last limit g) = xn (.ptr 2 0 0 1) v15 v' v59 v60 (I (i + 1 : Nat)) (fileH kp kc' c.day limit g') ∧
      OutG g' v' (outs ++ [partOf p (cl c.paid + c.alc) - partOf p (cl c.paid)]) ∧ ClaimedAt kc' (fun n => if n = c.paid then cl n + c.alc else cl n) ∧ ∀ (k : Nat) (es : List (List AV)), g[k]? = some (.arr 2 es true false) → g'[k]? = some (.arr 2 es true false) := by
  have L := fun (ok : Bool) (h : Hp) (hid : h[0]? = some (.map kp)) (k : Go.AM.K β) => look_paid A hid ok c.paid k
  have L2 := fun (h : Hp) (hid : h[1]? = some (.map kc)) (k : Go.AM.K β) => look_claimed C hid c.paid k
  have w1 : IntKind.i64.wrap (cl c.paid + c.alc) = cl c.paid + c.alc := wrap64 (by omega) (by omega)
  have q1 := partOf_bd p (cl c.paid + c.alc) (by omega) b3.1 b3.2
  have q2 := partOf_bd p (cl c.paid) (by omega) b3.1 b3.2
  have w2 : IntKind.i64.wrap (partOf p (cl c.paid + c.alc) - partOf p (cl c.paid)) = partOf p (cl c.paid + c.alc) - partOf p (cl c.paid) := wrap64 (by omega) (by omega)
  have w3 : IntKind.i64.wrap ((i : Int) + 1) = ((i + 1 : Nat) : Int) := by rw [wrap64 (by omega) (by omega)]; omega
  have gp := fun n h base => G_drawback_part_val p n h base
  simp only [encP] at gp
  have hc' := fun x : List AObj => get_app (g := x) hc
  simp only [encC] at hc'
  have hc0 := hc
  simp only [encC] at hc0
  obtain ⟨kc', u1, u2, u3⟩ := updateKV_int (P := Try.prog) (kt := 3) un_3 c.paid (I (cl c.paid + c.alc)) C.keys
  have hC : ClaimedAt kc' (fun n => if n = c.paid then cl n + c.alc else cl n) := ⟨u2, fun n => by
    rw [u3]
    by_cases hn : n = c.paid
    · simp [hn]
    · simpa [hn] using C.get n⟩
  have hU := fun (h : Hp) (hid : h[1]? = some (.map kc)) => mupE_upd (P := Try.prog) (kt := 3) (v := I (cl c.paid + c.alc)) (n := c.paid) un_3 hid u1
  have hcb : g.length ≠ cb := by have := (List.getElem?_eq_some_iff.1 hc).1; omega
  obtain ⟨z, hz⟩ : ∃ z, z = partOf p (cl c.paid + c.alc) - partOf p (cl c.paid) := ⟨_, rfl⟩
  rw [← hz] at w2 ⊢
  rcases O with ⟨rfl, rfl⟩ | ⟨hne, k, rfl, hk⟩
  · refine ⟨.sl 1 (g.length + 2 + 3) 0 1 1 false, g ++ [.arr 5 [encP p] true false, .arr 1 [encI z] true false, .arr 1 [encI z] true false], kc', ?_, .inr ⟨by simp, g.length + 2, rfl, by simp⟩, hC, fun k es hk => get_app hk⟩
    simp only [f_drawback_carry_j5]
    simp [hc0]
    rw [L _ _ (by simp)]
    simp [hp, hc0]
    rw [L2 _ (by simp)]
    simp [boxE, encP, effD_y, disjAll, disj2, wrOf, idsOf, hc', w1, hD, callE_F, gp, ← hz, w2, hcb, bsE, fillS, appE, readSl]
    rw [L2 _ (by simp)]
    simp [w1]
    rw [hU _ (by simp)]
    simp [hc', w3, f_drawback_carry_j4]
  · have hkl := (List.getElem?_eq_some_iff.1 hk).1
    have hkc : k ≠ cb := by rintro rfl; rw [hk] at hc; simp at hc
    have hle : (outs.length + 1) * 8 ≤ 140737488355328 := by omega
    refine ⟨.sl 1 (k + 3) 0 (outs ++ [z]).length (outs ++ [z]).length false, g.set k (.arr 1 ((outs ++ [z]).map encI) true false) ++ [.arr 5 [encP p] true false, .arr 1 [encI z] true false], kc', ?_, .inr ⟨by simp, k, rfl, by
      rw [List.getElem?_append_left (by simpa using hkl)]; simp [hkl]⟩, hC, fun j es hj => by
      have hjk : k ≠ j := by rintro rfl; rw [hk] at hj; simp at hj
      exact get_app (by rw [List.getElem?_set_ne hjk]; exact hj)⟩
    have hk' := fun x : List AObj => get_app (g := x) hk
    have hcs := fun (o : AObj) (x : List AObj) => get_app (g := x) (show (g.set k o)[cb]? = some (.arr 3 [encC c] true false) by rw [List.getElem?_set_ne hkc]; exact hc)
    simp only [encC] at hcs
    have hst := fun (o : AObj) (x : List AObj) => List.set_append_left (s := g) (t := x) k o hkl
    simp only [f_drawback_carry_j5]
    simp [hc0]
    rw [L _ _ (by simp)]
    simp [hp, hc0]
    rw [L2 _ (by simp)]
    simp [boxE, encP, effD_y, disjAll, disj2, wrOf, idsOf, hc', w1, hD, callE_F, gp, ← hz, w2, hcb, bsE, fillS, appE, readSl, hk', hle, hst, hcs]
    rw [L2 _ (by simp)]
    simp [w1]
    rw [hU _ (by simp)]
    simp [hc', w3, hcs, f_drawback_carry_j4]
end
end Go.AM

/- drawback: the loop over the claims. -/
namespace Go.AM
open Go.Proofs
set_option linter.unusedVariables false
set_option linter.unusedSimpArgs false
set_option linter.constructorNameAsVariable false
set_option maxRecDepth 20000
def claimedL : List Claim → Int → Int
  | [], _ => 0
  | c :: cs, n => (if n = c.paid then c.alc else 0) + claimedL cs n
theorem claimedL_snoc (cs : List Claim) (c : Claim) (n : Int) : claimedL (cs ++ [c]) n = if n = c.paid then claimedL cs n + c.alc else claimedL cs n := by
  induction cs with
  | nil => simp [claimedL]
  | cons d cs ih =>
    simp only [List.cons_append, claimedL, ih]
    split <;> split <;> omega
def paidL (l : List Paid) (n : Int) : Option Paid := l.find? fun p => decide (p.id = n)
def lastL (cs : List Claim) : Int := match cs.getLast? with | some c => c.day | none => 0
theorem lastL_snoc (cs : List Claim) (c : Claim) : lastL (cs ++ [c]) = c.day := by simp [lastL]
def errC (l : List Paid) (limit : Int) (ahead : List Claim) (c : Claim) : Int := stepErr (paidL l) (claimedL ahead) (lastL ahead) limit c
def refundC (l : List Paid) (ahead : List Claim) (c : Claim) : Int := match paidL l c.paid with
  | some p => partOf p (claimedL ahead c.paid + c.alc) - partOf p (claimedL ahead c.paid)
  | none => 0
/-- What becomes of claims: the refunds; or the place of the first one that is refused, and its error. -/
def runC (l : List Paid) (limit : Int) : List Claim → List Claim → Sum (Nat × Int) (List Int)
  | _, [] => .inr []
  | ahead, c :: cs => if errC l limit ahead c = 0 then (match runC l limit (ahead ++ [c]) cs with | .inr r => .inr (refundC l ahead c :: r) | .inl e => .inl e) else .inl (ahead.length, errC l limit ahead c)
theorem paidL_mem {l : List Paid} {n : Int} {p : Paid} (h : paidL l n = some p) : p ∈ l ∧ p.id = n := ⟨List.mem_of_find?_eq_some h, by simpa using List.find?_some h⟩
/-- What is claimed lies within what there is. -/
def Within (l : List Paid) (ahead : List Claim) : Prop := ∀ n p, paidL l n = some p → 0 ≤ claimedL ahead n ∧ claimedL ahead n ≤ p.alc
theorem okP_bd {p : Paid} (h : badP p = false) : (0 ≤ p.day ∧ p.day ≤ 100000) ∧ (1 ≤ p.alc ∧ p.alc ≤ 10737418240000) ∧ (0 ≤ p.duty ∧ p.duty ≤ 1099511627776) := by
  simp [badP, win] at h; omega
theorem err0 {l : List Paid} {limit : Int} {ahead : List Claim} {c : Claim} (h : errC l limit ahead c = 0) : ∃ p, paidL l c.paid = some p ∧ (0 ≤ c.day ∧ c.day ≤ 100000) ∧ (1 ≤ c.alc ∧ c.alc ≤ 10737418240000) ∧ claimedL ahead c.paid + c.alc ≤ p.alc ∧ lastL ahead ≤ c.day ∧ p.day ≤ c.day ∧ c.day - p.day ≤ limit := by
  unfold errC stepErr at h
  split at h
  · omega
  · rename_i h1
    have hb : 0 ≤ c.day ∧ c.day ≤ 100000 ∧ 1 ≤ c.alc ∧ c.alc ≤ 10737418240000 := by simp [bad1, win] at h1; omega
    split at h
    · omega
    · split at h
      · omega
      · rename_i p hp
        split at h
        · omega
        · split at h
          · omega
          · split at h
            · omega
            · exact ⟨p, hp, ⟨hb.1, hb.2.1⟩, ⟨hb.2.2.1, hb.2.2.2⟩, by omega, by omega, by omega, by omega⟩
theorem Within.snoc {l : List Paid} {limit : Int} {ahead : List Claim} {c : Claim} (W : Within l ahead) (h : errC l limit ahead c = 0) : Within l (ahead ++ [c]) := by
  intro n p hp
  rw [claimedL_snoc]
  have := W n p hp
  split
  · rename_i e
    subst e
    obtain ⟨q, hq, h1, h2, h3, -⟩ := err0 h
    rw [hp] at hq
    injection hq with hq
    subst hq
    omega
  · exact this
section
variable {β : Type} {P : Program} {T : Tab} {D : DTab} {N : Nat} {K : AV → Hp → Option β} {x3 : AV → AV → Hp → Option β} {xr : AV → AV → AV → AV → Hp → Option β} {kp : List (Value × AV)} {limit : Int} {l : List Paid} {claims : List Claim} {b : Bool} {fk : Nat}
theorem carry_L3 (hT : ∀ g args (hh : Hp) (k : AV → Hp → Option β), callK (T g) args hh k = callK (t_drawback_carry g) args hh k) (hD : D 34 = some G_drawback_part) (hN : 10 ≤ N) (A : PaidAt kp (paidL l)) (hl : ∀ p ∈ l, badP p = false) (hc : claims.length < 1000) :
    ∀ (n : Nat) (ahead cs : List Claim) (outs : List Int) (v : AV) (g : List AObj) (kc : List (Value × AV)), claims = ahead ++ cs → cs.length < n → outs.length = ahead.length → Within l ahead → ClaimedAt kc (claimedL ahead) → OutG g v outs → g[fk]? = some (.arr 2 faultRows true false) →
      match runC l limit ahead cs with
      | .inl (j, e) => e ≠ 0 ∧ ∃ H, f_drawback_carry_L3 Try.prog T D N x3 xr n (.ptr 2 0 0 1) (.sl 2 (fk + 3) 0 6 6 true) v (.lst 3 b (claims.map encC)) (I claims.length) (I ahead.length) (fileH kp kc (lastL ahead) limit g) = xr (.s (.pointer none)) nilS (I j) (I e) H
      | .inr r => ∃ v' g' kc', f_drawback_carry_L3 Try.prog T D N x3 xr n (.ptr 2 0 0 1) (.sl 2 (fk + 3) 0 6 6 true) v (.lst 3 b (claims.map encC)) (I claims.length) (I ahead.length) (fileH kp kc (lastL ahead) limit g) = x3 (.ptr 2 0 0 1) v' (fileH kp kc' (lastL claims) limit g') ∧ OutG g' v' (outs ++ r) ∧ ClaimedAt kc' (claimedL claims) := by
  intro n
  induction n with
  | zero => intro ahead cs outs v g kc h1 h2; omega
  | succ n ih =>
    intro ahead cs outs v g kc hcl hn ho W C O hf
    cases cs with
    | nil =>
      simp only [runC]
      have hcl' : claims = ahead := by simpa using hcl
      subst hcl'
      refine ⟨v, g, kc, ?_, by simpa using O, C⟩
      show f_drawback_carry_b3 Try.prog T D N (f_drawback_carry_L3 Try.prog T D N x3 xr n) x3 xr _ _ _ _ _ _ _ = _
      simp [f_drawback_carry_b3]
    | cons c cs =>
      have hi : ahead.length < claims.length := by rw [hcl]; simp
      have hci : claims[ahead.length]? = some c := by rw [hcl]; simp
      have hlt : ((ahead.length : Int) < (claims.length : Int)) := by omega
      obtain ⟨m, rfl⟩ : ∃ m, N = m + 7 := ⟨N - 7, by omega⟩
      have start : f_drawback_carry_L3 Try.prog T D (m + 7) x3 xr (n + 1) (.ptr 2 0 0 1) (.sl 2 (fk + 3) 0 6 6 true) v (.lst 3 b (claims.map encC)) (I claims.length) (I ahead.length) (fileH kp kc (lastL ahead) limit g) =
          f_drawback_carry_L6 Try.prog T D (m + 7) (fun w99_12 w99_15 w99_16 w99_18 w99_59 w99_60 w99_61 h => f_drawback_carry_j5 Try.prog T D (m + 7) (f_drawback_carry_L3 Try.prog T D (m + 7) x3 xr n) x3 xr w99_12 w99_15 w99_16 w99_18 w99_59 w99_60 w99_61 h) (fun w100_6 w100_7 w100_8 w100_9 h => xr w100_6 w100_7 w100_8 w100_9 h)
            (m + 7) (.ptr 2 0 0 1) (.sl 2 (fk + 3) 0 6 6 true) v (I ahead.length) (.ptr (g.length + 3) 0 0 1) (.lst 3 b (claims.map encC)) (I claims.length) (I ahead.length) (.sl 2 (fk + 3) 0 6 6 true) (I 6) (I 0) (fileH kp kc (lastL ahead) limit (g ++ [.arr 3 [encC c] true false])) := by
        show f_drawback_carry_b3 Try.prog T D (m + 7) (f_drawback_carry_L3 Try.prog T D (m + 7) x3 xr n) x3 xr _ _ _ _ _ _ _ = _
        simp [f_drawback_carry_b3, hlt, hci, encC]
      have hd : ∀ p, paidL l c.paid = some p → 0 ≤ p.day ∧ p.day ≤ 100000 ∧ 0 ≤ claimedL ahead c.paid ∧ claimedL ahead c.paid ≤ 10737418240000 := fun p hp => by
        have h1 := okP_bd (hl p (paidL_mem hp).1)
        have h2 := W _ _ hp
        omega
      obtain ⟨g', hL⟩ := carry_L6 (P := Try.prog) (D := D) (N := m + 7) (x5 := fun w99_12 w99_15 w99_16 w99_18 w99_59 w99_60 w99_61 h => f_drawback_carry_j5 Try.prog T D (m + 7) (f_drawback_carry_L3 Try.prog T D (m + 7) x3 xr n) x3 xr w99_12 w99_15 w99_16 w99_18 w99_59 w99_60 w99_61 h) (xr := fun w100_6 w100_7 w100_8 w100_9 h => xr w100_6 w100_7 w100_8 w100_9 h)
        (v15 := .sl 2 (fk + 3) 0 6 6 true) (v16 := v) (v17 := I ahead.length) (v59 := .lst 3 b (claims.map encC)) (v60 := I claims.length) (v61 := I ahead.length) (fid := fk + 3) (cb := g.length + 3) (c := c) (last := lastL ahead) (limit := limit) hT A C (g := g ++ [.arr 3 [encC c] true false]) hd
        (by simpa using get_app hf) (by simp) m
      rw [start, hL]
      simp only [runC]
      by_cases he : errC l limit ahead c = 0
      · have he' : stepErr (paidL l) (claimedL ahead) (lastL ahead) limit c = 0 := he
        rw [if_pos he', if_pos he]
        obtain ⟨p, hp, q1, q2, q3, -⟩ := err0 he
        have hbp := okP_bd (hl p (paidL_mem hp).1)
        have hwp := W _ _ hp
        obtain ⟨v', g'', kc', r1, r2, r3, r4⟩ := carry_j5 (T := T) (N := m + 7) (xn := f_drawback_carry_L3 Try.prog T D (m + 7) x3 xr n) (x3 := x3) (xr := xr) (v15 := .sl 2 (fk + 3) 0 6 6 true) (v59 := .lst 3 b (claims.map encC)) (v60 := I claims.length) (last := lastL ahead) (limit := limit) (i := ahead.length) (cb := g.length) (g := g ++ [.arr 3 [encC c] true false] ++ g') hD A C hp
          (by simp) ((O.app _).app _) (by omega) (by omega) (by omega) (by omega) (by omega)
        rw [r1]
        have hl1 : lastL (ahead ++ [c]) = c.day := lastL_snoc ahead c
        have hcl2 : (fun n => if n = c.paid then claimedL ahead n + c.alc else claimedL ahead n) = claimedL (ahead ++ [c]) := by funext n; rw [claimedL_snoc]
        rw [hcl2] at r3
        have hrf : refundC l ahead c = partOf p (claimedL ahead c.paid + c.alc) - partOf p (claimedL ahead c.paid) := by simp [refundC, hp]
        rw [← hrf] at r2
        have h4 := ih (ahead ++ [c]) cs (outs ++ [refundC l ahead c]) v' g'' kc' (by simpa using hcl) (by simpa using hn) (by simp [ho]) (W.snoc he) r3 r2 (r4 _ _ (get_app (get_app hf)))
        rw [hl1] at h4
        simp only [List.length_append, List.length_cons, List.length_nil, Nat.zero_add] at h4
        revert h4
        cases runC l limit (ahead ++ [c]) cs with
        | inl e => exact id
        | inr r =>
          rintro ⟨v2, g2, kc2, s1, s2, s3⟩
          exact ⟨v2, g2, kc2, s1, by simpa using s2, s3⟩
      · have he' : ¬ stepErr (paidL l) (claimedL ahead) (lastL ahead) limit c = 0 := he
        rw [if_neg he', if_neg he]
        exact ⟨he, _, rfl⟩
end
end Go.AM

/- drawback: carry, Refund. -/
namespace Go.AM
open Go.Proofs
set_option linter.unusedVariables false
set_option linter.unusedSimpArgs false
set_option linter.constructorNameAsVariable false
set_option maxRecDepth 20000
theorem checkAt_cons_none (p : Paid) (l : List Paid) (i : Int) : checkAt none (p :: l) i = if badP p then some (i, 2) else checkAt (some p.id) l (i + 1) := by
  simp [checkAt]
theorem checkAt_cons_some (q : Int) (p : Paid) (l : List Paid) (i : Int) : checkAt (some q) (p :: l) i = if badP p then some (i, 2) else if p.id ≤ q then some (i, 5) else checkAt (some p.id) l (i + 1) := by
  simp [checkAt]
theorem checkAt_none : ∀ (l : List Paid) (prev : Option Int) (i : Int), checkAt prev l i = none → (∀ p ∈ l, badP p = false) ∧ l.Pairwise (fun a b => a.id < b.id) ∧ ∀ q, prev = some q → ∀ p ∈ l, q < p.id
  | [], prev, i, h => by simp
  | p :: l, prev, i, h => by
    have hh : badP p = false ∧ checkAt (some p.id) l (i + 1) = none ∧ ∀ q, prev = some q → q < p.id := by
      cases prev with
      | none =>
        rw [checkAt_cons_none] at h
        by_cases hb : badP p = true
        · simp [hb] at h
        · rw [if_neg hb] at h; exact ⟨by simpa using hb, h, by simp⟩
      | some q =>
        rw [checkAt_cons_some] at h
        by_cases hb : badP p = true
        · simp [hb] at h
        · rw [if_neg hb] at h
          by_cases hp : p.id ≤ q
          · simp [hp] at h
          · rw [if_neg hp] at h; exact ⟨by simpa using hb, h, by rintro _ ⟨⟩; omega⟩
    obtain ⟨hb, h0, hq⟩ := hh
    obtain ⟨h1, h2, h3⟩ := checkAt_none l (some p.id) (i + 1) h0
    have h4 := h3 p.id rfl
    refine ⟨by simpa using ⟨hb, h1⟩, by simpa using ⟨h4, h2⟩, ?_⟩
    rintro q hq' r hr
    have hq := hq q hq'
    rcases List.mem_cons.1 hr with rfl | hr
    · exact hq
    · have := h4 r hr; omega
theorem checkP_ok {l : List Paid} (h : (checkP l).2 = 0) : l.length ≤ 64 ∧ (∀ p ∈ l, badP p = false) ∧ l.Pairwise (fun a b => a.id < b.id) := by
  unfold checkP at h
  split at h
  · simp at h
  · rename_i hl
    have hn : checkAt none l 0 = none := by
      have key : ∀ (l : List Paid) (prev : Option Int) (i : Int) (x : Int × Int), checkAt prev l i = some x → x.2 ≠ 0 := by
        intro l
        induction l with
        | nil => intro prev i x hx; simp [checkAt] at hx
        | cons p l ih =>
          intro prev i x hx
          by_cases hb : badP p = true
          · cases prev <;> simp [checkAt_cons_none, checkAt_cons_some, hb] at hx <;> subst hx <;> simp
          · cases prev with
            | none => rw [checkAt_cons_none, if_neg hb] at hx; exact ih _ _ _ hx
            | some q =>
              rw [checkAt_cons_some, if_neg hb] at hx
              by_cases hp : p.id ≤ q
              · rw [if_pos hp] at hx; simp at hx; subst hx; simp
              · rw [if_neg hp] at hx; exact ih _ _ _ hx
      cases hc : checkAt none l 0 with
      | none => rfl
      | some x => rw [hc] at h; exact absurd h (key _ _ _ _ hc)
    obtain ⟨h1, h2, -⟩ := checkAt_none l none 0 hn
    exact ⟨by omega, h1, h2⟩
theorem paidL_snoc (l : List Paid) (p : Paid) (n : Int) (hd : ∀ q ∈ l, q.id < p.id) : paidL (l ++ [p]) n = if n = p.id then some p else paidL l n := by
  unfold paidL
  rw [List.find?_append]
  by_cases hn : n = p.id
  · subst hn
    have : l.find? (fun q => decide (q.id = p.id)) = none := by
      rw [List.find?_eq_none]
      intro q hq
      have := hd q hq
      simp; omega
    simp [this]
  · have : ([p].find? fun q => decide (q.id = n)) = none := by simp; omega
    rw [this, if_neg hn]
    simp
section
variable {β : Type} {P : Program} {T : Tab} {D : DTab} {N : Nat} {K : AV → Hp → Option β} {x1 : AV → AV → Hp → Option β} {limit : Int} {l : List Paid} {b : Bool} {v1 : AV}
theorem carry_L7 (hl : l.length < 1000) (hs : l.Pairwise (fun a b => a.id < b.id)) : ∀ (n : Nat) (pre post : List Paid) (kp : List (Value × AV)) (g : List AObj), l = pre ++ post → post.length < n → PaidAt kp (paidL pre) →
    ∃ kp' g', f_drawback_carry_L7 Try.prog T D N x1 n v1 (.ptr 2 0 0 1) (.lst 5 b (l.map encP)) (I l.length) (I pre.length) (fileH kp [] 0 limit g) = x1 v1 (.ptr 2 0 0 1) (fileH kp' [] 0 limit g') ∧ PaidAt kp' (paidL l) := by
  intro n
  induction n with
  | zero => intro pre post kp g h1 h2; omega
  | succ n ih =>
    intro pre post kp g hl2 hn A
    cases post with
    | nil =>
      have hcl' : l = pre := by simpa using hl2
      subst hcl'
      refine ⟨kp, g, ?_, A⟩
      show f_drawback_carry_b7 Try.prog T D N (f_drawback_carry_L7 Try.prog T D N x1 n) x1 _ _ _ _ _ _ = _
      simp [f_drawback_carry_b7]
    | cons p post =>
      have hi : pre.length < l.length := by rw [hl2]; simp
      have hci : l[pre.length]? = some p := by rw [hl2]; simp
      have hlt : ((pre.length : Int) < (l.length : Int)) := by omega
      have hw : IntKind.i64.wrap ((pre.length : Int) + 1) = (((pre ++ [p]).length : Nat) : Int) := by rw [wrap64 (by omega) (by omega)]; simp
      obtain ⟨kp', u1, u2, u3⟩ := updateKV_int (P := Try.prog) (kt := 3) un_3 p.id (.agg (encP p)) A.keys
      have hlt2 : ∀ q ∈ pre, q.id < p.id := by
        rw [hl2] at hs
        intro q hq
        exact (List.pairwise_append.1 hs).2.2 q hq p (by simp)
      have A' : PaidAt kp' (paidL (pre ++ [p])) := ⟨u2, fun m => by
        rw [u3, paidL_snoc _ _ _ hlt2, A.get]
        split <;> rfl⟩
      obtain ⟨kp2, g2, h1, h2⟩ := ih (pre ++ [p]) post kp' (g ++ [.arr 5 [encP p] true false]) (by simpa using hl2) (by simpa using hn) A'
      refine ⟨kp2, g2, ?_, h2⟩
      rw [← h1]
      have hU := fun (h : Hp) (hid : h[0]? = some (.map kp)) => mupE_upd (P := Try.prog) (kt := 3) (v := .agg (encP p)) (n := p.id) un_3 hid u1
      simp only [encP] at hU
      show f_drawback_carry_b7 Try.prog T D N (f_drawback_carry_L7 Try.prog T D N x1 n) x1 _ _ _ _ _ _ = _
      simp only [f_drawback_carry_b7]
      simp [hlt, hci, encP, hw]
      rw [hU _ (by simp)]
      simp
end
/-- Where carry stands behind everything. -/
def carryS (l : List Paid) (claims : List Claim) (limit : Int) : Sum (Int × Int) (List Int) :=
  if (checkP l).2 ≠ 0 then .inl (-1, 1) else if win limit 0 100000 = false then .inl (-1, 2) else if 64 < claims.length then .inl (-1, 8) else
  match runC l limit [] claims with
  | .inl (j, e) => .inl ((j : Int), e)
  | .inr r => .inr r
theorem carry_val (l : List Paid) (claims : List Claim) (b1 b2 : Bool) (limit : Int) :
    match carryS l claims limit with
    | .inl (j, e) => e ≠ 0 ∧ ∃ H, F_drawback_carry [.lst 5 b1 (l.map encP), .lst 3 b2 (claims.map encC), I limit] [] = some (.tup [.s (.pointer none), nilS, I j, I e], H)
    | .inr r => ∃ v kp kc g, F_drawback_carry [.lst 5 b1 (l.map encP), .lst 3 b2 (claims.map encC), I limit] [] = some (.tup [.ptr 2 0 0 1, v, I (-1), I 0], fileH kp kc (lastL claims) limit g) ∧ OutG g v r ∧ PaidAt kp (paidL l) ∧ ClaimedAt kc (claimedL claims) ∧ (checkP l).2 = 0 ∧ win limit 0 100000 = true := by
  rw [F_drawback_carry_raw]
  unfold carryS
  by_cases h1 : (checkP l).2 = 0
  · rw [if_neg (by simpa using h1)]
    by_cases h2 : win limit 0 100000 = true
    · rw [if_neg (by simp [h2])]
      by_cases h3 : 64 < claims.length
      · rw [if_pos h3]
        have h3' : (64 : Int) < (claims.length : Int) := by omega
        refine ⟨by simp, [], ?_⟩
        simp [f_drawback_carry, F_drawback_Check_val, h1, F_drawback_within_val, h2, h3, h3']
      · rw [if_neg h3]
        have h3' : ¬ (64 : Int) < (claims.length : Int) := by omega
        obtain ⟨c1, c2, c3⟩ := checkP_ok h1
        obtain ⟨kp, g, e1, A⟩ := carry_L7 (T := t_drawback_carry) (D := d_drawback_carry) (N := NN) (x1 := fun w119_1 w119_12 h => f_drawback_carry_j1 Try.prog t_drawback_carry d_drawback_carry NN (fun v h => some (v, h)) w119_1 w119_12 h) (limit := limit) (l := l) (b := b1) (v1 := .lst 3 b2 (claims.map encC)) (by omega) c3 NN [] l [] [] rfl (by have := NN_ge; omega) ⟨fun x hx => by simp at hx, fun n => rfl⟩
        have e0 : f_drawback_carry Try.prog t_drawback_carry d_drawback_carry NN (fun v h => some (v, h)) (.lst 5 b1 (l.map encP)) (.lst 3 b2 (claims.map encC)) (I limit) [] = f_drawback_carry_j1 Try.prog t_drawback_carry d_drawback_carry NN (fun v h => some (v, h)) (.lst 3 b2 (claims.map encC)) (.ptr 2 0 0 1) (fileH kp [] 0 limit g) := by
          rw [← e1]
          simp [f_drawback_carry, F_drawback_Check_val, h1, F_drawback_within_val, h2, h3, h3', buildK, fillA]
        rw [e0]
        have e2 := carry_L3 (T := t_drawback_carry) (D := d_drawback_carry) (N := NN) (x3 := fun w101_12 w101_16 h => f_drawback_carry_j2 Try.prog t_drawback_carry d_drawback_carry NN (fun v h => some (v, h)) w101_12 w101_16 h) (xr := fun w102_6 w102_7 w102_8 w102_9 h => some ((.tup [w102_6, w102_7, w102_8, w102_9]), h))
          (limit := limit) (l := l) (claims := claims) (b := b2) (fk := g.length) (fun g args hh k => rfl) d_drawback_carry_34 (by have := NN_ge; omega) A c2 (by omega) NN [] claims [] nilS (g ++ [.arr 2 faultRows true false]) [] rfl (by have := NN_ge; omega) rfl (fun n p hp => by
            have := okP_bd (c2 p (paidL_mem hp).1); simp [claimedL]; omega) ⟨fun x hx => by simp at hx, fun n => .inr ⟨rfl, rfl⟩⟩ (.inl ⟨rfl, rfl⟩) (by simp)
        have e3 : f_drawback_carry_j1 Try.prog t_drawback_carry d_drawback_carry NN (fun v h => some (v, h)) (.lst 3 b2 (claims.map encC)) (.ptr 2 0 0 1) (fileH kp [] 0 limit g) = f_drawback_carry_L3 Try.prog t_drawback_carry d_drawback_carry NN (fun w101_12 w101_16 h => f_drawback_carry_j2 Try.prog t_drawback_carry d_drawback_carry NN (fun v h => some (v, h)) w101_12 w101_16 h) (fun w102_6 w102_7 w102_8 w102_9 h => some ((.tup [w102_6, w102_7, w102_8, w102_9]), h)) NN (.ptr 2 0 0 1) (.sl 2 (g.length + 3) 0 6 6 true) nilS (.lst 3 b2 (claims.map encC)) (I claims.length) (I 0) (fileH kp [] 0 limit (g ++ [.arr 2 faultRows true false])) := by
          simp [f_drawback_carry_j1, F_faults]
        rw [e3]
        revert e2
        cases runC l limit [] claims with
        | inl je =>
          rintro ⟨q1, H, q2⟩
          exact ⟨q1, H, q2⟩
        | inr r =>
          rintro ⟨v', g', kc', q1, q2, q3⟩
          exact ⟨v', kp, kc', g', q1, by simpa using q2, A, q3, h1, h2⟩
    · have h2' : win limit 0 100000 = false := by simpa using h2
      rw [if_pos h2']
      refine ⟨by simp, [], ?_⟩
      simp [f_drawback_carry, F_drawback_Check_val, h1, F_drawback_within_val, h2']
  · rw [if_pos h1]
    refine ⟨by simp, [], ?_⟩
    simp [f_drawback_carry, F_drawback_Check_val, h1]
/-- Refund: the refunds, the place of the claim that is refused, the error. -/
def refundS (l : List Paid) (claims : List Claim) (limit : Int) : List Int × Int × Int := match carryS l claims limit with
  | .inl (j, e) => ([], j, e)
  | .inr r => (r, -1, 0)
theorem OutG.cvt {g : List AObj} {v : AV} {r : List Int} (O : OutG g v r) (st : Bool) (a b c : AObj) : nrm (.l 1) ((Go.AM.cvt st (a :: b :: c :: g) v).getD .u) = SL 1 encI (r.isEmpty) r ∧ (Go.AM.cvt st (a :: b :: c :: g) v).isSome = true := by
  rcases O with ⟨rfl, rfl⟩ | ⟨h1, k, rfl, h2⟩
  · exact ⟨rfl, rfl⟩
  · have hok : okE st (r.map encI) = true := okE_map (by intro x; cases st <;> rfl)
    have := cvt_whole (st := st) (h := a :: b :: c :: g) (sz := 1) (id := k + 3) (n := r.length) (fr := r.length) (full := false) (nl := false) (es := r.map encI) (by simpa using h2) (by simp) (by simp) hok
    have he : r.isEmpty = false := by simpa using h1
    rw [this, he]
    exact ⟨rfl, rfl⟩
theorem F_drawback_Refund_val (l : List Paid) (claims : List Claim) (b1 b2 : Bool) (limit : Int) (h : Hp) : F_drawback_Refund [.lst 5 b1 (l.map encP), .lst 3 b2 (claims.map encC), I limit] h =
    some (.tup [SL 1 encI (refundS l claims limit).1.isEmpty (refundS l claims limit).1, I (refundS l claims limit).2.1, I (refundS l claims limit).2.2], h) := by
  have hc := carry_val l claims b1 b2 limit
  unfold refundS
  revert hc
  cases hS : carryS l claims limit with
  | inl je =>
    rintro ⟨h1, H, h2⟩
    refine (F_drawback_Refund_run (v := .tup [nilS, I je.1, I je.2]) rfl ?_ h).trans rfl
    simp [f_drawback_Refund, h2]
  | inr r =>
    rintro ⟨v, kp, kc, g, h1, O, -⟩
    obtain ⟨q1, q2⟩ := O.cvt false (.map kp) (.map kc) (fileO (lastL claims) limit)
    obtain ⟨w, hw⟩ := Option.isSome_iff_exists.1 q2
    rw [hw] at q1
    refine (F_drawback_Refund_run (v := .tup [w, I (-1), I 0]) rfl ?_ h).trans ?_
    · simp [f_drawback_Refund, h1, hw]
    · simp only [Option.getD_some] at q1
      show some (AV.tup [nrm (.l 1) w, I (-1), I 0], h) = _
      rw [q1]
end Go.AM
