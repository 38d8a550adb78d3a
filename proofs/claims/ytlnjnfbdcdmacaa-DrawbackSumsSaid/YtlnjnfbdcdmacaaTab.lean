import Derived.Test.YtlnjnfbdcdmacaaSh
namespace Go.AM
open Go.Proofs
set_option linter.unusedVariables false
set_option maxRecDepth 100000
theorem mixed : Try.prog.follows .mixedOrders = true := by kernel_rfl
theorem NN_ex : ∃ n : Nat, 1000000 ≤ n ∧ n < 4611686018427387904 := ⟨1000000, by omega, by omega⟩
noncomputable def NN : Nat := NN_ex.choose
theorem NN_ge : 1000000 ≤ NN := NN_ex.choose_spec.1
theorem NN_lt : NN < 4611686018427387904 := NN_ex.choose_spec.2
/-! spile/drawback.within -/
noncomputable def t_drawback_within : Tab := T0
theorem t_drawback_within_ok : TSound Try.prog t_drawback_within := TSound.zero
noncomputable def d_drawback_within : DTab := D0
theorem d_drawback_within_ok : DSound Try.prog d_drawback_within := DSound.zero
noncomputable def R_drawback_within : Fun := runF Try.prog t_drawback_within d_drawback_within NN [0, 1, 2, 6] Try.f27 3
theorem R_drawback_within_ok : CSound Try.prog 27 R_drawback_within := run_sound t_drawback_within_ok d_drawback_within_ok mixed Try.func27 (by kernel_rfl) NN
theorem R_drawback_within_eq {β : Type} (K : AV → Hp → Option β) (a0 : AV) (a1 : AV) (a2 : AV) (h : Hp) : (R_drawback_within [a0, a1, a2] h).bind (fun p => K p.1 p.2) = f_drawback_within Try.prog t_drawback_within d_drawback_within NN K a0 a1 a2 h := by
  rw [← f_drawback_within_run]; exact runF_bind rfl
noncomputable def F_drawback_within : Fun := closedX [.o, .o, .o] [.o] R_drawback_within
theorem F_drawback_within_ok : CSound Try.prog 27 F_drawback_within := closedX_sound _ _ R_drawback_within_ok
noncomputable def G_drawback_within : DFun := closedXD [.o, .o, .o] [.o] R_drawback_within
theorem G_drawback_within_ro : Ro F_drawback_within G_drawback_within := closedX_ro _ _ _
theorem F_drawback_within_run {a0 : AV} {a1 : AV} {a2 : AV} {v : AV} (ha : plains [a0, a1, a2] = true) (hv : f_drawback_within Try.prog t_drawback_within d_drawback_within NN (fun v g => cvt false g v) a0 a1 a2 [] = some v) (h : Hp) : F_drawback_within [a0, a1, a2] h = some (v, h) := by
  have e : (R_drawback_within (nrms [.o, .o, .o] [a0, a1, a2]) []).bind (fun (p : AV × Hp) => cvt false p.2 p.1) = some v := (R_drawback_within_eq (fun v g => cvt false g v) a0 a1 a2 []).trans hv
  exact (closedX_bind (shr := [.o]) ha e h).trans (congrArg (fun x => some (x, h)) (nrmR_rep 1 v))
theorem F_drawback_within_own {a0 : AV} {a1 : AV} {a2 : AV} {x0 : AV} {x1 : AV} {x2 : AV} {h : Hp} {v : AV} (ha : cvts false h [x0, x1, x2] = some [a0, a1, a2]) (hv : ∀ st, f_drawback_within Try.prog t_drawback_within d_drawback_within NN (fun v g => cvt st g v) a0 a1 a2 [] = some v) : F_drawback_within [x0, x1, x2] h = some (v, h) := by
  have e : ∀ st, (R_drawback_within (nrms [.o, .o, .o] [a0, a1, a2]) []).bind (fun (p : AV × Hp) => cvt st p.2 p.1) = some v := fun st => (R_drawback_within_eq (fun v g => cvt st g v) a0 a1 a2 []).trans (hv st)
  exact (closedX_ownB (shr := [.o]) ha e).trans (congrArg (fun x => some (x, h)) (nrmR_rep 1 v))
/-! spile/drawback.Check -/
noncomputable def t_drawback_Check : Tab := (updF T0 27 F_drawback_within)
theorem t_drawback_Check_ok : TSound Try.prog t_drawback_Check := (TSound.upd TSound.zero F_drawback_within_ok)
@[simp] theorem t_drawback_Check_27 : t_drawback_Check 27 = some F_drawback_within := rfl
noncomputable def d_drawback_Check : DTab := D0
theorem d_drawback_Check_ok : DSound Try.prog d_drawback_Check := DSound.zero
noncomputable def R_drawback_Check : Fun := runF Try.prog t_drawback_Check d_drawback_Check NN [0, 2, 3, 4, 5, 8, 9, 10, 11, 12, 16, 46] Try.f12 1
theorem R_drawback_Check_ok : CSound Try.prog 12 R_drawback_Check := run_sound t_drawback_Check_ok d_drawback_Check_ok mixed Try.func12 (by kernel_rfl) NN
theorem R_drawback_Check_eq {β : Type} (K : AV → Hp → Option β) (a0 : AV) (h : Hp) : (R_drawback_Check [a0] h).bind (fun p => K p.1 p.2) = f_drawback_Check Try.prog t_drawback_Check d_drawback_Check NN K a0 h := by
  rw [← f_drawback_Check_run]; exact runF_bind rfl
noncomputable def F_drawback_Check : Fun := closedX [.l 5] [.o, .o] R_drawback_Check
theorem F_drawback_Check_ok : CSound Try.prog 12 F_drawback_Check := closedX_sound _ _ R_drawback_Check_ok
noncomputable def G_drawback_Check : DFun := closedXD [.l 5] [.o, .o] R_drawback_Check
theorem G_drawback_Check_ro : Ro F_drawback_Check G_drawback_Check := closedX_ro _ _ _
theorem F_drawback_Check_run {a0 : AV} {v : AV} (ha : plains [a0] = true) (hv : f_drawback_Check Try.prog t_drawback_Check d_drawback_Check NN (fun v g => cvt false g v) (nrm (.l 5) a0) [] = some v) (h : Hp) : F_drawback_Check [a0] h = some (v, h) := by
  have e : (R_drawback_Check (nrms [.l 5] [a0]) []).bind (fun (p : AV × Hp) => cvt false p.2 p.1) = some v := (R_drawback_Check_eq (fun v g => cvt false g v) (nrm (.l 5) a0) []).trans hv
  exact (closedX_bind (shr := [.o, .o]) ha e h).trans (congrArg (fun x => some (x, h)) (nrmR_rep 2 v))
theorem F_drawback_Check_own {a0 : AV} {x0 : AV} {h : Hp} {v : AV} (ha : cvts false h [x0] = some [a0]) (hv : ∀ st, f_drawback_Check Try.prog t_drawback_Check d_drawback_Check NN (fun v g => cvt st g v) (nrm (.l 5) a0) [] = some v) : F_drawback_Check [x0] h = some (v, h) := by
  have e : ∀ st, (R_drawback_Check (nrms [.l 5] [a0]) []).bind (fun (p : AV × Hp) => cvt st p.2 p.1) = some v := fun st => (R_drawback_Check_eq (fun v g => cvt st g v) (nrm (.l 5) a0) []).trans (hv st)
  exact (closedX_ownB (shr := [.o, .o]) ha e).trans (congrArg (fun x => some (x, h)) (nrmR_rep 2 v))
/-! slices.Clone[[]spile/api.Paid,spile/api.Paid] -/
noncomputable def t_slices_Clone_Paid : Tab := T0
theorem t_slices_Clone_Paid_ok : TSound Try.prog t_slices_Clone_Paid := TSound.zero
noncomputable def d_slices_Clone_Paid : DTab := D0
theorem d_slices_Clone_Paid_ok : DSound Try.prog d_slices_Clone_Paid := DSound.zero
noncomputable def R_slices_Clone_Paid : Fun := runF Try.prog t_slices_Clone_Paid d_slices_Clone_Paid NN [0, 2, 4] Try.f13 1
theorem R_slices_Clone_Paid_ok : CSound Try.prog 13 R_slices_Clone_Paid := run_sound t_slices_Clone_Paid_ok d_slices_Clone_Paid_ok mixed Try.func13 (by kernel_rfl) NN
theorem R_slices_Clone_Paid_eq {β : Type} (K : AV → Hp → Option β) (a0 : AV) (h : Hp) : (R_slices_Clone_Paid [a0] h).bind (fun p => K p.1 p.2) = f_slices_Clone_Paid Try.prog t_slices_Clone_Paid d_slices_Clone_Paid NN K a0 h := by
  rw [← f_slices_Clone_Paid_run]; exact runF_bind rfl
noncomputable def F_slices_Clone_Paid : Fun := closedX [.l 5] [.l 5] R_slices_Clone_Paid
theorem F_slices_Clone_Paid_ok : CSound Try.prog 13 F_slices_Clone_Paid := closedX_sound _ _ R_slices_Clone_Paid_ok
noncomputable def G_slices_Clone_Paid : DFun := closedXD [.l 5] [.l 5] R_slices_Clone_Paid
theorem G_slices_Clone_Paid_ro : Ro F_slices_Clone_Paid G_slices_Clone_Paid := closedX_ro _ _ _
theorem F_slices_Clone_Paid_run {a0 : AV} {v : AV} (ha : plains [a0] = true) (hv : f_slices_Clone_Paid Try.prog t_slices_Clone_Paid d_slices_Clone_Paid NN (fun v g => cvt false g v) (nrm (.l 5) a0) [] = some v) (h : Hp) : F_slices_Clone_Paid [a0] h = some ((nrmR [.l 5] v), h) := by
  have e : (R_slices_Clone_Paid (nrms [.l 5] [a0]) []).bind (fun (p : AV × Hp) => cvt false p.2 p.1) = some v := (R_slices_Clone_Paid_eq (fun v g => cvt false g v) (nrm (.l 5) a0) []).trans hv
  exact (closedX_bind (shr := [.l 5]) ha e h).trans (congrArg (fun x => some (x, h)) rfl)
theorem F_slices_Clone_Paid_own {a0 : AV} {x0 : AV} {h : Hp} {v : AV} (ha : cvts false h [x0] = some [a0]) (hv : ∀ st, f_slices_Clone_Paid Try.prog t_slices_Clone_Paid d_slices_Clone_Paid NN (fun v g => cvt st g v) (nrm (.l 5) a0) [] = some v) : F_slices_Clone_Paid [x0] h = some ((nrmR [.l 5] v), h) := by
  have e : ∀ st, (R_slices_Clone_Paid (nrms [.l 5] [a0]) []).bind (fun (p : AV × Hp) => cvt st p.2 p.1) = some v := fun st => (R_slices_Clone_Paid_eq (fun v g => cvt st g v) (nrm (.l 5) a0) []).trans (hv st)
  exact (closedX_ownB (shr := [.l 5]) ha e).trans (congrArg (fun x => some (x, h)) rfl)
/-! spile/proportion.amount -/
noncomputable def t_proportion_amount : Tab := T0
theorem t_proportion_amount_ok : TSound Try.prog t_proportion_amount := TSound.zero
noncomputable def d_proportion_amount : DTab := D0
theorem d_proportion_amount_ok : DSound Try.prog d_proportion_amount := DSound.zero
noncomputable def R_proportion_amount : Fun := runF Try.prog t_proportion_amount d_proportion_amount NN [0, 2] Try.f43 1
theorem R_proportion_amount_ok : CSound Try.prog 43 R_proportion_amount := run_sound t_proportion_amount_ok d_proportion_amount_ok mixed Try.func43 (by kernel_rfl) NN
theorem R_proportion_amount_eq {β : Type} (K : AV → Hp → Option β) (a0 : AV) (h : Hp) : (R_proportion_amount [a0] h).bind (fun p => K p.1 p.2) = f_proportion_amount Try.prog t_proportion_amount d_proportion_amount NN K a0 h := by
  rw [← f_proportion_amount_run]; exact runF_bind rfl
noncomputable def F_proportion_amount : Fun := closedX [.o] [.o] R_proportion_amount
theorem F_proportion_amount_ok : CSound Try.prog 43 F_proportion_amount := closedX_sound _ _ R_proportion_amount_ok
noncomputable def G_proportion_amount : DFun := closedXD [.o] [.o] R_proportion_amount
theorem G_proportion_amount_ro : Ro F_proportion_amount G_proportion_amount := closedX_ro _ _ _
theorem F_proportion_amount_run {a0 : AV} {v : AV} (ha : plains [a0] = true) (hv : f_proportion_amount Try.prog t_proportion_amount d_proportion_amount NN (fun v g => cvt false g v) a0 [] = some v) (h : Hp) : F_proportion_amount [a0] h = some (v, h) := by
  have e : (R_proportion_amount (nrms [.o] [a0]) []).bind (fun (p : AV × Hp) => cvt false p.2 p.1) = some v := (R_proportion_amount_eq (fun v g => cvt false g v) a0 []).trans hv
  exact (closedX_bind (shr := [.o]) ha e h).trans (congrArg (fun x => some (x, h)) (nrmR_rep 1 v))
theorem F_proportion_amount_own {a0 : AV} {x0 : AV} {h : Hp} {v : AV} (ha : cvts false h [x0] = some [a0]) (hv : ∀ st, f_proportion_amount Try.prog t_proportion_amount d_proportion_amount NN (fun v g => cvt st g v) a0 [] = some v) : F_proportion_amount [x0] h = some (v, h) := by
  have e : ∀ st, (R_proportion_amount (nrms [.o] [a0]) []).bind (fun (p : AV × Hp) => cvt st p.2 p.1) = some v := fun st => (R_proportion_amount_eq (fun v g => cvt st g v) a0 []).trans (hv st)
  exact (closedX_ownB (shr := [.o]) ha e).trans (congrArg (fun x => some (x, h)) (nrmR_rep 1 v))
/-! spile/proportion.amounts$1 -/
noncomputable def t_proportion_amounts_1 : Tab := (updF T0 43 F_proportion_amount)
theorem t_proportion_amounts_1_ok : TSound Try.prog t_proportion_amounts_1 := (TSound.upd TSound.zero F_proportion_amount_ok)
@[simp] theorem t_proportion_amounts_1_43 : t_proportion_amounts_1 43 = some F_proportion_amount := rfl
noncomputable def d_proportion_amounts_1 : DTab := D0
theorem d_proportion_amounts_1_ok : DSound Try.prog d_proportion_amounts_1 := DSound.zero
noncomputable def R_proportion_amounts_1 : Fun := runF Try.prog t_proportion_amounts_1 d_proportion_amounts_1 NN [0, 2] Try.f42 1
theorem R_proportion_amounts_1_ok : CSound Try.prog 42 R_proportion_amounts_1 := run_sound t_proportion_amounts_1_ok d_proportion_amounts_1_ok mixed Try.func42 (by kernel_rfl) NN
theorem R_proportion_amounts_1_eq {β : Type} (K : AV → Hp → Option β) (a0 : AV) (h : Hp) : (R_proportion_amounts_1 [a0] h).bind (fun p => K p.1 p.2) = f_proportion_amounts_1 Try.prog t_proportion_amounts_1 d_proportion_amounts_1 NN K a0 h := by
  rw [← f_proportion_amounts_1_run]; exact runF_bind rfl
noncomputable def F_proportion_amounts_1 : Fun := closedX [.o] [.o] R_proportion_amounts_1
theorem F_proportion_amounts_1_ok : CSound Try.prog 42 F_proportion_amounts_1 := closedX_sound _ _ R_proportion_amounts_1_ok
noncomputable def G_proportion_amounts_1 : DFun := closedXD [.o] [.o] R_proportion_amounts_1
theorem G_proportion_amounts_1_ro : Ro F_proportion_amounts_1 G_proportion_amounts_1 := closedX_ro _ _ _
theorem F_proportion_amounts_1_run {a0 : AV} {v : AV} (ha : plains [a0] = true) (hv : f_proportion_amounts_1 Try.prog t_proportion_amounts_1 d_proportion_amounts_1 NN (fun v g => cvt false g v) a0 [] = some v) (h : Hp) : F_proportion_amounts_1 [a0] h = some (v, h) := by
  have e : (R_proportion_amounts_1 (nrms [.o] [a0]) []).bind (fun (p : AV × Hp) => cvt false p.2 p.1) = some v := (R_proportion_amounts_1_eq (fun v g => cvt false g v) a0 []).trans hv
  exact (closedX_bind (shr := [.o]) ha e h).trans (congrArg (fun x => some (x, h)) (nrmR_rep 1 v))
theorem F_proportion_amounts_1_own {a0 : AV} {x0 : AV} {h : Hp} {v : AV} (ha : cvts false h [x0] = some [a0]) (hv : ∀ st, f_proportion_amounts_1 Try.prog t_proportion_amounts_1 d_proportion_amounts_1 NN (fun v g => cvt st g v) a0 [] = some v) : F_proportion_amounts_1 [x0] h = some (v, h) := by
  have e : ∀ st, (R_proportion_amounts_1 (nrms [.o] [a0]) []).bind (fun (p : AV × Hp) => cvt st p.2 p.1) = some v := fun st => (R_proportion_amounts_1_eq (fun v g => cvt st g v) a0 []).trans (hv st)
  exact (closedX_ownB (shr := [.o]) ha e).trans (congrArg (fun x => some (x, h)) (nrmR_rep 1 v))
/-! slices.IndexFunc[[]int,int] : spile/proportion.amounts$1 -/
noncomputable def t_slices_IndexFunc_int__proportion_amounts_1 : Tab := (updF T0 42 F_proportion_amounts_1)
theorem t_slices_IndexFunc_int__proportion_amounts_1_ok : TSound Try.prog t_slices_IndexFunc_int__proportion_amounts_1 := (TSound.upd TSound.zero F_proportion_amounts_1_ok)
@[simp] theorem t_slices_IndexFunc_int__proportion_amounts_1_42 : t_slices_IndexFunc_int__proportion_amounts_1 42 = some F_proportion_amounts_1 := rfl
noncomputable def d_slices_IndexFunc_int__proportion_amounts_1 : DTab := D0
theorem d_slices_IndexFunc_int__proportion_amounts_1_ok : DSound Try.prog d_slices_IndexFunc_int__proportion_amounts_1 := DSound.zero
noncomputable def R_slices_IndexFunc_int__proportion_amounts_1 : Fun := runF Try.prog t_slices_IndexFunc_int__proportion_amounts_1 d_slices_IndexFunc_int__proportion_amounts_1 NN [0, 1, 4, 5, 7, 8, 9, 16] Try.f53 2
theorem R_slices_IndexFunc_int__proportion_amounts_1_ok : CSound Try.prog 53 R_slices_IndexFunc_int__proportion_amounts_1 := run_sound t_slices_IndexFunc_int__proportion_amounts_1_ok d_slices_IndexFunc_int__proportion_amounts_1_ok mixed Try.func53 (by kernel_rfl) NN
theorem R_slices_IndexFunc_int__proportion_amounts_1_eq {β : Type} (K : AV → Hp → Option β) (a0 : AV) (a1 : AV) (h : Hp) : (R_slices_IndexFunc_int__proportion_amounts_1 [a0, a1] h).bind (fun p => K p.1 p.2) = f_slices_IndexFunc_int Try.prog t_slices_IndexFunc_int__proportion_amounts_1 d_slices_IndexFunc_int__proportion_amounts_1 NN K a0 a1 h := by
  rw [← f_slices_IndexFunc_int_run]; exact runF_bind rfl
noncomputable def F_slices_IndexFunc_int__proportion_amounts_1 : Fun := closedX [.l 1, .o] [.o] R_slices_IndexFunc_int__proportion_amounts_1
theorem F_slices_IndexFunc_int__proportion_amounts_1_ok : CSound Try.prog 53 F_slices_IndexFunc_int__proportion_amounts_1 := closedX_sound _ _ R_slices_IndexFunc_int__proportion_amounts_1_ok
noncomputable def G_slices_IndexFunc_int__proportion_amounts_1 : DFun := closedXD [.l 1, .o] [.o] R_slices_IndexFunc_int__proportion_amounts_1
theorem G_slices_IndexFunc_int__proportion_amounts_1_ro : Ro F_slices_IndexFunc_int__proportion_amounts_1 G_slices_IndexFunc_int__proportion_amounts_1 := closedX_ro _ _ _
theorem F_slices_IndexFunc_int__proportion_amounts_1_run {a0 : AV} {a1 : AV} {v : AV} (ha : plains [a0, a1] = true) (hv : f_slices_IndexFunc_int Try.prog t_slices_IndexFunc_int__proportion_amounts_1 d_slices_IndexFunc_int__proportion_amounts_1 NN (fun v g => cvt false g v) (nrm (.l 1) a0) a1 [] = some v) (h : Hp) : F_slices_IndexFunc_int__proportion_amounts_1 [a0, a1] h = some (v, h) := by
  have e : (R_slices_IndexFunc_int__proportion_amounts_1 (nrms [.l 1, .o] [a0, a1]) []).bind (fun (p : AV × Hp) => cvt false p.2 p.1) = some v := (R_slices_IndexFunc_int__proportion_amounts_1_eq (fun v g => cvt false g v) (nrm (.l 1) a0) a1 []).trans hv
  exact (closedX_bind (shr := [.o]) ha e h).trans (congrArg (fun x => some (x, h)) (nrmR_rep 1 v))
theorem F_slices_IndexFunc_int__proportion_amounts_1_own {a0 : AV} {a1 : AV} {x0 : AV} {x1 : AV} {h : Hp} {v : AV} (ha : cvts false h [x0, x1] = some [a0, a1]) (hv : ∀ st, f_slices_IndexFunc_int Try.prog t_slices_IndexFunc_int__proportion_amounts_1 d_slices_IndexFunc_int__proportion_amounts_1 NN (fun v g => cvt st g v) (nrm (.l 1) a0) a1 [] = some v) : F_slices_IndexFunc_int__proportion_amounts_1 [x0, x1] h = some (v, h) := by
  have e : ∀ st, (R_slices_IndexFunc_int__proportion_amounts_1 (nrms [.l 1, .o] [a0, a1]) []).bind (fun (p : AV × Hp) => cvt st p.2 p.1) = some v := fun st => (R_slices_IndexFunc_int__proportion_amounts_1_eq (fun v g => cvt st g v) (nrm (.l 1) a0) a1 []).trans (hv st)
  exact (closedX_ownB (shr := [.o]) ha e).trans (congrArg (fun x => some (x, h)) (nrmR_rep 1 v))
/-! slices.ContainsFunc[[]int,int] : spile/proportion.amounts$1 -/
noncomputable def t_slices_ContainsFunc_int__proportion_amounts_1 : Tab := (updF T0 53 F_slices_IndexFunc_int__proportion_amounts_1)
theorem t_slices_ContainsFunc_int__proportion_amounts_1_ok : TSound Try.prog t_slices_ContainsFunc_int__proportion_amounts_1 := (TSound.upd TSound.zero F_slices_IndexFunc_int__proportion_amounts_1_ok)
@[simp] theorem t_slices_ContainsFunc_int__proportion_amounts_1_53 : t_slices_ContainsFunc_int__proportion_amounts_1 53 = some F_slices_IndexFunc_int__proportion_amounts_1 := rfl
noncomputable def d_slices_ContainsFunc_int__proportion_amounts_1 : DTab := D0
theorem d_slices_ContainsFunc_int__proportion_amounts_1_ok : DSound Try.prog d_slices_ContainsFunc_int__proportion_amounts_1 := DSound.zero
noncomputable def R_slices_ContainsFunc_int__proportion_amounts_1 : Fun := runF Try.prog t_slices_ContainsFunc_int__proportion_amounts_1 d_slices_ContainsFunc_int__proportion_amounts_1 NN [0, 1, 4] Try.f41 2
theorem R_slices_ContainsFunc_int__proportion_amounts_1_ok : CSound Try.prog 41 R_slices_ContainsFunc_int__proportion_amounts_1 := run_sound t_slices_ContainsFunc_int__proportion_amounts_1_ok d_slices_ContainsFunc_int__proportion_amounts_1_ok mixed Try.func41 (by kernel_rfl) NN
theorem R_slices_ContainsFunc_int__proportion_amounts_1_eq {β : Type} (K : AV → Hp → Option β) (a0 : AV) (a1 : AV) (h : Hp) : (R_slices_ContainsFunc_int__proportion_amounts_1 [a0, a1] h).bind (fun p => K p.1 p.2) = f_slices_ContainsFunc_int Try.prog t_slices_ContainsFunc_int__proportion_amounts_1 d_slices_ContainsFunc_int__proportion_amounts_1 NN K a0 a1 h := by
  rw [← f_slices_ContainsFunc_int_run]; exact runF_bind rfl
noncomputable def F_slices_ContainsFunc_int__proportion_amounts_1 : Fun := closedX [.l 1, .o] [.o] R_slices_ContainsFunc_int__proportion_amounts_1
theorem F_slices_ContainsFunc_int__proportion_amounts_1_ok : CSound Try.prog 41 F_slices_ContainsFunc_int__proportion_amounts_1 := closedX_sound _ _ R_slices_ContainsFunc_int__proportion_amounts_1_ok
noncomputable def G_slices_ContainsFunc_int__proportion_amounts_1 : DFun := closedXD [.l 1, .o] [.o] R_slices_ContainsFunc_int__proportion_amounts_1
theorem G_slices_ContainsFunc_int__proportion_amounts_1_ro : Ro F_slices_ContainsFunc_int__proportion_amounts_1 G_slices_ContainsFunc_int__proportion_amounts_1 := closedX_ro _ _ _
theorem F_slices_ContainsFunc_int__proportion_amounts_1_run {a0 : AV} {a1 : AV} {v : AV} (ha : plains [a0, a1] = true) (hv : f_slices_ContainsFunc_int Try.prog t_slices_ContainsFunc_int__proportion_amounts_1 d_slices_ContainsFunc_int__proportion_amounts_1 NN (fun v g => cvt false g v) (nrm (.l 1) a0) a1 [] = some v) (h : Hp) : F_slices_ContainsFunc_int__proportion_amounts_1 [a0, a1] h = some (v, h) := by
  have e : (R_slices_ContainsFunc_int__proportion_amounts_1 (nrms [.l 1, .o] [a0, a1]) []).bind (fun (p : AV × Hp) => cvt false p.2 p.1) = some v := (R_slices_ContainsFunc_int__proportion_amounts_1_eq (fun v g => cvt false g v) (nrm (.l 1) a0) a1 []).trans hv
  exact (closedX_bind (shr := [.o]) ha e h).trans (congrArg (fun x => some (x, h)) (nrmR_rep 1 v))
theorem F_slices_ContainsFunc_int__proportion_amounts_1_own {a0 : AV} {a1 : AV} {x0 : AV} {x1 : AV} {h : Hp} {v : AV} (ha : cvts false h [x0, x1] = some [a0, a1]) (hv : ∀ st, f_slices_ContainsFunc_int Try.prog t_slices_ContainsFunc_int__proportion_amounts_1 d_slices_ContainsFunc_int__proportion_amounts_1 NN (fun v g => cvt st g v) (nrm (.l 1) a0) a1 [] = some v) : F_slices_ContainsFunc_int__proportion_amounts_1 [x0, x1] h = some (v, h) := by
  have e : ∀ st, (R_slices_ContainsFunc_int__proportion_amounts_1 (nrms [.l 1, .o] [a0, a1]) []).bind (fun (p : AV × Hp) => cvt st p.2 p.1) = some v := fun st => (R_slices_ContainsFunc_int__proportion_amounts_1_eq (fun v g => cvt st g v) (nrm (.l 1) a0) a1 []).trans (hv st)
  exact (closedX_ownB (shr := [.o]) ha e).trans (congrArg (fun x => some (x, h)) (nrmR_rep 1 v))
/-! spile/proportion.amounts -/
noncomputable def t_proportion_amounts : Tab := (updF (updF T0 41 F_slices_ContainsFunc_int__proportion_amounts_1) 42 F_proportion_amounts_1)
theorem t_proportion_amounts_ok : TSound Try.prog t_proportion_amounts := (TSound.upd (TSound.upd TSound.zero F_slices_ContainsFunc_int__proportion_amounts_1_ok) F_proportion_amounts_1_ok)
@[simp] theorem t_proportion_amounts_41 : t_proportion_amounts 41 = some F_slices_ContainsFunc_int__proportion_amounts_1 := rfl
@[simp] theorem t_proportion_amounts_42 : t_proportion_amounts 42 = some F_proportion_amounts_1 := rfl
noncomputable def d_proportion_amounts : DTab := D0
theorem d_proportion_amounts_ok : DSound Try.prog d_proportion_amounts := DSound.zero
noncomputable def R_proportion_amounts : Fun := runF Try.prog t_proportion_amounts d_proportion_amounts NN [0, 2] Try.f35 1
theorem R_proportion_amounts_ok : CSound Try.prog 35 R_proportion_amounts := run_sound t_proportion_amounts_ok d_proportion_amounts_ok mixed Try.func35 (by kernel_rfl) NN
theorem R_proportion_amounts_eq {β : Type} (K : AV → Hp → Option β) (a0 : AV) (h : Hp) : (R_proportion_amounts [a0] h).bind (fun p => K p.1 p.2) = f_proportion_amounts Try.prog t_proportion_amounts d_proportion_amounts NN K a0 h := by
  rw [← f_proportion_amounts_run]; exact runF_bind rfl
noncomputable def F_proportion_amounts : Fun := closedX [.l 1] [.o] R_proportion_amounts
theorem F_proportion_amounts_ok : CSound Try.prog 35 F_proportion_amounts := closedX_sound _ _ R_proportion_amounts_ok
noncomputable def G_proportion_amounts : DFun := closedXD [.l 1] [.o] R_proportion_amounts
theorem G_proportion_amounts_ro : Ro F_proportion_amounts G_proportion_amounts := closedX_ro _ _ _
theorem F_proportion_amounts_run {a0 : AV} {v : AV} (ha : plains [a0] = true) (hv : f_proportion_amounts Try.prog t_proportion_amounts d_proportion_amounts NN (fun v g => cvt false g v) (nrm (.l 1) a0) [] = some v) (h : Hp) : F_proportion_amounts [a0] h = some (v, h) := by
  have e : (R_proportion_amounts (nrms [.l 1] [a0]) []).bind (fun (p : AV × Hp) => cvt false p.2 p.1) = some v := (R_proportion_amounts_eq (fun v g => cvt false g v) (nrm (.l 1) a0) []).trans hv
  exact (closedX_bind (shr := [.o]) ha e h).trans (congrArg (fun x => some (x, h)) (nrmR_rep 1 v))
theorem F_proportion_amounts_own {a0 : AV} {x0 : AV} {h : Hp} {v : AV} (ha : cvts false h [x0] = some [a0]) (hv : ∀ st, f_proportion_amounts Try.prog t_proportion_amounts d_proportion_amounts NN (fun v g => cvt st g v) (nrm (.l 1) a0) [] = some v) : F_proportion_amounts [x0] h = some (v, h) := by
  have e : ∀ st, (R_proportion_amounts (nrms [.l 1] [a0]) []).bind (fun (p : AV × Hp) => cvt st p.2 p.1) = some v := fun st => (R_proportion_amounts_eq (fun v g => cvt st g v) (nrm (.l 1) a0) []).trans (hv st)
  exact (closedX_ownB (shr := [.o]) ha e).trans (congrArg (fun x => some (x, h)) (nrmR_rep 1 v))
/-! math/bits.Mul64 -/
noncomputable def t_bits_Mul64 : Tab := T0
theorem t_bits_Mul64_ok : TSound Try.prog t_bits_Mul64 := TSound.zero
noncomputable def d_bits_Mul64 : DTab := D0
theorem d_bits_Mul64_ok : DSound Try.prog d_bits_Mul64 := DSound.zero
noncomputable def R_bits_Mul64 : Fun := runF Try.prog t_bits_Mul64 d_bits_Mul64 NN [0, 1, 4, 5, 6, 7, 8, 9, 10, 11, 12, 13] Try.f54 2
theorem R_bits_Mul64_ok : CSound Try.prog 54 R_bits_Mul64 := run_sound t_bits_Mul64_ok d_bits_Mul64_ok mixed Try.func54 (by kernel_rfl) NN
theorem R_bits_Mul64_eq {β : Type} (K : AV → Hp → Option β) (a0 : AV) (a1 : AV) (h : Hp) : (R_bits_Mul64 [a0, a1] h).bind (fun p => K p.1 p.2) = f_bits_Mul64 Try.prog t_bits_Mul64 d_bits_Mul64 NN K a0 a1 h := by
  rw [← f_bits_Mul64_run]; exact runF_bind rfl
noncomputable def F_bits_Mul64 : Fun := closedX [.o, .o] [.o, .o] R_bits_Mul64
theorem F_bits_Mul64_ok : CSound Try.prog 54 F_bits_Mul64 := closedX_sound _ _ R_bits_Mul64_ok
noncomputable def G_bits_Mul64 : DFun := closedXD [.o, .o] [.o, .o] R_bits_Mul64
theorem G_bits_Mul64_ro : Ro F_bits_Mul64 G_bits_Mul64 := closedX_ro _ _ _
theorem F_bits_Mul64_run {a0 : AV} {a1 : AV} {v : AV} (ha : plains [a0, a1] = true) (hv : f_bits_Mul64 Try.prog t_bits_Mul64 d_bits_Mul64 NN (fun v g => cvt false g v) a0 a1 [] = some v) (h : Hp) : F_bits_Mul64 [a0, a1] h = some (v, h) := by
  have e : (R_bits_Mul64 (nrms [.o, .o] [a0, a1]) []).bind (fun (p : AV × Hp) => cvt false p.2 p.1) = some v := (R_bits_Mul64_eq (fun v g => cvt false g v) a0 a1 []).trans hv
  exact (closedX_bind (shr := [.o, .o]) ha e h).trans (congrArg (fun x => some (x, h)) (nrmR_rep 2 v))
theorem F_bits_Mul64_own {a0 : AV} {a1 : AV} {x0 : AV} {x1 : AV} {h : Hp} {v : AV} (ha : cvts false h [x0, x1] = some [a0, a1]) (hv : ∀ st, f_bits_Mul64 Try.prog t_bits_Mul64 d_bits_Mul64 NN (fun v g => cvt st g v) a0 a1 [] = some v) : F_bits_Mul64 [x0, x1] h = some (v, h) := by
  have e : ∀ st, (R_bits_Mul64 (nrms [.o, .o] [a0, a1]) []).bind (fun (p : AV × Hp) => cvt st p.2 p.1) = some v := fun st => (R_bits_Mul64_eq (fun v g => cvt st g v) a0 a1 []).trans (hv st)
  exact (closedX_ownB (shr := [.o, .o]) ha e).trans (congrArg (fun x => some (x, h)) (nrmR_rep 2 v))
/-! spile/proportion.product -/
noncomputable def t_proportion_product : Tab := (updF T0 54 F_bits_Mul64)
theorem t_proportion_product_ok : TSound Try.prog t_proportion_product := (TSound.upd TSound.zero F_bits_Mul64_ok)
@[simp] theorem t_proportion_product_54 : t_proportion_product 54 = some F_bits_Mul64 := rfl
noncomputable def d_proportion_product : DTab := D0
theorem d_proportion_product_ok : DSound Try.prog d_proportion_product := DSound.zero
noncomputable def R_proportion_product : Fun := runF Try.prog t_proportion_product d_proportion_product NN [0, 1, 4, 5, 6] Try.f44 2
theorem R_proportion_product_ok : CSound Try.prog 44 R_proportion_product := run_sound t_proportion_product_ok d_proportion_product_ok mixed Try.func44 (by kernel_rfl) NN
theorem R_proportion_product_eq {β : Type} (K : AV → Hp → Option β) (a0 : AV) (a1 : AV) (h : Hp) : (R_proportion_product [a0, a1] h).bind (fun p => K p.1 p.2) = f_proportion_product Try.prog t_proportion_product d_proportion_product NN K a0 a1 h := by
  rw [← f_proportion_product_run]; exact runF_bind rfl
noncomputable def F_proportion_product : Fun := closedX [.o, .o] [.o] R_proportion_product
theorem F_proportion_product_ok : CSound Try.prog 44 F_proportion_product := closedX_sound _ _ R_proportion_product_ok
noncomputable def G_proportion_product : DFun := closedXD [.o, .o] [.o] R_proportion_product
theorem G_proportion_product_ro : Ro F_proportion_product G_proportion_product := closedX_ro _ _ _
theorem F_proportion_product_run {a0 : AV} {a1 : AV} {v : AV} (ha : plains [a0, a1] = true) (hv : f_proportion_product Try.prog t_proportion_product d_proportion_product NN (fun v g => cvt false g v) a0 a1 [] = some v) (h : Hp) : F_proportion_product [a0, a1] h = some (v, h) := by
  have e : (R_proportion_product (nrms [.o, .o] [a0, a1]) []).bind (fun (p : AV × Hp) => cvt false p.2 p.1) = some v := (R_proportion_product_eq (fun v g => cvt false g v) a0 a1 []).trans hv
  exact (closedX_bind (shr := [.o]) ha e h).trans (congrArg (fun x => some (x, h)) (nrmR_rep 1 v))
theorem F_proportion_product_own {a0 : AV} {a1 : AV} {x0 : AV} {x1 : AV} {h : Hp} {v : AV} (ha : cvts false h [x0, x1] = some [a0, a1]) (hv : ∀ st, f_proportion_product Try.prog t_proportion_product d_proportion_product NN (fun v g => cvt st g v) a0 a1 [] = some v) : F_proportion_product [x0, x1] h = some (v, h) := by
  have e : ∀ st, (R_proportion_product (nrms [.o, .o] [a0, a1]) []).bind (fun (p : AV × Hp) => cvt st p.2 p.1) = some v := fun st => (R_proportion_product_eq (fun v g => cvt st g v) a0 a1 []).trans (hv st)
  exact (closedX_ownB (shr := [.o]) ha e).trans (congrArg (fun x => some (x, h)) (nrmR_rep 1 v))
/-! math/bits.Len64 -/
noncomputable def t_bits_Len64 : Tab := T0
theorem t_bits_Len64_ok : TSound Try.prog t_bits_Len64 := TSound.zero
noncomputable def d_bits_Len64 : DTab := D0
theorem d_bits_Len64_ok : DSound Try.prog d_bits_Len64 := DSound.zero
noncomputable def R_bits_Len64 : Fun := runF Try.prog t_bits_Len64 d_bits_Len64 NN [0, 2, 4, 8, 14] Try.f59 1
theorem R_bits_Len64_ok : CSound Try.prog 59 R_bits_Len64 := run_sound t_bits_Len64_ok d_bits_Len64_ok mixed Try.func59 (by kernel_rfl) NN
theorem R_bits_Len64_eq {β : Type} (K : AV → Hp → Option β) (a0 : AV) (h : Hp) : (R_bits_Len64 [a0] h).bind (fun p => K p.1 p.2) = f_bits_Len64 Try.prog t_bits_Len64 d_bits_Len64 NN K a0 h := by
  rw [← f_bits_Len64_run]; exact runF_bind rfl
noncomputable def F_bits_Len64 : Fun := closedX [.o] [.o] R_bits_Len64
theorem F_bits_Len64_ok : CSound Try.prog 59 F_bits_Len64 := closedX_sound _ _ R_bits_Len64_ok
noncomputable def G_bits_Len64 : DFun := closedXD [.o] [.o] R_bits_Len64
theorem G_bits_Len64_ro : Ro F_bits_Len64 G_bits_Len64 := closedX_ro _ _ _
theorem F_bits_Len64_run {a0 : AV} {v : AV} (ha : plains [a0] = true) (hv : f_bits_Len64 Try.prog t_bits_Len64 d_bits_Len64 NN (fun v g => cvt false g v) a0 [] = some v) (h : Hp) : F_bits_Len64 [a0] h = some (v, h) := by
  have e : (R_bits_Len64 (nrms [.o] [a0]) []).bind (fun (p : AV × Hp) => cvt false p.2 p.1) = some v := (R_bits_Len64_eq (fun v g => cvt false g v) a0 []).trans hv
  exact (closedX_bind (shr := [.o]) ha e h).trans (congrArg (fun x => some (x, h)) (nrmR_rep 1 v))
theorem F_bits_Len64_own {a0 : AV} {x0 : AV} {h : Hp} {v : AV} (ha : cvts false h [x0] = some [a0]) (hv : ∀ st, f_bits_Len64 Try.prog t_bits_Len64 d_bits_Len64 NN (fun v g => cvt st g v) a0 [] = some v) : F_bits_Len64 [x0] h = some (v, h) := by
  have e : ∀ st, (R_bits_Len64 (nrms [.o] [a0]) []).bind (fun (p : AV × Hp) => cvt st p.2 p.1) = some v := fun st => (R_bits_Len64_eq (fun v g => cvt st g v) a0 []).trans (hv st)
  exact (closedX_ownB (shr := [.o]) ha e).trans (congrArg (fun x => some (x, h)) (nrmR_rep 1 v))
/-! math/bits.LeadingZeros64 -/
noncomputable def t_bits_LeadingZeros64 : Tab := (updF T0 59 F_bits_Len64)
theorem t_bits_LeadingZeros64_ok : TSound Try.prog t_bits_LeadingZeros64 := (TSound.upd TSound.zero F_bits_Len64_ok)
@[simp] theorem t_bits_LeadingZeros64_59 : t_bits_LeadingZeros64 59 = some F_bits_Len64 := rfl
noncomputable def d_bits_LeadingZeros64 : DTab := D0
theorem d_bits_LeadingZeros64_ok : DSound Try.prog d_bits_LeadingZeros64 := DSound.zero
noncomputable def R_bits_LeadingZeros64 : Fun := runF Try.prog t_bits_LeadingZeros64 d_bits_LeadingZeros64 NN [0, 2] Try.f55 1
theorem R_bits_LeadingZeros64_ok : CSound Try.prog 55 R_bits_LeadingZeros64 := run_sound t_bits_LeadingZeros64_ok d_bits_LeadingZeros64_ok mixed Try.func55 (by kernel_rfl) NN
theorem R_bits_LeadingZeros64_eq {β : Type} (K : AV → Hp → Option β) (a0 : AV) (h : Hp) : (R_bits_LeadingZeros64 [a0] h).bind (fun p => K p.1 p.2) = f_bits_LeadingZeros64 Try.prog t_bits_LeadingZeros64 d_bits_LeadingZeros64 NN K a0 h := by
  rw [← f_bits_LeadingZeros64_run]; exact runF_bind rfl
noncomputable def F_bits_LeadingZeros64 : Fun := closedX [.o] [.o] R_bits_LeadingZeros64
theorem F_bits_LeadingZeros64_ok : CSound Try.prog 55 F_bits_LeadingZeros64 := closedX_sound _ _ R_bits_LeadingZeros64_ok
noncomputable def G_bits_LeadingZeros64 : DFun := closedXD [.o] [.o] R_bits_LeadingZeros64
theorem G_bits_LeadingZeros64_ro : Ro F_bits_LeadingZeros64 G_bits_LeadingZeros64 := closedX_ro _ _ _
theorem F_bits_LeadingZeros64_run {a0 : AV} {v : AV} (ha : plains [a0] = true) (hv : f_bits_LeadingZeros64 Try.prog t_bits_LeadingZeros64 d_bits_LeadingZeros64 NN (fun v g => cvt false g v) a0 [] = some v) (h : Hp) : F_bits_LeadingZeros64 [a0] h = some (v, h) := by
  have e : (R_bits_LeadingZeros64 (nrms [.o] [a0]) []).bind (fun (p : AV × Hp) => cvt false p.2 p.1) = some v := (R_bits_LeadingZeros64_eq (fun v g => cvt false g v) a0 []).trans hv
  exact (closedX_bind (shr := [.o]) ha e h).trans (congrArg (fun x => some (x, h)) (nrmR_rep 1 v))
theorem F_bits_LeadingZeros64_own {a0 : AV} {x0 : AV} {h : Hp} {v : AV} (ha : cvts false h [x0] = some [a0]) (hv : ∀ st, f_bits_LeadingZeros64 Try.prog t_bits_LeadingZeros64 d_bits_LeadingZeros64 NN (fun v g => cvt st g v) a0 [] = some v) : F_bits_LeadingZeros64 [x0] h = some (v, h) := by
  have e : ∀ st, (R_bits_LeadingZeros64 (nrms [.o] [a0]) []).bind (fun (p : AV × Hp) => cvt st p.2 p.1) = some v := fun st => (R_bits_LeadingZeros64_eq (fun v g => cvt st g v) a0 []).trans (hv st)
  exact (closedX_ownB (shr := [.o]) ha e).trans (congrArg (fun x => some (x, h)) (nrmR_rep 1 v))
/-! math/bits.Div64 -/
noncomputable def t_bits_Div64 : Tab := (updF T0 55 F_bits_LeadingZeros64)
theorem t_bits_Div64_ok : TSound Try.prog t_bits_Div64 := (TSound.upd TSound.zero F_bits_LeadingZeros64_ok)
@[simp] theorem t_bits_Div64_55 : t_bits_Div64 55 = some F_bits_LeadingZeros64 := rfl
noncomputable def d_bits_Div64 : DTab := D0
theorem d_bits_Div64_ok : DSound Try.prog d_bits_Div64 := DSound.zero
noncomputable def R_bits_Div64 : Fun := runF Try.prog t_bits_Div64 d_bits_Div64 NN [0, 1, 2, 6, 7, 8, 9, 10, 11, 12, 13, 14, 15, 16, 17, 18, 20, 24, 27, 78, 85, 113, 120] Try.f45 3
theorem R_bits_Div64_ok : CSound Try.prog 45 R_bits_Div64 := run_sound t_bits_Div64_ok d_bits_Div64_ok mixed Try.func45 (by kernel_rfl) NN
theorem R_bits_Div64_eq {β : Type} (K : AV → Hp → Option β) (a0 : AV) (a1 : AV) (a2 : AV) (h : Hp) : (R_bits_Div64 [a0, a1, a2] h).bind (fun p => K p.1 p.2) = f_bits_Div64 Try.prog t_bits_Div64 d_bits_Div64 NN K a0 a1 a2 h := by
  rw [← f_bits_Div64_run]; exact runF_bind rfl
noncomputable def F_bits_Div64 : Fun := closedX [.o, .o, .o] [.o, .o] R_bits_Div64
theorem F_bits_Div64_ok : CSound Try.prog 45 F_bits_Div64 := closedX_sound _ _ R_bits_Div64_ok
noncomputable def G_bits_Div64 : DFun := closedXD [.o, .o, .o] [.o, .o] R_bits_Div64
theorem G_bits_Div64_ro : Ro F_bits_Div64 G_bits_Div64 := closedX_ro _ _ _
theorem F_bits_Div64_run {a0 : AV} {a1 : AV} {a2 : AV} {v : AV} (ha : plains [a0, a1, a2] = true) (hv : f_bits_Div64 Try.prog t_bits_Div64 d_bits_Div64 NN (fun v g => cvt false g v) a0 a1 a2 [] = some v) (h : Hp) : F_bits_Div64 [a0, a1, a2] h = some (v, h) := by
  have e : (R_bits_Div64 (nrms [.o, .o, .o] [a0, a1, a2]) []).bind (fun (p : AV × Hp) => cvt false p.2 p.1) = some v := (R_bits_Div64_eq (fun v g => cvt false g v) a0 a1 a2 []).trans hv
  exact (closedX_bind (shr := [.o, .o]) ha e h).trans (congrArg (fun x => some (x, h)) (nrmR_rep 2 v))
theorem F_bits_Div64_own {a0 : AV} {a1 : AV} {a2 : AV} {x0 : AV} {x1 : AV} {x2 : AV} {h : Hp} {v : AV} (ha : cvts false h [x0, x1, x2] = some [a0, a1, a2]) (hv : ∀ st, f_bits_Div64 Try.prog t_bits_Div64 d_bits_Div64 NN (fun v g => cvt st g v) a0 a1 a2 [] = some v) : F_bits_Div64 [x0, x1, x2] h = some (v, h) := by
  have e : ∀ st, (R_bits_Div64 (nrms [.o, .o, .o] [a0, a1, a2]) []).bind (fun (p : AV × Hp) => cvt st p.2 p.1) = some v := fun st => (R_bits_Div64_eq (fun v g => cvt st g v) a0 a1 a2 []).trans (hv st)
  exact (closedX_ownB (shr := [.o, .o]) ha e).trans (congrArg (fun x => some (x, h)) (nrmR_rep 2 v))
/-! spile/proportion.divided -/
noncomputable def t_proportion_divided : Tab := (updF (updF T0 44 F_proportion_product) 45 F_bits_Div64)
theorem t_proportion_divided_ok : TSound Try.prog t_proportion_divided := (TSound.upd (TSound.upd TSound.zero F_proportion_product_ok) F_bits_Div64_ok)
@[simp] theorem t_proportion_divided_44 : t_proportion_divided 44 = some F_proportion_product := rfl
@[simp] theorem t_proportion_divided_45 : t_proportion_divided 45 = some F_bits_Div64 := rfl
noncomputable def d_proportion_divided : DTab := D0
theorem d_proportion_divided_ok : DSound Try.prog d_proportion_divided := DSound.zero
noncomputable def R_proportion_divided : Fun := runF Try.prog t_proportion_divided d_proportion_divided NN [0, 1, 2, 6, 7, 8, 9, 10, 11, 19, 31] Try.f36 3
theorem R_proportion_divided_ok : CSound Try.prog 36 R_proportion_divided := run_sound t_proportion_divided_ok d_proportion_divided_ok mixed Try.func36 (by kernel_rfl) NN
theorem R_proportion_divided_eq {β : Type} (K : AV → Hp → Option β) (a0 : AV) (a1 : AV) (a2 : AV) (h : Hp) : (R_proportion_divided [a0, a1, a2] h).bind (fun p => K p.1 p.2) = f_proportion_divided Try.prog t_proportion_divided d_proportion_divided NN K a0 a1 a2 h := by
  rw [← f_proportion_divided_run]; exact runF_bind rfl
noncomputable def F_proportion_divided : Fun := closedX [.o, .o, .o] [.o, .o, .o] R_proportion_divided
theorem F_proportion_divided_ok : CSound Try.prog 36 F_proportion_divided := closedX_sound _ _ R_proportion_divided_ok
noncomputable def G_proportion_divided : DFun := closedXD [.o, .o, .o] [.o, .o, .o] R_proportion_divided
theorem G_proportion_divided_ro : Ro F_proportion_divided G_proportion_divided := closedX_ro _ _ _
theorem F_proportion_divided_run {a0 : AV} {a1 : AV} {a2 : AV} {v : AV} (ha : plains [a0, a1, a2] = true) (hv : f_proportion_divided Try.prog t_proportion_divided d_proportion_divided NN (fun v g => cvt false g v) a0 a1 a2 [] = some v) (h : Hp) : F_proportion_divided [a0, a1, a2] h = some (v, h) := by
  have e : (R_proportion_divided (nrms [.o, .o, .o] [a0, a1, a2]) []).bind (fun (p : AV × Hp) => cvt false p.2 p.1) = some v := (R_proportion_divided_eq (fun v g => cvt false g v) a0 a1 a2 []).trans hv
  exact (closedX_bind (shr := [.o, .o, .o]) ha e h).trans (congrArg (fun x => some (x, h)) (nrmR_rep 3 v))
theorem F_proportion_divided_own {a0 : AV} {a1 : AV} {a2 : AV} {x0 : AV} {x1 : AV} {x2 : AV} {h : Hp} {v : AV} (ha : cvts false h [x0, x1, x2] = some [a0, a1, a2]) (hv : ∀ st, f_proportion_divided Try.prog t_proportion_divided d_proportion_divided NN (fun v g => cvt st g v) a0 a1 a2 [] = some v) : F_proportion_divided [x0, x1, x2] h = some (v, h) := by
  have e : ∀ st, (R_proportion_divided (nrms [.o, .o, .o] [a0, a1, a2]) []).bind (fun (p : AV × Hp) => cvt st p.2 p.1) = some v := fun st => (R_proportion_divided_eq (fun v g => cvt st g v) a0 a1 a2 []).trans (hv st)
  exact (closedX_ownB (shr := [.o, .o, .o]) ha e).trans (congrArg (fun x => some (x, h)) (nrmR_rep 3 v))
/-! spile/proportion.Of -/
noncomputable def t_proportion_Of : Tab := (updF (updF T0 35 F_proportion_amounts) 36 F_proportion_divided)
theorem t_proportion_Of_ok : TSound Try.prog t_proportion_Of := (TSound.upd (TSound.upd TSound.zero F_proportion_amounts_ok) F_proportion_divided_ok)
@[simp] theorem t_proportion_Of_35 : t_proportion_Of 35 = some F_proportion_amounts := rfl
@[simp] theorem t_proportion_Of_36 : t_proportion_Of 36 = some F_proportion_divided := rfl
noncomputable def d_proportion_Of : DTab := D0
theorem d_proportion_Of_ok : DSound Try.prog d_proportion_Of := DSound.zero
noncomputable def R_proportion_Of : Fun := runF Try.prog t_proportion_Of d_proportion_Of NN [0, 1, 2, 6, 7, 8, 9, 10, 11, 17, 19, 29] Try.f25 3
theorem R_proportion_Of_ok : CSound Try.prog 25 R_proportion_Of := run_sound t_proportion_Of_ok d_proportion_Of_ok mixed Try.func25 (by kernel_rfl) NN
theorem R_proportion_Of_eq {β : Type} (K : AV → Hp → Option β) (a0 : AV) (a1 : AV) (a2 : AV) (h : Hp) : (R_proportion_Of [a0, a1, a2] h).bind (fun p => K p.1 p.2) = f_proportion_Of Try.prog t_proportion_Of d_proportion_Of NN K a0 a1 a2 h := by
  rw [← f_proportion_Of_run]; exact runF_bind rfl
noncomputable def F_proportion_Of : Fun := closedX [.o, .o, .o] [.o, .o, .o] R_proportion_Of
theorem F_proportion_Of_ok : CSound Try.prog 25 F_proportion_Of := closedX_sound _ _ R_proportion_Of_ok
noncomputable def G_proportion_Of : DFun := closedXD [.o, .o, .o] [.o, .o, .o] R_proportion_Of
theorem G_proportion_Of_ro : Ro F_proportion_Of G_proportion_Of := closedX_ro _ _ _
theorem F_proportion_Of_run {a0 : AV} {a1 : AV} {a2 : AV} {v : AV} (ha : plains [a0, a1, a2] = true) (hv : f_proportion_Of Try.prog t_proportion_Of d_proportion_Of NN (fun v g => cvt false g v) a0 a1 a2 [] = some v) (h : Hp) : F_proportion_Of [a0, a1, a2] h = some (v, h) := by
  have e : (R_proportion_Of (nrms [.o, .o, .o] [a0, a1, a2]) []).bind (fun (p : AV × Hp) => cvt false p.2 p.1) = some v := (R_proportion_Of_eq (fun v g => cvt false g v) a0 a1 a2 []).trans hv
  exact (closedX_bind (shr := [.o, .o, .o]) ha e h).trans (congrArg (fun x => some (x, h)) (nrmR_rep 3 v))
theorem F_proportion_Of_own {a0 : AV} {a1 : AV} {a2 : AV} {x0 : AV} {x1 : AV} {x2 : AV} {h : Hp} {v : AV} (ha : cvts false h [x0, x1, x2] = some [a0, a1, a2]) (hv : ∀ st, f_proportion_Of Try.prog t_proportion_Of d_proportion_Of NN (fun v g => cvt st g v) a0 a1 a2 [] = some v) : F_proportion_Of [x0, x1, x2] h = some (v, h) := by
  have e : ∀ st, (R_proportion_Of (nrms [.o, .o, .o] [a0, a1, a2]) []).bind (fun (p : AV × Hp) => cvt st p.2 p.1) = some v := fun st => (R_proportion_Of_eq (fun v g => cvt st g v) a0 a1 a2 []).trans (hv st)
  exact (closedX_ownB (shr := [.o, .o, .o]) ha e).trans (congrArg (fun x => some (x, h)) (nrmR_rep 3 v))
/-! spile/drawback.part -/
noncomputable def t_drawback_part : Tab := (updF T0 25 F_proportion_Of)
theorem t_drawback_part_ok : TSound Try.prog t_drawback_part := (TSound.upd TSound.zero F_proportion_Of_ok)
@[simp] theorem t_drawback_part_25 : t_drawback_part 25 = some F_proportion_Of := rfl
noncomputable def d_drawback_part : DTab := D0
theorem d_drawback_part_ok : DSound Try.prog d_drawback_part := DSound.zero
noncomputable def R_drawback_part : Fun := runF Try.prog t_drawback_part d_drawback_part NN [0, 1, 2, 4, 5] Try.f34 2
theorem R_drawback_part_ok : CSound Try.prog 34 R_drawback_part := run_sound t_drawback_part_ok d_drawback_part_ok mixed Try.func34 (by kernel_rfl) NN
theorem R_drawback_part_eq {β : Type} (K : AV → Hp → Option β) (a0 : AV) (a1 : AV) (h : Hp) : (R_drawback_part [a0, a1] h).bind (fun p => K p.1 p.2) = f_drawback_part Try.prog t_drawback_part d_drawback_part NN K a0 a1 h := by
  rw [← f_drawback_part_run]; exact runF_bind rfl
noncomputable def F_drawback_part : Fun := closedX [.o, .o] [.o] R_drawback_part
theorem F_drawback_part_ok : CSound Try.prog 34 F_drawback_part := closedX_sound _ _ R_drawback_part_ok
noncomputable def G_drawback_part : DFun := closedXD [.o, .o] [.o] R_drawback_part
theorem G_drawback_part_ro : Ro F_drawback_part G_drawback_part := closedX_ro _ _ _
theorem F_drawback_part_run {a0 : AV} {a1 : AV} {v : AV} (ha : plains [a0, a1] = true) (hv : f_drawback_part Try.prog t_drawback_part d_drawback_part NN (fun v g => cvt false g v) a0 a1 [] = some v) (h : Hp) : F_drawback_part [a0, a1] h = some (v, h) := by
  have e : (R_drawback_part (nrms [.o, .o] [a0, a1]) []).bind (fun (p : AV × Hp) => cvt false p.2 p.1) = some v := (R_drawback_part_eq (fun v g => cvt false g v) a0 a1 []).trans hv
  exact (closedX_bind (shr := [.o]) ha e h).trans (congrArg (fun x => some (x, h)) (nrmR_rep 1 v))
theorem F_drawback_part_own {a0 : AV} {a1 : AV} {x0 : AV} {x1 : AV} {h : Hp} {v : AV} (ha : cvts false h [x0, x1] = some [a0, a1]) (hv : ∀ st, f_drawback_part Try.prog t_drawback_part d_drawback_part NN (fun v g => cvt st g v) a0 a1 [] = some v) : F_drawback_part [x0, x1] h = some (v, h) := by
  have e : ∀ st, (R_drawback_part (nrms [.o, .o] [a0, a1]) []).bind (fun (p : AV × Hp) => cvt st p.2 p.1) = some v := fun st => (R_drawback_part_eq (fun v g => cvt st g v) a0 a1 []).trans (hv st)
  exact (closedX_ownB (shr := [.o]) ha e).trans (congrArg (fun x => some (x, h)) (nrmR_rep 1 v))
/-! spile/drawback.faults$1 -/
noncomputable def t_drawback_faults_1 : Tab := (updF T0 27 F_drawback_within)
theorem t_drawback_faults_1_ok : TSound Try.prog t_drawback_faults_1 := (TSound.upd TSound.zero F_drawback_within_ok)
@[simp] theorem t_drawback_faults_1_27 : t_drawback_faults_1 27 = some F_drawback_within := rfl
noncomputable def d_drawback_faults_1 : DTab := D0
theorem d_drawback_faults_1_ok : DSound Try.prog d_drawback_faults_1 := DSound.zero
noncomputable def R_drawback_faults_1 : Fun := runF Try.prog t_drawback_faults_1 d_drawback_faults_1 NN [1, 3, 4] Try.f46 2
theorem R_drawback_faults_1_ok : CSound Try.prog 46 R_drawback_faults_1 := run_sound t_drawback_faults_1_ok d_drawback_faults_1_ok mixed Try.func46 (by kernel_rfl) NN
theorem R_drawback_faults_1_eq {β : Type} (K : AV → Hp → Option β) (a0 : AV) (a1 : AV) (h : Hp) : (R_drawback_faults_1 [a0, a1] h).bind (fun p => K p.1 p.2) = f_drawback_faults_1 Try.prog t_drawback_faults_1 d_drawback_faults_1 NN K a0 a1 h := by
  rw [← f_drawback_faults_1_run]; exact runF_bind rfl
noncomputable def F_drawback_faults_1 : Fun := quietT R_drawback_faults_1
theorem F_drawback_faults_1_ok : CSound Try.prog 46 F_drawback_faults_1 := quietT_sound R_drawback_faults_1_ok
noncomputable def G_drawback_faults_1 : DFun := roD F_drawback_faults_1
theorem G_drawback_faults_1_ro : Ro F_drawback_faults_1 G_drawback_faults_1 := ro_ro _
theorem F_drawback_faults_1_q {a0 : AV} {a1 : AV} {h : Hp} {g : List AObj} {v : AV} (hv : f_drawback_faults_1 Try.prog t_drawback_faults_1 d_drawback_faults_1 NN (fun v h => some (v, h)) a0 a1 h = some (v, h ++ g)) (hp : plain v = true) : F_drawback_faults_1 [a0, a1] h = some (v, h) := quietT_val (F := R_drawback_faults_1) (((bind_pair _).symm.trans (R_drawback_faults_1_eq (fun v h => some (v, h)) a0 a1 h)).trans hv) hp
/-! spile/drawback.faults$2 -/
noncomputable def t_drawback_faults_2 : Tab := T0
theorem t_drawback_faults_2_ok : TSound Try.prog t_drawback_faults_2 := TSound.zero
noncomputable def d_drawback_faults_2 : DTab := D0
theorem d_drawback_faults_2_ok : DSound Try.prog d_drawback_faults_2 := DSound.zero
noncomputable def R_drawback_faults_2 : Fun := runF Try.prog t_drawback_faults_2 d_drawback_faults_2 NN [0, 1, 3, 4] Try.f47 2
theorem R_drawback_faults_2_ok : CSound Try.prog 47 R_drawback_faults_2 := run_sound t_drawback_faults_2_ok d_drawback_faults_2_ok mixed Try.func47 (by kernel_rfl) NN
theorem R_drawback_faults_2_eq {β : Type} (K : AV → Hp → Option β) (a0 : AV) (a1 : AV) (h : Hp) : (R_drawback_faults_2 [a0, a1] h).bind (fun p => K p.1 p.2) = f_drawback_faults_2 Try.prog t_drawback_faults_2 d_drawback_faults_2 NN K a0 a1 h := by
  rw [← f_drawback_faults_2_run]; exact runF_bind rfl
noncomputable def F_drawback_faults_2 : Fun := quietT R_drawback_faults_2
theorem F_drawback_faults_2_ok : CSound Try.prog 47 F_drawback_faults_2 := quietT_sound R_drawback_faults_2_ok
noncomputable def G_drawback_faults_2 : DFun := roD F_drawback_faults_2
theorem G_drawback_faults_2_ro : Ro F_drawback_faults_2 G_drawback_faults_2 := ro_ro _
theorem F_drawback_faults_2_q {a0 : AV} {a1 : AV} {h : Hp} {g : List AObj} {v : AV} (hv : f_drawback_faults_2 Try.prog t_drawback_faults_2 d_drawback_faults_2 NN (fun v h => some (v, h)) a0 a1 h = some (v, h ++ g)) (hp : plain v = true) : F_drawback_faults_2 [a0, a1] h = some (v, h) := quietT_val (F := R_drawback_faults_2) (((bind_pair _).symm.trans (R_drawback_faults_2_eq (fun v h => some (v, h)) a0 a1 h)).trans hv) hp
/-! spile/drawback.faults$3 -/
noncomputable def t_drawback_faults_3 : Tab := T0
theorem t_drawback_faults_3_ok : TSound Try.prog t_drawback_faults_3 := TSound.zero
noncomputable def d_drawback_faults_3 : DTab := D0
theorem d_drawback_faults_3_ok : DSound Try.prog d_drawback_faults_3 := DSound.zero
noncomputable def R_drawback_faults_3 : Fun := runF Try.prog t_drawback_faults_3 d_drawback_faults_3 NN [0, 1, 3, 4, 6] Try.f48 2
theorem R_drawback_faults_3_ok : CSound Try.prog 48 R_drawback_faults_3 := run_sound t_drawback_faults_3_ok d_drawback_faults_3_ok mixed Try.func48 (by kernel_rfl) NN
theorem R_drawback_faults_3_eq {β : Type} (K : AV → Hp → Option β) (a0 : AV) (a1 : AV) (h : Hp) : (R_drawback_faults_3 [a0, a1] h).bind (fun p => K p.1 p.2) = f_drawback_faults_3 Try.prog t_drawback_faults_3 d_drawback_faults_3 NN K a0 a1 h := by
  rw [← f_drawback_faults_3_run]; exact runF_bind rfl
noncomputable def F_drawback_faults_3 : Fun := quietT R_drawback_faults_3
theorem F_drawback_faults_3_ok : CSound Try.prog 48 F_drawback_faults_3 := quietT_sound R_drawback_faults_3_ok
noncomputable def G_drawback_faults_3 : DFun := roD F_drawback_faults_3
theorem G_drawback_faults_3_ro : Ro F_drawback_faults_3 G_drawback_faults_3 := ro_ro _
theorem F_drawback_faults_3_q {a0 : AV} {a1 : AV} {h : Hp} {g : List AObj} {v : AV} (hv : f_drawback_faults_3 Try.prog t_drawback_faults_3 d_drawback_faults_3 NN (fun v h => some (v, h)) a0 a1 h = some (v, h ++ g)) (hp : plain v = true) : F_drawback_faults_3 [a0, a1] h = some (v, h) := quietT_val (F := R_drawback_faults_3) (((bind_pair _).symm.trans (R_drawback_faults_3_eq (fun v h => some (v, h)) a0 a1 h)).trans hv) hp
/-! spile/drawback.faults$4 -/
noncomputable def t_drawback_faults_4 : Tab := T0
theorem t_drawback_faults_4_ok : TSound Try.prog t_drawback_faults_4 := TSound.zero
noncomputable def d_drawback_faults_4 : DTab := D0
theorem d_drawback_faults_4_ok : DSound Try.prog d_drawback_faults_4 := DSound.zero
noncomputable def R_drawback_faults_4 : Fun := runF Try.prog t_drawback_faults_4 d_drawback_faults_4 NN [0, 1, 3, 4] Try.f49 2
theorem R_drawback_faults_4_ok : CSound Try.prog 49 R_drawback_faults_4 := run_sound t_drawback_faults_4_ok d_drawback_faults_4_ok mixed Try.func49 (by kernel_rfl) NN
theorem R_drawback_faults_4_eq {β : Type} (K : AV → Hp → Option β) (a0 : AV) (a1 : AV) (h : Hp) : (R_drawback_faults_4 [a0, a1] h).bind (fun p => K p.1 p.2) = f_drawback_faults_4 Try.prog t_drawback_faults_4 d_drawback_faults_4 NN K a0 a1 h := by
  rw [← f_drawback_faults_4_run]; exact runF_bind rfl
noncomputable def F_drawback_faults_4 : Fun := quietT R_drawback_faults_4
theorem F_drawback_faults_4_ok : CSound Try.prog 49 F_drawback_faults_4 := quietT_sound R_drawback_faults_4_ok
noncomputable def G_drawback_faults_4 : DFun := roD F_drawback_faults_4
theorem G_drawback_faults_4_ro : Ro F_drawback_faults_4 G_drawback_faults_4 := ro_ro _
theorem F_drawback_faults_4_q {a0 : AV} {a1 : AV} {h : Hp} {g : List AObj} {v : AV} (hv : f_drawback_faults_4 Try.prog t_drawback_faults_4 d_drawback_faults_4 NN (fun v h => some (v, h)) a0 a1 h = some (v, h ++ g)) (hp : plain v = true) : F_drawback_faults_4 [a0, a1] h = some (v, h) := quietT_val (F := R_drawback_faults_4) (((bind_pair _).symm.trans (R_drawback_faults_4_eq (fun v h => some (v, h)) a0 a1 h)).trans hv) hp
/-! spile/drawback.faults$5 -/
noncomputable def t_drawback_faults_5 : Tab := T0
theorem t_drawback_faults_5_ok : TSound Try.prog t_drawback_faults_5 := TSound.zero
noncomputable def d_drawback_faults_5 : DTab := D0
theorem d_drawback_faults_5_ok : DSound Try.prog d_drawback_faults_5 := DSound.zero
noncomputable def R_drawback_faults_5 : Fun := runF Try.prog t_drawback_faults_5 d_drawback_faults_5 NN [0, 1, 3, 4] Try.f50 2
theorem R_drawback_faults_5_ok : CSound Try.prog 50 R_drawback_faults_5 := run_sound t_drawback_faults_5_ok d_drawback_faults_5_ok mixed Try.func50 (by kernel_rfl) NN
theorem R_drawback_faults_5_eq {β : Type} (K : AV → Hp → Option β) (a0 : AV) (a1 : AV) (h : Hp) : (R_drawback_faults_5 [a0, a1] h).bind (fun p => K p.1 p.2) = f_drawback_faults_5 Try.prog t_drawback_faults_5 d_drawback_faults_5 NN K a0 a1 h := by
  rw [← f_drawback_faults_5_run]; exact runF_bind rfl
noncomputable def F_drawback_faults_5 : Fun := quietT R_drawback_faults_5
theorem F_drawback_faults_5_ok : CSound Try.prog 50 F_drawback_faults_5 := quietT_sound R_drawback_faults_5_ok
noncomputable def G_drawback_faults_5 : DFun := roD F_drawback_faults_5
theorem G_drawback_faults_5_ro : Ro F_drawback_faults_5 G_drawback_faults_5 := ro_ro _
theorem F_drawback_faults_5_q {a0 : AV} {a1 : AV} {h : Hp} {g : List AObj} {v : AV} (hv : f_drawback_faults_5 Try.prog t_drawback_faults_5 d_drawback_faults_5 NN (fun v h => some (v, h)) a0 a1 h = some (v, h ++ g)) (hp : plain v = true) : F_drawback_faults_5 [a0, a1] h = some (v, h) := quietT_val (F := R_drawback_faults_5) (((bind_pair _).symm.trans (R_drawback_faults_5_eq (fun v h => some (v, h)) a0 a1 h)).trans hv) hp
/-! spile/drawback.faults$6 -/
noncomputable def t_drawback_faults_6 : Tab := T0
theorem t_drawback_faults_6_ok : TSound Try.prog t_drawback_faults_6 := TSound.zero
noncomputable def d_drawback_faults_6 : DTab := D0
theorem d_drawback_faults_6_ok : DSound Try.prog d_drawback_faults_6 := DSound.zero
noncomputable def R_drawback_faults_6 : Fun := runF Try.prog t_drawback_faults_6 d_drawback_faults_6 NN [0, 1, 3, 4] Try.f51 2
theorem R_drawback_faults_6_ok : CSound Try.prog 51 R_drawback_faults_6 := run_sound t_drawback_faults_6_ok d_drawback_faults_6_ok mixed Try.func51 (by kernel_rfl) NN
theorem R_drawback_faults_6_eq {β : Type} (K : AV → Hp → Option β) (a0 : AV) (a1 : AV) (h : Hp) : (R_drawback_faults_6 [a0, a1] h).bind (fun p => K p.1 p.2) = f_drawback_faults_6 Try.prog t_drawback_faults_6 d_drawback_faults_6 NN K a0 a1 h := by
  rw [← f_drawback_faults_6_run]; exact runF_bind rfl
noncomputable def F_drawback_faults_6 : Fun := quietT R_drawback_faults_6
theorem F_drawback_faults_6_ok : CSound Try.prog 51 F_drawback_faults_6 := quietT_sound R_drawback_faults_6_ok
noncomputable def G_drawback_faults_6 : DFun := roD F_drawback_faults_6
theorem G_drawback_faults_6_ro : Ro F_drawback_faults_6 G_drawback_faults_6 := ro_ro _
theorem F_drawback_faults_6_q {a0 : AV} {a1 : AV} {h : Hp} {g : List AObj} {v : AV} (hv : f_drawback_faults_6 Try.prog t_drawback_faults_6 d_drawback_faults_6 NN (fun v h => some (v, h)) a0 a1 h = some (v, h ++ g)) (hp : plain v = true) : F_drawback_faults_6 [a0, a1] h = some (v, h) := quietT_val (F := R_drawback_faults_6) (((bind_pair _).symm.trans (R_drawback_faults_6_eq (fun v h => some (v, h)) a0 a1 h)).trans hv) hp
/-! spile/drawback.faults -/
noncomputable def t_drawback_faults : Tab := (updF (updF (updF (updF (updF (updF T0 46 F_drawback_faults_1) 47 F_drawback_faults_2) 48 F_drawback_faults_3) 49 F_drawback_faults_4) 50 F_drawback_faults_5) 51 F_drawback_faults_6)
theorem t_drawback_faults_ok : TSound Try.prog t_drawback_faults := (TSound.upd (TSound.upd (TSound.upd (TSound.upd (TSound.upd (TSound.upd TSound.zero F_drawback_faults_1_ok) F_drawback_faults_2_ok) F_drawback_faults_3_ok) F_drawback_faults_4_ok) F_drawback_faults_5_ok) F_drawback_faults_6_ok)
@[simp] theorem t_drawback_faults_46 : t_drawback_faults 46 = some F_drawback_faults_1 := rfl
@[simp] theorem t_drawback_faults_47 : t_drawback_faults 47 = some F_drawback_faults_2 := rfl
@[simp] theorem t_drawback_faults_48 : t_drawback_faults 48 = some F_drawback_faults_3 := rfl
@[simp] theorem t_drawback_faults_49 : t_drawback_faults 49 = some F_drawback_faults_4 := rfl
@[simp] theorem t_drawback_faults_50 : t_drawback_faults 50 = some F_drawback_faults_5 := rfl
@[simp] theorem t_drawback_faults_51 : t_drawback_faults 51 = some F_drawback_faults_6 := rfl
noncomputable def d_drawback_faults : DTab := D0
theorem d_drawback_faults_ok : DSound Try.prog d_drawback_faults := DSound.zero
noncomputable def R_drawback_faults : Fun := runF Try.prog t_drawback_faults d_drawback_faults NN [0] Try.f39 0
theorem R_drawback_faults_ok : CSound Try.prog 39 R_drawback_faults := run_sound t_drawback_faults_ok d_drawback_faults_ok mixed Try.func39 (by kernel_rfl) NN
theorem R_drawback_faults_eq {β : Type} (K : AV → Hp → Option β) (h : Hp) : (R_drawback_faults [] h).bind (fun p => K p.1 p.2) = f_drawback_faults Try.prog t_drawback_faults d_drawback_faults NN K  h := by
  rw [← f_drawback_faults_run]; exact runF_bind rfl
noncomputable def F_drawback_faults : Fun := R_drawback_faults
theorem F_drawback_faults_ok : CSound Try.prog 39 F_drawback_faults := R_drawback_faults_ok
noncomputable def G_drawback_faults : DFun := roD F_drawback_faults
theorem G_drawback_faults_ro : Ro F_drawback_faults G_drawback_faults := ro_ro _
theorem F_drawback_faults_raw (h : Hp) : F_drawback_faults [] h = f_drawback_faults Try.prog t_drawback_faults d_drawback_faults NN (fun v h => some (v, h))  h := (bind_pair _).symm.trans (R_drawback_faults_eq (fun v h => some (v, h))  h)
/-! spile/drawback.carry -/
noncomputable def t_drawback_carry : Tab := (updF (updF (updF (updF (updF (updF (updF (updF (updF (updF T0 12 F_drawback_Check) 27 F_drawback_within) 34 F_drawback_part) 39 F_drawback_faults) 46 F_drawback_faults_1) 47 F_drawback_faults_2) 48 F_drawback_faults_3) 49 F_drawback_faults_4) 50 F_drawback_faults_5) 51 F_drawback_faults_6)
theorem t_drawback_carry_ok : TSound Try.prog t_drawback_carry := (TSound.upd (TSound.upd (TSound.upd (TSound.upd (TSound.upd (TSound.upd (TSound.upd (TSound.upd (TSound.upd (TSound.upd TSound.zero F_drawback_Check_ok) F_drawback_within_ok) F_drawback_part_ok) F_drawback_faults_ok) F_drawback_faults_1_ok) F_drawback_faults_2_ok) F_drawback_faults_3_ok) F_drawback_faults_4_ok) F_drawback_faults_5_ok) F_drawback_faults_6_ok)
@[simp] theorem t_drawback_carry_12 : t_drawback_carry 12 = some F_drawback_Check := rfl
@[simp] theorem t_drawback_carry_27 : t_drawback_carry 27 = some F_drawback_within := rfl
@[simp] theorem t_drawback_carry_34 : t_drawback_carry 34 = some F_drawback_part := rfl
@[simp] theorem t_drawback_carry_39 : t_drawback_carry 39 = some F_drawback_faults := rfl
@[simp] theorem t_drawback_carry_46 : t_drawback_carry 46 = some F_drawback_faults_1 := rfl
@[simp] theorem t_drawback_carry_47 : t_drawback_carry 47 = some F_drawback_faults_2 := rfl
@[simp] theorem t_drawback_carry_48 : t_drawback_carry 48 = some F_drawback_faults_3 := rfl
@[simp] theorem t_drawback_carry_49 : t_drawback_carry 49 = some F_drawback_faults_4 := rfl
@[simp] theorem t_drawback_carry_50 : t_drawback_carry 50 = some F_drawback_faults_5 := rfl
@[simp] theorem t_drawback_carry_51 : t_drawback_carry 51 = some F_drawback_faults_6 := rfl
noncomputable def d_drawback_carry : DTab := (updD D0 34 G_drawback_part)
theorem d_drawback_carry_ok : DSound Try.prog d_drawback_carry := (DSound.ro DSound.zero G_drawback_part_ro F_drawback_part_ok)
@[simp] theorem d_drawback_carry_34 : d_drawback_carry 34 = some G_drawback_part := rfl
noncomputable def R_drawback_carry : Fun := runF Try.prog t_drawback_carry d_drawback_carry NN [0, 1, 2, 6, 7, 8, 9, 11, 12, 14, 15, 16, 17, 18, 20, 21, 22, 28, 31, 35, 44, 45, 46, 47, 59, 60, 61, 62, 66, 67, 68, 69, 76] Try.f29 3
theorem R_drawback_carry_ok : CSound Try.prog 29 R_drawback_carry := run_sound t_drawback_carry_ok d_drawback_carry_ok mixed Try.func29 (by kernel_rfl) NN
theorem R_drawback_carry_eq {β : Type} (K : AV → Hp → Option β) (a0 : AV) (a1 : AV) (a2 : AV) (h : Hp) : (R_drawback_carry [a0, a1, a2] h).bind (fun p => K p.1 p.2) = f_drawback_carry Try.prog t_drawback_carry d_drawback_carry NN K a0 a1 a2 h := by
  rw [← f_drawback_carry_run]; exact runF_bind rfl
noncomputable def F_drawback_carry : Fun := R_drawback_carry
theorem F_drawback_carry_ok : CSound Try.prog 29 F_drawback_carry := R_drawback_carry_ok
noncomputable def G_drawback_carry : DFun := roD F_drawback_carry
theorem G_drawback_carry_ro : Ro F_drawback_carry G_drawback_carry := ro_ro _
theorem F_drawback_carry_raw (a0 : AV) (a1 : AV) (a2 : AV) (h : Hp) : F_drawback_carry [a0, a1, a2] h = f_drawback_carry Try.prog t_drawback_carry d_drawback_carry NN (fun v h => some (v, h)) a0 a1 a2 h := (bind_pair _).symm.trans (R_drawback_carry_eq (fun v h => some (v, h)) a0 a1 a2 h)
/-! spile/drawback.Refund -/
noncomputable def t_drawback_Refund : Tab := (updF T0 29 F_drawback_carry)
theorem t_drawback_Refund_ok : TSound Try.prog t_drawback_Refund := (TSound.upd TSound.zero F_drawback_carry_ok)
@[simp] theorem t_drawback_Refund_29 : t_drawback_Refund 29 = some F_drawback_carry := rfl
noncomputable def d_drawback_Refund : DTab := D0
theorem d_drawback_Refund_ok : DSound Try.prog d_drawback_Refund := DSound.zero
noncomputable def R_drawback_Refund : Fun := runF Try.prog t_drawback_Refund d_drawback_Refund NN [0, 1, 2, 6, 7, 8, 10, 11, 12] Try.f15 3
theorem R_drawback_Refund_ok : CSound Try.prog 15 R_drawback_Refund := run_sound t_drawback_Refund_ok d_drawback_Refund_ok mixed Try.func15 (by kernel_rfl) NN
theorem R_drawback_Refund_eq {β : Type} (K : AV → Hp → Option β) (a0 : AV) (a1 : AV) (a2 : AV) (h : Hp) : (R_drawback_Refund [a0, a1, a2] h).bind (fun p => K p.1 p.2) = f_drawback_Refund Try.prog t_drawback_Refund d_drawback_Refund NN K a0 a1 a2 h := by
  rw [← f_drawback_Refund_run]; exact runF_bind rfl
noncomputable def F_drawback_Refund : Fun := closedX [.l 5, .l 3, .o] [.l 1, .o, .o] R_drawback_Refund
theorem F_drawback_Refund_ok : CSound Try.prog 15 F_drawback_Refund := closedX_sound _ _ R_drawback_Refund_ok
noncomputable def G_drawback_Refund : DFun := closedXD [.l 5, .l 3, .o] [.l 1, .o, .o] R_drawback_Refund
theorem G_drawback_Refund_ro : Ro F_drawback_Refund G_drawback_Refund := closedX_ro _ _ _
theorem F_drawback_Refund_run {a0 : AV} {a1 : AV} {a2 : AV} {v : AV} (ha : plains [a0, a1, a2] = true) (hv : f_drawback_Refund Try.prog t_drawback_Refund d_drawback_Refund NN (fun v g => cvt false g v) (nrm (.l 5) a0) (nrm (.l 3) a1) a2 [] = some v) (h : Hp) : F_drawback_Refund [a0, a1, a2] h = some ((nrmR [.l 1, .o, .o] v), h) := by
  have e : (R_drawback_Refund (nrms [.l 5, .l 3, .o] [a0, a1, a2]) []).bind (fun (p : AV × Hp) => cvt false p.2 p.1) = some v := (R_drawback_Refund_eq (fun v g => cvt false g v) (nrm (.l 5) a0) (nrm (.l 3) a1) a2 []).trans hv
  exact (closedX_bind (shr := [.l 1, .o, .o]) ha e h).trans (congrArg (fun x => some (x, h)) rfl)
theorem F_drawback_Refund_own {a0 : AV} {a1 : AV} {a2 : AV} {x0 : AV} {x1 : AV} {x2 : AV} {h : Hp} {v : AV} (ha : cvts false h [x0, x1, x2] = some [a0, a1, a2]) (hv : ∀ st, f_drawback_Refund Try.prog t_drawback_Refund d_drawback_Refund NN (fun v g => cvt st g v) (nrm (.l 5) a0) (nrm (.l 3) a1) a2 [] = some v) : F_drawback_Refund [x0, x1, x2] h = some ((nrmR [.l 1, .o, .o] v), h) := by
  have e : ∀ st, (R_drawback_Refund (nrms [.l 5, .l 3, .o] [a0, a1, a2]) []).bind (fun (p : AV × Hp) => cvt st p.2 p.1) = some v := fun st => (R_drawback_Refund_eq (fun v g => cvt st g v) (nrm (.l 5) a0) (nrm (.l 3) a1) a2 []).trans (hv st)
  exact (closedX_ownB (shr := [.l 1, .o, .o]) ha e).trans (congrArg (fun x => some (x, h)) rfl)
/-! slices.Clone[[]spile/api.Claim,spile/api.Claim] -/
noncomputable def t_slices_Clone_Claim : Tab := T0
theorem t_slices_Clone_Claim_ok : TSound Try.prog t_slices_Clone_Claim := TSound.zero
noncomputable def d_slices_Clone_Claim : DTab := D0
theorem d_slices_Clone_Claim_ok : DSound Try.prog d_slices_Clone_Claim := DSound.zero
noncomputable def R_slices_Clone_Claim : Fun := runF Try.prog t_slices_Clone_Claim d_slices_Clone_Claim NN [0, 2, 4] Try.f16 1
theorem R_slices_Clone_Claim_ok : CSound Try.prog 16 R_slices_Clone_Claim := run_sound t_slices_Clone_Claim_ok d_slices_Clone_Claim_ok mixed Try.func16 (by kernel_rfl) NN
theorem R_slices_Clone_Claim_eq {β : Type} (K : AV → Hp → Option β) (a0 : AV) (h : Hp) : (R_slices_Clone_Claim [a0] h).bind (fun p => K p.1 p.2) = f_slices_Clone_Claim Try.prog t_slices_Clone_Claim d_slices_Clone_Claim NN K a0 h := by
  rw [← f_slices_Clone_Claim_run]; exact runF_bind rfl
theorem R_slices_Clone_Claim_raw (a0 : AV) (h : Hp) : R_slices_Clone_Claim [a0] h = f_slices_Clone_Claim Try.prog t_slices_Clone_Claim d_slices_Clone_Claim NN (fun v h => some (v, h)) a0 h := (bind_pair _).symm.trans (R_slices_Clone_Claim_eq (fun v h => some (v, h)) a0 h)
noncomputable def F_slices_Clone_Claim : Fun := closedX [.l 3] [.l 3] R_slices_Clone_Claim
theorem F_slices_Clone_Claim_ok : CSound Try.prog 16 F_slices_Clone_Claim := closedX_sound _ _ R_slices_Clone_Claim_ok
noncomputable def G_slices_Clone_Claim : DFun := closedXD [.l 3] [.l 3] R_slices_Clone_Claim
theorem G_slices_Clone_Claim_ro : Ro F_slices_Clone_Claim G_slices_Clone_Claim := closedX_ro _ _ _
theorem F_slices_Clone_Claim_run {a0 : AV} {v : AV} (ha : plains [a0] = true) (hv : f_slices_Clone_Claim Try.prog t_slices_Clone_Claim d_slices_Clone_Claim NN (fun v g => cvt false g v) (nrm (.l 3) a0) [] = some v) (h : Hp) : F_slices_Clone_Claim [a0] h = some ((nrmR [.l 3] v), h) := by
  have e : (R_slices_Clone_Claim (nrms [.l 3] [a0]) []).bind (fun (p : AV × Hp) => cvt false p.2 p.1) = some v := (R_slices_Clone_Claim_eq (fun v g => cvt false g v) (nrm (.l 3) a0) []).trans hv
  exact (closedX_bind (shr := [.l 3]) ha e h).trans (congrArg (fun x => some (x, h)) rfl)
theorem F_slices_Clone_Claim_own {a0 : AV} {x0 : AV} {h : Hp} {v : AV} (ha : cvts false h [x0] = some [a0]) (hv : ∀ st, f_slices_Clone_Claim Try.prog t_slices_Clone_Claim d_slices_Clone_Claim NN (fun v g => cvt st g v) (nrm (.l 3) a0) [] = some v) : F_slices_Clone_Claim [x0] h = some ((nrmR [.l 3] v), h) := by
  have e : ∀ st, (R_slices_Clone_Claim (nrms [.l 3] [a0]) []).bind (fun (p : AV × Hp) => cvt st p.2 p.1) = some v := fun st => (R_slices_Clone_Claim_eq (fun v g => cvt st g v) (nrm (.l 3) a0) []).trans (hv st)
  exact (closedX_ownB (shr := [.l 3]) ha e).trans (congrArg (fun x => some (x, h)) rfl)
/-! slices.Equal[[]int,int] -/
noncomputable def t_slices_Equal_int : Tab := T0
theorem t_slices_Equal_int_ok : TSound Try.prog t_slices_Equal_int := TSound.zero
noncomputable def d_slices_Equal_int : DTab := D0
theorem d_slices_Equal_int_ok : DSound Try.prog d_slices_Equal_int := DSound.zero
noncomputable def R_slices_Equal_int : Fun := runF Try.prog t_slices_Equal_int d_slices_Equal_int NN [0, 1, 4, 5, 10, 12, 13, 14, 24] Try.f18 2
theorem R_slices_Equal_int_ok : CSound Try.prog 18 R_slices_Equal_int := run_sound t_slices_Equal_int_ok d_slices_Equal_int_ok mixed Try.func18 (by kernel_rfl) NN
theorem R_slices_Equal_int_eq {β : Type} (K : AV → Hp → Option β) (a0 : AV) (a1 : AV) (h : Hp) : (R_slices_Equal_int [a0, a1] h).bind (fun p => K p.1 p.2) = f_slices_Equal_int Try.prog t_slices_Equal_int d_slices_Equal_int NN K a0 a1 h := by
  rw [← f_slices_Equal_int_run]; exact runF_bind rfl
noncomputable def F_slices_Equal_int : Fun := closedX [.l 1, .l 1] [.o] R_slices_Equal_int
theorem F_slices_Equal_int_ok : CSound Try.prog 18 F_slices_Equal_int := closedX_sound _ _ R_slices_Equal_int_ok
noncomputable def G_slices_Equal_int : DFun := closedXD [.l 1, .l 1] [.o] R_slices_Equal_int
theorem G_slices_Equal_int_ro : Ro F_slices_Equal_int G_slices_Equal_int := closedX_ro _ _ _
theorem F_slices_Equal_int_run {a0 : AV} {a1 : AV} {v : AV} (ha : plains [a0, a1] = true) (hv : f_slices_Equal_int Try.prog t_slices_Equal_int d_slices_Equal_int NN (fun v g => cvt false g v) (nrm (.l 1) a0) (nrm (.l 1) a1) [] = some v) (h : Hp) : F_slices_Equal_int [a0, a1] h = some (v, h) := by
  have e : (R_slices_Equal_int (nrms [.l 1, .l 1] [a0, a1]) []).bind (fun (p : AV × Hp) => cvt false p.2 p.1) = some v := (R_slices_Equal_int_eq (fun v g => cvt false g v) (nrm (.l 1) a0) (nrm (.l 1) a1) []).trans hv
  exact (closedX_bind (shr := [.o]) ha e h).trans (congrArg (fun x => some (x, h)) (nrmR_rep 1 v))
theorem F_slices_Equal_int_own {a0 : AV} {a1 : AV} {x0 : AV} {x1 : AV} {h : Hp} {v : AV} (ha : cvts false h [x0, x1] = some [a0, a1]) (hv : ∀ st, f_slices_Equal_int Try.prog t_slices_Equal_int d_slices_Equal_int NN (fun v g => cvt st g v) (nrm (.l 1) a0) (nrm (.l 1) a1) [] = some v) : F_slices_Equal_int [x0, x1] h = some (v, h) := by
  have e : ∀ st, (R_slices_Equal_int (nrms [.l 1, .l 1] [a0, a1]) []).bind (fun (p : AV × Hp) => cvt st p.2 p.1) = some v := fun st => (R_slices_Equal_int_eq (fun v g => cvt st g v) (nrm (.l 1) a0) (nrm (.l 1) a1) []).trans (hv st)
  exact (closedX_ownB (shr := [.o]) ha e).trans (congrArg (fun x => some (x, h)) (nrmR_rep 1 v))
/-! spile/drawback.Left -/
noncomputable def t_drawback_Left : Tab := (updF (updF T0 29 F_drawback_carry) 34 F_drawback_part)
theorem t_drawback_Left_ok : TSound Try.prog t_drawback_Left := (TSound.upd (TSound.upd TSound.zero F_drawback_carry_ok) F_drawback_part_ok)
@[simp] theorem t_drawback_Left_29 : t_drawback_Left 29 = some F_drawback_carry := rfl
@[simp] theorem t_drawback_Left_34 : t_drawback_Left 34 = some F_drawback_part := rfl
noncomputable def d_drawback_Left : DTab := (updD D0 34 G_drawback_part)
theorem d_drawback_Left_ok : DSound Try.prog d_drawback_Left := (DSound.ro DSound.zero G_drawback_part_ro F_drawback_part_ok)
@[simp] theorem d_drawback_Left_34 : d_drawback_Left 34 = some G_drawback_part := rfl
noncomputable def R_drawback_Left : Fun := runF Try.prog t_drawback_Left d_drawback_Left NN [0, 1, 2, 3, 8, 9, 10, 11, 14, 15, 16, 17, 28, 40] Try.f19 4
theorem R_drawback_Left_ok : CSound Try.prog 19 R_drawback_Left := run_sound t_drawback_Left_ok d_drawback_Left_ok mixed Try.func19 (by kernel_rfl) NN
theorem R_drawback_Left_eq {β : Type} (K : AV → Hp → Option β) (a0 : AV) (a1 : AV) (a2 : AV) (a3 : AV) (h : Hp) : (R_drawback_Left [a0, a1, a2, a3] h).bind (fun p => K p.1 p.2) = f_drawback_Left Try.prog t_drawback_Left d_drawback_Left NN K a0 a1 a2 a3 h := by
  rw [← f_drawback_Left_run]; exact runF_bind rfl
noncomputable def F_drawback_Left : Fun := closedX [.l 5, .l 3, .o, .o] [.o, .o, .o] R_drawback_Left
theorem F_drawback_Left_ok : CSound Try.prog 19 F_drawback_Left := closedX_sound _ _ R_drawback_Left_ok
noncomputable def G_drawback_Left : DFun := closedXD [.l 5, .l 3, .o, .o] [.o, .o, .o] R_drawback_Left
theorem G_drawback_Left_ro : Ro F_drawback_Left G_drawback_Left := closedX_ro _ _ _
theorem F_drawback_Left_run {a0 : AV} {a1 : AV} {a2 : AV} {a3 : AV} {v : AV} (ha : plains [a0, a1, a2, a3] = true) (hv : f_drawback_Left Try.prog t_drawback_Left d_drawback_Left NN (fun v g => cvt false g v) (nrm (.l 5) a0) (nrm (.l 3) a1) a2 a3 [] = some v) (h : Hp) : F_drawback_Left [a0, a1, a2, a3] h = some (v, h) := by
  have e : (R_drawback_Left (nrms [.l 5, .l 3, .o, .o] [a0, a1, a2, a3]) []).bind (fun (p : AV × Hp) => cvt false p.2 p.1) = some v := (R_drawback_Left_eq (fun v g => cvt false g v) (nrm (.l 5) a0) (nrm (.l 3) a1) a2 a3 []).trans hv
  exact (closedX_bind (shr := [.o, .o, .o]) ha e h).trans (congrArg (fun x => some (x, h)) (nrmR_rep 3 v))
theorem F_drawback_Left_own {a0 : AV} {a1 : AV} {a2 : AV} {a3 : AV} {x0 : AV} {x1 : AV} {x2 : AV} {x3 : AV} {h : Hp} {v : AV} (ha : cvts false h [x0, x1, x2, x3] = some [a0, a1, a2, a3]) (hv : ∀ st, f_drawback_Left Try.prog t_drawback_Left d_drawback_Left NN (fun v g => cvt st g v) (nrm (.l 5) a0) (nrm (.l 3) a1) a2 a3 [] = some v) : F_drawback_Left [x0, x1, x2, x3] h = some (v, h) := by
  have e : ∀ st, (R_drawback_Left (nrms [.l 5, .l 3, .o, .o] [a0, a1, a2, a3]) []).bind (fun (p : AV × Hp) => cvt st p.2 p.1) = some v := fun st => (R_drawback_Left_eq (fun v g => cvt st g v) (nrm (.l 5) a0) (nrm (.l 3) a1) a2 a3 []).trans (hv st)
  exact (closedX_ownB (shr := [.o, .o, .o]) ha e).trans (congrArg (fun x => some (x, h)) (nrmR_rep 3 v))
/-! spile/drawback.Total -/
noncomputable def t_drawback_Total : Tab := (updF T0 29 F_drawback_carry)
theorem t_drawback_Total_ok : TSound Try.prog t_drawback_Total := (TSound.upd TSound.zero F_drawback_carry_ok)
@[simp] theorem t_drawback_Total_29 : t_drawback_Total 29 = some F_drawback_carry := rfl
noncomputable def d_drawback_Total : DTab := D0
theorem d_drawback_Total_ok : DSound Try.prog d_drawback_Total := DSound.zero
noncomputable def R_drawback_Total : Fun := runF Try.prog t_drawback_Total d_drawback_Total NN [0, 1, 2, 6, 7, 9, 11, 12, 14, 24, 25, 26, 27] Try.f21 3
theorem R_drawback_Total_ok : CSound Try.prog 21 R_drawback_Total := run_sound t_drawback_Total_ok d_drawback_Total_ok mixed Try.func21 (by kernel_rfl) NN
theorem R_drawback_Total_eq {β : Type} (K : AV → Hp → Option β) (a0 : AV) (a1 : AV) (a2 : AV) (h : Hp) : (R_drawback_Total [a0, a1, a2] h).bind (fun p => K p.1 p.2) = f_drawback_Total Try.prog t_drawback_Total d_drawback_Total NN K a0 a1 a2 h := by
  rw [← f_drawback_Total_run]; exact runF_bind rfl
noncomputable def F_drawback_Total : Fun := closedX [.l 5, .l 3, .o] [.o, .o] R_drawback_Total
theorem F_drawback_Total_ok : CSound Try.prog 21 F_drawback_Total := closedX_sound _ _ R_drawback_Total_ok
noncomputable def G_drawback_Total : DFun := closedXD [.l 5, .l 3, .o] [.o, .o] R_drawback_Total
theorem G_drawback_Total_ro : Ro F_drawback_Total G_drawback_Total := closedX_ro _ _ _
theorem F_drawback_Total_run {a0 : AV} {a1 : AV} {a2 : AV} {v : AV} (ha : plains [a0, a1, a2] = true) (hv : f_drawback_Total Try.prog t_drawback_Total d_drawback_Total NN (fun v g => cvt false g v) (nrm (.l 5) a0) (nrm (.l 3) a1) a2 [] = some v) (h : Hp) : F_drawback_Total [a0, a1, a2] h = some (v, h) := by
  have e : (R_drawback_Total (nrms [.l 5, .l 3, .o] [a0, a1, a2]) []).bind (fun (p : AV × Hp) => cvt false p.2 p.1) = some v := (R_drawback_Total_eq (fun v g => cvt false g v) (nrm (.l 5) a0) (nrm (.l 3) a1) a2 []).trans hv
  exact (closedX_bind (shr := [.o, .o]) ha e h).trans (congrArg (fun x => some (x, h)) (nrmR_rep 2 v))
theorem F_drawback_Total_own {a0 : AV} {a1 : AV} {a2 : AV} {x0 : AV} {x1 : AV} {x2 : AV} {h : Hp} {v : AV} (ha : cvts false h [x0, x1, x2] = some [a0, a1, a2]) (hv : ∀ st, f_drawback_Total Try.prog t_drawback_Total d_drawback_Total NN (fun v g => cvt st g v) (nrm (.l 5) a0) (nrm (.l 3) a1) a2 [] = some v) : F_drawback_Total [x0, x1, x2] h = some (v, h) := by
  have e : ∀ st, (R_drawback_Total (nrms [.l 5, .l 3, .o] [a0, a1, a2]) []).bind (fun (p : AV × Hp) => cvt st p.2 p.1) = some v := fun st => (R_drawback_Total_eq (fun v g => cvt st g v) (nrm (.l 5) a0) (nrm (.l 3) a1) a2 []).trans (hv st)
  exact (closedX_ownB (shr := [.o, .o]) ha e).trans (congrArg (fun x => some (x, h)) (nrmR_rep 2 v))
/-! spile/drawback.Overdue -/
noncomputable def t_drawback_Overdue : Tab := (updF (updF T0 27 F_drawback_within) 29 F_drawback_carry)
theorem t_drawback_Overdue_ok : TSound Try.prog t_drawback_Overdue := (TSound.upd (TSound.upd TSound.zero F_drawback_within_ok) F_drawback_carry_ok)
@[simp] theorem t_drawback_Overdue_27 : t_drawback_Overdue 27 = some F_drawback_within := rfl
@[simp] theorem t_drawback_Overdue_29 : t_drawback_Overdue 29 = some F_drawback_carry := rfl
noncomputable def d_drawback_Overdue : DTab := D0
theorem d_drawback_Overdue_ok : DSound Try.prog d_drawback_Overdue := DSound.zero
noncomputable def R_drawback_Overdue : Fun := runF Try.prog t_drawback_Overdue d_drawback_Overdue NN [0, 1, 2, 3, 8, 9, 10, 13, 14, 16, 26, 30, 34, 35, 36, 37, 57] Try.f23 4
theorem R_drawback_Overdue_ok : CSound Try.prog 23 R_drawback_Overdue := run_sound t_drawback_Overdue_ok d_drawback_Overdue_ok mixed Try.func23 (by kernel_rfl) NN
theorem R_drawback_Overdue_eq {β : Type} (K : AV → Hp → Option β) (a0 : AV) (a1 : AV) (a2 : AV) (a3 : AV) (h : Hp) : (R_drawback_Overdue [a0, a1, a2, a3] h).bind (fun p => K p.1 p.2) = f_drawback_Overdue Try.prog t_drawback_Overdue d_drawback_Overdue NN K a0 a1 a2 a3 h := by
  rw [← f_drawback_Overdue_run]; exact runF_bind rfl
noncomputable def F_drawback_Overdue : Fun := closedX [.l 5, .l 3, .o, .o] [.l 1, .o] R_drawback_Overdue
theorem F_drawback_Overdue_ok : CSound Try.prog 23 F_drawback_Overdue := closedX_sound _ _ R_drawback_Overdue_ok
noncomputable def G_drawback_Overdue : DFun := closedXD [.l 5, .l 3, .o, .o] [.l 1, .o] R_drawback_Overdue
theorem G_drawback_Overdue_ro : Ro F_drawback_Overdue G_drawback_Overdue := closedX_ro _ _ _
theorem F_drawback_Overdue_run {a0 : AV} {a1 : AV} {a2 : AV} {a3 : AV} {v : AV} (ha : plains [a0, a1, a2, a3] = true) (hv : f_drawback_Overdue Try.prog t_drawback_Overdue d_drawback_Overdue NN (fun v g => cvt false g v) (nrm (.l 5) a0) (nrm (.l 3) a1) a2 a3 [] = some v) (h : Hp) : F_drawback_Overdue [a0, a1, a2, a3] h = some ((nrmR [.l 1, .o] v), h) := by
  have e : (R_drawback_Overdue (nrms [.l 5, .l 3, .o, .o] [a0, a1, a2, a3]) []).bind (fun (p : AV × Hp) => cvt false p.2 p.1) = some v := (R_drawback_Overdue_eq (fun v g => cvt false g v) (nrm (.l 5) a0) (nrm (.l 3) a1) a2 a3 []).trans hv
  exact (closedX_bind (shr := [.l 1, .o]) ha e h).trans (congrArg (fun x => some (x, h)) rfl)
theorem F_drawback_Overdue_own {a0 : AV} {a1 : AV} {a2 : AV} {a3 : AV} {x0 : AV} {x1 : AV} {x2 : AV} {x3 : AV} {h : Hp} {v : AV} (ha : cvts false h [x0, x1, x2, x3] = some [a0, a1, a2, a3]) (hv : ∀ st, f_drawback_Overdue Try.prog t_drawback_Overdue d_drawback_Overdue NN (fun v g => cvt st g v) (nrm (.l 5) a0) (nrm (.l 3) a1) a2 a3 [] = some v) : F_drawback_Overdue [x0, x1, x2, x3] h = some ((nrmR [.l 1, .o] v), h) := by
  have e : ∀ st, (R_drawback_Overdue (nrms [.l 5, .l 3, .o, .o] [a0, a1, a2, a3]) []).bind (fun (p : AV × Hp) => cvt st p.2 p.1) = some v := fun st => (R_drawback_Overdue_eq (fun v g => cvt st g v) (nrm (.l 5) a0) (nrm (.l 3) a1) a2 a3 []).trans (hv st)
  exact (closedX_ownB (shr := [.l 1, .o]) ha e).trans (congrArg (fun x => some (x, h)) rfl)
/-! spile/spilelaw48.awake -/
noncomputable def t_law48_awake : Tab := (updF (updF (updF (updF (updF (updF (updF (updF T0 12 F_drawback_Check) 13 F_slices_Clone_Paid) 15 F_drawback_Refund) 16 R_slices_Clone_Claim) 18 F_slices_Equal_int) 19 F_drawback_Left) 21 F_drawback_Total) 23 F_drawback_Overdue)
theorem t_law48_awake_ok : TSound Try.prog t_law48_awake := (TSound.upd (TSound.upd (TSound.upd (TSound.upd (TSound.upd (TSound.upd (TSound.upd (TSound.upd TSound.zero F_drawback_Check_ok) F_slices_Clone_Paid_ok) F_drawback_Refund_ok) R_slices_Clone_Claim_ok) F_slices_Equal_int_ok) F_drawback_Left_ok) F_drawback_Total_ok) F_drawback_Overdue_ok)
@[simp] theorem t_law48_awake_12 : t_law48_awake 12 = some F_drawback_Check := rfl
@[simp] theorem t_law48_awake_13 : t_law48_awake 13 = some F_slices_Clone_Paid := rfl
@[simp] theorem t_law48_awake_15 : t_law48_awake 15 = some F_drawback_Refund := rfl
@[simp] theorem t_law48_awake_16 : t_law48_awake 16 = some R_slices_Clone_Claim := rfl
@[simp] theorem t_law48_awake_18 : t_law48_awake 18 = some F_slices_Equal_int := rfl
@[simp] theorem t_law48_awake_19 : t_law48_awake 19 = some F_drawback_Left := rfl
@[simp] theorem t_law48_awake_21 : t_law48_awake 21 = some F_drawback_Total := rfl
@[simp] theorem t_law48_awake_23 : t_law48_awake 23 = some F_drawback_Overdue := rfl
noncomputable def d_law48_awake : DTab := D0
theorem d_law48_awake_ok : DSound Try.prog d_law48_awake := DSound.zero
noncomputable def R_law48_awake : Fun := runF Try.prog t_law48_awake d_law48_awake NN [0, 1, 2, 3, 4, 5, 6, 7, 8, 9, 10, 11, 12, 13, 15, 16, 17, 18] Try.f10 0
theorem R_law48_awake_ok : CSound Try.prog 10 R_law48_awake := run_sound t_law48_awake_ok d_law48_awake_ok mixed Try.func10 (by kernel_rfl) NN
theorem R_law48_awake_eq {β : Type} (K : AV → Hp → Option β) (h : Hp) : (R_law48_awake [] h).bind (fun p => K p.1 p.2) = f_law48_awake Try.prog t_law48_awake d_law48_awake NN K  h := by
  rw [← f_law48_awake_run]; exact runF_bind rfl
noncomputable def F_law48_awake : Fun := closedX [] [.o] R_law48_awake
theorem F_law48_awake_ok : CSound Try.prog 10 F_law48_awake := closedX_sound _ _ R_law48_awake_ok
noncomputable def G_law48_awake : DFun := closedXD [] [.o] R_law48_awake
theorem G_law48_awake_ro : Ro F_law48_awake G_law48_awake := closedX_ro _ _ _
theorem F_law48_awake_run {v : AV} (ha : plains [] = true) (hv : f_law48_awake Try.prog t_law48_awake d_law48_awake NN (fun v g => cvt false g v)  [] = some v) (h : Hp) : F_law48_awake [] h = some (v, h) := by
  have e : (R_law48_awake (nrms [] []) []).bind (fun (p : AV × Hp) => cvt false p.2 p.1) = some v := (R_law48_awake_eq (fun v g => cvt false g v)  []).trans hv
  exact (closedX_bind (shr := [.o]) ha e h).trans (congrArg (fun x => some (x, h)) (nrmR_rep 1 v))
/-! spile/spileref48.Few -/
noncomputable def t_ref48_Few : Tab := T0
theorem t_ref48_Few_ok : TSound Try.prog t_ref48_Few := TSound.zero
noncomputable def d_ref48_Few : DTab := D0
theorem d_ref48_Few_ok : DSound Try.prog d_ref48_Few := DSound.zero
noncomputable def R_ref48_Few : Fun := runF Try.prog t_ref48_Few d_ref48_Few NN [0, 1, 4] Try.f11 2
theorem R_ref48_Few_ok : CSound Try.prog 11 R_ref48_Few := run_sound t_ref48_Few_ok d_ref48_Few_ok mixed Try.func11 (by kernel_rfl) NN
theorem R_ref48_Few_eq {β : Type} (K : AV → Hp → Option β) (a0 : AV) (a1 : AV) (h : Hp) : (R_ref48_Few [a0, a1] h).bind (fun p => K p.1 p.2) = f_ref48_Few Try.prog t_ref48_Few d_ref48_Few NN K a0 a1 h := by
  rw [← f_ref48_Few_run]; exact runF_bind rfl
noncomputable def F_ref48_Few : Fun := closedX [.l 5, .l 3] [.o] R_ref48_Few
theorem F_ref48_Few_ok : CSound Try.prog 11 F_ref48_Few := closedX_sound _ _ R_ref48_Few_ok
noncomputable def G_ref48_Few : DFun := closedXD [.l 5, .l 3] [.o] R_ref48_Few
theorem G_ref48_Few_ro : Ro F_ref48_Few G_ref48_Few := closedX_ro _ _ _
theorem F_ref48_Few_run {a0 : AV} {a1 : AV} {v : AV} (ha : plains [a0, a1] = true) (hv : f_ref48_Few Try.prog t_ref48_Few d_ref48_Few NN (fun v g => cvt false g v) (nrm (.l 5) a0) (nrm (.l 3) a1) [] = some v) (h : Hp) : F_ref48_Few [a0, a1] h = some (v, h) := by
  have e : (R_ref48_Few (nrms [.l 5, .l 3] [a0, a1]) []).bind (fun (p : AV × Hp) => cvt false p.2 p.1) = some v := (R_ref48_Few_eq (fun v g => cvt false g v) (nrm (.l 5) a0) (nrm (.l 3) a1) []).trans hv
  exact (closedX_bind (shr := [.o]) ha e h).trans (congrArg (fun x => some (x, h)) (nrmR_rep 1 v))
theorem F_ref48_Few_own {a0 : AV} {a1 : AV} {x0 : AV} {x1 : AV} {h : Hp} {v : AV} (ha : cvts false h [x0, x1] = some [a0, a1]) (hv : ∀ st, f_ref48_Few Try.prog t_ref48_Few d_ref48_Few NN (fun v g => cvt st g v) (nrm (.l 5) a0) (nrm (.l 3) a1) [] = some v) : F_ref48_Few [x0, x1] h = some (v, h) := by
  have e : ∀ st, (R_ref48_Few (nrms [.l 5, .l 3] [a0, a1]) []).bind (fun (p : AV × Hp) => cvt st p.2 p.1) = some v := fun st => (R_ref48_Few_eq (fun v g => cvt st g v) (nrm (.l 5) a0) (nrm (.l 3) a1) []).trans (hv st)
  exact (closedX_ownB (shr := [.o]) ha e).trans (congrArg (fun x => some (x, h)) (nrmR_rep 1 v))
/-! spile/spileref47.Between -/
noncomputable def t_ref47_Between : Tab := T0
theorem t_ref47_Between_ok : TSound Try.prog t_ref47_Between := TSound.zero
noncomputable def d_ref47_Between : DTab := D0
theorem d_ref47_Between_ok : DSound Try.prog d_ref47_Between := DSound.zero
noncomputable def R_ref47_Between : Fun := runF Try.prog t_ref47_Between d_ref47_Between NN [0, 1, 2, 6] Try.f38 3
theorem R_ref47_Between_ok : CSound Try.prog 38 R_ref47_Between := run_sound t_ref47_Between_ok d_ref47_Between_ok mixed Try.func38 (by kernel_rfl) NN
theorem R_ref47_Between_eq {β : Type} (K : AV → Hp → Option β) (a0 : AV) (a1 : AV) (a2 : AV) (h : Hp) : (R_ref47_Between [a0, a1, a2] h).bind (fun p => K p.1 p.2) = f_ref47_Between Try.prog t_ref47_Between d_ref47_Between NN K a0 a1 a2 h := by
  rw [← f_ref47_Between_run]; exact runF_bind rfl
noncomputable def F_ref47_Between : Fun := closedX [.o, .o, .o] [.o] R_ref47_Between
theorem F_ref47_Between_ok : CSound Try.prog 38 F_ref47_Between := closedX_sound _ _ R_ref47_Between_ok
noncomputable def G_ref47_Between : DFun := closedXD [.o, .o, .o] [.o] R_ref47_Between
theorem G_ref47_Between_ro : Ro F_ref47_Between G_ref47_Between := closedX_ro _ _ _
theorem F_ref47_Between_run {a0 : AV} {a1 : AV} {a2 : AV} {v : AV} (ha : plains [a0, a1, a2] = true) (hv : f_ref47_Between Try.prog t_ref47_Between d_ref47_Between NN (fun v g => cvt false g v) a0 a1 a2 [] = some v) (h : Hp) : F_ref47_Between [a0, a1, a2] h = some (v, h) := by
  have e : (R_ref47_Between (nrms [.o, .o, .o] [a0, a1, a2]) []).bind (fun (p : AV × Hp) => cvt false p.2 p.1) = some v := (R_ref47_Between_eq (fun v g => cvt false g v) a0 a1 a2 []).trans hv
  exact (closedX_bind (shr := [.o]) ha e h).trans (congrArg (fun x => some (x, h)) (nrmR_rep 1 v))
theorem F_ref47_Between_own {a0 : AV} {a1 : AV} {a2 : AV} {x0 : AV} {x1 : AV} {x2 : AV} {h : Hp} {v : AV} (ha : cvts false h [x0, x1, x2] = some [a0, a1, a2]) (hv : ∀ st, f_ref47_Between Try.prog t_ref47_Between d_ref47_Between NN (fun v g => cvt st g v) a0 a1 a2 [] = some v) : F_ref47_Between [x0, x1, x2] h = some (v, h) := by
  have e : ∀ st, (R_ref47_Between (nrms [.o, .o, .o] [a0, a1, a2]) []).bind (fun (p : AV × Hp) => cvt st p.2 p.1) = some v := fun st => (R_ref47_Between_eq (fun v g => cvt st g v) a0 a1 a2 []).trans (hv st)
  exact (closedX_ownB (shr := [.o]) ha e).trans (congrArg (fun x => some (x, h)) (nrmR_rep 1 v))
/-! spile/spileref48.between -/
noncomputable def t_ref48_between : Tab := (updF T0 38 F_ref47_Between)
theorem t_ref48_between_ok : TSound Try.prog t_ref48_between := (TSound.upd TSound.zero F_ref47_Between_ok)
@[simp] theorem t_ref48_between_38 : t_ref48_between 38 = some F_ref47_Between := rfl
noncomputable def d_ref48_between : DTab := D0
theorem d_ref48_between_ok : DSound Try.prog d_ref48_between := DSound.zero
noncomputable def R_ref48_between : Fun := runF Try.prog t_ref48_between d_ref48_between NN [0, 1, 2, 6] Try.f28 3
theorem R_ref48_between_ok : CSound Try.prog 28 R_ref48_between := run_sound t_ref48_between_ok d_ref48_between_ok mixed Try.func28 (by kernel_rfl) NN
theorem R_ref48_between_eq {β : Type} (K : AV → Hp → Option β) (a0 : AV) (a1 : AV) (a2 : AV) (h : Hp) : (R_ref48_between [a0, a1, a2] h).bind (fun p => K p.1 p.2) = f_ref48_between Try.prog t_ref48_between d_ref48_between NN K a0 a1 a2 h := by
  rw [← f_ref48_between_run]; exact runF_bind rfl
noncomputable def F_ref48_between : Fun := closedX [.o, .o, .o] [.o] R_ref48_between
theorem F_ref48_between_ok : CSound Try.prog 28 F_ref48_between := closedX_sound _ _ R_ref48_between_ok
noncomputable def G_ref48_between : DFun := closedXD [.o, .o, .o] [.o] R_ref48_between
theorem G_ref48_between_ro : Ro F_ref48_between G_ref48_between := closedX_ro _ _ _
theorem F_ref48_between_run {a0 : AV} {a1 : AV} {a2 : AV} {v : AV} (ha : plains [a0, a1, a2] = true) (hv : f_ref48_between Try.prog t_ref48_between d_ref48_between NN (fun v g => cvt false g v) a0 a1 a2 [] = some v) (h : Hp) : F_ref48_between [a0, a1, a2] h = some (v, h) := by
  have e : (R_ref48_between (nrms [.o, .o, .o] [a0, a1, a2]) []).bind (fun (p : AV × Hp) => cvt false p.2 p.1) = some v := (R_ref48_between_eq (fun v g => cvt false g v) a0 a1 a2 []).trans hv
  exact (closedX_bind (shr := [.o]) ha e h).trans (congrArg (fun x => some (x, h)) (nrmR_rep 1 v))
theorem F_ref48_between_own {a0 : AV} {a1 : AV} {a2 : AV} {x0 : AV} {x1 : AV} {x2 : AV} {h : Hp} {v : AV} (ha : cvts false h [x0, x1, x2] = some [a0, a1, a2]) (hv : ∀ st, f_ref48_between Try.prog t_ref48_between d_ref48_between NN (fun v g => cvt st g v) a0 a1 a2 [] = some v) : F_ref48_between [x0, x1, x2] h = some (v, h) := by
  have e : ∀ st, (R_ref48_between (nrms [.o, .o, .o] [a0, a1, a2]) []).bind (fun (p : AV × Hp) => cvt st p.2 p.1) = some v := fun st => (R_ref48_between_eq (fun v g => cvt st g v) a0 a1 a2 []).trans (hv st)
  exact (closedX_ownB (shr := [.o]) ha e).trans (congrArg (fun x => some (x, h)) (nrmR_rep 1 v))
/-! spile/spileref48.Check -/
noncomputable def t_ref48_Check : Tab := (updF T0 28 F_ref48_between)
theorem t_ref48_Check_ok : TSound Try.prog t_ref48_Check := (TSound.upd TSound.zero F_ref48_between_ok)
@[simp] theorem t_ref48_Check_28 : t_ref48_Check 28 = some F_ref48_between := rfl
noncomputable def d_ref48_Check : DTab := D0
theorem d_ref48_Check_ok : DSound Try.prog d_ref48_Check := DSound.zero
noncomputable def R_ref48_Check : Fun := runF Try.prog t_ref48_Check d_ref48_Check NN [0, 2, 3, 4, 5, 8, 12, 46, 60] Try.f14 1
theorem R_ref48_Check_ok : CSound Try.prog 14 R_ref48_Check := run_sound t_ref48_Check_ok d_ref48_Check_ok mixed Try.func14 (by kernel_rfl) NN
theorem R_ref48_Check_eq {β : Type} (K : AV → Hp → Option β) (a0 : AV) (h : Hp) : (R_ref48_Check [a0] h).bind (fun p => K p.1 p.2) = f_ref48_Check Try.prog t_ref48_Check d_ref48_Check NN K a0 h := by
  rw [← f_ref48_Check_run]; exact runF_bind rfl
noncomputable def F_ref48_Check : Fun := closedX [.l 5] [.o, .o] R_ref48_Check
theorem F_ref48_Check_ok : CSound Try.prog 14 F_ref48_Check := closedX_sound _ _ R_ref48_Check_ok
noncomputable def G_ref48_Check : DFun := closedXD [.l 5] [.o, .o] R_ref48_Check
theorem G_ref48_Check_ro : Ro F_ref48_Check G_ref48_Check := closedX_ro _ _ _
theorem F_ref48_Check_run {a0 : AV} {v : AV} (ha : plains [a0] = true) (hv : f_ref48_Check Try.prog t_ref48_Check d_ref48_Check NN (fun v g => cvt false g v) (nrm (.l 5) a0) [] = some v) (h : Hp) : F_ref48_Check [a0] h = some (v, h) := by
  have e : (R_ref48_Check (nrms [.l 5] [a0]) []).bind (fun (p : AV × Hp) => cvt false p.2 p.1) = some v := (R_ref48_Check_eq (fun v g => cvt false g v) (nrm (.l 5) a0) []).trans hv
  exact (closedX_bind (shr := [.o, .o]) ha e h).trans (congrArg (fun x => some (x, h)) (nrmR_rep 2 v))
theorem F_ref48_Check_own {a0 : AV} {x0 : AV} {h : Hp} {v : AV} (ha : cvts false h [x0] = some [a0]) (hv : ∀ st, f_ref48_Check Try.prog t_ref48_Check d_ref48_Check NN (fun v g => cvt st g v) (nrm (.l 5) a0) [] = some v) : F_ref48_Check [x0] h = some (v, h) := by
  have e : ∀ st, (R_ref48_Check (nrms [.l 5] [a0]) []).bind (fun (p : AV × Hp) => cvt st p.2 p.1) = some v := fun st => (R_ref48_Check_eq (fun v g => cvt st g v) (nrm (.l 5) a0) []).trans (hv st)
  exact (closedX_ownB (shr := [.o, .o]) ha e).trans (congrArg (fun x => some (x, h)) (nrmR_rep 2 v))
/-! spile/spileref48.find -/
noncomputable def t_ref48_find : Tab := T0
theorem t_ref48_find_ok : TSound Try.prog t_ref48_find := TSound.zero
noncomputable def d_ref48_find : DTab := D0
theorem d_ref48_find_ok : DSound Try.prog d_ref48_find := DSound.zero
noncomputable def R_ref48_find : Fun := runF Try.prog t_ref48_find d_ref48_find NN [0, 1, 4, 5, 9, 18] Try.f31 2
theorem R_ref48_find_ok : CSound Try.prog 31 R_ref48_find := run_sound t_ref48_find_ok d_ref48_find_ok mixed Try.func31 (by kernel_rfl) NN
theorem R_ref48_find_eq {β : Type} (K : AV → Hp → Option β) (a0 : AV) (a1 : AV) (h : Hp) : (R_ref48_find [a0, a1] h).bind (fun p => K p.1 p.2) = f_ref48_find Try.prog t_ref48_find d_ref48_find NN K a0 a1 h := by
  rw [← f_ref48_find_run]; exact runF_bind rfl
noncomputable def F_ref48_find : Fun := closedX [.l 5, .o] [.o] R_ref48_find
theorem F_ref48_find_ok : CSound Try.prog 31 F_ref48_find := closedX_sound _ _ R_ref48_find_ok
noncomputable def G_ref48_find : DFun := closedXD [.l 5, .o] [.o] R_ref48_find
theorem G_ref48_find_ro : Ro F_ref48_find G_ref48_find := closedX_ro _ _ _
theorem F_ref48_find_run {a0 : AV} {a1 : AV} {v : AV} (ha : plains [a0, a1] = true) (hv : f_ref48_find Try.prog t_ref48_find d_ref48_find NN (fun v g => cvt false g v) (nrm (.l 5) a0) a1 [] = some v) (h : Hp) : F_ref48_find [a0, a1] h = some (v, h) := by
  have e : (R_ref48_find (nrms [.l 5, .o] [a0, a1]) []).bind (fun (p : AV × Hp) => cvt false p.2 p.1) = some v := (R_ref48_find_eq (fun v g => cvt false g v) (nrm (.l 5) a0) a1 []).trans hv
  exact (closedX_bind (shr := [.o]) ha e h).trans (congrArg (fun x => some (x, h)) (nrmR_rep 1 v))
theorem F_ref48_find_own {a0 : AV} {a1 : AV} {x0 : AV} {x1 : AV} {h : Hp} {v : AV} (ha : cvts false h [x0, x1] = some [a0, a1]) (hv : ∀ st, f_ref48_find Try.prog t_ref48_find d_ref48_find NN (fun v g => cvt st g v) (nrm (.l 5) a0) a1 [] = some v) : F_ref48_find [x0, x1] h = some (v, h) := by
  have e : ∀ st, (R_ref48_find (nrms [.l 5, .o] [a0, a1]) []).bind (fun (p : AV × Hp) => cvt st p.2 p.1) = some v := fun st => (R_ref48_find_eq (fun v g => cvt st g v) (nrm (.l 5) a0) a1 []).trans (hv st)
  exact (closedX_ownB (shr := [.o]) ha e).trans (congrArg (fun x => some (x, h)) (nrmR_rep 1 v))
/-! spile/spileref48.claimed -/
noncomputable def t_ref48_claimed : Tab := T0
theorem t_ref48_claimed_ok : TSound Try.prog t_ref48_claimed := TSound.zero
noncomputable def d_ref48_claimed : DTab := D0
theorem d_ref48_claimed_ok : DSound Try.prog d_ref48_claimed := DSound.zero
noncomputable def R_ref48_claimed : Fun := runF Try.prog t_ref48_claimed d_ref48_claimed NN [0, 1, 4, 5, 6, 10, 19] Try.f32 2
theorem R_ref48_claimed_ok : CSound Try.prog 32 R_ref48_claimed := run_sound t_ref48_claimed_ok d_ref48_claimed_ok mixed Try.func32 (by kernel_rfl) NN
theorem R_ref48_claimed_eq {β : Type} (K : AV → Hp → Option β) (a0 : AV) (a1 : AV) (h : Hp) : (R_ref48_claimed [a0, a1] h).bind (fun p => K p.1 p.2) = f_ref48_claimed Try.prog t_ref48_claimed d_ref48_claimed NN K a0 a1 h := by
  rw [← f_ref48_claimed_run]; exact runF_bind rfl
noncomputable def F_ref48_claimed : Fun := closedX [.l 3, .o] [.o] R_ref48_claimed
theorem F_ref48_claimed_ok : CSound Try.prog 32 F_ref48_claimed := closedX_sound _ _ R_ref48_claimed_ok
noncomputable def G_ref48_claimed : DFun := closedXD [.l 3, .o] [.o] R_ref48_claimed
theorem G_ref48_claimed_ro : Ro F_ref48_claimed G_ref48_claimed := closedX_ro _ _ _
theorem F_ref48_claimed_run {a0 : AV} {a1 : AV} {v : AV} (ha : plains [a0, a1] = true) (hv : f_ref48_claimed Try.prog t_ref48_claimed d_ref48_claimed NN (fun v g => cvt false g v) (nrm (.l 3) a0) a1 [] = some v) (h : Hp) : F_ref48_claimed [a0, a1] h = some (v, h) := by
  have e : (R_ref48_claimed (nrms [.l 3, .o] [a0, a1]) []).bind (fun (p : AV × Hp) => cvt false p.2 p.1) = some v := (R_ref48_claimed_eq (fun v g => cvt false g v) (nrm (.l 3) a0) a1 []).trans hv
  exact (closedX_bind (shr := [.o]) ha e h).trans (congrArg (fun x => some (x, h)) (nrmR_rep 1 v))
theorem F_ref48_claimed_own {a0 : AV} {a1 : AV} {x0 : AV} {x1 : AV} {h : Hp} {v : AV} (ha : cvts false h [x0, x1] = some [a0, a1]) (hv : ∀ st, f_ref48_claimed Try.prog t_ref48_claimed d_ref48_claimed NN (fun v g => cvt st g v) (nrm (.l 3) a0) a1 [] = some v) : F_ref48_claimed [x0, x1] h = some (v, h) := by
  have e : ∀ st, (R_ref48_claimed (nrms [.l 3, .o] [a0, a1]) []).bind (fun (p : AV × Hp) => cvt st p.2 p.1) = some v := fun st => (R_ref48_claimed_eq (fun v g => cvt st g v) (nrm (.l 3) a0) a1 []).trans (hv st)
  exact (closedX_ownB (shr := [.o]) ha e).trans (congrArg (fun x => some (x, h)) (nrmR_rep 1 v))
/-! spile/spileref48.refused -/
noncomputable def t_ref48_refused : Tab := (updF (updF (updF T0 28 F_ref48_between) 31 F_ref48_find) 32 F_ref48_claimed)
theorem t_ref48_refused_ok : TSound Try.prog t_ref48_refused := (TSound.upd (TSound.upd (TSound.upd TSound.zero F_ref48_between_ok) F_ref48_find_ok) F_ref48_claimed_ok)
@[simp] theorem t_ref48_refused_28 : t_ref48_refused 28 = some F_ref48_between := rfl
@[simp] theorem t_ref48_refused_31 : t_ref48_refused 31 = some F_ref48_find := rfl
@[simp] theorem t_ref48_refused_32 : t_ref48_refused 32 = some F_ref48_claimed := rfl
noncomputable def d_ref48_refused : DTab := (updD D0 32 G_ref48_claimed)
theorem d_ref48_refused_ok : DSound Try.prog d_ref48_refused := (DSound.ro DSound.zero G_ref48_claimed_ro F_ref48_claimed_ok)
@[simp] theorem d_ref48_refused_32 : d_ref48_refused 32 = some G_ref48_claimed := rfl
noncomputable def R_ref48_refused : Fun := runF Try.prog t_ref48_refused d_ref48_refused NN [0, 1, 2, 3, 6, 8, 9, 25, 40, 45, 48, 57, 68] Try.f30 4
theorem R_ref48_refused_ok : CSound Try.prog 30 R_ref48_refused := run_sound t_ref48_refused_ok d_ref48_refused_ok mixed Try.func30 (by kernel_rfl) NN
theorem R_ref48_refused_eq {β : Type} (K : AV → Hp → Option β) (a0 : AV) (a1 : AV) (a2 : AV) (a3 : AV) (h : Hp) : (R_ref48_refused [a0, a1, a2, a3] h).bind (fun p => K p.1 p.2) = f_ref48_refused Try.prog t_ref48_refused d_ref48_refused NN K a0 a1 a2 a3 h := by
  rw [← f_ref48_refused_run]; exact runF_bind rfl
noncomputable def F_ref48_refused : Fun := closedX [.l 5, .l 3, .o, .o] [.o] R_ref48_refused
theorem F_ref48_refused_ok : CSound Try.prog 30 F_ref48_refused := closedX_sound _ _ R_ref48_refused_ok
noncomputable def G_ref48_refused : DFun := closedXD [.l 5, .l 3, .o, .o] [.o] R_ref48_refused
theorem G_ref48_refused_ro : Ro F_ref48_refused G_ref48_refused := closedX_ro _ _ _
theorem F_ref48_refused_run {a0 : AV} {a1 : AV} {a2 : AV} {a3 : AV} {v : AV} (ha : plains [a0, a1, a2, a3] = true) (hv : f_ref48_refused Try.prog t_ref48_refused d_ref48_refused NN (fun v g => cvt false g v) (nrm (.l 5) a0) (nrm (.l 3) a1) a2 a3 [] = some v) (h : Hp) : F_ref48_refused [a0, a1, a2, a3] h = some (v, h) := by
  have e : (R_ref48_refused (nrms [.l 5, .l 3, .o, .o] [a0, a1, a2, a3]) []).bind (fun (p : AV × Hp) => cvt false p.2 p.1) = some v := (R_ref48_refused_eq (fun v g => cvt false g v) (nrm (.l 5) a0) (nrm (.l 3) a1) a2 a3 []).trans hv
  exact (closedX_bind (shr := [.o]) ha e h).trans (congrArg (fun x => some (x, h)) (nrmR_rep 1 v))
theorem F_ref48_refused_own {a0 : AV} {a1 : AV} {a2 : AV} {a3 : AV} {x0 : AV} {x1 : AV} {x2 : AV} {x3 : AV} {h : Hp} {v : AV} (ha : cvts false h [x0, x1, x2, x3] = some [a0, a1, a2, a3]) (hv : ∀ st, f_ref48_refused Try.prog t_ref48_refused d_ref48_refused NN (fun v g => cvt st g v) (nrm (.l 5) a0) (nrm (.l 3) a1) a2 a3 [] = some v) : F_ref48_refused [x0, x1, x2, x3] h = some (v, h) := by
  have e : ∀ st, (R_ref48_refused (nrms [.l 5, .l 3, .o, .o] [a0, a1, a2, a3]) []).bind (fun (p : AV × Hp) => cvt st p.2 p.1) = some v := fun st => (R_ref48_refused_eq (fun v g => cvt st g v) (nrm (.l 5) a0) (nrm (.l 3) a1) a2 a3 []).trans (hv st)
  exact (closedX_ownB (shr := [.o]) ha e).trans (congrArg (fun x => some (x, h)) (nrmR_rep 1 v))
/-! spile/spileref01.Product -/
noncomputable def t_ref01_Product : Tab := T0
theorem t_ref01_Product_ok : TSound Try.prog t_ref01_Product := TSound.zero
noncomputable def d_ref01_Product : DTab := D0
theorem d_ref01_Product_ok : DSound Try.prog d_ref01_Product := DSound.zero
noncomputable def R_ref01_Product : Fun := runF Try.prog t_ref01_Product d_ref01_Product NN [0, 1, 4, 5, 6, 7, 8, 9] Try.f56 2
theorem R_ref01_Product_ok : CSound Try.prog 56 R_ref01_Product := run_sound t_ref01_Product_ok d_ref01_Product_ok mixed Try.func56 (by kernel_rfl) NN
theorem R_ref01_Product_eq {β : Type} (K : AV → Hp → Option β) (a0 : AV) (a1 : AV) (h : Hp) : (R_ref01_Product [a0, a1] h).bind (fun p => K p.1 p.2) = f_ref01_Product Try.prog t_ref01_Product d_ref01_Product NN K a0 a1 h := by
  rw [← f_ref01_Product_run]; exact runF_bind rfl
noncomputable def F_ref01_Product : Fun := closedX [.o, .o] [.o] R_ref01_Product
theorem F_ref01_Product_ok : CSound Try.prog 56 F_ref01_Product := closedX_sound _ _ R_ref01_Product_ok
noncomputable def G_ref01_Product : DFun := closedXD [.o, .o] [.o] R_ref01_Product
theorem G_ref01_Product_ro : Ro F_ref01_Product G_ref01_Product := closedX_ro _ _ _
theorem F_ref01_Product_run {a0 : AV} {a1 : AV} {v : AV} (ha : plains [a0, a1] = true) (hv : f_ref01_Product Try.prog t_ref01_Product d_ref01_Product NN (fun v g => cvt false g v) a0 a1 [] = some v) (h : Hp) : F_ref01_Product [a0, a1] h = some (v, h) := by
  have e : (R_ref01_Product (nrms [.o, .o] [a0, a1]) []).bind (fun (p : AV × Hp) => cvt false p.2 p.1) = some v := (R_ref01_Product_eq (fun v g => cvt false g v) a0 a1 []).trans hv
  exact (closedX_bind (shr := [.o]) ha e h).trans (congrArg (fun x => some (x, h)) (nrmR_rep 1 v))
theorem F_ref01_Product_own {a0 : AV} {a1 : AV} {x0 : AV} {x1 : AV} {h : Hp} {v : AV} (ha : cvts false h [x0, x1] = some [a0, a1]) (hv : ∀ st, f_ref01_Product Try.prog t_ref01_Product d_ref01_Product NN (fun v g => cvt st g v) a0 a1 [] = some v) : F_ref01_Product [x0, x1] h = some (v, h) := by
  have e : ∀ st, (R_ref01_Product (nrms [.o, .o] [a0, a1]) []).bind (fun (p : AV × Hp) => cvt st p.2 p.1) = some v := fun st => (R_ref01_Product_eq (fun v g => cvt st g v) a0 a1 []).trans (hv st)
  exact (closedX_ownB (shr := [.o]) ha e).trans (congrArg (fun x => some (x, h)) (nrmR_rep 1 v))
/-! spile/spileref01.Less -/
noncomputable def t_ref01_Less : Tab := T0
theorem t_ref01_Less_ok : TSound Try.prog t_ref01_Less := TSound.zero
noncomputable def d_ref01_Less : DTab := D0
theorem d_ref01_Less_ok : DSound Try.prog d_ref01_Less := DSound.zero
noncomputable def R_ref01_Less : Fun := runF Try.prog t_ref01_Less d_ref01_Less NN [0, 1, 2, 3, 4] Try.f57 2
theorem R_ref01_Less_ok : CSound Try.prog 57 R_ref01_Less := run_sound t_ref01_Less_ok d_ref01_Less_ok mixed Try.func57 (by kernel_rfl) NN
theorem R_ref01_Less_eq {β : Type} (K : AV → Hp → Option β) (a0 : AV) (a1 : AV) (h : Hp) : (R_ref01_Less [a0, a1] h).bind (fun p => K p.1 p.2) = f_ref01_Less Try.prog t_ref01_Less d_ref01_Less NN K a0 a1 h := by
  rw [← f_ref01_Less_run]; exact runF_bind rfl
noncomputable def F_ref01_Less : Fun := closedX [.o, .o] [.o] R_ref01_Less
theorem F_ref01_Less_ok : CSound Try.prog 57 F_ref01_Less := closedX_sound _ _ R_ref01_Less_ok
noncomputable def G_ref01_Less : DFun := closedXD [.o, .o] [.o] R_ref01_Less
theorem G_ref01_Less_ro : Ro F_ref01_Less G_ref01_Less := closedX_ro _ _ _
theorem F_ref01_Less_run {a0 : AV} {a1 : AV} {v : AV} (ha : plains [a0, a1] = true) (hv : f_ref01_Less Try.prog t_ref01_Less d_ref01_Less NN (fun v g => cvt false g v) a0 a1 [] = some v) (h : Hp) : F_ref01_Less [a0, a1] h = some (v, h) := by
  have e : (R_ref01_Less (nrms [.o, .o] [a0, a1]) []).bind (fun (p : AV × Hp) => cvt false p.2 p.1) = some v := (R_ref01_Less_eq (fun v g => cvt false g v) a0 a1 []).trans hv
  exact (closedX_bind (shr := [.o]) ha e h).trans (congrArg (fun x => some (x, h)) (nrmR_rep 1 v))
theorem F_ref01_Less_own {a0 : AV} {a1 : AV} {x0 : AV} {x1 : AV} {h : Hp} {v : AV} (ha : cvts false h [x0, x1] = some [a0, a1]) (hv : ∀ st, f_ref01_Less Try.prog t_ref01_Less d_ref01_Less NN (fun v g => cvt st g v) a0 a1 [] = some v) : F_ref01_Less [x0, x1] h = some (v, h) := by
  have e : ∀ st, (R_ref01_Less (nrms [.o, .o] [a0, a1]) []).bind (fun (p : AV × Hp) => cvt st p.2 p.1) = some v := fun st => (R_ref01_Less_eq (fun v g => cvt st g v) a0 a1 []).trans (hv st)
  exact (closedX_ownB (shr := [.o]) ha e).trans (congrArg (fun x => some (x, h)) (nrmR_rep 1 v))
/-! spile/spileref01.minus -/
noncomputable def t_ref01_minus : Tab := T0
theorem t_ref01_minus_ok : TSound Try.prog t_ref01_minus := TSound.zero
noncomputable def d_ref01_minus : DTab := D0
theorem d_ref01_minus_ok : DSound Try.prog d_ref01_minus := DSound.zero
noncomputable def R_ref01_minus : Fun := runF Try.prog t_ref01_minus d_ref01_minus NN [0, 1, 2, 3, 4, 9] Try.f58 2
theorem R_ref01_minus_ok : CSound Try.prog 58 R_ref01_minus := run_sound t_ref01_minus_ok d_ref01_minus_ok mixed Try.func58 (by kernel_rfl) NN
theorem R_ref01_minus_eq {β : Type} (K : AV → Hp → Option β) (a0 : AV) (a1 : AV) (h : Hp) : (R_ref01_minus [a0, a1] h).bind (fun p => K p.1 p.2) = f_ref01_minus Try.prog t_ref01_minus d_ref01_minus NN K a0 a1 h := by
  rw [← f_ref01_minus_run]; exact runF_bind rfl
noncomputable def F_ref01_minus : Fun := closedX [.o, .o] [.o] R_ref01_minus
theorem F_ref01_minus_ok : CSound Try.prog 58 F_ref01_minus := closedX_sound _ _ R_ref01_minus_ok
noncomputable def G_ref01_minus : DFun := closedXD [.o, .o] [.o] R_ref01_minus
theorem G_ref01_minus_ro : Ro F_ref01_minus G_ref01_minus := closedX_ro _ _ _
theorem F_ref01_minus_run {a0 : AV} {a1 : AV} {v : AV} (ha : plains [a0, a1] = true) (hv : f_ref01_minus Try.prog t_ref01_minus d_ref01_minus NN (fun v g => cvt false g v) a0 a1 [] = some v) (h : Hp) : F_ref01_minus [a0, a1] h = some (v, h) := by
  have e : (R_ref01_minus (nrms [.o, .o] [a0, a1]) []).bind (fun (p : AV × Hp) => cvt false p.2 p.1) = some v := (R_ref01_minus_eq (fun v g => cvt false g v) a0 a1 []).trans hv
  exact (closedX_bind (shr := [.o]) ha e h).trans (congrArg (fun x => some (x, h)) (nrmR_rep 1 v))
theorem F_ref01_minus_own {a0 : AV} {a1 : AV} {x0 : AV} {x1 : AV} {h : Hp} {v : AV} (ha : cvts false h [x0, x1] = some [a0, a1]) (hv : ∀ st, f_ref01_minus Try.prog t_ref01_minus d_ref01_minus NN (fun v g => cvt st g v) a0 a1 [] = some v) : F_ref01_minus [x0, x1] h = some (v, h) := by
  have e : ∀ st, (R_ref01_minus (nrms [.o, .o] [a0, a1]) []).bind (fun (p : AV × Hp) => cvt st p.2 p.1) = some v := fun st => (R_ref01_minus_eq (fun v g => cvt st g v) a0 a1 []).trans (hv st)
  exact (closedX_ownB (shr := [.o]) ha e).trans (congrArg (fun x => some (x, h)) (nrmR_rep 1 v))
/-! spile/spileref01.Of -/
noncomputable def t_ref01_Of : Tab := (updF (updF (updF T0 56 F_ref01_Product) 57 F_ref01_Less) 58 F_ref01_minus)
theorem t_ref01_Of_ok : TSound Try.prog t_ref01_Of := (TSound.upd (TSound.upd (TSound.upd TSound.zero F_ref01_Product_ok) F_ref01_Less_ok) F_ref01_minus_ok)
@[simp] theorem t_ref01_Of_56 : t_ref01_Of 56 = some F_ref01_Product := rfl
@[simp] theorem t_ref01_Of_57 : t_ref01_Of 57 = some F_ref01_Less := rfl
@[simp] theorem t_ref01_Of_58 : t_ref01_Of 58 = some F_ref01_minus := rfl
noncomputable def d_ref01_Of : DTab := (updD (updD (updD D0 56 G_ref01_Product) 57 G_ref01_Less) 58 G_ref01_minus)
theorem d_ref01_Of_ok : DSound Try.prog d_ref01_Of := (DSound.ro (DSound.ro (DSound.ro DSound.zero G_ref01_Product_ro F_ref01_Product_ok) G_ref01_Less_ro F_ref01_Less_ok) G_ref01_minus_ro F_ref01_minus_ok)
@[simp] theorem d_ref01_Of_56 : d_ref01_Of 56 = some G_ref01_Product := rfl
@[simp] theorem d_ref01_Of_57 : d_ref01_Of 57 = some G_ref01_Less := rfl
@[simp] theorem d_ref01_Of_58 : d_ref01_Of 58 = some G_ref01_minus := rfl
noncomputable def R_ref01_Of : Fun := runF Try.prog t_ref01_Of d_ref01_Of NN [0, 1, 2, 3, 8, 9, 10, 11, 12, 13, 33, 35, 52] Try.f52 4
theorem R_ref01_Of_ok : CSound Try.prog 52 R_ref01_Of := run_sound t_ref01_Of_ok d_ref01_Of_ok mixed Try.func52 (by kernel_rfl) NN
theorem R_ref01_Of_eq {β : Type} (K : AV → Hp → Option β) (a0 : AV) (a1 : AV) (a2 : AV) (a3 : AV) (h : Hp) : (R_ref01_Of [a0, a1, a2, a3] h).bind (fun p => K p.1 p.2) = f_ref01_Of Try.prog t_ref01_Of d_ref01_Of NN K a0 a1 a2 a3 h := by
  rw [← f_ref01_Of_run]; exact runF_bind rfl
noncomputable def F_ref01_Of : Fun := closedX [.o, .o, .o, .o] [.o, .o, .o] R_ref01_Of
theorem F_ref01_Of_ok : CSound Try.prog 52 F_ref01_Of := closedX_sound _ _ R_ref01_Of_ok
noncomputable def G_ref01_Of : DFun := closedXD [.o, .o, .o, .o] [.o, .o, .o] R_ref01_Of
theorem G_ref01_Of_ro : Ro F_ref01_Of G_ref01_Of := closedX_ro _ _ _
theorem F_ref01_Of_run {a0 : AV} {a1 : AV} {a2 : AV} {a3 : AV} {v : AV} (ha : plains [a0, a1, a2, a3] = true) (hv : f_ref01_Of Try.prog t_ref01_Of d_ref01_Of NN (fun v g => cvt false g v) a0 a1 a2 a3 [] = some v) (h : Hp) : F_ref01_Of [a0, a1, a2, a3] h = some (v, h) := by
  have e : (R_ref01_Of (nrms [.o, .o, .o, .o] [a0, a1, a2, a3]) []).bind (fun (p : AV × Hp) => cvt false p.2 p.1) = some v := (R_ref01_Of_eq (fun v g => cvt false g v) a0 a1 a2 a3 []).trans hv
  exact (closedX_bind (shr := [.o, .o, .o]) ha e h).trans (congrArg (fun x => some (x, h)) (nrmR_rep 3 v))
theorem F_ref01_Of_own {a0 : AV} {a1 : AV} {a2 : AV} {a3 : AV} {x0 : AV} {x1 : AV} {x2 : AV} {x3 : AV} {h : Hp} {v : AV} (ha : cvts false h [x0, x1, x2, x3] = some [a0, a1, a2, a3]) (hv : ∀ st, f_ref01_Of Try.prog t_ref01_Of d_ref01_Of NN (fun v g => cvt st g v) a0 a1 a2 a3 [] = some v) : F_ref01_Of [x0, x1, x2, x3] h = some (v, h) := by
  have e : ∀ st, (R_ref01_Of (nrms [.o, .o, .o, .o] [a0, a1, a2, a3]) []).bind (fun (p : AV × Hp) => cvt st p.2 p.1) = some v := fun st => (R_ref01_Of_eq (fun v g => cvt st g v) a0 a1 a2 a3 []).trans (hv st)
  exact (closedX_ownB (shr := [.o, .o, .o]) ha e).trans (congrArg (fun x => some (x, h)) (nrmR_rep 3 v))
/-! spile/spileref01.Proportion -/
noncomputable def t_ref01_Proportion : Tab := (updF T0 52 F_ref01_Of)
theorem t_ref01_Proportion_ok : TSound Try.prog t_ref01_Proportion := (TSound.upd TSound.zero F_ref01_Of_ok)
@[simp] theorem t_ref01_Proportion_52 : t_ref01_Proportion 52 = some F_ref01_Of := rfl
noncomputable def d_ref01_Proportion : DTab := D0
theorem d_ref01_Proportion_ok : DSound Try.prog d_ref01_Proportion := DSound.zero
noncomputable def R_ref01_Proportion : Fun := runF Try.prog t_ref01_Proportion d_ref01_Proportion NN [0, 1, 2, 6, 7, 8, 9] Try.f40 3
theorem R_ref01_Proportion_ok : CSound Try.prog 40 R_ref01_Proportion := run_sound t_ref01_Proportion_ok d_ref01_Proportion_ok mixed Try.func40 (by kernel_rfl) NN
theorem R_ref01_Proportion_eq {β : Type} (K : AV → Hp → Option β) (a0 : AV) (a1 : AV) (a2 : AV) (h : Hp) : (R_ref01_Proportion [a0, a1, a2] h).bind (fun p => K p.1 p.2) = f_ref01_Proportion Try.prog t_ref01_Proportion d_ref01_Proportion NN K a0 a1 a2 h := by
  rw [← f_ref01_Proportion_run]; exact runF_bind rfl
noncomputable def F_ref01_Proportion : Fun := closedX [.o, .o, .o] [.o, .o] R_ref01_Proportion
theorem F_ref01_Proportion_ok : CSound Try.prog 40 F_ref01_Proportion := closedX_sound _ _ R_ref01_Proportion_ok
noncomputable def G_ref01_Proportion : DFun := closedXD [.o, .o, .o] [.o, .o] R_ref01_Proportion
theorem G_ref01_Proportion_ro : Ro F_ref01_Proportion G_ref01_Proportion := closedX_ro _ _ _
theorem F_ref01_Proportion_run {a0 : AV} {a1 : AV} {a2 : AV} {v : AV} (ha : plains [a0, a1, a2] = true) (hv : f_ref01_Proportion Try.prog t_ref01_Proportion d_ref01_Proportion NN (fun v g => cvt false g v) a0 a1 a2 [] = some v) (h : Hp) : F_ref01_Proportion [a0, a1, a2] h = some (v, h) := by
  have e : (R_ref01_Proportion (nrms [.o, .o, .o] [a0, a1, a2]) []).bind (fun (p : AV × Hp) => cvt false p.2 p.1) = some v := (R_ref01_Proportion_eq (fun v g => cvt false g v) a0 a1 a2 []).trans hv
  exact (closedX_bind (shr := [.o, .o]) ha e h).trans (congrArg (fun x => some (x, h)) (nrmR_rep 2 v))
theorem F_ref01_Proportion_own {a0 : AV} {a1 : AV} {a2 : AV} {x0 : AV} {x1 : AV} {x2 : AV} {h : Hp} {v : AV} (ha : cvts false h [x0, x1, x2] = some [a0, a1, a2]) (hv : ∀ st, f_ref01_Proportion Try.prog t_ref01_Proportion d_ref01_Proportion NN (fun v g => cvt st g v) a0 a1 a2 [] = some v) : F_ref01_Proportion [x0, x1, x2] h = some (v, h) := by
  have e : ∀ st, (R_ref01_Proportion (nrms [.o, .o, .o] [a0, a1, a2]) []).bind (fun (p : AV × Hp) => cvt st p.2 p.1) = some v := fun st => (R_ref01_Proportion_eq (fun v g => cvt st g v) a0 a1 a2 []).trans (hv st)
  exact (closedX_ownB (shr := [.o, .o]) ha e).trans (congrArg (fun x => some (x, h)) (nrmR_rep 2 v))
/-! spile/spileref48.share -/
noncomputable def t_ref48_share : Tab := (updF T0 40 F_ref01_Proportion)
theorem t_ref48_share_ok : TSound Try.prog t_ref48_share := (TSound.upd TSound.zero F_ref01_Proportion_ok)
@[simp] theorem t_ref48_share_40 : t_ref48_share 40 = some F_ref01_Proportion := rfl
noncomputable def d_ref48_share : DTab := D0
theorem d_ref48_share_ok : DSound Try.prog d_ref48_share := DSound.zero
noncomputable def R_ref48_share : Fun := runF Try.prog t_ref48_share d_ref48_share NN [0, 1, 2, 4, 5] Try.f33 2
theorem R_ref48_share_ok : CSound Try.prog 33 R_ref48_share := run_sound t_ref48_share_ok d_ref48_share_ok mixed Try.func33 (by kernel_rfl) NN
theorem R_ref48_share_eq {β : Type} (K : AV → Hp → Option β) (a0 : AV) (a1 : AV) (h : Hp) : (R_ref48_share [a0, a1] h).bind (fun p => K p.1 p.2) = f_ref48_share Try.prog t_ref48_share d_ref48_share NN K a0 a1 h := by
  rw [← f_ref48_share_run]; exact runF_bind rfl
noncomputable def F_ref48_share : Fun := closedX [.o, .o] [.o] R_ref48_share
theorem F_ref48_share_ok : CSound Try.prog 33 F_ref48_share := closedX_sound _ _ R_ref48_share_ok
noncomputable def G_ref48_share : DFun := closedXD [.o, .o] [.o] R_ref48_share
theorem G_ref48_share_ro : Ro F_ref48_share G_ref48_share := closedX_ro _ _ _
theorem F_ref48_share_run {a0 : AV} {a1 : AV} {v : AV} (ha : plains [a0, a1] = true) (hv : f_ref48_share Try.prog t_ref48_share d_ref48_share NN (fun v g => cvt false g v) a0 a1 [] = some v) (h : Hp) : F_ref48_share [a0, a1] h = some (v, h) := by
  have e : (R_ref48_share (nrms [.o, .o] [a0, a1]) []).bind (fun (p : AV × Hp) => cvt false p.2 p.1) = some v := (R_ref48_share_eq (fun v g => cvt false g v) a0 a1 []).trans hv
  exact (closedX_bind (shr := [.o]) ha e h).trans (congrArg (fun x => some (x, h)) (nrmR_rep 1 v))
theorem F_ref48_share_own {a0 : AV} {a1 : AV} {x0 : AV} {x1 : AV} {h : Hp} {v : AV} (ha : cvts false h [x0, x1] = some [a0, a1]) (hv : ∀ st, f_ref48_share Try.prog t_ref48_share d_ref48_share NN (fun v g => cvt st g v) a0 a1 [] = some v) : F_ref48_share [x0, x1] h = some (v, h) := by
  have e : ∀ st, (R_ref48_share (nrms [.o, .o] [a0, a1]) []).bind (fun (p : AV × Hp) => cvt st p.2 p.1) = some v := fun st => (R_ref48_share_eq (fun v g => cvt st g v) a0 a1 []).trans (hv st)
  exact (closedX_ownB (shr := [.o]) ha e).trans (congrArg (fun x => some (x, h)) (nrmR_rep 1 v))
/-! spile/spileref48.Refund -/
noncomputable def t_ref48_Refund : Tab := (updF (updF (updF (updF (updF (updF T0 14 F_ref48_Check) 28 F_ref48_between) 30 F_ref48_refused) 31 F_ref48_find) 32 F_ref48_claimed) 33 F_ref48_share)
theorem t_ref48_Refund_ok : TSound Try.prog t_ref48_Refund := (TSound.upd (TSound.upd (TSound.upd (TSound.upd (TSound.upd (TSound.upd TSound.zero F_ref48_Check_ok) F_ref48_between_ok) F_ref48_refused_ok) F_ref48_find_ok) F_ref48_claimed_ok) F_ref48_share_ok)
@[simp] theorem t_ref48_Refund_14 : t_ref48_Refund 14 = some F_ref48_Check := rfl
@[simp] theorem t_ref48_Refund_28 : t_ref48_Refund 28 = some F_ref48_between := rfl
@[simp] theorem t_ref48_Refund_30 : t_ref48_Refund 30 = some F_ref48_refused := rfl
@[simp] theorem t_ref48_Refund_31 : t_ref48_Refund 31 = some F_ref48_find := rfl
@[simp] theorem t_ref48_Refund_32 : t_ref48_Refund 32 = some F_ref48_claimed := rfl
@[simp] theorem t_ref48_Refund_33 : t_ref48_Refund 33 = some F_ref48_share := rfl
noncomputable def d_ref48_Refund : DTab := (updD D0 33 G_ref48_share)
theorem d_ref48_Refund_ok : DSound Try.prog d_ref48_Refund := (DSound.ro DSound.zero G_ref48_share_ro F_ref48_share_ok)
@[simp] theorem d_ref48_Refund_33 : d_ref48_Refund 33 = some G_ref48_share := rfl
noncomputable def R_ref48_Refund : Fun := runF Try.prog t_ref48_Refund d_ref48_Refund NN [0, 1, 2, 6, 7, 8, 10, 11, 12, 13, 14, 15, 16, 23, 26, 29, 33, 48] Try.f17 3
theorem R_ref48_Refund_ok : CSound Try.prog 17 R_ref48_Refund := run_sound t_ref48_Refund_ok d_ref48_Refund_ok mixed Try.func17 (by kernel_rfl) NN
theorem R_ref48_Refund_eq {β : Type} (K : AV → Hp → Option β) (a0 : AV) (a1 : AV) (a2 : AV) (h : Hp) : (R_ref48_Refund [a0, a1, a2] h).bind (fun p => K p.1 p.2) = f_ref48_Refund Try.prog t_ref48_Refund d_ref48_Refund NN K a0 a1 a2 h := by
  rw [← f_ref48_Refund_run]; exact runF_bind rfl
noncomputable def F_ref48_Refund : Fun := closedX [.l 5, .l 3, .o] [.l 1, .o, .o] R_ref48_Refund
theorem F_ref48_Refund_ok : CSound Try.prog 17 F_ref48_Refund := closedX_sound _ _ R_ref48_Refund_ok
noncomputable def G_ref48_Refund : DFun := closedXD [.l 5, .l 3, .o] [.l 1, .o, .o] R_ref48_Refund
theorem G_ref48_Refund_ro : Ro F_ref48_Refund G_ref48_Refund := closedX_ro _ _ _
theorem F_ref48_Refund_run {a0 : AV} {a1 : AV} {a2 : AV} {v : AV} (ha : plains [a0, a1, a2] = true) (hv : f_ref48_Refund Try.prog t_ref48_Refund d_ref48_Refund NN (fun v g => cvt false g v) (nrm (.l 5) a0) (nrm (.l 3) a1) a2 [] = some v) (h : Hp) : F_ref48_Refund [a0, a1, a2] h = some ((nrmR [.l 1, .o, .o] v), h) := by
  have e : (R_ref48_Refund (nrms [.l 5, .l 3, .o] [a0, a1, a2]) []).bind (fun (p : AV × Hp) => cvt false p.2 p.1) = some v := (R_ref48_Refund_eq (fun v g => cvt false g v) (nrm (.l 5) a0) (nrm (.l 3) a1) a2 []).trans hv
  exact (closedX_bind (shr := [.l 1, .o, .o]) ha e h).trans (congrArg (fun x => some (x, h)) rfl)
theorem F_ref48_Refund_own {a0 : AV} {a1 : AV} {a2 : AV} {x0 : AV} {x1 : AV} {x2 : AV} {h : Hp} {v : AV} (ha : cvts false h [x0, x1, x2] = some [a0, a1, a2]) (hv : ∀ st, f_ref48_Refund Try.prog t_ref48_Refund d_ref48_Refund NN (fun v g => cvt st g v) (nrm (.l 5) a0) (nrm (.l 3) a1) a2 [] = some v) : F_ref48_Refund [x0, x1, x2] h = some ((nrmR [.l 1, .o, .o] v), h) := by
  have e : ∀ st, (R_ref48_Refund (nrms [.l 5, .l 3, .o] [a0, a1, a2]) []).bind (fun (p : AV × Hp) => cvt st p.2 p.1) = some v := fun st => (R_ref48_Refund_eq (fun v g => cvt st g v) (nrm (.l 5) a0) (nrm (.l 3) a1) a2 []).trans (hv st)
  exact (closedX_ownB (shr := [.l 1, .o, .o]) ha e).trans (congrArg (fun x => some (x, h)) rfl)
/-! spile/spilelaw48.DrawbackRefunds -/
noncomputable def t_law48_DrawbackRefunds : Tab := (updF (updF (updF (updF (updF (updF (updF (updF (updF T0 10 F_law48_awake) 11 F_ref48_Few) 12 F_drawback_Check) 13 F_slices_Clone_Paid) 14 F_ref48_Check) 15 F_drawback_Refund) 16 F_slices_Clone_Claim) 17 F_ref48_Refund) 18 F_slices_Equal_int)
theorem t_law48_DrawbackRefunds_ok : TSound Try.prog t_law48_DrawbackRefunds := (TSound.upd (TSound.upd (TSound.upd (TSound.upd (TSound.upd (TSound.upd (TSound.upd (TSound.upd (TSound.upd TSound.zero F_law48_awake_ok) F_ref48_Few_ok) F_drawback_Check_ok) F_slices_Clone_Paid_ok) F_ref48_Check_ok) F_drawback_Refund_ok) F_slices_Clone_Claim_ok) F_ref48_Refund_ok) F_slices_Equal_int_ok)
@[simp] theorem t_law48_DrawbackRefunds_10 : t_law48_DrawbackRefunds 10 = some F_law48_awake := rfl
@[simp] theorem t_law48_DrawbackRefunds_11 : t_law48_DrawbackRefunds 11 = some F_ref48_Few := rfl
@[simp] theorem t_law48_DrawbackRefunds_12 : t_law48_DrawbackRefunds 12 = some F_drawback_Check := rfl
@[simp] theorem t_law48_DrawbackRefunds_13 : t_law48_DrawbackRefunds 13 = some F_slices_Clone_Paid := rfl
@[simp] theorem t_law48_DrawbackRefunds_14 : t_law48_DrawbackRefunds 14 = some F_ref48_Check := rfl
@[simp] theorem t_law48_DrawbackRefunds_15 : t_law48_DrawbackRefunds 15 = some F_drawback_Refund := rfl
@[simp] theorem t_law48_DrawbackRefunds_16 : t_law48_DrawbackRefunds 16 = some F_slices_Clone_Claim := rfl
@[simp] theorem t_law48_DrawbackRefunds_17 : t_law48_DrawbackRefunds 17 = some F_ref48_Refund := rfl
@[simp] theorem t_law48_DrawbackRefunds_18 : t_law48_DrawbackRefunds 18 = some F_slices_Equal_int := rfl
noncomputable def d_law48_DrawbackRefunds : DTab := D0
theorem d_law48_DrawbackRefunds_ok : DSound Try.prog d_law48_DrawbackRefunds := DSound.zero
noncomputable def R_law48_DrawbackRefunds : Fun := runF Try.prog t_law48_DrawbackRefunds d_law48_DrawbackRefunds NN [0, 1, 2, 6, 7, 8, 9, 10, 11, 12, 13, 14, 15, 16, 24] Try.f3 3
theorem R_law48_DrawbackRefunds_ok : CSound Try.prog 3 R_law48_DrawbackRefunds := run_sound t_law48_DrawbackRefunds_ok d_law48_DrawbackRefunds_ok mixed Try.func3 (by kernel_rfl) NN
theorem R_law48_DrawbackRefunds_eq {β : Type} (K : AV → Hp → Option β) (a0 : AV) (a1 : AV) (a2 : AV) (h : Hp) : (R_law48_DrawbackRefunds [a0, a1, a2] h).bind (fun p => K p.1 p.2) = f_law48_DrawbackRefunds Try.prog t_law48_DrawbackRefunds d_law48_DrawbackRefunds NN K a0 a1 a2 h := by
  rw [← f_law48_DrawbackRefunds_run]; exact runF_bind rfl
noncomputable def F_law48_DrawbackRefunds : Fun := closedX [.l 5, .l 3, .o] [.o] R_law48_DrawbackRefunds
theorem F_law48_DrawbackRefunds_ok : CSound Try.prog 3 F_law48_DrawbackRefunds := closedX_sound _ _ R_law48_DrawbackRefunds_ok
noncomputable def G_law48_DrawbackRefunds : DFun := closedXD [.l 5, .l 3, .o] [.o] R_law48_DrawbackRefunds
theorem G_law48_DrawbackRefunds_ro : Ro F_law48_DrawbackRefunds G_law48_DrawbackRefunds := closedX_ro _ _ _
theorem F_law48_DrawbackRefunds_run {a0 : AV} {a1 : AV} {a2 : AV} {v : AV} (ha : plains [a0, a1, a2] = true) (hv : f_law48_DrawbackRefunds Try.prog t_law48_DrawbackRefunds d_law48_DrawbackRefunds NN (fun v g => cvt false g v) (nrm (.l 5) a0) (nrm (.l 3) a1) a2 [] = some v) (h : Hp) : F_law48_DrawbackRefunds [a0, a1, a2] h = some (v, h) := by
  have e : (R_law48_DrawbackRefunds (nrms [.l 5, .l 3, .o] [a0, a1, a2]) []).bind (fun (p : AV × Hp) => cvt false p.2 p.1) = some v := (R_law48_DrawbackRefunds_eq (fun v g => cvt false g v) (nrm (.l 5) a0) (nrm (.l 3) a1) a2 []).trans hv
  exact (closedX_bind (shr := [.o]) ha e h).trans (congrArg (fun x => some (x, h)) (nrmR_rep 1 v))
theorem F_law48_DrawbackRefunds_own {a0 : AV} {a1 : AV} {a2 : AV} {x0 : AV} {x1 : AV} {x2 : AV} {h : Hp} {v : AV} (ha : cvts false h [x0, x1, x2] = some [a0, a1, a2]) (hv : ∀ st, f_law48_DrawbackRefunds Try.prog t_law48_DrawbackRefunds d_law48_DrawbackRefunds NN (fun v g => cvt st g v) (nrm (.l 5) a0) (nrm (.l 3) a1) a2 [] = some v) : F_law48_DrawbackRefunds [x0, x1, x2] h = some (v, h) := by
  have e : ∀ st, (R_law48_DrawbackRefunds (nrms [.l 5, .l 3, .o] [a0, a1, a2]) []).bind (fun (p : AV × Hp) => cvt st p.2 p.1) = some v := fun st => (R_law48_DrawbackRefunds_eq (fun v g => cvt st g v) (nrm (.l 5) a0) (nrm (.l 3) a1) a2 []).trans (hv st)
  exact (closedX_ownB (shr := [.o]) ha e).trans (congrArg (fun x => some (x, h)) (nrmR_rep 1 v))
/-! spile/spileref48.Left -/
noncomputable def t_ref48_Left : Tab := (updF (updF (updF (updF T0 17 F_ref48_Refund) 31 F_ref48_find) 32 F_ref48_claimed) 33 F_ref48_share)
theorem t_ref48_Left_ok : TSound Try.prog t_ref48_Left := (TSound.upd (TSound.upd (TSound.upd (TSound.upd TSound.zero F_ref48_Refund_ok) F_ref48_find_ok) F_ref48_claimed_ok) F_ref48_share_ok)
@[simp] theorem t_ref48_Left_17 : t_ref48_Left 17 = some F_ref48_Refund := rfl
@[simp] theorem t_ref48_Left_31 : t_ref48_Left 31 = some F_ref48_find := rfl
@[simp] theorem t_ref48_Left_32 : t_ref48_Left 32 = some F_ref48_claimed := rfl
@[simp] theorem t_ref48_Left_33 : t_ref48_Left 33 = some F_ref48_share := rfl
noncomputable def d_ref48_Left : DTab := (updD D0 33 G_ref48_share)
theorem d_ref48_Left_ok : DSound Try.prog d_ref48_Left := (DSound.ro DSound.zero G_ref48_share_ro F_ref48_share_ok)
@[simp] theorem d_ref48_Left_33 : d_ref48_Left 33 = some G_ref48_share := rfl
noncomputable def R_ref48_Left : Fun := runF Try.prog t_ref48_Left d_ref48_Left NN [0, 1, 2, 3, 8, 9, 10, 13, 14, 15, 25, 31] Try.f20 4
theorem R_ref48_Left_ok : CSound Try.prog 20 R_ref48_Left := run_sound t_ref48_Left_ok d_ref48_Left_ok mixed Try.func20 (by kernel_rfl) NN
theorem R_ref48_Left_eq {β : Type} (K : AV → Hp → Option β) (a0 : AV) (a1 : AV) (a2 : AV) (a3 : AV) (h : Hp) : (R_ref48_Left [a0, a1, a2, a3] h).bind (fun p => K p.1 p.2) = f_ref48_Left Try.prog t_ref48_Left d_ref48_Left NN K a0 a1 a2 a3 h := by
  rw [← f_ref48_Left_run]; exact runF_bind rfl
noncomputable def F_ref48_Left : Fun := closedX [.l 5, .l 3, .o, .o] [.o, .o, .o] R_ref48_Left
theorem F_ref48_Left_ok : CSound Try.prog 20 F_ref48_Left := closedX_sound _ _ R_ref48_Left_ok
noncomputable def G_ref48_Left : DFun := closedXD [.l 5, .l 3, .o, .o] [.o, .o, .o] R_ref48_Left
theorem G_ref48_Left_ro : Ro F_ref48_Left G_ref48_Left := closedX_ro _ _ _
theorem F_ref48_Left_run {a0 : AV} {a1 : AV} {a2 : AV} {a3 : AV} {v : AV} (ha : plains [a0, a1, a2, a3] = true) (hv : f_ref48_Left Try.prog t_ref48_Left d_ref48_Left NN (fun v g => cvt false g v) (nrm (.l 5) a0) (nrm (.l 3) a1) a2 a3 [] = some v) (h : Hp) : F_ref48_Left [a0, a1, a2, a3] h = some (v, h) := by
  have e : (R_ref48_Left (nrms [.l 5, .l 3, .o, .o] [a0, a1, a2, a3]) []).bind (fun (p : AV × Hp) => cvt false p.2 p.1) = some v := (R_ref48_Left_eq (fun v g => cvt false g v) (nrm (.l 5) a0) (nrm (.l 3) a1) a2 a3 []).trans hv
  exact (closedX_bind (shr := [.o, .o, .o]) ha e h).trans (congrArg (fun x => some (x, h)) (nrmR_rep 3 v))
theorem F_ref48_Left_own {a0 : AV} {a1 : AV} {a2 : AV} {a3 : AV} {x0 : AV} {x1 : AV} {x2 : AV} {x3 : AV} {h : Hp} {v : AV} (ha : cvts false h [x0, x1, x2, x3] = some [a0, a1, a2, a3]) (hv : ∀ st, f_ref48_Left Try.prog t_ref48_Left d_ref48_Left NN (fun v g => cvt st g v) (nrm (.l 5) a0) (nrm (.l 3) a1) a2 a3 [] = some v) : F_ref48_Left [x0, x1, x2, x3] h = some (v, h) := by
  have e : ∀ st, (R_ref48_Left (nrms [.l 5, .l 3, .o, .o] [a0, a1, a2, a3]) []).bind (fun (p : AV × Hp) => cvt st p.2 p.1) = some v := fun st => (R_ref48_Left_eq (fun v g => cvt st g v) (nrm (.l 5) a0) (nrm (.l 3) a1) a2 a3 []).trans (hv st)
  exact (closedX_ownB (shr := [.o, .o, .o]) ha e).trans (congrArg (fun x => some (x, h)) (nrmR_rep 3 v))
/-! spile/spileref48.Total -/
noncomputable def t_ref48_Total : Tab := (updF T0 17 F_ref48_Refund)
theorem t_ref48_Total_ok : TSound Try.prog t_ref48_Total := (TSound.upd TSound.zero F_ref48_Refund_ok)
@[simp] theorem t_ref48_Total_17 : t_ref48_Total 17 = some F_ref48_Refund := rfl
noncomputable def d_ref48_Total : DTab := D0
theorem d_ref48_Total_ok : DSound Try.prog d_ref48_Total := DSound.zero
noncomputable def R_ref48_Total : Fun := runF Try.prog t_ref48_Total d_ref48_Total NN [0, 1, 2, 6, 7, 8, 10, 11, 12, 22, 27] Try.f22 3
theorem R_ref48_Total_ok : CSound Try.prog 22 R_ref48_Total := run_sound t_ref48_Total_ok d_ref48_Total_ok mixed Try.func22 (by kernel_rfl) NN
theorem R_ref48_Total_eq {β : Type} (K : AV → Hp → Option β) (a0 : AV) (a1 : AV) (a2 : AV) (h : Hp) : (R_ref48_Total [a0, a1, a2] h).bind (fun p => K p.1 p.2) = f_ref48_Total Try.prog t_ref48_Total d_ref48_Total NN K a0 a1 a2 h := by
  rw [← f_ref48_Total_run]; exact runF_bind rfl
noncomputable def F_ref48_Total : Fun := closedX [.l 5, .l 3, .o] [.o, .o] R_ref48_Total
theorem F_ref48_Total_ok : CSound Try.prog 22 F_ref48_Total := closedX_sound _ _ R_ref48_Total_ok
noncomputable def G_ref48_Total : DFun := closedXD [.l 5, .l 3, .o] [.o, .o] R_ref48_Total
theorem G_ref48_Total_ro : Ro F_ref48_Total G_ref48_Total := closedX_ro _ _ _
theorem F_ref48_Total_run {a0 : AV} {a1 : AV} {a2 : AV} {v : AV} (ha : plains [a0, a1, a2] = true) (hv : f_ref48_Total Try.prog t_ref48_Total d_ref48_Total NN (fun v g => cvt false g v) (nrm (.l 5) a0) (nrm (.l 3) a1) a2 [] = some v) (h : Hp) : F_ref48_Total [a0, a1, a2] h = some (v, h) := by
  have e : (R_ref48_Total (nrms [.l 5, .l 3, .o] [a0, a1, a2]) []).bind (fun (p : AV × Hp) => cvt false p.2 p.1) = some v := (R_ref48_Total_eq (fun v g => cvt false g v) (nrm (.l 5) a0) (nrm (.l 3) a1) a2 []).trans hv
  exact (closedX_bind (shr := [.o, .o]) ha e h).trans (congrArg (fun x => some (x, h)) (nrmR_rep 2 v))
theorem F_ref48_Total_own {a0 : AV} {a1 : AV} {a2 : AV} {x0 : AV} {x1 : AV} {x2 : AV} {h : Hp} {v : AV} (ha : cvts false h [x0, x1, x2] = some [a0, a1, a2]) (hv : ∀ st, f_ref48_Total Try.prog t_ref48_Total d_ref48_Total NN (fun v g => cvt st g v) (nrm (.l 5) a0) (nrm (.l 3) a1) a2 [] = some v) : F_ref48_Total [x0, x1, x2] h = some (v, h) := by
  have e : ∀ st, (R_ref48_Total (nrms [.l 5, .l 3, .o] [a0, a1, a2]) []).bind (fun (p : AV × Hp) => cvt st p.2 p.1) = some v := fun st => (R_ref48_Total_eq (fun v g => cvt st g v) (nrm (.l 5) a0) (nrm (.l 3) a1) a2 []).trans (hv st)
  exact (closedX_ownB (shr := [.o, .o]) ha e).trans (congrArg (fun x => some (x, h)) (nrmR_rep 2 v))
/-! spile/spilelaw48.DrawbackLeaves -/
noncomputable def t_law48_DrawbackLeaves : Tab := (updF (updF (updF (updF (updF (updF (updF (updF T0 10 F_law48_awake) 11 F_ref48_Few) 13 F_slices_Clone_Paid) 16 F_slices_Clone_Claim) 19 F_drawback_Left) 20 F_ref48_Left) 21 F_drawback_Total) 22 F_ref48_Total)
theorem t_law48_DrawbackLeaves_ok : TSound Try.prog t_law48_DrawbackLeaves := (TSound.upd (TSound.upd (TSound.upd (TSound.upd (TSound.upd (TSound.upd (TSound.upd (TSound.upd TSound.zero F_law48_awake_ok) F_ref48_Few_ok) F_slices_Clone_Paid_ok) F_slices_Clone_Claim_ok) F_drawback_Left_ok) F_ref48_Left_ok) F_drawback_Total_ok) F_ref48_Total_ok)
@[simp] theorem t_law48_DrawbackLeaves_10 : t_law48_DrawbackLeaves 10 = some F_law48_awake := rfl
@[simp] theorem t_law48_DrawbackLeaves_11 : t_law48_DrawbackLeaves 11 = some F_ref48_Few := rfl
@[simp] theorem t_law48_DrawbackLeaves_13 : t_law48_DrawbackLeaves 13 = some F_slices_Clone_Paid := rfl
@[simp] theorem t_law48_DrawbackLeaves_16 : t_law48_DrawbackLeaves 16 = some F_slices_Clone_Claim := rfl
@[simp] theorem t_law48_DrawbackLeaves_19 : t_law48_DrawbackLeaves 19 = some F_drawback_Left := rfl
@[simp] theorem t_law48_DrawbackLeaves_20 : t_law48_DrawbackLeaves 20 = some F_ref48_Left := rfl
@[simp] theorem t_law48_DrawbackLeaves_21 : t_law48_DrawbackLeaves 21 = some F_drawback_Total := rfl
@[simp] theorem t_law48_DrawbackLeaves_22 : t_law48_DrawbackLeaves 22 = some F_ref48_Total := rfl
noncomputable def d_law48_DrawbackLeaves : DTab := D0
theorem d_law48_DrawbackLeaves_ok : DSound Try.prog d_law48_DrawbackLeaves := DSound.zero
noncomputable def R_law48_DrawbackLeaves : Fun := runF Try.prog t_law48_DrawbackLeaves d_law48_DrawbackLeaves NN [0, 1, 2, 3, 8, 9, 10, 11, 12, 13, 14, 15, 16, 17, 18, 26] Try.f4 4
theorem R_law48_DrawbackLeaves_ok : CSound Try.prog 4 R_law48_DrawbackLeaves := run_sound t_law48_DrawbackLeaves_ok d_law48_DrawbackLeaves_ok mixed Try.func4 (by kernel_rfl) NN
theorem R_law48_DrawbackLeaves_eq {β : Type} (K : AV → Hp → Option β) (a0 : AV) (a1 : AV) (a2 : AV) (a3 : AV) (h : Hp) : (R_law48_DrawbackLeaves [a0, a1, a2, a3] h).bind (fun p => K p.1 p.2) = f_law48_DrawbackLeaves Try.prog t_law48_DrawbackLeaves d_law48_DrawbackLeaves NN K a0 a1 a2 a3 h := by
  rw [← f_law48_DrawbackLeaves_run]; exact runF_bind rfl
noncomputable def F_law48_DrawbackLeaves : Fun := closedX [.l 5, .l 3, .o, .o] [.o] R_law48_DrawbackLeaves
theorem F_law48_DrawbackLeaves_ok : CSound Try.prog 4 F_law48_DrawbackLeaves := closedX_sound _ _ R_law48_DrawbackLeaves_ok
noncomputable def G_law48_DrawbackLeaves : DFun := closedXD [.l 5, .l 3, .o, .o] [.o] R_law48_DrawbackLeaves
theorem G_law48_DrawbackLeaves_ro : Ro F_law48_DrawbackLeaves G_law48_DrawbackLeaves := closedX_ro _ _ _
theorem F_law48_DrawbackLeaves_run {a0 : AV} {a1 : AV} {a2 : AV} {a3 : AV} {v : AV} (ha : plains [a0, a1, a2, a3] = true) (hv : f_law48_DrawbackLeaves Try.prog t_law48_DrawbackLeaves d_law48_DrawbackLeaves NN (fun v g => cvt false g v) (nrm (.l 5) a0) (nrm (.l 3) a1) a2 a3 [] = some v) (h : Hp) : F_law48_DrawbackLeaves [a0, a1, a2, a3] h = some (v, h) := by
  have e : (R_law48_DrawbackLeaves (nrms [.l 5, .l 3, .o, .o] [a0, a1, a2, a3]) []).bind (fun (p : AV × Hp) => cvt false p.2 p.1) = some v := (R_law48_DrawbackLeaves_eq (fun v g => cvt false g v) (nrm (.l 5) a0) (nrm (.l 3) a1) a2 a3 []).trans hv
  exact (closedX_bind (shr := [.o]) ha e h).trans (congrArg (fun x => some (x, h)) (nrmR_rep 1 v))
theorem F_law48_DrawbackLeaves_own {a0 : AV} {a1 : AV} {a2 : AV} {a3 : AV} {x0 : AV} {x1 : AV} {x2 : AV} {x3 : AV} {h : Hp} {v : AV} (ha : cvts false h [x0, x1, x2, x3] = some [a0, a1, a2, a3]) (hv : ∀ st, f_law48_DrawbackLeaves Try.prog t_law48_DrawbackLeaves d_law48_DrawbackLeaves NN (fun v g => cvt st g v) (nrm (.l 5) a0) (nrm (.l 3) a1) a2 a3 [] = some v) : F_law48_DrawbackLeaves [x0, x1, x2, x3] h = some (v, h) := by
  have e : ∀ st, (R_law48_DrawbackLeaves (nrms [.l 5, .l 3, .o, .o] [a0, a1, a2, a3]) []).bind (fun (p : AV × Hp) => cvt st p.2 p.1) = some v := fun st => (R_law48_DrawbackLeaves_eq (fun v g => cvt st g v) (nrm (.l 5) a0) (nrm (.l 3) a1) a2 a3 []).trans (hv st)
  exact (closedX_ownB (shr := [.o]) ha e).trans (congrArg (fun x => some (x, h)) (nrmR_rep 1 v))
/-! spile/spileref48.Overdue -/
noncomputable def t_ref48_Overdue : Tab := (updF (updF (updF T0 17 F_ref48_Refund) 28 F_ref48_between) 32 F_ref48_claimed)
theorem t_ref48_Overdue_ok : TSound Try.prog t_ref48_Overdue := (TSound.upd (TSound.upd (TSound.upd TSound.zero F_ref48_Refund_ok) F_ref48_between_ok) F_ref48_claimed_ok)
@[simp] theorem t_ref48_Overdue_17 : t_ref48_Overdue 17 = some F_ref48_Refund := rfl
@[simp] theorem t_ref48_Overdue_28 : t_ref48_Overdue 28 = some F_ref48_between := rfl
@[simp] theorem t_ref48_Overdue_32 : t_ref48_Overdue 32 = some F_ref48_claimed := rfl
noncomputable def d_ref48_Overdue : DTab := (updD D0 32 G_ref48_claimed)
theorem d_ref48_Overdue_ok : DSound Try.prog d_ref48_Overdue := (DSound.ro DSound.zero G_ref48_claimed_ro F_ref48_claimed_ok)
@[simp] theorem d_ref48_Overdue_32 : d_ref48_Overdue 32 = some G_ref48_claimed := rfl
noncomputable def R_ref48_Overdue : Fun := runF Try.prog t_ref48_Overdue d_ref48_Overdue NN [0, 1, 2, 3, 8, 9, 12, 13, 14, 24, 28, 32, 58] Try.f24 4
theorem R_ref48_Overdue_ok : CSound Try.prog 24 R_ref48_Overdue := run_sound t_ref48_Overdue_ok d_ref48_Overdue_ok mixed Try.func24 (by kernel_rfl) NN
theorem R_ref48_Overdue_eq {β : Type} (K : AV → Hp → Option β) (a0 : AV) (a1 : AV) (a2 : AV) (a3 : AV) (h : Hp) : (R_ref48_Overdue [a0, a1, a2, a3] h).bind (fun p => K p.1 p.2) = f_ref48_Overdue Try.prog t_ref48_Overdue d_ref48_Overdue NN K a0 a1 a2 a3 h := by
  rw [← f_ref48_Overdue_run]; exact runF_bind rfl
noncomputable def F_ref48_Overdue : Fun := closedX [.l 5, .l 3, .o, .o] [.l 1, .o] R_ref48_Overdue
theorem F_ref48_Overdue_ok : CSound Try.prog 24 F_ref48_Overdue := closedX_sound _ _ R_ref48_Overdue_ok
noncomputable def G_ref48_Overdue : DFun := closedXD [.l 5, .l 3, .o, .o] [.l 1, .o] R_ref48_Overdue
theorem G_ref48_Overdue_ro : Ro F_ref48_Overdue G_ref48_Overdue := closedX_ro _ _ _
theorem F_ref48_Overdue_run {a0 : AV} {a1 : AV} {a2 : AV} {a3 : AV} {v : AV} (ha : plains [a0, a1, a2, a3] = true) (hv : f_ref48_Overdue Try.prog t_ref48_Overdue d_ref48_Overdue NN (fun v g => cvt false g v) (nrm (.l 5) a0) (nrm (.l 3) a1) a2 a3 [] = some v) (h : Hp) : F_ref48_Overdue [a0, a1, a2, a3] h = some ((nrmR [.l 1, .o] v), h) := by
  have e : (R_ref48_Overdue (nrms [.l 5, .l 3, .o, .o] [a0, a1, a2, a3]) []).bind (fun (p : AV × Hp) => cvt false p.2 p.1) = some v := (R_ref48_Overdue_eq (fun v g => cvt false g v) (nrm (.l 5) a0) (nrm (.l 3) a1) a2 a3 []).trans hv
  exact (closedX_bind (shr := [.l 1, .o]) ha e h).trans (congrArg (fun x => some (x, h)) rfl)
theorem F_ref48_Overdue_own {a0 : AV} {a1 : AV} {a2 : AV} {a3 : AV} {x0 : AV} {x1 : AV} {x2 : AV} {x3 : AV} {h : Hp} {v : AV} (ha : cvts false h [x0, x1, x2, x3] = some [a0, a1, a2, a3]) (hv : ∀ st, f_ref48_Overdue Try.prog t_ref48_Overdue d_ref48_Overdue NN (fun v g => cvt st g v) (nrm (.l 5) a0) (nrm (.l 3) a1) a2 a3 [] = some v) : F_ref48_Overdue [x0, x1, x2, x3] h = some ((nrmR [.l 1, .o] v), h) := by
  have e : ∀ st, (R_ref48_Overdue (nrms [.l 5, .l 3, .o, .o] [a0, a1, a2, a3]) []).bind (fun (p : AV × Hp) => cvt st p.2 p.1) = some v := fun st => (R_ref48_Overdue_eq (fun v g => cvt st g v) (nrm (.l 5) a0) (nrm (.l 3) a1) a2 a3 []).trans (hv st)
  exact (closedX_ownB (shr := [.l 1, .o]) ha e).trans (congrArg (fun x => some (x, h)) rfl)
/-! spile/spilelaw48.DrawbackLate -/
noncomputable def t_law48_DrawbackLate : Tab := (updF (updF (updF (updF (updF (updF (updF T0 10 F_law48_awake) 11 F_ref48_Few) 13 F_slices_Clone_Paid) 16 F_slices_Clone_Claim) 18 F_slices_Equal_int) 23 F_drawback_Overdue) 24 F_ref48_Overdue)
theorem t_law48_DrawbackLate_ok : TSound Try.prog t_law48_DrawbackLate := (TSound.upd (TSound.upd (TSound.upd (TSound.upd (TSound.upd (TSound.upd (TSound.upd TSound.zero F_law48_awake_ok) F_ref48_Few_ok) F_slices_Clone_Paid_ok) F_slices_Clone_Claim_ok) F_slices_Equal_int_ok) F_drawback_Overdue_ok) F_ref48_Overdue_ok)
@[simp] theorem t_law48_DrawbackLate_10 : t_law48_DrawbackLate 10 = some F_law48_awake := rfl
@[simp] theorem t_law48_DrawbackLate_11 : t_law48_DrawbackLate 11 = some F_ref48_Few := rfl
@[simp] theorem t_law48_DrawbackLate_13 : t_law48_DrawbackLate 13 = some F_slices_Clone_Paid := rfl
@[simp] theorem t_law48_DrawbackLate_16 : t_law48_DrawbackLate 16 = some F_slices_Clone_Claim := rfl
@[simp] theorem t_law48_DrawbackLate_18 : t_law48_DrawbackLate 18 = some F_slices_Equal_int := rfl
@[simp] theorem t_law48_DrawbackLate_23 : t_law48_DrawbackLate 23 = some F_drawback_Overdue := rfl
@[simp] theorem t_law48_DrawbackLate_24 : t_law48_DrawbackLate 24 = some F_ref48_Overdue := rfl
noncomputable def d_law48_DrawbackLate : DTab := D0
theorem d_law48_DrawbackLate_ok : DSound Try.prog d_law48_DrawbackLate := DSound.zero
noncomputable def R_law48_DrawbackLate : Fun := runF Try.prog t_law48_DrawbackLate d_law48_DrawbackLate NN [0, 1, 2, 3, 8, 9, 10, 11, 12, 20] Try.f5 4
theorem R_law48_DrawbackLate_ok : CSound Try.prog 5 R_law48_DrawbackLate := run_sound t_law48_DrawbackLate_ok d_law48_DrawbackLate_ok mixed Try.func5 (by kernel_rfl) NN
theorem R_law48_DrawbackLate_eq {β : Type} (K : AV → Hp → Option β) (a0 : AV) (a1 : AV) (a2 : AV) (a3 : AV) (h : Hp) : (R_law48_DrawbackLate [a0, a1, a2, a3] h).bind (fun p => K p.1 p.2) = f_law48_DrawbackLate Try.prog t_law48_DrawbackLate d_law48_DrawbackLate NN K a0 a1 a2 a3 h := by
  rw [← f_law48_DrawbackLate_run]; exact runF_bind rfl
noncomputable def F_law48_DrawbackLate : Fun := closedX [.l 5, .l 3, .o, .o] [.o] R_law48_DrawbackLate
theorem F_law48_DrawbackLate_ok : CSound Try.prog 5 F_law48_DrawbackLate := closedX_sound _ _ R_law48_DrawbackLate_ok
noncomputable def G_law48_DrawbackLate : DFun := closedXD [.l 5, .l 3, .o, .o] [.o] R_law48_DrawbackLate
theorem G_law48_DrawbackLate_ro : Ro F_law48_DrawbackLate G_law48_DrawbackLate := closedX_ro _ _ _
theorem F_law48_DrawbackLate_run {a0 : AV} {a1 : AV} {a2 : AV} {a3 : AV} {v : AV} (ha : plains [a0, a1, a2, a3] = true) (hv : f_law48_DrawbackLate Try.prog t_law48_DrawbackLate d_law48_DrawbackLate NN (fun v g => cvt false g v) (nrm (.l 5) a0) (nrm (.l 3) a1) a2 a3 [] = some v) (h : Hp) : F_law48_DrawbackLate [a0, a1, a2, a3] h = some (v, h) := by
  have e : (R_law48_DrawbackLate (nrms [.l 5, .l 3, .o, .o] [a0, a1, a2, a3]) []).bind (fun (p : AV × Hp) => cvt false p.2 p.1) = some v := (R_law48_DrawbackLate_eq (fun v g => cvt false g v) (nrm (.l 5) a0) (nrm (.l 3) a1) a2 a3 []).trans hv
  exact (closedX_bind (shr := [.o]) ha e h).trans (congrArg (fun x => some (x, h)) (nrmR_rep 1 v))
theorem F_law48_DrawbackLate_own {a0 : AV} {a1 : AV} {a2 : AV} {a3 : AV} {x0 : AV} {x1 : AV} {x2 : AV} {x3 : AV} {h : Hp} {v : AV} (ha : cvts false h [x0, x1, x2, x3] = some [a0, a1, a2, a3]) (hv : ∀ st, f_law48_DrawbackLate Try.prog t_law48_DrawbackLate d_law48_DrawbackLate NN (fun v g => cvt st g v) (nrm (.l 5) a0) (nrm (.l 3) a1) a2 a3 [] = some v) : F_law48_DrawbackLate [x0, x1, x2, x3] h = some (v, h) := by
  have e : ∀ st, (R_law48_DrawbackLate (nrms [.l 5, .l 3, .o, .o] [a0, a1, a2, a3]) []).bind (fun (p : AV × Hp) => cvt st p.2 p.1) = some v := fun st => (R_law48_DrawbackLate_eq (fun v g => cvt st g v) (nrm (.l 5) a0) (nrm (.l 3) a1) a2 a3 []).trans (hv st)
  exact (closedX_ownB (shr := [.o]) ha e).trans (congrArg (fun x => some (x, h)) (nrmR_rep 1 v))
/-! spile/spilelaw48.DrawbackSums -/
noncomputable def t_law48_DrawbackSums : Tab := (updF (updF (updF (updF (updF (updF (updF T0 10 F_law48_awake) 11 F_ref48_Few) 13 F_slices_Clone_Paid) 15 F_drawback_Refund) 16 F_slices_Clone_Claim) 19 F_drawback_Left) 21 F_drawback_Total)
theorem t_law48_DrawbackSums_ok : TSound Try.prog t_law48_DrawbackSums := (TSound.upd (TSound.upd (TSound.upd (TSound.upd (TSound.upd (TSound.upd (TSound.upd TSound.zero F_law48_awake_ok) F_ref48_Few_ok) F_slices_Clone_Paid_ok) F_drawback_Refund_ok) F_slices_Clone_Claim_ok) F_drawback_Left_ok) F_drawback_Total_ok)
@[simp] theorem t_law48_DrawbackSums_10 : t_law48_DrawbackSums 10 = some F_law48_awake := rfl
@[simp] theorem t_law48_DrawbackSums_11 : t_law48_DrawbackSums 11 = some F_ref48_Few := rfl
@[simp] theorem t_law48_DrawbackSums_13 : t_law48_DrawbackSums 13 = some F_slices_Clone_Paid := rfl
@[simp] theorem t_law48_DrawbackSums_15 : t_law48_DrawbackSums 15 = some F_drawback_Refund := rfl
@[simp] theorem t_law48_DrawbackSums_16 : t_law48_DrawbackSums 16 = some F_slices_Clone_Claim := rfl
@[simp] theorem t_law48_DrawbackSums_19 : t_law48_DrawbackSums 19 = some F_drawback_Left := rfl
@[simp] theorem t_law48_DrawbackSums_21 : t_law48_DrawbackSums 21 = some F_drawback_Total := rfl
noncomputable def d_law48_DrawbackSums : DTab := (updD (updD (updD D0 13 G_slices_Clone_Paid) 16 G_slices_Clone_Claim) 19 G_drawback_Left)
theorem d_law48_DrawbackSums_ok : DSound Try.prog d_law48_DrawbackSums := (DSound.ro (DSound.ro (DSound.ro DSound.zero G_slices_Clone_Paid_ro F_slices_Clone_Paid_ok) G_slices_Clone_Claim_ro F_slices_Clone_Claim_ok) G_drawback_Left_ro F_drawback_Left_ok)
@[simp] theorem d_law48_DrawbackSums_13 : d_law48_DrawbackSums 13 = some G_slices_Clone_Paid := rfl
@[simp] theorem d_law48_DrawbackSums_16 : d_law48_DrawbackSums 16 = some G_slices_Clone_Claim := rfl
@[simp] theorem d_law48_DrawbackSums_19 : d_law48_DrawbackSums 19 = some G_drawback_Left := rfl
noncomputable def R_law48_DrawbackSums : Fun := runF Try.prog t_law48_DrawbackSums d_law48_DrawbackSums NN [0, 1, 2, 6, 7, 8, 9, 10, 12, 13, 14, 15, 16, 17, 18, 19, 27, 40, 52, 53, 54, 55, 56, 80, 81, 82, 83, 84, 92, 106, 133] Try.f6 3
theorem R_law48_DrawbackSums_ok : CSound Try.prog 6 R_law48_DrawbackSums := run_sound t_law48_DrawbackSums_ok d_law48_DrawbackSums_ok mixed Try.func6 (by kernel_rfl) NN
theorem R_law48_DrawbackSums_eq {β : Type} (K : AV → Hp → Option β) (a0 : AV) (a1 : AV) (a2 : AV) (h : Hp) : (R_law48_DrawbackSums [a0, a1, a2] h).bind (fun p => K p.1 p.2) = f_law48_DrawbackSums Try.prog t_law48_DrawbackSums d_law48_DrawbackSums NN K a0 a1 a2 h := by
  rw [← f_law48_DrawbackSums_run]; exact runF_bind rfl
noncomputable def F_law48_DrawbackSums : Fun := closedX [.l 5, .l 3, .o] [.o] R_law48_DrawbackSums
theorem F_law48_DrawbackSums_ok : CSound Try.prog 6 F_law48_DrawbackSums := closedX_sound _ _ R_law48_DrawbackSums_ok
noncomputable def G_law48_DrawbackSums : DFun := closedXD [.l 5, .l 3, .o] [.o] R_law48_DrawbackSums
theorem G_law48_DrawbackSums_ro : Ro F_law48_DrawbackSums G_law48_DrawbackSums := closedX_ro _ _ _
theorem F_law48_DrawbackSums_run {a0 : AV} {a1 : AV} {a2 : AV} {v : AV} (ha : plains [a0, a1, a2] = true) (hv : f_law48_DrawbackSums Try.prog t_law48_DrawbackSums d_law48_DrawbackSums NN (fun v g => cvt false g v) (nrm (.l 5) a0) (nrm (.l 3) a1) a2 [] = some v) (h : Hp) : F_law48_DrawbackSums [a0, a1, a2] h = some (v, h) := by
  have e : (R_law48_DrawbackSums (nrms [.l 5, .l 3, .o] [a0, a1, a2]) []).bind (fun (p : AV × Hp) => cvt false p.2 p.1) = some v := (R_law48_DrawbackSums_eq (fun v g => cvt false g v) (nrm (.l 5) a0) (nrm (.l 3) a1) a2 []).trans hv
  exact (closedX_bind (shr := [.o]) ha e h).trans (congrArg (fun x => some (x, h)) (nrmR_rep 1 v))
theorem F_law48_DrawbackSums_own {a0 : AV} {a1 : AV} {a2 : AV} {x0 : AV} {x1 : AV} {x2 : AV} {h : Hp} {v : AV} (ha : cvts false h [x0, x1, x2] = some [a0, a1, a2]) (hv : ∀ st, f_law48_DrawbackSums Try.prog t_law48_DrawbackSums d_law48_DrawbackSums NN (fun v g => cvt st g v) (nrm (.l 5) a0) (nrm (.l 3) a1) a2 [] = some v) : F_law48_DrawbackSums [x0, x1, x2] h = some (v, h) := by
  have e : ∀ st, (R_law48_DrawbackSums (nrms [.l 5, .l 3, .o] [a0, a1, a2]) []).bind (fun (p : AV × Hp) => cvt st p.2 p.1) = some v := fun st => (R_law48_DrawbackSums_eq (fun v g => cvt st g v) (nrm (.l 5) a0) (nrm (.l 3) a1) a2 []).trans (hv st)
  exact (closedX_ownB (shr := [.o]) ha e).trans (congrArg (fun x => some (x, h)) (nrmR_rep 1 v))
/-! spile/spilelaw48.DrawbackOthers -/
noncomputable def t_law48_DrawbackOthers : Tab := (updF (updF (updF (updF (updF (updF T0 10 F_law48_awake) 11 F_ref48_Few) 13 F_slices_Clone_Paid) 15 F_drawback_Refund) 16 F_slices_Clone_Claim) 18 F_slices_Equal_int)
theorem t_law48_DrawbackOthers_ok : TSound Try.prog t_law48_DrawbackOthers := (TSound.upd (TSound.upd (TSound.upd (TSound.upd (TSound.upd (TSound.upd TSound.zero F_law48_awake_ok) F_ref48_Few_ok) F_slices_Clone_Paid_ok) F_drawback_Refund_ok) F_slices_Clone_Claim_ok) F_slices_Equal_int_ok)
@[simp] theorem t_law48_DrawbackOthers_10 : t_law48_DrawbackOthers 10 = some F_law48_awake := rfl
@[simp] theorem t_law48_DrawbackOthers_11 : t_law48_DrawbackOthers 11 = some F_ref48_Few := rfl
@[simp] theorem t_law48_DrawbackOthers_13 : t_law48_DrawbackOthers 13 = some F_slices_Clone_Paid := rfl
@[simp] theorem t_law48_DrawbackOthers_15 : t_law48_DrawbackOthers 15 = some F_drawback_Refund := rfl
@[simp] theorem t_law48_DrawbackOthers_16 : t_law48_DrawbackOthers 16 = some F_slices_Clone_Claim := rfl
@[simp] theorem t_law48_DrawbackOthers_18 : t_law48_DrawbackOthers 18 = some F_slices_Equal_int := rfl
noncomputable def d_law48_DrawbackOthers : DTab := D0
theorem d_law48_DrawbackOthers_ok : DSound Try.prog d_law48_DrawbackOthers := DSound.zero
noncomputable def R_law48_DrawbackOthers : Fun := runF Try.prog t_law48_DrawbackOthers d_law48_DrawbackOthers NN [0, 1, 2, 3, 8, 9, 11, 12, 13, 14, 15, 16, 18, 26, 46, 50, 51, 52, 53, 60] Try.f7 4
theorem R_law48_DrawbackOthers_ok : CSound Try.prog 7 R_law48_DrawbackOthers := run_sound t_law48_DrawbackOthers_ok d_law48_DrawbackOthers_ok mixed Try.func7 (by kernel_rfl) NN
theorem R_law48_DrawbackOthers_eq {β : Type} (K : AV → Hp → Option β) (a0 : AV) (a1 : AV) (a2 : AV) (a3 : AV) (h : Hp) : (R_law48_DrawbackOthers [a0, a1, a2, a3] h).bind (fun p => K p.1 p.2) = f_law48_DrawbackOthers Try.prog t_law48_DrawbackOthers d_law48_DrawbackOthers NN K a0 a1 a2 a3 h := by
  rw [← f_law48_DrawbackOthers_run]; exact runF_bind rfl
noncomputable def F_law48_DrawbackOthers : Fun := closedX [.l 5, .l 3, .o, .o] [.o] R_law48_DrawbackOthers
theorem F_law48_DrawbackOthers_ok : CSound Try.prog 7 F_law48_DrawbackOthers := closedX_sound _ _ R_law48_DrawbackOthers_ok
noncomputable def G_law48_DrawbackOthers : DFun := closedXD [.l 5, .l 3, .o, .o] [.o] R_law48_DrawbackOthers
theorem G_law48_DrawbackOthers_ro : Ro F_law48_DrawbackOthers G_law48_DrawbackOthers := closedX_ro _ _ _
theorem F_law48_DrawbackOthers_run {a0 : AV} {a1 : AV} {a2 : AV} {a3 : AV} {v : AV} (ha : plains [a0, a1, a2, a3] = true) (hv : f_law48_DrawbackOthers Try.prog t_law48_DrawbackOthers d_law48_DrawbackOthers NN (fun v g => cvt false g v) (nrm (.l 5) a0) (nrm (.l 3) a1) a2 a3 [] = some v) (h : Hp) : F_law48_DrawbackOthers [a0, a1, a2, a3] h = some (v, h) := by
  have e : (R_law48_DrawbackOthers (nrms [.l 5, .l 3, .o, .o] [a0, a1, a2, a3]) []).bind (fun (p : AV × Hp) => cvt false p.2 p.1) = some v := (R_law48_DrawbackOthers_eq (fun v g => cvt false g v) (nrm (.l 5) a0) (nrm (.l 3) a1) a2 a3 []).trans hv
  exact (closedX_bind (shr := [.o]) ha e h).trans (congrArg (fun x => some (x, h)) (nrmR_rep 1 v))
theorem F_law48_DrawbackOthers_own {a0 : AV} {a1 : AV} {a2 : AV} {a3 : AV} {x0 : AV} {x1 : AV} {x2 : AV} {x3 : AV} {h : Hp} {v : AV} (ha : cvts false h [x0, x1, x2, x3] = some [a0, a1, a2, a3]) (hv : ∀ st, f_law48_DrawbackOthers Try.prog t_law48_DrawbackOthers d_law48_DrawbackOthers NN (fun v g => cvt st g v) (nrm (.l 5) a0) (nrm (.l 3) a1) a2 a3 [] = some v) : F_law48_DrawbackOthers [x0, x1, x2, x3] h = some (v, h) := by
  have e : ∀ st, (R_law48_DrawbackOthers (nrms [.l 5, .l 3, .o, .o] [a0, a1, a2, a3]) []).bind (fun (p : AV × Hp) => cvt st p.2 p.1) = some v := fun st => (R_law48_DrawbackOthers_eq (fun v g => cvt st g v) (nrm (.l 5) a0) (nrm (.l 3) a1) a2 a3 []).trans (hv st)
  exact (closedX_ownB (shr := [.o]) ha e).trans (congrArg (fun x => some (x, h)) (nrmR_rep 1 v))
/-! spile/spilelaw48.DrawbackNear -/
noncomputable def t_law48_DrawbackNear : Tab := (updF (updF (updF T0 10 F_law48_awake) 15 F_drawback_Refund) 25 F_proportion_Of)
theorem t_law48_DrawbackNear_ok : TSound Try.prog t_law48_DrawbackNear := (TSound.upd (TSound.upd (TSound.upd TSound.zero F_law48_awake_ok) F_drawback_Refund_ok) F_proportion_Of_ok)
@[simp] theorem t_law48_DrawbackNear_10 : t_law48_DrawbackNear 10 = some F_law48_awake := rfl
@[simp] theorem t_law48_DrawbackNear_15 : t_law48_DrawbackNear 15 = some F_drawback_Refund := rfl
@[simp] theorem t_law48_DrawbackNear_25 : t_law48_DrawbackNear 25 = some F_proportion_Of := rfl
noncomputable def d_law48_DrawbackNear : DTab := D0
theorem d_law48_DrawbackNear_ok : DSound Try.prog d_law48_DrawbackNear := DSound.zero
noncomputable def R_law48_DrawbackNear : Fun := runF Try.prog t_law48_DrawbackNear d_law48_DrawbackNear NN [0, 1, 2, 3, 6, 7, 8, 10, 11, 13, 14, 16, 18, 36] Try.f8 3
theorem R_law48_DrawbackNear_ok : CSound Try.prog 8 R_law48_DrawbackNear := run_sound t_law48_DrawbackNear_ok d_law48_DrawbackNear_ok mixed Try.func8 (by kernel_rfl) NN
theorem R_law48_DrawbackNear_eq {β : Type} (K : AV → Hp → Option β) (a0 : AV) (a1 : AV) (a2 : AV) (h : Hp) : (R_law48_DrawbackNear [a0, a1, a2] h).bind (fun p => K p.1 p.2) = f_law48_DrawbackNear Try.prog t_law48_DrawbackNear d_law48_DrawbackNear NN K a0 a1 a2 h := by
  rw [← f_law48_DrawbackNear_run]; exact runF_bind rfl
noncomputable def F_law48_DrawbackNear : Fun := closedX [.o, .o, .o] [.o] R_law48_DrawbackNear
theorem F_law48_DrawbackNear_ok : CSound Try.prog 8 F_law48_DrawbackNear := closedX_sound _ _ R_law48_DrawbackNear_ok
noncomputable def G_law48_DrawbackNear : DFun := closedXD [.o, .o, .o] [.o] R_law48_DrawbackNear
theorem G_law48_DrawbackNear_ro : Ro F_law48_DrawbackNear G_law48_DrawbackNear := closedX_ro _ _ _
theorem F_law48_DrawbackNear_run {a0 : AV} {a1 : AV} {a2 : AV} {v : AV} (ha : plains [a0, a1, a2] = true) (hv : f_law48_DrawbackNear Try.prog t_law48_DrawbackNear d_law48_DrawbackNear NN (fun v g => cvt false g v) a0 a1 a2 [] = some v) (h : Hp) : F_law48_DrawbackNear [a0, a1, a2] h = some (v, h) := by
  have e : (R_law48_DrawbackNear (nrms [.o, .o, .o] [a0, a1, a2]) []).bind (fun (p : AV × Hp) => cvt false p.2 p.1) = some v := (R_law48_DrawbackNear_eq (fun v g => cvt false g v) a0 a1 a2 []).trans hv
  exact (closedX_bind (shr := [.o]) ha e h).trans (congrArg (fun x => some (x, h)) (nrmR_rep 1 v))
theorem F_law48_DrawbackNear_own {a0 : AV} {a1 : AV} {a2 : AV} {x0 : AV} {x1 : AV} {x2 : AV} {h : Hp} {v : AV} (ha : cvts false h [x0, x1, x2] = some [a0, a1, a2]) (hv : ∀ st, f_law48_DrawbackNear Try.prog t_law48_DrawbackNear d_law48_DrawbackNear NN (fun v g => cvt st g v) a0 a1 a2 [] = some v) : F_law48_DrawbackNear [x0, x1, x2] h = some (v, h) := by
  have e : ∀ st, (R_law48_DrawbackNear (nrms [.o, .o, .o] [a0, a1, a2]) []).bind (fun (p : AV × Hp) => cvt st p.2 p.1) = some v := fun st => (R_law48_DrawbackNear_eq (fun v g => cvt st g v) a0 a1 a2 []).trans (hv st)
  exact (closedX_ownB (shr := [.o]) ha e).trans (congrArg (fun x => some (x, h)) (nrmR_rep 1 v))
/-! slices.Grow[[]spile/api.Claim,spile/api.Claim] -/
noncomputable def t_slices_Grow_Claim : Tab := T0
theorem t_slices_Grow_Claim_ok : TSound Try.prog t_slices_Grow_Claim := TSound.zero
noncomputable def d_slices_Grow_Claim : DTab := D0
theorem d_slices_Grow_Claim_ok : DSound Try.prog d_slices_Grow_Claim := DSound.zero
noncomputable def R_slices_Grow_Claim : Fun := runF Try.prog t_slices_Grow_Claim d_slices_Grow_Claim NN [0, 1, 4, 6, 16] Try.f37 2
theorem R_slices_Grow_Claim_ok : CSound Try.prog 37 R_slices_Grow_Claim := run_sound t_slices_Grow_Claim_ok d_slices_Grow_Claim_ok mixed Try.func37 (by kernel_rfl) NN
theorem R_slices_Grow_Claim_eq {β : Type} (K : AV → Hp → Option β) (a0 : AV) (a1 : AV) (h : Hp) : (R_slices_Grow_Claim [a0, a1] h).bind (fun p => K p.1 p.2) = f_slices_Grow_Claim Try.prog t_slices_Grow_Claim d_slices_Grow_Claim NN K a0 a1 h := by
  rw [← f_slices_Grow_Claim_run]; exact runF_bind rfl
noncomputable def F_slices_Grow_Claim : Fun := closedX [.l 3, .o] [.l 3] R_slices_Grow_Claim
theorem F_slices_Grow_Claim_ok : CSound Try.prog 37 F_slices_Grow_Claim := closedX_sound _ _ R_slices_Grow_Claim_ok
noncomputable def G_slices_Grow_Claim : DFun := closedXD [.l 3, .o] [.l 3] R_slices_Grow_Claim
theorem G_slices_Grow_Claim_ro : Ro F_slices_Grow_Claim G_slices_Grow_Claim := closedX_ro _ _ _
theorem F_slices_Grow_Claim_run {a0 : AV} {a1 : AV} {v : AV} (ha : plains [a0, a1] = true) (hv : f_slices_Grow_Claim Try.prog t_slices_Grow_Claim d_slices_Grow_Claim NN (fun v g => cvt false g v) (nrm (.l 3) a0) a1 [] = some v) (h : Hp) : F_slices_Grow_Claim [a0, a1] h = some ((nrmR [.l 3] v), h) := by
  have e : (R_slices_Grow_Claim (nrms [.l 3, .o] [a0, a1]) []).bind (fun (p : AV × Hp) => cvt false p.2 p.1) = some v := (R_slices_Grow_Claim_eq (fun v g => cvt false g v) (nrm (.l 3) a0) a1 []).trans hv
  exact (closedX_bind (shr := [.l 3]) ha e h).trans (congrArg (fun x => some (x, h)) rfl)
theorem F_slices_Grow_Claim_own {a0 : AV} {a1 : AV} {x0 : AV} {x1 : AV} {h : Hp} {v : AV} (ha : cvts false h [x0, x1] = some [a0, a1]) (hv : ∀ st, f_slices_Grow_Claim Try.prog t_slices_Grow_Claim d_slices_Grow_Claim NN (fun v g => cvt st g v) (nrm (.l 3) a0) a1 [] = some v) : F_slices_Grow_Claim [x0, x1] h = some ((nrmR [.l 3] v), h) := by
  have e : ∀ st, (R_slices_Grow_Claim (nrms [.l 3, .o] [a0, a1]) []).bind (fun (p : AV × Hp) => cvt st p.2 p.1) = some v := fun st => (R_slices_Grow_Claim_eq (fun v g => cvt st g v) (nrm (.l 3) a0) a1 []).trans (hv st)
  exact (closedX_ownB (shr := [.l 3]) ha e).trans (congrArg (fun x => some (x, h)) rfl)
/-! slices.Concat[[]spile/api.Claim,spile/api.Claim] -/
noncomputable def t_slices_Concat_Claim : Tab := (updF T0 37 F_slices_Grow_Claim)
theorem t_slices_Concat_Claim_ok : TSound Try.prog t_slices_Concat_Claim := (TSound.upd TSound.zero F_slices_Grow_Claim_ok)
@[simp] theorem t_slices_Concat_Claim_37 : t_slices_Concat_Claim 37 = some F_slices_Grow_Claim := rfl
noncomputable def d_slices_Concat_Claim : DTab := D0
theorem d_slices_Concat_Claim_ok : DSound Try.prog d_slices_Concat_Claim := DSound.zero
noncomputable def R_slices_Concat_Claim : Fun := runF Try.prog t_slices_Concat_Claim d_slices_Concat_Claim NN [0, 2, 3, 5, 6, 8, 9, 10, 11, 12, 20, 25, 26, 27, 28] Try.f26 1
theorem R_slices_Concat_Claim_ok : CSound Try.prog 26 R_slices_Concat_Claim := run_sound t_slices_Concat_Claim_ok d_slices_Concat_Claim_ok mixed Try.func26 (by kernel_rfl) NN
theorem R_slices_Concat_Claim_eq {β : Type} (K : AV → Hp → Option β) (a0 : AV) (h : Hp) : (R_slices_Concat_Claim [a0] h).bind (fun p => K p.1 p.2) = f_slices_Concat_Claim Try.prog t_slices_Concat_Claim d_slices_Concat_Claim NN K a0 h := by
  rw [← f_slices_Concat_Claim_run]; exact runF_bind rfl
noncomputable def F_slices_Concat_Claim : Fun := closedX [.l 1] [.l 3] R_slices_Concat_Claim
theorem F_slices_Concat_Claim_ok : CSound Try.prog 26 F_slices_Concat_Claim := closedX_sound _ _ R_slices_Concat_Claim_ok
noncomputable def G_slices_Concat_Claim : DFun := closedXD [.l 1] [.l 3] R_slices_Concat_Claim
theorem G_slices_Concat_Claim_ro : Ro F_slices_Concat_Claim G_slices_Concat_Claim := closedX_ro _ _ _
theorem F_slices_Concat_Claim_run {a0 : AV} {v : AV} (ha : plains [a0] = true) (hv : f_slices_Concat_Claim Try.prog t_slices_Concat_Claim d_slices_Concat_Claim NN (fun v g => cvt false g v) (nrm (.l 1) a0) [] = some v) (h : Hp) : F_slices_Concat_Claim [a0] h = some ((nrmR [.l 3] v), h) := by
  have e : (R_slices_Concat_Claim (nrms [.l 1] [a0]) []).bind (fun (p : AV × Hp) => cvt false p.2 p.1) = some v := (R_slices_Concat_Claim_eq (fun v g => cvt false g v) (nrm (.l 1) a0) []).trans hv
  exact (closedX_bind (shr := [.l 3]) ha e h).trans (congrArg (fun x => some (x, h)) rfl)
theorem F_slices_Concat_Claim_own {a0 : AV} {x0 : AV} {h : Hp} {v : AV} (ha : cvts false h [x0] = some [a0]) (hv : ∀ st, f_slices_Concat_Claim Try.prog t_slices_Concat_Claim d_slices_Concat_Claim NN (fun v g => cvt st g v) (nrm (.l 1) a0) [] = some v) : F_slices_Concat_Claim [x0] h = some ((nrmR [.l 3] v), h) := by
  have e : ∀ st, (R_slices_Concat_Claim (nrms [.l 1] [a0]) []).bind (fun (p : AV × Hp) => cvt st p.2 p.1) = some v := fun st => (R_slices_Concat_Claim_eq (fun v g => cvt st g v) (nrm (.l 1) a0) []).trans (hv st)
  exact (closedX_ownB (shr := [.l 3]) ha e).trans (congrArg (fun x => some (x, h)) rfl)
/-! spile/spilelaw48.DrawbackDivided -/
noncomputable def t_law48_DrawbackDivided : Tab := (updF (updF (updF (updF (updF (updF (updF T0 10 F_law48_awake) 11 F_ref48_Few) 13 F_slices_Clone_Paid) 15 F_drawback_Refund) 16 F_slices_Clone_Claim) 18 F_slices_Equal_int) 26 F_slices_Concat_Claim)
theorem t_law48_DrawbackDivided_ok : TSound Try.prog t_law48_DrawbackDivided := (TSound.upd (TSound.upd (TSound.upd (TSound.upd (TSound.upd (TSound.upd (TSound.upd TSound.zero F_law48_awake_ok) F_ref48_Few_ok) F_slices_Clone_Paid_ok) F_drawback_Refund_ok) F_slices_Clone_Claim_ok) F_slices_Equal_int_ok) F_slices_Concat_Claim_ok)
@[simp] theorem t_law48_DrawbackDivided_10 : t_law48_DrawbackDivided 10 = some F_law48_awake := rfl
@[simp] theorem t_law48_DrawbackDivided_11 : t_law48_DrawbackDivided 11 = some F_ref48_Few := rfl
@[simp] theorem t_law48_DrawbackDivided_13 : t_law48_DrawbackDivided 13 = some F_slices_Clone_Paid := rfl
@[simp] theorem t_law48_DrawbackDivided_15 : t_law48_DrawbackDivided 15 = some F_drawback_Refund := rfl
@[simp] theorem t_law48_DrawbackDivided_16 : t_law48_DrawbackDivided 16 = some F_slices_Clone_Claim := rfl
@[simp] theorem t_law48_DrawbackDivided_18 : t_law48_DrawbackDivided 18 = some F_slices_Equal_int := rfl
@[simp] theorem t_law48_DrawbackDivided_26 : t_law48_DrawbackDivided 26 = some F_slices_Concat_Claim := rfl
noncomputable def d_law48_DrawbackDivided : DTab := (updD (updD (updD D0 13 G_slices_Clone_Paid) 15 G_drawback_Refund) 26 G_slices_Concat_Claim)
theorem d_law48_DrawbackDivided_ok : DSound Try.prog d_law48_DrawbackDivided := (DSound.ro (DSound.ro (DSound.ro DSound.zero G_slices_Clone_Paid_ro F_slices_Clone_Paid_ok) G_drawback_Refund_ro F_drawback_Refund_ok) G_slices_Concat_Claim_ro F_slices_Concat_Claim_ok)
@[simp] theorem d_law48_DrawbackDivided_13 : d_law48_DrawbackDivided 13 = some G_slices_Clone_Paid := rfl
@[simp] theorem d_law48_DrawbackDivided_15 : d_law48_DrawbackDivided 15 = some G_drawback_Refund := rfl
@[simp] theorem d_law48_DrawbackDivided_26 : d_law48_DrawbackDivided 26 = some G_slices_Concat_Claim := rfl
noncomputable def R_law48_DrawbackDivided : Fun := runF Try.prog t_law48_DrawbackDivided d_law48_DrawbackDivided NN [0, 1, 2, 3, 4, 10, 11, 13, 14, 15, 16, 17, 18, 19, 20, 38, 71] Try.f9 5
theorem R_law48_DrawbackDivided_ok : CSound Try.prog 9 R_law48_DrawbackDivided := run_sound t_law48_DrawbackDivided_ok d_law48_DrawbackDivided_ok mixed Try.func9 (by kernel_rfl) NN
theorem R_law48_DrawbackDivided_eq {β : Type} (K : AV → Hp → Option β) (a0 : AV) (a1 : AV) (a2 : AV) (a3 : AV) (a4 : AV) (h : Hp) : (R_law48_DrawbackDivided [a0, a1, a2, a3, a4] h).bind (fun p => K p.1 p.2) = f_law48_DrawbackDivided Try.prog t_law48_DrawbackDivided d_law48_DrawbackDivided NN K a0 a1 a2 a3 a4 h := by
  rw [← f_law48_DrawbackDivided_run]; exact runF_bind rfl
noncomputable def F_law48_DrawbackDivided : Fun := closedX [.l 5, .l 3, .o, .o, .o] [.o] R_law48_DrawbackDivided
theorem F_law48_DrawbackDivided_ok : CSound Try.prog 9 F_law48_DrawbackDivided := closedX_sound _ _ R_law48_DrawbackDivided_ok
noncomputable def G_law48_DrawbackDivided : DFun := closedXD [.l 5, .l 3, .o, .o, .o] [.o] R_law48_DrawbackDivided
theorem G_law48_DrawbackDivided_ro : Ro F_law48_DrawbackDivided G_law48_DrawbackDivided := closedX_ro _ _ _
theorem F_law48_DrawbackDivided_run {a0 : AV} {a1 : AV} {a2 : AV} {a3 : AV} {a4 : AV} {v : AV} (ha : plains [a0, a1, a2, a3, a4] = true) (hv : f_law48_DrawbackDivided Try.prog t_law48_DrawbackDivided d_law48_DrawbackDivided NN (fun v g => cvt false g v) (nrm (.l 5) a0) (nrm (.l 3) a1) a2 a3 a4 [] = some v) (h : Hp) : F_law48_DrawbackDivided [a0, a1, a2, a3, a4] h = some (v, h) := by
  have e : (R_law48_DrawbackDivided (nrms [.l 5, .l 3, .o, .o, .o] [a0, a1, a2, a3, a4]) []).bind (fun (p : AV × Hp) => cvt false p.2 p.1) = some v := (R_law48_DrawbackDivided_eq (fun v g => cvt false g v) (nrm (.l 5) a0) (nrm (.l 3) a1) a2 a3 a4 []).trans hv
  exact (closedX_bind (shr := [.o]) ha e h).trans (congrArg (fun x => some (x, h)) (nrmR_rep 1 v))
theorem F_law48_DrawbackDivided_own {a0 : AV} {a1 : AV} {a2 : AV} {a3 : AV} {a4 : AV} {x0 : AV} {x1 : AV} {x2 : AV} {x3 : AV} {x4 : AV} {h : Hp} {v : AV} (ha : cvts false h [x0, x1, x2, x3, x4] = some [a0, a1, a2, a3, a4]) (hv : ∀ st, f_law48_DrawbackDivided Try.prog t_law48_DrawbackDivided d_law48_DrawbackDivided NN (fun v g => cvt st g v) (nrm (.l 5) a0) (nrm (.l 3) a1) a2 a3 a4 [] = some v) : F_law48_DrawbackDivided [x0, x1, x2, x3, x4] h = some (v, h) := by
  have e : ∀ st, (R_law48_DrawbackDivided (nrms [.l 5, .l 3, .o, .o, .o] [a0, a1, a2, a3, a4]) []).bind (fun (p : AV × Hp) => cvt st p.2 p.1) = some v := fun st => (R_law48_DrawbackDivided_eq (fun v g => cvt st g v) (nrm (.l 5) a0) (nrm (.l 3) a1) a2 a3 a4 []).trans (hv st)
  exact (closedX_ownB (shr := [.o]) ha e).trans (congrArg (fun x => some (x, h)) (nrmR_rep 1 v))
end Go.AM
