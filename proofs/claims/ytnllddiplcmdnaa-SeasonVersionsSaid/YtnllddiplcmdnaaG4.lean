import Derived.Test.YtnllddiplcmdnaaG3
import Derived.Lib.Mul64
namespace Go.AM
open Go.Proofs
set_option linter.unusedVariables false
set_option maxRecDepth 100000
theorem mixed : Try.prog.follows .mixedOrders = true := by kernel_rfl
theorem NN_ex : ∃ n : Nat, 1000000 ≤ n ∧ n < 4611686018427387904 := ⟨1000000, by omega, by omega⟩
noncomputable def NN : Nat := NN_ex.choose
theorem NN_ge : 1000000 ≤ NN := NN_ex.choose_spec.1
theorem NN_lt : NN < 4611686018427387904 := NN_ex.choose_spec.2
/-! spile/season.in -/
noncomputable def t_season_in : Tab := T0
theorem t_season_in_ok : TSound Try.prog t_season_in := TSound.zero
noncomputable def d_season_in : DTab := D0
theorem d_season_in_ok : DSound Try.prog d_season_in := DSound.zero
noncomputable def R_season_in : Fun := runF Try.prog t_season_in d_season_in NN [0, 1, 2, 6] Try.f34 3
theorem R_season_in_ok : CSound Try.prog 34 R_season_in := run_sound t_season_in_ok d_season_in_ok mixed Try.func34 (by kernel_rfl) NN
theorem R_season_in_eq {β : Type} (K : AV → Hp → Option β) (a0 : AV) (a1 : AV) (a2 : AV) (h : Hp) : (R_season_in [a0, a1, a2] h).bind (fun p => K p.1 p.2) = f_season_in Try.prog t_season_in d_season_in NN K a0 a1 a2 h := by
  rw [← f_season_in_run]; exact runF_bind rfl
noncomputable def F_season_in : Fun := closedX [.o, .o, .o] [.o] R_season_in
theorem F_season_in_ok : CSound Try.prog 34 F_season_in := closedX_sound _ _ R_season_in_ok
noncomputable def G_season_in : DFun := closedXD [.o, .o, .o] [.o] R_season_in
theorem G_season_in_ro : Ro F_season_in G_season_in := closedX_ro _ _ _
theorem F_season_in_run {a0 : AV} {a1 : AV} {a2 : AV} {v : AV} (ha : plains [a0, a1, a2] = true) (hv : f_season_in Try.prog t_season_in d_season_in NN (fun v g => cvt false g v) a0 a1 a2 [] = some v) (h : Hp) : F_season_in [a0, a1, a2] h = some (v, h) := by
  have e : (R_season_in (nrms [.o, .o, .o] [a0, a1, a2]) []).bind (fun (p : AV × Hp) => cvt false p.2 p.1) = some v := (R_season_in_eq (fun v g => cvt false g v) a0 a1 a2 []).trans hv
  exact (closedX_bind (shr := [.o]) ha e h).trans (congrArg (fun x => some (x, h)) (nrmR_rep 1 v))
theorem F_season_in_own {a0 : AV} {a1 : AV} {a2 : AV} {x0 : AV} {x1 : AV} {x2 : AV} {h : Hp} {v : AV} (ha : cvts false h [x0, x1, x2] = some [a0, a1, a2]) (hv : ∀ st, f_season_in Try.prog t_season_in d_season_in NN (fun v g => cvt st g v) a0 a1 a2 [] = some v) : F_season_in [x0, x1, x2] h = some (v, h) := by
  have e : ∀ st, (R_season_in (nrms [.o, .o, .o] [a0, a1, a2]) []).bind (fun (p : AV × Hp) => cvt st p.2 p.1) = some v := fun st => (R_season_in_eq (fun v g => cvt st g v) a0 a1 a2 []).trans (hv st)
  exact (closedX_ownB (shr := [.o]) ha e).trans (congrArg (fun x => some (x, h)) (nrmR_rep 1 v))
/-! spile/season.before -/
noncomputable def t_season_before : Tab := T0
theorem t_season_before_ok : TSound Try.prog t_season_before := TSound.zero
noncomputable def d_season_before : DTab := D0
theorem d_season_before_ok : DSound Try.prog d_season_before := DSound.zero
noncomputable def R_season_before : Fun := runF Try.prog t_season_before d_season_before NN [0, 1, 2, 3, 4, 9, 19] Try.f43 2
theorem R_season_before_ok : CSound Try.prog 43 R_season_before := run_sound t_season_before_ok d_season_before_ok mixed Try.func43 (by kernel_rfl) NN
theorem R_season_before_eq {β : Type} (K : AV → Hp → Option β) (a0 : AV) (a1 : AV) (h : Hp) : (R_season_before [a0, a1] h).bind (fun p => K p.1 p.2) = f_season_before Try.prog t_season_before d_season_before NN K a0 a1 h := by
  rw [← f_season_before_run]; exact runF_bind rfl
noncomputable def F_season_before : Fun := closedX [.o, .o] [.o] R_season_before
theorem F_season_before_ok : CSound Try.prog 43 F_season_before := closedX_sound _ _ R_season_before_ok
noncomputable def G_season_before : DFun := closedXD [.o, .o] [.o] R_season_before
theorem G_season_before_ro : Ro F_season_before G_season_before := closedX_ro _ _ _
theorem F_season_before_run {a0 : AV} {a1 : AV} {v : AV} (ha : plains [a0, a1] = true) (hv : f_season_before Try.prog t_season_before d_season_before NN (fun v g => cvt false g v) a0 a1 [] = some v) (h : Hp) : F_season_before [a0, a1] h = some (v, h) := by
  have e : (R_season_before (nrms [.o, .o] [a0, a1]) []).bind (fun (p : AV × Hp) => cvt false p.2 p.1) = some v := (R_season_before_eq (fun v g => cvt false g v) a0 a1 []).trans hv
  exact (closedX_bind (shr := [.o]) ha e h).trans (congrArg (fun x => some (x, h)) (nrmR_rep 1 v))
theorem F_season_before_own {a0 : AV} {a1 : AV} {x0 : AV} {x1 : AV} {h : Hp} {v : AV} (ha : cvts false h [x0, x1] = some [a0, a1]) (hv : ∀ st, f_season_before Try.prog t_season_before d_season_before NN (fun v g => cvt st g v) a0 a1 [] = some v) : F_season_before [x0, x1] h = some (v, h) := by
  have e : ∀ st, (R_season_before (nrms [.o, .o] [a0, a1]) []).bind (fun (p : AV × Hp) => cvt st p.2 p.1) = some v := fun st => (R_season_before_eq (fun v g => cvt st g v) a0 a1 []).trans (hv st)
  exact (closedX_ownB (shr := [.o]) ha e).trans (congrArg (fun x => some (x, h)) (nrmR_rep 1 v))
/-! spile/season.Check -/
noncomputable def t_season_Check : Tab := (updF (updF T0 34 F_season_in) 43 F_season_before)
theorem t_season_Check_ok : TSound Try.prog t_season_Check := (TSound.upd (TSound.upd TSound.zero F_season_in_ok) F_season_before_ok)
@[simp] theorem t_season_Check_34 : t_season_Check 34 = some F_season_in := rfl
@[simp] theorem t_season_Check_43 : t_season_Check 43 = some F_season_before := rfl
noncomputable def d_season_Check : DTab := D0
theorem d_season_Check_ok : DSound Try.prog d_season_Check := DSound.zero
noncomputable def R_season_Check : Fun := runF Try.prog t_season_Check d_season_Check NN [0, 2, 3, 4, 5, 8, 9, 10, 11, 12, 16, 40] Try.f19 1
theorem R_season_Check_ok : CSound Try.prog 19 R_season_Check := run_sound t_season_Check_ok d_season_Check_ok mixed Try.func19 (by kernel_rfl) NN
theorem R_season_Check_eq {β : Type} (K : AV → Hp → Option β) (a0 : AV) (h : Hp) : (R_season_Check [a0] h).bind (fun p => K p.1 p.2) = f_season_Check Try.prog t_season_Check d_season_Check NN K a0 h := by
  rw [← f_season_Check_run]; exact runF_bind rfl
noncomputable def F_season_Check : Fun := closedX [.l 4] [.o, .o] R_season_Check
theorem F_season_Check_ok : CSound Try.prog 19 F_season_Check := closedX_sound _ _ R_season_Check_ok
noncomputable def G_season_Check : DFun := closedXD [.l 4] [.o, .o] R_season_Check
theorem G_season_Check_ro : Ro F_season_Check G_season_Check := closedX_ro _ _ _
theorem F_season_Check_run {a0 : AV} {v : AV} (ha : plains [a0] = true) (hv : f_season_Check Try.prog t_season_Check d_season_Check NN (fun v g => cvt false g v) (nrm (.l 4) a0) [] = some v) (h : Hp) : F_season_Check [a0] h = some (v, h) := by
  have e : (R_season_Check (nrms [.l 4] [a0]) []).bind (fun (p : AV × Hp) => cvt false p.2 p.1) = some v := (R_season_Check_eq (fun v g => cvt false g v) (nrm (.l 4) a0) []).trans hv
  exact (closedX_bind (shr := [.o, .o]) ha e h).trans (congrArg (fun x => some (x, h)) (nrmR_rep 2 v))
theorem F_season_Check_own {a0 : AV} {x0 : AV} {h : Hp} {v : AV} (ha : cvts false h [x0] = some [a0]) (hv : ∀ st, f_season_Check Try.prog t_season_Check d_season_Check NN (fun v g => cvt st g v) (nrm (.l 4) a0) [] = some v) : F_season_Check [x0] h = some (v, h) := by
  have e : ∀ st, (R_season_Check (nrms [.l 4] [a0]) []).bind (fun (p : AV × Hp) => cvt st p.2 p.1) = some v := fun st => (R_season_Check_eq (fun v g => cvt st g v) (nrm (.l 4) a0) []).trans (hv st)
  exact (closedX_ownB (shr := [.o, .o]) ha e).trans (congrArg (fun x => some (x, h)) (nrmR_rep 2 v))
/-! spile/season.right -/
noncomputable def t_season_right : Tab := (updF T0 19 F_season_Check)
theorem t_season_right_ok : TSound Try.prog t_season_right := (TSound.upd TSound.zero F_season_Check_ok)
@[simp] theorem t_season_right_19 : t_season_right 19 = some F_season_Check := rfl
noncomputable def d_season_right : DTab := D0
theorem d_season_right_ok : DSound Try.prog d_season_right := DSound.zero
noncomputable def R_season_right : Fun := runF Try.prog t_season_right d_season_right NN [0, 2, 4] Try.f33 1
theorem R_season_right_ok : CSound Try.prog 33 R_season_right := run_sound t_season_right_ok d_season_right_ok mixed Try.func33 (by kernel_rfl) NN
theorem R_season_right_eq {β : Type} (K : AV → Hp → Option β) (a0 : AV) (h : Hp) : (R_season_right [a0] h).bind (fun p => K p.1 p.2) = f_season_right Try.prog t_season_right d_season_right NN K a0 h := by
  rw [← f_season_right_run]; exact runF_bind rfl
noncomputable def F_season_right : Fun := closedX [.l 4] [.o] R_season_right
theorem F_season_right_ok : CSound Try.prog 33 F_season_right := closedX_sound _ _ R_season_right_ok
noncomputable def G_season_right : DFun := closedXD [.l 4] [.o] R_season_right
theorem G_season_right_ro : Ro F_season_right G_season_right := closedX_ro _ _ _
theorem F_season_right_run {a0 : AV} {v : AV} (ha : plains [a0] = true) (hv : f_season_right Try.prog t_season_right d_season_right NN (fun v g => cvt false g v) (nrm (.l 4) a0) [] = some v) (h : Hp) : F_season_right [a0] h = some (v, h) := by
  have e : (R_season_right (nrms [.l 4] [a0]) []).bind (fun (p : AV × Hp) => cvt false p.2 p.1) = some v := (R_season_right_eq (fun v g => cvt false g v) (nrm (.l 4) a0) []).trans hv
  exact (closedX_bind (shr := [.o]) ha e h).trans (congrArg (fun x => some (x, h)) (nrmR_rep 1 v))
theorem F_season_right_own {a0 : AV} {x0 : AV} {h : Hp} {v : AV} (ha : cvts false h [x0] = some [a0]) (hv : ∀ st, f_season_right Try.prog t_season_right d_season_right NN (fun v g => cvt st g v) (nrm (.l 4) a0) [] = some v) : F_season_right [x0] h = some (v, h) := by
  have e : ∀ st, (R_season_right (nrms [.l 4] [a0]) []).bind (fun (p : AV × Hp) => cvt st p.2 p.1) = some v := fun st => (R_season_right_eq (fun v g => cvt st g v) (nrm (.l 4) a0) []).trans (hv st)
  exact (closedX_ownB (shr := [.o]) ha e).trans (congrArg (fun x => some (x, h)) (nrmR_rep 1 v))
/-! spile/season.version$1 -/
noncomputable def t_season_version_1 : Tab := T0
theorem t_season_version_1_ok : TSound Try.prog t_season_version_1 := TSound.zero
noncomputable def d_season_version_1 : DTab := D0
theorem d_season_version_1_ok : DSound Try.prog d_season_version_1 := DSound.zero
noncomputable def R_season_version_1 : Fun := runF Try.prog t_season_version_1 d_season_version_1 NN [0, 1, 2, 4] Try.f58 3
theorem R_season_version_1_ok : CSound Try.prog 58 R_season_version_1 := run_sound t_season_version_1_ok d_season_version_1_ok mixed Try.func58 (by kernel_rfl) NN
theorem R_season_version_1_eq {β : Type} (K : AV → Hp → Option β) (a0 : AV) (a1 : AV) (a2 : AV) (h : Hp) : (R_season_version_1 [a0, a1, a2] h).bind (fun p => K p.1 p.2) = f_season_version_1 Try.prog t_season_version_1 d_season_version_1 NN K a0 a1 a2 h := by
  rw [← f_season_version_1_run]; exact runF_bind rfl
noncomputable def F_season_version_1 : Fun := quietT R_season_version_1
theorem F_season_version_1_ok : CSound Try.prog 58 F_season_version_1 := quietT_sound R_season_version_1_ok
noncomputable def G_season_version_1 : DFun := roD F_season_version_1
theorem G_season_version_1_ro : Ro F_season_version_1 G_season_version_1 := ro_ro _
theorem F_season_version_1_q {a0 : AV} {a1 : AV} {a2 : AV} {h : Hp} {g : List AObj} {v : AV} (hv : f_season_version_1 Try.prog t_season_version_1 d_season_version_1 NN (fun v h => some (v, h)) a0 a1 a2 h = some (v, h ++ g)) (hp : plain v = true) : F_season_version_1 [a0, a1, a2] h = some (v, h) := quietT_val (F := R_season_version_1) (((bind_pair _).symm.trans (R_season_version_1_eq (fun v h => some (v, h)) a0 a1 a2 h)).trans hv) hp
/-! sort.Search : spile/season.version$1 -/
noncomputable def t_sort_Search__season_version_1 : Tab := (updF T0 58 F_season_version_1)
theorem t_sort_Search__season_version_1_ok : TSound Try.prog t_sort_Search__season_version_1 := (TSound.upd TSound.zero F_season_version_1_ok)
@[simp] theorem t_sort_Search__season_version_1_58 : t_sort_Search__season_version_1 58 = some F_season_version_1 := rfl
noncomputable def d_sort_Search__season_version_1 : DTab := D0
theorem d_sort_Search__season_version_1_ok : DSound Try.prog d_sort_Search__season_version_1 := DSound.zero
noncomputable def R_sort_Search__season_version_1 : Fun := runF Try.prog t_sort_Search__season_version_1 d_sort_Search__season_version_1 NN [0, 1, 4, 5, 6, 7, 11, 21] Try.f55 2
theorem R_sort_Search__season_version_1_ok : CSound Try.prog 55 R_sort_Search__season_version_1 := run_sound t_sort_Search__season_version_1_ok d_sort_Search__season_version_1_ok mixed Try.func55 (by kernel_rfl) NN
theorem R_sort_Search__season_version_1_eq {β : Type} (K : AV → Hp → Option β) (a0 : AV) (a1 : AV) (h : Hp) : (R_sort_Search__season_version_1 [a0, a1] h).bind (fun p => K p.1 p.2) = f_sort_Search Try.prog t_sort_Search__season_version_1 d_sort_Search__season_version_1 NN K a0 a1 h := by
  rw [← f_sort_Search_run]; exact runF_bind rfl
noncomputable def F_sort_Search__season_version_1 : Fun := quietT R_sort_Search__season_version_1
theorem F_sort_Search__season_version_1_ok : CSound Try.prog 55 F_sort_Search__season_version_1 := quietT_sound R_sort_Search__season_version_1_ok
noncomputable def G_sort_Search__season_version_1 : DFun := roD F_sort_Search__season_version_1
theorem G_sort_Search__season_version_1_ro : Ro F_sort_Search__season_version_1 G_sort_Search__season_version_1 := ro_ro _
theorem F_sort_Search__season_version_1_q {a0 : AV} {a1 : AV} {h : Hp} {g : List AObj} {v : AV} (hv : f_sort_Search Try.prog t_sort_Search__season_version_1 d_sort_Search__season_version_1 NN (fun v h => some (v, h)) a0 a1 h = some (v, h ++ g)) (hp : plain v = true) : F_sort_Search__season_version_1 [a0, a1] h = some (v, h) := quietT_val (F := R_sort_Search__season_version_1) (((bind_pair _).symm.trans (R_sort_Search__season_version_1_eq (fun v h => some (v, h)) a0 a1 h)).trans hv) hp
/-! spile/season.version -/
noncomputable def t_season_version : Tab := (updF (updF T0 55 F_sort_Search__season_version_1) 58 F_season_version_1)
theorem t_season_version_ok : TSound Try.prog t_season_version := (TSound.upd (TSound.upd TSound.zero F_sort_Search__season_version_1_ok) F_season_version_1_ok)
@[simp] theorem t_season_version_55 : t_season_version 55 = some F_sort_Search__season_version_1 := rfl
@[simp] theorem t_season_version_58 : t_season_version 58 = some F_season_version_1 := rfl
noncomputable def d_season_version : DTab := D0
theorem d_season_version_ok : DSound Try.prog d_season_version := DSound.zero
noncomputable def R_season_version : Fun := runF Try.prog t_season_version d_season_version NN [0, 1, 2, 3, 4, 5, 6, 12] Try.f45 2
theorem R_season_version_ok : CSound Try.prog 45 R_season_version := run_sound t_season_version_ok d_season_version_ok mixed Try.func45 (by kernel_rfl) NN
theorem R_season_version_eq {β : Type} (K : AV → Hp → Option β) (a0 : AV) (a1 : AV) (h : Hp) : (R_season_version [a0, a1] h).bind (fun p => K p.1 p.2) = f_season_version Try.prog t_season_version d_season_version NN K a0 a1 h := by
  rw [← f_season_version_run]; exact runF_bind rfl
noncomputable def F_season_version : Fun := closedX [.l 4, .o] [.o, .o] R_season_version
theorem F_season_version_ok : CSound Try.prog 45 F_season_version := closedX_sound _ _ R_season_version_ok
noncomputable def G_season_version : DFun := closedXD [.l 4, .o] [.o, .o] R_season_version
theorem G_season_version_ro : Ro F_season_version G_season_version := closedX_ro _ _ _
theorem F_season_version_run {a0 : AV} {a1 : AV} {v : AV} (ha : plains [a0, a1] = true) (hv : f_season_version Try.prog t_season_version d_season_version NN (fun v g => cvt false g v) (nrm (.l 4) a0) a1 [] = some v) (h : Hp) : F_season_version [a0, a1] h = some (v, h) := by
  have e : (R_season_version (nrms [.l 4, .o] [a0, a1]) []).bind (fun (p : AV × Hp) => cvt false p.2 p.1) = some v := (R_season_version_eq (fun v g => cvt false g v) (nrm (.l 4) a0) a1 []).trans hv
  exact (closedX_bind (shr := [.o, .o]) ha e h).trans (congrArg (fun x => some (x, h)) (nrmR_rep 2 v))
theorem F_season_version_own {a0 : AV} {a1 : AV} {x0 : AV} {x1 : AV} {h : Hp} {v : AV} (ha : cvts false h [x0, x1] = some [a0, a1]) (hv : ∀ st, f_season_version Try.prog t_season_version d_season_version NN (fun v g => cvt st g v) (nrm (.l 4) a0) a1 [] = some v) : F_season_version [x0, x1] h = some (v, h) := by
  have e : ∀ st, (R_season_version (nrms [.l 4, .o] [a0, a1]) []).bind (fun (p : AV × Hp) => cvt st p.2 p.1) = some v := fun st => (R_season_version_eq (fun v g => cvt st g v) (nrm (.l 4) a0) a1 []).trans (hv st)
  exact (closedX_ownB (shr := [.o, .o]) ha e).trans (congrArg (fun x => some (x, h)) (nrmR_rep 2 v))
/-! spile/calendar.is -/
noncomputable def t_calendar_is : Tab := T0
theorem t_calendar_is_ok : TSound Try.prog t_calendar_is := TSound.zero
noncomputable def d_calendar_is : DTab := D0
theorem d_calendar_is_ok : DSound Try.prog d_calendar_is := DSound.zero
noncomputable def R_calendar_is : Fun := runF Try.prog t_calendar_is d_calendar_is NN [0, 2] Try.f68 1
theorem R_calendar_is_ok : CSound Try.prog 68 R_calendar_is := run_sound t_calendar_is_ok d_calendar_is_ok mixed Try.func68 (by kernel_rfl) NN
theorem R_calendar_is_eq {β : Type} (K : AV → Hp → Option β) (a0 : AV) (h : Hp) : (R_calendar_is [a0] h).bind (fun p => K p.1 p.2) = f_calendar_is Try.prog t_calendar_is d_calendar_is NN K a0 h := by
  rw [← f_calendar_is_run]; exact runF_bind rfl
noncomputable def F_calendar_is : Fun := closedX [.o] [.o] R_calendar_is
theorem F_calendar_is_ok : CSound Try.prog 68 F_calendar_is := closedX_sound _ _ R_calendar_is_ok
noncomputable def G_calendar_is : DFun := closedXD [.o] [.o] R_calendar_is
theorem G_calendar_is_ro : Ro F_calendar_is G_calendar_is := closedX_ro _ _ _
theorem F_calendar_is_run {a0 : AV} {v : AV} (ha : plains [a0] = true) (hv : f_calendar_is Try.prog t_calendar_is d_calendar_is NN (fun v g => cvt false g v) a0 [] = some v) (h : Hp) : F_calendar_is [a0] h = some (v, h) := by
  have e : (R_calendar_is (nrms [.o] [a0]) []).bind (fun (p : AV × Hp) => cvt false p.2 p.1) = some v := (R_calendar_is_eq (fun v g => cvt false g v) a0 []).trans hv
  exact (closedX_bind (shr := [.o]) ha e h).trans (congrArg (fun x => some (x, h)) (nrmR_rep 1 v))
theorem F_calendar_is_own {a0 : AV} {x0 : AV} {h : Hp} {v : AV} (ha : cvts false h [x0] = some [a0]) (hv : ∀ st, f_calendar_is Try.prog t_calendar_is d_calendar_is NN (fun v g => cvt st g v) a0 [] = some v) : F_calendar_is [x0] h = some (v, h) := by
  have e : ∀ st, (R_calendar_is (nrms [.o] [a0]) []).bind (fun (p : AV × Hp) => cvt st p.2 p.1) = some v := fun st => (R_calendar_is_eq (fun v g => cvt st g v) a0 []).trans (hv st)
  exact (closedX_ownB (shr := [.o]) ha e).trans (congrArg (fun x => some (x, h)) (nrmR_rep 1 v))
/-! spile/calendar.leap -/
noncomputable def t_calendar_leap : Tab := T0
theorem t_calendar_leap_ok : TSound Try.prog t_calendar_leap := TSound.zero
noncomputable def d_calendar_leap : DTab := D0
theorem d_calendar_leap_ok : DSound Try.prog d_calendar_leap := DSound.zero
noncomputable def R_calendar_leap : Fun := runF Try.prog t_calendar_leap d_calendar_leap NN [0, 2] Try.f77 1
theorem R_calendar_leap_ok : CSound Try.prog 77 R_calendar_leap := run_sound t_calendar_leap_ok d_calendar_leap_ok mixed Try.func77 (by kernel_rfl) NN
theorem R_calendar_leap_eq {β : Type} (K : AV → Hp → Option β) (a0 : AV) (h : Hp) : (R_calendar_leap [a0] h).bind (fun p => K p.1 p.2) = f_calendar_leap Try.prog t_calendar_leap d_calendar_leap NN K a0 h := by
  rw [← f_calendar_leap_run]; exact runF_bind rfl
noncomputable def F_calendar_leap : Fun := closedX [.o] [.o] R_calendar_leap
theorem F_calendar_leap_ok : CSound Try.prog 77 F_calendar_leap := closedX_sound _ _ R_calendar_leap_ok
noncomputable def G_calendar_leap : DFun := closedXD [.o] [.o] R_calendar_leap
theorem G_calendar_leap_ro : Ro F_calendar_leap G_calendar_leap := closedX_ro _ _ _
theorem F_calendar_leap_run {a0 : AV} {v : AV} (ha : plains [a0] = true) (hv : f_calendar_leap Try.prog t_calendar_leap d_calendar_leap NN (fun v g => cvt false g v) a0 [] = some v) (h : Hp) : F_calendar_leap [a0] h = some (v, h) := by
  have e : (R_calendar_leap (nrms [.o] [a0]) []).bind (fun (p : AV × Hp) => cvt false p.2 p.1) = some v := (R_calendar_leap_eq (fun v g => cvt false g v) a0 []).trans hv
  exact (closedX_bind (shr := [.o]) ha e h).trans (congrArg (fun x => some (x, h)) (nrmR_rep 1 v))
theorem F_calendar_leap_own {a0 : AV} {x0 : AV} {h : Hp} {v : AV} (ha : cvts false h [x0] = some [a0]) (hv : ∀ st, f_calendar_leap Try.prog t_calendar_leap d_calendar_leap NN (fun v g => cvt st g v) a0 [] = some v) : F_calendar_leap [x0] h = some (v, h) := by
  have e : ∀ st, (R_calendar_leap (nrms [.o] [a0]) []).bind (fun (p : AV × Hp) => cvt st p.2 p.1) = some v := fun st => (R_calendar_leap_eq (fun v g => cvt st g v) a0 []).trans (hv st)
  exact (closedX_ownB (shr := [.o]) ha e).trans (congrArg (fun x => some (x, h)) (nrmR_rep 1 v))
/-! spile/calendar.length -/
noncomputable def t_calendar_length : Tab := (updF T0 77 F_calendar_leap)
theorem t_calendar_length_ok : TSound Try.prog t_calendar_length := (TSound.upd TSound.zero F_calendar_leap_ok)
@[simp] theorem t_calendar_length_77 : t_calendar_length 77 = some F_calendar_leap := rfl
noncomputable def d_calendar_length : DTab := D0
theorem d_calendar_length_ok : DSound Try.prog d_calendar_length := DSound.zero
noncomputable def R_calendar_length : Fun := runF Try.prog t_calendar_length d_calendar_length NN [0, 1, 4, 5, 12] Try.f70 2
theorem R_calendar_length_ok : CSound Try.prog 70 R_calendar_length := run_sound t_calendar_length_ok d_calendar_length_ok mixed Try.func70 (by kernel_rfl) NN
theorem R_calendar_length_eq {β : Type} (K : AV → Hp → Option β) (a0 : AV) (a1 : AV) (h : Hp) : (R_calendar_length [a0, a1] h).bind (fun p => K p.1 p.2) = f_calendar_length Try.prog t_calendar_length d_calendar_length NN K a0 a1 h := by
  rw [← f_calendar_length_run]; exact runF_bind rfl
noncomputable def F_calendar_length : Fun := closedX [.o, .o] [.o] R_calendar_length
theorem F_calendar_length_ok : CSound Try.prog 70 F_calendar_length := closedX_sound _ _ R_calendar_length_ok
noncomputable def G_calendar_length : DFun := closedXD [.o, .o] [.o] R_calendar_length
theorem G_calendar_length_ro : Ro F_calendar_length G_calendar_length := closedX_ro _ _ _
theorem F_calendar_length_run {a0 : AV} {a1 : AV} {v : AV} (ha : plains [a0, a1] = true) (hv : f_calendar_length Try.prog t_calendar_length d_calendar_length NN (fun v g => cvt false g v) a0 a1 [] = some v) (h : Hp) : F_calendar_length [a0, a1] h = some (v, h) := by
  have e : (R_calendar_length (nrms [.o, .o] [a0, a1]) []).bind (fun (p : AV × Hp) => cvt false p.2 p.1) = some v := (R_calendar_length_eq (fun v g => cvt false g v) a0 a1 []).trans hv
  exact (closedX_bind (shr := [.o]) ha e h).trans (congrArg (fun x => some (x, h)) (nrmR_rep 1 v))
theorem F_calendar_length_own {a0 : AV} {a1 : AV} {x0 : AV} {x1 : AV} {h : Hp} {v : AV} (ha : cvts false h [x0, x1] = some [a0, a1]) (hv : ∀ st, f_calendar_length Try.prog t_calendar_length d_calendar_length NN (fun v g => cvt st g v) a0 a1 [] = some v) : F_calendar_length [x0, x1] h = some (v, h) := by
  have e : ∀ st, (R_calendar_length (nrms [.o, .o] [a0, a1]) []).bind (fun (p : AV × Hp) => cvt st p.2 p.1) = some v := fun st => (R_calendar_length_eq (fun v g => cvt st g v) a0 a1 []).trans (hv st)
  exact (closedX_ownB (shr := [.o]) ha e).trans (congrArg (fun x => some (x, h)) (nrmR_rep 1 v))
/-! spile/calendar.before$1 -/
noncomputable def t_calendar_before_1 : Tab := T0
theorem t_calendar_before_1_ok : TSound Try.prog t_calendar_before_1 := TSound.zero
noncomputable def d_calendar_before_1 : DTab := D0
theorem d_calendar_before_1_ok : DSound Try.prog d_calendar_before_1 := DSound.zero
noncomputable def R_calendar_before_1 : Fun := runF Try.prog t_calendar_before_1 d_calendar_before_1 NN [0, 2] Try.f79 1
theorem R_calendar_before_1_ok : CSound Try.prog 79 R_calendar_before_1 := run_sound t_calendar_before_1_ok d_calendar_before_1_ok mixed Try.func79 (by kernel_rfl) NN
theorem R_calendar_before_1_eq {β : Type} (K : AV → Hp → Option β) (a0 : AV) (h : Hp) : (R_calendar_before_1 [a0] h).bind (fun p => K p.1 p.2) = f_calendar_before_1 Try.prog t_calendar_before_1 d_calendar_before_1 NN K a0 h := by
  rw [← f_calendar_before_1_run]; exact runF_bind rfl
noncomputable def F_calendar_before_1 : Fun := closedX [.o] [.o] R_calendar_before_1
theorem F_calendar_before_1_ok : CSound Try.prog 79 F_calendar_before_1 := closedX_sound _ _ R_calendar_before_1_ok
noncomputable def G_calendar_before_1 : DFun := closedXD [.o] [.o] R_calendar_before_1
theorem G_calendar_before_1_ro : Ro F_calendar_before_1 G_calendar_before_1 := closedX_ro _ _ _
theorem F_calendar_before_1_run {a0 : AV} {v : AV} (ha : plains [a0] = true) (hv : f_calendar_before_1 Try.prog t_calendar_before_1 d_calendar_before_1 NN (fun v g => cvt false g v) a0 [] = some v) (h : Hp) : F_calendar_before_1 [a0] h = some (v, h) := by
  have e : (R_calendar_before_1 (nrms [.o] [a0]) []).bind (fun (p : AV × Hp) => cvt false p.2 p.1) = some v := (R_calendar_before_1_eq (fun v g => cvt false g v) a0 []).trans hv
  exact (closedX_bind (shr := [.o]) ha e h).trans (congrArg (fun x => some (x, h)) (nrmR_rep 1 v))
theorem F_calendar_before_1_own {a0 : AV} {x0 : AV} {h : Hp} {v : AV} (ha : cvts false h [x0] = some [a0]) (hv : ∀ st, f_calendar_before_1 Try.prog t_calendar_before_1 d_calendar_before_1 NN (fun v g => cvt st g v) a0 [] = some v) : F_calendar_before_1 [x0] h = some (v, h) := by
  have e : ∀ st, (R_calendar_before_1 (nrms [.o] [a0]) []).bind (fun (p : AV × Hp) => cvt st p.2 p.1) = some v := fun st => (R_calendar_before_1_eq (fun v g => cvt st g v) a0 []).trans (hv st)
  exact (closedX_ownB (shr := [.o]) ha e).trans (congrArg (fun x => some (x, h)) (nrmR_rep 1 v))
/-! spile/calendar.before -/
noncomputable def t_calendar_before : Tab := (updF T0 79 F_calendar_before_1)
theorem t_calendar_before_ok : TSound Try.prog t_calendar_before := (TSound.upd TSound.zero F_calendar_before_1_ok)
@[simp] theorem t_calendar_before_79 : t_calendar_before 79 = some F_calendar_before_1 := rfl
noncomputable def d_calendar_before : DTab := D0
theorem d_calendar_before_ok : DSound Try.prog d_calendar_before := DSound.zero
noncomputable def R_calendar_before : Fun := runF Try.prog t_calendar_before d_calendar_before NN [0, 2, 3] Try.f76 1
theorem R_calendar_before_ok : CSound Try.prog 76 R_calendar_before := run_sound t_calendar_before_ok d_calendar_before_ok mixed Try.func76 (by kernel_rfl) NN
theorem R_calendar_before_eq {β : Type} (K : AV → Hp → Option β) (a0 : AV) (h : Hp) : (R_calendar_before [a0] h).bind (fun p => K p.1 p.2) = f_calendar_before Try.prog t_calendar_before d_calendar_before NN K a0 h := by
  rw [← f_calendar_before_run]; exact runF_bind rfl
noncomputable def F_calendar_before : Fun := closedX [.o] [.o] R_calendar_before
theorem F_calendar_before_ok : CSound Try.prog 76 F_calendar_before := closedX_sound _ _ R_calendar_before_ok
noncomputable def G_calendar_before : DFun := closedXD [.o] [.o] R_calendar_before
theorem G_calendar_before_ro : Ro F_calendar_before G_calendar_before := closedX_ro _ _ _
theorem F_calendar_before_run {a0 : AV} {v : AV} (ha : plains [a0] = true) (hv : f_calendar_before Try.prog t_calendar_before d_calendar_before NN (fun v g => cvt false g v) a0 [] = some v) (h : Hp) : F_calendar_before [a0] h = some (v, h) := by
  have e : (R_calendar_before (nrms [.o] [a0]) []).bind (fun (p : AV × Hp) => cvt false p.2 p.1) = some v := (R_calendar_before_eq (fun v g => cvt false g v) a0 []).trans hv
  exact (closedX_bind (shr := [.o]) ha e h).trans (congrArg (fun x => some (x, h)) (nrmR_rep 1 v))
theorem F_calendar_before_own {a0 : AV} {x0 : AV} {h : Hp} {v : AV} (ha : cvts false h [x0] = some [a0]) (hv : ∀ st, f_calendar_before Try.prog t_calendar_before d_calendar_before NN (fun v g => cvt st g v) a0 [] = some v) : F_calendar_before [x0] h = some (v, h) := by
  have e : ∀ st, (R_calendar_before (nrms [.o] [a0]) []).bind (fun (p : AV × Hp) => cvt st p.2 p.1) = some v := fun st => (R_calendar_before_eq (fun v g => cvt st g v) a0 []).trans (hv st)
  exact (closedX_ownB (shr := [.o]) ha e).trans (congrArg (fun x => some (x, h)) (nrmR_rep 1 v))
/-! spile/calendar.date -/
noncomputable def t_calendar_date : Tab := (updF (updF T0 70 F_calendar_length) 76 F_calendar_before)
theorem t_calendar_date_ok : TSound Try.prog t_calendar_date := (TSound.upd (TSound.upd TSound.zero F_calendar_length_ok) F_calendar_before_ok)
@[simp] theorem t_calendar_date_70 : t_calendar_date 70 = some F_calendar_length := rfl
@[simp] theorem t_calendar_date_76 : t_calendar_date 76 = some F_calendar_before := rfl
noncomputable def d_calendar_date : DTab := D0
theorem d_calendar_date_ok : DSound Try.prog d_calendar_date := DSound.zero
noncomputable def R_calendar_date : Fun := runF Try.prog t_calendar_date d_calendar_date NN [0, 2, 3, 13, 29] Try.f69 1
theorem R_calendar_date_ok : CSound Try.prog 69 R_calendar_date := run_sound t_calendar_date_ok d_calendar_date_ok mixed Try.func69 (by kernel_rfl) NN
theorem R_calendar_date_eq {β : Type} (K : AV → Hp → Option β) (a0 : AV) (h : Hp) : (R_calendar_date [a0] h).bind (fun p => K p.1 p.2) = f_calendar_date Try.prog t_calendar_date d_calendar_date NN K a0 h := by
  rw [← f_calendar_date_run]; exact runF_bind rfl
noncomputable def F_calendar_date : Fun := closedX [.o] [.o] R_calendar_date
theorem F_calendar_date_ok : CSound Try.prog 69 F_calendar_date := closedX_sound _ _ R_calendar_date_ok
noncomputable def G_calendar_date : DFun := closedXD [.o] [.o] R_calendar_date
theorem G_calendar_date_ro : Ro F_calendar_date G_calendar_date := closedX_ro _ _ _
theorem F_calendar_date_run {a0 : AV} {v : AV} (ha : plains [a0] = true) (hv : f_calendar_date Try.prog t_calendar_date d_calendar_date NN (fun v g => cvt false g v) a0 [] = some v) (h : Hp) : F_calendar_date [a0] h = some (v, h) := by
  have e : (R_calendar_date (nrms [.o] [a0]) []).bind (fun (p : AV × Hp) => cvt false p.2 p.1) = some v := (R_calendar_date_eq (fun v g => cvt false g v) a0 []).trans hv
  exact (closedX_bind (shr := [.o]) ha e h).trans (congrArg (fun x => some (x, h)) (nrmR_rep 1 v))
theorem F_calendar_date_own {a0 : AV} {x0 : AV} {h : Hp} {v : AV} (ha : cvts false h [x0] = some [a0]) (hv : ∀ st, f_calendar_date Try.prog t_calendar_date d_calendar_date NN (fun v g => cvt st g v) a0 [] = some v) : F_calendar_date [x0] h = some (v, h) := by
  have e : ∀ st, (R_calendar_date (nrms [.o] [a0]) []).bind (fun (p : AV × Hp) => cvt st p.2 p.1) = some v := fun st => (R_calendar_date_eq (fun v g => cvt st g v) a0 []).trans (hv st)
  exact (closedX_ownB (shr := [.o]) ha e).trans (congrArg (fun x => some (x, h)) (nrmR_rep 1 v))
/-! spile/calendar.Date -/
noncomputable def t_calendar_Date : Tab := (updF (updF T0 68 F_calendar_is) 69 F_calendar_date)
theorem t_calendar_Date_ok : TSound Try.prog t_calendar_Date := (TSound.upd (TSound.upd TSound.zero F_calendar_is_ok) F_calendar_date_ok)
@[simp] theorem t_calendar_Date_68 : t_calendar_Date 68 = some F_calendar_is := rfl
@[simp] theorem t_calendar_Date_69 : t_calendar_Date 69 = some F_calendar_date := rfl
noncomputable def d_calendar_Date : DTab := D0
theorem d_calendar_Date_ok : DSound Try.prog d_calendar_Date := DSound.zero
noncomputable def R_calendar_Date : Fun := runF Try.prog t_calendar_Date d_calendar_Date NN [0, 2, 3, 6] Try.f53 1
theorem R_calendar_Date_ok : CSound Try.prog 53 R_calendar_Date := run_sound t_calendar_Date_ok d_calendar_Date_ok mixed Try.func53 (by kernel_rfl) NN
theorem R_calendar_Date_eq {β : Type} (K : AV → Hp → Option β) (a0 : AV) (h : Hp) : (R_calendar_Date [a0] h).bind (fun p => K p.1 p.2) = f_calendar_Date Try.prog t_calendar_Date d_calendar_Date NN K a0 h := by
  rw [← f_calendar_Date_run]; exact runF_bind rfl
noncomputable def F_calendar_Date : Fun := closedX [.o] [.o, .o] R_calendar_Date
theorem F_calendar_Date_ok : CSound Try.prog 53 F_calendar_Date := closedX_sound _ _ R_calendar_Date_ok
noncomputable def G_calendar_Date : DFun := closedXD [.o] [.o, .o] R_calendar_Date
theorem G_calendar_Date_ro : Ro F_calendar_Date G_calendar_Date := closedX_ro _ _ _
theorem F_calendar_Date_run {a0 : AV} {v : AV} (ha : plains [a0] = true) (hv : f_calendar_Date Try.prog t_calendar_Date d_calendar_Date NN (fun v g => cvt false g v) a0 [] = some v) (h : Hp) : F_calendar_Date [a0] h = some (v, h) := by
  have e : (R_calendar_Date (nrms [.o] [a0]) []).bind (fun (p : AV × Hp) => cvt false p.2 p.1) = some v := (R_calendar_Date_eq (fun v g => cvt false g v) a0 []).trans hv
  exact (closedX_bind (shr := [.o, .o]) ha e h).trans (congrArg (fun x => some (x, h)) (nrmR_rep 2 v))
theorem F_calendar_Date_own {a0 : AV} {x0 : AV} {h : Hp} {v : AV} (ha : cvts false h [x0] = some [a0]) (hv : ∀ st, f_calendar_Date Try.prog t_calendar_Date d_calendar_Date NN (fun v g => cvt st g v) a0 [] = some v) : F_calendar_Date [x0] h = some (v, h) := by
  have e : ∀ st, (R_calendar_Date (nrms [.o] [a0]) []).bind (fun (p : AV × Hp) => cvt st p.2 p.1) = some v := fun st => (R_calendar_Date_eq (fun v g => cvt st g v) a0 []).trans (hv st)
  exact (closedX_ownB (shr := [.o, .o]) ha e).trans (congrArg (fun x => some (x, h)) (nrmR_rep 2 v))
/-! spile/calendar.number -/
noncomputable def t_calendar_number : Tab := (updF (updF T0 70 F_calendar_length) 76 F_calendar_before)
theorem t_calendar_number_ok : TSound Try.prog t_calendar_number := (TSound.upd (TSound.upd TSound.zero F_calendar_length_ok) F_calendar_before_ok)
@[simp] theorem t_calendar_number_70 : t_calendar_number 70 = some F_calendar_length := rfl
@[simp] theorem t_calendar_number_76 : t_calendar_number 76 = some F_calendar_before := rfl
noncomputable def d_calendar_number : DTab := (updD D0 76 G_calendar_before)
theorem d_calendar_number_ok : DSound Try.prog d_calendar_number := (DSound.ro DSound.zero G_calendar_before_ro F_calendar_before_ok)
@[simp] theorem d_calendar_number_76 : d_calendar_number 76 = some G_calendar_before := rfl
noncomputable def R_calendar_number : Fun := runF Try.prog t_calendar_number d_calendar_number NN [0, 1, 2, 3, 4, 15] Try.f71 1
theorem R_calendar_number_ok : CSound Try.prog 71 R_calendar_number := run_sound t_calendar_number_ok d_calendar_number_ok mixed Try.func71 (by kernel_rfl) NN
theorem R_calendar_number_eq {β : Type} (K : AV → Hp → Option β) (a0 : AV) (h : Hp) : (R_calendar_number [a0] h).bind (fun p => K p.1 p.2) = f_calendar_number Try.prog t_calendar_number d_calendar_number NN K a0 h := by
  rw [← f_calendar_number_run]; exact runF_bind rfl
noncomputable def F_calendar_number : Fun := closedX [.o] [.o] R_calendar_number
theorem F_calendar_number_ok : CSound Try.prog 71 F_calendar_number := closedX_sound _ _ R_calendar_number_ok
noncomputable def G_calendar_number : DFun := closedXD [.o] [.o] R_calendar_number
theorem G_calendar_number_ro : Ro F_calendar_number G_calendar_number := closedX_ro _ _ _
theorem F_calendar_number_run {a0 : AV} {v : AV} (ha : plains [a0] = true) (hv : f_calendar_number Try.prog t_calendar_number d_calendar_number NN (fun v g => cvt false g v) a0 [] = some v) (h : Hp) : F_calendar_number [a0] h = some (v, h) := by
  have e : (R_calendar_number (nrms [.o] [a0]) []).bind (fun (p : AV × Hp) => cvt false p.2 p.1) = some v := (R_calendar_number_eq (fun v g => cvt false g v) a0 []).trans hv
  exact (closedX_bind (shr := [.o]) ha e h).trans (congrArg (fun x => some (x, h)) (nrmR_rep 1 v))
theorem F_calendar_number_own {a0 : AV} {x0 : AV} {h : Hp} {v : AV} (ha : cvts false h [x0] = some [a0]) (hv : ∀ st, f_calendar_number Try.prog t_calendar_number d_calendar_number NN (fun v g => cvt st g v) a0 [] = some v) : F_calendar_number [x0] h = some (v, h) := by
  have e : ∀ st, (R_calendar_number (nrms [.o] [a0]) []).bind (fun (p : AV × Hp) => cvt st p.2 p.1) = some v := fun st => (R_calendar_number_eq (fun v g => cvt st g v) a0 []).trans (hv st)
  exact (closedX_ownB (shr := [.o]) ha e).trans (congrArg (fun x => some (x, h)) (nrmR_rep 1 v))
/-! spile/calendar.Day -/
noncomputable def t_calendar_Day : Tab := (updF (updF (updF (updF T0 68 F_calendar_is) 69 F_calendar_date) 70 F_calendar_length) 71 F_calendar_number)
theorem t_calendar_Day_ok : TSound Try.prog t_calendar_Day := (TSound.upd (TSound.upd (TSound.upd (TSound.upd TSound.zero F_calendar_is_ok) F_calendar_date_ok) F_calendar_length_ok) F_calendar_number_ok)
@[simp] theorem t_calendar_Day_68 : t_calendar_Day 68 = some F_calendar_is := rfl
@[simp] theorem t_calendar_Day_69 : t_calendar_Day 69 = some F_calendar_date := rfl
@[simp] theorem t_calendar_Day_70 : t_calendar_Day 70 = some F_calendar_length := rfl
@[simp] theorem t_calendar_Day_71 : t_calendar_Day 71 = some F_calendar_number := rfl
noncomputable def d_calendar_Day : DTab := (updD (updD (updD D0 68 G_calendar_is) 69 G_calendar_date) 70 G_calendar_length)
theorem d_calendar_Day_ok : DSound Try.prog d_calendar_Day := (DSound.ro (DSound.ro (DSound.ro DSound.zero G_calendar_is_ro F_calendar_is_ok) G_calendar_date_ro F_calendar_date_ok) G_calendar_length_ro F_calendar_length_ok)
@[simp] theorem d_calendar_Day_68 : d_calendar_Day 68 = some G_calendar_is := rfl
@[simp] theorem d_calendar_Day_69 : d_calendar_Day 69 = some G_calendar_date := rfl
@[simp] theorem d_calendar_Day_70 : d_calendar_Day 70 = some G_calendar_length := rfl
noncomputable def R_calendar_Day : Fun := runF Try.prog t_calendar_Day d_calendar_Day NN [0, 1, 2, 3, 4, 37, 48] Try.f54 1
theorem R_calendar_Day_ok : CSound Try.prog 54 R_calendar_Day := run_sound t_calendar_Day_ok d_calendar_Day_ok mixed Try.func54 (by kernel_rfl) NN
theorem R_calendar_Day_eq {β : Type} (K : AV → Hp → Option β) (a0 : AV) (h : Hp) : (R_calendar_Day [a0] h).bind (fun p => K p.1 p.2) = f_calendar_Day Try.prog t_calendar_Day d_calendar_Day NN K a0 h := by
  rw [← f_calendar_Day_run]; exact runF_bind rfl
noncomputable def F_calendar_Day : Fun := closedX [.o] [.o, .o] R_calendar_Day
theorem F_calendar_Day_ok : CSound Try.prog 54 F_calendar_Day := closedX_sound _ _ R_calendar_Day_ok
noncomputable def G_calendar_Day : DFun := closedXD [.o] [.o, .o] R_calendar_Day
theorem G_calendar_Day_ro : Ro F_calendar_Day G_calendar_Day := closedX_ro _ _ _
theorem F_calendar_Day_run {a0 : AV} {v : AV} (ha : plains [a0] = true) (hv : f_calendar_Day Try.prog t_calendar_Day d_calendar_Day NN (fun v g => cvt false g v) a0 [] = some v) (h : Hp) : F_calendar_Day [a0] h = some (v, h) := by
  have e : (R_calendar_Day (nrms [.o] [a0]) []).bind (fun (p : AV × Hp) => cvt false p.2 p.1) = some v := (R_calendar_Day_eq (fun v g => cvt false g v) a0 []).trans hv
  exact (closedX_bind (shr := [.o, .o]) ha e h).trans (congrArg (fun x => some (x, h)) (nrmR_rep 2 v))
theorem F_calendar_Day_own {a0 : AV} {x0 : AV} {h : Hp} {v : AV} (ha : cvts false h [x0] = some [a0]) (hv : ∀ st, f_calendar_Day Try.prog t_calendar_Day d_calendar_Day NN (fun v g => cvt st g v) a0 [] = some v) : F_calendar_Day [x0] h = some (v, h) := by
  have e : ∀ st, (R_calendar_Day (nrms [.o] [a0]) []).bind (fun (p : AV × Hp) => cvt st p.2 p.1) = some v := fun st => (R_calendar_Day_eq (fun v g => cvt st g v) a0 []).trans (hv st)
  exact (closedX_ownB (shr := [.o, .o]) ha e).trans (congrArg (fun x => some (x, h)) (nrmR_rep 2 v))
/-! spile/season.on$1 -/
noncomputable def t_season_on_1 : Tab := T0
theorem t_season_on_1_ok : TSound Try.prog t_season_on_1 := TSound.zero
noncomputable def d_season_on_1 : DTab := D0
theorem d_season_on_1_ok : DSound Try.prog d_season_on_1 := DSound.zero
noncomputable def R_season_on_1 : Fun := runF Try.prog t_season_on_1 d_season_on_1 NN [0, 1, 2, 4] Try.f56 3
theorem R_season_on_1_ok : CSound Try.prog 56 R_season_on_1 := run_sound t_season_on_1_ok d_season_on_1_ok mixed Try.func56 (by kernel_rfl) NN
theorem R_season_on_1_eq {β : Type} (K : AV → Hp → Option β) (a0 : AV) (a1 : AV) (a2 : AV) (h : Hp) : (R_season_on_1 [a0, a1, a2] h).bind (fun p => K p.1 p.2) = f_season_on_1 Try.prog t_season_on_1 d_season_on_1 NN K a0 a1 a2 h := by
  rw [← f_season_on_1_run]; exact runF_bind rfl
noncomputable def F_season_on_1 : Fun := quietT R_season_on_1
theorem F_season_on_1_ok : CSound Try.prog 56 F_season_on_1 := quietT_sound R_season_on_1_ok
noncomputable def G_season_on_1 : DFun := roD F_season_on_1
theorem G_season_on_1_ro : Ro F_season_on_1 G_season_on_1 := ro_ro _
theorem F_season_on_1_q {a0 : AV} {a1 : AV} {a2 : AV} {h : Hp} {g : List AObj} {v : AV} (hv : f_season_on_1 Try.prog t_season_on_1 d_season_on_1 NN (fun v h => some (v, h)) a0 a1 a2 h = some (v, h ++ g)) (hp : plain v = true) : F_season_on_1 [a0, a1, a2] h = some (v, h) := quietT_val (F := R_season_on_1) (((bind_pair _).symm.trans (R_season_on_1_eq (fun v h => some (v, h)) a0 a1 a2 h)).trans hv) hp
/-! sort.Search : spile/season.on$1 -/
noncomputable def t_sort_Search__season_on_1 : Tab := (updF T0 56 F_season_on_1)
theorem t_sort_Search__season_on_1_ok : TSound Try.prog t_sort_Search__season_on_1 := (TSound.upd TSound.zero F_season_on_1_ok)
@[simp] theorem t_sort_Search__season_on_1_56 : t_sort_Search__season_on_1 56 = some F_season_on_1 := rfl
noncomputable def d_sort_Search__season_on_1 : DTab := D0
theorem d_sort_Search__season_on_1_ok : DSound Try.prog d_sort_Search__season_on_1 := DSound.zero
noncomputable def R_sort_Search__season_on_1 : Fun := runF Try.prog t_sort_Search__season_on_1 d_sort_Search__season_on_1 NN [0, 1, 4, 5, 6, 7, 11, 21] Try.f55 2
theorem R_sort_Search__season_on_1_ok : CSound Try.prog 55 R_sort_Search__season_on_1 := run_sound t_sort_Search__season_on_1_ok d_sort_Search__season_on_1_ok mixed Try.func55 (by kernel_rfl) NN
theorem R_sort_Search__season_on_1_eq {β : Type} (K : AV → Hp → Option β) (a0 : AV) (a1 : AV) (h : Hp) : (R_sort_Search__season_on_1 [a0, a1] h).bind (fun p => K p.1 p.2) = f_sort_Search Try.prog t_sort_Search__season_on_1 d_sort_Search__season_on_1 NN K a0 a1 h := by
  rw [← f_sort_Search_run]; exact runF_bind rfl
noncomputable def F_sort_Search__season_on_1 : Fun := quietT R_sort_Search__season_on_1
theorem F_sort_Search__season_on_1_ok : CSound Try.prog 55 F_sort_Search__season_on_1 := quietT_sound R_sort_Search__season_on_1_ok
noncomputable def G_sort_Search__season_on_1 : DFun := roD F_sort_Search__season_on_1
theorem G_sort_Search__season_on_1_ro : Ro F_sort_Search__season_on_1 G_sort_Search__season_on_1 := ro_ro _
theorem F_sort_Search__season_on_1_q {a0 : AV} {a1 : AV} {h : Hp} {g : List AObj} {v : AV} (hv : f_sort_Search Try.prog t_sort_Search__season_on_1 d_sort_Search__season_on_1 NN (fun v h => some (v, h)) a0 a1 h = some (v, h ++ g)) (hp : plain v = true) : F_sort_Search__season_on_1 [a0, a1] h = some (v, h) := quietT_val (F := R_sort_Search__season_on_1) (((bind_pair _).symm.trans (R_sort_Search__season_on_1_eq (fun v h => some (v, h)) a0 a1 h)).trans hv) hp
/-! spile/season.rate$1 -/
noncomputable def t_season_rate_1 : Tab := (updF T0 43 F_season_before)
theorem t_season_rate_1_ok : TSound Try.prog t_season_rate_1 := (TSound.upd TSound.zero F_season_before_ok)
@[simp] theorem t_season_rate_1_43 : t_season_rate_1 43 = some F_season_before := rfl
noncomputable def d_season_rate_1 : DTab := D0
theorem d_season_rate_1_ok : DSound Try.prog d_season_rate_1 := DSound.zero
noncomputable def R_season_rate_1 : Fun := runF Try.prog t_season_rate_1 d_season_rate_1 NN [0, 1, 2, 4] Try.f72 3
theorem R_season_rate_1_ok : CSound Try.prog 72 R_season_rate_1 := run_sound t_season_rate_1_ok d_season_rate_1_ok mixed Try.func72 (by kernel_rfl) NN
theorem R_season_rate_1_eq {β : Type} (K : AV → Hp → Option β) (a0 : AV) (a1 : AV) (a2 : AV) (h : Hp) : (R_season_rate_1 [a0, a1, a2] h).bind (fun p => K p.1 p.2) = f_season_rate_1 Try.prog t_season_rate_1 d_season_rate_1 NN K a0 a1 a2 h := by
  rw [← f_season_rate_1_run]; exact runF_bind rfl
noncomputable def F_season_rate_1 : Fun := quietT R_season_rate_1
theorem F_season_rate_1_ok : CSound Try.prog 72 F_season_rate_1 := quietT_sound R_season_rate_1_ok
noncomputable def G_season_rate_1 : DFun := roD F_season_rate_1
theorem G_season_rate_1_ro : Ro F_season_rate_1 G_season_rate_1 := ro_ro _
theorem F_season_rate_1_q {a0 : AV} {a1 : AV} {a2 : AV} {h : Hp} {g : List AObj} {v : AV} (hv : f_season_rate_1 Try.prog t_season_rate_1 d_season_rate_1 NN (fun v h => some (v, h)) a0 a1 a2 h = some (v, h ++ g)) (hp : plain v = true) : F_season_rate_1 [a0, a1, a2] h = some (v, h) := quietT_val (F := R_season_rate_1) (((bind_pair _).symm.trans (R_season_rate_1_eq (fun v h => some (v, h)) a0 a1 a2 h)).trans hv) hp
/-! sort.Search : spile/season.rate$1 -/
noncomputable def t_sort_Search__season_rate_1 : Tab := (updF T0 72 F_season_rate_1)
theorem t_sort_Search__season_rate_1_ok : TSound Try.prog t_sort_Search__season_rate_1 := (TSound.upd TSound.zero F_season_rate_1_ok)
@[simp] theorem t_sort_Search__season_rate_1_72 : t_sort_Search__season_rate_1 72 = some F_season_rate_1 := rfl
noncomputable def d_sort_Search__season_rate_1 : DTab := D0
theorem d_sort_Search__season_rate_1_ok : DSound Try.prog d_sort_Search__season_rate_1 := DSound.zero
noncomputable def R_sort_Search__season_rate_1 : Fun := runF Try.prog t_sort_Search__season_rate_1 d_sort_Search__season_rate_1 NN [0, 1, 4, 5, 6, 7, 11, 21] Try.f55 2
theorem R_sort_Search__season_rate_1_ok : CSound Try.prog 55 R_sort_Search__season_rate_1 := run_sound t_sort_Search__season_rate_1_ok d_sort_Search__season_rate_1_ok mixed Try.func55 (by kernel_rfl) NN
theorem R_sort_Search__season_rate_1_eq {β : Type} (K : AV → Hp → Option β) (a0 : AV) (a1 : AV) (h : Hp) : (R_sort_Search__season_rate_1 [a0, a1] h).bind (fun p => K p.1 p.2) = f_sort_Search Try.prog t_sort_Search__season_rate_1 d_sort_Search__season_rate_1 NN K a0 a1 h := by
  rw [← f_sort_Search_run]; exact runF_bind rfl
noncomputable def F_sort_Search__season_rate_1 : Fun := quietT R_sort_Search__season_rate_1
theorem F_sort_Search__season_rate_1_ok : CSound Try.prog 55 F_sort_Search__season_rate_1 := quietT_sound R_sort_Search__season_rate_1_ok
noncomputable def G_sort_Search__season_rate_1 : DFun := roD F_sort_Search__season_rate_1
theorem G_sort_Search__season_rate_1_ro : Ro F_sort_Search__season_rate_1 G_sort_Search__season_rate_1 := ro_ro _
theorem F_sort_Search__season_rate_1_q {a0 : AV} {a1 : AV} {h : Hp} {g : List AObj} {v : AV} (hv : f_sort_Search Try.prog t_sort_Search__season_rate_1 d_sort_Search__season_rate_1 NN (fun v h => some (v, h)) a0 a1 h = some (v, h ++ g)) (hp : plain v = true) : F_sort_Search__season_rate_1 [a0, a1] h = some (v, h) := quietT_val (F := R_sort_Search__season_rate_1) (((bind_pair _).symm.trans (R_sort_Search__season_rate_1_eq (fun v h => some (v, h)) a0 a1 h)).trans hv) hp
/-! spile/season.rate -/
noncomputable def t_season_rate : Tab := (updF (updF T0 55 F_sort_Search__season_rate_1) 72 F_season_rate_1)
theorem t_season_rate_ok : TSound Try.prog t_season_rate := (TSound.upd (TSound.upd TSound.zero F_sort_Search__season_rate_1_ok) F_season_rate_1_ok)
@[simp] theorem t_season_rate_55 : t_season_rate 55 = some F_sort_Search__season_rate_1 := rfl
@[simp] theorem t_season_rate_72 : t_season_rate 72 = some F_season_rate_1 := rfl
noncomputable def d_season_rate : DTab := D0
theorem d_season_rate_ok : DSound Try.prog d_season_rate := DSound.zero
noncomputable def R_season_rate : Fun := runF Try.prog t_season_rate d_season_rate NN [0, 1, 2, 3, 4, 8, 9, 10, 49] Try.f57 4
theorem R_season_rate_ok : CSound Try.prog 57 R_season_rate := run_sound t_season_rate_ok d_season_rate_ok mixed Try.func57 (by kernel_rfl) NN
theorem R_season_rate_eq {β : Type} (K : AV → Hp → Option β) (a0 : AV) (a1 : AV) (a2 : AV) (a3 : AV) (h : Hp) : (R_season_rate [a0, a1, a2, a3] h).bind (fun p => K p.1 p.2) = f_season_rate Try.prog t_season_rate d_season_rate NN K a0 a1 a2 a3 h := by
  rw [← f_season_rate_run]; exact runF_bind rfl
noncomputable def F_season_rate : Fun := closedX [.l 4, .o, .o, .o] [.o] R_season_rate
theorem F_season_rate_ok : CSound Try.prog 57 F_season_rate := closedX_sound _ _ R_season_rate_ok
noncomputable def G_season_rate : DFun := closedXD [.l 4, .o, .o, .o] [.o] R_season_rate
theorem G_season_rate_ro : Ro F_season_rate G_season_rate := closedX_ro _ _ _
theorem F_season_rate_run {a0 : AV} {a1 : AV} {a2 : AV} {a3 : AV} {v : AV} (ha : plains [a0, a1, a2, a3] = true) (hv : f_season_rate Try.prog t_season_rate d_season_rate NN (fun v g => cvt false g v) (nrm (.l 4) a0) a1 a2 a3 [] = some v) (h : Hp) : F_season_rate [a0, a1, a2, a3] h = some (v, h) := by
  have e : (R_season_rate (nrms [.l 4, .o, .o, .o] [a0, a1, a2, a3]) []).bind (fun (p : AV × Hp) => cvt false p.2 p.1) = some v := (R_season_rate_eq (fun v g => cvt false g v) (nrm (.l 4) a0) a1 a2 a3 []).trans hv
  exact (closedX_bind (shr := [.o]) ha e h).trans (congrArg (fun x => some (x, h)) (nrmR_rep 1 v))
theorem F_season_rate_own {a0 : AV} {a1 : AV} {a2 : AV} {a3 : AV} {x0 : AV} {x1 : AV} {x2 : AV} {x3 : AV} {h : Hp} {v : AV} (ha : cvts false h [x0, x1, x2, x3] = some [a0, a1, a2, a3]) (hv : ∀ st, f_season_rate Try.prog t_season_rate d_season_rate NN (fun v g => cvt st g v) (nrm (.l 4) a0) a1 a2 a3 [] = some v) : F_season_rate [x0, x1, x2, x3] h = some (v, h) := by
  have e : ∀ st, (R_season_rate (nrms [.l 4, .o, .o, .o] [a0, a1, a2, a3]) []).bind (fun (p : AV × Hp) => cvt st p.2 p.1) = some v := fun st => (R_season_rate_eq (fun v g => cvt st g v) (nrm (.l 4) a0) a1 a2 a3 []).trans (hv st)
  exact (closedX_ownB (shr := [.o]) ha e).trans (congrArg (fun x => some (x, h)) (nrmR_rep 1 v))
/-! spile/season.on -/
noncomputable def t_season_on : Tab := (updF (updF (updF (updF (updF (updF T0 45 F_season_version) 53 F_calendar_Date) 54 F_calendar_Day) 55 F_sort_Search__season_on_1) 56 F_season_on_1) 57 F_season_rate)
theorem t_season_on_ok : TSound Try.prog t_season_on := (TSound.upd (TSound.upd (TSound.upd (TSound.upd (TSound.upd (TSound.upd TSound.zero F_season_version_ok) F_calendar_Date_ok) F_calendar_Day_ok) F_sort_Search__season_on_1_ok) F_season_on_1_ok) F_season_rate_ok)
@[simp] theorem t_season_on_45 : t_season_on 45 = some F_season_version := rfl
@[simp] theorem t_season_on_53 : t_season_on 53 = some F_calendar_Date := rfl
@[simp] theorem t_season_on_54 : t_season_on 54 = some F_calendar_Day := rfl
@[simp] theorem t_season_on_55 : t_season_on 55 = some F_sort_Search__season_on_1 := rfl
@[simp] theorem t_season_on_56 : t_season_on 56 = some F_season_on_1 := rfl
@[simp] theorem t_season_on_57 : t_season_on 57 = some F_season_rate := rfl
noncomputable def d_season_on : DTab := D0
theorem d_season_on_ok : DSound Try.prog d_season_on := DSound.zero
noncomputable def R_season_on : Fun := runF Try.prog t_season_on d_season_on NN [0, 1, 2, 3, 5, 6, 7, 8, 10, 11, 12, 13, 14, 15, 29, 41, 49, 64] Try.f42 3
theorem R_season_on_ok : CSound Try.prog 42 R_season_on := run_sound t_season_on_ok d_season_on_ok mixed Try.func42 (by kernel_rfl) NN
theorem R_season_on_eq {β : Type} (K : AV → Hp → Option β) (a0 : AV) (a1 : AV) (a2 : AV) (h : Hp) : (R_season_on [a0, a1, a2] h).bind (fun p => K p.1 p.2) = f_season_on Try.prog t_season_on d_season_on NN K a0 a1 a2 h := by
  rw [← f_season_on_run]; exact runF_bind rfl
noncomputable def F_season_on : Fun := closedX [.l 4, .o, .o] [.o, .o] R_season_on
theorem F_season_on_ok : CSound Try.prog 42 F_season_on := closedX_sound _ _ R_season_on_ok
noncomputable def G_season_on : DFun := closedXD [.l 4, .o, .o] [.o, .o] R_season_on
theorem G_season_on_ro : Ro F_season_on G_season_on := closedX_ro _ _ _
theorem F_season_on_run {a0 : AV} {a1 : AV} {a2 : AV} {v : AV} (ha : plains [a0, a1, a2] = true) (hv : f_season_on Try.prog t_season_on d_season_on NN (fun v g => cvt false g v) (nrm (.l 4) a0) a1 a2 [] = some v) (h : Hp) : F_season_on [a0, a1, a2] h = some (v, h) := by
  have e : (R_season_on (nrms [.l 4, .o, .o] [a0, a1, a2]) []).bind (fun (p : AV × Hp) => cvt false p.2 p.1) = some v := (R_season_on_eq (fun v g => cvt false g v) (nrm (.l 4) a0) a1 a2 []).trans hv
  exact (closedX_bind (shr := [.o, .o]) ha e h).trans (congrArg (fun x => some (x, h)) (nrmR_rep 2 v))
theorem F_season_on_own {a0 : AV} {a1 : AV} {a2 : AV} {x0 : AV} {x1 : AV} {x2 : AV} {h : Hp} {v : AV} (ha : cvts false h [x0, x1, x2] = some [a0, a1, a2]) (hv : ∀ st, f_season_on Try.prog t_season_on d_season_on NN (fun v g => cvt st g v) (nrm (.l 4) a0) a1 a2 [] = some v) : F_season_on [x0, x1, x2] h = some (v, h) := by
  have e : ∀ st, (R_season_on (nrms [.l 4, .o, .o] [a0, a1, a2]) []).bind (fun (p : AV × Hp) => cvt st p.2 p.1) = some v := fun st => (R_season_on_eq (fun v g => cvt st g v) (nrm (.l 4) a0) a1 a2 []).trans (hv st)
  exact (closedX_ownB (shr := [.o, .o]) ha e).trans (congrArg (fun x => some (x, h)) (nrmR_rep 2 v))
/-! spile/season.sum -/
noncomputable def t_season_sum : Tab := (updF T0 42 F_season_on)
theorem t_season_sum_ok : TSound Try.prog t_season_sum := (TSound.upd TSound.zero F_season_on_ok)
@[simp] theorem t_season_sum_42 : t_season_sum 42 = some F_season_on := rfl
noncomputable def d_season_sum : DTab := D0
theorem d_season_sum_ok : DSound Try.prog d_season_sum := DSound.zero
noncomputable def R_season_sum : Fun := runF Try.prog t_season_sum d_season_sum NN [0, 1, 2, 3, 8, 9, 10, 11, 14, 15, 16, 19] Try.f35 4
theorem R_season_sum_ok : CSound Try.prog 35 R_season_sum := run_sound t_season_sum_ok d_season_sum_ok mixed Try.func35 (by kernel_rfl) NN
theorem R_season_sum_eq {β : Type} (K : AV → Hp → Option β) (a0 : AV) (a1 : AV) (a2 : AV) (a3 : AV) (h : Hp) : (R_season_sum [a0, a1, a2, a3] h).bind (fun p => K p.1 p.2) = f_season_sum Try.prog t_season_sum d_season_sum NN K a0 a1 a2 a3 h := by
  rw [← f_season_sum_run]; exact runF_bind rfl
noncomputable def F_season_sum : Fun := closedX [.l 4, .o, .o, .o] [.o] R_season_sum
theorem F_season_sum_ok : CSound Try.prog 35 F_season_sum := closedX_sound _ _ R_season_sum_ok
noncomputable def G_season_sum : DFun := closedXD [.l 4, .o, .o, .o] [.o] R_season_sum
theorem G_season_sum_ro : Ro F_season_sum G_season_sum := closedX_ro _ _ _
theorem F_season_sum_run {a0 : AV} {a1 : AV} {a2 : AV} {a3 : AV} {v : AV} (ha : plains [a0, a1, a2, a3] = true) (hv : f_season_sum Try.prog t_season_sum d_season_sum NN (fun v g => cvt false g v) (nrm (.l 4) a0) a1 a2 a3 [] = some v) (h : Hp) : F_season_sum [a0, a1, a2, a3] h = some (v, h) := by
  have e : (R_season_sum (nrms [.l 4, .o, .o, .o] [a0, a1, a2, a3]) []).bind (fun (p : AV × Hp) => cvt false p.2 p.1) = some v := (R_season_sum_eq (fun v g => cvt false g v) (nrm (.l 4) a0) a1 a2 a3 []).trans hv
  exact (closedX_bind (shr := [.o]) ha e h).trans (congrArg (fun x => some (x, h)) (nrmR_rep 1 v))
theorem F_season_sum_own {a0 : AV} {a1 : AV} {a2 : AV} {a3 : AV} {x0 : AV} {x1 : AV} {x2 : AV} {x3 : AV} {h : Hp} {v : AV} (ha : cvts false h [x0, x1, x2, x3] = some [a0, a1, a2, a3]) (hv : ∀ st, f_season_sum Try.prog t_season_sum d_season_sum NN (fun v g => cvt st g v) (nrm (.l 4) a0) a1 a2 a3 [] = some v) : F_season_sum [x0, x1, x2, x3] h = some (v, h) := by
  have e : ∀ st, (R_season_sum (nrms [.l 4, .o, .o, .o] [a0, a1, a2, a3]) []).bind (fun (p : AV × Hp) => cvt st p.2 p.1) = some v := fun st => (R_season_sum_eq (fun v g => cvt st g v) (nrm (.l 4) a0) a1 a2 a3 []).trans (hv st)
  exact (closedX_ownB (shr := [.o]) ha e).trans (congrArg (fun x => some (x, h)) (nrmR_rep 1 v))
/-! spile/season.Sum -/
noncomputable def t_season_Sum : Tab := (updF (updF (updF T0 33 F_season_right) 34 F_season_in) 35 F_season_sum)
theorem t_season_Sum_ok : TSound Try.prog t_season_Sum := (TSound.upd (TSound.upd (TSound.upd TSound.zero F_season_right_ok) F_season_in_ok) F_season_sum_ok)
@[simp] theorem t_season_Sum_33 : t_season_Sum 33 = some F_season_right := rfl
@[simp] theorem t_season_Sum_34 : t_season_Sum 34 = some F_season_in := rfl
@[simp] theorem t_season_Sum_35 : t_season_Sum 35 = some F_season_sum := rfl
noncomputable def d_season_Sum : DTab := D0
theorem d_season_Sum_ok : DSound Try.prog d_season_Sum := DSound.zero
noncomputable def R_season_Sum : Fun := runF Try.prog t_season_Sum d_season_Sum NN [0, 1, 2, 3, 8, 9, 10, 14, 28] Try.f13 4
theorem R_season_Sum_ok : CSound Try.prog 13 R_season_Sum := run_sound t_season_Sum_ok d_season_Sum_ok mixed Try.func13 (by kernel_rfl) NN
theorem R_season_Sum_eq {β : Type} (K : AV → Hp → Option β) (a0 : AV) (a1 : AV) (a2 : AV) (a3 : AV) (h : Hp) : (R_season_Sum [a0, a1, a2, a3] h).bind (fun p => K p.1 p.2) = f_season_Sum Try.prog t_season_Sum d_season_Sum NN K a0 a1 a2 a3 h := by
  rw [← f_season_Sum_run]; exact runF_bind rfl
noncomputable def F_season_Sum : Fun := closedX [.l 4, .o, .o, .o] [.o, .o] R_season_Sum
theorem F_season_Sum_ok : CSound Try.prog 13 F_season_Sum := closedX_sound _ _ R_season_Sum_ok
noncomputable def G_season_Sum : DFun := closedXD [.l 4, .o, .o, .o] [.o, .o] R_season_Sum
theorem G_season_Sum_ro : Ro F_season_Sum G_season_Sum := closedX_ro _ _ _
theorem F_season_Sum_run {a0 : AV} {a1 : AV} {a2 : AV} {a3 : AV} {v : AV} (ha : plains [a0, a1, a2, a3] = true) (hv : f_season_Sum Try.prog t_season_Sum d_season_Sum NN (fun v g => cvt false g v) (nrm (.l 4) a0) a1 a2 a3 [] = some v) (h : Hp) : F_season_Sum [a0, a1, a2, a3] h = some (v, h) := by
  have e : (R_season_Sum (nrms [.l 4, .o, .o, .o] [a0, a1, a2, a3]) []).bind (fun (p : AV × Hp) => cvt false p.2 p.1) = some v := (R_season_Sum_eq (fun v g => cvt false g v) (nrm (.l 4) a0) a1 a2 a3 []).trans hv
  exact (closedX_bind (shr := [.o, .o]) ha e h).trans (congrArg (fun x => some (x, h)) (nrmR_rep 2 v))
theorem F_season_Sum_own {a0 : AV} {a1 : AV} {a2 : AV} {a3 : AV} {x0 : AV} {x1 : AV} {x2 : AV} {x3 : AV} {h : Hp} {v : AV} (ha : cvts false h [x0, x1, x2, x3] = some [a0, a1, a2, a3]) (hv : ∀ st, f_season_Sum Try.prog t_season_Sum d_season_Sum NN (fun v g => cvt st g v) (nrm (.l 4) a0) a1 a2 a3 [] = some v) : F_season_Sum [x0, x1, x2, x3] h = some (v, h) := by
  have e : ∀ st, (R_season_Sum (nrms [.l 4, .o, .o, .o] [a0, a1, a2, a3]) []).bind (fun (p : AV × Hp) => cvt st p.2 p.1) = some v := fun st => (R_season_Sum_eq (fun v g => cvt st g v) (nrm (.l 4) a0) a1 a2 a3 []).trans (hv st)
  exact (closedX_ownB (shr := [.o, .o]) ha e).trans (congrArg (fun x => some (x, h)) (nrmR_rep 2 v))
/-! spile/proportion.amount -/
noncomputable def t_proportion_amount : Tab := T0
theorem t_proportion_amount_ok : TSound Try.prog t_proportion_amount := TSound.zero
noncomputable def d_proportion_amount : DTab := D0
theorem d_proportion_amount_ok : DSound Try.prog d_proportion_amount := DSound.zero
noncomputable def R_proportion_amount : Fun := runF Try.prog t_proportion_amount d_proportion_amount NN [0, 2] Try.f62 1
theorem R_proportion_amount_ok : CSound Try.prog 62 R_proportion_amount := run_sound t_proportion_amount_ok d_proportion_amount_ok mixed Try.func62 (by kernel_rfl) NN
theorem R_proportion_amount_eq {β : Type} (K : AV → Hp → Option β) (a0 : AV) (h : Hp) : (R_proportion_amount [a0] h).bind (fun p => K p.1 p.2) = f_proportion_amount Try.prog t_proportion_amount d_proportion_amount NN K a0 h := by
  rw [← f_proportion_amount_run]; exact runF_bind rfl
noncomputable def F_proportion_amount : Fun := closedX [.o] [.o] R_proportion_amount
theorem F_proportion_amount_ok : CSound Try.prog 62 F_proportion_amount := closedX_sound _ _ R_proportion_amount_ok
noncomputable def G_proportion_amount : DFun := closedXD [.o] [.o] R_proportion_amount
theorem G_proportion_amount_ro : Ro F_proportion_amount G_proportion_amount := closedX_ro _ _ _
theorem F_proportion_amount_run {a0 : AV} {v : AV} (ha : plains [a0] = true) (hv : f_proportion_amount Try.prog t_proportion_amount d_proportion_amount NN (fun v g => cvt false g v) a0 [] = some v) (h : Hp) : F_proportion_amount [a0] h = some (v, h) := by
  have e : (R_proportion_amount (nrms [.o] [a0]) []).bind (fun (p : AV × Hp) => cvt false p.2 p.1) = some v := (R_proportion_amount_eq (fun v g => cvt false g v) a0 []).trans hv
  exact (closedX_bind (shr := [.o]) ha e h).trans (congrArg (fun x => some (x, h)) (nrmR_rep 1 v))
theorem F_proportion_amount_own {a0 : AV} {x0 : AV} {h : Hp} {v : AV} (ha : cvts false h [x0] = some [a0]) (hv : ∀ st, f_proportion_amount Try.prog t_proportion_amount d_proportion_amount NN (fun v g => cvt st g v) a0 [] = some v) : F_proportion_amount [x0] h = some (v, h) := by
  have e : ∀ st, (R_proportion_amount (nrms [.o] [a0]) []).bind (fun (p : AV × Hp) => cvt st p.2 p.1) = some v := fun st => (R_proportion_amount_eq (fun v g => cvt st g v) a0 []).trans (hv st)
  exact (closedX_ownB (shr := [.o]) ha e).trans (congrArg (fun x => some (x, h)) (nrmR_rep 1 v))
/-! spile/proportion.amounts$1 -/
noncomputable def t_proportion_amounts_1 : Tab := (updF T0 62 F_proportion_amount)
theorem t_proportion_amounts_1_ok : TSound Try.prog t_proportion_amounts_1 := (TSound.upd TSound.zero F_proportion_amount_ok)
@[simp] theorem t_proportion_amounts_1_62 : t_proportion_amounts_1 62 = some F_proportion_amount := rfl
noncomputable def d_proportion_amounts_1 : DTab := D0
theorem d_proportion_amounts_1_ok : DSound Try.prog d_proportion_amounts_1 := DSound.zero
noncomputable def R_proportion_amounts_1 : Fun := runF Try.prog t_proportion_amounts_1 d_proportion_amounts_1 NN [0, 2] Try.f61 1
theorem R_proportion_amounts_1_ok : CSound Try.prog 61 R_proportion_amounts_1 := run_sound t_proportion_amounts_1_ok d_proportion_amounts_1_ok mixed Try.func61 (by kernel_rfl) NN
theorem R_proportion_amounts_1_eq {β : Type} (K : AV → Hp → Option β) (a0 : AV) (h : Hp) : (R_proportion_amounts_1 [a0] h).bind (fun p => K p.1 p.2) = f_proportion_amounts_1 Try.prog t_proportion_amounts_1 d_proportion_amounts_1 NN K a0 h := by
  rw [← f_proportion_amounts_1_run]; exact runF_bind rfl
noncomputable def F_proportion_amounts_1 : Fun := closedX [.o] [.o] R_proportion_amounts_1
theorem F_proportion_amounts_1_ok : CSound Try.prog 61 F_proportion_amounts_1 := closedX_sound _ _ R_proportion_amounts_1_ok
noncomputable def G_proportion_amounts_1 : DFun := closedXD [.o] [.o] R_proportion_amounts_1
theorem G_proportion_amounts_1_ro : Ro F_proportion_amounts_1 G_proportion_amounts_1 := closedX_ro _ _ _
theorem F_proportion_amounts_1_run {a0 : AV} {v : AV} (ha : plains [a0] = true) (hv : f_proportion_amounts_1 Try.prog t_proportion_amounts_1 d_proportion_amounts_1 NN (fun v g => cvt false g v) a0 [] = some v) (h : Hp) : F_proportion_amounts_1 [a0] h = some (v, h) := by
  have e : (R_proportion_amounts_1 (nrms [.o] [a0]) []).bind (fun (p : AV × Hp) => cvt false p.2 p.1) = some v := (R_proportion_amounts_1_eq (fun v g => cvt false g v) a0 []).trans hv
  exact (closedX_bind (shr := [.o]) ha e h).trans (congrArg (fun x => some (x, h)) (nrmR_rep 1 v))
theorem F_proportion_amounts_1_own {a0 : AV} {x0 : AV} {h : Hp} {v : AV} (ha : cvts false h [x0] = some [a0]) (hv : ∀ st, f_proportion_amounts_1 Try.prog t_proportion_amounts_1 d_proportion_amounts_1 NN (fun v g => cvt st g v) a0 [] = some v) : F_proportion_amounts_1 [x0] h = some (v, h) := by
  have e : ∀ st, (R_proportion_amounts_1 (nrms [.o] [a0]) []).bind (fun (p : AV × Hp) => cvt st p.2 p.1) = some v := fun st => (R_proportion_amounts_1_eq (fun v g => cvt st g v) a0 []).trans (hv st)
  exact (closedX_ownB (shr := [.o]) ha e).trans (congrArg (fun x => some (x, h)) (nrmR_rep 1 v))
/-! slices.IndexFunc[[]int,int] : spile/proportion.amounts$1 -/
noncomputable def t_slices_IndexFunc_int__proportion_amounts_1 : Tab := (updF T0 61 F_proportion_amounts_1)
theorem t_slices_IndexFunc_int__proportion_amounts_1_ok : TSound Try.prog t_slices_IndexFunc_int__proportion_amounts_1 := (TSound.upd TSound.zero F_proportion_amounts_1_ok)
@[simp] theorem t_slices_IndexFunc_int__proportion_amounts_1_61 : t_slices_IndexFunc_int__proportion_amounts_1 61 = some F_proportion_amounts_1 := rfl
noncomputable def d_slices_IndexFunc_int__proportion_amounts_1 : DTab := D0
theorem d_slices_IndexFunc_int__proportion_amounts_1_ok : DSound Try.prog d_slices_IndexFunc_int__proportion_amounts_1 := DSound.zero
noncomputable def R_slices_IndexFunc_int__proportion_amounts_1 : Fun := runF Try.prog t_slices_IndexFunc_int__proportion_amounts_1 d_slices_IndexFunc_int__proportion_amounts_1 NN [0, 1, 4, 5, 7, 8, 9, 16] Try.f73 2
theorem R_slices_IndexFunc_int__proportion_amounts_1_ok : CSound Try.prog 73 R_slices_IndexFunc_int__proportion_amounts_1 := run_sound t_slices_IndexFunc_int__proportion_amounts_1_ok d_slices_IndexFunc_int__proportion_amounts_1_ok mixed Try.func73 (by kernel_rfl) NN
theorem R_slices_IndexFunc_int__proportion_amounts_1_eq {β : Type} (K : AV → Hp → Option β) (a0 : AV) (a1 : AV) (h : Hp) : (R_slices_IndexFunc_int__proportion_amounts_1 [a0, a1] h).bind (fun p => K p.1 p.2) = f_slices_IndexFunc_int Try.prog t_slices_IndexFunc_int__proportion_amounts_1 d_slices_IndexFunc_int__proportion_amounts_1 NN K a0 a1 h := by
  rw [← f_slices_IndexFunc_int_run]; exact runF_bind rfl
noncomputable def F_slices_IndexFunc_int__proportion_amounts_1 : Fun := closedX [.l 1, .o] [.o] R_slices_IndexFunc_int__proportion_amounts_1
theorem F_slices_IndexFunc_int__proportion_amounts_1_ok : CSound Try.prog 73 F_slices_IndexFunc_int__proportion_amounts_1 := closedX_sound _ _ R_slices_IndexFunc_int__proportion_amounts_1_ok
noncomputable def G_slices_IndexFunc_int__proportion_amounts_1 : DFun := closedXD [.l 1, .o] [.o] R_slices_IndexFunc_int__proportion_amounts_1
theorem G_slices_IndexFunc_int__proportion_amounts_1_ro : Ro F_slices_IndexFunc_int__proportion_amounts_1 G_slices_IndexFunc_int__proportion_amounts_1 := closedX_ro _ _ _
theorem F_slices_IndexFunc_int__proportion_amounts_1_run {a0 : AV} {a1 : AV} {v : AV} (ha : plains [a0, a1] = true) (hv : f_slices_IndexFunc_int Try.prog t_slices_IndexFunc_int__proportion_amounts_1 d_slices_IndexFunc_int__proportion_amounts_1 NN (fun v g => cvt false g v) (nrm (.l 1) a0) a1 [] = some v) (h : Hp) : F_slices_IndexFunc_int__proportion_amounts_1 [a0, a1] h = some (v, h) := by
  have e : (R_slices_IndexFunc_int__proportion_amounts_1 (nrms [.l 1, .o] [a0, a1]) []).bind (fun (p : AV × Hp) => cvt false p.2 p.1) = some v := (R_slices_IndexFunc_int__proportion_amounts_1_eq (fun v g => cvt false g v) (nrm (.l 1) a0) a1 []).trans hv
  exact (closedX_bind (shr := [.o]) ha e h).trans (congrArg (fun x => some (x, h)) (nrmR_rep 1 v))
theorem F_slices_IndexFunc_int__proportion_amounts_1_own {a0 : AV} {a1 : AV} {x0 : AV} {x1 : AV} {h : Hp} {v : AV} (ha : cvts false h [x0, x1] = some [a0, a1]) (hv : ∀ st, f_slices_IndexFunc_int Try.prog t_slices_IndexFunc_int__proportion_amounts_1 d_slices_IndexFunc_int__proportion_amounts_1 NN (fun v g => cvt st g v) (nrm (.l 1) a0) a1 [] = some v) : F_slices_IndexFunc_int__proportion_amounts_1 [x0, x1] h = some (v, h) := by
  have e : ∀ st, (R_slices_IndexFunc_int__proportion_amounts_1 (nrms [.l 1, .o] [a0, a1]) []).bind (fun (p : AV × Hp) => cvt st p.2 p.1) = some v := fun st => (R_slices_IndexFunc_int__proportion_amounts_1_eq (fun v g => cvt st g v) (nrm (.l 1) a0) a1 []).trans (hv st)
  exact (closedX_ownB (shr := [.o]) ha e).trans (congrArg (fun x => some (x, h)) (nrmR_rep 1 v))
/-! slices.ContainsFunc[[]int,int] : spile/proportion.amounts$1 -/
noncomputable def t_slices_ContainsFunc_int__proportion_amounts_1 : Tab := (updF T0 73 F_slices_IndexFunc_int__proportion_amounts_1)
theorem t_slices_ContainsFunc_int__proportion_amounts_1_ok : TSound Try.prog t_slices_ContainsFunc_int__proportion_amounts_1 := (TSound.upd TSound.zero F_slices_IndexFunc_int__proportion_amounts_1_ok)
@[simp] theorem t_slices_ContainsFunc_int__proportion_amounts_1_73 : t_slices_ContainsFunc_int__proportion_amounts_1 73 = some F_slices_IndexFunc_int__proportion_amounts_1 := rfl
noncomputable def d_slices_ContainsFunc_int__proportion_amounts_1 : DTab := D0
theorem d_slices_ContainsFunc_int__proportion_amounts_1_ok : DSound Try.prog d_slices_ContainsFunc_int__proportion_amounts_1 := DSound.zero
noncomputable def R_slices_ContainsFunc_int__proportion_amounts_1 : Fun := runF Try.prog t_slices_ContainsFunc_int__proportion_amounts_1 d_slices_ContainsFunc_int__proportion_amounts_1 NN [0, 1, 4] Try.f60 2
theorem R_slices_ContainsFunc_int__proportion_amounts_1_ok : CSound Try.prog 60 R_slices_ContainsFunc_int__proportion_amounts_1 := run_sound t_slices_ContainsFunc_int__proportion_amounts_1_ok d_slices_ContainsFunc_int__proportion_amounts_1_ok mixed Try.func60 (by kernel_rfl) NN
theorem R_slices_ContainsFunc_int__proportion_amounts_1_eq {β : Type} (K : AV → Hp → Option β) (a0 : AV) (a1 : AV) (h : Hp) : (R_slices_ContainsFunc_int__proportion_amounts_1 [a0, a1] h).bind (fun p => K p.1 p.2) = f_slices_ContainsFunc_int Try.prog t_slices_ContainsFunc_int__proportion_amounts_1 d_slices_ContainsFunc_int__proportion_amounts_1 NN K a0 a1 h := by
  rw [← f_slices_ContainsFunc_int_run]; exact runF_bind rfl
noncomputable def F_slices_ContainsFunc_int__proportion_amounts_1 : Fun := closedX [.l 1, .o] [.o] R_slices_ContainsFunc_int__proportion_amounts_1
theorem F_slices_ContainsFunc_int__proportion_amounts_1_ok : CSound Try.prog 60 F_slices_ContainsFunc_int__proportion_amounts_1 := closedX_sound _ _ R_slices_ContainsFunc_int__proportion_amounts_1_ok
noncomputable def G_slices_ContainsFunc_int__proportion_amounts_1 : DFun := closedXD [.l 1, .o] [.o] R_slices_ContainsFunc_int__proportion_amounts_1
theorem G_slices_ContainsFunc_int__proportion_amounts_1_ro : Ro F_slices_ContainsFunc_int__proportion_amounts_1 G_slices_ContainsFunc_int__proportion_amounts_1 := closedX_ro _ _ _
theorem F_slices_ContainsFunc_int__proportion_amounts_1_run {a0 : AV} {a1 : AV} {v : AV} (ha : plains [a0, a1] = true) (hv : f_slices_ContainsFunc_int Try.prog t_slices_ContainsFunc_int__proportion_amounts_1 d_slices_ContainsFunc_int__proportion_amounts_1 NN (fun v g => cvt false g v) (nrm (.l 1) a0) a1 [] = some v) (h : Hp) : F_slices_ContainsFunc_int__proportion_amounts_1 [a0, a1] h = some (v, h) := by
  have e : (R_slices_ContainsFunc_int__proportion_amounts_1 (nrms [.l 1, .o] [a0, a1]) []).bind (fun (p : AV × Hp) => cvt false p.2 p.1) = some v := (R_slices_ContainsFunc_int__proportion_amounts_1_eq (fun v g => cvt false g v) (nrm (.l 1) a0) a1 []).trans hv
  exact (closedX_bind (shr := [.o]) ha e h).trans (congrArg (fun x => some (x, h)) (nrmR_rep 1 v))
theorem F_slices_ContainsFunc_int__proportion_amounts_1_own {a0 : AV} {a1 : AV} {x0 : AV} {x1 : AV} {h : Hp} {v : AV} (ha : cvts false h [x0, x1] = some [a0, a1]) (hv : ∀ st, f_slices_ContainsFunc_int Try.prog t_slices_ContainsFunc_int__proportion_amounts_1 d_slices_ContainsFunc_int__proportion_amounts_1 NN (fun v g => cvt st g v) (nrm (.l 1) a0) a1 [] = some v) : F_slices_ContainsFunc_int__proportion_amounts_1 [x0, x1] h = some (v, h) := by
  have e : ∀ st, (R_slices_ContainsFunc_int__proportion_amounts_1 (nrms [.l 1, .o] [a0, a1]) []).bind (fun (p : AV × Hp) => cvt st p.2 p.1) = some v := fun st => (R_slices_ContainsFunc_int__proportion_amounts_1_eq (fun v g => cvt st g v) (nrm (.l 1) a0) a1 []).trans (hv st)
  exact (closedX_ownB (shr := [.o]) ha e).trans (congrArg (fun x => some (x, h)) (nrmR_rep 1 v))
/-! spile/proportion.amounts -/
noncomputable def t_proportion_amounts : Tab := (updF (updF T0 60 F_slices_ContainsFunc_int__proportion_amounts_1) 61 F_proportion_amounts_1)
theorem t_proportion_amounts_ok : TSound Try.prog t_proportion_amounts := (TSound.upd (TSound.upd TSound.zero F_slices_ContainsFunc_int__proportion_amounts_1_ok) F_proportion_amounts_1_ok)
@[simp] theorem t_proportion_amounts_60 : t_proportion_amounts 60 = some F_slices_ContainsFunc_int__proportion_amounts_1 := rfl
@[simp] theorem t_proportion_amounts_61 : t_proportion_amounts 61 = some F_proportion_amounts_1 := rfl
noncomputable def d_proportion_amounts : DTab := D0
theorem d_proportion_amounts_ok : DSound Try.prog d_proportion_amounts := DSound.zero
noncomputable def R_proportion_amounts : Fun := runF Try.prog t_proportion_amounts d_proportion_amounts NN [0, 2] Try.f50 1
theorem R_proportion_amounts_ok : CSound Try.prog 50 R_proportion_amounts := run_sound t_proportion_amounts_ok d_proportion_amounts_ok mixed Try.func50 (by kernel_rfl) NN
theorem R_proportion_amounts_eq {β : Type} (K : AV → Hp → Option β) (a0 : AV) (h : Hp) : (R_proportion_amounts [a0] h).bind (fun p => K p.1 p.2) = f_proportion_amounts Try.prog t_proportion_amounts d_proportion_amounts NN K a0 h := by
  rw [← f_proportion_amounts_run]; exact runF_bind rfl
noncomputable def F_proportion_amounts : Fun := closedX [.l 1] [.o] R_proportion_amounts
theorem F_proportion_amounts_ok : CSound Try.prog 50 F_proportion_amounts := closedX_sound _ _ R_proportion_amounts_ok
noncomputable def G_proportion_amounts : DFun := closedXD [.l 1] [.o] R_proportion_amounts
theorem G_proportion_amounts_ro : Ro F_proportion_amounts G_proportion_amounts := closedX_ro _ _ _
theorem F_proportion_amounts_run {a0 : AV} {v : AV} (ha : plains [a0] = true) (hv : f_proportion_amounts Try.prog t_proportion_amounts d_proportion_amounts NN (fun v g => cvt false g v) (nrm (.l 1) a0) [] = some v) (h : Hp) : F_proportion_amounts [a0] h = some (v, h) := by
  have e : (R_proportion_amounts (nrms [.l 1] [a0]) []).bind (fun (p : AV × Hp) => cvt false p.2 p.1) = some v := (R_proportion_amounts_eq (fun v g => cvt false g v) (nrm (.l 1) a0) []).trans hv
  exact (closedX_bind (shr := [.o]) ha e h).trans (congrArg (fun x => some (x, h)) (nrmR_rep 1 v))
theorem F_proportion_amounts_own {a0 : AV} {x0 : AV} {h : Hp} {v : AV} (ha : cvts false h [x0] = some [a0]) (hv : ∀ st, f_proportion_amounts Try.prog t_proportion_amounts d_proportion_amounts NN (fun v g => cvt st g v) (nrm (.l 1) a0) [] = some v) : F_proportion_amounts [x0] h = some (v, h) := by
  have e : ∀ st, (R_proportion_amounts (nrms [.l 1] [a0]) []).bind (fun (p : AV × Hp) => cvt st p.2 p.1) = some v := fun st => (R_proportion_amounts_eq (fun v g => cvt st g v) (nrm (.l 1) a0) []).trans (hv st)
  exact (closedX_ownB (shr := [.o]) ha e).trans (congrArg (fun x => some (x, h)) (nrmR_rep 1 v))
/-! math/bits.Mul64 -/
noncomputable def t_bits_Mul64 : Tab := T0
theorem t_bits_Mul64_ok : TSound Try.prog t_bits_Mul64 := TSound.zero
noncomputable def d_bits_Mul64 : DTab := D0
theorem d_bits_Mul64_ok : DSound Try.prog d_bits_Mul64 := DSound.zero
noncomputable def R_bits_Mul64 : Fun := runF Try.prog t_bits_Mul64 d_bits_Mul64 NN [0, 1, 4, 5, 6, 7, 8, 9, 10, 11, 12, 13] Try.f74 2
theorem R_bits_Mul64_ok : CSound Try.prog 74 R_bits_Mul64 := run_sound t_bits_Mul64_ok d_bits_Mul64_ok mixed Try.func74 (by kernel_rfl) NN
theorem R_bits_Mul64_eq {β : Type} (K : AV → Hp → Option β) (a0 : AV) (a1 : AV) (h : Hp) : (R_bits_Mul64 [a0, a1] h).bind (fun p => K p.1 p.2) = f_bits_Mul64 Try.prog t_bits_Mul64 d_bits_Mul64 NN K a0 a1 h := by
  rw [← f_bits_Mul64_run]; exact runF_bind rfl
noncomputable def F_bits_Mul64 : Fun := closedX [.o, .o] [.o, .o] R_bits_Mul64
theorem F_bits_Mul64_ok : CSound Try.prog 74 F_bits_Mul64 := closedX_sound _ _ R_bits_Mul64_ok
noncomputable def G_bits_Mul64 : DFun := closedXD [.o, .o] [.o, .o] R_bits_Mul64
theorem G_bits_Mul64_ro : Ro F_bits_Mul64 G_bits_Mul64 := closedX_ro _ _ _
theorem F_bits_Mul64_run {a0 : AV} {a1 : AV} {v : AV} (ha : plains [a0, a1] = true) (hv : f_bits_Mul64 Try.prog t_bits_Mul64 d_bits_Mul64 NN (fun v g => cvt false g v) a0 a1 [] = some v) (h : Hp) : F_bits_Mul64 [a0, a1] h = some (v, h) := by
  have e : (R_bits_Mul64 (nrms [.o, .o] [a0, a1]) []).bind (fun (p : AV × Hp) => cvt false p.2 p.1) = some v := (R_bits_Mul64_eq (fun v g => cvt false g v) a0 a1 []).trans hv
  exact (closedX_bind (shr := [.o, .o]) ha e h).trans (congrArg (fun x => some (x, h)) (nrmR_rep 2 v))
theorem F_bits_Mul64_own {a0 : AV} {a1 : AV} {x0 : AV} {x1 : AV} {h : Hp} {v : AV} (ha : cvts false h [x0, x1] = some [a0, a1]) (hv : ∀ st, f_bits_Mul64 Try.prog t_bits_Mul64 d_bits_Mul64 NN (fun v g => cvt st g v) a0 a1 [] = some v) : F_bits_Mul64 [x0, x1] h = some (v, h) := by
  have e : ∀ st, (R_bits_Mul64 (nrms [.o, .o] [a0, a1]) []).bind (fun (p : AV × Hp) => cvt st p.2 p.1) = some v := fun st => (R_bits_Mul64_eq (fun v g => cvt st g v) a0 a1 []).trans (hv st)
  exact (closedX_ownB (shr := [.o, .o]) ha e).trans (congrArg (fun x => some (x, h)) (nrmR_rep 2 v))
/-! spile/proportion.product -/
noncomputable def t_proportion_product : Tab := (updF T0 74 F_bits_Mul64)
theorem t_proportion_product_ok : TSound Try.prog t_proportion_product := (TSound.upd TSound.zero F_bits_Mul64_ok)
@[simp] theorem t_proportion_product_74 : t_proportion_product 74 = some F_bits_Mul64 := rfl
noncomputable def d_proportion_product : DTab := D0
theorem d_proportion_product_ok : DSound Try.prog d_proportion_product := DSound.zero
noncomputable def R_proportion_product : Fun := runF Try.prog t_proportion_product d_proportion_product NN [0, 1, 4, 5, 6] Try.f63 2
theorem R_proportion_product_ok : CSound Try.prog 63 R_proportion_product := run_sound t_proportion_product_ok d_proportion_product_ok mixed Try.func63 (by kernel_rfl) NN
theorem R_proportion_product_eq {β : Type} (K : AV → Hp → Option β) (a0 : AV) (a1 : AV) (h : Hp) : (R_proportion_product [a0, a1] h).bind (fun p => K p.1 p.2) = f_proportion_product Try.prog t_proportion_product d_proportion_product NN K a0 a1 h := by
  rw [← f_proportion_product_run]; exact runF_bind rfl
noncomputable def F_proportion_product : Fun := closedX [.o, .o] [.o] R_proportion_product
theorem F_proportion_product_ok : CSound Try.prog 63 F_proportion_product := closedX_sound _ _ R_proportion_product_ok
noncomputable def G_proportion_product : DFun := closedXD [.o, .o] [.o] R_proportion_product
theorem G_proportion_product_ro : Ro F_proportion_product G_proportion_product := closedX_ro _ _ _
theorem F_proportion_product_run {a0 : AV} {a1 : AV} {v : AV} (ha : plains [a0, a1] = true) (hv : f_proportion_product Try.prog t_proportion_product d_proportion_product NN (fun v g => cvt false g v) a0 a1 [] = some v) (h : Hp) : F_proportion_product [a0, a1] h = some (v, h) := by
  have e : (R_proportion_product (nrms [.o, .o] [a0, a1]) []).bind (fun (p : AV × Hp) => cvt false p.2 p.1) = some v := (R_proportion_product_eq (fun v g => cvt false g v) a0 a1 []).trans hv
  exact (closedX_bind (shr := [.o]) ha e h).trans (congrArg (fun x => some (x, h)) (nrmR_rep 1 v))
theorem F_proportion_product_own {a0 : AV} {a1 : AV} {x0 : AV} {x1 : AV} {h : Hp} {v : AV} (ha : cvts false h [x0, x1] = some [a0, a1]) (hv : ∀ st, f_proportion_product Try.prog t_proportion_product d_proportion_product NN (fun v g => cvt st g v) a0 a1 [] = some v) : F_proportion_product [x0, x1] h = some (v, h) := by
  have e : ∀ st, (R_proportion_product (nrms [.o, .o] [a0, a1]) []).bind (fun (p : AV × Hp) => cvt st p.2 p.1) = some v := fun st => (R_proportion_product_eq (fun v g => cvt st g v) a0 a1 []).trans (hv st)
  exact (closedX_ownB (shr := [.o]) ha e).trans (congrArg (fun x => some (x, h)) (nrmR_rep 1 v))
/-! math/bits.Len64 -/
noncomputable def t_bits_Len64 : Tab := T0
theorem t_bits_Len64_ok : TSound Try.prog t_bits_Len64 := TSound.zero
noncomputable def d_bits_Len64 : DTab := D0
theorem d_bits_Len64_ok : DSound Try.prog d_bits_Len64 := DSound.zero
noncomputable def R_bits_Len64 : Fun := runF Try.prog t_bits_Len64 d_bits_Len64 NN [0, 2, 4, 8, 14] Try.f78 1
theorem R_bits_Len64_ok : CSound Try.prog 78 R_bits_Len64 := run_sound t_bits_Len64_ok d_bits_Len64_ok mixed Try.func78 (by kernel_rfl) NN
theorem R_bits_Len64_eq {β : Type} (K : AV → Hp → Option β) (a0 : AV) (h : Hp) : (R_bits_Len64 [a0] h).bind (fun p => K p.1 p.2) = f_bits_Len64 Try.prog t_bits_Len64 d_bits_Len64 NN K a0 h := by
  rw [← f_bits_Len64_run]; exact runF_bind rfl
noncomputable def F_bits_Len64 : Fun := closedX [.o] [.o] R_bits_Len64
theorem F_bits_Len64_ok : CSound Try.prog 78 F_bits_Len64 := closedX_sound _ _ R_bits_Len64_ok
noncomputable def G_bits_Len64 : DFun := closedXD [.o] [.o] R_bits_Len64
theorem G_bits_Len64_ro : Ro F_bits_Len64 G_bits_Len64 := closedX_ro _ _ _
theorem F_bits_Len64_run {a0 : AV} {v : AV} (ha : plains [a0] = true) (hv : f_bits_Len64 Try.prog t_bits_Len64 d_bits_Len64 NN (fun v g => cvt false g v) a0 [] = some v) (h : Hp) : F_bits_Len64 [a0] h = some (v, h) := by
  have e : (R_bits_Len64 (nrms [.o] [a0]) []).bind (fun (p : AV × Hp) => cvt false p.2 p.1) = some v := (R_bits_Len64_eq (fun v g => cvt false g v) a0 []).trans hv
  exact (closedX_bind (shr := [.o]) ha e h).trans (congrArg (fun x => some (x, h)) (nrmR_rep 1 v))
theorem F_bits_Len64_own {a0 : AV} {x0 : AV} {h : Hp} {v : AV} (ha : cvts false h [x0] = some [a0]) (hv : ∀ st, f_bits_Len64 Try.prog t_bits_Len64 d_bits_Len64 NN (fun v g => cvt st g v) a0 [] = some v) : F_bits_Len64 [x0] h = some (v, h) := by
  have e : ∀ st, (R_bits_Len64 (nrms [.o] [a0]) []).bind (fun (p : AV × Hp) => cvt st p.2 p.1) = some v := fun st => (R_bits_Len64_eq (fun v g => cvt st g v) a0 []).trans (hv st)
  exact (closedX_ownB (shr := [.o]) ha e).trans (congrArg (fun x => some (x, h)) (nrmR_rep 1 v))
/-! math/bits.LeadingZeros64 -/
noncomputable def t_bits_LeadingZeros64 : Tab := (updF T0 78 F_bits_Len64)
theorem t_bits_LeadingZeros64_ok : TSound Try.prog t_bits_LeadingZeros64 := (TSound.upd TSound.zero F_bits_Len64_ok)
@[simp] theorem t_bits_LeadingZeros64_78 : t_bits_LeadingZeros64 78 = some F_bits_Len64 := rfl
noncomputable def d_bits_LeadingZeros64 : DTab := D0
theorem d_bits_LeadingZeros64_ok : DSound Try.prog d_bits_LeadingZeros64 := DSound.zero
noncomputable def R_bits_LeadingZeros64 : Fun := runF Try.prog t_bits_LeadingZeros64 d_bits_LeadingZeros64 NN [0, 2] Try.f75 1
theorem R_bits_LeadingZeros64_ok : CSound Try.prog 75 R_bits_LeadingZeros64 := run_sound t_bits_LeadingZeros64_ok d_bits_LeadingZeros64_ok mixed Try.func75 (by kernel_rfl) NN
theorem R_bits_LeadingZeros64_eq {β : Type} (K : AV → Hp → Option β) (a0 : AV) (h : Hp) : (R_bits_LeadingZeros64 [a0] h).bind (fun p => K p.1 p.2) = f_bits_LeadingZeros64 Try.prog t_bits_LeadingZeros64 d_bits_LeadingZeros64 NN K a0 h := by
  rw [← f_bits_LeadingZeros64_run]; exact runF_bind rfl
noncomputable def F_bits_LeadingZeros64 : Fun := closedX [.o] [.o] R_bits_LeadingZeros64
theorem F_bits_LeadingZeros64_ok : CSound Try.prog 75 F_bits_LeadingZeros64 := closedX_sound _ _ R_bits_LeadingZeros64_ok
noncomputable def G_bits_LeadingZeros64 : DFun := closedXD [.o] [.o] R_bits_LeadingZeros64
theorem G_bits_LeadingZeros64_ro : Ro F_bits_LeadingZeros64 G_bits_LeadingZeros64 := closedX_ro _ _ _
theorem F_bits_LeadingZeros64_run {a0 : AV} {v : AV} (ha : plains [a0] = true) (hv : f_bits_LeadingZeros64 Try.prog t_bits_LeadingZeros64 d_bits_LeadingZeros64 NN (fun v g => cvt false g v) a0 [] = some v) (h : Hp) : F_bits_LeadingZeros64 [a0] h = some (v, h) := by
  have e : (R_bits_LeadingZeros64 (nrms [.o] [a0]) []).bind (fun (p : AV × Hp) => cvt false p.2 p.1) = some v := (R_bits_LeadingZeros64_eq (fun v g => cvt false g v) a0 []).trans hv
  exact (closedX_bind (shr := [.o]) ha e h).trans (congrArg (fun x => some (x, h)) (nrmR_rep 1 v))
theorem F_bits_LeadingZeros64_own {a0 : AV} {x0 : AV} {h : Hp} {v : AV} (ha : cvts false h [x0] = some [a0]) (hv : ∀ st, f_bits_LeadingZeros64 Try.prog t_bits_LeadingZeros64 d_bits_LeadingZeros64 NN (fun v g => cvt st g v) a0 [] = some v) : F_bits_LeadingZeros64 [x0] h = some (v, h) := by
  have e : ∀ st, (R_bits_LeadingZeros64 (nrms [.o] [a0]) []).bind (fun (p : AV × Hp) => cvt st p.2 p.1) = some v := fun st => (R_bits_LeadingZeros64_eq (fun v g => cvt st g v) a0 []).trans (hv st)
  exact (closedX_ownB (shr := [.o]) ha e).trans (congrArg (fun x => some (x, h)) (nrmR_rep 1 v))
/-! math/bits.Div64 -/
noncomputable def t_bits_Div64 : Tab := (updF T0 75 F_bits_LeadingZeros64)
theorem t_bits_Div64_ok : TSound Try.prog t_bits_Div64 := (TSound.upd TSound.zero F_bits_LeadingZeros64_ok)
@[simp] theorem t_bits_Div64_75 : t_bits_Div64 75 = some F_bits_LeadingZeros64 := rfl
noncomputable def d_bits_Div64 : DTab := D0
theorem d_bits_Div64_ok : DSound Try.prog d_bits_Div64 := DSound.zero
noncomputable def R_bits_Div64 : Fun := runF Try.prog t_bits_Div64 d_bits_Div64 NN [0, 1, 2, 6, 7, 8, 9, 10, 11, 12, 13, 14, 15, 16, 17, 18, 20, 24, 27, 78, 85, 113, 120] Try.f64 3
theorem R_bits_Div64_ok : CSound Try.prog 64 R_bits_Div64 := run_sound t_bits_Div64_ok d_bits_Div64_ok mixed Try.func64 (by kernel_rfl) NN
theorem R_bits_Div64_eq {β : Type} (K : AV → Hp → Option β) (a0 : AV) (a1 : AV) (a2 : AV) (h : Hp) : (R_bits_Div64 [a0, a1, a2] h).bind (fun p => K p.1 p.2) = f_bits_Div64 Try.prog t_bits_Div64 d_bits_Div64 NN K a0 a1 a2 h := by
  rw [← f_bits_Div64_run]; exact runF_bind rfl
noncomputable def F_bits_Div64 : Fun := closedX [.o, .o, .o] [.o, .o] R_bits_Div64
theorem F_bits_Div64_ok : CSound Try.prog 64 F_bits_Div64 := closedX_sound _ _ R_bits_Div64_ok
noncomputable def G_bits_Div64 : DFun := closedXD [.o, .o, .o] [.o, .o] R_bits_Div64
theorem G_bits_Div64_ro : Ro F_bits_Div64 G_bits_Div64 := closedX_ro _ _ _
theorem F_bits_Div64_run {a0 : AV} {a1 : AV} {a2 : AV} {v : AV} (ha : plains [a0, a1, a2] = true) (hv : f_bits_Div64 Try.prog t_bits_Div64 d_bits_Div64 NN (fun v g => cvt false g v) a0 a1 a2 [] = some v) (h : Hp) : F_bits_Div64 [a0, a1, a2] h = some (v, h) := by
  have e : (R_bits_Div64 (nrms [.o, .o, .o] [a0, a1, a2]) []).bind (fun (p : AV × Hp) => cvt false p.2 p.1) = some v := (R_bits_Div64_eq (fun v g => cvt false g v) a0 a1 a2 []).trans hv
  exact (closedX_bind (shr := [.o, .o]) ha e h).trans (congrArg (fun x => some (x, h)) (nrmR_rep 2 v))
theorem F_bits_Div64_own {a0 : AV} {a1 : AV} {a2 : AV} {x0 : AV} {x1 : AV} {x2 : AV} {h : Hp} {v : AV} (ha : cvts false h [x0, x1, x2] = some [a0, a1, a2]) (hv : ∀ st, f_bits_Div64 Try.prog t_bits_Div64 d_bits_Div64 NN (fun v g => cvt st g v) a0 a1 a2 [] = some v) : F_bits_Div64 [x0, x1, x2] h = some (v, h) := by
  have e : ∀ st, (R_bits_Div64 (nrms [.o, .o, .o] [a0, a1, a2]) []).bind (fun (p : AV × Hp) => cvt st p.2 p.1) = some v := fun st => (R_bits_Div64_eq (fun v g => cvt st g v) a0 a1 a2 []).trans (hv st)
  exact (closedX_ownB (shr := [.o, .o]) ha e).trans (congrArg (fun x => some (x, h)) (nrmR_rep 2 v))
/-! spile/proportion.divided -/
noncomputable def t_proportion_divided : Tab := (updF (updF T0 63 F_proportion_product) 64 F_bits_Div64)
theorem t_proportion_divided_ok : TSound Try.prog t_proportion_divided := (TSound.upd (TSound.upd TSound.zero F_proportion_product_ok) F_bits_Div64_ok)
@[simp] theorem t_proportion_divided_63 : t_proportion_divided 63 = some F_proportion_product := rfl
@[simp] theorem t_proportion_divided_64 : t_proportion_divided 64 = some F_bits_Div64 := rfl
noncomputable def d_proportion_divided : DTab := D0
theorem d_proportion_divided_ok : DSound Try.prog d_proportion_divided := DSound.zero
noncomputable def R_proportion_divided : Fun := runF Try.prog t_proportion_divided d_proportion_divided NN [0, 1, 2, 6, 7, 8, 9, 10, 11, 19, 31] Try.f51 3
theorem R_proportion_divided_ok : CSound Try.prog 51 R_proportion_divided := run_sound t_proportion_divided_ok d_proportion_divided_ok mixed Try.func51 (by kernel_rfl) NN
theorem R_proportion_divided_eq {β : Type} (K : AV → Hp → Option β) (a0 : AV) (a1 : AV) (a2 : AV) (h : Hp) : (R_proportion_divided [a0, a1, a2] h).bind (fun p => K p.1 p.2) = f_proportion_divided Try.prog t_proportion_divided d_proportion_divided NN K a0 a1 a2 h := by
  rw [← f_proportion_divided_run]; exact runF_bind rfl
noncomputable def F_proportion_divided : Fun := closedX [.o, .o, .o] [.o, .o, .o] R_proportion_divided
theorem F_proportion_divided_ok : CSound Try.prog 51 F_proportion_divided := closedX_sound _ _ R_proportion_divided_ok
noncomputable def G_proportion_divided : DFun := closedXD [.o, .o, .o] [.o, .o, .o] R_proportion_divided
theorem G_proportion_divided_ro : Ro F_proportion_divided G_proportion_divided := closedX_ro _ _ _
theorem F_proportion_divided_run {a0 : AV} {a1 : AV} {a2 : AV} {v : AV} (ha : plains [a0, a1, a2] = true) (hv : f_proportion_divided Try.prog t_proportion_divided d_proportion_divided NN (fun v g => cvt false g v) a0 a1 a2 [] = some v) (h : Hp) : F_proportion_divided [a0, a1, a2] h = some (v, h) := by
  have e : (R_proportion_divided (nrms [.o, .o, .o] [a0, a1, a2]) []).bind (fun (p : AV × Hp) => cvt false p.2 p.1) = some v := (R_proportion_divided_eq (fun v g => cvt false g v) a0 a1 a2 []).trans hv
  exact (closedX_bind (shr := [.o, .o, .o]) ha e h).trans (congrArg (fun x => some (x, h)) (nrmR_rep 3 v))
theorem F_proportion_divided_own {a0 : AV} {a1 : AV} {a2 : AV} {x0 : AV} {x1 : AV} {x2 : AV} {h : Hp} {v : AV} (ha : cvts false h [x0, x1, x2] = some [a0, a1, a2]) (hv : ∀ st, f_proportion_divided Try.prog t_proportion_divided d_proportion_divided NN (fun v g => cvt st g v) a0 a1 a2 [] = some v) : F_proportion_divided [x0, x1, x2] h = some (v, h) := by
  have e : ∀ st, (R_proportion_divided (nrms [.o, .o, .o] [a0, a1, a2]) []).bind (fun (p : AV × Hp) => cvt st p.2 p.1) = some v := fun st => (R_proportion_divided_eq (fun v g => cvt st g v) a0 a1 a2 []).trans (hv st)
  exact (closedX_ownB (shr := [.o, .o, .o]) ha e).trans (congrArg (fun x => some (x, h)) (nrmR_rep 3 v))
/-! spile/proportion.Of -/
noncomputable def t_proportion_Of : Tab := (updF (updF T0 50 F_proportion_amounts) 51 F_proportion_divided)
theorem t_proportion_Of_ok : TSound Try.prog t_proportion_Of := (TSound.upd (TSound.upd TSound.zero F_proportion_amounts_ok) F_proportion_divided_ok)
@[simp] theorem t_proportion_Of_50 : t_proportion_Of 50 = some F_proportion_amounts := rfl
@[simp] theorem t_proportion_Of_51 : t_proportion_Of 51 = some F_proportion_divided := rfl
noncomputable def d_proportion_Of : DTab := D0
theorem d_proportion_Of_ok : DSound Try.prog d_proportion_Of := DSound.zero
noncomputable def R_proportion_Of : Fun := runF Try.prog t_proportion_Of d_proportion_Of NN [0, 1, 2, 6, 7, 8, 9, 10, 11, 17, 19, 29] Try.f40 3
theorem R_proportion_Of_ok : CSound Try.prog 40 R_proportion_Of := run_sound t_proportion_Of_ok d_proportion_Of_ok mixed Try.func40 (by kernel_rfl) NN
theorem R_proportion_Of_eq {β : Type} (K : AV → Hp → Option β) (a0 : AV) (a1 : AV) (a2 : AV) (h : Hp) : (R_proportion_Of [a0, a1, a2] h).bind (fun p => K p.1 p.2) = f_proportion_Of Try.prog t_proportion_Of d_proportion_Of NN K a0 a1 a2 h := by
  rw [← f_proportion_Of_run]; exact runF_bind rfl
noncomputable def F_proportion_Of : Fun := closedX [.o, .o, .o] [.o, .o, .o] R_proportion_Of
theorem F_proportion_Of_ok : CSound Try.prog 40 F_proportion_Of := closedX_sound _ _ R_proportion_Of_ok
noncomputable def G_proportion_Of : DFun := closedXD [.o, .o, .o] [.o, .o, .o] R_proportion_Of
theorem G_proportion_Of_ro : Ro F_proportion_Of G_proportion_Of := closedX_ro _ _ _
theorem F_proportion_Of_run {a0 : AV} {a1 : AV} {a2 : AV} {v : AV} (ha : plains [a0, a1, a2] = true) (hv : f_proportion_Of Try.prog t_proportion_Of d_proportion_Of NN (fun v g => cvt false g v) a0 a1 a2 [] = some v) (h : Hp) : F_proportion_Of [a0, a1, a2] h = some (v, h) := by
  have e : (R_proportion_Of (nrms [.o, .o, .o] [a0, a1, a2]) []).bind (fun (p : AV × Hp) => cvt false p.2 p.1) = some v := (R_proportion_Of_eq (fun v g => cvt false g v) a0 a1 a2 []).trans hv
  exact (closedX_bind (shr := [.o, .o, .o]) ha e h).trans (congrArg (fun x => some (x, h)) (nrmR_rep 3 v))
theorem F_proportion_Of_own {a0 : AV} {a1 : AV} {a2 : AV} {x0 : AV} {x1 : AV} {x2 : AV} {h : Hp} {v : AV} (ha : cvts false h [x0, x1, x2] = some [a0, a1, a2]) (hv : ∀ st, f_proportion_Of Try.prog t_proportion_Of d_proportion_Of NN (fun v g => cvt st g v) a0 a1 a2 [] = some v) : F_proportion_Of [x0, x1, x2] h = some (v, h) := by
  have e : ∀ st, (R_proportion_Of (nrms [.o, .o, .o] [a0, a1, a2]) []).bind (fun (p : AV × Hp) => cvt st p.2 p.1) = some v := fun st => (R_proportion_Of_eq (fun v g => cvt st g v) a0 a1 a2 []).trans (hv st)
  exact (closedX_ownB (shr := [.o, .o, .o]) ha e).trans (congrArg (fun x => some (x, h)) (nrmR_rep 3 v))
/-! spile/season.Allowed -/
noncomputable def t_season_Allowed : Tab := (updF (updF (updF (updF T0 33 F_season_right) 34 F_season_in) 35 F_season_sum) 40 F_proportion_Of)
theorem t_season_Allowed_ok : TSound Try.prog t_season_Allowed := (TSound.upd (TSound.upd (TSound.upd (TSound.upd TSound.zero F_season_right_ok) F_season_in_ok) F_season_sum_ok) F_proportion_Of_ok)
@[simp] theorem t_season_Allowed_33 : t_season_Allowed 33 = some F_season_right := rfl
@[simp] theorem t_season_Allowed_34 : t_season_Allowed 34 = some F_season_in := rfl
@[simp] theorem t_season_Allowed_35 : t_season_Allowed 35 = some F_season_sum := rfl
@[simp] theorem t_season_Allowed_40 : t_season_Allowed 40 = some F_proportion_Of := rfl
noncomputable def d_season_Allowed : DTab := D0
theorem d_season_Allowed_ok : DSound Try.prog d_season_Allowed := DSound.zero
noncomputable def R_season_Allowed : Fun := runF Try.prog t_season_Allowed d_season_Allowed NN [0, 1, 2, 3, 4, 10, 11, 12, 14, 15, 19, 38, 54] Try.f16 5
theorem R_season_Allowed_ok : CSound Try.prog 16 R_season_Allowed := run_sound t_season_Allowed_ok d_season_Allowed_ok mixed Try.func16 (by kernel_rfl) NN
theorem R_season_Allowed_eq {β : Type} (K : AV → Hp → Option β) (a0 : AV) (a1 : AV) (a2 : AV) (a3 : AV) (a4 : AV) (h : Hp) : (R_season_Allowed [a0, a1, a2, a3, a4] h).bind (fun p => K p.1 p.2) = f_season_Allowed Try.prog t_season_Allowed d_season_Allowed NN K a0 a1 a2 a3 a4 h := by
  rw [← f_season_Allowed_run]; exact runF_bind rfl
noncomputable def F_season_Allowed : Fun := closedX [.l 4, .o, .o, .o, .o] [.o, .o] R_season_Allowed
theorem F_season_Allowed_ok : CSound Try.prog 16 F_season_Allowed := closedX_sound _ _ R_season_Allowed_ok
noncomputable def G_season_Allowed : DFun := closedXD [.l 4, .o, .o, .o, .o] [.o, .o] R_season_Allowed
theorem G_season_Allowed_ro : Ro F_season_Allowed G_season_Allowed := closedX_ro _ _ _
theorem F_season_Allowed_run {a0 : AV} {a1 : AV} {a2 : AV} {a3 : AV} {a4 : AV} {v : AV} (ha : plains [a0, a1, a2, a3, a4] = true) (hv : f_season_Allowed Try.prog t_season_Allowed d_season_Allowed NN (fun v g => cvt false g v) (nrm (.l 4) a0) a1 a2 a3 a4 [] = some v) (h : Hp) : F_season_Allowed [a0, a1, a2, a3, a4] h = some (v, h) := by
  have e : (R_season_Allowed (nrms [.l 4, .o, .o, .o, .o] [a0, a1, a2, a3, a4]) []).bind (fun (p : AV × Hp) => cvt false p.2 p.1) = some v := (R_season_Allowed_eq (fun v g => cvt false g v) (nrm (.l 4) a0) a1 a2 a3 a4 []).trans hv
  exact (closedX_bind (shr := [.o, .o]) ha e h).trans (congrArg (fun x => some (x, h)) (nrmR_rep 2 v))
theorem F_season_Allowed_own {a0 : AV} {a1 : AV} {a2 : AV} {a3 : AV} {a4 : AV} {x0 : AV} {x1 : AV} {x2 : AV} {x3 : AV} {x4 : AV} {h : Hp} {v : AV} (ha : cvts false h [x0, x1, x2, x3, x4] = some [a0, a1, a2, a3, a4]) (hv : ∀ st, f_season_Allowed Try.prog t_season_Allowed d_season_Allowed NN (fun v g => cvt st g v) (nrm (.l 4) a0) a1 a2 a3 a4 [] = some v) : F_season_Allowed [x0, x1, x2, x3, x4] h = some (v, h) := by
  have e : ∀ st, (R_season_Allowed (nrms [.l 4, .o, .o, .o, .o] [a0, a1, a2, a3, a4]) []).bind (fun (p : AV × Hp) => cvt st p.2 p.1) = some v := fun st => (R_season_Allowed_eq (fun v g => cvt st g v) (nrm (.l 4) a0) a1 a2 a3 a4 []).trans (hv st)
  exact (closedX_ownB (shr := [.o, .o]) ha e).trans (congrArg (fun x => some (x, h)) (nrmR_rep 2 v))
/-! spile/season.Rate -/
noncomputable def t_season_Rate : Tab := (updF (updF (updF T0 33 F_season_right) 34 F_season_in) 42 F_season_on)
theorem t_season_Rate_ok : TSound Try.prog t_season_Rate := (TSound.upd (TSound.upd (TSound.upd TSound.zero F_season_right_ok) F_season_in_ok) F_season_on_ok)
@[simp] theorem t_season_Rate_33 : t_season_Rate 33 = some F_season_right := rfl
@[simp] theorem t_season_Rate_34 : t_season_Rate 34 = some F_season_in := rfl
@[simp] theorem t_season_Rate_42 : t_season_Rate 42 = some F_season_on := rfl
noncomputable def d_season_Rate : DTab := D0
theorem d_season_Rate_ok : DSound Try.prog d_season_Rate := DSound.zero
noncomputable def R_season_Rate : Fun := runF Try.prog t_season_Rate d_season_Rate NN [0, 1, 2, 6, 7, 8, 10, 14] Try.f18 3
theorem R_season_Rate_ok : CSound Try.prog 18 R_season_Rate := run_sound t_season_Rate_ok d_season_Rate_ok mixed Try.func18 (by kernel_rfl) NN
theorem R_season_Rate_eq {β : Type} (K : AV → Hp → Option β) (a0 : AV) (a1 : AV) (a2 : AV) (h : Hp) : (R_season_Rate [a0, a1, a2] h).bind (fun p => K p.1 p.2) = f_season_Rate Try.prog t_season_Rate d_season_Rate NN K a0 a1 a2 h := by
  rw [← f_season_Rate_run]; exact runF_bind rfl
noncomputable def F_season_Rate : Fun := closedX [.l 4, .o, .o] [.o, .o] R_season_Rate
theorem F_season_Rate_ok : CSound Try.prog 18 F_season_Rate := closedX_sound _ _ R_season_Rate_ok
noncomputable def G_season_Rate : DFun := closedXD [.l 4, .o, .o] [.o, .o] R_season_Rate
theorem G_season_Rate_ro : Ro F_season_Rate G_season_Rate := closedX_ro _ _ _
theorem F_season_Rate_run {a0 : AV} {a1 : AV} {a2 : AV} {v : AV} (ha : plains [a0, a1, a2] = true) (hv : f_season_Rate Try.prog t_season_Rate d_season_Rate NN (fun v g => cvt false g v) (nrm (.l 4) a0) a1 a2 [] = some v) (h : Hp) : F_season_Rate [a0, a1, a2] h = some (v, h) := by
  have e : (R_season_Rate (nrms [.l 4, .o, .o] [a0, a1, a2]) []).bind (fun (p : AV × Hp) => cvt false p.2 p.1) = some v := (R_season_Rate_eq (fun v g => cvt false g v) (nrm (.l 4) a0) a1 a2 []).trans hv
  exact (closedX_bind (shr := [.o, .o]) ha e h).trans (congrArg (fun x => some (x, h)) (nrmR_rep 2 v))
theorem F_season_Rate_own {a0 : AV} {a1 : AV} {a2 : AV} {x0 : AV} {x1 : AV} {x2 : AV} {h : Hp} {v : AV} (ha : cvts false h [x0, x1, x2] = some [a0, a1, a2]) (hv : ∀ st, f_season_Rate Try.prog t_season_Rate d_season_Rate NN (fun v g => cvt st g v) (nrm (.l 4) a0) a1 a2 [] = some v) : F_season_Rate [x0, x1, x2] h = some (v, h) := by
  have e : ∀ st, (R_season_Rate (nrms [.l 4, .o, .o] [a0, a1, a2]) []).bind (fun (p : AV × Hp) => cvt st p.2 p.1) = some v := fun st => (R_season_Rate_eq (fun v g => cvt st g v) (nrm (.l 4) a0) a1 a2 []).trans (hv st)
  exact (closedX_ownB (shr := [.o, .o]) ha e).trans (congrArg (fun x => some (x, h)) (nrmR_rep 2 v))
/-! spile/spilelaw31.example -/
noncomputable def t_law31_example : Tab := T0
theorem t_law31_example_ok : TSound Try.prog t_law31_example := TSound.zero
noncomputable def d_law31_example : DTab := D0
theorem d_law31_example_ok : DSound Try.prog d_law31_example := DSound.zero
noncomputable def R_law31_example : Fun := runF Try.prog t_law31_example d_law31_example NN [0] Try.f32 0
theorem R_law31_example_ok : CSound Try.prog 32 R_law31_example := run_sound t_law31_example_ok d_law31_example_ok mixed Try.func32 (by kernel_rfl) NN
theorem R_law31_example_eq {β : Type} (K : AV → Hp → Option β) (h : Hp) : (R_law31_example [] h).bind (fun p => K p.1 p.2) = f_law31_example Try.prog t_law31_example d_law31_example NN K  h := by
  rw [← f_law31_example_run]; exact runF_bind rfl
noncomputable def F_law31_example : Fun := closedX [] [.l 4] R_law31_example
theorem F_law31_example_ok : CSound Try.prog 32 F_law31_example := closedX_sound _ _ R_law31_example_ok
noncomputable def G_law31_example : DFun := closedXD [] [.l 4] R_law31_example
theorem G_law31_example_ro : Ro F_law31_example G_law31_example := closedX_ro _ _ _
theorem F_law31_example_run {v : AV} (ha : plains [] = true) (hv : f_law31_example Try.prog t_law31_example d_law31_example NN (fun v g => cvt false g v)  [] = some v) (h : Hp) : F_law31_example [] h = some ((nrmR [.l 4] v), h) := by
  have e : (R_law31_example (nrms [] []) []).bind (fun (p : AV × Hp) => cvt false p.2 p.1) = some v := (R_law31_example_eq (fun v g => cvt false g v)  []).trans hv
  exact (closedX_bind (shr := [.l 4]) ha e h).trans (congrArg (fun x => some (x, h)) rfl)
/-! spile/spilelaw31.awake -/
noncomputable def t_law31_awake : Tab := (updF (updF (updF (updF T0 13 F_season_Sum) 16 F_season_Allowed) 18 F_season_Rate) 32 F_law31_example)
theorem t_law31_awake_ok : TSound Try.prog t_law31_awake := (TSound.upd (TSound.upd (TSound.upd (TSound.upd TSound.zero F_season_Sum_ok) F_season_Allowed_ok) F_season_Rate_ok) F_law31_example_ok)
@[simp] theorem t_law31_awake_13 : t_law31_awake 13 = some F_season_Sum := rfl
@[simp] theorem t_law31_awake_16 : t_law31_awake 16 = some F_season_Allowed := rfl
@[simp] theorem t_law31_awake_18 : t_law31_awake 18 = some F_season_Rate := rfl
@[simp] theorem t_law31_awake_32 : t_law31_awake 32 = some F_law31_example := rfl
noncomputable def d_law31_awake : DTab := D0
theorem d_law31_awake_ok : DSound Try.prog d_law31_awake := DSound.zero
noncomputable def R_law31_awake : Fun := runF Try.prog t_law31_awake d_law31_awake NN [0, 1, 2, 3, 4, 5, 6, 7, 8, 9, 10] Try.f10 0
theorem R_law31_awake_ok : CSound Try.prog 10 R_law31_awake := run_sound t_law31_awake_ok d_law31_awake_ok mixed Try.func10 (by kernel_rfl) NN
theorem R_law31_awake_eq {β : Type} (K : AV → Hp → Option β) (h : Hp) : (R_law31_awake [] h).bind (fun p => K p.1 p.2) = f_law31_awake Try.prog t_law31_awake d_law31_awake NN K  h := by
  rw [← f_law31_awake_run]; exact runF_bind rfl
noncomputable def F_law31_awake : Fun := closedX [] [.o] R_law31_awake
theorem F_law31_awake_ok : CSound Try.prog 10 F_law31_awake := closedX_sound _ _ R_law31_awake_ok
noncomputable def G_law31_awake : DFun := closedXD [] [.o] R_law31_awake
theorem G_law31_awake_ro : Ro F_law31_awake G_law31_awake := closedX_ro _ _ _
theorem F_law31_awake_run {v : AV} (ha : plains [] = true) (hv : f_law31_awake Try.prog t_law31_awake d_law31_awake NN (fun v g => cvt false g v)  [] = some v) (h : Hp) : F_law31_awake [] h = some (v, h) := by
  have e : (R_law31_awake (nrms [] []) []).bind (fun (p : AV × Hp) => cvt false p.2 p.1) = some v := (R_law31_awake_eq (fun v g => cvt false g v)  []).trans hv
  exact (closedX_bind (shr := [.o]) ha e h).trans (congrArg (fun x => some (x, h)) (nrmR_rep 1 v))
/-! spile/spileref31.Few -/
noncomputable def t_ref31_Few : Tab := T0
theorem t_ref31_Few_ok : TSound Try.prog t_ref31_Few := TSound.zero
noncomputable def d_ref31_Few : DTab := D0
theorem d_ref31_Few_ok : DSound Try.prog d_ref31_Few := DSound.zero
noncomputable def R_ref31_Few : Fun := runF Try.prog t_ref31_Few d_ref31_Few NN [0, 2] Try.f11 1
theorem R_ref31_Few_ok : CSound Try.prog 11 R_ref31_Few := run_sound t_ref31_Few_ok d_ref31_Few_ok mixed Try.func11 (by kernel_rfl) NN
theorem R_ref31_Few_eq {β : Type} (K : AV → Hp → Option β) (a0 : AV) (h : Hp) : (R_ref31_Few [a0] h).bind (fun p => K p.1 p.2) = f_ref31_Few Try.prog t_ref31_Few d_ref31_Few NN K a0 h := by
  rw [← f_ref31_Few_run]; exact runF_bind rfl
noncomputable def F_ref31_Few : Fun := closedX [.l 4] [.o] R_ref31_Few
theorem F_ref31_Few_ok : CSound Try.prog 11 F_ref31_Few := closedX_sound _ _ R_ref31_Few_ok
noncomputable def G_ref31_Few : DFun := closedXD [.l 4] [.o] R_ref31_Few
theorem G_ref31_Few_ro : Ro F_ref31_Few G_ref31_Few := closedX_ro _ _ _
theorem F_ref31_Few_run {a0 : AV} {v : AV} (ha : plains [a0] = true) (hv : f_ref31_Few Try.prog t_ref31_Few d_ref31_Few NN (fun v g => cvt false g v) (nrm (.l 4) a0) [] = some v) (h : Hp) : F_ref31_Few [a0] h = some (v, h) := by
  have e : (R_ref31_Few (nrms [.l 4] [a0]) []).bind (fun (p : AV × Hp) => cvt false p.2 p.1) = some v := (R_ref31_Few_eq (fun v g => cvt false g v) (nrm (.l 4) a0) []).trans hv
  exact (closedX_bind (shr := [.o]) ha e h).trans (congrArg (fun x => some (x, h)) (nrmR_rep 1 v))
theorem F_ref31_Few_own {a0 : AV} {x0 : AV} {h : Hp} {v : AV} (ha : cvts false h [x0] = some [a0]) (hv : ∀ st, f_ref31_Few Try.prog t_ref31_Few d_ref31_Few NN (fun v g => cvt st g v) (nrm (.l 4) a0) [] = some v) : F_ref31_Few [x0] h = some (v, h) := by
  have e : ∀ st, (R_ref31_Few (nrms [.l 4] [a0]) []).bind (fun (p : AV × Hp) => cvt st p.2 p.1) = some v := fun st => (R_ref31_Few_eq (fun v g => cvt st g v) (nrm (.l 4) a0) []).trans (hv st)
  exact (closedX_ownB (shr := [.o]) ha e).trans (congrArg (fun x => some (x, h)) (nrmR_rep 1 v))
/-! spile/spilelaw31.short -/
noncomputable def t_law31_short : Tab := T0
theorem t_law31_short_ok : TSound Try.prog t_law31_short := TSound.zero
noncomputable def d_law31_short : DTab := D0
theorem d_law31_short_ok : DSound Try.prog d_law31_short := DSound.zero
noncomputable def R_law31_short : Fun := runF Try.prog t_law31_short d_law31_short NN [0, 1, 4] Try.f12 2
theorem R_law31_short_ok : CSound Try.prog 12 R_law31_short := run_sound t_law31_short_ok d_law31_short_ok mixed Try.func12 (by kernel_rfl) NN
theorem R_law31_short_eq {β : Type} (K : AV → Hp → Option β) (a0 : AV) (a1 : AV) (h : Hp) : (R_law31_short [a0, a1] h).bind (fun p => K p.1 p.2) = f_law31_short Try.prog t_law31_short d_law31_short NN K a0 a1 h := by
  rw [← f_law31_short_run]; exact runF_bind rfl
noncomputable def F_law31_short : Fun := closedX [.o, .o] [.o] R_law31_short
theorem F_law31_short_ok : CSound Try.prog 12 F_law31_short := closedX_sound _ _ R_law31_short_ok
noncomputable def G_law31_short : DFun := closedXD [.o, .o] [.o] R_law31_short
theorem G_law31_short_ro : Ro F_law31_short G_law31_short := closedX_ro _ _ _
theorem F_law31_short_run {a0 : AV} {a1 : AV} {v : AV} (ha : plains [a0, a1] = true) (hv : f_law31_short Try.prog t_law31_short d_law31_short NN (fun v g => cvt false g v) a0 a1 [] = some v) (h : Hp) : F_law31_short [a0, a1] h = some (v, h) := by
  have e : (R_law31_short (nrms [.o, .o] [a0, a1]) []).bind (fun (p : AV × Hp) => cvt false p.2 p.1) = some v := (R_law31_short_eq (fun v g => cvt false g v) a0 a1 []).trans hv
  exact (closedX_bind (shr := [.o]) ha e h).trans (congrArg (fun x => some (x, h)) (nrmR_rep 1 v))
theorem F_law31_short_own {a0 : AV} {a1 : AV} {x0 : AV} {x1 : AV} {h : Hp} {v : AV} (ha : cvts false h [x0, x1] = some [a0, a1]) (hv : ∀ st, f_law31_short Try.prog t_law31_short d_law31_short NN (fun v g => cvt st g v) a0 a1 [] = some v) : F_law31_short [x0, x1] h = some (v, h) := by
  have e : ∀ st, (R_law31_short (nrms [.o, .o] [a0, a1]) []).bind (fun (p : AV × Hp) => cvt st p.2 p.1) = some v := fun st => (R_law31_short_eq (fun v g => cvt st g v) a0 a1 []).trans (hv st)
  exact (closedX_ownB (shr := [.o]) ha e).trans (congrArg (fun x => some (x, h)) (nrmR_rep 1 v))
/-! slices.Clone[[]spile/api.Allowance,spile/api.Allowance] -/
noncomputable def t_slices_Clone_Allowance : Tab := T0
theorem t_slices_Clone_Allowance_ok : TSound Try.prog t_slices_Clone_Allowance := TSound.zero
noncomputable def d_slices_Clone_Allowance : DTab := D0
theorem d_slices_Clone_Allowance_ok : DSound Try.prog d_slices_Clone_Allowance := DSound.zero
noncomputable def R_slices_Clone_Allowance : Fun := runF Try.prog t_slices_Clone_Allowance d_slices_Clone_Allowance NN [0, 2, 4] Try.f14 1
theorem R_slices_Clone_Allowance_ok : CSound Try.prog 14 R_slices_Clone_Allowance := run_sound t_slices_Clone_Allowance_ok d_slices_Clone_Allowance_ok mixed Try.func14 (by kernel_rfl) NN
theorem R_slices_Clone_Allowance_eq {β : Type} (K : AV → Hp → Option β) (a0 : AV) (h : Hp) : (R_slices_Clone_Allowance [a0] h).bind (fun p => K p.1 p.2) = f_slices_Clone_Allowance Try.prog t_slices_Clone_Allowance d_slices_Clone_Allowance NN K a0 h := by
  rw [← f_slices_Clone_Allowance_run]; exact runF_bind rfl
noncomputable def F_slices_Clone_Allowance : Fun := closedX [.l 4] [.l 4] R_slices_Clone_Allowance
theorem F_slices_Clone_Allowance_ok : CSound Try.prog 14 F_slices_Clone_Allowance := closedX_sound _ _ R_slices_Clone_Allowance_ok
noncomputable def G_slices_Clone_Allowance : DFun := closedXD [.l 4] [.l 4] R_slices_Clone_Allowance
theorem G_slices_Clone_Allowance_ro : Ro F_slices_Clone_Allowance G_slices_Clone_Allowance := closedX_ro _ _ _
theorem F_slices_Clone_Allowance_run {a0 : AV} {v : AV} (ha : plains [a0] = true) (hv : f_slices_Clone_Allowance Try.prog t_slices_Clone_Allowance d_slices_Clone_Allowance NN (fun v g => cvt false g v) (nrm (.l 4) a0) [] = some v) (h : Hp) : F_slices_Clone_Allowance [a0] h = some ((nrmR [.l 4] v), h) := by
  have e : (R_slices_Clone_Allowance (nrms [.l 4] [a0]) []).bind (fun (p : AV × Hp) => cvt false p.2 p.1) = some v := (R_slices_Clone_Allowance_eq (fun v g => cvt false g v) (nrm (.l 4) a0) []).trans hv
  exact (closedX_bind (shr := [.l 4]) ha e h).trans (congrArg (fun x => some (x, h)) rfl)
theorem F_slices_Clone_Allowance_own {a0 : AV} {x0 : AV} {h : Hp} {v : AV} (ha : cvts false h [x0] = some [a0]) (hv : ∀ st, f_slices_Clone_Allowance Try.prog t_slices_Clone_Allowance d_slices_Clone_Allowance NN (fun v g => cvt st g v) (nrm (.l 4) a0) [] = some v) : F_slices_Clone_Allowance [x0] h = some ((nrmR [.l 4] v), h) := by
  have e : ∀ st, (R_slices_Clone_Allowance (nrms [.l 4] [a0]) []).bind (fun (p : AV × Hp) => cvt st p.2 p.1) = some v := fun st => (R_slices_Clone_Allowance_eq (fun v g => cvt st g v) (nrm (.l 4) a0) []).trans (hv st)
  exact (closedX_ownB (shr := [.l 4]) ha e).trans (congrArg (fun x => some (x, h)) rfl)
/-! spile/spileref31.Class -/
noncomputable def t_ref31_Class : Tab := T0
theorem t_ref31_Class_ok : TSound Try.prog t_ref31_Class := TSound.zero
noncomputable def d_ref31_Class : DTab := D0
theorem d_ref31_Class_ok : DSound Try.prog d_ref31_Class := DSound.zero
noncomputable def R_ref31_Class : Fun := runF Try.prog t_ref31_Class d_ref31_Class NN [0, 2] Try.f37 1
theorem R_ref31_Class_ok : CSound Try.prog 37 R_ref31_Class := run_sound t_ref31_Class_ok d_ref31_Class_ok mixed Try.func37 (by kernel_rfl) NN
theorem R_ref31_Class_eq {β : Type} (K : AV → Hp → Option β) (a0 : AV) (h : Hp) : (R_ref31_Class [a0] h).bind (fun p => K p.1 p.2) = f_ref31_Class Try.prog t_ref31_Class d_ref31_Class NN K a0 h := by
  rw [← f_ref31_Class_run]; exact runF_bind rfl
noncomputable def F_ref31_Class : Fun := closedX [.o] [.o] R_ref31_Class
theorem F_ref31_Class_ok : CSound Try.prog 37 F_ref31_Class := closedX_sound _ _ R_ref31_Class_ok
noncomputable def G_ref31_Class : DFun := closedXD [.o] [.o] R_ref31_Class
theorem G_ref31_Class_ro : Ro F_ref31_Class G_ref31_Class := closedX_ro _ _ _
theorem F_ref31_Class_run {a0 : AV} {v : AV} (ha : plains [a0] = true) (hv : f_ref31_Class Try.prog t_ref31_Class d_ref31_Class NN (fun v g => cvt false g v) a0 [] = some v) (h : Hp) : F_ref31_Class [a0] h = some (v, h) := by
  have e : (R_ref31_Class (nrms [.o] [a0]) []).bind (fun (p : AV × Hp) => cvt false p.2 p.1) = some v := (R_ref31_Class_eq (fun v g => cvt false g v) a0 []).trans hv
  exact (closedX_bind (shr := [.o]) ha e h).trans (congrArg (fun x => some (x, h)) (nrmR_rep 1 v))
theorem F_ref31_Class_own {a0 : AV} {x0 : AV} {h : Hp} {v : AV} (ha : cvts false h [x0] = some [a0]) (hv : ∀ st, f_ref31_Class Try.prog t_ref31_Class d_ref31_Class NN (fun v g => cvt st g v) a0 [] = some v) : F_ref31_Class [x0] h = some (v, h) := by
  have e : ∀ st, (R_ref31_Class (nrms [.o] [a0]) []).bind (fun (p : AV × Hp) => cvt st p.2 p.1) = some v := fun st => (R_ref31_Class_eq (fun v g => cvt st g v) a0 []).trans (hv st)
  exact (closedX_ownB (shr := [.o]) ha e).trans (congrArg (fun x => some (x, h)) (nrmR_rep 1 v))
/-! spile/spileref31.Behind -/
noncomputable def t_ref31_Behind : Tab := T0
theorem t_ref31_Behind_ok : TSound Try.prog t_ref31_Behind := TSound.zero
noncomputable def d_ref31_Behind : DTab := D0
theorem d_ref31_Behind_ok : DSound Try.prog d_ref31_Behind := DSound.zero
noncomputable def R_ref31_Behind : Fun := runF Try.prog t_ref31_Behind d_ref31_Behind NN [0, 1, 2, 3, 4, 9, 19] Try.f44 2
theorem R_ref31_Behind_ok : CSound Try.prog 44 R_ref31_Behind := run_sound t_ref31_Behind_ok d_ref31_Behind_ok mixed Try.func44 (by kernel_rfl) NN
theorem R_ref31_Behind_eq {β : Type} (K : AV → Hp → Option β) (a0 : AV) (a1 : AV) (h : Hp) : (R_ref31_Behind [a0, a1] h).bind (fun p => K p.1 p.2) = f_ref31_Behind Try.prog t_ref31_Behind d_ref31_Behind NN K a0 a1 h := by
  rw [← f_ref31_Behind_run]; exact runF_bind rfl
noncomputable def F_ref31_Behind : Fun := closedX [.o, .o] [.o] R_ref31_Behind
theorem F_ref31_Behind_ok : CSound Try.prog 44 F_ref31_Behind := closedX_sound _ _ R_ref31_Behind_ok
noncomputable def G_ref31_Behind : DFun := closedXD [.o, .o] [.o] R_ref31_Behind
theorem G_ref31_Behind_ro : Ro F_ref31_Behind G_ref31_Behind := closedX_ro _ _ _
theorem F_ref31_Behind_run {a0 : AV} {a1 : AV} {v : AV} (ha : plains [a0, a1] = true) (hv : f_ref31_Behind Try.prog t_ref31_Behind d_ref31_Behind NN (fun v g => cvt false g v) a0 a1 [] = some v) (h : Hp) : F_ref31_Behind [a0, a1] h = some (v, h) := by
  have e : (R_ref31_Behind (nrms [.o, .o] [a0, a1]) []).bind (fun (p : AV × Hp) => cvt false p.2 p.1) = some v := (R_ref31_Behind_eq (fun v g => cvt false g v) a0 a1 []).trans hv
  exact (closedX_bind (shr := [.o]) ha e h).trans (congrArg (fun x => some (x, h)) (nrmR_rep 1 v))
theorem F_ref31_Behind_own {a0 : AV} {a1 : AV} {x0 : AV} {x1 : AV} {h : Hp} {v : AV} (ha : cvts false h [x0, x1] = some [a0, a1]) (hv : ∀ st, f_ref31_Behind Try.prog t_ref31_Behind d_ref31_Behind NN (fun v g => cvt st g v) a0 a1 [] = some v) : F_ref31_Behind [x0, x1] h = some (v, h) := by
  have e : ∀ st, (R_ref31_Behind (nrms [.o, .o] [a0, a1]) []).bind (fun (p : AV × Hp) => cvt st p.2 p.1) = some v := fun st => (R_ref31_Behind_eq (fun v g => cvt st g v) a0 a1 []).trans (hv st)
  exact (closedX_ownB (shr := [.o]) ha e).trans (congrArg (fun x => some (x, h)) (nrmR_rep 1 v))
/-! spile/spileref31.Check -/
noncomputable def t_ref31_Check : Tab := (updF (updF T0 37 F_ref31_Class) 44 F_ref31_Behind)
theorem t_ref31_Check_ok : TSound Try.prog t_ref31_Check := (TSound.upd (TSound.upd TSound.zero F_ref31_Class_ok) F_ref31_Behind_ok)
@[simp] theorem t_ref31_Check_37 : t_ref31_Check 37 = some F_ref31_Class := rfl
@[simp] theorem t_ref31_Check_44 : t_ref31_Check 44 = some F_ref31_Behind := rfl
noncomputable def d_ref31_Check : DTab := D0
theorem d_ref31_Check_ok : DSound Try.prog d_ref31_Check := DSound.zero
noncomputable def R_ref31_Check : Fun := runF Try.prog t_ref31_Check d_ref31_Check NN [0, 2, 3, 4, 5, 8, 12, 52, 65] Try.f20 1
theorem R_ref31_Check_ok : CSound Try.prog 20 R_ref31_Check := run_sound t_ref31_Check_ok d_ref31_Check_ok mixed Try.func20 (by kernel_rfl) NN
theorem R_ref31_Check_eq {β : Type} (K : AV → Hp → Option β) (a0 : AV) (h : Hp) : (R_ref31_Check [a0] h).bind (fun p => K p.1 p.2) = f_ref31_Check Try.prog t_ref31_Check d_ref31_Check NN K a0 h := by
  rw [← f_ref31_Check_run]; exact runF_bind rfl
noncomputable def F_ref31_Check : Fun := closedX [.l 4] [.o, .o] R_ref31_Check
theorem F_ref31_Check_ok : CSound Try.prog 20 F_ref31_Check := closedX_sound _ _ R_ref31_Check_ok
noncomputable def G_ref31_Check : DFun := closedXD [.l 4] [.o, .o] R_ref31_Check
theorem G_ref31_Check_ro : Ro F_ref31_Check G_ref31_Check := closedX_ro _ _ _
theorem F_ref31_Check_run {a0 : AV} {v : AV} (ha : plains [a0] = true) (hv : f_ref31_Check Try.prog t_ref31_Check d_ref31_Check NN (fun v g => cvt false g v) (nrm (.l 4) a0) [] = some v) (h : Hp) : F_ref31_Check [a0] h = some (v, h) := by
  have e : (R_ref31_Check (nrms [.l 4] [a0]) []).bind (fun (p : AV × Hp) => cvt false p.2 p.1) = some v := (R_ref31_Check_eq (fun v g => cvt false g v) (nrm (.l 4) a0) []).trans hv
  exact (closedX_bind (shr := [.o, .o]) ha e h).trans (congrArg (fun x => some (x, h)) (nrmR_rep 2 v))
theorem F_ref31_Check_own {a0 : AV} {x0 : AV} {h : Hp} {v : AV} (ha : cvts false h [x0] = some [a0]) (hv : ∀ st, f_ref31_Check Try.prog t_ref31_Check d_ref31_Check NN (fun v g => cvt st g v) (nrm (.l 4) a0) [] = some v) : F_ref31_Check [x0] h = some (v, h) := by
  have e : ∀ st, (R_ref31_Check (nrms [.l 4] [a0]) []).bind (fun (p : AV × Hp) => cvt st p.2 p.1) = some v := fun st => (R_ref31_Check_eq (fun v g => cvt st g v) (nrm (.l 4) a0) []).trans (hv st)
  exact (closedX_ownB (shr := [.o, .o]) ha e).trans (congrArg (fun x => some (x, h)) (nrmR_rep 2 v))
/-! spile/spileref31.Right -/
noncomputable def t_ref31_Right : Tab := (updF T0 20 F_ref31_Check)
theorem t_ref31_Right_ok : TSound Try.prog t_ref31_Right := (TSound.upd TSound.zero F_ref31_Check_ok)
@[simp] theorem t_ref31_Right_20 : t_ref31_Right 20 = some F_ref31_Check := rfl
noncomputable def d_ref31_Right : DTab := D0
theorem d_ref31_Right_ok : DSound Try.prog d_ref31_Right := DSound.zero
noncomputable def R_ref31_Right : Fun := runF Try.prog t_ref31_Right d_ref31_Right NN [0, 2, 4] Try.f36 1
theorem R_ref31_Right_ok : CSound Try.prog 36 R_ref31_Right := run_sound t_ref31_Right_ok d_ref31_Right_ok mixed Try.func36 (by kernel_rfl) NN
theorem R_ref31_Right_eq {β : Type} (K : AV → Hp → Option β) (a0 : AV) (h : Hp) : (R_ref31_Right [a0] h).bind (fun p => K p.1 p.2) = f_ref31_Right Try.prog t_ref31_Right d_ref31_Right NN K a0 h := by
  rw [← f_ref31_Right_run]; exact runF_bind rfl
noncomputable def F_ref31_Right : Fun := closedX [.l 4] [.o] R_ref31_Right
theorem F_ref31_Right_ok : CSound Try.prog 36 F_ref31_Right := closedX_sound _ _ R_ref31_Right_ok
noncomputable def G_ref31_Right : DFun := closedXD [.l 4] [.o] R_ref31_Right
theorem G_ref31_Right_ro : Ro F_ref31_Right G_ref31_Right := closedX_ro _ _ _
theorem F_ref31_Right_run {a0 : AV} {v : AV} (ha : plains [a0] = true) (hv : f_ref31_Right Try.prog t_ref31_Right d_ref31_Right NN (fun v g => cvt false g v) (nrm (.l 4) a0) [] = some v) (h : Hp) : F_ref31_Right [a0] h = some (v, h) := by
  have e : (R_ref31_Right (nrms [.l 4] [a0]) []).bind (fun (p : AV × Hp) => cvt false p.2 p.1) = some v := (R_ref31_Right_eq (fun v g => cvt false g v) (nrm (.l 4) a0) []).trans hv
  exact (closedX_bind (shr := [.o]) ha e h).trans (congrArg (fun x => some (x, h)) (nrmR_rep 1 v))
theorem F_ref31_Right_own {a0 : AV} {x0 : AV} {h : Hp} {v : AV} (ha : cvts false h [x0] = some [a0]) (hv : ∀ st, f_ref31_Right Try.prog t_ref31_Right d_ref31_Right NN (fun v g => cvt st g v) (nrm (.l 4) a0) [] = some v) : F_ref31_Right [x0] h = some (v, h) := by
  have e : ∀ st, (R_ref31_Right (nrms [.l 4] [a0]) []).bind (fun (p : AV × Hp) => cvt st p.2 p.1) = some v := fun st => (R_ref31_Right_eq (fun v g => cvt st g v) (nrm (.l 4) a0) []).trans (hv st)
  exact (closedX_ownB (shr := [.o]) ha e).trans (congrArg (fun x => some (x, h)) (nrmR_rep 1 v))
/-! spile/spileref31.Day -/
noncomputable def t_ref31_Day : Tab := T0
theorem t_ref31_Day_ok : TSound Try.prog t_ref31_Day := TSound.zero
noncomputable def d_ref31_Day : DTab := D0
theorem d_ref31_Day_ok : DSound Try.prog d_ref31_Day := DSound.zero
noncomputable def R_ref31_Day : Fun := runF Try.prog t_ref31_Day d_ref31_Day NN [0, 2] Try.f38 1
theorem R_ref31_Day_ok : CSound Try.prog 38 R_ref31_Day := run_sound t_ref31_Day_ok d_ref31_Day_ok mixed Try.func38 (by kernel_rfl) NN
theorem R_ref31_Day_eq {β : Type} (K : AV → Hp → Option β) (a0 : AV) (h : Hp) : (R_ref31_Day [a0] h).bind (fun p => K p.1 p.2) = f_ref31_Day Try.prog t_ref31_Day d_ref31_Day NN K a0 h := by
  rw [← f_ref31_Day_run]; exact runF_bind rfl
noncomputable def F_ref31_Day : Fun := closedX [.o] [.o] R_ref31_Day
theorem F_ref31_Day_ok : CSound Try.prog 38 F_ref31_Day := closedX_sound _ _ R_ref31_Day_ok
noncomputable def G_ref31_Day : DFun := closedXD [.o] [.o] R_ref31_Day
theorem G_ref31_Day_ro : Ro F_ref31_Day G_ref31_Day := closedX_ro _ _ _
theorem F_ref31_Day_run {a0 : AV} {v : AV} (ha : plains [a0] = true) (hv : f_ref31_Day Try.prog t_ref31_Day d_ref31_Day NN (fun v g => cvt false g v) a0 [] = some v) (h : Hp) : F_ref31_Day [a0] h = some (v, h) := by
  have e : (R_ref31_Day (nrms [.o] [a0]) []).bind (fun (p : AV × Hp) => cvt false p.2 p.1) = some v := (R_ref31_Day_eq (fun v g => cvt false g v) a0 []).trans hv
  exact (closedX_bind (shr := [.o]) ha e h).trans (congrArg (fun x => some (x, h)) (nrmR_rep 1 v))
theorem F_ref31_Day_own {a0 : AV} {x0 : AV} {h : Hp} {v : AV} (ha : cvts false h [x0] = some [a0]) (hv : ∀ st, f_ref31_Day Try.prog t_ref31_Day d_ref31_Day NN (fun v g => cvt st g v) a0 [] = some v) : F_ref31_Day [x0] h = some (v, h) := by
  have e : ∀ st, (R_ref31_Day (nrms [.o] [a0]) []).bind (fun (p : AV × Hp) => cvt st p.2 p.1) = some v := fun st => (R_ref31_Day_eq (fun v g => cvt st g v) a0 []).trans (hv st)
  exact (closedX_ownB (shr := [.o]) ha e).trans (congrArg (fun x => some (x, h)) (nrmR_rep 1 v))
/-! spile/spileref31.Version -/
noncomputable def t_ref31_Version : Tab := T0
theorem t_ref31_Version_ok : TSound Try.prog t_ref31_Version := TSound.zero
noncomputable def d_ref31_Version : DTab := D0
theorem d_ref31_Version_ok : DSound Try.prog d_ref31_Version := DSound.zero
noncomputable def R_ref31_Version : Fun := runF Try.prog t_ref31_Version d_ref31_Version NN [0, 1, 4, 5, 6, 10, 28] Try.f46 2
theorem R_ref31_Version_ok : CSound Try.prog 46 R_ref31_Version := run_sound t_ref31_Version_ok d_ref31_Version_ok mixed Try.func46 (by kernel_rfl) NN
theorem R_ref31_Version_eq {β : Type} (K : AV → Hp → Option β) (a0 : AV) (a1 : AV) (h : Hp) : (R_ref31_Version [a0, a1] h).bind (fun p => K p.1 p.2) = f_ref31_Version Try.prog t_ref31_Version d_ref31_Version NN K a0 a1 h := by
  rw [← f_ref31_Version_run]; exact runF_bind rfl
noncomputable def F_ref31_Version : Fun := closedX [.l 4, .o] [.o] R_ref31_Version
theorem F_ref31_Version_ok : CSound Try.prog 46 F_ref31_Version := closedX_sound _ _ R_ref31_Version_ok
noncomputable def G_ref31_Version : DFun := closedXD [.l 4, .o] [.o] R_ref31_Version
theorem G_ref31_Version_ro : Ro F_ref31_Version G_ref31_Version := closedX_ro _ _ _
theorem F_ref31_Version_run {a0 : AV} {a1 : AV} {v : AV} (ha : plains [a0, a1] = true) (hv : f_ref31_Version Try.prog t_ref31_Version d_ref31_Version NN (fun v g => cvt false g v) (nrm (.l 4) a0) a1 [] = some v) (h : Hp) : F_ref31_Version [a0, a1] h = some (v, h) := by
  have e : (R_ref31_Version (nrms [.l 4, .o] [a0, a1]) []).bind (fun (p : AV × Hp) => cvt false p.2 p.1) = some v := (R_ref31_Version_eq (fun v g => cvt false g v) (nrm (.l 4) a0) a1 []).trans hv
  exact (closedX_bind (shr := [.o]) ha e h).trans (congrArg (fun x => some (x, h)) (nrmR_rep 1 v))
theorem F_ref31_Version_own {a0 : AV} {a1 : AV} {x0 : AV} {x1 : AV} {h : Hp} {v : AV} (ha : cvts false h [x0, x1] = some [a0, a1]) (hv : ∀ st, f_ref31_Version Try.prog t_ref31_Version d_ref31_Version NN (fun v g => cvt st g v) (nrm (.l 4) a0) a1 [] = some v) : F_ref31_Version [x0, x1] h = some (v, h) := by
  have e : ∀ st, (R_ref31_Version (nrms [.l 4, .o] [a0, a1]) []).bind (fun (p : AV × Hp) => cvt st p.2 p.1) = some v := fun st => (R_ref31_Version_eq (fun v g => cvt st g v) (nrm (.l 4) a0) a1 []).trans (hv st)
  exact (closedX_ownB (shr := [.o]) ha e).trans (congrArg (fun x => some (x, h)) (nrmR_rep 1 v))
/-! spile/spileref31.Month -/
noncomputable def t_ref31_Month : Tab := T0
theorem t_ref31_Month_ok : TSound Try.prog t_ref31_Month := TSound.zero
noncomputable def d_ref31_Month : DTab := D0
theorem d_ref31_Month_ok : DSound Try.prog d_ref31_Month := DSound.zero
noncomputable def R_ref31_Month : Fun := runF Try.prog t_ref31_Month d_ref31_Month NN [0, 2, 3, 4, 5, 6, 21, 37, 39, 40, 43] Try.f49 1
theorem R_ref31_Month_ok : CSound Try.prog 49 R_ref31_Month := run_sound t_ref31_Month_ok d_ref31_Month_ok mixed Try.func49 (by kernel_rfl) NN
theorem R_ref31_Month_eq {β : Type} (K : AV → Hp → Option β) (a0 : AV) (h : Hp) : (R_ref31_Month [a0] h).bind (fun p => K p.1 p.2) = f_ref31_Month Try.prog t_ref31_Month d_ref31_Month NN K a0 h := by
  rw [← f_ref31_Month_run]; exact runF_bind rfl
noncomputable def F_ref31_Month : Fun := closedX [.o] [.o] R_ref31_Month
theorem F_ref31_Month_ok : CSound Try.prog 49 F_ref31_Month := closedX_sound _ _ R_ref31_Month_ok
noncomputable def G_ref31_Month : DFun := closedXD [.o] [.o] R_ref31_Month
theorem G_ref31_Month_ro : Ro F_ref31_Month G_ref31_Month := closedX_ro _ _ _
theorem F_ref31_Month_run {a0 : AV} {v : AV} (ha : plains [a0] = true) (hv : f_ref31_Month Try.prog t_ref31_Month d_ref31_Month NN (fun v g => cvt false g v) a0 [] = some v) (h : Hp) : F_ref31_Month [a0] h = some (v, h) := by
  have e : (R_ref31_Month (nrms [.o] [a0]) []).bind (fun (p : AV × Hp) => cvt false p.2 p.1) = some v := (R_ref31_Month_eq (fun v g => cvt false g v) a0 []).trans hv
  exact (closedX_bind (shr := [.o]) ha e h).trans (congrArg (fun x => some (x, h)) (nrmR_rep 1 v))
theorem F_ref31_Month_own {a0 : AV} {x0 : AV} {h : Hp} {v : AV} (ha : cvts false h [x0] = some [a0]) (hv : ∀ st, f_ref31_Month Try.prog t_ref31_Month d_ref31_Month NN (fun v g => cvt st g v) a0 [] = some v) : F_ref31_Month [x0] h = some (v, h) := by
  have e : ∀ st, (R_ref31_Month (nrms [.o] [a0]) []).bind (fun (p : AV × Hp) => cvt st p.2 p.1) = some v := fun st => (R_ref31_Month_eq (fun v g => cvt st g v) a0 []).trans (hv st)
  exact (closedX_ownB (shr := [.o]) ha e).trans (congrArg (fun x => some (x, h)) (nrmR_rep 1 v))
/-! spile/spileref31.rate -/
noncomputable def t_ref31_rate : Tab := (updF (updF T0 46 F_ref31_Version) 49 F_ref31_Month)
theorem t_ref31_rate_ok : TSound Try.prog t_ref31_rate := (TSound.upd (TSound.upd TSound.zero F_ref31_Version_ok) F_ref31_Month_ok)
@[simp] theorem t_ref31_rate_46 : t_ref31_rate 46 = some F_ref31_Version := rfl
@[simp] theorem t_ref31_rate_49 : t_ref31_rate 49 = some F_ref31_Month := rfl
noncomputable def d_ref31_rate : DTab := D0
theorem d_ref31_rate_ok : DSound Try.prog d_ref31_rate := DSound.zero
noncomputable def R_ref31_rate : Fun := runF Try.prog t_ref31_rate d_ref31_rate NN [0, 1, 2, 6, 7, 8, 9, 18, 45] Try.f39 3
theorem R_ref31_rate_ok : CSound Try.prog 39 R_ref31_rate := run_sound t_ref31_rate_ok d_ref31_rate_ok mixed Try.func39 (by kernel_rfl) NN
theorem R_ref31_rate_eq {β : Type} (K : AV → Hp → Option β) (a0 : AV) (a1 : AV) (a2 : AV) (h : Hp) : (R_ref31_rate [a0, a1, a2] h).bind (fun p => K p.1 p.2) = f_ref31_rate Try.prog t_ref31_rate d_ref31_rate NN K a0 a1 a2 h := by
  rw [← f_ref31_rate_run]; exact runF_bind rfl
noncomputable def F_ref31_rate : Fun := closedX [.l 4, .o, .o] [.o] R_ref31_rate
theorem F_ref31_rate_ok : CSound Try.prog 39 F_ref31_rate := closedX_sound _ _ R_ref31_rate_ok
noncomputable def G_ref31_rate : DFun := closedXD [.l 4, .o, .o] [.o] R_ref31_rate
theorem G_ref31_rate_ro : Ro F_ref31_rate G_ref31_rate := closedX_ro _ _ _
theorem F_ref31_rate_run {a0 : AV} {a1 : AV} {a2 : AV} {v : AV} (ha : plains [a0, a1, a2] = true) (hv : f_ref31_rate Try.prog t_ref31_rate d_ref31_rate NN (fun v g => cvt false g v) (nrm (.l 4) a0) a1 a2 [] = some v) (h : Hp) : F_ref31_rate [a0, a1, a2] h = some (v, h) := by
  have e : (R_ref31_rate (nrms [.l 4, .o, .o] [a0, a1, a2]) []).bind (fun (p : AV × Hp) => cvt false p.2 p.1) = some v := (R_ref31_rate_eq (fun v g => cvt false g v) (nrm (.l 4) a0) a1 a2 []).trans hv
  exact (closedX_bind (shr := [.o]) ha e h).trans (congrArg (fun x => some (x, h)) (nrmR_rep 1 v))
theorem F_ref31_rate_own {a0 : AV} {a1 : AV} {a2 : AV} {x0 : AV} {x1 : AV} {x2 : AV} {h : Hp} {v : AV} (ha : cvts false h [x0, x1, x2] = some [a0, a1, a2]) (hv : ∀ st, f_ref31_rate Try.prog t_ref31_rate d_ref31_rate NN (fun v g => cvt st g v) (nrm (.l 4) a0) a1 a2 [] = some v) : F_ref31_rate [x0, x1, x2] h = some (v, h) := by
  have e : ∀ st, (R_ref31_rate (nrms [.l 4, .o, .o] [a0, a1, a2]) []).bind (fun (p : AV × Hp) => cvt st p.2 p.1) = some v := fun st => (R_ref31_rate_eq (fun v g => cvt st g v) (nrm (.l 4) a0) a1 a2 []).trans (hv st)
  exact (closedX_ownB (shr := [.o]) ha e).trans (congrArg (fun x => some (x, h)) (nrmR_rep 1 v))
/-! spile/spileref31.Sum -/
noncomputable def t_ref31_Sum : Tab := (updF (updF (updF (updF T0 36 F_ref31_Right) 37 F_ref31_Class) 38 F_ref31_Day) 39 F_ref31_rate)
theorem t_ref31_Sum_ok : TSound Try.prog t_ref31_Sum := (TSound.upd (TSound.upd (TSound.upd (TSound.upd TSound.zero F_ref31_Right_ok) F_ref31_Class_ok) F_ref31_Day_ok) F_ref31_rate_ok)
@[simp] theorem t_ref31_Sum_36 : t_ref31_Sum 36 = some F_ref31_Right := rfl
@[simp] theorem t_ref31_Sum_37 : t_ref31_Sum 37 = some F_ref31_Class := rfl
@[simp] theorem t_ref31_Sum_38 : t_ref31_Sum 38 = some F_ref31_Day := rfl
@[simp] theorem t_ref31_Sum_39 : t_ref31_Sum 39 = some F_ref31_rate := rfl
noncomputable def d_ref31_Sum : DTab := D0
theorem d_ref31_Sum_ok : DSound Try.prog d_ref31_Sum := DSound.zero
noncomputable def R_ref31_Sum : Fun := runF Try.prog t_ref31_Sum d_ref31_Sum NN [0, 1, 2, 3, 8, 9, 10, 11, 14, 27, 30, 34] Try.f15 4
theorem R_ref31_Sum_ok : CSound Try.prog 15 R_ref31_Sum := run_sound t_ref31_Sum_ok d_ref31_Sum_ok mixed Try.func15 (by kernel_rfl) NN
theorem R_ref31_Sum_eq {β : Type} (K : AV → Hp → Option β) (a0 : AV) (a1 : AV) (a2 : AV) (a3 : AV) (h : Hp) : (R_ref31_Sum [a0, a1, a2, a3] h).bind (fun p => K p.1 p.2) = f_ref31_Sum Try.prog t_ref31_Sum d_ref31_Sum NN K a0 a1 a2 a3 h := by
  rw [← f_ref31_Sum_run]; exact runF_bind rfl
noncomputable def F_ref31_Sum : Fun := closedX [.l 4, .o, .o, .o] [.o, .o] R_ref31_Sum
theorem F_ref31_Sum_ok : CSound Try.prog 15 F_ref31_Sum := closedX_sound _ _ R_ref31_Sum_ok
noncomputable def G_ref31_Sum : DFun := closedXD [.l 4, .o, .o, .o] [.o, .o] R_ref31_Sum
theorem G_ref31_Sum_ro : Ro F_ref31_Sum G_ref31_Sum := closedX_ro _ _ _
theorem F_ref31_Sum_run {a0 : AV} {a1 : AV} {a2 : AV} {a3 : AV} {v : AV} (ha : plains [a0, a1, a2, a3] = true) (hv : f_ref31_Sum Try.prog t_ref31_Sum d_ref31_Sum NN (fun v g => cvt false g v) (nrm (.l 4) a0) a1 a2 a3 [] = some v) (h : Hp) : F_ref31_Sum [a0, a1, a2, a3] h = some (v, h) := by
  have e : (R_ref31_Sum (nrms [.l 4, .o, .o, .o] [a0, a1, a2, a3]) []).bind (fun (p : AV × Hp) => cvt false p.2 p.1) = some v := (R_ref31_Sum_eq (fun v g => cvt false g v) (nrm (.l 4) a0) a1 a2 a3 []).trans hv
  exact (closedX_bind (shr := [.o, .o]) ha e h).trans (congrArg (fun x => some (x, h)) (nrmR_rep 2 v))
theorem F_ref31_Sum_own {a0 : AV} {a1 : AV} {a2 : AV} {a3 : AV} {x0 : AV} {x1 : AV} {x2 : AV} {x3 : AV} {h : Hp} {v : AV} (ha : cvts false h [x0, x1, x2, x3] = some [a0, a1, a2, a3]) (hv : ∀ st, f_ref31_Sum Try.prog t_ref31_Sum d_ref31_Sum NN (fun v g => cvt st g v) (nrm (.l 4) a0) a1 a2 a3 [] = some v) : F_ref31_Sum [x0, x1, x2, x3] h = some (v, h) := by
  have e : ∀ st, (R_ref31_Sum (nrms [.l 4, .o, .o, .o] [a0, a1, a2, a3]) []).bind (fun (p : AV × Hp) => cvt st p.2 p.1) = some v := fun st => (R_ref31_Sum_eq (fun v g => cvt st g v) (nrm (.l 4) a0) a1 a2 a3 []).trans (hv st)
  exact (closedX_ownB (shr := [.o, .o]) ha e).trans (congrArg (fun x => some (x, h)) (nrmR_rep 2 v))
/-! spile/spileref01.Product -/
noncomputable def t_ref01_Product : Tab := T0
theorem t_ref01_Product_ok : TSound Try.prog t_ref01_Product := TSound.zero
noncomputable def d_ref01_Product : DTab := D0
theorem d_ref01_Product_ok : DSound Try.prog d_ref01_Product := DSound.zero
noncomputable def R_ref01_Product : Fun := runF Try.prog t_ref01_Product d_ref01_Product NN [0, 1, 4, 5, 6, 7, 8, 9] Try.f65 2
theorem R_ref01_Product_ok : CSound Try.prog 65 R_ref01_Product := run_sound t_ref01_Product_ok d_ref01_Product_ok mixed Try.func65 (by kernel_rfl) NN
theorem R_ref01_Product_eq {β : Type} (K : AV → Hp → Option β) (a0 : AV) (a1 : AV) (h : Hp) : (R_ref01_Product [a0, a1] h).bind (fun p => K p.1 p.2) = f_ref01_Product Try.prog t_ref01_Product d_ref01_Product NN K a0 a1 h := by
  rw [← f_ref01_Product_run]; exact runF_bind rfl
noncomputable def F_ref01_Product : Fun := closedX [.o, .o] [.o] R_ref01_Product
theorem F_ref01_Product_ok : CSound Try.prog 65 F_ref01_Product := closedX_sound _ _ R_ref01_Product_ok
noncomputable def G_ref01_Product : DFun := closedXD [.o, .o] [.o] R_ref01_Product
theorem G_ref01_Product_ro : Ro F_ref01_Product G_ref01_Product := closedX_ro _ _ _
theorem F_ref01_Product_run {a0 : AV} {a1 : AV} {v : AV} (ha : plains [a0, a1] = true) (hv : f_ref01_Product Try.prog t_ref01_Product d_ref01_Product NN (fun v g => cvt false g v) a0 a1 [] = some v) (h : Hp) : F_ref01_Product [a0, a1] h = some (v, h) := by
  have e : (R_ref01_Product (nrms [.o, .o] [a0, a1]) []).bind (fun (p : AV × Hp) => cvt false p.2 p.1) = some v := (R_ref01_Product_eq (fun v g => cvt false g v) a0 a1 []).trans hv
  exact (closedX_bind (shr := [.o]) ha e h).trans (congrArg (fun x => some (x, h)) (nrmR_rep 1 v))
theorem F_ref01_Product_own {a0 : AV} {a1 : AV} {x0 : AV} {x1 : AV} {h : Hp} {v : AV} (ha : cvts false h [x0, x1] = some [a0, a1]) (hv : ∀ st, f_ref01_Product Try.prog t_ref01_Product d_ref01_Product NN (fun v g => cvt st g v) a0 a1 [] = some v) : F_ref01_Product [x0, x1] h = some (v, h) := by
  have e : ∀ st, (R_ref01_Product (nrms [.o, .o] [a0, a1]) []).bind (fun (p : AV × Hp) => cvt st p.2 p.1) = some v := fun st => (R_ref01_Product_eq (fun v g => cvt st g v) a0 a1 []).trans (hv st)
  exact (closedX_ownB (shr := [.o]) ha e).trans (congrArg (fun x => some (x, h)) (nrmR_rep 1 v))
/-! spile/spileref01.Less -/
noncomputable def t_ref01_Less : Tab := T0
theorem t_ref01_Less_ok : TSound Try.prog t_ref01_Less := TSound.zero
noncomputable def d_ref01_Less : DTab := D0
theorem d_ref01_Less_ok : DSound Try.prog d_ref01_Less := DSound.zero
noncomputable def R_ref01_Less : Fun := runF Try.prog t_ref01_Less d_ref01_Less NN [0, 1, 2, 3, 4] Try.f66 2
theorem R_ref01_Less_ok : CSound Try.prog 66 R_ref01_Less := run_sound t_ref01_Less_ok d_ref01_Less_ok mixed Try.func66 (by kernel_rfl) NN
theorem R_ref01_Less_eq {β : Type} (K : AV → Hp → Option β) (a0 : AV) (a1 : AV) (h : Hp) : (R_ref01_Less [a0, a1] h).bind (fun p => K p.1 p.2) = f_ref01_Less Try.prog t_ref01_Less d_ref01_Less NN K a0 a1 h := by
  rw [← f_ref01_Less_run]; exact runF_bind rfl
noncomputable def F_ref01_Less : Fun := closedX [.o, .o] [.o] R_ref01_Less
theorem F_ref01_Less_ok : CSound Try.prog 66 F_ref01_Less := closedX_sound _ _ R_ref01_Less_ok
noncomputable def G_ref01_Less : DFun := closedXD [.o, .o] [.o] R_ref01_Less
theorem G_ref01_Less_ro : Ro F_ref01_Less G_ref01_Less := closedX_ro _ _ _
theorem F_ref01_Less_run {a0 : AV} {a1 : AV} {v : AV} (ha : plains [a0, a1] = true) (hv : f_ref01_Less Try.prog t_ref01_Less d_ref01_Less NN (fun v g => cvt false g v) a0 a1 [] = some v) (h : Hp) : F_ref01_Less [a0, a1] h = some (v, h) := by
  have e : (R_ref01_Less (nrms [.o, .o] [a0, a1]) []).bind (fun (p : AV × Hp) => cvt false p.2 p.1) = some v := (R_ref01_Less_eq (fun v g => cvt false g v) a0 a1 []).trans hv
  exact (closedX_bind (shr := [.o]) ha e h).trans (congrArg (fun x => some (x, h)) (nrmR_rep 1 v))
theorem F_ref01_Less_own {a0 : AV} {a1 : AV} {x0 : AV} {x1 : AV} {h : Hp} {v : AV} (ha : cvts false h [x0, x1] = some [a0, a1]) (hv : ∀ st, f_ref01_Less Try.prog t_ref01_Less d_ref01_Less NN (fun v g => cvt st g v) a0 a1 [] = some v) : F_ref01_Less [x0, x1] h = some (v, h) := by
  have e : ∀ st, (R_ref01_Less (nrms [.o, .o] [a0, a1]) []).bind (fun (p : AV × Hp) => cvt st p.2 p.1) = some v := fun st => (R_ref01_Less_eq (fun v g => cvt st g v) a0 a1 []).trans (hv st)
  exact (closedX_ownB (shr := [.o]) ha e).trans (congrArg (fun x => some (x, h)) (nrmR_rep 1 v))
/-! spile/spileref01.minus -/
noncomputable def t_ref01_minus : Tab := T0
theorem t_ref01_minus_ok : TSound Try.prog t_ref01_minus := TSound.zero
noncomputable def d_ref01_minus : DTab := D0
theorem d_ref01_minus_ok : DSound Try.prog d_ref01_minus := DSound.zero
noncomputable def R_ref01_minus : Fun := runF Try.prog t_ref01_minus d_ref01_minus NN [0, 1, 2, 3, 4, 9] Try.f67 2
theorem R_ref01_minus_ok : CSound Try.prog 67 R_ref01_minus := run_sound t_ref01_minus_ok d_ref01_minus_ok mixed Try.func67 (by kernel_rfl) NN
theorem R_ref01_minus_eq {β : Type} (K : AV → Hp → Option β) (a0 : AV) (a1 : AV) (h : Hp) : (R_ref01_minus [a0, a1] h).bind (fun p => K p.1 p.2) = f_ref01_minus Try.prog t_ref01_minus d_ref01_minus NN K a0 a1 h := by
  rw [← f_ref01_minus_run]; exact runF_bind rfl
noncomputable def F_ref01_minus : Fun := closedX [.o, .o] [.o] R_ref01_minus
theorem F_ref01_minus_ok : CSound Try.prog 67 F_ref01_minus := closedX_sound _ _ R_ref01_minus_ok
noncomputable def G_ref01_minus : DFun := closedXD [.o, .o] [.o] R_ref01_minus
theorem G_ref01_minus_ro : Ro F_ref01_minus G_ref01_minus := closedX_ro _ _ _
theorem F_ref01_minus_run {a0 : AV} {a1 : AV} {v : AV} (ha : plains [a0, a1] = true) (hv : f_ref01_minus Try.prog t_ref01_minus d_ref01_minus NN (fun v g => cvt false g v) a0 a1 [] = some v) (h : Hp) : F_ref01_minus [a0, a1] h = some (v, h) := by
  have e : (R_ref01_minus (nrms [.o, .o] [a0, a1]) []).bind (fun (p : AV × Hp) => cvt false p.2 p.1) = some v := (R_ref01_minus_eq (fun v g => cvt false g v) a0 a1 []).trans hv
  exact (closedX_bind (shr := [.o]) ha e h).trans (congrArg (fun x => some (x, h)) (nrmR_rep 1 v))
theorem F_ref01_minus_own {a0 : AV} {a1 : AV} {x0 : AV} {x1 : AV} {h : Hp} {v : AV} (ha : cvts false h [x0, x1] = some [a0, a1]) (hv : ∀ st, f_ref01_minus Try.prog t_ref01_minus d_ref01_minus NN (fun v g => cvt st g v) a0 a1 [] = some v) : F_ref01_minus [x0, x1] h = some (v, h) := by
  have e : ∀ st, (R_ref01_minus (nrms [.o, .o] [a0, a1]) []).bind (fun (p : AV × Hp) => cvt st p.2 p.1) = some v := fun st => (R_ref01_minus_eq (fun v g => cvt st g v) a0 a1 []).trans (hv st)
  exact (closedX_ownB (shr := [.o]) ha e).trans (congrArg (fun x => some (x, h)) (nrmR_rep 1 v))
/-! spile/spileref01.Of -/
noncomputable def t_ref01_Of : Tab := (updF (updF (updF T0 65 F_ref01_Product) 66 F_ref01_Less) 67 F_ref01_minus)
theorem t_ref01_Of_ok : TSound Try.prog t_ref01_Of := (TSound.upd (TSound.upd (TSound.upd TSound.zero F_ref01_Product_ok) F_ref01_Less_ok) F_ref01_minus_ok)
@[simp] theorem t_ref01_Of_65 : t_ref01_Of 65 = some F_ref01_Product := rfl
@[simp] theorem t_ref01_Of_66 : t_ref01_Of 66 = some F_ref01_Less := rfl
@[simp] theorem t_ref01_Of_67 : t_ref01_Of 67 = some F_ref01_minus := rfl
noncomputable def d_ref01_Of : DTab := (updD (updD (updD D0 65 G_ref01_Product) 66 G_ref01_Less) 67 G_ref01_minus)
theorem d_ref01_Of_ok : DSound Try.prog d_ref01_Of := (DSound.ro (DSound.ro (DSound.ro DSound.zero G_ref01_Product_ro F_ref01_Product_ok) G_ref01_Less_ro F_ref01_Less_ok) G_ref01_minus_ro F_ref01_minus_ok)
@[simp] theorem d_ref01_Of_65 : d_ref01_Of 65 = some G_ref01_Product := rfl
@[simp] theorem d_ref01_Of_66 : d_ref01_Of 66 = some G_ref01_Less := rfl
@[simp] theorem d_ref01_Of_67 : d_ref01_Of 67 = some G_ref01_minus := rfl
noncomputable def R_ref01_Of : Fun := runF Try.prog t_ref01_Of d_ref01_Of NN [0, 1, 2, 3, 8, 9, 10, 11, 12, 13, 33, 35, 52] Try.f52 4
theorem R_ref01_Of_ok : CSound Try.prog 52 R_ref01_Of := run_sound t_ref01_Of_ok d_ref01_Of_ok mixed Try.func52 (by kernel_rfl) NN
theorem R_ref01_Of_eq {β : Type} (K : AV → Hp → Option β) (a0 : AV) (a1 : AV) (a2 : AV) (a3 : AV) (h : Hp) : (R_ref01_Of [a0, a1, a2, a3] h).bind (fun p => K p.1 p.2) = f_ref01_Of Try.prog t_ref01_Of d_ref01_Of NN K a0 a1 a2 a3 h := by
  rw [← f_ref01_Of_run]; exact runF_bind rfl
noncomputable def F_ref01_Of : Fun := closedX [.o, .o, .o, .o] [.o, .o, .o] R_ref01_Of
theorem F_ref01_Of_ok : CSound Try.prog 52 F_ref01_Of := closedX_sound _ _ R_ref01_Of_ok
noncomputable def G_ref01_Of : DFun := closedXD [.o, .o, .o, .o] [.o, .o, .o] R_ref01_Of
theorem G_ref01_Of_ro : Ro F_ref01_Of G_ref01_Of := closedX_ro _ _ _
theorem F_ref01_Of_run {a0 : AV} {a1 : AV} {a2 : AV} {a3 : AV} {v : AV} (ha : plains [a0, a1, a2, a3] = true) (hv : f_ref01_Of Try.prog t_ref01_Of d_ref01_Of NN (fun v g => cvt false g v) a0 a1 a2 a3 [] = some v) (h : Hp) : F_ref01_Of [a0, a1, a2, a3] h = some (v, h) := by
  have e : (R_ref01_Of (nrms [.o, .o, .o, .o] [a0, a1, a2, a3]) []).bind (fun (p : AV × Hp) => cvt false p.2 p.1) = some v := (R_ref01_Of_eq (fun v g => cvt false g v) a0 a1 a2 a3 []).trans hv
  exact (closedX_bind (shr := [.o, .o, .o]) ha e h).trans (congrArg (fun x => some (x, h)) (nrmR_rep 3 v))
theorem F_ref01_Of_own {a0 : AV} {a1 : AV} {a2 : AV} {a3 : AV} {x0 : AV} {x1 : AV} {x2 : AV} {x3 : AV} {h : Hp} {v : AV} (ha : cvts false h [x0, x1, x2, x3] = some [a0, a1, a2, a3]) (hv : ∀ st, f_ref01_Of Try.prog t_ref01_Of d_ref01_Of NN (fun v g => cvt st g v) a0 a1 a2 a3 [] = some v) : F_ref01_Of [x0, x1, x2, x3] h = some (v, h) := by
  have e : ∀ st, (R_ref01_Of (nrms [.o, .o, .o, .o] [a0, a1, a2, a3]) []).bind (fun (p : AV × Hp) => cvt st p.2 p.1) = some v := fun st => (R_ref01_Of_eq (fun v g => cvt st g v) a0 a1 a2 a3 []).trans (hv st)
  exact (closedX_ownB (shr := [.o, .o, .o]) ha e).trans (congrArg (fun x => some (x, h)) (nrmR_rep 3 v))
/-! spile/spileref01.Proportion -/
noncomputable def t_ref01_Proportion : Tab := (updF T0 52 F_ref01_Of)
theorem t_ref01_Proportion_ok : TSound Try.prog t_ref01_Proportion := (TSound.upd TSound.zero F_ref01_Of_ok)
@[simp] theorem t_ref01_Proportion_52 : t_ref01_Proportion 52 = some F_ref01_Of := rfl
noncomputable def d_ref01_Proportion : DTab := D0
theorem d_ref01_Proportion_ok : DSound Try.prog d_ref01_Proportion := DSound.zero
noncomputable def R_ref01_Proportion : Fun := runF Try.prog t_ref01_Proportion d_ref01_Proportion NN [0, 1, 2, 6, 7, 8, 9] Try.f41 3
theorem R_ref01_Proportion_ok : CSound Try.prog 41 R_ref01_Proportion := run_sound t_ref01_Proportion_ok d_ref01_Proportion_ok mixed Try.func41 (by kernel_rfl) NN
theorem R_ref01_Proportion_eq {β : Type} (K : AV → Hp → Option β) (a0 : AV) (a1 : AV) (a2 : AV) (h : Hp) : (R_ref01_Proportion [a0, a1, a2] h).bind (fun p => K p.1 p.2) = f_ref01_Proportion Try.prog t_ref01_Proportion d_ref01_Proportion NN K a0 a1 a2 h := by
  rw [← f_ref01_Proportion_run]; exact runF_bind rfl
noncomputable def F_ref01_Proportion : Fun := closedX [.o, .o, .o] [.o, .o] R_ref01_Proportion
theorem F_ref01_Proportion_ok : CSound Try.prog 41 F_ref01_Proportion := closedX_sound _ _ R_ref01_Proportion_ok
noncomputable def G_ref01_Proportion : DFun := closedXD [.o, .o, .o] [.o, .o] R_ref01_Proportion
theorem G_ref01_Proportion_ro : Ro F_ref01_Proportion G_ref01_Proportion := closedX_ro _ _ _
theorem F_ref01_Proportion_run {a0 : AV} {a1 : AV} {a2 : AV} {v : AV} (ha : plains [a0, a1, a2] = true) (hv : f_ref01_Proportion Try.prog t_ref01_Proportion d_ref01_Proportion NN (fun v g => cvt false g v) a0 a1 a2 [] = some v) (h : Hp) : F_ref01_Proportion [a0, a1, a2] h = some (v, h) := by
  have e : (R_ref01_Proportion (nrms [.o, .o, .o] [a0, a1, a2]) []).bind (fun (p : AV × Hp) => cvt false p.2 p.1) = some v := (R_ref01_Proportion_eq (fun v g => cvt false g v) a0 a1 a2 []).trans hv
  exact (closedX_bind (shr := [.o, .o]) ha e h).trans (congrArg (fun x => some (x, h)) (nrmR_rep 2 v))
theorem F_ref01_Proportion_own {a0 : AV} {a1 : AV} {a2 : AV} {x0 : AV} {x1 : AV} {x2 : AV} {h : Hp} {v : AV} (ha : cvts false h [x0, x1, x2] = some [a0, a1, a2]) (hv : ∀ st, f_ref01_Proportion Try.prog t_ref01_Proportion d_ref01_Proportion NN (fun v g => cvt st g v) a0 a1 a2 [] = some v) : F_ref01_Proportion [x0, x1, x2] h = some (v, h) := by
  have e : ∀ st, (R_ref01_Proportion (nrms [.o, .o, .o] [a0, a1, a2]) []).bind (fun (p : AV × Hp) => cvt st p.2 p.1) = some v := fun st => (R_ref01_Proportion_eq (fun v g => cvt st g v) a0 a1 a2 []).trans (hv st)
  exact (closedX_ownB (shr := [.o, .o]) ha e).trans (congrArg (fun x => some (x, h)) (nrmR_rep 2 v))
/-! spile/spileref31.Allowed -/
noncomputable def t_ref31_Allowed : Tab := (updF (updF (updF (updF (updF T0 15 F_ref31_Sum) 36 F_ref31_Right) 37 F_ref31_Class) 38 F_ref31_Day) 41 F_ref01_Proportion)
theorem t_ref31_Allowed_ok : TSound Try.prog t_ref31_Allowed := (TSound.upd (TSound.upd (TSound.upd (TSound.upd (TSound.upd TSound.zero F_ref31_Sum_ok) F_ref31_Right_ok) F_ref31_Class_ok) F_ref31_Day_ok) F_ref01_Proportion_ok)
@[simp] theorem t_ref31_Allowed_15 : t_ref31_Allowed 15 = some F_ref31_Sum := rfl
@[simp] theorem t_ref31_Allowed_36 : t_ref31_Allowed 36 = some F_ref31_Right := rfl
@[simp] theorem t_ref31_Allowed_37 : t_ref31_Allowed 37 = some F_ref31_Class := rfl
@[simp] theorem t_ref31_Allowed_38 : t_ref31_Allowed 38 = some F_ref31_Day := rfl
@[simp] theorem t_ref31_Allowed_41 : t_ref31_Allowed 41 = some F_ref01_Proportion := rfl
noncomputable def d_ref31_Allowed : DTab := D0
theorem d_ref31_Allowed_ok : DSound Try.prog d_ref31_Allowed := DSound.zero
noncomputable def R_ref31_Allowed : Fun := runF Try.prog t_ref31_Allowed d_ref31_Allowed NN [0, 1, 2, 3, 4, 10, 11, 12, 13, 14, 18, 39, 49, 52] Try.f17 5
theorem R_ref31_Allowed_ok : CSound Try.prog 17 R_ref31_Allowed := run_sound t_ref31_Allowed_ok d_ref31_Allowed_ok mixed Try.func17 (by kernel_rfl) NN
theorem R_ref31_Allowed_eq {β : Type} (K : AV → Hp → Option β) (a0 : AV) (a1 : AV) (a2 : AV) (a3 : AV) (a4 : AV) (h : Hp) : (R_ref31_Allowed [a0, a1, a2, a3, a4] h).bind (fun p => K p.1 p.2) = f_ref31_Allowed Try.prog t_ref31_Allowed d_ref31_Allowed NN K a0 a1 a2 a3 a4 h := by
  rw [← f_ref31_Allowed_run]; exact runF_bind rfl
noncomputable def F_ref31_Allowed : Fun := closedX [.l 4, .o, .o, .o, .o] [.o, .o] R_ref31_Allowed
theorem F_ref31_Allowed_ok : CSound Try.prog 17 F_ref31_Allowed := closedX_sound _ _ R_ref31_Allowed_ok
noncomputable def G_ref31_Allowed : DFun := closedXD [.l 4, .o, .o, .o, .o] [.o, .o] R_ref31_Allowed
theorem G_ref31_Allowed_ro : Ro F_ref31_Allowed G_ref31_Allowed := closedX_ro _ _ _
theorem F_ref31_Allowed_run {a0 : AV} {a1 : AV} {a2 : AV} {a3 : AV} {a4 : AV} {v : AV} (ha : plains [a0, a1, a2, a3, a4] = true) (hv : f_ref31_Allowed Try.prog t_ref31_Allowed d_ref31_Allowed NN (fun v g => cvt false g v) (nrm (.l 4) a0) a1 a2 a3 a4 [] = some v) (h : Hp) : F_ref31_Allowed [a0, a1, a2, a3, a4] h = some (v, h) := by
  have e : (R_ref31_Allowed (nrms [.l 4, .o, .o, .o, .o] [a0, a1, a2, a3, a4]) []).bind (fun (p : AV × Hp) => cvt false p.2 p.1) = some v := (R_ref31_Allowed_eq (fun v g => cvt false g v) (nrm (.l 4) a0) a1 a2 a3 a4 []).trans hv
  exact (closedX_bind (shr := [.o, .o]) ha e h).trans (congrArg (fun x => some (x, h)) (nrmR_rep 2 v))
theorem F_ref31_Allowed_own {a0 : AV} {a1 : AV} {a2 : AV} {a3 : AV} {a4 : AV} {x0 : AV} {x1 : AV} {x2 : AV} {x3 : AV} {x4 : AV} {h : Hp} {v : AV} (ha : cvts false h [x0, x1, x2, x3, x4] = some [a0, a1, a2, a3, a4]) (hv : ∀ st, f_ref31_Allowed Try.prog t_ref31_Allowed d_ref31_Allowed NN (fun v g => cvt st g v) (nrm (.l 4) a0) a1 a2 a3 a4 [] = some v) : F_ref31_Allowed [x0, x1, x2, x3, x4] h = some (v, h) := by
  have e : ∀ st, (R_ref31_Allowed (nrms [.l 4, .o, .o, .o, .o] [a0, a1, a2, a3, a4]) []).bind (fun (p : AV × Hp) => cvt st p.2 p.1) = some v := fun st => (R_ref31_Allowed_eq (fun v g => cvt st g v) (nrm (.l 4) a0) a1 a2 a3 a4 []).trans (hv st)
  exact (closedX_ownB (shr := [.o, .o]) ha e).trans (congrArg (fun x => some (x, h)) (nrmR_rep 2 v))
/-! spile/spilelaw31.SeasonAllows -/
noncomputable def t_law31_SeasonAllows : Tab := (updF (updF (updF (updF (updF (updF (updF (updF T0 10 F_law31_awake) 11 F_ref31_Few) 12 F_law31_short) 13 F_season_Sum) 14 F_slices_Clone_Allowance) 15 F_ref31_Sum) 16 F_season_Allowed) 17 F_ref31_Allowed)
theorem t_law31_SeasonAllows_ok : TSound Try.prog t_law31_SeasonAllows := (TSound.upd (TSound.upd (TSound.upd (TSound.upd (TSound.upd (TSound.upd (TSound.upd (TSound.upd TSound.zero F_law31_awake_ok) F_ref31_Few_ok) F_law31_short_ok) F_season_Sum_ok) F_slices_Clone_Allowance_ok) F_ref31_Sum_ok) F_season_Allowed_ok) F_ref31_Allowed_ok)
@[simp] theorem t_law31_SeasonAllows_10 : t_law31_SeasonAllows 10 = some F_law31_awake := rfl
@[simp] theorem t_law31_SeasonAllows_11 : t_law31_SeasonAllows 11 = some F_ref31_Few := rfl
@[simp] theorem t_law31_SeasonAllows_12 : t_law31_SeasonAllows 12 = some F_law31_short := rfl
@[simp] theorem t_law31_SeasonAllows_13 : t_law31_SeasonAllows 13 = some F_season_Sum := rfl
@[simp] theorem t_law31_SeasonAllows_14 : t_law31_SeasonAllows 14 = some F_slices_Clone_Allowance := rfl
@[simp] theorem t_law31_SeasonAllows_15 : t_law31_SeasonAllows 15 = some F_ref31_Sum := rfl
@[simp] theorem t_law31_SeasonAllows_16 : t_law31_SeasonAllows 16 = some F_season_Allowed := rfl
@[simp] theorem t_law31_SeasonAllows_17 : t_law31_SeasonAllows 17 = some F_ref31_Allowed := rfl
noncomputable def d_law31_SeasonAllows : DTab := (updD (updD (updD D0 13 G_season_Sum) 14 G_slices_Clone_Allowance) 16 G_season_Allowed)
theorem d_law31_SeasonAllows_ok : DSound Try.prog d_law31_SeasonAllows := (DSound.ro (DSound.ro (DSound.ro DSound.zero G_season_Sum_ro F_season_Sum_ok) G_slices_Clone_Allowance_ro F_slices_Clone_Allowance_ok) G_season_Allowed_ro F_season_Allowed_ok)
@[simp] theorem d_law31_SeasonAllows_13 : d_law31_SeasonAllows 13 = some G_season_Sum := rfl
@[simp] theorem d_law31_SeasonAllows_14 : d_law31_SeasonAllows 14 = some G_slices_Clone_Allowance := rfl
@[simp] theorem d_law31_SeasonAllows_16 : d_law31_SeasonAllows 16 = some G_season_Allowed := rfl
noncomputable def R_law31_SeasonAllows : Fun := runF Try.prog t_law31_SeasonAllows d_law31_SeasonAllows NN [0, 1, 3, 4, 5, 6, 7, 8, 9, 10, 11, 12, 14, 25] Try.f3 2
theorem R_law31_SeasonAllows_ok : CSound Try.prog 3 R_law31_SeasonAllows := run_sound t_law31_SeasonAllows_ok d_law31_SeasonAllows_ok mixed Try.func3 (by kernel_rfl) NN
theorem R_law31_SeasonAllows_eq {β : Type} (K : AV → Hp → Option β) (a0 : AV) (a1 : AV) (h : Hp) : (R_law31_SeasonAllows [a0, a1] h).bind (fun p => K p.1 p.2) = f_law31_SeasonAllows Try.prog t_law31_SeasonAllows d_law31_SeasonAllows NN K a0 a1 h := by
  rw [← f_law31_SeasonAllows_run]; exact runF_bind rfl
noncomputable def F_law31_SeasonAllows : Fun := closedX [.l 4, .o] [.o] R_law31_SeasonAllows
theorem F_law31_SeasonAllows_ok : CSound Try.prog 3 F_law31_SeasonAllows := closedX_sound _ _ R_law31_SeasonAllows_ok
noncomputable def G_law31_SeasonAllows : DFun := closedXD [.l 4, .o] [.o] R_law31_SeasonAllows
theorem G_law31_SeasonAllows_ro : Ro F_law31_SeasonAllows G_law31_SeasonAllows := closedX_ro _ _ _
theorem F_law31_SeasonAllows_run {a0 : AV} {a1 : AV} {v : AV} (ha : plains [a0, a1] = true) (hv : f_law31_SeasonAllows Try.prog t_law31_SeasonAllows d_law31_SeasonAllows NN (fun v g => cvt false g v) (nrm (.l 4) a0) a1 [] = some v) (h : Hp) : F_law31_SeasonAllows [a0, a1] h = some (v, h) := by
  have e : (R_law31_SeasonAllows (nrms [.l 4, .o] [a0, a1]) []).bind (fun (p : AV × Hp) => cvt false p.2 p.1) = some v := (R_law31_SeasonAllows_eq (fun v g => cvt false g v) (nrm (.l 4) a0) a1 []).trans hv
  exact (closedX_bind (shr := [.o]) ha e h).trans (congrArg (fun x => some (x, h)) (nrmR_rep 1 v))
theorem F_law31_SeasonAllows_own {a0 : AV} {a1 : AV} {x0 : AV} {x1 : AV} {h : Hp} {v : AV} (ha : cvts false h [x0, x1] = some [a0, a1]) (hv : ∀ st, f_law31_SeasonAllows Try.prog t_law31_SeasonAllows d_law31_SeasonAllows NN (fun v g => cvt st g v) (nrm (.l 4) a0) a1 [] = some v) : F_law31_SeasonAllows [x0, x1] h = some (v, h) := by
  have e : ∀ st, (R_law31_SeasonAllows (nrms [.l 4, .o] [a0, a1]) []).bind (fun (p : AV × Hp) => cvt st p.2 p.1) = some v := fun st => (R_law31_SeasonAllows_eq (fun v g => cvt st g v) (nrm (.l 4) a0) a1 []).trans (hv st)
  exact (closedX_ownB (shr := [.o]) ha e).trans (congrArg (fun x => some (x, h)) (nrmR_rep 1 v))
/-! spile/spilelaw31.SeasonParts -/
noncomputable def t_law31_SeasonParts : Tab := (updF (updF (updF (updF (updF (updF T0 10 F_law31_awake) 11 F_ref31_Few) 12 F_law31_short) 13 F_season_Sum) 14 F_slices_Clone_Allowance) 18 F_season_Rate)
theorem t_law31_SeasonParts_ok : TSound Try.prog t_law31_SeasonParts := (TSound.upd (TSound.upd (TSound.upd (TSound.upd (TSound.upd (TSound.upd TSound.zero F_law31_awake_ok) F_ref31_Few_ok) F_law31_short_ok) F_season_Sum_ok) F_slices_Clone_Allowance_ok) F_season_Rate_ok)
@[simp] theorem t_law31_SeasonParts_10 : t_law31_SeasonParts 10 = some F_law31_awake := rfl
@[simp] theorem t_law31_SeasonParts_11 : t_law31_SeasonParts 11 = some F_ref31_Few := rfl
@[simp] theorem t_law31_SeasonParts_12 : t_law31_SeasonParts 12 = some F_law31_short := rfl
@[simp] theorem t_law31_SeasonParts_13 : t_law31_SeasonParts 13 = some F_season_Sum := rfl
@[simp] theorem t_law31_SeasonParts_14 : t_law31_SeasonParts 14 = some F_slices_Clone_Allowance := rfl
@[simp] theorem t_law31_SeasonParts_18 : t_law31_SeasonParts 18 = some F_season_Rate := rfl
noncomputable def d_law31_SeasonParts : DTab := (updD (updD (updD D0 13 G_season_Sum) 14 G_slices_Clone_Allowance) 18 G_season_Rate)
theorem d_law31_SeasonParts_ok : DSound Try.prog d_law31_SeasonParts := (DSound.ro (DSound.ro (DSound.ro DSound.zero G_season_Sum_ro F_season_Sum_ok) G_slices_Clone_Allowance_ro F_slices_Clone_Allowance_ok) G_season_Rate_ro F_season_Rate_ok)
@[simp] theorem d_law31_SeasonParts_13 : d_law31_SeasonParts 13 = some G_season_Sum := rfl
@[simp] theorem d_law31_SeasonParts_14 : d_law31_SeasonParts 14 = some G_slices_Clone_Allowance := rfl
@[simp] theorem d_law31_SeasonParts_18 : d_law31_SeasonParts 18 = some G_season_Rate := rfl
noncomputable def R_law31_SeasonParts : Fun := runF Try.prog t_law31_SeasonParts d_law31_SeasonParts NN [0, 1, 2, 4, 6, 7, 8, 9, 10, 11, 12, 13, 14, 16, 27, 41, 53] Try.f4 3
theorem R_law31_SeasonParts_ok : CSound Try.prog 4 R_law31_SeasonParts := run_sound t_law31_SeasonParts_ok d_law31_SeasonParts_ok mixed Try.func4 (by kernel_rfl) NN
theorem R_law31_SeasonParts_eq {β : Type} (K : AV → Hp → Option β) (a0 : AV) (a1 : AV) (a2 : AV) (h : Hp) : (R_law31_SeasonParts [a0, a1, a2] h).bind (fun p => K p.1 p.2) = f_law31_SeasonParts Try.prog t_law31_SeasonParts d_law31_SeasonParts NN K a0 a1 a2 h := by
  rw [← f_law31_SeasonParts_run]; exact runF_bind rfl
noncomputable def F_law31_SeasonParts : Fun := closedX [.l 4, .o, .o] [.o] R_law31_SeasonParts
theorem F_law31_SeasonParts_ok : CSound Try.prog 4 F_law31_SeasonParts := closedX_sound _ _ R_law31_SeasonParts_ok
noncomputable def G_law31_SeasonParts : DFun := closedXD [.l 4, .o, .o] [.o] R_law31_SeasonParts
theorem G_law31_SeasonParts_ro : Ro F_law31_SeasonParts G_law31_SeasonParts := closedX_ro _ _ _
theorem F_law31_SeasonParts_run {a0 : AV} {a1 : AV} {a2 : AV} {v : AV} (ha : plains [a0, a1, a2] = true) (hv : f_law31_SeasonParts Try.prog t_law31_SeasonParts d_law31_SeasonParts NN (fun v g => cvt false g v) (nrm (.l 4) a0) a1 a2 [] = some v) (h : Hp) : F_law31_SeasonParts [a0, a1, a2] h = some (v, h) := by
  have e : (R_law31_SeasonParts (nrms [.l 4, .o, .o] [a0, a1, a2]) []).bind (fun (p : AV × Hp) => cvt false p.2 p.1) = some v := (R_law31_SeasonParts_eq (fun v g => cvt false g v) (nrm (.l 4) a0) a1 a2 []).trans hv
  exact (closedX_bind (shr := [.o]) ha e h).trans (congrArg (fun x => some (x, h)) (nrmR_rep 1 v))
theorem F_law31_SeasonParts_own {a0 : AV} {a1 : AV} {a2 : AV} {x0 : AV} {x1 : AV} {x2 : AV} {h : Hp} {v : AV} (ha : cvts false h [x0, x1, x2] = some [a0, a1, a2]) (hv : ∀ st, f_law31_SeasonParts Try.prog t_law31_SeasonParts d_law31_SeasonParts NN (fun v g => cvt st g v) (nrm (.l 4) a0) a1 a2 [] = some v) : F_law31_SeasonParts [x0, x1, x2] h = some (v, h) := by
  have e : ∀ st, (R_law31_SeasonParts (nrms [.l 4, .o, .o] [a0, a1, a2]) []).bind (fun (p : AV × Hp) => cvt st p.2 p.1) = some v := fun st => (R_law31_SeasonParts_eq (fun v g => cvt st g v) (nrm (.l 4) a0) a1 a2 []).trans (hv st)
  exact (closedX_ownB (shr := [.o]) ha e).trans (congrArg (fun x => some (x, h)) (nrmR_rep 1 v))
/-! spile/spilelaw31.SeasonBounded -/
noncomputable def t_law31_SeasonBounded : Tab := (updF (updF (updF (updF (updF T0 10 F_law31_awake) 11 F_ref31_Few) 12 F_law31_short) 14 F_slices_Clone_Allowance) 16 F_season_Allowed)
theorem t_law31_SeasonBounded_ok : TSound Try.prog t_law31_SeasonBounded := (TSound.upd (TSound.upd (TSound.upd (TSound.upd (TSound.upd TSound.zero F_law31_awake_ok) F_ref31_Few_ok) F_law31_short_ok) F_slices_Clone_Allowance_ok) F_season_Allowed_ok)
@[simp] theorem t_law31_SeasonBounded_10 : t_law31_SeasonBounded 10 = some F_law31_awake := rfl
@[simp] theorem t_law31_SeasonBounded_11 : t_law31_SeasonBounded 11 = some F_ref31_Few := rfl
@[simp] theorem t_law31_SeasonBounded_12 : t_law31_SeasonBounded 12 = some F_law31_short := rfl
@[simp] theorem t_law31_SeasonBounded_14 : t_law31_SeasonBounded 14 = some F_slices_Clone_Allowance := rfl
@[simp] theorem t_law31_SeasonBounded_16 : t_law31_SeasonBounded 16 = some F_season_Allowed := rfl
noncomputable def d_law31_SeasonBounded : DTab := (updD (updD D0 14 G_slices_Clone_Allowance) 16 G_season_Allowed)
theorem d_law31_SeasonBounded_ok : DSound Try.prog d_law31_SeasonBounded := (DSound.ro (DSound.ro DSound.zero G_slices_Clone_Allowance_ro F_slices_Clone_Allowance_ok) G_season_Allowed_ro F_season_Allowed_ok)
@[simp] theorem d_law31_SeasonBounded_14 : d_law31_SeasonBounded 14 = some G_slices_Clone_Allowance := rfl
@[simp] theorem d_law31_SeasonBounded_16 : d_law31_SeasonBounded 16 = some G_season_Allowed := rfl
noncomputable def R_law31_SeasonBounded : Fun := runF Try.prog t_law31_SeasonBounded d_law31_SeasonBounded NN [0, 1, 2, 4, 6, 7, 8, 9, 10, 11, 12, 13, 14, 15, 16, 18, 29, 45, 52, 119] Try.f5 3
theorem R_law31_SeasonBounded_ok : CSound Try.prog 5 R_law31_SeasonBounded := run_sound t_law31_SeasonBounded_ok d_law31_SeasonBounded_ok mixed Try.func5 (by kernel_rfl) NN
theorem R_law31_SeasonBounded_eq {β : Type} (K : AV → Hp → Option β) (a0 : AV) (a1 : AV) (a2 : AV) (h : Hp) : (R_law31_SeasonBounded [a0, a1, a2] h).bind (fun p => K p.1 p.2) = f_law31_SeasonBounded Try.prog t_law31_SeasonBounded d_law31_SeasonBounded NN K a0 a1 a2 h := by
  rw [← f_law31_SeasonBounded_run]; exact runF_bind rfl
noncomputable def F_law31_SeasonBounded : Fun := closedX [.l 4, .o, .o] [.o] R_law31_SeasonBounded
theorem F_law31_SeasonBounded_ok : CSound Try.prog 5 F_law31_SeasonBounded := closedX_sound _ _ R_law31_SeasonBounded_ok
noncomputable def G_law31_SeasonBounded : DFun := closedXD [.l 4, .o, .o] [.o] R_law31_SeasonBounded
theorem G_law31_SeasonBounded_ro : Ro F_law31_SeasonBounded G_law31_SeasonBounded := closedX_ro _ _ _
theorem F_law31_SeasonBounded_run {a0 : AV} {a1 : AV} {a2 : AV} {v : AV} (ha : plains [a0, a1, a2] = true) (hv : f_law31_SeasonBounded Try.prog t_law31_SeasonBounded d_law31_SeasonBounded NN (fun v g => cvt false g v) (nrm (.l 4) a0) a1 a2 [] = some v) (h : Hp) : F_law31_SeasonBounded [a0, a1, a2] h = some (v, h) := by
  have e : (R_law31_SeasonBounded (nrms [.l 4, .o, .o] [a0, a1, a2]) []).bind (fun (p : AV × Hp) => cvt false p.2 p.1) = some v := (R_law31_SeasonBounded_eq (fun v g => cvt false g v) (nrm (.l 4) a0) a1 a2 []).trans hv
  exact (closedX_bind (shr := [.o]) ha e h).trans (congrArg (fun x => some (x, h)) (nrmR_rep 1 v))
theorem F_law31_SeasonBounded_own {a0 : AV} {a1 : AV} {a2 : AV} {x0 : AV} {x1 : AV} {x2 : AV} {h : Hp} {v : AV} (ha : cvts false h [x0, x1, x2] = some [a0, a1, a2]) (hv : ∀ st, f_law31_SeasonBounded Try.prog t_law31_SeasonBounded d_law31_SeasonBounded NN (fun v g => cvt st g v) (nrm (.l 4) a0) a1 a2 [] = some v) : F_law31_SeasonBounded [x0, x1, x2] h = some (v, h) := by
  have e : ∀ st, (R_law31_SeasonBounded (nrms [.l 4, .o, .o] [a0, a1, a2]) []).bind (fun (p : AV × Hp) => cvt st p.2 p.1) = some v := fun st => (R_law31_SeasonBounded_eq (fun v g => cvt st g v) (nrm (.l 4) a0) a1 a2 []).trans (hv st)
  exact (closedX_ownB (shr := [.o]) ha e).trans (congrArg (fun x => some (x, h)) (nrmR_rep 1 v))
/-! spile/season.Version -/
noncomputable def t_season_Version : Tab := (updF (updF (updF T0 33 F_season_right) 34 F_season_in) 45 F_season_version)
theorem t_season_Version_ok : TSound Try.prog t_season_Version := (TSound.upd (TSound.upd (TSound.upd TSound.zero F_season_right_ok) F_season_in_ok) F_season_version_ok)
@[simp] theorem t_season_Version_33 : t_season_Version 33 = some F_season_right := rfl
@[simp] theorem t_season_Version_34 : t_season_Version 34 = some F_season_in := rfl
@[simp] theorem t_season_Version_45 : t_season_Version 45 = some F_season_version := rfl
noncomputable def d_season_Version : DTab := D0
theorem d_season_Version_ok : DSound Try.prog d_season_Version := DSound.zero
noncomputable def R_season_Version : Fun := runF Try.prog t_season_Version d_season_Version NN [0, 1, 4, 5, 6, 7, 8, 12, 23] Try.f21 2
theorem R_season_Version_ok : CSound Try.prog 21 R_season_Version := run_sound t_season_Version_ok d_season_Version_ok mixed Try.func21 (by kernel_rfl) NN
theorem R_season_Version_eq {β : Type} (K : AV → Hp → Option β) (a0 : AV) (a1 : AV) (h : Hp) : (R_season_Version [a0, a1] h).bind (fun p => K p.1 p.2) = f_season_Version Try.prog t_season_Version d_season_Version NN K a0 a1 h := by
  rw [← f_season_Version_run]; exact runF_bind rfl
noncomputable def F_season_Version : Fun := closedX [.l 4, .o] [.o, .o] R_season_Version
theorem F_season_Version_ok : CSound Try.prog 21 F_season_Version := closedX_sound _ _ R_season_Version_ok
noncomputable def G_season_Version : DFun := closedXD [.l 4, .o] [.o, .o] R_season_Version
theorem G_season_Version_ro : Ro F_season_Version G_season_Version := closedX_ro _ _ _
theorem F_season_Version_run {a0 : AV} {a1 : AV} {v : AV} (ha : plains [a0, a1] = true) (hv : f_season_Version Try.prog t_season_Version d_season_Version NN (fun v g => cvt false g v) (nrm (.l 4) a0) a1 [] = some v) (h : Hp) : F_season_Version [a0, a1] h = some (v, h) := by
  have e : (R_season_Version (nrms [.l 4, .o] [a0, a1]) []).bind (fun (p : AV × Hp) => cvt false p.2 p.1) = some v := (R_season_Version_eq (fun v g => cvt false g v) (nrm (.l 4) a0) a1 []).trans hv
  exact (closedX_bind (shr := [.o, .o]) ha e h).trans (congrArg (fun x => some (x, h)) (nrmR_rep 2 v))
theorem F_season_Version_own {a0 : AV} {a1 : AV} {x0 : AV} {x1 : AV} {h : Hp} {v : AV} (ha : cvts false h [x0, x1] = some [a0, a1]) (hv : ∀ st, f_season_Version Try.prog t_season_Version d_season_Version NN (fun v g => cvt st g v) (nrm (.l 4) a0) a1 [] = some v) : F_season_Version [x0, x1] h = some (v, h) := by
  have e : ∀ st, (R_season_Version (nrms [.l 4, .o] [a0, a1]) []).bind (fun (p : AV × Hp) => cvt st p.2 p.1) = some v := fun st => (R_season_Version_eq (fun v g => cvt st g v) (nrm (.l 4) a0) a1 []).trans (hv st)
  exact (closedX_ownB (shr := [.o, .o]) ha e).trans (congrArg (fun x => some (x, h)) (nrmR_rep 2 v))
/-! spile/spileref31.VersionChecked -/
noncomputable def t_ref31_VersionChecked : Tab := (updF (updF (updF T0 36 F_ref31_Right) 38 F_ref31_Day) 46 F_ref31_Version)
theorem t_ref31_VersionChecked_ok : TSound Try.prog t_ref31_VersionChecked := (TSound.upd (TSound.upd (TSound.upd TSound.zero F_ref31_Right_ok) F_ref31_Day_ok) F_ref31_Version_ok)
@[simp] theorem t_ref31_VersionChecked_36 : t_ref31_VersionChecked 36 = some F_ref31_Right := rfl
@[simp] theorem t_ref31_VersionChecked_38 : t_ref31_VersionChecked 38 = some F_ref31_Day := rfl
@[simp] theorem t_ref31_VersionChecked_46 : t_ref31_VersionChecked 46 = some F_ref31_Version := rfl
noncomputable def d_ref31_VersionChecked : DTab := D0
theorem d_ref31_VersionChecked_ok : DSound Try.prog d_ref31_VersionChecked := DSound.zero
noncomputable def R_ref31_VersionChecked : Fun := runF Try.prog t_ref31_VersionChecked d_ref31_VersionChecked NN [0, 1, 4, 5, 6, 9, 12, 17] Try.f22 2
theorem R_ref31_VersionChecked_ok : CSound Try.prog 22 R_ref31_VersionChecked := run_sound t_ref31_VersionChecked_ok d_ref31_VersionChecked_ok mixed Try.func22 (by kernel_rfl) NN
theorem R_ref31_VersionChecked_eq {β : Type} (K : AV → Hp → Option β) (a0 : AV) (a1 : AV) (h : Hp) : (R_ref31_VersionChecked [a0, a1] h).bind (fun p => K p.1 p.2) = f_ref31_VersionChecked Try.prog t_ref31_VersionChecked d_ref31_VersionChecked NN K a0 a1 h := by
  rw [← f_ref31_VersionChecked_run]; exact runF_bind rfl
noncomputable def F_ref31_VersionChecked : Fun := closedX [.l 4, .o] [.o, .o] R_ref31_VersionChecked
theorem F_ref31_VersionChecked_ok : CSound Try.prog 22 F_ref31_VersionChecked := closedX_sound _ _ R_ref31_VersionChecked_ok
noncomputable def G_ref31_VersionChecked : DFun := closedXD [.l 4, .o] [.o, .o] R_ref31_VersionChecked
theorem G_ref31_VersionChecked_ro : Ro F_ref31_VersionChecked G_ref31_VersionChecked := closedX_ro _ _ _
theorem F_ref31_VersionChecked_run {a0 : AV} {a1 : AV} {v : AV} (ha : plains [a0, a1] = true) (hv : f_ref31_VersionChecked Try.prog t_ref31_VersionChecked d_ref31_VersionChecked NN (fun v g => cvt false g v) (nrm (.l 4) a0) a1 [] = some v) (h : Hp) : F_ref31_VersionChecked [a0, a1] h = some (v, h) := by
  have e : (R_ref31_VersionChecked (nrms [.l 4, .o] [a0, a1]) []).bind (fun (p : AV × Hp) => cvt false p.2 p.1) = some v := (R_ref31_VersionChecked_eq (fun v g => cvt false g v) (nrm (.l 4) a0) a1 []).trans hv
  exact (closedX_bind (shr := [.o, .o]) ha e h).trans (congrArg (fun x => some (x, h)) (nrmR_rep 2 v))
theorem F_ref31_VersionChecked_own {a0 : AV} {a1 : AV} {x0 : AV} {x1 : AV} {h : Hp} {v : AV} (ha : cvts false h [x0, x1] = some [a0, a1]) (hv : ∀ st, f_ref31_VersionChecked Try.prog t_ref31_VersionChecked d_ref31_VersionChecked NN (fun v g => cvt st g v) (nrm (.l 4) a0) a1 [] = some v) : F_ref31_VersionChecked [x0, x1] h = some (v, h) := by
  have e : ∀ st, (R_ref31_VersionChecked (nrms [.l 4, .o] [a0, a1]) []).bind (fun (p : AV × Hp) => cvt st p.2 p.1) = some v := fun st => (R_ref31_VersionChecked_eq (fun v g => cvt st g v) (nrm (.l 4) a0) a1 []).trans (hv st)
  exact (closedX_ownB (shr := [.o, .o]) ha e).trans (congrArg (fun x => some (x, h)) (nrmR_rep 2 v))
/-! spile/spileref31.Rate -/
noncomputable def t_ref31_Rate : Tab := (updF (updF (updF (updF T0 36 F_ref31_Right) 37 F_ref31_Class) 38 F_ref31_Day) 39 F_ref31_rate)
theorem t_ref31_Rate_ok : TSound Try.prog t_ref31_Rate := (TSound.upd (TSound.upd (TSound.upd (TSound.upd TSound.zero F_ref31_Right_ok) F_ref31_Class_ok) F_ref31_Day_ok) F_ref31_rate_ok)
@[simp] theorem t_ref31_Rate_36 : t_ref31_Rate 36 = some F_ref31_Right := rfl
@[simp] theorem t_ref31_Rate_37 : t_ref31_Rate 37 = some F_ref31_Class := rfl
@[simp] theorem t_ref31_Rate_38 : t_ref31_Rate 38 = some F_ref31_Day := rfl
@[simp] theorem t_ref31_Rate_39 : t_ref31_Rate 39 = some F_ref31_rate := rfl
noncomputable def d_ref31_Rate : DTab := D0
theorem d_ref31_Rate_ok : DSound Try.prog d_ref31_Rate := DSound.zero
noncomputable def R_ref31_Rate : Fun := runF Try.prog t_ref31_Rate d_ref31_Rate NN [0, 1, 2, 6, 7, 10, 18] Try.f23 3
theorem R_ref31_Rate_ok : CSound Try.prog 23 R_ref31_Rate := run_sound t_ref31_Rate_ok d_ref31_Rate_ok mixed Try.func23 (by kernel_rfl) NN
theorem R_ref31_Rate_eq {β : Type} (K : AV → Hp → Option β) (a0 : AV) (a1 : AV) (a2 : AV) (h : Hp) : (R_ref31_Rate [a0, a1, a2] h).bind (fun p => K p.1 p.2) = f_ref31_Rate Try.prog t_ref31_Rate d_ref31_Rate NN K a0 a1 a2 h := by
  rw [← f_ref31_Rate_run]; exact runF_bind rfl
noncomputable def F_ref31_Rate : Fun := closedX [.l 4, .o, .o] [.o, .o] R_ref31_Rate
theorem F_ref31_Rate_ok : CSound Try.prog 23 F_ref31_Rate := closedX_sound _ _ R_ref31_Rate_ok
noncomputable def G_ref31_Rate : DFun := closedXD [.l 4, .o, .o] [.o, .o] R_ref31_Rate
theorem G_ref31_Rate_ro : Ro F_ref31_Rate G_ref31_Rate := closedX_ro _ _ _
theorem F_ref31_Rate_run {a0 : AV} {a1 : AV} {a2 : AV} {v : AV} (ha : plains [a0, a1, a2] = true) (hv : f_ref31_Rate Try.prog t_ref31_Rate d_ref31_Rate NN (fun v g => cvt false g v) (nrm (.l 4) a0) a1 a2 [] = some v) (h : Hp) : F_ref31_Rate [a0, a1, a2] h = some (v, h) := by
  have e : (R_ref31_Rate (nrms [.l 4, .o, .o] [a0, a1, a2]) []).bind (fun (p : AV × Hp) => cvt false p.2 p.1) = some v := (R_ref31_Rate_eq (fun v g => cvt false g v) (nrm (.l 4) a0) a1 a2 []).trans hv
  exact (closedX_bind (shr := [.o, .o]) ha e h).trans (congrArg (fun x => some (x, h)) (nrmR_rep 2 v))
theorem F_ref31_Rate_own {a0 : AV} {a1 : AV} {a2 : AV} {x0 : AV} {x1 : AV} {x2 : AV} {h : Hp} {v : AV} (ha : cvts false h [x0, x1, x2] = some [a0, a1, a2]) (hv : ∀ st, f_ref31_Rate Try.prog t_ref31_Rate d_ref31_Rate NN (fun v g => cvt st g v) (nrm (.l 4) a0) a1 a2 [] = some v) : F_ref31_Rate [x0, x1, x2] h = some (v, h) := by
  have e : ∀ st, (R_ref31_Rate (nrms [.l 4, .o, .o] [a0, a1, a2]) []).bind (fun (p : AV × Hp) => cvt st p.2 p.1) = some v := fun st => (R_ref31_Rate_eq (fun v g => cvt st g v) (nrm (.l 4) a0) a1 a2 []).trans (hv st)
  exact (closedX_ownB (shr := [.o, .o]) ha e).trans (congrArg (fun x => some (x, h)) (nrmR_rep 2 v))
/-! spile/spilelaw31.SeasonRates -/
noncomputable def t_law31_SeasonRates : Tab := (updF (updF (updF (updF (updF (updF (updF (updF (updF T0 10 F_law31_awake) 11 F_ref31_Few) 14 F_slices_Clone_Allowance) 18 F_season_Rate) 19 F_season_Check) 20 F_ref31_Check) 21 F_season_Version) 22 F_ref31_VersionChecked) 23 F_ref31_Rate)
theorem t_law31_SeasonRates_ok : TSound Try.prog t_law31_SeasonRates := (TSound.upd (TSound.upd (TSound.upd (TSound.upd (TSound.upd (TSound.upd (TSound.upd (TSound.upd (TSound.upd TSound.zero F_law31_awake_ok) F_ref31_Few_ok) F_slices_Clone_Allowance_ok) F_season_Rate_ok) F_season_Check_ok) F_ref31_Check_ok) F_season_Version_ok) F_ref31_VersionChecked_ok) F_ref31_Rate_ok)
@[simp] theorem t_law31_SeasonRates_10 : t_law31_SeasonRates 10 = some F_law31_awake := rfl
@[simp] theorem t_law31_SeasonRates_11 : t_law31_SeasonRates 11 = some F_ref31_Few := rfl
@[simp] theorem t_law31_SeasonRates_14 : t_law31_SeasonRates 14 = some F_slices_Clone_Allowance := rfl
@[simp] theorem t_law31_SeasonRates_18 : t_law31_SeasonRates 18 = some F_season_Rate := rfl
@[simp] theorem t_law31_SeasonRates_19 : t_law31_SeasonRates 19 = some F_season_Check := rfl
@[simp] theorem t_law31_SeasonRates_20 : t_law31_SeasonRates 20 = some F_ref31_Check := rfl
@[simp] theorem t_law31_SeasonRates_21 : t_law31_SeasonRates 21 = some F_season_Version := rfl
@[simp] theorem t_law31_SeasonRates_22 : t_law31_SeasonRates 22 = some F_ref31_VersionChecked := rfl
@[simp] theorem t_law31_SeasonRates_23 : t_law31_SeasonRates 23 = some F_ref31_Rate := rfl
noncomputable def d_law31_SeasonRates : DTab := D0
theorem d_law31_SeasonRates_ok : DSound Try.prog d_law31_SeasonRates := DSound.zero
noncomputable def R_law31_SeasonRates : Fun := runF Try.prog t_law31_SeasonRates d_law31_SeasonRates NN [0, 1, 2, 6, 7, 8, 9, 10, 11, 12, 13, 14, 15, 16, 17, 18, 20, 23] Try.f6 3
theorem R_law31_SeasonRates_ok : CSound Try.prog 6 R_law31_SeasonRates := run_sound t_law31_SeasonRates_ok d_law31_SeasonRates_ok mixed Try.func6 (by kernel_rfl) NN
theorem R_law31_SeasonRates_eq {β : Type} (K : AV → Hp → Option β) (a0 : AV) (a1 : AV) (a2 : AV) (h : Hp) : (R_law31_SeasonRates [a0, a1, a2] h).bind (fun p => K p.1 p.2) = f_law31_SeasonRates Try.prog t_law31_SeasonRates d_law31_SeasonRates NN K a0 a1 a2 h := by
  rw [← f_law31_SeasonRates_run]; exact runF_bind rfl
noncomputable def F_law31_SeasonRates : Fun := closedX [.l 4, .o, .o] [.o] R_law31_SeasonRates
theorem F_law31_SeasonRates_ok : CSound Try.prog 6 F_law31_SeasonRates := closedX_sound _ _ R_law31_SeasonRates_ok
noncomputable def G_law31_SeasonRates : DFun := closedXD [.l 4, .o, .o] [.o] R_law31_SeasonRates
theorem G_law31_SeasonRates_ro : Ro F_law31_SeasonRates G_law31_SeasonRates := closedX_ro _ _ _
theorem F_law31_SeasonRates_run {a0 : AV} {a1 : AV} {a2 : AV} {v : AV} (ha : plains [a0, a1, a2] = true) (hv : f_law31_SeasonRates Try.prog t_law31_SeasonRates d_law31_SeasonRates NN (fun v g => cvt false g v) (nrm (.l 4) a0) a1 a2 [] = some v) (h : Hp) : F_law31_SeasonRates [a0, a1, a2] h = some (v, h) := by
  have e : (R_law31_SeasonRates (nrms [.l 4, .o, .o] [a0, a1, a2]) []).bind (fun (p : AV × Hp) => cvt false p.2 p.1) = some v := (R_law31_SeasonRates_eq (fun v g => cvt false g v) (nrm (.l 4) a0) a1 a2 []).trans hv
  exact (closedX_bind (shr := [.o]) ha e h).trans (congrArg (fun x => some (x, h)) (nrmR_rep 1 v))
theorem F_law31_SeasonRates_own {a0 : AV} {a1 : AV} {a2 : AV} {x0 : AV} {x1 : AV} {x2 : AV} {h : Hp} {v : AV} (ha : cvts false h [x0, x1, x2] = some [a0, a1, a2]) (hv : ∀ st, f_law31_SeasonRates Try.prog t_law31_SeasonRates d_law31_SeasonRates NN (fun v g => cvt st g v) (nrm (.l 4) a0) a1 a2 [] = some v) : F_law31_SeasonRates [x0, x1, x2] h = some (v, h) := by
  have e : ∀ st, (R_law31_SeasonRates (nrms [.l 4, .o, .o] [a0, a1, a2]) []).bind (fun (p : AV × Hp) => cvt st p.2 p.1) = some v := fun st => (R_law31_SeasonRates_eq (fun v g => cvt st g v) (nrm (.l 4) a0) a1 a2 []).trans (hv st)
  exact (closedX_ownB (shr := [.o]) ha e).trans (congrArg (fun x => some (x, h)) (nrmR_rep 1 v))
/-! spile/spilelaw31.SeasonFound$1 -/
noncomputable def t_law31_SeasonFound_1 : Tab := T0
theorem t_law31_SeasonFound_1_ok : TSound Try.prog t_law31_SeasonFound_1 := TSound.zero
noncomputable def d_law31_SeasonFound_1 : DTab := D0
theorem d_law31_SeasonFound_1_ok : DSound Try.prog d_law31_SeasonFound_1 := DSound.zero
noncomputable def R_law31_SeasonFound_1 : Fun := runF Try.prog t_law31_SeasonFound_1 d_law31_SeasonFound_1 NN [0, 1, 2, 3] Try.f25 2
theorem R_law31_SeasonFound_1_ok : CSound Try.prog 25 R_law31_SeasonFound_1 := run_sound t_law31_SeasonFound_1_ok d_law31_SeasonFound_1_ok mixed Try.func25 (by kernel_rfl) NN
theorem R_law31_SeasonFound_1_eq {β : Type} (K : AV → Hp → Option β) (a0 : AV) (a1 : AV) (h : Hp) : (R_law31_SeasonFound_1 [a0, a1] h).bind (fun p => K p.1 p.2) = f_law31_SeasonFound_1 Try.prog t_law31_SeasonFound_1 d_law31_SeasonFound_1 NN K a0 a1 h := by
  rw [← f_law31_SeasonFound_1_run]; exact runF_bind rfl
noncomputable def F_law31_SeasonFound_1 : Fun := quietT R_law31_SeasonFound_1
theorem F_law31_SeasonFound_1_ok : CSound Try.prog 25 F_law31_SeasonFound_1 := quietT_sound R_law31_SeasonFound_1_ok
noncomputable def G_law31_SeasonFound_1 : DFun := roD F_law31_SeasonFound_1
theorem G_law31_SeasonFound_1_ro : Ro F_law31_SeasonFound_1 G_law31_SeasonFound_1 := ro_ro _
theorem F_law31_SeasonFound_1_q {a0 : AV} {a1 : AV} {h : Hp} {g : List AObj} {v : AV} (hv : f_law31_SeasonFound_1 Try.prog t_law31_SeasonFound_1 d_law31_SeasonFound_1 NN (fun v h => some (v, h)) a0 a1 h = some (v, h ++ g)) (hp : plain v = true) : F_law31_SeasonFound_1 [a0, a1] h = some (v, h) := quietT_val (F := R_law31_SeasonFound_1) (((bind_pair _).symm.trans (R_law31_SeasonFound_1_eq (fun v h => some (v, h)) a0 a1 h)).trans hv) hp
/-! spile/spilelaw31.SeasonFound$2 -/
noncomputable def t_law31_SeasonFound_2 : Tab := T0
theorem t_law31_SeasonFound_2_ok : TSound Try.prog t_law31_SeasonFound_2 := TSound.zero
noncomputable def d_law31_SeasonFound_2 : DTab := D0
theorem d_law31_SeasonFound_2_ok : DSound Try.prog d_law31_SeasonFound_2 := DSound.zero
noncomputable def R_law31_SeasonFound_2 : Fun := runF Try.prog t_law31_SeasonFound_2 d_law31_SeasonFound_2 NN [0, 1, 2, 3] Try.f26 2
theorem R_law31_SeasonFound_2_ok : CSound Try.prog 26 R_law31_SeasonFound_2 := run_sound t_law31_SeasonFound_2_ok d_law31_SeasonFound_2_ok mixed Try.func26 (by kernel_rfl) NN
theorem R_law31_SeasonFound_2_eq {β : Type} (K : AV → Hp → Option β) (a0 : AV) (a1 : AV) (h : Hp) : (R_law31_SeasonFound_2 [a0, a1] h).bind (fun p => K p.1 p.2) = f_law31_SeasonFound_2 Try.prog t_law31_SeasonFound_2 d_law31_SeasonFound_2 NN K a0 a1 h := by
  rw [← f_law31_SeasonFound_2_run]; exact runF_bind rfl
noncomputable def F_law31_SeasonFound_2 : Fun := quietT R_law31_SeasonFound_2
theorem F_law31_SeasonFound_2_ok : CSound Try.prog 26 F_law31_SeasonFound_2 := quietT_sound R_law31_SeasonFound_2_ok
noncomputable def G_law31_SeasonFound_2 : DFun := roD F_law31_SeasonFound_2
theorem G_law31_SeasonFound_2_ro : Ro F_law31_SeasonFound_2 G_law31_SeasonFound_2 := ro_ro _
theorem F_law31_SeasonFound_2_q {a0 : AV} {a1 : AV} {h : Hp} {g : List AObj} {v : AV} (hv : f_law31_SeasonFound_2 Try.prog t_law31_SeasonFound_2 d_law31_SeasonFound_2 NN (fun v h => some (v, h)) a0 a1 h = some (v, h ++ g)) (hp : plain v = true) : F_law31_SeasonFound_2 [a0, a1] h = some (v, h) := quietT_val (F := R_law31_SeasonFound_2) (((bind_pair _).symm.trans (R_law31_SeasonFound_2_eq (fun v h => some (v, h)) a0 a1 h)).trans hv) hp
/-! spile/spilelaw31.SeasonFound$3 -/
noncomputable def t_law31_SeasonFound_3 : Tab := T0
theorem t_law31_SeasonFound_3_ok : TSound Try.prog t_law31_SeasonFound_3 := TSound.zero
noncomputable def d_law31_SeasonFound_3 : DTab := D0
theorem d_law31_SeasonFound_3_ok : DSound Try.prog d_law31_SeasonFound_3 := DSound.zero
noncomputable def R_law31_SeasonFound_3 : Fun := runF Try.prog t_law31_SeasonFound_3 d_law31_SeasonFound_3 NN [0, 1, 2, 3, 4] Try.f27 3
theorem R_law31_SeasonFound_3_ok : CSound Try.prog 27 R_law31_SeasonFound_3 := run_sound t_law31_SeasonFound_3_ok d_law31_SeasonFound_3_ok mixed Try.func27 (by kernel_rfl) NN
theorem R_law31_SeasonFound_3_eq {β : Type} (K : AV → Hp → Option β) (a0 : AV) (a1 : AV) (a2 : AV) (h : Hp) : (R_law31_SeasonFound_3 [a0, a1, a2] h).bind (fun p => K p.1 p.2) = f_law31_SeasonFound_3 Try.prog t_law31_SeasonFound_3 d_law31_SeasonFound_3 NN K a0 a1 a2 h := by
  rw [← f_law31_SeasonFound_3_run]; exact runF_bind rfl
noncomputable def F_law31_SeasonFound_3 : Fun := quietT R_law31_SeasonFound_3
theorem F_law31_SeasonFound_3_ok : CSound Try.prog 27 F_law31_SeasonFound_3 := quietT_sound R_law31_SeasonFound_3_ok
noncomputable def G_law31_SeasonFound_3 : DFun := roD F_law31_SeasonFound_3
theorem G_law31_SeasonFound_3_ro : Ro F_law31_SeasonFound_3 G_law31_SeasonFound_3 := ro_ro _
theorem F_law31_SeasonFound_3_q {a0 : AV} {a1 : AV} {a2 : AV} {h : Hp} {g : List AObj} {v : AV} (hv : f_law31_SeasonFound_3 Try.prog t_law31_SeasonFound_3 d_law31_SeasonFound_3 NN (fun v h => some (v, h)) a0 a1 a2 h = some (v, h ++ g)) (hp : plain v = true) : F_law31_SeasonFound_3 [a0, a1, a2] h = some (v, h) := quietT_val (F := R_law31_SeasonFound_3) (((bind_pair _).symm.trans (R_law31_SeasonFound_3_eq (fun v h => some (v, h)) a0 a1 a2 h)).trans hv) hp
/-! spile/spilelaw31.SeasonFound$4 -/
noncomputable def t_law31_SeasonFound_4 : Tab := T0
theorem t_law31_SeasonFound_4_ok : TSound Try.prog t_law31_SeasonFound_4 := TSound.zero
noncomputable def d_law31_SeasonFound_4 : DTab := D0
theorem d_law31_SeasonFound_4_ok : DSound Try.prog d_law31_SeasonFound_4 := DSound.zero
noncomputable def R_law31_SeasonFound_4 : Fun := runF Try.prog t_law31_SeasonFound_4 d_law31_SeasonFound_4 NN [0, 1, 2, 3, 4, 5] Try.f28 4
theorem R_law31_SeasonFound_4_ok : CSound Try.prog 28 R_law31_SeasonFound_4 := run_sound t_law31_SeasonFound_4_ok d_law31_SeasonFound_4_ok mixed Try.func28 (by kernel_rfl) NN
theorem R_law31_SeasonFound_4_eq {β : Type} (K : AV → Hp → Option β) (a0 : AV) (a1 : AV) (a2 : AV) (a3 : AV) (h : Hp) : (R_law31_SeasonFound_4 [a0, a1, a2, a3] h).bind (fun p => K p.1 p.2) = f_law31_SeasonFound_4 Try.prog t_law31_SeasonFound_4 d_law31_SeasonFound_4 NN K a0 a1 a2 a3 h := by
  rw [← f_law31_SeasonFound_4_run]; exact runF_bind rfl
noncomputable def F_law31_SeasonFound_4 : Fun := quietT R_law31_SeasonFound_4
theorem F_law31_SeasonFound_4_ok : CSound Try.prog 28 F_law31_SeasonFound_4 := quietT_sound R_law31_SeasonFound_4_ok
noncomputable def G_law31_SeasonFound_4 : DFun := roD F_law31_SeasonFound_4
theorem G_law31_SeasonFound_4_ro : Ro F_law31_SeasonFound_4 G_law31_SeasonFound_4 := ro_ro _
theorem F_law31_SeasonFound_4_q {a0 : AV} {a1 : AV} {a2 : AV} {a3 : AV} {h : Hp} {g : List AObj} {v : AV} (hv : f_law31_SeasonFound_4 Try.prog t_law31_SeasonFound_4 d_law31_SeasonFound_4 NN (fun v h => some (v, h)) a0 a1 a2 a3 h = some (v, h ++ g)) (hp : plain v = true) : F_law31_SeasonFound_4 [a0, a1, a2, a3] h = some (v, h) := quietT_val (F := R_law31_SeasonFound_4) (((bind_pair _).symm.trans (R_law31_SeasonFound_4_eq (fun v h => some (v, h)) a0 a1 a2 a3 h)).trans hv) hp
/-! slices.IndexFunc[[]spile/api.Allowance,spile/api.Allowance] : spile/spilelaw31.SeasonFound$1, spile/spilelaw31.SeasonFound$2, spile/spilelaw31.SeasonFound$3, spile/spilelaw31.SeasonFound$4 -/
noncomputable def t_slices_IndexFunc_Allowance__x0 : Tab := (updF (updF (updF (updF T0 25 F_law31_SeasonFound_1) 26 F_law31_SeasonFound_2) 27 F_law31_SeasonFound_3) 28 F_law31_SeasonFound_4)
theorem t_slices_IndexFunc_Allowance__x0_ok : TSound Try.prog t_slices_IndexFunc_Allowance__x0 := (TSound.upd (TSound.upd (TSound.upd (TSound.upd TSound.zero F_law31_SeasonFound_1_ok) F_law31_SeasonFound_2_ok) F_law31_SeasonFound_3_ok) F_law31_SeasonFound_4_ok)
@[simp] theorem t_slices_IndexFunc_Allowance__x0_25 : t_slices_IndexFunc_Allowance__x0 25 = some F_law31_SeasonFound_1 := rfl
@[simp] theorem t_slices_IndexFunc_Allowance__x0_26 : t_slices_IndexFunc_Allowance__x0 26 = some F_law31_SeasonFound_2 := rfl
@[simp] theorem t_slices_IndexFunc_Allowance__x0_27 : t_slices_IndexFunc_Allowance__x0 27 = some F_law31_SeasonFound_3 := rfl
@[simp] theorem t_slices_IndexFunc_Allowance__x0_28 : t_slices_IndexFunc_Allowance__x0 28 = some F_law31_SeasonFound_4 := rfl
noncomputable def d_slices_IndexFunc_Allowance__x0 : DTab := D0
theorem d_slices_IndexFunc_Allowance__x0_ok : DSound Try.prog d_slices_IndexFunc_Allowance__x0 := DSound.zero
noncomputable def R_slices_IndexFunc_Allowance__x0 : Fun := runF Try.prog t_slices_IndexFunc_Allowance__x0 d_slices_IndexFunc_Allowance__x0 NN [0, 1, 4, 5, 7, 8, 9, 16] Try.f47 2
theorem R_slices_IndexFunc_Allowance__x0_ok : CSound Try.prog 47 R_slices_IndexFunc_Allowance__x0 := run_sound t_slices_IndexFunc_Allowance__x0_ok d_slices_IndexFunc_Allowance__x0_ok mixed Try.func47 (by kernel_rfl) NN
theorem R_slices_IndexFunc_Allowance__x0_eq {β : Type} (K : AV → Hp → Option β) (a0 : AV) (a1 : AV) (h : Hp) : (R_slices_IndexFunc_Allowance__x0 [a0, a1] h).bind (fun p => K p.1 p.2) = f_slices_IndexFunc_Allowance Try.prog t_slices_IndexFunc_Allowance__x0 d_slices_IndexFunc_Allowance__x0 NN K a0 a1 h := by
  rw [← f_slices_IndexFunc_Allowance_run]; exact runF_bind rfl
noncomputable def F_slices_IndexFunc_Allowance__x0 : Fun := quietT R_slices_IndexFunc_Allowance__x0
theorem F_slices_IndexFunc_Allowance__x0_ok : CSound Try.prog 47 F_slices_IndexFunc_Allowance__x0 := quietT_sound R_slices_IndexFunc_Allowance__x0_ok
noncomputable def G_slices_IndexFunc_Allowance__x0 : DFun := roD F_slices_IndexFunc_Allowance__x0
theorem G_slices_IndexFunc_Allowance__x0_ro : Ro F_slices_IndexFunc_Allowance__x0 G_slices_IndexFunc_Allowance__x0 := ro_ro _
theorem F_slices_IndexFunc_Allowance__x0_q {a0 : AV} {a1 : AV} {h : Hp} {g : List AObj} {v : AV} (hv : f_slices_IndexFunc_Allowance Try.prog t_slices_IndexFunc_Allowance__x0 d_slices_IndexFunc_Allowance__x0 NN (fun v h => some (v, h)) a0 a1 h = some (v, h ++ g)) (hp : plain v = true) : F_slices_IndexFunc_Allowance__x0 [a0, a1] h = some (v, h) := quietT_val (F := R_slices_IndexFunc_Allowance__x0) (((bind_pair _).symm.trans (R_slices_IndexFunc_Allowance__x0_eq (fun v h => some (v, h)) a0 a1 h)).trans hv) hp
/-! slices.ContainsFunc[[]spile/api.Allowance,spile/api.Allowance] : spile/spilelaw31.SeasonFound$1, spile/spilelaw31.SeasonFound$2, spile/spilelaw31.SeasonFound$3, spile/spilelaw31.SeasonFound$4 -/
noncomputable def t_slices_ContainsFunc_Allowance__x0 : Tab := (updF T0 47 F_slices_IndexFunc_Allowance__x0)
theorem t_slices_ContainsFunc_Allowance__x0_ok : TSound Try.prog t_slices_ContainsFunc_Allowance__x0 := (TSound.upd TSound.zero F_slices_IndexFunc_Allowance__x0_ok)
@[simp] theorem t_slices_ContainsFunc_Allowance__x0_47 : t_slices_ContainsFunc_Allowance__x0 47 = some F_slices_IndexFunc_Allowance__x0 := rfl
noncomputable def d_slices_ContainsFunc_Allowance__x0 : DTab := D0
theorem d_slices_ContainsFunc_Allowance__x0_ok : DSound Try.prog d_slices_ContainsFunc_Allowance__x0 := DSound.zero
noncomputable def R_slices_ContainsFunc_Allowance__x0 : Fun := runF Try.prog t_slices_ContainsFunc_Allowance__x0 d_slices_ContainsFunc_Allowance__x0 NN [0, 1, 4] Try.f24 2
theorem R_slices_ContainsFunc_Allowance__x0_ok : CSound Try.prog 24 R_slices_ContainsFunc_Allowance__x0 := run_sound t_slices_ContainsFunc_Allowance__x0_ok d_slices_ContainsFunc_Allowance__x0_ok mixed Try.func24 (by kernel_rfl) NN
theorem R_slices_ContainsFunc_Allowance__x0_eq {β : Type} (K : AV → Hp → Option β) (a0 : AV) (a1 : AV) (h : Hp) : (R_slices_ContainsFunc_Allowance__x0 [a0, a1] h).bind (fun p => K p.1 p.2) = f_slices_ContainsFunc_Allowance Try.prog t_slices_ContainsFunc_Allowance__x0 d_slices_ContainsFunc_Allowance__x0 NN K a0 a1 h := by
  rw [← f_slices_ContainsFunc_Allowance_run]; exact runF_bind rfl
noncomputable def F_slices_ContainsFunc_Allowance__x0 : Fun := quietT R_slices_ContainsFunc_Allowance__x0
theorem F_slices_ContainsFunc_Allowance__x0_ok : CSound Try.prog 24 F_slices_ContainsFunc_Allowance__x0 := quietT_sound R_slices_ContainsFunc_Allowance__x0_ok
noncomputable def G_slices_ContainsFunc_Allowance__x0 : DFun := roD F_slices_ContainsFunc_Allowance__x0
theorem G_slices_ContainsFunc_Allowance__x0_ro : Ro F_slices_ContainsFunc_Allowance__x0 G_slices_ContainsFunc_Allowance__x0 := ro_ro _
theorem F_slices_ContainsFunc_Allowance__x0_q {a0 : AV} {a1 : AV} {h : Hp} {g : List AObj} {v : AV} (hv : f_slices_ContainsFunc_Allowance Try.prog t_slices_ContainsFunc_Allowance__x0 d_slices_ContainsFunc_Allowance__x0 NN (fun v h => some (v, h)) a0 a1 h = some (v, h ++ g)) (hp : plain v = true) : F_slices_ContainsFunc_Allowance__x0 [a0, a1] h = some (v, h) := quietT_val (F := R_slices_ContainsFunc_Allowance__x0) (((bind_pair _).symm.trans (R_slices_ContainsFunc_Allowance__x0_eq (fun v h => some (v, h)) a0 a1 h)).trans hv) hp
/-! spile/spilelaw31.SeasonFound -/
noncomputable def t_law31_SeasonFound : Tab := (updF (updF (updF (updF (updF (updF (updF (updF (updF (updF T0 10 F_law31_awake) 11 F_ref31_Few) 14 F_slices_Clone_Allowance) 18 F_season_Rate) 21 F_season_Version) 24 F_slices_ContainsFunc_Allowance__x0) 25 F_law31_SeasonFound_1) 26 F_law31_SeasonFound_2) 27 F_law31_SeasonFound_3) 28 F_law31_SeasonFound_4)
theorem t_law31_SeasonFound_ok : TSound Try.prog t_law31_SeasonFound := (TSound.upd (TSound.upd (TSound.upd (TSound.upd (TSound.upd (TSound.upd (TSound.upd (TSound.upd (TSound.upd (TSound.upd TSound.zero F_law31_awake_ok) F_ref31_Few_ok) F_slices_Clone_Allowance_ok) F_season_Rate_ok) F_season_Version_ok) F_slices_ContainsFunc_Allowance__x0_ok) F_law31_SeasonFound_1_ok) F_law31_SeasonFound_2_ok) F_law31_SeasonFound_3_ok) F_law31_SeasonFound_4_ok)
@[simp] theorem t_law31_SeasonFound_10 : t_law31_SeasonFound 10 = some F_law31_awake := rfl
@[simp] theorem t_law31_SeasonFound_11 : t_law31_SeasonFound 11 = some F_ref31_Few := rfl
@[simp] theorem t_law31_SeasonFound_14 : t_law31_SeasonFound 14 = some F_slices_Clone_Allowance := rfl
@[simp] theorem t_law31_SeasonFound_18 : t_law31_SeasonFound 18 = some F_season_Rate := rfl
@[simp] theorem t_law31_SeasonFound_21 : t_law31_SeasonFound 21 = some F_season_Version := rfl
@[simp] theorem t_law31_SeasonFound_24 : t_law31_SeasonFound 24 = some F_slices_ContainsFunc_Allowance__x0 := rfl
@[simp] theorem t_law31_SeasonFound_25 : t_law31_SeasonFound 25 = some F_law31_SeasonFound_1 := rfl
@[simp] theorem t_law31_SeasonFound_26 : t_law31_SeasonFound 26 = some F_law31_SeasonFound_2 := rfl
@[simp] theorem t_law31_SeasonFound_27 : t_law31_SeasonFound 27 = some F_law31_SeasonFound_3 := rfl
@[simp] theorem t_law31_SeasonFound_28 : t_law31_SeasonFound 28 = some F_law31_SeasonFound_4 := rfl
noncomputable def d_law31_SeasonFound : DTab := (updD (updD (updD D0 14 G_slices_Clone_Allowance) 18 G_season_Rate) 21 G_season_Version)
theorem d_law31_SeasonFound_ok : DSound Try.prog d_law31_SeasonFound := (DSound.ro (DSound.ro (DSound.ro DSound.zero G_slices_Clone_Allowance_ro F_slices_Clone_Allowance_ok) G_season_Rate_ro F_season_Rate_ok) G_season_Version_ro F_season_Version_ok)
@[simp] theorem d_law31_SeasonFound_14 : d_law31_SeasonFound 14 = some G_slices_Clone_Allowance := rfl
@[simp] theorem d_law31_SeasonFound_18 : d_law31_SeasonFound 18 = some G_season_Rate := rfl
@[simp] theorem d_law31_SeasonFound_21 : d_law31_SeasonFound 21 = some G_season_Version := rfl
noncomputable def R_law31_SeasonFound : Fun := runF Try.prog t_law31_SeasonFound d_law31_SeasonFound NN [0, 1, 2, 4, 5, 6, 7, 8, 9, 10, 12, 15, 32, 42, 67] Try.f7 3
theorem R_law31_SeasonFound_ok : CSound Try.prog 7 R_law31_SeasonFound := run_sound t_law31_SeasonFound_ok d_law31_SeasonFound_ok mixed Try.func7 (by kernel_rfl) NN
theorem R_law31_SeasonFound_eq {β : Type} (K : AV → Hp → Option β) (a0 : AV) (a1 : AV) (a2 : AV) (h : Hp) : (R_law31_SeasonFound [a0, a1, a2] h).bind (fun p => K p.1 p.2) = f_law31_SeasonFound Try.prog t_law31_SeasonFound d_law31_SeasonFound NN K a0 a1 a2 h := by
  rw [← f_law31_SeasonFound_run]; exact runF_bind rfl
noncomputable def F_law31_SeasonFound : Fun := closedX [.l 4, .o, .o] [.o] R_law31_SeasonFound
theorem F_law31_SeasonFound_ok : CSound Try.prog 7 F_law31_SeasonFound := closedX_sound _ _ R_law31_SeasonFound_ok
noncomputable def G_law31_SeasonFound : DFun := closedXD [.l 4, .o, .o] [.o] R_law31_SeasonFound
theorem G_law31_SeasonFound_ro : Ro F_law31_SeasonFound G_law31_SeasonFound := closedX_ro _ _ _
theorem F_law31_SeasonFound_run {a0 : AV} {a1 : AV} {a2 : AV} {v : AV} (ha : plains [a0, a1, a2] = true) (hv : f_law31_SeasonFound Try.prog t_law31_SeasonFound d_law31_SeasonFound NN (fun v g => cvt false g v) (nrm (.l 4) a0) a1 a2 [] = some v) (h : Hp) : F_law31_SeasonFound [a0, a1, a2] h = some (v, h) := by
  have e : (R_law31_SeasonFound (nrms [.l 4, .o, .o] [a0, a1, a2]) []).bind (fun (p : AV × Hp) => cvt false p.2 p.1) = some v := (R_law31_SeasonFound_eq (fun v g => cvt false g v) (nrm (.l 4) a0) a1 a2 []).trans hv
  exact (closedX_bind (shr := [.o]) ha e h).trans (congrArg (fun x => some (x, h)) (nrmR_rep 1 v))
theorem F_law31_SeasonFound_own {a0 : AV} {a1 : AV} {a2 : AV} {x0 : AV} {x1 : AV} {x2 : AV} {h : Hp} {v : AV} (ha : cvts false h [x0, x1, x2] = some [a0, a1, a2]) (hv : ∀ st, f_law31_SeasonFound Try.prog t_law31_SeasonFound d_law31_SeasonFound NN (fun v g => cvt st g v) (nrm (.l 4) a0) a1 a2 [] = some v) : F_law31_SeasonFound [x0, x1, x2] h = some (v, h) := by
  have e : ∀ st, (R_law31_SeasonFound (nrms [.l 4, .o, .o] [a0, a1, a2]) []).bind (fun (p : AV × Hp) => cvt st p.2 p.1) = some v := fun st => (R_law31_SeasonFound_eq (fun v g => cvt st g v) (nrm (.l 4) a0) a1 a2 []).trans (hv st)
  exact (closedX_ownB (shr := [.o]) ha e).trans (congrArg (fun x => some (x, h)) (nrmR_rep 1 v))
/-! slices.Grow[[]spile/api.Allowance,spile/api.Allowance] -/
noncomputable def t_slices_Grow_Allowance : Tab := T0
theorem t_slices_Grow_Allowance_ok : TSound Try.prog t_slices_Grow_Allowance := TSound.zero
noncomputable def d_slices_Grow_Allowance : DTab := D0
theorem d_slices_Grow_Allowance_ok : DSound Try.prog d_slices_Grow_Allowance := DSound.zero
noncomputable def R_slices_Grow_Allowance : Fun := runF Try.prog t_slices_Grow_Allowance d_slices_Grow_Allowance NN [0, 1, 4, 6, 16] Try.f59 2
theorem R_slices_Grow_Allowance_ok : CSound Try.prog 59 R_slices_Grow_Allowance := run_sound t_slices_Grow_Allowance_ok d_slices_Grow_Allowance_ok mixed Try.func59 (by kernel_rfl) NN
theorem R_slices_Grow_Allowance_eq {β : Type} (K : AV → Hp → Option β) (a0 : AV) (a1 : AV) (h : Hp) : (R_slices_Grow_Allowance [a0, a1] h).bind (fun p => K p.1 p.2) = f_slices_Grow_Allowance Try.prog t_slices_Grow_Allowance d_slices_Grow_Allowance NN K a0 a1 h := by
  rw [← f_slices_Grow_Allowance_run]; exact runF_bind rfl
theorem R_slices_Grow_Allowance_raw (a0 : AV) (a1 : AV) (h : Hp) : R_slices_Grow_Allowance [a0, a1] h = f_slices_Grow_Allowance Try.prog t_slices_Grow_Allowance d_slices_Grow_Allowance NN (fun v h => some (v, h)) a0 a1 h := (bind_pair _).symm.trans (R_slices_Grow_Allowance_eq (fun v h => some (v, h)) a0 a1 h)
noncomputable def F_slices_Grow_Allowance : Fun := closedX [.l 4, .o] [.l 4] R_slices_Grow_Allowance
theorem F_slices_Grow_Allowance_ok : CSound Try.prog 59 F_slices_Grow_Allowance := closedX_sound _ _ R_slices_Grow_Allowance_ok
noncomputable def G_slices_Grow_Allowance : DFun := closedXD [.l 4, .o] [.l 4] R_slices_Grow_Allowance
theorem G_slices_Grow_Allowance_ro : Ro F_slices_Grow_Allowance G_slices_Grow_Allowance := closedX_ro _ _ _
theorem F_slices_Grow_Allowance_run {a0 : AV} {a1 : AV} {v : AV} (ha : plains [a0, a1] = true) (hv : f_slices_Grow_Allowance Try.prog t_slices_Grow_Allowance d_slices_Grow_Allowance NN (fun v g => cvt false g v) (nrm (.l 4) a0) a1 [] = some v) (h : Hp) : F_slices_Grow_Allowance [a0, a1] h = some ((nrmR [.l 4] v), h) := by
  have e : (R_slices_Grow_Allowance (nrms [.l 4, .o] [a0, a1]) []).bind (fun (p : AV × Hp) => cvt false p.2 p.1) = some v := (R_slices_Grow_Allowance_eq (fun v g => cvt false g v) (nrm (.l 4) a0) a1 []).trans hv
  exact (closedX_bind (shr := [.l 4]) ha e h).trans (congrArg (fun x => some (x, h)) rfl)
theorem F_slices_Grow_Allowance_own {a0 : AV} {a1 : AV} {x0 : AV} {x1 : AV} {h : Hp} {v : AV} (ha : cvts false h [x0, x1] = some [a0, a1]) (hv : ∀ st, f_slices_Grow_Allowance Try.prog t_slices_Grow_Allowance d_slices_Grow_Allowance NN (fun v g => cvt st g v) (nrm (.l 4) a0) a1 [] = some v) : F_slices_Grow_Allowance [x0, x1] h = some ((nrmR [.l 4] v), h) := by
  have e : ∀ st, (R_slices_Grow_Allowance (nrms [.l 4, .o] [a0, a1]) []).bind (fun (p : AV × Hp) => cvt st p.2 p.1) = some v := fun st => (R_slices_Grow_Allowance_eq (fun v g => cvt st g v) (nrm (.l 4) a0) a1 []).trans (hv st)
  exact (closedX_ownB (shr := [.l 4]) ha e).trans (congrArg (fun x => some (x, h)) rfl)
/-! slices.Concat[[]spile/api.Allowance,spile/api.Allowance] -/
noncomputable def t_slices_Concat_Allowance : Tab := (updF T0 59 R_slices_Grow_Allowance)
theorem t_slices_Concat_Allowance_ok : TSound Try.prog t_slices_Concat_Allowance := (TSound.upd TSound.zero R_slices_Grow_Allowance_ok)
@[simp] theorem t_slices_Concat_Allowance_59 : t_slices_Concat_Allowance 59 = some R_slices_Grow_Allowance := rfl
noncomputable def d_slices_Concat_Allowance : DTab := D0
theorem d_slices_Concat_Allowance_ok : DSound Try.prog d_slices_Concat_Allowance := DSound.zero
noncomputable def R_slices_Concat_Allowance : Fun := runF Try.prog t_slices_Concat_Allowance d_slices_Concat_Allowance NN [0, 2, 3, 5, 6, 8, 9, 10, 11, 12, 20, 25, 26, 27, 28] Try.f48 1
theorem R_slices_Concat_Allowance_ok : CSound Try.prog 48 R_slices_Concat_Allowance := run_sound t_slices_Concat_Allowance_ok d_slices_Concat_Allowance_ok mixed Try.func48 (by kernel_rfl) NN
theorem R_slices_Concat_Allowance_eq {β : Type} (K : AV → Hp → Option β) (a0 : AV) (h : Hp) : (R_slices_Concat_Allowance [a0] h).bind (fun p => K p.1 p.2) = f_slices_Concat_Allowance Try.prog t_slices_Concat_Allowance d_slices_Concat_Allowance NN K a0 h := by
  rw [← f_slices_Concat_Allowance_run]; exact runF_bind rfl
noncomputable def F_slices_Concat_Allowance : Fun := closedX [.l 1] [.l 4] R_slices_Concat_Allowance
theorem F_slices_Concat_Allowance_ok : CSound Try.prog 48 F_slices_Concat_Allowance := closedX_sound _ _ R_slices_Concat_Allowance_ok
noncomputable def G_slices_Concat_Allowance : DFun := closedXD [.l 1] [.l 4] R_slices_Concat_Allowance
theorem G_slices_Concat_Allowance_ro : Ro F_slices_Concat_Allowance G_slices_Concat_Allowance := closedX_ro _ _ _
theorem F_slices_Concat_Allowance_run {a0 : AV} {v : AV} (ha : plains [a0] = true) (hv : f_slices_Concat_Allowance Try.prog t_slices_Concat_Allowance d_slices_Concat_Allowance NN (fun v g => cvt false g v) (nrm (.l 1) a0) [] = some v) (h : Hp) : F_slices_Concat_Allowance [a0] h = some ((nrmR [.l 4] v), h) := by
  have e : (R_slices_Concat_Allowance (nrms [.l 1] [a0]) []).bind (fun (p : AV × Hp) => cvt false p.2 p.1) = some v := (R_slices_Concat_Allowance_eq (fun v g => cvt false g v) (nrm (.l 1) a0) []).trans hv
  exact (closedX_bind (shr := [.l 4]) ha e h).trans (congrArg (fun x => some (x, h)) rfl)
theorem F_slices_Concat_Allowance_own {a0 : AV} {x0 : AV} {h : Hp} {v : AV} (ha : cvts false h [x0] = some [a0]) (hv : ∀ st, f_slices_Concat_Allowance Try.prog t_slices_Concat_Allowance d_slices_Concat_Allowance NN (fun v g => cvt st g v) (nrm (.l 1) a0) [] = some v) : F_slices_Concat_Allowance [x0] h = some ((nrmR [.l 4] v), h) := by
  have e : ∀ st, (R_slices_Concat_Allowance (nrms [.l 1] [a0]) []).bind (fun (p : AV × Hp) => cvt st p.2 p.1) = some v := fun st => (R_slices_Concat_Allowance_eq (fun v g => cvt st g v) (nrm (.l 1) a0) []).trans (hv st)
  exact (closedX_ownB (shr := [.l 4]) ha e).trans (congrArg (fun x => some (x, h)) rfl)
/-! spile/season.Add -/
noncomputable def t_season_Add : Tab := (updF (updF T0 33 F_season_right) 48 F_slices_Concat_Allowance)
theorem t_season_Add_ok : TSound Try.prog t_season_Add := (TSound.upd (TSound.upd TSound.zero F_season_right_ok) F_slices_Concat_Allowance_ok)
@[simp] theorem t_season_Add_33 : t_season_Add 33 = some F_season_right := rfl
@[simp] theorem t_season_Add_48 : t_season_Add 48 = some F_slices_Concat_Allowance := rfl
noncomputable def d_season_Add : DTab := D0
theorem d_season_Add_ok : DSound Try.prog d_season_Add := DSound.zero
noncomputable def R_season_Add : Fun := runF Try.prog t_season_Add d_season_Add NN [0, 1, 4, 5, 6, 15, 19, 32, 50] Try.f29 2
theorem R_season_Add_ok : CSound Try.prog 29 R_season_Add := run_sound t_season_Add_ok d_season_Add_ok mixed Try.func29 (by kernel_rfl) NN
theorem R_season_Add_eq {β : Type} (K : AV → Hp → Option β) (a0 : AV) (a1 : AV) (h : Hp) : (R_season_Add [a0, a1] h).bind (fun p => K p.1 p.2) = f_season_Add Try.prog t_season_Add d_season_Add NN K a0 a1 h := by
  rw [← f_season_Add_run]; exact runF_bind rfl
noncomputable def F_season_Add : Fun := closedX [.l 4, .l 4] [.l 4, .o] R_season_Add
theorem F_season_Add_ok : CSound Try.prog 29 F_season_Add := closedX_sound _ _ R_season_Add_ok
noncomputable def G_season_Add : DFun := closedXD [.l 4, .l 4] [.l 4, .o] R_season_Add
theorem G_season_Add_ro : Ro F_season_Add G_season_Add := closedX_ro _ _ _
theorem F_season_Add_run {a0 : AV} {a1 : AV} {v : AV} (ha : plains [a0, a1] = true) (hv : f_season_Add Try.prog t_season_Add d_season_Add NN (fun v g => cvt false g v) (nrm (.l 4) a0) (nrm (.l 4) a1) [] = some v) (h : Hp) : F_season_Add [a0, a1] h = some ((nrmR [.l 4, .o] v), h) := by
  have e : (R_season_Add (nrms [.l 4, .l 4] [a0, a1]) []).bind (fun (p : AV × Hp) => cvt false p.2 p.1) = some v := (R_season_Add_eq (fun v g => cvt false g v) (nrm (.l 4) a0) (nrm (.l 4) a1) []).trans hv
  exact (closedX_bind (shr := [.l 4, .o]) ha e h).trans (congrArg (fun x => some (x, h)) rfl)
theorem F_season_Add_own {a0 : AV} {a1 : AV} {x0 : AV} {x1 : AV} {h : Hp} {v : AV} (ha : cvts false h [x0, x1] = some [a0, a1]) (hv : ∀ st, f_season_Add Try.prog t_season_Add d_season_Add NN (fun v g => cvt st g v) (nrm (.l 4) a0) (nrm (.l 4) a1) [] = some v) : F_season_Add [x0, x1] h = some ((nrmR [.l 4, .o] v), h) := by
  have e : ∀ st, (R_season_Add (nrms [.l 4, .l 4] [a0, a1]) []).bind (fun (p : AV × Hp) => cvt st p.2 p.1) = some v := fun st => (R_season_Add_eq (fun v g => cvt st g v) (nrm (.l 4) a0) (nrm (.l 4) a1) []).trans (hv st)
  exact (closedX_ownB (shr := [.l 4, .o]) ha e).trans (congrArg (fun x => some (x, h)) rfl)
/-! spile/spileref31.Add -/
noncomputable def t_ref31_Add : Tab := (updF T0 36 F_ref31_Right)
theorem t_ref31_Add_ok : TSound Try.prog t_ref31_Add := (TSound.upd TSound.zero F_ref31_Right_ok)
@[simp] theorem t_ref31_Add_36 : t_ref31_Add 36 = some F_ref31_Right := rfl
noncomputable def d_ref31_Add : DTab := D0
theorem d_ref31_Add_ok : DSound Try.prog d_ref31_Add := DSound.zero
noncomputable def R_ref31_Add : Fun := runF Try.prog t_ref31_Add d_ref31_Add NN [0, 1, 4, 5, 6, 7, 15, 18, 22, 34, 38, 50, 56] Try.f30 2
theorem R_ref31_Add_ok : CSound Try.prog 30 R_ref31_Add := run_sound t_ref31_Add_ok d_ref31_Add_ok mixed Try.func30 (by kernel_rfl) NN
theorem R_ref31_Add_eq {β : Type} (K : AV → Hp → Option β) (a0 : AV) (a1 : AV) (h : Hp) : (R_ref31_Add [a0, a1] h).bind (fun p => K p.1 p.2) = f_ref31_Add Try.prog t_ref31_Add d_ref31_Add NN K a0 a1 h := by
  rw [← f_ref31_Add_run]; exact runF_bind rfl
noncomputable def F_ref31_Add : Fun := closedX [.l 4, .l 4] [.l 4, .o] R_ref31_Add
theorem F_ref31_Add_ok : CSound Try.prog 30 F_ref31_Add := closedX_sound _ _ R_ref31_Add_ok
noncomputable def G_ref31_Add : DFun := closedXD [.l 4, .l 4] [.l 4, .o] R_ref31_Add
theorem G_ref31_Add_ro : Ro F_ref31_Add G_ref31_Add := closedX_ro _ _ _
theorem F_ref31_Add_run {a0 : AV} {a1 : AV} {v : AV} (ha : plains [a0, a1] = true) (hv : f_ref31_Add Try.prog t_ref31_Add d_ref31_Add NN (fun v g => cvt false g v) (nrm (.l 4) a0) (nrm (.l 4) a1) [] = some v) (h : Hp) : F_ref31_Add [a0, a1] h = some ((nrmR [.l 4, .o] v), h) := by
  have e : (R_ref31_Add (nrms [.l 4, .l 4] [a0, a1]) []).bind (fun (p : AV × Hp) => cvt false p.2 p.1) = some v := (R_ref31_Add_eq (fun v g => cvt false g v) (nrm (.l 4) a0) (nrm (.l 4) a1) []).trans hv
  exact (closedX_bind (shr := [.l 4, .o]) ha e h).trans (congrArg (fun x => some (x, h)) rfl)
theorem F_ref31_Add_own {a0 : AV} {a1 : AV} {x0 : AV} {x1 : AV} {h : Hp} {v : AV} (ha : cvts false h [x0, x1] = some [a0, a1]) (hv : ∀ st, f_ref31_Add Try.prog t_ref31_Add d_ref31_Add NN (fun v g => cvt st g v) (nrm (.l 4) a0) (nrm (.l 4) a1) [] = some v) : F_ref31_Add [x0, x1] h = some ((nrmR [.l 4, .o] v), h) := by
  have e : ∀ st, (R_ref31_Add (nrms [.l 4, .l 4] [a0, a1]) []).bind (fun (p : AV × Hp) => cvt st p.2 p.1) = some v := fun st => (R_ref31_Add_eq (fun v g => cvt st g v) (nrm (.l 4) a0) (nrm (.l 4) a1) []).trans (hv st)
  exact (closedX_ownB (shr := [.l 4, .o]) ha e).trans (congrArg (fun x => some (x, h)) rfl)
/-! spile/spileref31.Same -/
noncomputable def t_ref31_Same : Tab := T0
theorem t_ref31_Same_ok : TSound Try.prog t_ref31_Same := TSound.zero
noncomputable def d_ref31_Same : DTab := D0
theorem d_ref31_Same_ok : DSound Try.prog d_ref31_Same := DSound.zero
noncomputable def R_ref31_Same : Fun := runF Try.prog t_ref31_Same d_ref31_Same NN [0, 1, 4, 5, 10, 14, 25] Try.f31 2
theorem R_ref31_Same_ok : CSound Try.prog 31 R_ref31_Same := run_sound t_ref31_Same_ok d_ref31_Same_ok mixed Try.func31 (by kernel_rfl) NN
theorem R_ref31_Same_eq {β : Type} (K : AV → Hp → Option β) (a0 : AV) (a1 : AV) (h : Hp) : (R_ref31_Same [a0, a1] h).bind (fun p => K p.1 p.2) = f_ref31_Same Try.prog t_ref31_Same d_ref31_Same NN K a0 a1 h := by
  rw [← f_ref31_Same_run]; exact runF_bind rfl
noncomputable def F_ref31_Same : Fun := closedX [.l 4, .l 4] [.o] R_ref31_Same
theorem F_ref31_Same_ok : CSound Try.prog 31 F_ref31_Same := closedX_sound _ _ R_ref31_Same_ok
noncomputable def G_ref31_Same : DFun := closedXD [.l 4, .l 4] [.o] R_ref31_Same
theorem G_ref31_Same_ro : Ro F_ref31_Same G_ref31_Same := closedX_ro _ _ _
theorem F_ref31_Same_run {a0 : AV} {a1 : AV} {v : AV} (ha : plains [a0, a1] = true) (hv : f_ref31_Same Try.prog t_ref31_Same d_ref31_Same NN (fun v g => cvt false g v) (nrm (.l 4) a0) (nrm (.l 4) a1) [] = some v) (h : Hp) : F_ref31_Same [a0, a1] h = some (v, h) := by
  have e : (R_ref31_Same (nrms [.l 4, .l 4] [a0, a1]) []).bind (fun (p : AV × Hp) => cvt false p.2 p.1) = some v := (R_ref31_Same_eq (fun v g => cvt false g v) (nrm (.l 4) a0) (nrm (.l 4) a1) []).trans hv
  exact (closedX_bind (shr := [.o]) ha e h).trans (congrArg (fun x => some (x, h)) (nrmR_rep 1 v))
theorem F_ref31_Same_own {a0 : AV} {a1 : AV} {x0 : AV} {x1 : AV} {h : Hp} {v : AV} (ha : cvts false h [x0, x1] = some [a0, a1]) (hv : ∀ st, f_ref31_Same Try.prog t_ref31_Same d_ref31_Same NN (fun v g => cvt st g v) (nrm (.l 4) a0) (nrm (.l 4) a1) [] = some v) : F_ref31_Same [x0, x1] h = some (v, h) := by
  have e : ∀ st, (R_ref31_Same (nrms [.l 4, .l 4] [a0, a1]) []).bind (fun (p : AV × Hp) => cvt st p.2 p.1) = some v := fun st => (R_ref31_Same_eq (fun v g => cvt st g v) (nrm (.l 4) a0) (nrm (.l 4) a1) []).trans (hv st)
  exact (closedX_ownB (shr := [.o]) ha e).trans (congrArg (fun x => some (x, h)) (nrmR_rep 1 v))
/-! spile/spilelaw31.SeasonAdds -/
noncomputable def t_law31_SeasonAdds : Tab := (updF (updF (updF (updF (updF (updF T0 10 F_law31_awake) 11 F_ref31_Few) 14 F_slices_Clone_Allowance) 29 F_season_Add) 30 F_ref31_Add) 31 F_ref31_Same)
theorem t_law31_SeasonAdds_ok : TSound Try.prog t_law31_SeasonAdds := (TSound.upd (TSound.upd (TSound.upd (TSound.upd (TSound.upd (TSound.upd TSound.zero F_law31_awake_ok) F_ref31_Few_ok) F_slices_Clone_Allowance_ok) F_season_Add_ok) F_ref31_Add_ok) F_ref31_Same_ok)
@[simp] theorem t_law31_SeasonAdds_10 : t_law31_SeasonAdds 10 = some F_law31_awake := rfl
@[simp] theorem t_law31_SeasonAdds_11 : t_law31_SeasonAdds 11 = some F_ref31_Few := rfl
@[simp] theorem t_law31_SeasonAdds_14 : t_law31_SeasonAdds 14 = some F_slices_Clone_Allowance := rfl
@[simp] theorem t_law31_SeasonAdds_29 : t_law31_SeasonAdds 29 = some F_season_Add := rfl
@[simp] theorem t_law31_SeasonAdds_30 : t_law31_SeasonAdds 30 = some F_ref31_Add := rfl
@[simp] theorem t_law31_SeasonAdds_31 : t_law31_SeasonAdds 31 = some F_ref31_Same := rfl
noncomputable def d_law31_SeasonAdds : DTab := D0
theorem d_law31_SeasonAdds_ok : DSound Try.prog d_law31_SeasonAdds := DSound.zero
noncomputable def R_law31_SeasonAdds : Fun := runF Try.prog t_law31_SeasonAdds d_law31_SeasonAdds NN [0, 1, 4, 5, 6, 7, 8, 10, 18] Try.f8 2
theorem R_law31_SeasonAdds_ok : CSound Try.prog 8 R_law31_SeasonAdds := run_sound t_law31_SeasonAdds_ok d_law31_SeasonAdds_ok mixed Try.func8 (by kernel_rfl) NN
theorem R_law31_SeasonAdds_eq {β : Type} (K : AV → Hp → Option β) (a0 : AV) (a1 : AV) (h : Hp) : (R_law31_SeasonAdds [a0, a1] h).bind (fun p => K p.1 p.2) = f_law31_SeasonAdds Try.prog t_law31_SeasonAdds d_law31_SeasonAdds NN K a0 a1 h := by
  rw [← f_law31_SeasonAdds_run]; exact runF_bind rfl
noncomputable def F_law31_SeasonAdds : Fun := closedX [.l 4, .l 4] [.o] R_law31_SeasonAdds
theorem F_law31_SeasonAdds_ok : CSound Try.prog 8 F_law31_SeasonAdds := closedX_sound _ _ R_law31_SeasonAdds_ok
noncomputable def G_law31_SeasonAdds : DFun := closedXD [.l 4, .l 4] [.o] R_law31_SeasonAdds
theorem G_law31_SeasonAdds_ro : Ro F_law31_SeasonAdds G_law31_SeasonAdds := closedX_ro _ _ _
theorem F_law31_SeasonAdds_run {a0 : AV} {a1 : AV} {v : AV} (ha : plains [a0, a1] = true) (hv : f_law31_SeasonAdds Try.prog t_law31_SeasonAdds d_law31_SeasonAdds NN (fun v g => cvt false g v) (nrm (.l 4) a0) (nrm (.l 4) a1) [] = some v) (h : Hp) : F_law31_SeasonAdds [a0, a1] h = some (v, h) := by
  have e : (R_law31_SeasonAdds (nrms [.l 4, .l 4] [a0, a1]) []).bind (fun (p : AV × Hp) => cvt false p.2 p.1) = some v := (R_law31_SeasonAdds_eq (fun v g => cvt false g v) (nrm (.l 4) a0) (nrm (.l 4) a1) []).trans hv
  exact (closedX_bind (shr := [.o]) ha e h).trans (congrArg (fun x => some (x, h)) (nrmR_rep 1 v))
theorem F_law31_SeasonAdds_own {a0 : AV} {a1 : AV} {x0 : AV} {x1 : AV} {h : Hp} {v : AV} (ha : cvts false h [x0, x1] = some [a0, a1]) (hv : ∀ st, f_law31_SeasonAdds Try.prog t_law31_SeasonAdds d_law31_SeasonAdds NN (fun v g => cvt st g v) (nrm (.l 4) a0) (nrm (.l 4) a1) [] = some v) : F_law31_SeasonAdds [x0, x1] h = some (v, h) := by
  have e : ∀ st, (R_law31_SeasonAdds (nrms [.l 4, .l 4] [a0, a1]) []).bind (fun (p : AV × Hp) => cvt st p.2 p.1) = some v := fun st => (R_law31_SeasonAdds_eq (fun v g => cvt st g v) (nrm (.l 4) a0) (nrm (.l 4) a1) []).trans (hv st)
  exact (closedX_ownB (shr := [.o]) ha e).trans (congrArg (fun x => some (x, h)) (nrmR_rep 1 v))
/-! spile/spilelaw31.SeasonVersions -/
noncomputable def t_law31_SeasonVersions : Tab := (updF (updF (updF (updF (updF (updF T0 10 F_law31_awake) 11 F_ref31_Few) 14 F_slices_Clone_Allowance) 18 F_season_Rate) 21 F_season_Version) 29 F_season_Add)
theorem t_law31_SeasonVersions_ok : TSound Try.prog t_law31_SeasonVersions := (TSound.upd (TSound.upd (TSound.upd (TSound.upd (TSound.upd (TSound.upd TSound.zero F_law31_awake_ok) F_ref31_Few_ok) F_slices_Clone_Allowance_ok) F_season_Rate_ok) F_season_Version_ok) F_season_Add_ok)
@[simp] theorem t_law31_SeasonVersions_10 : t_law31_SeasonVersions 10 = some F_law31_awake := rfl
@[simp] theorem t_law31_SeasonVersions_11 : t_law31_SeasonVersions 11 = some F_ref31_Few := rfl
@[simp] theorem t_law31_SeasonVersions_14 : t_law31_SeasonVersions 14 = some F_slices_Clone_Allowance := rfl
@[simp] theorem t_law31_SeasonVersions_18 : t_law31_SeasonVersions 18 = some F_season_Rate := rfl
@[simp] theorem t_law31_SeasonVersions_21 : t_law31_SeasonVersions 21 = some F_season_Version := rfl
@[simp] theorem t_law31_SeasonVersions_29 : t_law31_SeasonVersions 29 = some F_season_Add := rfl
noncomputable def d_law31_SeasonVersions : DTab := (updD (updD D0 14 G_slices_Clone_Allowance) 18 G_season_Rate)
theorem d_law31_SeasonVersions_ok : DSound Try.prog d_law31_SeasonVersions := (DSound.ro (DSound.ro DSound.zero G_slices_Clone_Allowance_ro F_slices_Clone_Allowance_ok) G_season_Rate_ro F_season_Rate_ok)
@[simp] theorem d_law31_SeasonVersions_14 : d_law31_SeasonVersions 14 = some G_slices_Clone_Allowance := rfl
@[simp] theorem d_law31_SeasonVersions_18 : d_law31_SeasonVersions 18 = some G_season_Rate := rfl
noncomputable def R_law31_SeasonVersions : Fun := runF Try.prog t_law31_SeasonVersions d_law31_SeasonVersions NN [0, 1, 2, 5, 6, 7, 8, 9, 10, 11, 12, 13, 14, 15, 16, 18, 26, 36, 42, 82, 101] Try.f9 3
theorem R_law31_SeasonVersions_ok : CSound Try.prog 9 R_law31_SeasonVersions := run_sound t_law31_SeasonVersions_ok d_law31_SeasonVersions_ok mixed Try.func9 (by kernel_rfl) NN
theorem R_law31_SeasonVersions_eq {β : Type} (K : AV → Hp → Option β) (a0 : AV) (a1 : AV) (a2 : AV) (h : Hp) : (R_law31_SeasonVersions [a0, a1, a2] h).bind (fun p => K p.1 p.2) = f_law31_SeasonVersions Try.prog t_law31_SeasonVersions d_law31_SeasonVersions NN K a0 a1 a2 h := by
  rw [← f_law31_SeasonVersions_run]; exact runF_bind rfl
noncomputable def F_law31_SeasonVersions : Fun := closedX [.l 4, .l 4, .o] [.o] R_law31_SeasonVersions
theorem F_law31_SeasonVersions_ok : CSound Try.prog 9 F_law31_SeasonVersions := closedX_sound _ _ R_law31_SeasonVersions_ok
noncomputable def G_law31_SeasonVersions : DFun := closedXD [.l 4, .l 4, .o] [.o] R_law31_SeasonVersions
theorem G_law31_SeasonVersions_ro : Ro F_law31_SeasonVersions G_law31_SeasonVersions := closedX_ro _ _ _
theorem F_law31_SeasonVersions_run {a0 : AV} {a1 : AV} {a2 : AV} {v : AV} (ha : plains [a0, a1, a2] = true) (hv : f_law31_SeasonVersions Try.prog t_law31_SeasonVersions d_law31_SeasonVersions NN (fun v g => cvt false g v) (nrm (.l 4) a0) (nrm (.l 4) a1) a2 [] = some v) (h : Hp) : F_law31_SeasonVersions [a0, a1, a2] h = some (v, h) := by
  have e : (R_law31_SeasonVersions (nrms [.l 4, .l 4, .o] [a0, a1, a2]) []).bind (fun (p : AV × Hp) => cvt false p.2 p.1) = some v := (R_law31_SeasonVersions_eq (fun v g => cvt false g v) (nrm (.l 4) a0) (nrm (.l 4) a1) a2 []).trans hv
  exact (closedX_bind (shr := [.o]) ha e h).trans (congrArg (fun x => some (x, h)) (nrmR_rep 1 v))
theorem F_law31_SeasonVersions_own {a0 : AV} {a1 : AV} {a2 : AV} {x0 : AV} {x1 : AV} {x2 : AV} {h : Hp} {v : AV} (ha : cvts false h [x0, x1, x2] = some [a0, a1, a2]) (hv : ∀ st, f_law31_SeasonVersions Try.prog t_law31_SeasonVersions d_law31_SeasonVersions NN (fun v g => cvt st g v) (nrm (.l 4) a0) (nrm (.l 4) a1) a2 [] = some v) : F_law31_SeasonVersions [x0, x1, x2] h = some (v, h) := by
  have e : ∀ st, (R_law31_SeasonVersions (nrms [.l 4, .l 4, .o] [a0, a1, a2]) []).bind (fun (p : AV × Hp) => cvt st p.2 p.1) = some v := fun st => (R_law31_SeasonVersions_eq (fun v g => cvt st g v) (nrm (.l 4) a0) (nrm (.l 4) a1) a2 []).trans (hv st)
  exact (closedX_ownB (shr := [.o]) ha e).trans (congrArg (fun x => some (x, h)) (nrmR_rep 1 v))
end Go.AM

/-! The arithmetic under a division of 128 bits by 64 (Knuth's algorithm D with two digits). Plain natural numbers. -/
set_option linter.unusedVariables false
namespace Go.AM.Div
/-- One digit: x b + c over y, where y has two digits. -/
theorem le_iff {b y1 y0 x c q r : Nat} (hx : x = q * y1 + r) : q * (y1 * b + y0) ≤ x * b + c ↔ q * y0 ≤ b * r + c := by
  have e1 : q * (y1 * b + y0) = q * y1 * b + q * y0 := by rw [Nat.mul_add, Nat.mul_assoc]
  have e2 : x * b + c = q * y1 * b + (b * r + c) := by rw [hx, Nat.add_mul, Nat.mul_comm r b]; omega
  rw [e1, e2]
  omega
theorem start_le {b y1 y0 x c : Nat} (hb : 0 < b) (hy1 : 0 < y1) (hc : c < b) : (x * b + c) / (y1 * b + y0) ≤ x / y1 := by
  have hy : 0 < y1 * b + y0 := by have := Nat.mul_pos hy1 hb; omega
  rw [Nat.le_div_iff_mul_le hy1]
  generalize hQ : (x * b + c) / (y1 * b + y0) = Q
  have h1 : Q * (y1 * b + y0) ≤ x * b + c := by rw [← hQ]; exact Nat.div_mul_le_self _ _
  rcases Nat.lt_or_ge x (Q * y1) with h2 | h2
  · exfalso
    have h3 : (x + 1) * b ≤ Q * y1 * b := Nat.mul_le_mul_right _ h2
    rw [Nat.mul_add, ← Nat.mul_assoc] at h1
    rw [Nat.add_mul] at h3
    omega
  · exact h2
theorem lt_base {b y x c : Nat} (hc : c < b) (hx : x < y) : (x * b + c) / y < b := by
  rw [Nat.div_lt_iff_lt_mul (by omega)]
  have : (x + 1) * b ≤ y * b := Nat.mul_le_mul_right _ hx
  rw [Nat.add_mul] at this
  rw [Nat.mul_comm b y]
  omega
/-- The digit is not too great: then it is the quotient. -/
theorem digit_eq {b y1 y0 x c q r : Nat} (hy : 0 < y1 * b + y0) (hx : x = q * y1 + r) (hQ : (x * b + c) / (y1 * b + y0) ≤ q) (hle : q * y0 ≤ b * r + c) : q = (x * b + c) / (y1 * b + y0) := by
  have := (Nat.le_div_iff_mul_le hy).2 ((le_iff (c := c) (b := b) (y0 := y0) hx).2 hle)
  omega
/-- The digit is too great. -/
theorem digit_gt {b y1 y0 x c q r : Nat} (hy : 0 < y1 * b + y0) (hxy : x < y1 * b + y0) (hc : c < b) (hx : x = q * y1 + r) (hg : b ≤ q ∨ b * r + c < q * y0) : (x * b + c) / (y1 * b + y0) < q := by
  rcases hg with hg | hg
  · have := lt_base hc hxy; omega
  · rw [Nat.div_lt_iff_lt_mul hy]
    have := mt (le_iff (c := c) (b := b) (y0 := y0) hx).1 (by omega)
    omega
/-- The rest has a digit more: then it is the quotient. -/
theorem digit_big {b y1 y0 x c q r : Nat} (hb : 0 < b) (hy0 : y0 < b) (hy1 : 0 < y1) (hxy : x < y1 * b + y0) (hx : x = q * y1 + r) (hr : b ≤ r) (hQ : (x * b + c) / (y1 * b + y0) ≤ q) : q = (x * b + c) / (y1 * b + y0) := by
  have hy : 0 < y1 * b + y0 := by have := Nat.mul_pos hy1 hb; omega
  have hqb : q < b := by
    rcases Nat.lt_or_ge q b with h | h
    · exact h
    · exfalso
      have h1 : b * y1 ≤ q * y1 := Nat.mul_le_mul_right _ h
      rw [Nat.mul_comm b y1] at h1
      omega
  refine digit_eq hy hx hQ ?_
  have h1 : q * y0 ≤ b * b := Nat.mul_le_mul (by omega) (by omega)
  have h2 : b * b ≤ b * r := Nat.mul_le_mul_left _ hr
  omega
/-- Two digits, one behind the other. -/
theorem two_digits {b y x c1 c0 : Nat} (hb : 0 < b) (hc1 : c1 < b) (hc0 : c0 < b) (hy : 0 < y) (hx : x < y) :
    (x * b + c1) / y * b + ((x * b + c1) % y * b + c0) / y = (x * (b * b) + c1 * b + c0) / y ∧ ((x * b + c1) % y * b + c0) % y = (x * (b * b) + c1 * b + c0) % y := by
  have e : x * (b * b) + c1 * b + c0 = ((x * b + c1) % y * b + c0) + y * ((x * b + c1) / y * b) := by
    have h1 := Nat.mod_add_div (x * b + c1) y
    have h2 : (x * b + c1) * b = (x * b + c1) % y * b + y * ((x * b + c1) / y * b) := by
      have : ((x * b + c1) % y + y * ((x * b + c1) / y)) * b = (x * b + c1) % y * b + y * ((x * b + c1) / y * b) := by rw [Nat.add_mul, Nat.mul_assoc]
      rw [← this, h1]
    rw [Nat.add_mul, Nat.mul_assoc] at h2
    omega
  rw [e, Nat.add_mul_div_left _ _ hy, Nat.add_mul_mod_self_left]
  exact ⟨Nat.add_comm _ _, rfl⟩
/-- Numbers that are made greater by a power of two. -/
theorem scaled {u y s : Nat} (hs : 0 < s) : (u * s) / (y * s) = u / y ∧ (u * s) % (y * s) = u % y * s :=
  ⟨Nat.mul_div_mul_right _ _ hs, Nat.mul_mod_mul_right _ _ _⟩
end Go.AM.Div

/- math/bits: the high and the low half of a product, the length of a number, and the quotient of 128 bits by 64. -/
namespace Go.AM
open Go.Proofs
set_option linter.unusedVariables false
set_option linter.unusedSimpArgs false
set_option linter.constructorNameAsVariable false
set_option maxRecDepth 20000
section
variable {β : Type} {P : Program} {T : Tab} {D : DTab} {N : Nat}
theorem dec_u (a b : Nat) : decide ((a : Int) ≤ (b : Int)) = decide (a ≤ b) := by apply decide_eq_decide.2; omega
theorem dec_ul (a b : Nat) : decide ((a : Int) < (b : Int)) = decide (a < b) := by apply decide_eq_decide.2; omega
theorem b8_step {xn : AV → AV → AV → AV → AV → AV → AV → AV → AV → Hp → Option β} {x0 : AV → AV → AV → AV → AV → AV → AV → AV → Hp → Option β} {v2 v8 v11 v14 : AV} {h : Hp} {q r y1 y0 c : Nat}
    (hq : q < 17179869184) (hr : r < 4294967296) (hy1 : y1 < 4294967296) (hy0 : y0 < 4294967296) (hc : c < 4294967296) (h0 : 4294967296 ≤ q ∨ 4294967296 * r + c < q * y0 → 0 < q) :
    f_bits_Div64_b8 P T D N xn x0 v2 v8 (U y1) (U y0) v11 (U c) v14 (U q) (U r) h = if 4294967296 ≤ q ∨ 4294967296 * r + c < q * y0 then (if 4294967296 ≤ r + y1 then x0 v2 v8 (U y1) (U y0) v11 (U c) v14 (U (q - 1)) h else xn v2 v8 (U y1) (U y0) v11 (U c) v14 (U (q - 1)) (U (r + y1)) h)
      else x0 v2 v8 (U y1) (U y0) v11 (U c) v14 (U q) h := by
  have m1 : ∀ kk : AV → Option β, arithK .mul (.s (.int .u64 4294967296)) (U r) kk = kk (U (4294967296 * r)) := fun kk => u_mul 4294967296 r (by omega) kk
  have a1 : ∀ kk : AV → Option β, arithK .add (U (4294967296 * r)) (U c) kk = kk (U (4294967296 * r + c)) := fun kk => u_add _ _ (by omega) kk
  have a2 : ∀ kk : AV → Option β, arithK .add (U r) (U y1) kk = kk (U (r + y1)) := fun kk => u_add _ _ (by omega) kk
  have g1 : ∀ (a b : Nat) (kk : AV → Option β), arithK .geq (U a) (.s (.int .u64 (b : Int))) kk = kk (.s (.bool (decide (b ≤ a)))) := fun a b kk => by rw [arithK_geq, dec_u]
  have g2 : ∀ (a : Nat) (kk : AV → Option β), arithK .geq (U a) (.s (.int .u64 4294967296)) kk = kk (.s (.bool (decide (4294967296 ≤ a)))) := fun a kk => g1 a 4294967296 kk
  have tail : 0 < q → (arithK .sub (U q) (.s (.int .u64 1)) fun x54 => arithK .add (U r) (U y1) fun x55 => arithK .geq x55 (.s (.int .u64 4294967296)) fun x56 => condK x56 (x0 v2 v8 (U y1) (U y0) v11 (U c) v14 x54 h) (xn v2 v8 (U y1) (U y0) v11 (U c) v14 x54 x55 h)) =
      if 4294967296 ≤ r + y1 then x0 v2 v8 (U y1) (U y0) v11 (U c) v14 (U (q - 1)) h else xn v2 v8 (U y1) (U y0) v11 (U c) v14 (U (q - 1)) (U (r + y1)) h := by
    intro h0
    have s1 : ∀ kk : AV → Option β, arithK .sub (U q) (.s (.int .u64 1)) kk = kk (U (q - 1)) := fun kk => u_sub q 1 h0 (by omega) kk
    rw [s1, a2, g2, condK_bool]
    simp
  unfold f_bits_Div64_b8
  rw [g2]
  by_cases hb : 4294967296 ≤ q
  · rw [decide_eq_true hb, grpK_ft, condK_bool, if_pos rfl, if_pos (.inl hb), tail (by omega)]
  · have hp : q * y0 < 18446744073709551616 := by
      have : q * y0 ≤ 4294967295 * 4294967295 := Nat.mul_le_mul (by omega) (by omega)
      omega
    have m2 : ∀ kk : AV → Option β, arithK .mul (U q) (U y0) kk = kk (U (q * y0)) := fun kk => u_mul _ _ hp kk
    rw [decide_eq_false hb, grpK_ff, m2, m1, a1, arithK_gtr, dec_ul]
    dsimp only
    rw [condK_bool]
    by_cases hl : 4294967296 * r + c < q * y0
    · rw [decide_eq_true hl, if_pos rfl, if_pos (.inr hl), tail (h0 (.inr hl))]
    · rw [decide_eq_false hl, if_neg (by simp), if_neg (by omega)]
theorem b6_step {xn : AV → AV → AV → AV → AV → AV → AV → AV → AV → Hp → Option β} {x2 : AV → AV → AV → AV → AV → AV → Hp → Option β} {v2 v8 v15 v17 : AV} {h : Hp} {q r y1 y0 c : Nat}
    (hq : q < 17179869184) (hr : r < 4294967296) (hy1 : y1 < 4294967296) (hy0 : y0 < 4294967296) (hc : c < 4294967296) (h0 : 4294967296 ≤ q ∨ 4294967296 * r + c < q * y0 → 0 < q) :
    f_bits_Div64_b6 P T D N xn x2 v2 v8 (U y1) (U y0) (U c) v15 (U r) v17 (U q) h = if 4294967296 ≤ q ∨ 4294967296 * r + c < q * y0 then (if 4294967296 ≤ r + y1 then x2 v2 v8 (U c) v15 v17 (U (q - 1)) h else xn v2 v8 (U y1) (U y0) (U c) v15 (U (r + y1)) v17 (U (q - 1)) h)
      else x2 v2 v8 (U c) v15 v17 (U q) h := by
  have m1 : ∀ kk : AV → Option β, arithK .mul (.s (.int .u64 4294967296)) (U r) kk = kk (U (4294967296 * r)) := fun kk => u_mul 4294967296 r (by omega) kk
  have a1 : ∀ kk : AV → Option β, arithK .add (U (4294967296 * r)) (U c) kk = kk (U (4294967296 * r + c)) := fun kk => u_add _ _ (by omega) kk
  have a2 : ∀ kk : AV → Option β, arithK .add (U r) (U y1) kk = kk (U (r + y1)) := fun kk => u_add _ _ (by omega) kk
  have g1 : ∀ (a b : Nat) (kk : AV → Option β), arithK .geq (U a) (.s (.int .u64 (b : Int))) kk = kk (.s (.bool (decide (b ≤ a)))) := fun a b kk => by rw [arithK_geq, dec_u]
  have g2 : ∀ (a : Nat) (kk : AV → Option β), arithK .geq (U a) (.s (.int .u64 4294967296)) kk = kk (.s (.bool (decide (4294967296 ≤ a)))) := fun a kk => g1 a 4294967296 kk
  have tail : 0 < q → (arithK .sub (U q) (.s (.int .u64 1)) fun x54 => arithK .add (U r) (U y1) fun x55 => arithK .geq x55 (.s (.int .u64 4294967296)) fun x56 => condK x56 (x2 v2 v8 (U c) v15 v17 x54 h) (xn v2 v8 (U y1) (U y0) (U c) v15 x55 v17 x54 h)) =
      if 4294967296 ≤ r + y1 then x2 v2 v8 (U c) v15 v17 (U (q - 1)) h else xn v2 v8 (U y1) (U y0) (U c) v15 (U (r + y1)) v17 (U (q - 1)) h := by
    intro h0
    have s1 : ∀ kk : AV → Option β, arithK .sub (U q) (.s (.int .u64 1)) kk = kk (U (q - 1)) := fun kk => u_sub q 1 h0 (by omega) kk
    rw [s1, a2, g2, condK_bool]
    simp
  unfold f_bits_Div64_b6
  rw [g2]
  by_cases hb : 4294967296 ≤ q
  · rw [decide_eq_true hb, grpK_ft, condK_bool, if_pos rfl, if_pos (.inl hb), tail (by omega)]
  · have hp : q * y0 < 18446744073709551616 := by
      have : q * y0 ≤ 4294967295 * 4294967295 := Nat.mul_le_mul (by omega) (by omega)
      omega
    have m2 : ∀ kk : AV → Option β, arithK .mul (U q) (U y0) kk = kk (U (q * y0)) := fun kk => u_mul _ _ hp kk
    rw [decide_eq_false hb, grpK_ff, m2, m1, a1, arithK_gtr, dec_ul]
    dsimp only
    rw [condK_bool]
    by_cases hl : 4294967296 * r + c < q * y0
    · rw [decide_eq_true hl, if_pos rfl, if_pos (.inr hl), tail (h0 (.inr hl))]
    · rw [decide_eq_false hl, if_neg (by simp), if_neg (by omega)]
/-- What a step of the loops is to a step of the division. -/
theorem digit_step {y1 y0 c x q r : Nat} (hy1 : y1 < 4294967296) (hy1' : 2147483648 ≤ y1) (hy0 : y0 < 4294967296) (hc : c < 4294967296) (hx : x < y1 * 4294967296 + y0) (hxe : x = q * y1 + r) (hQ : (x * 4294967296 + c) / (y1 * 4294967296 + y0) ≤ q) :
    (¬ (4294967296 ≤ q ∨ 4294967296 * r + c < q * y0) → q = (x * 4294967296 + c) / (y1 * 4294967296 + y0)) ∧
    ((4294967296 ≤ q ∨ 4294967296 * r + c < q * y0) → 0 < q ∧ x = (q - 1) * y1 + (r + y1) ∧ (x * 4294967296 + c) / (y1 * 4294967296 + y0) ≤ q - 1 ∧ (4294967296 ≤ r + y1 → q - 1 = (x * 4294967296 + c) / (y1 * 4294967296 + y0))) := by
  have hy : 0 < y1 * 4294967296 + y0 := by omega
  refine ⟨fun hcond => Div.digit_eq (b := 4294967296) hy hxe hQ (by omega), fun hcond => ?_⟩
  have hgt := Div.digit_gt (b := 4294967296) hy hx hc hxe hcond
  have hpos : 0 < q := Nat.lt_of_le_of_lt (Nat.zero_le _) hgt
  have hle1 := Nat.le_sub_one_of_lt hgt
  have hxe' : x = (q - 1) * y1 + (r + y1) := by
    have : q * y1 = (q - 1) * y1 + y1 := by
      conv => lhs; rw [show q = (q - 1) + 1 by omega, Nat.add_mul]
      omega
    omega
  exact ⟨hpos, hxe', hle1, fun hb => Div.digit_big (b := 4294967296) (by omega) hy0 (by omega) hx hxe' hb hle1⟩
theorem L8_val {x0 : AV → AV → AV → AV → AV → AV → AV → AV → Hp → Option β} {v2 v8 v11 v14 : AV} {h : Hp} {y1 y0 c x : Nat} (hy1 : y1 < 4294967296) (hy1' : 2147483648 ≤ y1) (hy0 : y0 < 4294967296) (hc : c < 4294967296) (hx : x < y1 * 4294967296 + y0) :
    ∀ (m q r : Nat), q < 17179869184 → r < 4294967296 → 4294967296 ≤ r + m * 2147483648 → x = q * y1 + r → (x * 4294967296 + c) / (y1 * 4294967296 + y0) ≤ q →
      f_bits_Div64_L8 P T D N x0 (m + 1) v2 v8 (U y1) (U y0) v11 (U c) v14 (U q) (U r) h = x0 v2 v8 (U y1) (U y0) v11 (U c) v14 (U ((x * 4294967296 + c) / (y1 * 4294967296 + y0))) h := by
  intro m
  induction m with
  | zero => intro q r _ hr hm; omega
  | succ m ih =>
    intro q r hq hr hm hxe hQ
    obtain ⟨d1, d2⟩ := digit_step hy1 hy1' hy0 hc hx hxe hQ
    show f_bits_Div64_b8 P T D N (f_bits_Div64_L8 P T D N x0 (m + 1)) x0 v2 v8 (U y1) (U y0) v11 (U c) v14 (U q) (U r) h = _
    rw [b8_step hq hr hy1 hy0 hc (fun hc => (d2 hc).1)]
    split
    · rename_i hcond
      obtain ⟨e1, e2, e3, e4⟩ := d2 hcond
      split
      · rename_i hb
        rw [e4 hb]
      · exact ih (q - 1) (r + y1) (by omega) (by omega) (by omega) e2 e3
    · rename_i hcond
      rw [← d1 hcond]
theorem L6_val {x2 : AV → AV → AV → AV → AV → AV → Hp → Option β} {v2 v8 v15 v17 : AV} {h : Hp} {y1 y0 c x : Nat} (hy1 : y1 < 4294967296) (hy1' : 2147483648 ≤ y1) (hy0 : y0 < 4294967296) (hc : c < 4294967296) (hx : x < y1 * 4294967296 + y0) :
    ∀ (m q r : Nat), q < 17179869184 → r < 4294967296 → 4294967296 ≤ r + m * 2147483648 → x = q * y1 + r → (x * 4294967296 + c) / (y1 * 4294967296 + y0) ≤ q →
      f_bits_Div64_L6 P T D N x2 (m + 1) v2 v8 (U y1) (U y0) (U c) v15 (U r) v17 (U q) h = x2 v2 v8 (U c) v15 v17 (U ((x * 4294967296 + c) / (y1 * 4294967296 + y0))) h := by
  intro m
  induction m with
  | zero => intro q r _ hr hm; omega
  | succ m ih =>
    intro q r hq hr hm hxe hQ
    obtain ⟨d1, d2⟩ := digit_step hy1 hy1' hy0 hc hx hxe hQ
    show f_bits_Div64_b6 P T D N (f_bits_Div64_L6 P T D N x2 (m + 1)) x2 v2 v8 (U y1) (U y0) (U c) v15 (U r) v17 (U q) h = _
    rw [b6_step hq hr hy1 hy0 hc (fun hc => (d2 hc).1)]
    split
    · rename_i hcond
      obtain ⟨e1, e2, e3, e4⟩ := d2 hcond
      split
      · rename_i hb
        rw [e4 hb]
      · exact ih (q - 1) (r + y1) (by omega) (by omega) (by omega) e2 e3
    · rename_i hcond
      rw [← d1 hcond]
/-! ### The length of a number -/
def tab8 : List UInt8 := ([0, 1] ++ List.replicate 2 2 ++ List.replicate 4 3 ++ List.replicate 8 4 ++ List.replicate 16 5 ++ List.replicate 32 6 ++ List.replicate 64 7 ++ List.replicate 128 8)
theorem tab8_get : ∀ y : Fin 256, 0 < y.val → ∃ l : Fin 9, (ByteArray.mk tab8.toArray)[y.val]? = some (UInt8.ofNat l.val) ∧ 2 ^ (l.val - 1) ≤ y.val ∧ y.val < 2 ^ l.val ∧ 0 < l.val := by decide +kernel
variable {K : AV → Hp → Option β}
theorem len_j3 {h : Hp} {y z : Nat} (hy : 0 < y) (hy' : y < 256) (hz' : z ≤ 56) :
    ∃ l : Nat, f_bits_Len64_j3 Try.prog T D N K (U y) (I z) h = K (I ((z + l : Nat) : Int)) h ∧ 2 ^ (l - 1) ≤ y ∧ y < 2 ^ l ∧ 0 < l ∧ l ≤ 8 := by
  obtain ⟨l, h1, h3, h4, h5⟩ := tab8_get ⟨y, hy'⟩ hy
  refine ⟨l.val, ?_, h3, h4, h5, by omega⟩
  unfold f_bits_Len64_j3
  simp only [U]
  rw [convK_int un_80 un_5]
  have hw : IntKind.u8.wrap (y : Int) = (y : Int) := by rw [IntKind.wrap_u8]; omega
  rw [hw]
  have hch : ∀ (k : AV → Option β), chK (.s (.string (ByteArray.mk tab8.toArray))) (.s (.int .u8 (y : Int))) k = k (.s (.int .u8 (l.val : Int))) := by
    intro k
    have h6 : (UInt8.ofNat l.val).toNat = l.val := by
      have := l.isLt
      simp
      omega
    simp only [chK, Int.toNat_natCast, h1, h6]
    rw [if_pos (by omega)]
  refine (hch _).trans ?_
  have hl := l.isLt
  rw [convK_int un_5 un_3, wrap64 (by omega) (by omega), arithK_add, wrap64 (by omega) (by omega)]
  congr 2
theorem up8 (y l s : Nat) (h0 : 0 < y / 2 ^ s) (h1 : 2 ^ (l - 1) ≤ y / 2 ^ s) (h2 : y / 2 ^ s < 2 ^ l) (h3 : 0 < l) : 2 ^ (s + l - 1) ≤ y ∧ y < 2 ^ (s + l) := by
  have hp : 0 < 2 ^ s := Nat.two_pow_pos s
  constructor
  · rw [show s + l - 1 = (l - 1) + s by omega, Nat.pow_add]
    exact (Nat.le_div_iff_mul_le hp).1 h1
  · rw [Nat.add_comm, Nat.pow_add]
    exact (Nat.div_lt_iff_lt_mul hp).1 h2
theorem len_j2 {h : Hp} {y z : Nat} (hy : 0 < y) (hy' : y < 65536) (hz : z ≤ 48) :
    ∃ l : Nat, f_bits_Len64_j2 Try.prog T D N K (U y) (I z) h = K (I ((z + l : Nat) : Int)) h ∧ 2 ^ (l - 1) ≤ y ∧ y < 2 ^ l ∧ 0 < l ∧ l ≤ 16 := by
  unfold f_bits_Len64_j2
  rw [arithK_geq, condK_bool]
  by_cases hb : 256 ≤ y
  · have hd : decide ((256 : Int) ≤ ((y : Nat) : Int)) = true := decide_eq_true (by omega)
    have hs : ∀ k : AV → Option β, reckK Try.prog .shr 80 (U y) (.s (.int .u64 8)) k = k (U (y / 2 ^ 8)) := fun k => reck_shr y 8 (by omega) k
    rw [hd, if_pos rfl, hs, arithK_add, wrap64 (by omega) (by omega)]
    obtain ⟨l, g1, g2, g3, g4, g5⟩ := len_j3 (T := T) (D := D) (N := N) (K := K) (h := h) (y := y / 2 ^ 8) (z := z + 8) (by omega) (by omega) (by omega)
    obtain ⟨u1, u2⟩ := up8 y l 8 (by omega) g2 g3 g4
    exact ⟨8 + l, by rw [show z + (8 + l) = z + 8 + l by omega, ← g1]; congr 4, u1, u2, by omega, by omega⟩
  · have hd : decide ((256 : Int) ≤ ((y : Nat) : Int)) = false := decide_eq_false (by omega)
    rw [hd, if_neg (by simp)]
    obtain ⟨l, g1, g2, g3, g4, g5⟩ := len_j3 (T := T) (D := D) (N := N) (K := K) (h := h) (y := y) (z := z) hy (by omega) (by omega)
    exact ⟨l, g1, g2, g3, g4, by omega⟩
theorem len_j1 {h : Hp} {y z : Nat} (hy : 0 < y) (hy' : y < 4294967296) (hz : z ≤ 32) :
    ∃ l : Nat, f_bits_Len64_j1 Try.prog T D N K (U y) (I z) h = K (I ((z + l : Nat) : Int)) h ∧ 2 ^ (l - 1) ≤ y ∧ y < 2 ^ l ∧ 0 < l ∧ l ≤ 32 := by
  unfold f_bits_Len64_j1
  rw [arithK_geq, condK_bool]
  by_cases hb : 65536 ≤ y
  · have hd : decide ((65536 : Int) ≤ ((y : Nat) : Int)) = true := decide_eq_true (by omega)
    have hs : ∀ k : AV → Option β, reckK Try.prog .shr 80 (U y) (.s (.int .u64 16)) k = k (U (y / 2 ^ 16)) := fun k => reck_shr y 16 (by omega) k
    rw [hd, if_pos rfl, hs, arithK_add, wrap64 (by omega) (by omega)]
    obtain ⟨l, g1, g2, g3, g4, g5⟩ := len_j2 (T := T) (D := D) (N := N) (K := K) (h := h) (y := y / 2 ^ 16) (z := z + 16) (by omega) (by omega) (by omega)
    obtain ⟨u1, u2⟩ := up8 y l 16 (by omega) g2 g3 g4
    exact ⟨16 + l, by rw [show z + (16 + l) = z + 16 + l by omega, ← g1]; congr 4, u1, u2, by omega, by omega⟩
  · have hd : decide ((65536 : Int) ≤ ((y : Nat) : Int)) = false := decide_eq_false (by omega)
    rw [hd, if_neg (by simp)]
    obtain ⟨l, g1, g2, g3, g4, g5⟩ := len_j2 (T := T) (D := D) (N := N) (K := K) (h := h) (y := y) (z := z) hy (by omega) (by omega)
    exact ⟨l, g1, g2, g3, g4, by omega⟩
theorem len_run {y : Nat} (hy : 0 < y) (hy' : y < 18446744073709551616) (h : Hp) : ∃ l : Nat, f_bits_Len64 Try.prog T D N K (U y) h = K (I l) h ∧ 2 ^ (l - 1) ≤ y ∧ y < 2 ^ l ∧ 0 < l ∧ l ≤ 64 := by
  unfold f_bits_Len64
  rw [arithK_geq, condK_bool]
  by_cases hb : 4294967296 ≤ y
  · have hd : decide ((4294967296 : Int) ≤ ((y : Nat) : Int)) = true := decide_eq_true (by omega)
    rw [hd, if_pos rfl, reck_shr32]
    obtain ⟨l, g1, g2, g3, g4, g5⟩ := len_j1 (T := T) (D := D) (N := N) (K := K) (h := h) (y := y / 4294967296) (z := 32) (by omega) (by omega) (by omega)
    obtain ⟨u1, u2⟩ := up8 y l 32 (by omega) g2 g3 g4
    exact ⟨32 + l, g1, u1, u2, by omega, by omega⟩
  · have hd : decide ((4294967296 : Int) ≤ ((y : Nat) : Int)) = false := decide_eq_false (by omega)
    rw [hd, if_neg (by simp)]
    obtain ⟨l, g1, g2, g3, g4, g5⟩ := len_j1 (T := T) (D := D) (N := N) (K := K) (h := h) (y := y) (z := 0) hy (by omega) (by omega)
    rw [Nat.zero_add] at g1
    exact ⟨l, g1, g2, g3, g4, by omega⟩
theorem F_bits_LeadingZeros64_val {y : Nat} (hy : 0 < y) (hy' : y < 18446744073709551616) (h : Hp) : ∃ s : Nat, F_bits_LeadingZeros64 [U y] h = some (I s, h) ∧ s ≤ 63 ∧ 9223372036854775808 ≤ y * 2 ^ s ∧ y * 2 ^ s < 18446744073709551616 := by
  obtain ⟨l, g1, g2, g3, g4, g5⟩ := len_run (T := t_bits_Len64) (D := d_bits_Len64) (N := NN) (K := fun v g => cvt false g v) hy hy' []
  have e59 : ∀ h, F_bits_Len64 [U y] h = some (I l, h) := F_bits_Len64_run rfl g1
  refine ⟨64 - l, F_bits_LeadingZeros64_run (v := I ((64 - l : Nat) : Int)) rfl ?_ h, by omega, ?_, ?_⟩
  · simp only [f_bits_LeadingZeros64, t_bits_LeadingZeros64_78, callK_F, e59, arithK_sub]
    rw [wrap64 (by omega) (by omega)]
    show some (I _) = some (I _)
    congr 3
    omega
  · have : 2 ^ (l - 1) * 2 ^ (64 - l) ≤ y * 2 ^ (64 - l) := Nat.mul_le_mul_right _ g2
    rw [← Nat.pow_add, show l - 1 + (64 - l) = 63 by omega] at this
    exact this
  · have : y * 2 ^ (64 - l) < 2 ^ l * 2 ^ (64 - l) := Nat.mul_lt_mul_of_pos_right g3 (Nat.two_pow_pos _)
    rw [← Nat.pow_add, show l + (64 - l) = 64 by omega] at this
    exact this
/-! ### The division -/
theorem div_j4 {h : Hp} {q1 q0 u c0 y s : Nat} (hq1 : q1 < 4294967296) (hq0 : q0 = (u * 4294967296 + c0) / y) (hq0' : q0 < 4294967296)
    (hy : 0 < y) (hy' : y < 18446744073709551616) (hs : s ≤ 64) : f_bits_Div64_j4 Try.prog T D N K (U y) (U s) (U c0) (U q1) (U u) (U q0) h = K (.tup [U (q1 * 4294967296 + q0), U ((u * 4294967296 + c0) % y / 2 ^ s)]) h := by
  have m1 : ∀ k : AV → Option β, arithK .mul (U q1) (.s (.int .u64 4294967296)) k = k (U (q1 * 4294967296)) := fun k => u_mul q1 4294967296 (by omega) k
  have a1 : ∀ k : AV → Option β, arithK .add (U (q1 * 4294967296)) (U q0) k = k (U (q1 * 4294967296 + q0)) := fun k => u_add _ _ (by omega) k
  have m2 : ∀ k : AV → Option β, arithK .mul (U u) (.s (.int .u64 4294967296)) k = k (U (u * 4294967296 % 18446744073709551616)) := fun k => u_mulM u 4294967296 k
  have hd := Nat.div_add_mod (u * 4294967296 + c0) y
  rw [← hq0] at hd
  have hr := Nat.mod_lt (u * 4294967296 + c0) hy
  generalize hX : (u * 4294967296 + c0) % y = R at hd hr ⊢
  have a2 : ∀ k : AV → Option β, arithK .add (U (u * 4294967296 % 18446744073709551616)) (U c0) k = k (U ((u * 4294967296 + c0) % 18446744073709551616)) := fun k => u_addM _ _ _ (by omega) (by omega) k
  have m3 : ∀ k : AV → Option β, arithK .mul (U q0) (U y) k = k (U (q0 * y % 18446744073709551616)) := fun k => u_mulM q0 y k
  rw [Nat.mul_comm y q0] at hd
  have s1 : ∀ k : AV → Option β, arithK .sub (U ((u * 4294967296 + c0) % 18446744073709551616)) (U (q0 * y % 18446744073709551616)) k = k (U R) := fun k => u_subM _ _ _ (by omega) (by omega) k
  unfold f_bits_Div64_j4
  rw [m1, a1, m2, a2, m3, s1, reck_shr _ _ hs]
theorem div_j3 {h : Hp} {q1 x y1 y0 c1 c0 y s : Nat} (hN : ∃ m, N = m + 3) (hye : y = y1 * 4294967296 + y0) (hy1 : y1 < 4294967296) (hy1' : 2147483648 ≤ y1) (hy0 : y0 < 4294967296) (hc1 : c1 < 4294967296) (hc0 : c0 < 4294967296) (hx : x < y) (hq : q1 = (x * 4294967296 + c1) / y) (hs : s ≤ 64) :
    f_bits_Div64_j3 Try.prog T D N K (U y) (U s) (U y1) (U y0) (U x) (U c1) (U c0) (U q1) h = K (.tup [U ((x * (4294967296 * 4294967296) + c1 * 4294967296 + c0) / y), U ((x * (4294967296 * 4294967296) + c1 * 4294967296 + c0) % y / 2 ^ s)]) h := by
  have hyp : 0 < y := by omega
  have hyl : y < 18446744073709551616 := by omega
  have hq1 : q1 < 4294967296 := by rw [hq]; exact Div.lt_base hc1 hx
  have m2 : ∀ k : AV → Option β, arithK .mul (U x) (.s (.int .u64 4294967296)) k = k (U (x * 4294967296 % 18446744073709551616)) := fun k => u_mulM x 4294967296 k
  have hd := Nat.div_add_mod (x * 4294967296 + c1) y
  rw [← hq] at hd
  have hr := Nat.mod_lt (x * 4294967296 + c1) hyp
  have two := Div.two_digits (b := 4294967296) (c1 := c1) (c0 := c0) (by omega) hc1 hc0 hyp hx
  rw [← hq] at two
  obtain ⟨w, hX⟩ : ∃ w, w = (x * 4294967296 + c1) % y := ⟨_, rfl⟩
  rw [← hX] at hd hr two
  have a2 : ∀ k : AV → Option β, arithK .add (U (x * 4294967296 % 18446744073709551616)) (U c1) k = k (U ((x * 4294967296 + c1) % 18446744073709551616)) := fun k => u_addM _ _ _ (by omega) (by omega) k
  have m3 : ∀ k : AV → Option β, arithK .mul (U q1) (U y) k = k (U (q1 * y % 18446744073709551616)) := fun k => u_mulM q1 y k
  rw [Nat.mul_comm y q1] at hd
  have s1 : ∀ k : AV → Option β, arithK .sub (U ((x * 4294967296 + c1) % 18446744073709551616)) (U (q1 * y % 18446744073709551616)) k = k (U w) := fun k => u_subM _ _ _ (by omega) (by omega) k
  have hdm := Nat.div_add_mod w y1
  have hrm := Nat.mod_lt w (show 0 < y1 by omega)
  have hqle : w / y1 < 17179869184 := by
    rw [Nat.div_lt_iff_lt_mul (by omega)]
    omega
  have hsl : (w * 4294967296 + c0) / (y1 * 4294967296 + y0) ≤ w / y1 := Div.start_le (by omega) (by omega) hc0
  generalize hQ : w / y1 = q0 at hdm hqle hsl
  generalize hR : w % y1 = r at hdm hrm
  rw [Nat.mul_comm y1 q0] at hdm
  have m4 : ∀ k : AV → Option β, arithK .mul (U q0) (U y1) k = k (U (q0 * y1)) := fun k => u_mul _ _ (by omega) k
  have s2 : ∀ k : AV → Option β, arithK .sub (U w) (U (q0 * y1)) k = k (U r) := fun k => by
    rw [u_sub _ _ (by omega) (by omega)]; congr 3; omega
  unfold f_bits_Div64_j3
  rw [m2, a2, m3, s1, reck_quo _ _ (by omega) (by omega), hQ, m4, s2]
  obtain ⟨m, rfl⟩ := hN
  rw [L6_val (x := w) hy1 hy1' hy0 hc0 (by omega) (m + 2) q0 r hqle (by omega) (by omega) (by omega) hsl]
  have hq0b : (w * 4294967296 + c0) / y < 4294967296 := Div.lt_base hc0 hr
  rw [← hye]
  have g := div_j4 (T := T) (D := D) (N := m + 3) (K := K) (h := h) (q1 := q1) (q0 := (w * 4294967296 + c0) / y) (u := w) (c0 := c0) (y := y) (s := s) hq1 rfl hq0b hyp hyl hs
  rw [← two.1, ← two.2]
  exact g
theorem eqK_u (a b : Nat) (h : Hp) (ty : TypeId) (k : Go.AM.K β) : eqK P false ty (U a) (U b) h k = k (.s (.bool (decide (a = b)))) := by
  rw [eqK_int]
  congr 3
  simp
  by_cases hab : a = b
  · subst hab; simp
  · have : ¬ ((a : Int) = (b : Int)) := by omega
    simp [hab, this]
theorem lo_split (lo s : Nat) (hs : s ≤ 64) (hlo : lo < 18446744073709551616) : lo / 2 ^ (64 - s) < 2 ^ s ∧ lo * 2 ^ s = lo / 2 ^ (64 - s) * 18446744073709551616 + lo * 2 ^ s % 18446744073709551616 := by
  have e64 : (18446744073709551616 : Nat) = 2 ^ (64 - s) * 2 ^ s := by rw [← Nat.pow_add, show 64 - s + s = 64 by omega]
  constructor
  · rw [Nat.div_lt_iff_lt_mul (Nat.two_pow_pos _), Nat.mul_comm, ← e64]; exact hlo
  · have h1 : lo * 2 ^ s / 18446744073709551616 = lo / 2 ^ (64 - s) := by
      rw [e64, Nat.mul_div_mul_right _ _ (Nat.two_pow_pos s)]
    have h2 := Nat.div_add_mod (lo * 2 ^ s) 18446744073709551616
    rw [h1, Nat.mul_comm] at h2
    exact h2.symm
theorem div_j2 {h : Hp} {hi lo y : Nat} (hT : T 75 = some F_bits_LeadingZeros64) (hN : ∃ m, N = m + 3) (hhi : hi < y) (hlo : lo < 18446744073709551616) (hy : y < 18446744073709551616) :
    f_bits_Div64_j2 Try.prog T D N K (U hi) (U lo) (U y) h = K (.tup [U ((hi * 18446744073709551616 + lo) / y), U ((hi * 18446744073709551616 + lo) % y)]) h := by
  unfold f_bits_Div64_j2
  have e0 : ∀ k : AV → Option β, eqK Try.prog false 80 (U hi) (.s (.int .u64 0)) h k = k (.s (.bool (decide (hi = 0)))) := fun k => eqK_u hi 0 h _ k
  rw [e0, condK_bool]
  by_cases hz : hi = 0
  · subst hz
    rw [decide_eq_true rfl, if_pos rfl, reck_quo _ _ (by omega) hlo, reck_rem _ _ (by omega)]
    simp
  · rw [decide_eq_false hz, if_neg (by simp)]
    obtain ⟨s, g1, g2, g3, g4⟩ := F_bits_LeadingZeros64_val (y := y) (by omega) hy h
    rw [callK_some hT g1]
    simp only [I]
    rw [cv_3_94]
    have hw : IntKind.u64.wrap (s : Int) = (s : Int) := wrapU (by omega) (by omega)
    rw [hw]
    obtain ⟨Y, hY⟩ : ∃ Y, Y = y * 2 ^ s := ⟨_, rfl⟩
    rw [← hY] at g3 g4
    have ySh : ∀ k : AV → Option β, reckK Try.prog .shl 80 (U y) (U s) k = k (U Y) := fun k => by
      rw [reck_shl _ _ (by omega), ← hY, Nat.mod_eq_of_lt g4]
    rw [ySh, reck_shr32, reck_mask _ g4]
    have hp : 0 < 2 ^ s := Nat.two_pow_pos s
    obtain ⟨hl1, hl2⟩ := lo_split lo s (by omega) hlo
    obtain ⟨H, hH⟩ : ∃ H, H = hi * 2 ^ s := ⟨_, rfl⟩
    obtain ⟨L, hL⟩ : ∃ L, L = lo / 2 ^ (64 - s) := ⟨_, rfl⟩
    obtain ⟨M, hM⟩ : ∃ M, M = lo * 2 ^ s % 18446744073709551616 := ⟨_, rfl⟩
    rw [← hL] at hl1
    rw [← hL, ← hM] at hl2
    have hMl : M < 18446744073709551616 := by rw [hM]; exact Nat.mod_lt _ (by decide)
    -- the shifted number, and its digits
    have hbig : (H + L) * 18446744073709551616 + M = (hi * 18446744073709551616 + lo) * 2 ^ s := by
      rw [Nat.add_mul, Nat.add_mul, hl2, hH, Nat.mul_right_comm]
      omega
    have hlt : (hi * 18446744073709551616 + lo) * 2 ^ s < y * 18446744073709551616 * 2 ^ s := Nat.mul_lt_mul_of_pos_right (by omega) hp
    have hx : H + L < Y := by
      rw [← hbig, Nat.mul_right_comm, ← hY] at hlt
      omega
    have hHl : H < 18446744073709551616 := by omega
    have hSh : ∀ k : AV → Option β, reckK Try.prog .shl 80 (U hi) (U s) k = k (U H) := fun k => by
      rw [reck_shl _ _ (by omega), ← hH, Nat.mod_eq_of_lt hHl]
    have s64 : ∀ k : AV → Option β, arithK .sub (.s (.int .u64 64)) (U s) k = k (U (64 - s)) := fun k => u_sub 64 s (by omega) (by omega) k
    have hor : H ||| L = H + L := by
      rw [hH, Nat.mul_comm]
      exact (Nat.two_pow_add_eq_or_of_lt hl1 hi).symm
    have lSh : ∀ k : AV → Option β, reckK Try.prog .shl 80 (U lo) (U s) k = k (U M) := fun k => by rw [reck_shl _ _ (by omega), ← hM]
    rw [hSh, s64, reck_shr _ _ (by omega), ← hL, reck_or _ _ hHl (by omega), hor, lSh, reck_shr32, reck_mask _ hMl]
    obtain ⟨x, hxe⟩ : ∃ x, x = H + L := ⟨_, rfl⟩
    rw [← hxe] at hx hbig ⊢
    obtain ⟨y1, hy1⟩ : ∃ y1, y1 = Y / 4294967296 := ⟨_, rfl⟩
    obtain ⟨y0, hy0⟩ : ∃ y0, y0 = Y % 4294967296 := ⟨_, rfl⟩
    obtain ⟨c1, hc1⟩ : ∃ c1, c1 = M / 4294967296 := ⟨_, rfl⟩
    obtain ⟨c0, hc0⟩ : ∃ c0, c0 = M % 4294967296 := ⟨_, rfl⟩
    rw [← hy1, ← hy0, ← hc1, ← hc0]
    have hye : Y = y1 * 4294967296 + y0 := by omega
    have b1 : y1 < 4294967296 := by omega
    have b2 : 2147483648 ≤ y1 := by omega
    have b3 : y0 < 4294967296 := by omega
    have b4 : c1 < 4294967296 := by omega
    have b5 : c0 < 4294967296 := by omega
    have hdm := Nat.div_add_mod x y1
    have hrm := Nat.mod_lt x (show 0 < y1 by omega)
    have hqle : x / y1 < 17179869184 := by
      rw [Nat.div_lt_iff_lt_mul (by omega)]
      omega
    have hsl : (x * 4294967296 + c1) / (y1 * 4294967296 + y0) ≤ x / y1 := Div.start_le (by omega) (by omega) b4
    obtain ⟨q, hq⟩ : ∃ q, q = x / y1 := ⟨_, rfl⟩
    obtain ⟨r, hr⟩ : ∃ r, r = x % y1 := ⟨_, rfl⟩
    rw [← hq] at hdm hqle hsl
    rw [← hr] at hdm hrm
    rw [Nat.mul_comm y1 q] at hdm
    have m4 : ∀ k : AV → Option β, arithK .mul (U q) (U y1) k = k (U (q * y1)) := fun k => u_mul _ _ (by omega) k
    have s2 : ∀ k : AV → Option β, arithK .sub (U x) (U (q * y1)) k = k (U r) := fun k => by
      rw [u_sub _ _ (by omega) (by omega)]; congr 3; omega
    rw [reck_quo _ _ (by omega) (by omega), ← hq, m4, s2]
    obtain ⟨m, rfl⟩ := hN
    rw [L8_val (x := x) b1 b2 b3 b4 (by omega) (m + 2) q r hqle (by omega) (by omega) (by omega) hsl]
    rw [← hye]
    have g := div_j3 (T := T) (D := D) (N := m + 3) (K := K) (h := h) (q1 := (x * 4294967296 + c1) / Y) (x := x) (y1 := y1) (y0 := y0) (c1 := c1) (c0 := c0) (y := Y) (s := s) ⟨m, rfl⟩
      hye b1 b2 b3 b4 b5 hx rfl (by omega)
    have hdig : x * (4294967296 * 4294967296) + c1 * 4294967296 + c0 = (hi * 18446744073709551616 + lo) * 2 ^ s := by
      have hM2 : M = c1 * 4294967296 + c0 := by omega
      refine Eq.trans ?_ hbig
      rw [hM2, show (4294967296 * 4294967296 : Nat) = 18446744073709551616 from by decide, Nat.add_assoc]
    rw [hdig, hY, (Div.scaled hp).1, (Div.scaled hp).2, Nat.mul_div_cancel _ hp] at g
    rw [← hY] at g
    exact g
theorem NN_3 : ∃ m, NN = m + 3 := ⟨NN - 3, (Nat.sub_add_cancel (show 3 ≤ NN by have := NN_ge; omega)).symm⟩
theorem F_bits_Div64_val {hi lo y : Nat} (hhi : hi < y) (hlo : lo < 18446744073709551616) (hy : y < 18446744073709551616) (h : Hp) :
    F_bits_Div64 [U hi, U lo, U y] h = some (.tup [U ((hi * 18446744073709551616 + lo) / y), U ((hi * 18446744073709551616 + lo) % y)], h) := by
  refine F_bits_Div64_run (v := .tup [U ((hi * 18446744073709551616 + lo) / y), U ((hi * 18446744073709551616 + lo) % y)]) rfl ?_ h
  unfold f_bits_Div64
  have e0 : ∀ k : AV → Option AV, eqK Try.prog false 80 (U y) (.s (.int .u64 0)) [] k = k (.s (.bool (decide (y = 0)))) := fun k => eqK_u y 0 [] _ k
  rw [e0, condK_bool, decide_eq_false (by omega), if_neg (by simp)]
  unfold f_bits_Div64_j1
  have e1 : ∀ k : AV → Option AV, arithK .leq (U y) (U hi) k = k (.s (.bool false)) := fun k => by
    rw [arithK_leq, decide_eq_false (by omega)]
  rw [e1, condK_bool, if_neg (by simp)]
  exact div_j2 t_bits_Div64_75 NN_3 hhi hlo hy
theorem F_bits_Mul64_val {x y : Nat} (hx : x < 18446744073709551616) (hy : y < 18446744073709551616) (h : Hp) : F_bits_Mul64 [U x, U y] h = some (.tup [U (x * y / 18446744073709551616), U (x * y % 18446744073709551616)], h) := by
  refine F_bits_Mul64_run (v := .tup [U (x * y / 18446744073709551616), U (x * y % 18446744073709551616)]) rfl ?_ h
  obtain ⟨b1, b2, b3, b4⟩ := Lib.mul64_hi x y hx hy
  have ba := Lib.half_mul_le (a := x / 4294967296) (b := y / 4294967296) (by omega) (by omega)
  have bb := Lib.half_mul_le (a := x / 4294967296) (b := y % 4294967296) (by omega) (by omega)
  have bc := Lib.half_mul_le (a := x % 4294967296) (b := y / 4294967296) (by omega) (by omega)
  unfold f_bits_Mul64
  rw [reck_mask _ hx, reck_shr32, reck_mask _ hy, reck_shr32, u_mul _ _ b1, u_mul _ _ (by omega), reck_shr32, u_add _ _ b2, reck_mask _ b2, reck_shr32, u_mul _ _ (by omega), u_add _ _ b3, u_mul _ _ (by omega), u_add _ _ (by omega), reck_shr32, u_add _ _ (by omega), u_mulM]
  show some (AV.tup _) = _
  rw [b4]
end
end Go.AM

/- Proportions: the product of two amounts, divided by a third one. -/
namespace Go.AM
open Go.Proofs
set_option linter.unusedVariables false
set_option linter.unusedSimpArgs false
set_option linter.constructorNameAsVariable false
set_option maxRecDepth 20000
section
variable {β : Type} {P : Program} {T : Tab} {D : DTab} {N : Nat} {K : AV → Hp → Option β}
abbrev encI (n : Int) : List AV := [I n]
theorem IndexFunc_int_L2 {x0 : Hp → Option β} {xr : AV → Hp → Option β} {l : List Int} {b : Bool} {fv : AV} {h : Hp} {p : Int → Bool} (hl : l.length < 4611686018427387904) (hp : ∀ x ∈ l, ∀ k : AV → Hp → Option β, callVK T fv [I x] h k = k (B (p x)) h) :
    ∀ (n i : Nat), i ≤ l.length → l.length < i + n → f_slices_IndexFunc_int_L2 P T D N x0 xr n (.lst 1 b (l.map encI)) fv (I l.length) (I i) h = match (l.drop i).findIdx? p with | some j => xr (I ((i + j : Nat) : Int)) h | none => x0 h := by
  intro n
  induction n with
  | zero => intro i h1 h2; omega
  | succ n ih =>
    intro i h1 h2
    show f_slices_IndexFunc_int_b2 P T D N (f_slices_IndexFunc_int_L2 P T D N x0 xr n) x0 xr _ _ _ _ h = _
    unfold f_slices_IndexFunc_int_b2
    rcases Nat.lt_or_ge i l.length with hi | hi
    · have hx : l[i]? = some l[i] := List.getElem?_eq_getElem hi
      have hlt : ((i : Int) < (l.length : Int)) := by omega
      have hw : IntKind.i64.wrap ((i : Int) + 1) = ((i + 1 : Nat) : Int) := by rw [wrap64 (by omega) (by omega)]; omega
      have hpx := hp l[i] (List.getElem_mem hi)
      rw [List.drop_eq_getElem_cons hi, List.findIdx?_cons]
      simp [hlt, hx, hw, encI] at hpx ⊢
      rw [hpx]
      cases hc : p l[i] with
      | true => simp
      | false =>
        have h3 := ih (i + 1) hi (by omega)
        rw [show ((i : Int) + 1) = ((i + 1 : Nat) : Int) by omega]
        simp only [Bool.false_eq_true, if_false]
        refine h3.trans ?_
        cases (List.drop (i + 1) l).findIdx? p with
        | none => rfl
        | some j =>
          show xr (I ((i + 1 + j : Nat) : Int)) h = xr (I ((i + (j + 1) : Nat) : Int)) h
          rw [show i + 1 + j = i + (j + 1) by omega]
    · have : i = l.length := by omega
      subst this
      simp
theorem IndexFunc_int_K {l : List Int} {b : Bool} {fv : AV} {h : Hp} {p : Int → Bool} {K : AV → Hp → Option β} (hl : l.length < N) (hN : N < 4611686018427387904) (hp : ∀ x ∈ l, ∀ k : AV → Hp → Option β, callVK T fv [I x] h k = k (B (p x)) h) :
    f_slices_IndexFunc_int P T D N K (.lst 1 b (l.map encI)) fv h = K (I (match l.findIdx? p with | some j => (j : Int) | none => -1)) h := by
  unfold f_slices_IndexFunc_int
  simp only [lenK_lst, List.length_map]
  have := IndexFunc_int_L2 (P := P) (D := D) (N := N) (b := b) (x0 := fun h => f_slices_IndexFunc_int_j1 P T D N K h) (xr := fun a h => K a h) (by omega) hp N 0 (Nat.zero_le _) (by omega)
  simp only [List.drop_zero] at this
  refine this.trans ?_
  cases l.findIdx? p with
  | none => rfl
  | some j => simp
def amt (n : Int) : Bool := decide (0 ≤ n) && decide (n ≤ 128849018880000)
theorem F_proportion_amount_val (a : Int) (h : Hp) : F_proportion_amount [I a] h = some (B (amt a), h) := F_proportion_amount_run rfl (by simp [f_proportion_amount, amt]) h
theorem F_proportion_amounts_1_val (a : Int) (h : Hp) : F_proportion_amounts_1 [I a] h = some (B (!amt a), h) := F_proportion_amounts_1_run rfl (by simp [f_proportion_amounts_1, F_proportion_amount_val]) h
theorem F_ContainsFunc_amounts (l : List Int) (hl : l.length < 1000) (b : Bool) (h : Hp) : F_slices_ContainsFunc_int__proportion_amounts_1 [.lst 1 b (l.map encI), .fn 61 []] h = some (B (l.any fun n => !amt n), h) := by
  have e : ∀ h, F_slices_IndexFunc_int__proportion_amounts_1 [.lst 1 b (l.map encI), .fn 61 []] h = some (I (match l.findIdx? (fun n => !amt n) with | some j => (j : Int) | none => -1), h) :=
    F_slices_IndexFunc_int__proportion_amounts_1_run rfl (by
      simp only [nrm, nrmC]
      rw [IndexFunc_int_K (p := fun n => !amt n) (by have := NN_ge; omega) NN_lt (fun x _ k => by simp [F_proportion_amounts_1_val])]
      rfl)
  refine F_slices_ContainsFunc_int__proportion_amounts_1_run rfl ?_ h
  simp only [nrm, nrmC, f_slices_ContainsFunc_int, t_slices_ContainsFunc_int__proportion_amounts_1_73, callK_F, e]
  have : (l.any fun n => !amt n) = (l.findIdx? (fun n => !amt n)).isSome := by rw [List.findIdx?_isSome]
  rw [this]
  cases l.findIdx? (fun n => !amt n) <;> simp
theorem F_proportion_amounts_val (l : List Int) (hl : l.length < 1000) (b : Bool) (h : Hp) : F_proportion_amounts [.lst 1 b (l.map encI)] h = some (B (l.all amt), h) := by
  refine F_proportion_amounts_run rfl ?_ h
  simp [f_proportion_amounts, F_ContainsFunc_amounts l hl, List.all_eq_not_any_not]
theorem F_proportion_product_val {a b : Nat} (ha : a < 9223372036854775808) (hb : b < 9223372036854775808) (h : Hp) : F_proportion_product [I a, I b] h = some (.agg [U (a * b / 18446744073709551616), U (a * b % 18446744073709551616)], h) := by
  have e54 : ∀ hh, F_bits_Mul64 [U a, U b] hh = some (.tup [U (a * b / 18446744073709551616), U (a * b % 18446744073709551616)], hh) := fun hh => F_bits_Mul64_val (by omega) (by omega) hh
  generalize a * b / 18446744073709551616 = p at *
  generalize a * b % 18446744073709551616 = q at *
  refine F_proportion_product_run rfl ?_ h
  simp [f_proportion_product, wrapU (show (0 : Int) ≤ (a : Int) by omega) (by omega), wrapU (show (0 : Int) ≤ (b : Int) by omega) (by omega), e54, buildK, fillA]
theorem F_proportion_divided_val {a b c : Nat} (ha : a < 9223372036854775808) (hb : b < 9223372036854775808) (hc : c < 9223372036854775808) (hc0 : 0 < c) (h : Hp) :
    F_proportion_divided [I a, I b, I c] h = some (if a * b / c ≤ 128849018880000 then .tup [I ((a * b / c : Nat) : Int), I ((a * b % c : Nat) : Int), B true] else .tup [I 0, I 0, B false], h) := by
  obtain ⟨p, hp⟩ : ∃ p, p = a * b / 18446744073709551616 := ⟨_, rfl⟩
  obtain ⟨q, hq⟩ : ∃ q, q = a * b % 18446744073709551616 := ⟨_, rfl⟩
  have e44 := fun hh => F_proportion_product_val ha hb hh
  rw [← hp, ← hq] at e44
  have hql : q < 18446744073709551616 := by omega
  have hab : p * 18446744073709551616 + q = a * b := by omega
  have wc : IntKind.u64.wrap (c : Int) = (c : Int) := wrapU (by omega) (by omega)
  refine F_proportion_divided_run rfl ?_ h
  by_cases hpc : c ≤ p
  · have hbig : ¬ a * b / c ≤ 128849018880000 := by
      have h1 : 18446744073709551616 ≤ a * b / c := by
        rw [Nat.le_div_iff_mul_le hc0]
        have : 18446744073709551616 * c ≤ p * 18446744073709551616 := by rw [Nat.mul_comm]; exact Nat.mul_le_mul_right _ hpc
        omega
      omega
    have hpc' : (c : Int) ≤ (p : Int) := by omega
    rw [if_neg hbig]
    simp [f_proportion_divided, e44, iaA, wc, hpc, hpc']
  · have e45 := fun hh => F_bits_Div64_val (hi := p) (lo := q) (y := c) (by omega) hql (by omega) hh
    rw [hab] at e45
    obtain ⟨Q, hQ⟩ : ∃ Q, Q = a * b / c := ⟨_, rfl⟩
    obtain ⟨R, hR⟩ : ∃ R, R = a * b % c := ⟨_, rfl⟩
    have hRl : R < c := by rw [hR]; exact Nat.mod_lt _ hc0
    rw [← hQ, ← hR] at e45 ⊢
    have wR : IntKind.i64.wrap (R : Int) = (R : Int) := wrap64 (by omega) (by omega)
    by_cases hq2 : Q ≤ 128849018880000
    · have wQ : IntKind.i64.wrap (Q : Int) = (Q : Int) := wrap64 (by omega) (by omega)
      have h3 : ¬ (128849018880000 : Int) < (Q : Int) := by omega
      simp [f_proportion_divided, e44, iaA, wc, hpc, e45, hq2, h3, wR, wQ]
    · have h3 : (128849018880000 : Int) < (Q : Int) := by omega
      simp [f_proportion_divided, e44, iaA, wc, hpc, e45, hq2, h3]
/-- What 'Of' returns. -/
def propOf (a b c : Int) : Int × Int × Int :=
  if (amt a && amt b && amt c) = false then (0, 0, 2) else if c = 0 then (0, 0, 16) else if a * b / c ≤ 128849018880000 then (a * b / c, a * b % c, 0) else (0, 0, 15)
theorem F_proportion_Of_val (a b c : Int) (h : Hp) : F_proportion_Of [I a, I b, I c] h = some (.tup [I (propOf a b c).1, I (propOf a b c).2.1, I (propOf a b c).2.2], h) := by
  refine F_proportion_Of_run rfl ?_ h
  have e35 : F_proportion_amounts [.sl 1 0 0 3 3 true] [.arr 1 [[I a], [I b], [I c]] true false] = some (B (amt a && amt b && amt c), [.arr 1 [[I a], [I b], [I c]] true false]) := by
    refine closedX_sl1 (es := [a, b, c].map encI) rfl rfl rfl rfl ?_
    have := F_proportion_amounts_val [a, b, c] (by simp) false []
    simp only [List.all_cons, List.all_nil, Bool.and_true, ← Bool.and_assoc] at this
    exact this
  cases hm : (amt a && amt b && amt c) with
  | false => simp [f_proportion_Of, bsE, fillS, e35, hm, propOf]
  | true =>
    simp only [Bool.and_eq_true] at hm
    obtain ⟨⟨m1, m2⟩, m3⟩ := hm
    by_cases hc : c = 0
    · subst hc
      simp [f_proportion_Of, bsE, fillS, e35, m1, m2, m3, propOf]
    · simp only [amt, Bool.and_eq_true, decide_eq_true_eq] at m1 m2 m3
      obtain ⟨x, rfl⟩ := Int.eq_ofNat_of_zero_le m1.1
      obtain ⟨y, rfl⟩ := Int.eq_ofNat_of_zero_le m2.1
      obtain ⟨z, rfl⟩ := Int.eq_ofNat_of_zero_le m3.1
      have e36 := fun hh => F_proportion_divided_val (a := x) (b := y) (c := z) (by omega) (by omega) (by omega) (by omega) hh
      have q1 : ((x : Int) * y / z) = ((x * y / z : Nat) : Int) := by push_cast; rfl
      have q2 : ((x : Int) * y % z) = ((x * y % z : Nat) : Int) := by push_cast; rfl
      unfold propOf
      rw [q1, q2]
      have hz : z ≠ 0 := by omega
      have a1 : amt x = true := by simp [amt]; omega
      have a2 : amt y = true := by simp [amt]; omega
      have a3 : amt z = true := by simp [amt]; omega
      generalize x * y / z = q at *
      generalize x * y % z = r at *
      by_cases hq : q ≤ 128849018880000
      · have hq' : (q : Int) ≤ 128849018880000 := by omega
        rw [if_pos hq] at e36
        simp [f_proportion_Of, bsE, fillS, e35, a1, a2, a3, hc, hz, e36, hq']
      · have hq' : ¬ (q : Int) ≤ 128849018880000 := by omega
        rw [if_neg hq] at e36
        simp [f_proportion_Of, bsE, fillS, e35, a1, a2, a3, hc, hz, e36, hq']
end
end Go.AM

namespace Go.AM
set_option linter.unusedVariables false
set_option linter.unusedSimpArgs false
set_option linter.constructorNameAsVariable false
set_option maxRecDepth 30000
variable {β : Type} {P : Program} {kt : TypeId} {kk : IntKind}
/-! Maps whose keys are integers. -/
theorem keyOk_int (hu : P.underlying kt = some (.int kk)) (n : Int) : keyOk P kt (.int kk n) = true := by
  have key : ∀ b, pureVal P (Instr.checkKey b 10000 kt (.int kk n)) = some () := by
    intro b
    rw [show (10000 : Nat) = 9999 + 1 from rfl]
    unfold Instr.checkKey
    rw [pureVal_bnd, pureVal_underlying hu]
    rfl
  simp [keyOk, key]
theorem keyEq_int (hu : P.underlying kt = some (.int kk)) (a b : Int) : keyEq P kt (.int kk a) (.int kk b) = some (decide (a = b)) := by
  have h1 : pureVal P (Op.equal kt (.int kk a) (.int kk b)) = some (a == b) := by
    unfold Op.equal
    rw [show Op.maxDepth = (Op.maxDepth - 1) + 1 from rfl]
    unfold Op.equalIn
    rw [pureVal_bnd, pureVal_underlying hu]
    simp only [Option.bind_some, if_true]
    rfl
  unfold keyEq
  rw [h1]
  by_cases hab : a = b
  · subst hab
    have : Instr.sameBits 10000 (.int kk a) (.int kk a) = true := by simp [Instr.sameBits]
    simp [this]
  · have : (a == b) = false := by simpa using hab
    rw [this]
    simp [hab]
/-- What a map holds at a number. -/
def getKV : List (Value × AV) → Int → Option AV
  | [], _ => none
  | (.int _ m, v) :: r, n => if n = m then some v else getKV r n
  | _ :: r, n => getKV r n
def intKeys (kk : IntKind) (kvs : List (Value × AV)) : Prop := ∀ x ∈ kvs, ∃ m, x.1 = .int kk m
theorem lookupKV_int (hu : P.underlying kt = some (.int kk)) (n : Int) : ∀ {kvs : List (Value × AV)}, intKeys kk kvs → lookupKV kvs (keyEq P kt) (.int kk n) = some (getKV kvs n)
  | [], _ => rfl
  | (k, v) :: r, hk => by
    obtain ⟨m, e⟩ := hk (k, v) (by simp)
    simp only at e
    subst e
    have ih := lookupKV_int hu n (kvs := r) (fun x hx => hk x (by simp [hx]))
    simp only [lookupKV, keyEq_int hu, getKV]
    by_cases h : n = m
    · simp [h]
    · simp [h, ih]
theorem lookK_int {h : Hp} {id : Nat} {kvs : List (Value × AV)} {z : AV} {ok : Bool} {n : Int} (hu : P.underlying kt = some (.int kk)) (hid : h[id]? = some (.map kvs)) (hk : intKeys kk kvs) (k : K β) :
    lookK P kt z ok (.mp id) (.s (.int kk n)) h k = match getKV kvs n with
      | some v => k (if ok then .tup [v, .s (.bool true)] else v)
      | none => k (if ok then .tup [z, .s (.bool false)] else z) := by
  unfold lookK
  simp only [toV, gv, if_true, hid, keyOk_int hu, lookupKV_int hu n hk]
  cases getKV kvs n <;> rfl
theorem updateKV_int (hu : P.underlying kt = some (.int kk)) (n : Int) (v : AV) : ∀ {kvs : List (Value × AV)}, intKeys kk kvs →
    ∃ kvs', updateKV kvs (keyEq P kt) (.int kk n) v = some kvs' ∧ intKeys kk kvs' ∧ ∀ m, getKV kvs' m = if m = n then some v else getKV kvs m
  | [], _ => ⟨_, rfl, fun x hx => by simp at hx; subst hx; exact ⟨n, rfl⟩, fun m => by simp [getKV]⟩
  | (k, u) :: r, hk => by
    obtain ⟨q, e⟩ := hk (k, u) (by simp)
    simp only at e
    subst e
    obtain ⟨r', h1, h2, h3⟩ := updateKV_int hu n v (kvs := r) (fun x hx => hk x (by simp [hx]))
    simp only [updateKV, keyEq_int hu]
    by_cases h : n = q
    · subst h
      refine ⟨(.int kk n, v) :: r, by simp, fun x hx => ?_, fun m => ?_⟩
      · rcases List.mem_cons.1 hx with rfl | hx
        · exact ⟨n, rfl⟩
        · exact hk x (by simp [hx])
      · simp only [getKV]
        split <;> rfl
    · refine ⟨(.int kk q, u) :: r', by simp [h, h1], fun x hx => ?_, fun m => ?_⟩
      · rcases List.mem_cons.1 hx with rfl | hx
        · exact ⟨q, rfl⟩
        · exact h2 x hx
      · simp only [getKV, h3]
        by_cases hm : m = q
        · subst hm; simp [Ne.symm h]
        · simp [hm]
theorem mupE_int {h : Hp} {id : Nat} {kvs : List (Value × AV)} {v : AV} {n : Int} (hu : P.underlying kt = some (.int kk)) (hid : h[id]? = some (.map kvs)) (hk : intKeys kk kvs) :
    ∃ kvs', mupE P kt (.mp id) (.s (.int kk n)) v h = some (.u, ⟨[(id, .map kvs')], [], [id]⟩) ∧ intKeys kk kvs' ∧ ∀ m, getKV kvs' m = if m = n then some v else getKV kvs m := by
  obtain ⟨kvs', h1, h2, h3⟩ := updateKV_int hu n v hk
  refine ⟨kvs', ?_, h2, h3⟩
  unfold mupE
  simp only [toV, gv, if_true, hid, keyOk_int hu, h1]
end Go.AM

/- Slices that grow. -/
namespace Go.AM
set_option linter.unusedVariables false
def idOf : AV → Option Nat
  | .sl _ id .. => some id
  | _ => none
@[simp] theorem idOf_sl (sz id off len fr : Nat) (full : Bool) : idOf (.sl sz id off len fr full) = some id := rfl
@[simp] theorem idOf_nilS : idOf nilS = none := rfl
/-- A slice that grows: nil, or a whole array. -/
def Gro {α : Type} (sz : Nat) (f : α → List AV) (h : Hp) (v : AV) (l : List α) : Prop := (l = [] ∧ v = nilS) ∨ (l ≠ [] ∧ ∃ k, v = .sl sz k 0 l.length l.length false ∧ h[k]? = some (.arr sz (l.map f) true false))
section
variable {α β : Type} {sz : Nat} {f : α → List AV} {h h' : Hp} {v : AV} {l : List α}
theorem Gro.nil : Gro sz f h nilS [] := .inl ⟨rfl, rfl⟩
theorem Gro.keep (O : Gro sz f h v l) (hk : ∀ k o, idOf v = some k → h[k]? = some o → h'[k]? = some o) : Gro sz f h' v l := by
  rcases O with O | ⟨h1, k, rfl, h2⟩
  · exact .inl O
  · exact .inr ⟨h1, k, rfl, hk k _ rfl h2⟩
theorem Gro.app (O : Gro sz f h v l) (x : List AObj) : Gro sz f (h ++ x) v l := O.keep fun k o _ hk => get_app hk
theorem Gro.lt (O : Gro sz f h v l) {k : Nat} (hk : idOf v = some k) : k < h.length := by
  rcases O with ⟨_, rfl⟩ | ⟨h1, j, rfl, h2⟩
  · simp at hk
  · simp at hk; subst hk; exact (List.getElem?_eq_some_iff.1 h2).1
theorem Gro.len (O : Gro sz f h v l) (k : K β) : lenK v k = k (I l.length) := by
  rcases O with ⟨rfl, rfl⟩ | ⟨h1, j, rfl, h2⟩ <;> simp
theorem Gro.cvts (O : Gro sz f h v l) (hf : ∀ x st, (f x).all (fun c => bif st then isS c else plain c) = true) : ∃ w, (∀ st, Go.AM.cvt st h v = some w) ∧ nrm (.l sz) w = .lst sz l.isEmpty (l.map f) := by
  rcases O with ⟨rfl, rfl⟩ | ⟨h1, k, rfl, h2⟩
  · exact ⟨nilS, fun st => rfl, rfl⟩
  · have he : l.isEmpty = false := by simpa using h1
    refine ⟨.lst sz false (l.map f), fun st => cvt_whole h2 (by simp) (by simp) (okE_map fun x => hf x st), ?_⟩
    rw [he]; rfl
theorem Gro.snoc (β : Type) (O : Gro sz f h v l) {by_ m : Nat} {z : α} {b : Bool} (hm : h[m]? = some (.arr sz [f z] true false)) (hv : idOf v ≠ some m) (hf : ∀ x ∈ z :: l, (f x).length = sz) (hl : (l.length + 1) * by_ ≤ 140737488355328) :
    ∃ v' h', (∀ k : AV → Hp → Option β, effK (appE sz by_ v (.sl sz m 0 1 1 b) h h.length) h k = k v' h') ∧ Gro sz f h' v' (l ++ [z]) ∧ h.length ≤ h'.length ∧ (∀ j o, h[j]? = some o → idOf v ≠ some j → h'[j]? = some o) ∧ (idOf v' = idOf v ∨ idOf v' = some h.length) := by
  have hz : (f z).length = sz := hf z (by simp)
  rcases O with ⟨rfl, rfl⟩ | ⟨h1, k, rfl, h2⟩
  · have hb : by_ ≤ 140737488355328 := by simpa using hl
    refine ⟨.sl sz h.length 0 1 1 false, h ++ [.arr sz [f z] true false], fun k => ?_, .inr ⟨by simp, h.length, rfl, by simp⟩, by simp, fun j o hj _ => get_app hj, .inr rfl⟩
    simp [appE, readSl, hm, hz, hb, effK, ap]
  · have hkl := (List.getElem?_eq_some_iff.1 h2).1
    refine ⟨.sl sz k 0 (l ++ [z]).length (l ++ [z]).length false, h.set k (.arr sz ((l ++ [z]).map f) true false), fun k' => ?_, .inr ⟨by simp, k, rfl, by simp [hkl]⟩, by simp, fun j o hj hn => ?_, .inl rfl⟩
    · simp [appE, readSl, hm, h2, hz, hl, effK, ap]
    · have hkj : k ≠ j := by rintro rfl; exact hn rfl
      rw [List.getElem?_set_ne hkj]; exact hj
end
/-- Of arguments that lie in the heap, or are written otherwise; the answer of numbers alone. -/
theorem closedX_scal' {shp shr : List Sh} {F : Fun} {h : Hp} {args as' asl : List AV} {v : AV} {h0 : Hp} (ha : cvts false h args = some as') (hn : nrms shp as' = nrms shp asl) (hp : plains asl = true) (hF : closedX shp shr F asl h0 = some (v, h0)) (hs : scal v = true) : closedX shp shr F args h = some (v, h) := by
  unfold closedX at hF ⊢
  rw [cvts_plain hp] at hF
  rw [ha]
  dsimp only at hF ⊢
  rw [hn]
  split at hF <;> try (simp at hF; done)
  rename_i w g hR
  split at hF <;> try (simp at hF; done)
  rename_i w' hw
  simp only [Option.some.injEq, Prod.mk.injEq] at hF
  obtain ⟨rfl, -⟩ := hF
  rw [hp, Bool.not_true] at hw
  have hw2 : ∀ st, cvt st g w = some w' := fun st => by
    cases st with
    | false => exact hw
    | true => exact cvt_scal hw (nrmR_scal hs)
  rw [hw2]
/-- The same, as an effect. -/
theorem Gro.snocE {α : Type} {sz : Nat} {f : α → List AV} {h : Hp} {v : AV} {l : List α} (O : Gro sz f h v l) {by_ m : Nat} {z : α} {b : Bool} (hm : h[m]? = some (.arr sz [f z] true false)) (hv : idOf v ≠ some m) (hf : ∀ x ∈ z :: l, (f x).length = sz) (hl : (l.length + 1) * by_ ≤ 140737488355328) :
    ∃ v' e, appE sz by_ v (.sl sz m 0 1 1 b) h h.length = some (v', e) ∧ Gro sz f (ap h e) v' (l ++ [z]) ∧ h.length ≤ (ap h e).length ∧ (∀ j o, h[j]? = some o → idOf v ≠ some j → (ap h e)[j]? = some o) ∧ (idOf v' = idOf v ∨ idOf v' = some h.length) := by
  have hz : (f z).length = sz := hf z (by simp)
  rcases O with ⟨rfl, rfl⟩ | ⟨h1, k, rfl, h2⟩
  · have hb : by_ ≤ 140737488355328 := by simpa using hl
    refine ⟨.sl sz h.length 0 1 1 false, ⟨[], [.arr sz [f z] true false], [m]⟩, by simp [appE, readSl, hm, hz, hb, idsOf], .inr ⟨by simp, h.length, rfl, by simp [ap]⟩, by simp [ap], fun j o hj _ => by simpa [ap] using get_app hj, .inr rfl⟩
  · have hkl := (List.getElem?_eq_some_iff.1 h2).1
    refine ⟨.sl sz k 0 (l ++ [z]).length (l ++ [z]).length false, ⟨[(k, .arr sz ((l ++ [z]).map f) true false)], [], [k, m]⟩, by simp [appE, readSl, hm, h2, hz, hl, idsOf], .inr ⟨by simp, k, rfl, by simp [ap, hkl]⟩, by simp [ap], fun j o hj hn => ?_, .inl rfl⟩
    have hkj : k ≠ j := by rintro rfl; exact hn rfl
    simp only [ap, List.foldl_cons, List.foldl_nil, List.append_nil]
    rw [List.getElem?_set_ne hkj]; exact hj
end Go.AM
