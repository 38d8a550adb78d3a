import Derived.Test.YtflcobokgfellaaG3
set_option linter.unusedSectionVars false
set_option linter.unusedVariables false
set_option linter.unusedSimpArgs false
set_option linter.constructorNameAsVariable false
namespace Go.AM
open Go.Proofs
set_option linter.unusedVariables false
set_option maxRecDepth 100000
theorem mixed : Try.prog.follows .mixedOrders = true := by kernel_rfl
theorem NN_ex : ∃ n : Nat, 1000000 ≤ n ∧ n < 4611686018427387904 := ⟨1000000, by omega, by omega⟩
noncomputable def NN : Nat := NN_ex.choose
theorem NN_ge : 1000000 ≤ NN := NN_ex.choose_spec.1
theorem NN_lt : NN < 4611686018427387904 := NN_ex.choose_spec.2
noncomputable def d_document_node : DTab := D0
theorem d_document_node_ok : DSound Try.prog d_document_node := DSound.zero
noncomputable def t_document_node : Tab := T0
theorem t_document_node_ok : TSound Try.prog t_document_node := TSound.zero
noncomputable def R_document_node : Fun := runF Try.prog t_document_node d_document_node NN [0, 2] Try.f67 1
theorem R_document_node_ok : CSound Try.prog 67 R_document_node := run_sound t_document_node_ok d_document_node_ok mixed Try.func67 (by kernel_rfl) NN
theorem R_document_node_eq {β : Type} (K : AV → Hp → Option β) (a0 : AV) (h : Hp) : (R_document_node [a0] h).bind (fun p => K p.1 p.2) = f_document_node Try.prog t_document_node d_document_node NN K a0 h := by
  rw [← f_document_node_run]; exact runF_bind rfl
noncomputable def F_document_node : Fun := closedX [.o] [.o] R_document_node
theorem F_document_node_ok : CSound Try.prog 67 F_document_node := closedX_sound _ _ R_document_node_ok
theorem F_document_node_run {a0 : AV} {v : AV} (ha : plains [a0] = true) (hv : f_document_node Try.prog t_document_node d_document_node NN (fun v g => cvt false g v) a0 [] = some v) (h : Hp) : F_document_node [a0] h = some (v, h) := by
  have e : (R_document_node (nrms [.o] [a0]) []).bind (fun (p : AV × Hp) => cvt false p.2 p.1) = some v := (R_document_node_eq (fun v g => cvt false g v) a0 []).trans hv
  exact (closedX_bind (shr := [.o]) ha e h).trans (congrArg (fun x => some (x, h)) (nrmR_rep 1 v))
noncomputable def d_document_Check : DTab := D0
theorem d_document_Check_ok : DSound Try.prog d_document_Check := DSound.zero
noncomputable def t_document_Check : Tab := (updF T0 67 F_document_node)
theorem t_document_Check_ok : TSound Try.prog t_document_Check := (TSound.upd TSound.zero F_document_node_ok)
@[simp] theorem t_document_Check_67 : t_document_Check 67 = some F_document_node := rfl
noncomputable def R_document_Check : Fun := runF Try.prog t_document_Check d_document_Check NN [0, 1, 2, 3, 4, 32, 41, 42, 78, 99, 118] Try.f47 1
theorem R_document_Check_ok : CSound Try.prog 47 R_document_Check := run_sound t_document_Check_ok d_document_Check_ok mixed Try.func47 (by kernel_rfl) NN
theorem R_document_Check_eq {β : Type} (K : AV → Hp → Option β) (a0 : AV) (h : Hp) : (R_document_Check [a0] h).bind (fun p => K p.1 p.2) = f_document_Check Try.prog t_document_Check d_document_Check NN K a0 h := by
  rw [← f_document_Check_run]; exact runF_bind rfl
noncomputable def F_document_Check : Fun := closedX [.o] [.o] R_document_Check
theorem F_document_Check_ok : CSound Try.prog 47 F_document_Check := closedX_sound _ _ R_document_Check_ok
theorem F_document_Check_run {a0 : AV} {v : AV} (ha : plains [a0] = true) (hv : f_document_Check Try.prog t_document_Check d_document_Check NN (fun v g => cvt false g v) a0 [] = some v) (h : Hp) : F_document_Check [a0] h = some (v, h) := by
  have e : (R_document_Check (nrms [.o] [a0]) []).bind (fun (p : AV × Hp) => cvt false p.2 p.1) = some v := (R_document_Check_eq (fun v g => cvt false g v) a0 []).trans hv
  exact (closedX_bind (shr := [.o]) ha e h).trans (congrArg (fun x => some (x, h)) (nrmR_rep 1 v))
noncomputable def d_network_Check : DTab := D0
theorem d_network_Check_ok : DSound Try.prog d_network_Check := DSound.zero
noncomputable def t_network_Check : Tab := (updF T0 47 F_document_Check)
theorem t_network_Check_ok : TSound Try.prog t_network_Check := (TSound.upd TSound.zero F_document_Check_ok)
@[simp] theorem t_network_Check_47 : t_network_Check 47 = some F_document_Check := rfl
noncomputable def R_network_Check : Fun := runF Try.prog t_network_Check d_network_Check NN [0, 2, 3, 4, 5, 6, 9, 11, 12, 13, 14, 18, 48, 55, 61] Try.f12 1
theorem R_network_Check_ok : CSound Try.prog 12 R_network_Check := run_sound t_network_Check_ok d_network_Check_ok mixed Try.func12 (by kernel_rfl) NN
theorem R_network_Check_eq {β : Type} (K : AV → Hp → Option β) (a0 : AV) (h : Hp) : (R_network_Check [a0] h).bind (fun p => K p.1 p.2) = f_network_Check Try.prog t_network_Check d_network_Check NN K a0 h := by
  rw [← f_network_Check_run]; exact runF_bind rfl
noncomputable def F_network_Check : Fun := closedX [.l 10] [.o, .o] R_network_Check
theorem F_network_Check_ok : CSound Try.prog 12 F_network_Check := closedX_sound _ _ R_network_Check_ok
theorem F_network_Check_run {a0 : AV} {v : AV} (ha : plains [a0] = true) (hv : f_network_Check Try.prog t_network_Check d_network_Check NN (fun v g => cvt false g v) (nrm (.l 10) a0) [] = some v) (h : Hp) : F_network_Check [a0] h = some (v, h) := by
  have e : (R_network_Check (nrms [.l 10] [a0]) []).bind (fun (p : AV × Hp) => cvt false p.2 p.1) = some v := (R_network_Check_eq (fun v g => cvt false g v) (nrm (.l 10) a0) []).trans hv
  exact (closedX_bind (shr := [.o, .o]) ha e h).trans (congrArg (fun x => some (x, h)) (nrmR_rep 2 v))
noncomputable def d_network_asked_1 : DTab := D0
theorem d_network_asked_1_ok : DSound Try.prog d_network_asked_1 := DSound.zero
noncomputable def t_network_asked_1 : Tab := T0
theorem t_network_asked_1_ok : TSound Try.prog t_network_asked_1 := TSound.zero
noncomputable def R_network_asked_1 : Fun := runF Try.prog t_network_asked_1 d_network_asked_1 NN [0, 1, 3] Try.f73 2
theorem R_network_asked_1_ok : CSound Try.prog 73 R_network_asked_1 := run_sound t_network_asked_1_ok d_network_asked_1_ok mixed Try.func73 (by kernel_rfl) NN
theorem R_network_asked_1_eq {β : Type} (K : AV → Hp → Option β) (a0 : AV) (a1 : AV) (h : Hp) : (R_network_asked_1 [a0, a1] h).bind (fun p => K p.1 p.2) = f_network_asked_1 Try.prog t_network_asked_1 d_network_asked_1 NN K a0 a1 h := by
  rw [← f_network_asked_1_run]; exact runF_bind rfl
noncomputable def F_network_asked_1 : Fun := quietT R_network_asked_1
theorem F_network_asked_1_ok : CSound Try.prog 73 F_network_asked_1 := quietT_sound R_network_asked_1_ok
theorem F_network_asked_1_q {a0 : AV} {a1 : AV} {h : Hp} {g : List AObj} {v : AV} (hv : f_network_asked_1 Try.prog t_network_asked_1 d_network_asked_1 NN (fun v h => some (v, h)) a0 a1 h = some (v, h ++ g)) (hp : plain v = true) : F_network_asked_1 [a0, a1] h = some (v, h) := quietT_val (F := R_network_asked_1) (((bind_pair _).symm.trans (R_network_asked_1_eq (fun v h => some (v, h)) a0 a1 h)).trans hv) hp
noncomputable def d_slices_IndexFunc_int__network_asked_1 : DTab := D0
theorem d_slices_IndexFunc_int__network_asked_1_ok : DSound Try.prog d_slices_IndexFunc_int__network_asked_1 := DSound.zero
noncomputable def t_slices_IndexFunc_int__network_asked_1 : Tab := (updF T0 73 F_network_asked_1)
theorem t_slices_IndexFunc_int__network_asked_1_ok : TSound Try.prog t_slices_IndexFunc_int__network_asked_1 := (TSound.upd TSound.zero F_network_asked_1_ok)
@[simp] theorem t_slices_IndexFunc_int__network_asked_1_73 : t_slices_IndexFunc_int__network_asked_1 73 = some F_network_asked_1 := rfl
noncomputable def R_slices_IndexFunc_int__network_asked_1 : Fun := runF Try.prog t_slices_IndexFunc_int__network_asked_1 d_slices_IndexFunc_int__network_asked_1 NN [0, 1, 4, 5, 7, 8, 9, 16] Try.f80 2
theorem R_slices_IndexFunc_int__network_asked_1_ok : CSound Try.prog 80 R_slices_IndexFunc_int__network_asked_1 := run_sound t_slices_IndexFunc_int__network_asked_1_ok d_slices_IndexFunc_int__network_asked_1_ok mixed Try.func80 (by kernel_rfl) NN
theorem R_slices_IndexFunc_int__network_asked_1_eq {β : Type} (K : AV → Hp → Option β) (a0 : AV) (a1 : AV) (h : Hp) : (R_slices_IndexFunc_int__network_asked_1 [a0, a1] h).bind (fun p => K p.1 p.2) = f_slices_IndexFunc_int Try.prog t_slices_IndexFunc_int__network_asked_1 d_slices_IndexFunc_int__network_asked_1 NN K a0 a1 h := by
  rw [← f_slices_IndexFunc_int_run]; exact runF_bind rfl
noncomputable def F_slices_IndexFunc_int__network_asked_1 : Fun := quietT R_slices_IndexFunc_int__network_asked_1
theorem F_slices_IndexFunc_int__network_asked_1_ok : CSound Try.prog 80 F_slices_IndexFunc_int__network_asked_1 := quietT_sound R_slices_IndexFunc_int__network_asked_1_ok
theorem F_slices_IndexFunc_int__network_asked_1_q {a0 : AV} {a1 : AV} {h : Hp} {g : List AObj} {v : AV} (hv : f_slices_IndexFunc_int Try.prog t_slices_IndexFunc_int__network_asked_1 d_slices_IndexFunc_int__network_asked_1 NN (fun v h => some (v, h)) a0 a1 h = some (v, h ++ g)) (hp : plain v = true) : F_slices_IndexFunc_int__network_asked_1 [a0, a1] h = some (v, h) := quietT_val (F := R_slices_IndexFunc_int__network_asked_1) (((bind_pair _).symm.trans (R_slices_IndexFunc_int__network_asked_1_eq (fun v h => some (v, h)) a0 a1 h)).trans hv) hp
noncomputable def d_slices_ContainsFunc_int__network_asked_1 : DTab := D0
theorem d_slices_ContainsFunc_int__network_asked_1_ok : DSound Try.prog d_slices_ContainsFunc_int__network_asked_1 := DSound.zero
noncomputable def t_slices_ContainsFunc_int__network_asked_1 : Tab := (updF T0 80 F_slices_IndexFunc_int__network_asked_1)
theorem t_slices_ContainsFunc_int__network_asked_1_ok : TSound Try.prog t_slices_ContainsFunc_int__network_asked_1 := (TSound.upd TSound.zero F_slices_IndexFunc_int__network_asked_1_ok)
@[simp] theorem t_slices_ContainsFunc_int__network_asked_1_80 : t_slices_ContainsFunc_int__network_asked_1 80 = some F_slices_IndexFunc_int__network_asked_1 := rfl
noncomputable def R_slices_ContainsFunc_int__network_asked_1 : Fun := runF Try.prog t_slices_ContainsFunc_int__network_asked_1 d_slices_ContainsFunc_int__network_asked_1 NN [0, 1, 4] Try.f72 2
theorem R_slices_ContainsFunc_int__network_asked_1_ok : CSound Try.prog 72 R_slices_ContainsFunc_int__network_asked_1 := run_sound t_slices_ContainsFunc_int__network_asked_1_ok d_slices_ContainsFunc_int__network_asked_1_ok mixed Try.func72 (by kernel_rfl) NN
theorem R_slices_ContainsFunc_int__network_asked_1_eq {β : Type} (K : AV → Hp → Option β) (a0 : AV) (a1 : AV) (h : Hp) : (R_slices_ContainsFunc_int__network_asked_1 [a0, a1] h).bind (fun p => K p.1 p.2) = f_slices_ContainsFunc_int Try.prog t_slices_ContainsFunc_int__network_asked_1 d_slices_ContainsFunc_int__network_asked_1 NN K a0 a1 h := by
  rw [← f_slices_ContainsFunc_int_run]; exact runF_bind rfl
noncomputable def F_slices_ContainsFunc_int__network_asked_1 : Fun := quietT R_slices_ContainsFunc_int__network_asked_1
theorem F_slices_ContainsFunc_int__network_asked_1_ok : CSound Try.prog 72 F_slices_ContainsFunc_int__network_asked_1 := quietT_sound R_slices_ContainsFunc_int__network_asked_1_ok
theorem F_slices_ContainsFunc_int__network_asked_1_q {a0 : AV} {a1 : AV} {h : Hp} {g : List AObj} {v : AV} (hv : f_slices_ContainsFunc_int Try.prog t_slices_ContainsFunc_int__network_asked_1 d_slices_ContainsFunc_int__network_asked_1 NN (fun v h => some (v, h)) a0 a1 h = some (v, h ++ g)) (hp : plain v = true) : F_slices_ContainsFunc_int__network_asked_1 [a0, a1] h = some (v, h) := quietT_val (F := R_slices_ContainsFunc_int__network_asked_1) (((bind_pair _).symm.trans (R_slices_ContainsFunc_int__network_asked_1_eq (fun v h => some (v, h)) a0 a1 h)).trans hv) hp
noncomputable def d_network_asked : DTab := D0
theorem d_network_asked_ok : DSound Try.prog d_network_asked := DSound.zero
noncomputable def t_network_asked : Tab := (updF (updF (updF T0 12 F_network_Check) 72 F_slices_ContainsFunc_int__network_asked_1) 73 F_network_asked_1)
theorem t_network_asked_ok : TSound Try.prog t_network_asked := (TSound.upd (TSound.upd (TSound.upd TSound.zero F_network_Check_ok) F_slices_ContainsFunc_int__network_asked_1_ok) F_network_asked_1_ok)
@[simp] theorem t_network_asked_12 : t_network_asked 12 = some F_network_Check := rfl
@[simp] theorem t_network_asked_72 : t_network_asked 72 = some F_slices_ContainsFunc_int__network_asked_1 := rfl
@[simp] theorem t_network_asked_73 : t_network_asked 73 = some F_network_asked_1 := rfl
noncomputable def R_network_asked : Fun := runF Try.prog t_network_asked d_network_asked NN [0, 1, 2, 4, 6, 12, 15, 19] Try.f53 2
theorem R_network_asked_ok : CSound Try.prog 53 R_network_asked := run_sound t_network_asked_ok d_network_asked_ok mixed Try.func53 (by kernel_rfl) NN
theorem R_network_asked_eq {β : Type} (K : AV → Hp → Option β) (a0 : AV) (a1 : AV) (h : Hp) : (R_network_asked [a0, a1] h).bind (fun p => K p.1 p.2) = f_network_asked Try.prog t_network_asked d_network_asked NN K a0 a1 h := by
  rw [← f_network_asked_run]; exact runF_bind rfl
noncomputable def F_network_asked : Fun := closedX [.l 10, .l 1] [.o] R_network_asked
theorem F_network_asked_ok : CSound Try.prog 53 F_network_asked := closedX_sound _ _ R_network_asked_ok
theorem F_network_asked_run {a0 : AV} {a1 : AV} {v : AV} (ha : plains [a0, a1] = true) (hv : f_network_asked Try.prog t_network_asked d_network_asked NN (fun v g => cvt false g v) (nrm (.l 10) a0) (nrm (.l 1) a1) [] = some v) (h : Hp) : F_network_asked [a0, a1] h = some (v, h) := by
  have e : (R_network_asked (nrms [.l 10, .l 1] [a0, a1]) []).bind (fun (p : AV × Hp) => cvt false p.2 p.1) = some v := (R_network_asked_eq (fun v g => cvt false g v) (nrm (.l 10) a0) (nrm (.l 1) a1) []).trans hv
  exact (closedX_bind (shr := [.o]) ha e h).trans (congrArg (fun x => some (x, h)) (nrmR_rep 1 v))
noncomputable def d_network_deliveries_1 : DTab := D0
theorem d_network_deliveries_1_ok : DSound Try.prog d_network_deliveries_1 := DSound.zero
noncomputable def t_network_deliveries_1 : Tab := T0
theorem t_network_deliveries_1_ok : TSound Try.prog t_network_deliveries_1 := TSound.zero
noncomputable def R_network_deliveries_1 : Fun := runF Try.prog t_network_deliveries_1 d_network_deliveries_1 NN [0, 1, 2, 5, 6, 7, 8, 9, 19] Try.f78 3
theorem R_network_deliveries_1_ok : CSound Try.prog 78 R_network_deliveries_1 := run_sound t_network_deliveries_1_ok d_network_deliveries_1_ok mixed Try.func78 (by kernel_rfl) NN
noncomputable def F_network_deliveries_1 : Fun := quietT R_network_deliveries_1
theorem F_network_deliveries_1_ok : CSound Try.prog 78 F_network_deliveries_1 := quietT_sound R_network_deliveries_1_ok
noncomputable def d_network_deliveries : DTab := D0
theorem d_network_deliveries_ok : DSound Try.prog d_network_deliveries := DSound.zero
noncomputable def t_network_deliveries : Tab := (updF T0 78 F_network_deliveries_1)
theorem t_network_deliveries_ok : TSound Try.prog t_network_deliveries := (TSound.upd TSound.zero F_network_deliveries_1_ok)
@[simp] theorem t_network_deliveries_78 : t_network_deliveries 78 = some F_network_deliveries_1 := rfl
noncomputable def R_network_deliveries : Fun := runF Try.prog t_network_deliveries d_network_deliveries NN [0, 1, 2, 3, 4] Try.f69 2
theorem R_network_deliveries_ok : CSound Try.prog 69 R_network_deliveries := run_sound t_network_deliveries_ok d_network_deliveries_ok mixed Try.func69 (by kernel_rfl) NN
theorem R_network_deliveries_eq {β : Type} (K : AV → Hp → Option β) (a0 : AV) (a1 : AV) (h : Hp) : (R_network_deliveries [a0, a1] h).bind (fun p => K p.1 p.2) = f_network_deliveries Try.prog t_network_deliveries d_network_deliveries NN K a0 a1 h := by
  rw [← f_network_deliveries_run]; exact runF_bind rfl
noncomputable def F_network_deliveries : Fun := R_network_deliveries
theorem F_network_deliveries_ok : CSound Try.prog 69 F_network_deliveries := R_network_deliveries_ok
theorem F_network_deliveries_raw (a0 : AV) (a1 : AV) (h : Hp) : F_network_deliveries [a0, a1] h = f_network_deliveries Try.prog t_network_deliveries d_network_deliveries NN (fun v h => some (v, h)) a0 a1 h := (bind_pair _).symm.trans (R_network_deliveries_eq (fun v h => some (v, h)) a0 a1 h)
noncomputable def d_network_to : DTab := D0
theorem d_network_to_ok : DSound Try.prog d_network_to := DSound.zero
noncomputable def ty_network_to : Tab := (updF (updF T0 53 F_network_asked) 69 F_network_deliveries)
theorem ty_network_to_ok : TSound Try.prog ty_network_to := (TSound.upd (TSound.upd TSound.zero F_network_asked_ok) F_network_deliveries_ok)
@[simp] theorem ty_network_to_53 : ty_network_to 53 = some F_network_asked := rfl
@[simp] theorem ty_network_to_69 : ty_network_to 69 = some F_network_deliveries := rfl
noncomputable def Y_network_to : Fun := yieldF Try.prog ty_network_to d_network_to NN [0, 1, 2, 5, 6, 7, 8, 9, 11, 16, 23, 26, 27, 28, 32] 3
theorem Y_network_to_ok : YSound Try.prog Y_network_to := yieldF_sound ty_network_to_ok d_network_to_ok mixed NN
theorem Y_network_to_R0 {L : Nat} {h : Hp} {pend : Option Code} {v5 : AV} {v9 : AV} {v27 : AV} {v28 : AV} (hL : h[L]? = some (.loop (lpm_network_to_0) (lpp_network_to_0) (lpa_network_to_0) (lpb_network_to_0) (envT [(5, v5), (9, v9)]) .ready pend)) : Y_network_to [ymark, .yl L, v27, v28] h = f_network_to_R0 Try.prog ty_network_to d_network_to NN L (envT [(5, v5), (9, v9)]) (fun h => some (.s (.bool true), h.set L (.loop (lpm_network_to_0) (lpp_network_to_0) (lpa_network_to_0) (lpb_network_to_0) (envT [(5, v5), (9, v9)]) .ready none))) v5 v9 v28 h := (yieldF_val hL (by kernel_rfl)).trans (f_network_to_R0_run ty_network_to d_network_to NN L v5 v9 v27 v28 h)
noncomputable def t_network_deliveries_1__network_to : Tab := (updF T0 YB Y_network_to)
theorem t_network_deliveries_1__network_to_ok : TSound Try.prog t_network_deliveries_1__network_to := (TSound.updY TSound.zero Y_network_to_ok)
@[simp] theorem t_network_deliveries_1__network_to_Y : t_network_deliveries_1__network_to YB = some Y_network_to := rfl
noncomputable def F_network_deliveries_1__network_to : Fun := runF Try.prog t_network_deliveries_1__network_to D0 NN [0, 1, 2, 5, 6, 7, 8, 9, 19] Try.f78 3
theorem F_network_deliveries_1__network_to_ok : CSound Try.prog 78 F_network_deliveries_1__network_to := run_sound t_network_deliveries_1__network_to_ok DSound.zero mixed Try.func78 (by kernel_rfl) NN
theorem F_network_deliveries_1__network_to_eq {β : Type} (K : AV → Hp → Option β) (a0 : AV) (a1 : AV) (a2 : AV) (h : Hp) : (F_network_deliveries_1__network_to [a0, a1, a2] h).bind (fun p => K p.1 p.2) = f_network_deliveries_1 Try.prog t_network_deliveries_1__network_to D0 NN K a0 a1 a2 h := by
  rw [← f_network_deliveries_1_run]; exact runF_bind rfl
theorem F_network_deliveries_1__network_to_raw (a0 : AV) (a1 : AV) (a2 : AV) (h : Hp) : F_network_deliveries_1__network_to [a0, a1, a2] h = f_network_deliveries_1 Try.prog t_network_deliveries_1__network_to D0 NN (fun v h => some (v, h)) a0 a1 a2 h := (bind_pair _).symm.trans (F_network_deliveries_1__network_to_eq (fun v h => some (v, h)) a0 a1 a2 h)
noncomputable def t_network_to : Tab := (updF ty_network_to 78 F_network_deliveries_1__network_to)
theorem t_network_to_ok : TSound Try.prog t_network_to := (TSound.upd ty_network_to_ok F_network_deliveries_1__network_to_ok)
@[simp] theorem t_network_to_53 : t_network_to 53 = some F_network_asked := rfl
@[simp] theorem t_network_to_69 : t_network_to 69 = some F_network_deliveries := rfl
@[simp] theorem t_network_to_78 : t_network_to 78 = some F_network_deliveries_1__network_to := rfl
noncomputable def R_network_to : Fun := runF Try.prog t_network_to d_network_to NN [0, 1, 2, 5, 6, 7, 8, 9, 11, 16, 23, 26, 27, 28, 32] Try.f49 3
theorem R_network_to_ok : CSound Try.prog 49 R_network_to := run_sound t_network_to_ok d_network_to_ok mixed Try.func49 (by kernel_rfl) NN
theorem R_network_to_eq {β : Type} (K : AV → Hp → Option β) (a0 : AV) (a1 : AV) (a2 : AV) (h : Hp) : (R_network_to [a0, a1, a2] h).bind (fun p => K p.1 p.2) = f_network_to Try.prog t_network_to d_network_to NN K a0 a1 a2 h := by
  rw [← f_network_to_run]; exact runF_bind rfl
noncomputable def F_network_to : Fun := closedX [.l 10, .l 1, .o] [.l 10, .o] R_network_to
theorem F_network_to_ok : CSound Try.prog 49 F_network_to := closedX_sound _ _ R_network_to_ok
theorem F_network_to_run {a0 : AV} {a1 : AV} {a2 : AV} {v : AV} (ha : plains [a0, a1, a2] = true) (hv : f_network_to Try.prog t_network_to d_network_to NN (fun v g => cvt false g v) (nrm (.l 10) a0) (nrm (.l 1) a1) a2 [] = some v) (h : Hp) : F_network_to [a0, a1, a2] h = some ((nrmR [.l 10, .o] v), h) := by
  have e : (R_network_to (nrms [.l 10, .l 1, .o] [a0, a1, a2]) []).bind (fun (p : AV × Hp) => cvt false p.2 p.1) = some v := (R_network_to_eq (fun v g => cvt false g v) (nrm (.l 10) a0) (nrm (.l 1) a1) a2 []).trans hv
  exact (closedX_bind (shr := [.l 10, .o]) ha e h).trans (congrArg (fun x => some (x, h)) rfl)
theorem F_network_to_own {a0 : AV} {a1 : AV} {a2 : AV} {x0 : AV} {x1 : AV} {x2 : AV} {h : Hp} {v : AV} (ha : cvts false h [x0, x1, x2] = some [a0, a1, a2]) (hv : ∀ st, f_network_to Try.prog t_network_to d_network_to NN (fun v g => cvt st g v) (nrm (.l 10) a0) (nrm (.l 1) a1) a2 [] = some v) : F_network_to [x0, x1, x2] h = some ((nrmR [.l 10, .o] v), h) := by
  have e : ∀ st, (R_network_to (nrms [.l 10, .l 1, .o] [a0, a1, a2]) []).bind (fun (p : AV × Hp) => cvt st p.2 p.1) = some v := fun st => (R_network_to_eq (fun v g => cvt st g v) (nrm (.l 10) a0) (nrm (.l 1) a1) a2 []).trans (hv st)
  exact (closedX_ownB (shr := [.l 10, .o]) ha e).trans (congrArg (fun x => some (x, h)) rfl)
noncomputable def d_network_Deliver : DTab := D0
theorem d_network_Deliver_ok : DSound Try.prog d_network_Deliver := DSound.zero
noncomputable def t_network_Deliver : Tab := (updF T0 49 F_network_to)
theorem t_network_Deliver_ok : TSound Try.prog t_network_Deliver := (TSound.upd TSound.zero F_network_to_ok)
@[simp] theorem t_network_Deliver_49 : t_network_Deliver 49 = some F_network_to := rfl
noncomputable def R_network_Deliver : Fun := runF Try.prog t_network_Deliver d_network_Deliver NN [0, 1, 2, 6, 7] Try.f15 3
theorem R_network_Deliver_ok : CSound Try.prog 15 R_network_Deliver := run_sound t_network_Deliver_ok d_network_Deliver_ok mixed Try.func15 (by kernel_rfl) NN
theorem R_network_Deliver_eq {β : Type} (K : AV → Hp → Option β) (a0 : AV) (a1 : AV) (a2 : AV) (h : Hp) : (R_network_Deliver [a0, a1, a2] h).bind (fun p => K p.1 p.2) = f_network_Deliver Try.prog t_network_Deliver d_network_Deliver NN K a0 a1 a2 h := by
  rw [← f_network_Deliver_run]; exact runF_bind rfl
theorem R_network_Deliver_raw (a0 : AV) (a1 : AV) (a2 : AV) (h : Hp) : R_network_Deliver [a0, a1, a2] h = f_network_Deliver Try.prog t_network_Deliver d_network_Deliver NN (fun v h => some (v, h)) a0 a1 a2 h := (bind_pair _).symm.trans (R_network_Deliver_eq (fun v h => some (v, h)) a0 a1 a2 h)
noncomputable def F_network_Deliver : Fun := closedX [.l 10, .l 1, .o] [.l 10, .o] R_network_Deliver
theorem F_network_Deliver_ok : CSound Try.prog 15 F_network_Deliver := closedX_sound _ _ R_network_Deliver_ok
theorem F_network_Deliver_run {a0 : AV} {a1 : AV} {a2 : AV} {v : AV} (ha : plains [a0, a1, a2] = true) (hv : f_network_Deliver Try.prog t_network_Deliver d_network_Deliver NN (fun v g => cvt false g v) (nrm (.l 10) a0) (nrm (.l 1) a1) a2 [] = some v) (h : Hp) : F_network_Deliver [a0, a1, a2] h = some ((nrmR [.l 10, .o] v), h) := by
  have e : (R_network_Deliver (nrms [.l 10, .l 1, .o] [a0, a1, a2]) []).bind (fun (p : AV × Hp) => cvt false p.2 p.1) = some v := (R_network_Deliver_eq (fun v g => cvt false g v) (nrm (.l 10) a0) (nrm (.l 1) a1) a2 []).trans hv
  exact (closedX_bind (shr := [.l 10, .o]) ha e h).trans (congrArg (fun x => some (x, h)) rfl)
noncomputable def d_slices_Index_Message : DTab := D0
theorem d_slices_Index_Message_ok : DSound Try.prog d_slices_Index_Message := DSound.zero
noncomputable def t_slices_Index_Message : Tab := T0
theorem t_slices_Index_Message_ok : TSound Try.prog t_slices_Index_Message := TSound.zero
noncomputable def R_slices_Index_Message : Fun := runF Try.prog t_slices_Index_Message d_slices_Index_Message NN [0, 1, 3, 4, 5, 7, 8, 9, 16] Try.f60 2
theorem R_slices_Index_Message_ok : CSound Try.prog 60 R_slices_Index_Message := run_sound t_slices_Index_Message_ok d_slices_Index_Message_ok mixed Try.func60 (by kernel_rfl) NN
theorem R_slices_Index_Message_eq {β : Type} (K : AV → Hp → Option β) (a0 : AV) (a1 : AV) (h : Hp) : (R_slices_Index_Message [a0, a1] h).bind (fun p => K p.1 p.2) = f_slices_Index_Message Try.prog t_slices_Index_Message d_slices_Index_Message NN K a0 a1 h := by
  rw [← f_slices_Index_Message_run]; exact runF_bind rfl
noncomputable def F_slices_Index_Message : Fun := closedX [.l 7, .o] [.o] R_slices_Index_Message
theorem F_slices_Index_Message_ok : CSound Try.prog 60 F_slices_Index_Message := closedX_sound _ _ R_slices_Index_Message_ok
theorem F_slices_Index_Message_run {a0 : AV} {a1 : AV} {v : AV} (ha : plains [a0, a1] = true) (hv : f_slices_Index_Message Try.prog t_slices_Index_Message d_slices_Index_Message NN (fun v g => cvt false g v) (nrm (.l 7) a0) a1 [] = some v) (h : Hp) : F_slices_Index_Message [a0, a1] h = some (v, h) := by
  have e : (R_slices_Index_Message (nrms [.l 7, .o] [a0, a1]) []).bind (fun (p : AV × Hp) => cvt false p.2 p.1) = some v := (R_slices_Index_Message_eq (fun v g => cvt false g v) (nrm (.l 7) a0) a1 []).trans hv
  exact (closedX_bind (shr := [.o]) ha e h).trans (congrArg (fun x => some (x, h)) (nrmR_rep 1 v))
noncomputable def d_slices_Contains_Message : DTab := D0
theorem d_slices_Contains_Message_ok : DSound Try.prog d_slices_Contains_Message := DSound.zero
noncomputable def t_slices_Contains_Message : Tab := (updF T0 60 F_slices_Index_Message)
theorem t_slices_Contains_Message_ok : TSound Try.prog t_slices_Contains_Message := (TSound.upd TSound.zero F_slices_Index_Message_ok)
@[simp] theorem t_slices_Contains_Message_60 : t_slices_Contains_Message 60 = some F_slices_Index_Message := rfl
noncomputable def R_slices_Contains_Message : Fun := runF Try.prog t_slices_Contains_Message d_slices_Contains_Message NN [0, 1, 3, 4] Try.f37 2
theorem R_slices_Contains_Message_ok : CSound Try.prog 37 R_slices_Contains_Message := run_sound t_slices_Contains_Message_ok d_slices_Contains_Message_ok mixed Try.func37 (by kernel_rfl) NN
theorem R_slices_Contains_Message_eq {β : Type} (K : AV → Hp → Option β) (a0 : AV) (a1 : AV) (h : Hp) : (R_slices_Contains_Message [a0, a1] h).bind (fun p => K p.1 p.2) = f_slices_Contains_Message Try.prog t_slices_Contains_Message d_slices_Contains_Message NN K a0 a1 h := by
  rw [← f_slices_Contains_Message_run]; exact runF_bind rfl
noncomputable def F_slices_Contains_Message : Fun := closedX [.l 7, .o] [.o] R_slices_Contains_Message
theorem F_slices_Contains_Message_ok : CSound Try.prog 37 F_slices_Contains_Message := closedX_sound _ _ R_slices_Contains_Message_ok
theorem F_slices_Contains_Message_run {a0 : AV} {a1 : AV} {v : AV} (ha : plains [a0, a1] = true) (hv : f_slices_Contains_Message Try.prog t_slices_Contains_Message d_slices_Contains_Message NN (fun v g => cvt false g v) (nrm (.l 7) a0) a1 [] = some v) (h : Hp) : F_slices_Contains_Message [a0, a1] h = some (v, h) := by
  have e : (R_slices_Contains_Message (nrms [.l 7, .o] [a0, a1]) []).bind (fun (p : AV × Hp) => cvt false p.2 p.1) = some v := (R_slices_Contains_Message_eq (fun v g => cvt false g v) (nrm (.l 7) a0) a1 []).trans hv
  exact (closedX_bind (shr := [.o]) ha e h).trans (congrArg (fun x => some (x, h)) (nrmR_rep 1 v))
noncomputable def d_slices_Clone_Message : DTab := D0
theorem d_slices_Clone_Message_ok : DSound Try.prog d_slices_Clone_Message := DSound.zero
noncomputable def t_slices_Clone_Message : Tab := T0
theorem t_slices_Clone_Message_ok : TSound Try.prog t_slices_Clone_Message := TSound.zero
noncomputable def R_slices_Clone_Message : Fun := runF Try.prog t_slices_Clone_Message d_slices_Clone_Message NN [0, 2, 4] Try.f39 1
theorem R_slices_Clone_Message_ok : CSound Try.prog 39 R_slices_Clone_Message := run_sound t_slices_Clone_Message_ok d_slices_Clone_Message_ok mixed Try.func39 (by kernel_rfl) NN
theorem R_slices_Clone_Message_eq {β : Type} (K : AV → Hp → Option β) (a0 : AV) (h : Hp) : (R_slices_Clone_Message [a0] h).bind (fun p => K p.1 p.2) = f_slices_Clone_Message Try.prog t_slices_Clone_Message d_slices_Clone_Message NN K a0 h := by
  rw [← f_slices_Clone_Message_run]; exact runF_bind rfl
theorem R_slices_Clone_Message_raw (a0 : AV) (h : Hp) : R_slices_Clone_Message [a0] h = f_slices_Clone_Message Try.prog t_slices_Clone_Message d_slices_Clone_Message NN (fun v h => some (v, h)) a0 h := (bind_pair _).symm.trans (R_slices_Clone_Message_eq (fun v h => some (v, h)) a0 h)
noncomputable def F_slices_Clone_Message : Fun := closedX [.l 7] [.l 7] R_slices_Clone_Message
theorem F_slices_Clone_Message_ok : CSound Try.prog 39 F_slices_Clone_Message := closedX_sound _ _ R_slices_Clone_Message_ok
theorem F_slices_Clone_Message_run {a0 : AV} {v : AV} (ha : plains [a0] = true) (hv : f_slices_Clone_Message Try.prog t_slices_Clone_Message d_slices_Clone_Message NN (fun v g => cvt false g v) (nrm (.l 7) a0) [] = some v) (h : Hp) : F_slices_Clone_Message [a0] h = some ((nrmR [.l 7] v), h) := by
  have e : (R_slices_Clone_Message (nrms [.l 7] [a0]) []).bind (fun (p : AV × Hp) => cvt false p.2 p.1) = some v := (R_slices_Clone_Message_eq (fun v g => cvt false g v) (nrm (.l 7) a0) []).trans hv
  exact (closedX_bind (shr := [.l 7]) ha e h).trans (congrArg (fun x => some (x, h)) rfl)
noncomputable def d_document_Normal_1 : DTab := D0
theorem d_document_Normal_1_ok : DSound Try.prog d_document_Normal_1 := DSound.zero
noncomputable def t_document_Normal_1 : Tab := (updF T0 47 F_document_Check)
theorem t_document_Normal_1_ok : TSound Try.prog t_document_Normal_1 := (TSound.upd TSound.zero F_document_Check_ok)
@[simp] theorem t_document_Normal_1_47 : t_document_Normal_1 47 = some F_document_Check := rfl
noncomputable def R_document_Normal_1 : Fun := runF Try.prog t_document_Normal_1 d_document_Normal_1 NN [0, 1, 2] Try.f61 1
theorem R_document_Normal_1_ok : CSound Try.prog 61 R_document_Normal_1 := run_sound t_document_Normal_1_ok d_document_Normal_1_ok mixed Try.func61 (by kernel_rfl) NN
theorem R_document_Normal_1_eq {β : Type} (K : AV → Hp → Option β) (a0 : AV) (h : Hp) : (R_document_Normal_1 [a0] h).bind (fun p => K p.1 p.2) = f_document_Normal_1 Try.prog t_document_Normal_1 d_document_Normal_1 NN K a0 h := by
  rw [← f_document_Normal_1_run]; exact runF_bind rfl
noncomputable def F_document_Normal_1 : Fun := closedX [.o] [.o] R_document_Normal_1
theorem F_document_Normal_1_ok : CSound Try.prog 61 F_document_Normal_1 := closedX_sound _ _ R_document_Normal_1_ok
theorem F_document_Normal_1_run {a0 : AV} {v : AV} (ha : plains [a0] = true) (hv : f_document_Normal_1 Try.prog t_document_Normal_1 d_document_Normal_1 NN (fun v g => cvt false g v) a0 [] = some v) (h : Hp) : F_document_Normal_1 [a0] h = some (v, h) := by
  have e : (R_document_Normal_1 (nrms [.o] [a0]) []).bind (fun (p : AV × Hp) => cvt false p.2 p.1) = some v := (R_document_Normal_1_eq (fun v g => cvt false g v) a0 []).trans hv
  exact (closedX_bind (shr := [.o]) ha e h).trans (congrArg (fun x => some (x, h)) (nrmR_rep 1 v))
noncomputable def d_slices_IndexFunc_Message__document_Normal_1 : DTab := D0
theorem d_slices_IndexFunc_Message__document_Normal_1_ok : DSound Try.prog d_slices_IndexFunc_Message__document_Normal_1 := DSound.zero
noncomputable def t_slices_IndexFunc_Message__document_Normal_1 : Tab := (updF T0 61 F_document_Normal_1)
theorem t_slices_IndexFunc_Message__document_Normal_1_ok : TSound Try.prog t_slices_IndexFunc_Message__document_Normal_1 := (TSound.upd TSound.zero F_document_Normal_1_ok)
@[simp] theorem t_slices_IndexFunc_Message__document_Normal_1_61 : t_slices_IndexFunc_Message__document_Normal_1 61 = some F_document_Normal_1 := rfl
noncomputable def R_slices_IndexFunc_Message__document_Normal_1 : Fun := runF Try.prog t_slices_IndexFunc_Message__document_Normal_1 d_slices_IndexFunc_Message__document_Normal_1 NN [0, 1, 4, 5, 7, 8, 9, 16] Try.f65 2
theorem R_slices_IndexFunc_Message__document_Normal_1_ok : CSound Try.prog 65 R_slices_IndexFunc_Message__document_Normal_1 := run_sound t_slices_IndexFunc_Message__document_Normal_1_ok d_slices_IndexFunc_Message__document_Normal_1_ok mixed Try.func65 (by kernel_rfl) NN
theorem R_slices_IndexFunc_Message__document_Normal_1_eq {β : Type} (K : AV → Hp → Option β) (a0 : AV) (a1 : AV) (h : Hp) : (R_slices_IndexFunc_Message__document_Normal_1 [a0, a1] h).bind (fun p => K p.1 p.2) = f_slices_IndexFunc_Message Try.prog t_slices_IndexFunc_Message__document_Normal_1 d_slices_IndexFunc_Message__document_Normal_1 NN K a0 a1 h := by
  rw [← f_slices_IndexFunc_Message_run]; exact runF_bind rfl
noncomputable def F_slices_IndexFunc_Message__document_Normal_1 : Fun := closedX [.l 7, .o] [.o] R_slices_IndexFunc_Message__document_Normal_1
theorem F_slices_IndexFunc_Message__document_Normal_1_ok : CSound Try.prog 65 F_slices_IndexFunc_Message__document_Normal_1 := closedX_sound _ _ R_slices_IndexFunc_Message__document_Normal_1_ok
theorem F_slices_IndexFunc_Message__document_Normal_1_run {a0 : AV} {a1 : AV} {v : AV} (ha : plains [a0, a1] = true) (hv : f_slices_IndexFunc_Message Try.prog t_slices_IndexFunc_Message__document_Normal_1 d_slices_IndexFunc_Message__document_Normal_1 NN (fun v g => cvt false g v) (nrm (.l 7) a0) a1 [] = some v) (h : Hp) : F_slices_IndexFunc_Message__document_Normal_1 [a0, a1] h = some (v, h) := by
  have e : (R_slices_IndexFunc_Message__document_Normal_1 (nrms [.l 7, .o] [a0, a1]) []).bind (fun (p : AV × Hp) => cvt false p.2 p.1) = some v := (R_slices_IndexFunc_Message__document_Normal_1_eq (fun v g => cvt false g v) (nrm (.l 7) a0) a1 []).trans hv
  exact (closedX_bind (shr := [.o]) ha e h).trans (congrArg (fun x => some (x, h)) (nrmR_rep 1 v))
noncomputable def d_slices_ContainsFunc_Message__document_Normal_1 : DTab := D0
theorem d_slices_ContainsFunc_Message__document_Normal_1_ok : DSound Try.prog d_slices_ContainsFunc_Message__document_Normal_1 := DSound.zero
noncomputable def t_slices_ContainsFunc_Message__document_Normal_1 : Tab := (updF T0 65 F_slices_IndexFunc_Message__document_Normal_1)
theorem t_slices_ContainsFunc_Message__document_Normal_1_ok : TSound Try.prog t_slices_ContainsFunc_Message__document_Normal_1 := (TSound.upd TSound.zero F_slices_IndexFunc_Message__document_Normal_1_ok)
@[simp] theorem t_slices_ContainsFunc_Message__document_Normal_1_65 : t_slices_ContainsFunc_Message__document_Normal_1 65 = some F_slices_IndexFunc_Message__document_Normal_1 := rfl
noncomputable def R_slices_ContainsFunc_Message__document_Normal_1 : Fun := runF Try.prog t_slices_ContainsFunc_Message__document_Normal_1 d_slices_ContainsFunc_Message__document_Normal_1 NN [0, 1, 4] Try.f40 2
theorem R_slices_ContainsFunc_Message__document_Normal_1_ok : CSound Try.prog 40 R_slices_ContainsFunc_Message__document_Normal_1 := run_sound t_slices_ContainsFunc_Message__document_Normal_1_ok d_slices_ContainsFunc_Message__document_Normal_1_ok mixed Try.func40 (by kernel_rfl) NN
theorem R_slices_ContainsFunc_Message__document_Normal_1_eq {β : Type} (K : AV → Hp → Option β) (a0 : AV) (a1 : AV) (h : Hp) : (R_slices_ContainsFunc_Message__document_Normal_1 [a0, a1] h).bind (fun p => K p.1 p.2) = f_slices_ContainsFunc_Message Try.prog t_slices_ContainsFunc_Message__document_Normal_1 d_slices_ContainsFunc_Message__document_Normal_1 NN K a0 a1 h := by
  rw [← f_slices_ContainsFunc_Message_run]; exact runF_bind rfl
noncomputable def F_slices_ContainsFunc_Message__document_Normal_1 : Fun := closedX [.l 7, .o] [.o] R_slices_ContainsFunc_Message__document_Normal_1
theorem F_slices_ContainsFunc_Message__document_Normal_1_ok : CSound Try.prog 40 F_slices_ContainsFunc_Message__document_Normal_1 := closedX_sound _ _ R_slices_ContainsFunc_Message__document_Normal_1_ok
theorem F_slices_ContainsFunc_Message__document_Normal_1_run {a0 : AV} {a1 : AV} {v : AV} (ha : plains [a0, a1] = true) (hv : f_slices_ContainsFunc_Message Try.prog t_slices_ContainsFunc_Message__document_Normal_1 d_slices_ContainsFunc_Message__document_Normal_1 NN (fun v g => cvt false g v) (nrm (.l 7) a0) a1 [] = some v) (h : Hp) : F_slices_ContainsFunc_Message__document_Normal_1 [a0, a1] h = some (v, h) := by
  have e : (R_slices_ContainsFunc_Message__document_Normal_1 (nrms [.l 7, .o] [a0, a1]) []).bind (fun (p : AV × Hp) => cvt false p.2 p.1) = some v := (R_slices_ContainsFunc_Message__document_Normal_1_eq (fun v g => cvt false g v) (nrm (.l 7) a0) a1 []).trans hv
  exact (closedX_bind (shr := [.o]) ha e h).trans (congrArg (fun x => some (x, h)) (nrmR_rep 1 v))
noncomputable def d_cmp_Or_int : DTab := D0
theorem d_cmp_Or_int_ok : DSound Try.prog d_cmp_Or_int := DSound.zero
noncomputable def t_cmp_Or_int : Tab := T0
theorem t_cmp_Or_int_ok : TSound Try.prog t_cmp_Or_int := TSound.zero
noncomputable def R_cmp_Or_int : Fun := runF Try.prog t_cmp_Or_int d_cmp_Or_int NN [0, 2, 3, 5, 6, 7, 8, 9, 14] Try.f76 1
theorem R_cmp_Or_int_ok : CSound Try.prog 76 R_cmp_Or_int := run_sound t_cmp_Or_int_ok d_cmp_Or_int_ok mixed Try.func76 (by kernel_rfl) NN
theorem R_cmp_Or_int_eq {β : Type} (K : AV → Hp → Option β) (a0 : AV) (h : Hp) : (R_cmp_Or_int [a0] h).bind (fun p => K p.1 p.2) = f_cmp_Or_int Try.prog t_cmp_Or_int d_cmp_Or_int NN K a0 h := by
  rw [← f_cmp_Or_int_run]; exact runF_bind rfl
noncomputable def F_cmp_Or_int : Fun := closedX [.l 1] [.o] R_cmp_Or_int
theorem F_cmp_Or_int_ok : CSound Try.prog 76 F_cmp_Or_int := closedX_sound _ _ R_cmp_Or_int_ok
noncomputable def G_cmp_Or_int : DFun := closedXD [.l 1] [.o] R_cmp_Or_int
theorem G_cmp_Or_int_ro : Ro F_cmp_Or_int G_cmp_Or_int := closedX_ro _ _ _
theorem F_cmp_Or_int_own {a0 : AV} {x0 : AV} {h : Hp} {v : AV} (ha : cvts false h [x0] = some [a0]) (hv : ∀ st, f_cmp_Or_int Try.prog t_cmp_Or_int d_cmp_Or_int NN (fun v g => cvt st g v) (nrm (.l 1) a0) [] = some v) : F_cmp_Or_int [x0] h = some (v, h) := by
  have e : ∀ st, (R_cmp_Or_int (nrms [.l 1] [a0]) []).bind (fun (p : AV × Hp) => cvt st p.2 p.1) = some v := fun st => (R_cmp_Or_int_eq (fun v g => cvt st g v) (nrm (.l 1) a0) []).trans (hv st)
  exact (closedX_ownB (shr := [.o]) ha e).trans (congrArg (fun x => some (x, h)) (nrmR_rep 1 v))
noncomputable def d_cmp_isNaN_int : DTab := D0
theorem d_cmp_isNaN_int_ok : DSound Try.prog d_cmp_isNaN_int := DSound.zero
noncomputable def t_cmp_isNaN_int : Tab := T0
theorem t_cmp_isNaN_int_ok : TSound Try.prog t_cmp_isNaN_int := TSound.zero
noncomputable def R_cmp_isNaN_int : Fun := runF Try.prog t_cmp_isNaN_int d_cmp_isNaN_int NN [0, 2] Try.f91 1
theorem R_cmp_isNaN_int_ok : CSound Try.prog 91 R_cmp_isNaN_int := run_sound t_cmp_isNaN_int_ok d_cmp_isNaN_int_ok mixed Try.func91 (by kernel_rfl) NN
theorem R_cmp_isNaN_int_eq {β : Type} (K : AV → Hp → Option β) (a0 : AV) (h : Hp) : (R_cmp_isNaN_int [a0] h).bind (fun p => K p.1 p.2) = f_cmp_isNaN_int Try.prog t_cmp_isNaN_int d_cmp_isNaN_int NN K a0 h := by
  rw [← f_cmp_isNaN_int_run]; exact runF_bind rfl
noncomputable def F_cmp_isNaN_int : Fun := closedX [.o] [.o] R_cmp_isNaN_int
theorem F_cmp_isNaN_int_ok : CSound Try.prog 91 F_cmp_isNaN_int := closedX_sound _ _ R_cmp_isNaN_int_ok
theorem F_cmp_isNaN_int_run {a0 : AV} {v : AV} (ha : plains [a0] = true) (hv : f_cmp_isNaN_int Try.prog t_cmp_isNaN_int d_cmp_isNaN_int NN (fun v g => cvt false g v) a0 [] = some v) (h : Hp) : F_cmp_isNaN_int [a0] h = some (v, h) := by
  have e : (R_cmp_isNaN_int (nrms [.o] [a0]) []).bind (fun (p : AV × Hp) => cvt false p.2 p.1) = some v := (R_cmp_isNaN_int_eq (fun v g => cvt false g v) a0 []).trans hv
  exact (closedX_bind (shr := [.o]) ha e h).trans (congrArg (fun x => some (x, h)) (nrmR_rep 1 v))
noncomputable def d_cmp_Compare_int : DTab := D0
theorem d_cmp_Compare_int_ok : DSound Try.prog d_cmp_Compare_int := DSound.zero
noncomputable def t_cmp_Compare_int : Tab := (updF T0 91 F_cmp_isNaN_int)
theorem t_cmp_Compare_int_ok : TSound Try.prog t_cmp_Compare_int := (TSound.upd TSound.zero F_cmp_isNaN_int_ok)
@[simp] theorem t_cmp_Compare_int_91 : t_cmp_Compare_int 91 = some F_cmp_isNaN_int := rfl
noncomputable def R_cmp_Compare_int : Fun := runF Try.prog t_cmp_Compare_int d_cmp_Compare_int NN [0, 1, 4, 5, 6, 11, 12, 13, 16, 19] Try.f77 2
theorem R_cmp_Compare_int_ok : CSound Try.prog 77 R_cmp_Compare_int := run_sound t_cmp_Compare_int_ok d_cmp_Compare_int_ok mixed Try.func77 (by kernel_rfl) NN
theorem R_cmp_Compare_int_eq {β : Type} (K : AV → Hp → Option β) (a0 : AV) (a1 : AV) (h : Hp) : (R_cmp_Compare_int [a0, a1] h).bind (fun p => K p.1 p.2) = f_cmp_Compare_int Try.prog t_cmp_Compare_int d_cmp_Compare_int NN K a0 a1 h := by
  rw [← f_cmp_Compare_int_run]; exact runF_bind rfl
noncomputable def F_cmp_Compare_int : Fun := closedX [.o, .o] [.o] R_cmp_Compare_int
theorem F_cmp_Compare_int_ok : CSound Try.prog 77 F_cmp_Compare_int := closedX_sound _ _ R_cmp_Compare_int_ok
noncomputable def G_cmp_Compare_int : DFun := closedXD [.o, .o] [.o] R_cmp_Compare_int
theorem G_cmp_Compare_int_ro : Ro F_cmp_Compare_int G_cmp_Compare_int := closedX_ro _ _ _
theorem F_cmp_Compare_int_run {a0 : AV} {a1 : AV} {v : AV} (ha : plains [a0, a1] = true) (hv : f_cmp_Compare_int Try.prog t_cmp_Compare_int d_cmp_Compare_int NN (fun v g => cvt false g v) a0 a1 [] = some v) (h : Hp) : F_cmp_Compare_int [a0, a1] h = some (v, h) := by
  have e : (R_cmp_Compare_int (nrms [.o, .o] [a0, a1]) []).bind (fun (p : AV × Hp) => cvt false p.2 p.1) = some v := (R_cmp_Compare_int_eq (fun v g => cvt false g v) a0 a1 []).trans hv
  exact (closedX_bind (shr := [.o]) ha e h).trans (congrArg (fun x => some (x, h)) (nrmR_rep 1 v))
noncomputable def d_document_compare : DTab := (updD (updD D0 76 G_cmp_Or_int) 77 G_cmp_Compare_int)
theorem d_document_compare_ok : DSound Try.prog d_document_compare := (DSound.ro (DSound.ro DSound.zero G_cmp_Or_int_ro F_cmp_Or_int_ok) G_cmp_Compare_int_ro F_cmp_Compare_int_ok)
@[simp] theorem d_document_compare_76 : d_document_compare 76 = some G_cmp_Or_int := rfl
@[simp] theorem d_document_compare_77 : d_document_compare 77 = some G_cmp_Compare_int := rfl
noncomputable def t_document_compare : Tab := (updF (updF T0 76 F_cmp_Or_int) 77 F_cmp_Compare_int)
theorem t_document_compare_ok : TSound Try.prog t_document_compare := (TSound.upd (TSound.upd TSound.zero F_cmp_Or_int_ok) F_cmp_Compare_int_ok)
@[simp] theorem t_document_compare_76 : t_document_compare 76 = some F_cmp_Or_int := rfl
@[simp] theorem t_document_compare_77 : t_document_compare 77 = some F_cmp_Compare_int := rfl
noncomputable def R_document_compare : Fun := runF Try.prog t_document_compare d_document_compare NN [0, 1, 2, 3, 4] Try.f63 2
theorem R_document_compare_ok : CSound Try.prog 63 R_document_compare := run_sound t_document_compare_ok d_document_compare_ok mixed Try.func63 (by kernel_rfl) NN
theorem R_document_compare_eq {β : Type} (K : AV → Hp → Option β) (a0 : AV) (a1 : AV) (h : Hp) : (R_document_compare [a0, a1] h).bind (fun p => K p.1 p.2) = f_document_compare Try.prog t_document_compare d_document_compare NN K a0 a1 h := by
  rw [← f_document_compare_run]; exact runF_bind rfl
noncomputable def F_document_compare : Fun := closedX [.o, .o] [.o] R_document_compare
theorem F_document_compare_ok : CSound Try.prog 63 F_document_compare := closedX_sound _ _ R_document_compare_ok
theorem F_document_compare_run {a0 : AV} {a1 : AV} {v : AV} (ha : plains [a0, a1] = true) (hv : f_document_compare Try.prog t_document_compare d_document_compare NN (fun v g => cvt false g v) a0 a1 [] = some v) (h : Hp) : F_document_compare [a0, a1] h = some (v, h) := by
  have e : (R_document_compare (nrms [.o, .o] [a0, a1]) []).bind (fun (p : AV × Hp) => cvt false p.2 p.1) = some v := (R_document_compare_eq (fun v g => cvt false g v) a0 a1 []).trans hv
  exact (closedX_bind (shr := [.o]) ha e h).trans (congrArg (fun x => some (x, h)) (nrmR_rep 1 v))
noncomputable def F_slices_SortFunc_Message__document_compare : Fun := sortF 7 okI 63 F_document_compare
theorem F_slices_SortFunc_Message__document_compare_ok : CSound Try.prog 62 F_slices_SortFunc_Message__document_compare := sortF_sound (ρ := Try.sort62_ren) Try.sort62 Try.isAgg31 Try.sizeOf31 ⟨Try.f62, Try.func62, by kernel_rfl, by kernel_rfl⟩ (by decide) F_document_compare_ok ⟨Try.f63, Try.func63, by kernel_rfl, by kernel_rfl⟩
noncomputable def d_slices_Compact_Message : DTab := D0
theorem d_slices_Compact_Message_ok : DSound Try.prog d_slices_Compact_Message := DSound.zero
noncomputable def t_slices_Compact_Message : Tab := T0
theorem t_slices_Compact_Message_ok : TSound Try.prog t_slices_Compact_Message := TSound.zero
noncomputable def R_slices_Compact_Message : Fun := runF Try.prog t_slices_Compact_Message d_slices_Compact_Message NN [0, 2, 3, 4, 5, 8, 13, 25, 32, 44] Try.f64 1
theorem R_slices_Compact_Message_ok : CSound Try.prog 64 R_slices_Compact_Message := run_sound t_slices_Compact_Message_ok d_slices_Compact_Message_ok mixed Try.func64 (by kernel_rfl) NN
theorem R_slices_Compact_Message_eq {β : Type} (K : AV → Hp → Option β) (a0 : AV) (h : Hp) : (R_slices_Compact_Message [a0] h).bind (fun p => K p.1 p.2) = f_slices_Compact_Message Try.prog t_slices_Compact_Message d_slices_Compact_Message NN K a0 h := by
  rw [← f_slices_Compact_Message_run]; exact runF_bind rfl
theorem R_slices_Compact_Message_raw (a0 : AV) (h : Hp) : R_slices_Compact_Message [a0] h = f_slices_Compact_Message Try.prog t_slices_Compact_Message d_slices_Compact_Message NN (fun v h => some (v, h)) a0 h := (bind_pair _).symm.trans (R_slices_Compact_Message_eq (fun v h => some (v, h)) a0 h)
noncomputable def d_document_Normal : DTab := D0
theorem d_document_Normal_ok : DSound Try.prog d_document_Normal := DSound.zero
noncomputable def t_document_Normal : Tab := (updF (updF (updF (updF (updF (updF T0 39 R_slices_Clone_Message) 40 F_slices_ContainsFunc_Message__document_Normal_1) 61 F_document_Normal_1) 62 F_slices_SortFunc_Message__document_compare) 63 F_document_compare) 64 R_slices_Compact_Message)
theorem t_document_Normal_ok : TSound Try.prog t_document_Normal := (TSound.upd (TSound.upd (TSound.upd (TSound.upd (TSound.upd (TSound.upd TSound.zero R_slices_Clone_Message_ok) F_slices_ContainsFunc_Message__document_Normal_1_ok) F_document_Normal_1_ok) F_slices_SortFunc_Message__document_compare_ok) F_document_compare_ok) R_slices_Compact_Message_ok)
@[simp] theorem t_document_Normal_39 : t_document_Normal 39 = some R_slices_Clone_Message := rfl
@[simp] theorem t_document_Normal_40 : t_document_Normal 40 = some F_slices_ContainsFunc_Message__document_Normal_1 := rfl
@[simp] theorem t_document_Normal_61 : t_document_Normal 61 = some F_document_Normal_1 := rfl
@[simp] theorem t_document_Normal_62 : t_document_Normal 62 = some F_slices_SortFunc_Message__document_compare := rfl
@[simp] theorem t_document_Normal_63 : t_document_Normal 63 = some F_document_compare := rfl
@[simp] theorem t_document_Normal_64 : t_document_Normal 64 = some R_slices_Compact_Message := rfl
noncomputable def R_document_Normal : Fun := runF Try.prog t_document_Normal d_document_Normal NN [0, 2, 3, 4, 7, 9] Try.f38 1
theorem R_document_Normal_ok : CSound Try.prog 38 R_document_Normal := run_sound t_document_Normal_ok d_document_Normal_ok mixed Try.func38 (by kernel_rfl) NN
theorem R_document_Normal_eq {β : Type} (K : AV → Hp → Option β) (a0 : AV) (h : Hp) : (R_document_Normal [a0] h).bind (fun p => K p.1 p.2) = f_document_Normal Try.prog t_document_Normal d_document_Normal NN K a0 h := by
  rw [← f_document_Normal_run]; exact runF_bind rfl
noncomputable def F_document_Normal : Fun := closedX [.l 7] [.l 7, .o] R_document_Normal
theorem F_document_Normal_ok : CSound Try.prog 38 F_document_Normal := closedX_sound _ _ R_document_Normal_ok
theorem F_document_Normal_own {a0 : AV} {x0 : AV} {h : Hp} {v : AV} (ha : cvts false h [x0] = some [a0]) (hv : ∀ st, f_document_Normal Try.prog t_document_Normal d_document_Normal NN (fun v g => cvt st g v) (nrm (.l 7) a0) [] = some v) : F_document_Normal [x0] h = some ((nrmR [.l 7, .o] v), h) := by
  have e : ∀ st, (R_document_Normal (nrms [.l 7] [a0]) []).bind (fun (p : AV × Hp) => cvt st p.2 p.1) = some v := fun st => (R_document_Normal_eq (fun v g => cvt st g v) (nrm (.l 7) a0) []).trans (hv st)
  exact (closedX_ownB (shr := [.l 7, .o]) ha e).trans (congrArg (fun x => some (x, h)) rfl)
noncomputable def d_network_Known : DTab := D0
theorem d_network_Known_ok : DSound Try.prog d_network_Known := DSound.zero
noncomputable def t_network_Known : Tab := (updF (updF (updF T0 37 F_slices_Contains_Message) 38 F_document_Normal) 49 F_network_to)
theorem t_network_Known_ok : TSound Try.prog t_network_Known := (TSound.upd (TSound.upd (TSound.upd TSound.zero F_slices_Contains_Message_ok) F_document_Normal_ok) F_network_to_ok)
@[simp] theorem t_network_Known_37 : t_network_Known 37 = some F_slices_Contains_Message := rfl
@[simp] theorem t_network_Known_38 : t_network_Known 38 = some F_document_Normal := rfl
@[simp] theorem t_network_Known_49 : t_network_Known 49 = some F_network_to := rfl
noncomputable def R_network_Known : Fun := runF Try.prog t_network_Known d_network_Known NN [0, 1, 2, 6, 7, 8, 9, 10, 12, 21, 23, 24, 25, 26, 33] Try.f18 3
theorem R_network_Known_ok : CSound Try.prog 18 R_network_Known := run_sound t_network_Known_ok d_network_Known_ok mixed Try.func18 (by kernel_rfl) NN
theorem R_network_Known_eq {β : Type} (K : AV → Hp → Option β) (a0 : AV) (a1 : AV) (a2 : AV) (h : Hp) : (R_network_Known [a0, a1, a2] h).bind (fun p => K p.1 p.2) = f_network_Known Try.prog t_network_Known d_network_Known NN K a0 a1 a2 h := by
  rw [← f_network_Known_run]; exact runF_bind rfl
theorem R_network_Known_raw (a0 : AV) (a1 : AV) (a2 : AV) (h : Hp) : R_network_Known [a0, a1, a2] h = f_network_Known Try.prog t_network_Known d_network_Known NN (fun v h => some (v, h)) a0 a1 a2 h := (bind_pair _).symm.trans (R_network_Known_eq (fun v h => some (v, h)) a0 a1 a2 h)
noncomputable def d_network_firsts : DTab := D0
theorem d_network_firsts_ok : DSound Try.prog d_network_firsts := DSound.zero
noncomputable def ty_network_firsts : Tab := (updF T0 69 F_network_deliveries)
theorem ty_network_firsts_ok : TSound Try.prog ty_network_firsts := (TSound.upd TSound.zero F_network_deliveries_ok)
@[simp] theorem ty_network_firsts_69 : ty_network_firsts 69 = some F_network_deliveries := rfl
noncomputable def Y_network_firsts : Fun := yieldF Try.prog ty_network_firsts d_network_firsts NN [0, 1, 4, 5, 6, 7, 9, 13, 14, 15, 23] 2
theorem Y_network_firsts_ok : YSound Try.prog Y_network_firsts := yieldF_sound ty_network_firsts_ok d_network_firsts_ok mixed NN
theorem Y_network_firsts_R0 {L : Nat} {h : Hp} {pend : Option Code} {v5 : AV} {v6 : AV} {v14 : AV} {v15 : AV} (hL : h[L]? = some (.loop (lpm_network_firsts_0) (lpp_network_firsts_0) (lpa_network_firsts_0) (lpb_network_firsts_0) (envT [(5, v5), (6, v6)]) .ready pend)) : Y_network_firsts [ymark, .yl L, v14, v15] h = f_network_firsts_R0 Try.prog ty_network_firsts d_network_firsts NN L (envT [(5, v5), (6, v6)]) (fun h => some (.s (.bool true), h.set L (.loop (lpm_network_firsts_0) (lpp_network_firsts_0) (lpa_network_firsts_0) (lpb_network_firsts_0) (envT [(5, v5), (6, v6)]) .ready none))) v5 v6 v14 h := (yieldF_val hL (by kernel_rfl)).trans (f_network_firsts_R0_run ty_network_firsts d_network_firsts NN L v5 v6 v14 v15 h)
noncomputable def t_network_deliveries_1__network_firsts : Tab := (updF T0 YB Y_network_firsts)
theorem t_network_deliveries_1__network_firsts_ok : TSound Try.prog t_network_deliveries_1__network_firsts := (TSound.updY TSound.zero Y_network_firsts_ok)
@[simp] theorem t_network_deliveries_1__network_firsts_Y : t_network_deliveries_1__network_firsts YB = some Y_network_firsts := rfl
noncomputable def F_network_deliveries_1__network_firsts : Fun := runF Try.prog t_network_deliveries_1__network_firsts D0 NN [0, 1, 2, 5, 6, 7, 8, 9, 19] Try.f78 3
theorem F_network_deliveries_1__network_firsts_ok : CSound Try.prog 78 F_network_deliveries_1__network_firsts := run_sound t_network_deliveries_1__network_firsts_ok DSound.zero mixed Try.func78 (by kernel_rfl) NN
theorem F_network_deliveries_1__network_firsts_eq {β : Type} (K : AV → Hp → Option β) (a0 : AV) (a1 : AV) (a2 : AV) (h : Hp) : (F_network_deliveries_1__network_firsts [a0, a1, a2] h).bind (fun p => K p.1 p.2) = f_network_deliveries_1 Try.prog t_network_deliveries_1__network_firsts D0 NN K a0 a1 a2 h := by
  rw [← f_network_deliveries_1_run]; exact runF_bind rfl
theorem F_network_deliveries_1__network_firsts_raw (a0 : AV) (a1 : AV) (a2 : AV) (h : Hp) : F_network_deliveries_1__network_firsts [a0, a1, a2] h = f_network_deliveries_1 Try.prog t_network_deliveries_1__network_firsts D0 NN (fun v h => some (v, h)) a0 a1 a2 h := (bind_pair _).symm.trans (F_network_deliveries_1__network_firsts_eq (fun v h => some (v, h)) a0 a1 a2 h)
noncomputable def t_network_firsts : Tab := (updF ty_network_firsts 78 F_network_deliveries_1__network_firsts)
theorem t_network_firsts_ok : TSound Try.prog t_network_firsts := (TSound.upd ty_network_firsts_ok F_network_deliveries_1__network_firsts_ok)
@[simp] theorem t_network_firsts_69 : t_network_firsts 69 = some F_network_deliveries := rfl
@[simp] theorem t_network_firsts_78 : t_network_firsts 78 = some F_network_deliveries_1__network_firsts := rfl
noncomputable def R_network_firsts : Fun := runF Try.prog t_network_firsts d_network_firsts NN [0, 1, 4, 5, 6, 7, 9, 13, 14, 15, 23] Try.f54 2
theorem R_network_firsts_ok : CSound Try.prog 54 R_network_firsts := run_sound t_network_firsts_ok d_network_firsts_ok mixed Try.func54 (by kernel_rfl) NN
theorem R_network_firsts_eq {β : Type} (K : AV → Hp → Option β) (a0 : AV) (a1 : AV) (h : Hp) : (R_network_firsts [a0, a1] h).bind (fun p => K p.1 p.2) = f_network_firsts Try.prog t_network_firsts d_network_firsts NN K a0 a1 h := by
  rw [← f_network_firsts_run]; exact runF_bind rfl
noncomputable def F_network_firsts : Fun := R_network_firsts
theorem F_network_firsts_ok : CSound Try.prog 54 F_network_firsts := R_network_firsts_ok
theorem F_network_firsts_raw (a0 : AV) (a1 : AV) (h : Hp) : F_network_firsts [a0, a1] h = f_network_firsts Try.prog t_network_firsts d_network_firsts NN (fun v h => some (v, h)) a0 a1 h := (bind_pair _).symm.trans (R_network_firsts_eq (fun v h => some (v, h)) a0 a1 h)
noncomputable def d_network_Lost : DTab := D0
theorem d_network_Lost_ok : DSound Try.prog d_network_Lost := DSound.zero
noncomputable def t_network_Lost : Tab := (updF (updF T0 53 F_network_asked) 54 F_network_firsts)
theorem t_network_Lost_ok : TSound Try.prog t_network_Lost := (TSound.upd (TSound.upd TSound.zero F_network_asked_ok) F_network_firsts_ok)
@[simp] theorem t_network_Lost_53 : t_network_Lost 53 = some F_network_asked := rfl
@[simp] theorem t_network_Lost_54 : t_network_Lost 54 = some F_network_firsts := rfl
noncomputable def R_network_Lost : Fun := runF Try.prog t_network_Lost d_network_Lost NN [0, 1, 4, 5, 6, 7, 8, 9, 11, 16, 22, 23, 24, 33] Try.f22 2
theorem R_network_Lost_ok : CSound Try.prog 22 R_network_Lost := run_sound t_network_Lost_ok d_network_Lost_ok mixed Try.func22 (by kernel_rfl) NN
theorem R_network_Lost_eq {β : Type} (K : AV → Hp → Option β) (a0 : AV) (a1 : AV) (h : Hp) : (R_network_Lost [a0, a1] h).bind (fun p => K p.1 p.2) = f_network_Lost Try.prog t_network_Lost d_network_Lost NN K a0 a1 h := by
  rw [← f_network_Lost_run]; exact runF_bind rfl
noncomputable def F_network_Lost : Fun := closedX [.l 10, .l 1] [.l 1, .o] R_network_Lost
theorem F_network_Lost_ok : CSound Try.prog 22 F_network_Lost := closedX_sound _ _ R_network_Lost_ok
theorem F_network_Lost_own {a0 : AV} {a1 : AV} {x0 : AV} {x1 : AV} {h : Hp} {v : AV} (ha : cvts false h [x0, x1] = some [a0, a1]) (hv : ∀ st, f_network_Lost Try.prog t_network_Lost d_network_Lost NN (fun v g => cvt st g v) (nrm (.l 10) a0) (nrm (.l 1) a1) [] = some v) : F_network_Lost [x0, x1] h = some ((nrmR [.l 1, .o] v), h) := by
  have e : ∀ st, (R_network_Lost (nrms [.l 10, .l 1] [a0, a1]) []).bind (fun (p : AV × Hp) => cvt st p.2 p.1) = some v := fun st => (R_network_Lost_eq (fun v g => cvt st g v) (nrm (.l 10) a0) (nrm (.l 1) a1) []).trans (hv st)
  exact (closedX_ownB (shr := [.l 1, .o]) ha e).trans (congrArg (fun x => some (x, h)) rfl)
noncomputable def d_network_Repeated : DTab := D0
theorem d_network_Repeated_ok : DSound Try.prog d_network_Repeated := DSound.zero
noncomputable def t_network_Repeated : Tab := (updF (updF T0 53 F_network_asked) 54 F_network_firsts)
theorem t_network_Repeated_ok : TSound Try.prog t_network_Repeated := (TSound.upd (TSound.upd TSound.zero F_network_asked_ok) F_network_firsts_ok)
@[simp] theorem t_network_Repeated_53 : t_network_Repeated 53 = some F_network_asked := rfl
@[simp] theorem t_network_Repeated_54 : t_network_Repeated 54 = some F_network_firsts := rfl
noncomputable def R_network_Repeated : Fun := runF Try.prog t_network_Repeated d_network_Repeated NN [0, 1, 4, 5, 6, 11] Try.f24 2
theorem R_network_Repeated_ok : CSound Try.prog 24 R_network_Repeated := run_sound t_network_Repeated_ok d_network_Repeated_ok mixed Try.func24 (by kernel_rfl) NN
theorem R_network_Repeated_eq {β : Type} (K : AV → Hp → Option β) (a0 : AV) (a1 : AV) (h : Hp) : (R_network_Repeated [a0, a1] h).bind (fun p => K p.1 p.2) = f_network_Repeated Try.prog t_network_Repeated d_network_Repeated NN K a0 a1 h := by
  rw [← f_network_Repeated_run]; exact runF_bind rfl
noncomputable def F_network_Repeated : Fun := closedX [.l 10, .l 1] [.o, .o] R_network_Repeated
theorem F_network_Repeated_ok : CSound Try.prog 24 F_network_Repeated := closedX_sound _ _ R_network_Repeated_ok
theorem F_network_Repeated_run {a0 : AV} {a1 : AV} {v : AV} (ha : plains [a0, a1] = true) (hv : f_network_Repeated Try.prog t_network_Repeated d_network_Repeated NN (fun v g => cvt false g v) (nrm (.l 10) a0) (nrm (.l 1) a1) [] = some v) (h : Hp) : F_network_Repeated [a0, a1] h = some (v, h) := by
  have e : (R_network_Repeated (nrms [.l 10, .l 1] [a0, a1]) []).bind (fun (p : AV × Hp) => cvt false p.2 p.1) = some v := (R_network_Repeated_eq (fun v g => cvt false g v) (nrm (.l 10) a0) (nrm (.l 1) a1) []).trans hv
  exact (closedX_bind (shr := [.o, .o]) ha e h).trans (congrArg (fun x => some (x, h)) (nrmR_rep 2 v))
noncomputable def d_network_Crossed : DTab := D0
theorem d_network_Crossed_ok : DSound Try.prog d_network_Crossed := DSound.zero
noncomputable def t_network_Crossed : Tab := (updF (updF T0 53 F_network_asked) 54 F_network_firsts)
theorem t_network_Crossed_ok : TSound Try.prog t_network_Crossed := (TSound.upd (TSound.upd TSound.zero F_network_asked_ok) F_network_firsts_ok)
@[simp] theorem t_network_Crossed_53 : t_network_Crossed 53 = some F_network_asked := rfl
@[simp] theorem t_network_Crossed_54 : t_network_Crossed 54 = some F_network_firsts := rfl
noncomputable def F_network_Crossed : Fun := closedXK [.l 10, .l 1] [.o, .o] (fun {β} (K : AV → Hp → Option β) (args : List AV) (h : Hp) => if args.length = 2 then runK Try.prog t_network_Crossed d_network_Crossed NN [0, 1, 4, 5, 6, 7, 8, 9, 10, 11, 12, 17, 23, 25, 30, 32, 43] Try.f26 K args h else none)
theorem F_network_Crossed_ok : CSound Try.prog 26 F_network_Crossed := closedXK_sound _ _ (runK_sound t_network_Crossed_ok d_network_Crossed_ok mixed Try.func26 (by kernel_rfl) NN)
theorem F_network_Crossed_own {a0 : AV} {a1 : AV} {x0 : AV} {x1 : AV} {h : Hp} {v : AV} (ha : cvts false h [x0, x1] = some [a0, a1]) (hv : ∀ st, f_network_Crossed Try.prog t_network_Crossed d_network_Crossed NN (fun v g => cvt st g v) (nrm (.l 10) a0) (nrm (.l 1) a1) [] = some v) : F_network_Crossed [x0, x1] h = some (v, h) :=
  (closedXK_own (RK := (fun {β} (K : AV → Hp → Option β) (args : List AV) (h : Hp) => if args.length = 2 then runK Try.prog t_network_Crossed d_network_Crossed NN [0, 1, 4, 5, 6, 7, 8, 9, 10, 11, 12, 17, 23, 25, 30, 32, 43] Try.f26 K args h else none)) ha (fun st => (if_pos rfl).trans ((f_network_Crossed_run t_network_Crossed d_network_Crossed NN (fun v g => cvt st g v) (nrm (.l 10) a0) (nrm (.l 1) a1) []).trans (hv st)))).trans (congrArg (fun x => some (x, h)) (nrmR_rep 2 v))
noncomputable def d_law41_example : DTab := D0
theorem d_law41_example_ok : DSound Try.prog d_law41_example := DSound.zero
noncomputable def t_law41_example : Tab := T0
theorem t_law41_example_ok : TSound Try.prog t_law41_example := TSound.zero
noncomputable def R_law41_example : Fun := runF Try.prog t_law41_example d_law41_example NN [0, 1, 2, 3, 4] Try.f45 0
theorem R_law41_example_ok : CSound Try.prog 45 R_law41_example := run_sound t_law41_example_ok d_law41_example_ok mixed Try.func45 (by kernel_rfl) NN
theorem R_law41_example_eq {β : Type} (K : AV → Hp → Option β) (h : Hp) : (R_law41_example [] h).bind (fun p => K p.1 p.2) = f_law41_example Try.prog t_law41_example d_law41_example NN K  h := by
  rw [← f_law41_example_run]; exact runF_bind rfl
noncomputable def F_law41_example : Fun := closedX [] [.l 10] R_law41_example
theorem F_law41_example_ok : CSound Try.prog 45 F_law41_example := closedX_sound _ _ R_law41_example_ok
theorem F_law41_example_run {v : AV} (ha : plains [] = true) (hv : f_law41_example Try.prog t_law41_example d_law41_example NN (fun v g => cvt false g v)  [] = some v) (h : Hp) : F_law41_example [] h = some ((nrmR [.l 10] v), h) := by
  have e : (R_law41_example (nrms [] []) []).bind (fun (p : AV × Hp) => cvt false p.2 p.1) = some v := (R_law41_example_eq (fun v g => cvt false g v)  []).trans hv
  exact (closedX_bind (shr := [.l 10]) ha e h).trans (congrArg (fun x => some (x, h)) rfl)
noncomputable def d_slices_Equal_int : DTab := D0
theorem d_slices_Equal_int_ok : DSound Try.prog d_slices_Equal_int := DSound.zero
noncomputable def t_slices_Equal_int : Tab := T0
theorem t_slices_Equal_int_ok : TSound Try.prog t_slices_Equal_int := TSound.zero
noncomputable def R_slices_Equal_int : Fun := runF Try.prog t_slices_Equal_int d_slices_Equal_int NN [0, 1, 4, 5, 10, 12, 13, 14, 24] Try.f46 2
theorem R_slices_Equal_int_ok : CSound Try.prog 46 R_slices_Equal_int := run_sound t_slices_Equal_int_ok d_slices_Equal_int_ok mixed Try.func46 (by kernel_rfl) NN
theorem R_slices_Equal_int_eq {β : Type} (K : AV → Hp → Option β) (a0 : AV) (a1 : AV) (h : Hp) : (R_slices_Equal_int [a0, a1] h).bind (fun p => K p.1 p.2) = f_slices_Equal_int Try.prog t_slices_Equal_int d_slices_Equal_int NN K a0 a1 h := by
  rw [← f_slices_Equal_int_run]; exact runF_bind rfl
noncomputable def F_slices_Equal_int : Fun := closedX [.l 1, .l 1] [.o] R_slices_Equal_int
theorem F_slices_Equal_int_ok : CSound Try.prog 46 F_slices_Equal_int := closedX_sound _ _ R_slices_Equal_int_ok
theorem F_slices_Equal_int_run {a0 : AV} {a1 : AV} {v : AV} (ha : plains [a0, a1] = true) (hv : f_slices_Equal_int Try.prog t_slices_Equal_int d_slices_Equal_int NN (fun v g => cvt false g v) (nrm (.l 1) a0) (nrm (.l 1) a1) [] = some v) (h : Hp) : F_slices_Equal_int [a0, a1] h = some (v, h) := by
  have e : (R_slices_Equal_int (nrms [.l 1, .l 1] [a0, a1]) []).bind (fun (p : AV × Hp) => cvt false p.2 p.1) = some v := (R_slices_Equal_int_eq (fun v g => cvt false g v) (nrm (.l 1) a0) (nrm (.l 1) a1) []).trans hv
  exact (closedX_bind (shr := [.o]) ha e h).trans (congrArg (fun x => some (x, h)) (nrmR_rep 1 v))
noncomputable def d_law41_awake : DTab := D0
theorem d_law41_awake_ok : DSound Try.prog d_law41_awake := DSound.zero
noncomputable def t_law41_awake : Tab := (updF (updF (updF (updF (updF (updF (updF T0 15 R_network_Deliver) 18 R_network_Known) 22 F_network_Lost) 24 F_network_Repeated) 26 F_network_Crossed) 45 F_law41_example) 46 F_slices_Equal_int)
theorem t_law41_awake_ok : TSound Try.prog t_law41_awake := (TSound.upd (TSound.upd (TSound.upd (TSound.upd (TSound.upd (TSound.upd (TSound.upd TSound.zero R_network_Deliver_ok) R_network_Known_ok) F_network_Lost_ok) F_network_Repeated_ok) F_network_Crossed_ok) F_law41_example_ok) F_slices_Equal_int_ok)
@[simp] theorem t_law41_awake_15 : t_law41_awake 15 = some R_network_Deliver := rfl
@[simp] theorem t_law41_awake_18 : t_law41_awake 18 = some R_network_Known := rfl
@[simp] theorem t_law41_awake_22 : t_law41_awake 22 = some F_network_Lost := rfl
@[simp] theorem t_law41_awake_24 : t_law41_awake 24 = some F_network_Repeated := rfl
@[simp] theorem t_law41_awake_26 : t_law41_awake 26 = some F_network_Crossed := rfl
@[simp] theorem t_law41_awake_45 : t_law41_awake 45 = some F_law41_example := rfl
@[simp] theorem t_law41_awake_46 : t_law41_awake 46 = some F_slices_Equal_int := rfl
noncomputable def R_law41_awake : Fun := runF Try.prog t_law41_awake d_law41_awake NN [0, 1, 2, 3, 4, 5, 6, 7, 8, 9, 10, 11] Try.f10 0
theorem R_law41_awake_ok : CSound Try.prog 10 R_law41_awake := run_sound t_law41_awake_ok d_law41_awake_ok mixed Try.func10 (by kernel_rfl) NN
theorem R_law41_awake_eq {β : Type} (K : AV → Hp → Option β) (h : Hp) : (R_law41_awake [] h).bind (fun p => K p.1 p.2) = f_law41_awake Try.prog t_law41_awake d_law41_awake NN K  h := by
  rw [← f_law41_awake_run]; exact runF_bind rfl
noncomputable def F_law41_awake : Fun := closedX [] [.o] R_law41_awake
theorem F_law41_awake_ok : CSound Try.prog 10 F_law41_awake := closedX_sound _ _ R_law41_awake_ok
theorem F_law41_awake_run {v : AV} (ha : plains [] = true) (hv : f_law41_awake Try.prog t_law41_awake d_law41_awake NN (fun v g => cvt false g v)  [] = some v) (h : Hp) : F_law41_awake [] h = some (v, h) := by
  have e : (R_law41_awake (nrms [] []) []).bind (fun (p : AV × Hp) => cvt false p.2 p.1) = some v := (R_law41_awake_eq (fun v g => cvt false g v)  []).trans hv
  exact (closedX_bind (shr := [.o]) ha e h).trans (congrArg (fun x => some (x, h)) (nrmR_rep 1 v))
noncomputable def d_slices_Clone_Envelope : DTab := D0
theorem d_slices_Clone_Envelope_ok : DSound Try.prog d_slices_Clone_Envelope := DSound.zero
noncomputable def t_slices_Clone_Envelope : Tab := T0
theorem t_slices_Clone_Envelope_ok : TSound Try.prog t_slices_Clone_Envelope := TSound.zero
noncomputable def R_slices_Clone_Envelope : Fun := runF Try.prog t_slices_Clone_Envelope d_slices_Clone_Envelope NN [0, 2, 4] Try.f13 1
theorem R_slices_Clone_Envelope_ok : CSound Try.prog 13 R_slices_Clone_Envelope := run_sound t_slices_Clone_Envelope_ok d_slices_Clone_Envelope_ok mixed Try.func13 (by kernel_rfl) NN
theorem R_slices_Clone_Envelope_eq {β : Type} (K : AV → Hp → Option β) (a0 : AV) (h : Hp) : (R_slices_Clone_Envelope [a0] h).bind (fun p => K p.1 p.2) = f_slices_Clone_Envelope Try.prog t_slices_Clone_Envelope d_slices_Clone_Envelope NN K a0 h := by
  rw [← f_slices_Clone_Envelope_run]; exact runF_bind rfl
noncomputable def F_slices_Clone_Envelope : Fun := closedX [.l 10] [.l 10] R_slices_Clone_Envelope
theorem F_slices_Clone_Envelope_ok : CSound Try.prog 13 F_slices_Clone_Envelope := closedX_sound _ _ R_slices_Clone_Envelope_ok
noncomputable def G_slices_Clone_Envelope : DFun := closedXD [.l 10] [.l 10] R_slices_Clone_Envelope
theorem G_slices_Clone_Envelope_ro : Ro F_slices_Clone_Envelope G_slices_Clone_Envelope := closedX_ro _ _ _
theorem F_slices_Clone_Envelope_run {a0 : AV} {v : AV} (ha : plains [a0] = true) (hv : f_slices_Clone_Envelope Try.prog t_slices_Clone_Envelope d_slices_Clone_Envelope NN (fun v g => cvt false g v) (nrm (.l 10) a0) [] = some v) (h : Hp) : F_slices_Clone_Envelope [a0] h = some ((nrmR [.l 10] v), h) := by
  have e : (R_slices_Clone_Envelope (nrms [.l 10] [a0]) []).bind (fun (p : AV × Hp) => cvt false p.2 p.1) = some v := (R_slices_Clone_Envelope_eq (fun v g => cvt false g v) (nrm (.l 10) a0) []).trans hv
  exact (closedX_bind (shr := [.l 10]) ha e h).trans (congrArg (fun x => some (x, h)) rfl)
noncomputable def d_slices_Clone_int : DTab := D0
theorem d_slices_Clone_int_ok : DSound Try.prog d_slices_Clone_int := DSound.zero
noncomputable def t_slices_Clone_int : Tab := T0
theorem t_slices_Clone_int_ok : TSound Try.prog t_slices_Clone_int := TSound.zero
noncomputable def R_slices_Clone_int : Fun := runF Try.prog t_slices_Clone_int d_slices_Clone_int NN [0, 2, 4] Try.f16 1
theorem R_slices_Clone_int_ok : CSound Try.prog 16 R_slices_Clone_int := run_sound t_slices_Clone_int_ok d_slices_Clone_int_ok mixed Try.func16 (by kernel_rfl) NN
theorem R_slices_Clone_int_eq {β : Type} (K : AV → Hp → Option β) (a0 : AV) (h : Hp) : (R_slices_Clone_int [a0] h).bind (fun p => K p.1 p.2) = f_slices_Clone_int Try.prog t_slices_Clone_int d_slices_Clone_int NN K a0 h := by
  rw [← f_slices_Clone_int_run]; exact runF_bind rfl
theorem R_slices_Clone_int_raw (a0 : AV) (h : Hp) : R_slices_Clone_int [a0] h = f_slices_Clone_int Try.prog t_slices_Clone_int d_slices_Clone_int NN (fun v h => some (v, h)) a0 h := (bind_pair _).symm.trans (R_slices_Clone_int_eq (fun v h => some (v, h)) a0 h)
noncomputable def F_slices_Clone_int : Fun := closedX [.l 1] [.l 1] R_slices_Clone_int
theorem F_slices_Clone_int_ok : CSound Try.prog 16 F_slices_Clone_int := closedX_sound _ _ R_slices_Clone_int_ok
theorem F_slices_Clone_int_run {a0 : AV} {v : AV} (ha : plains [a0] = true) (hv : f_slices_Clone_int Try.prog t_slices_Clone_int d_slices_Clone_int NN (fun v g => cvt false g v) (nrm (.l 1) a0) [] = some v) (h : Hp) : F_slices_Clone_int [a0] h = some ((nrmR [.l 1] v), h) := by
  have e : (R_slices_Clone_int (nrms [.l 1] [a0]) []).bind (fun (p : AV × Hp) => cvt false p.2 p.1) = some v := (R_slices_Clone_int_eq (fun v g => cvt false g v) (nrm (.l 1) a0) []).trans hv
  exact (closedX_bind (shr := [.l 1]) ha e h).trans (congrArg (fun x => some (x, h)) rfl)
noncomputable def d_law41_few : DTab := D0
theorem d_law41_few_ok : DSound Try.prog d_law41_few := DSound.zero
noncomputable def t_law41_few : Tab := T0
theorem t_law41_few_ok : TSound Try.prog t_law41_few := TSound.zero
noncomputable def R_law41_few : Fun := runF Try.prog t_law41_few d_law41_few NN [0, 1, 4] Try.f29 2
theorem R_law41_few_ok : CSound Try.prog 29 R_law41_few := run_sound t_law41_few_ok d_law41_few_ok mixed Try.func29 (by kernel_rfl) NN
theorem R_law41_few_eq {β : Type} (K : AV → Hp → Option β) (a0 : AV) (a1 : AV) (h : Hp) : (R_law41_few [a0, a1] h).bind (fun p => K p.1 p.2) = f_law41_few Try.prog t_law41_few d_law41_few NN K a0 a1 h := by
  rw [← f_law41_few_run]; exact runF_bind rfl
noncomputable def F_law41_few : Fun := closedX [.l 10, .l 1] [.o] R_law41_few
theorem F_law41_few_ok : CSound Try.prog 29 F_law41_few := closedX_sound _ _ R_law41_few_ok
theorem F_law41_few_run {a0 : AV} {a1 : AV} {v : AV} (ha : plains [a0, a1] = true) (hv : f_law41_few Try.prog t_law41_few d_law41_few NN (fun v g => cvt false g v) (nrm (.l 10) a0) (nrm (.l 1) a1) [] = some v) (h : Hp) : F_law41_few [a0, a1] h = some (v, h) := by
  have e : (R_law41_few (nrms [.l 10, .l 1] [a0, a1]) []).bind (fun (p : AV × Hp) => cvt false p.2 p.1) = some v := (R_law41_few_eq (fun v g => cvt false g v) (nrm (.l 10) a0) (nrm (.l 1) a1) []).trans hv
  exact (closedX_bind (shr := [.o]) ha e h).trans (congrArg (fun x => some (x, h)) (nrmR_rep 1 v))
noncomputable def d_slices_Reverse_int : DTab := D0
theorem d_slices_Reverse_int_ok : DSound Try.prog d_slices_Reverse_int := DSound.zero
noncomputable def t_slices_Reverse_int : Tab := T0
theorem t_slices_Reverse_int_ok : TSound Try.prog t_slices_Reverse_int := TSound.zero
noncomputable def R_slices_Reverse_int : Fun := runF Try.prog t_slices_Reverse_int d_slices_Reverse_int NN [0, 2, 3, 9] Try.f34 1
theorem R_slices_Reverse_int_ok : CSound Try.prog 34 R_slices_Reverse_int := run_sound t_slices_Reverse_int_ok d_slices_Reverse_int_ok mixed Try.func34 (by kernel_rfl) NN
theorem R_slices_Reverse_int_eq {β : Type} (K : AV → Hp → Option β) (a0 : AV) (h : Hp) : (R_slices_Reverse_int [a0] h).bind (fun p => K p.1 p.2) = f_slices_Reverse_int Try.prog t_slices_Reverse_int d_slices_Reverse_int NN K a0 h := by
  rw [← f_slices_Reverse_int_run]; exact runF_bind rfl
theorem R_slices_Reverse_int_raw (a0 : AV) (h : Hp) : R_slices_Reverse_int [a0] h = f_slices_Reverse_int Try.prog t_slices_Reverse_int d_slices_Reverse_int NN (fun v h => some (v, h)) a0 h := (bind_pair _).symm.trans (R_slices_Reverse_int_eq (fun v h => some (v, h)) a0 h)
noncomputable def d_slices_Grow_int : DTab := D0
theorem d_slices_Grow_int_ok : DSound Try.prog d_slices_Grow_int := DSound.zero
noncomputable def t_slices_Grow_int : Tab := T0
theorem t_slices_Grow_int_ok : TSound Try.prog t_slices_Grow_int := TSound.zero
noncomputable def R_slices_Grow_int : Fun := runF Try.prog t_slices_Grow_int d_slices_Grow_int NN [0, 1, 4, 6, 16] Try.f59 2
theorem R_slices_Grow_int_ok : CSound Try.prog 59 R_slices_Grow_int := run_sound t_slices_Grow_int_ok d_slices_Grow_int_ok mixed Try.func59 (by kernel_rfl) NN
theorem R_slices_Grow_int_eq {β : Type} (K : AV → Hp → Option β) (a0 : AV) (a1 : AV) (h : Hp) : (R_slices_Grow_int [a0, a1] h).bind (fun p => K p.1 p.2) = f_slices_Grow_int Try.prog t_slices_Grow_int d_slices_Grow_int NN K a0 a1 h := by
  rw [← f_slices_Grow_int_run]; exact runF_bind rfl
theorem R_slices_Grow_int_raw (a0 : AV) (a1 : AV) (h : Hp) : R_slices_Grow_int [a0, a1] h = f_slices_Grow_int Try.prog t_slices_Grow_int d_slices_Grow_int NN (fun v h => some (v, h)) a0 a1 h := (bind_pair _).symm.trans (R_slices_Grow_int_eq (fun v h => some (v, h)) a0 a1 h)
noncomputable def d_slices_Concat_int : DTab := D0
theorem d_slices_Concat_int_ok : DSound Try.prog d_slices_Concat_int := DSound.zero
noncomputable def t_slices_Concat_int : Tab := (updF T0 59 R_slices_Grow_int)
theorem t_slices_Concat_int_ok : TSound Try.prog t_slices_Concat_int := (TSound.upd TSound.zero R_slices_Grow_int_ok)
@[simp] theorem t_slices_Concat_int_59 : t_slices_Concat_int 59 = some R_slices_Grow_int := rfl
noncomputable def R_slices_Concat_int : Fun := runF Try.prog t_slices_Concat_int d_slices_Concat_int NN [0, 2, 3, 5, 6, 8, 9, 10, 11, 12, 20, 25, 26, 27, 28] Try.f35 1
theorem R_slices_Concat_int_ok : CSound Try.prog 35 R_slices_Concat_int := run_sound t_slices_Concat_int_ok d_slices_Concat_int_ok mixed Try.func35 (by kernel_rfl) NN
theorem R_slices_Concat_int_eq {β : Type} (K : AV → Hp → Option β) (a0 : AV) (h : Hp) : (R_slices_Concat_int [a0] h).bind (fun p => K p.1 p.2) = f_slices_Concat_int Try.prog t_slices_Concat_int d_slices_Concat_int NN K a0 h := by
  rw [← f_slices_Concat_int_run]; exact runF_bind rfl
theorem R_slices_Concat_int_raw (a0 : AV) (h : Hp) : R_slices_Concat_int [a0] h = f_slices_Concat_int Try.prog t_slices_Concat_int d_slices_Concat_int NN (fun v h => some (v, h)) a0 h := (bind_pair _).symm.trans (R_slices_Concat_int_eq (fun v h => some (v, h)) a0 h)
noncomputable def d_slices_Equal_Message : DTab := D0
theorem d_slices_Equal_Message_ok : DSound Try.prog d_slices_Equal_Message := DSound.zero
noncomputable def t_slices_Equal_Message : Tab := T0
theorem t_slices_Equal_Message_ok : TSound Try.prog t_slices_Equal_Message := TSound.zero
noncomputable def R_slices_Equal_Message : Fun := runF Try.prog t_slices_Equal_Message d_slices_Equal_Message NN [0, 1, 4, 5, 10, 12, 13, 14, 24] Try.f36 2
theorem R_slices_Equal_Message_ok : CSound Try.prog 36 R_slices_Equal_Message := run_sound t_slices_Equal_Message_ok d_slices_Equal_Message_ok mixed Try.func36 (by kernel_rfl) NN
theorem R_slices_Equal_Message_eq {β : Type} (K : AV → Hp → Option β) (a0 : AV) (a1 : AV) (h : Hp) : (R_slices_Equal_Message [a0, a1] h).bind (fun p => K p.1 p.2) = f_slices_Equal_Message Try.prog t_slices_Equal_Message d_slices_Equal_Message NN K a0 a1 h := by
  rw [← f_slices_Equal_Message_run]; exact runF_bind rfl
noncomputable def F_slices_Equal_Message : Fun := closedX [.l 7, .l 7] [.o] R_slices_Equal_Message
theorem F_slices_Equal_Message_ok : CSound Try.prog 36 F_slices_Equal_Message := closedX_sound _ _ R_slices_Equal_Message_ok
theorem F_slices_Equal_Message_run {a0 : AV} {a1 : AV} {v : AV} (ha : plains [a0, a1] = true) (hv : f_slices_Equal_Message Try.prog t_slices_Equal_Message d_slices_Equal_Message NN (fun v g => cvt false g v) (nrm (.l 7) a0) (nrm (.l 7) a1) [] = some v) (h : Hp) : F_slices_Equal_Message [a0, a1] h = some (v, h) := by
  have e : (R_slices_Equal_Message (nrms [.l 7, .l 7] [a0, a1]) []).bind (fun (p : AV × Hp) => cvt false p.2 p.1) = some v := (R_slices_Equal_Message_eq (fun v g => cvt false g v) (nrm (.l 7) a0) (nrm (.l 7) a1) []).trans hv
  exact (closedX_bind (shr := [.o]) ha e h).trans (congrArg (fun x => some (x, h)) (nrmR_rep 1 v))
noncomputable def d_law41_NetworkKnows_1_1 : DTab := D0
theorem d_law41_NetworkKnows_1_1_ok : DSound Try.prog d_law41_NetworkKnows_1_1 := DSound.zero
noncomputable def t_law41_NetworkKnows_1_1 : Tab := T0
theorem t_law41_NetworkKnows_1_1_ok : TSound Try.prog t_law41_NetworkKnows_1_1 := TSound.zero
noncomputable def R_law41_NetworkKnows_1_1 : Fun := runF Try.prog t_law41_NetworkKnows_1_1 d_law41_NetworkKnows_1_1 NN [0, 1, 2, 3] Try.f42 2
theorem R_law41_NetworkKnows_1_1_ok : CSound Try.prog 42 R_law41_NetworkKnows_1_1 := run_sound t_law41_NetworkKnows_1_1_ok d_law41_NetworkKnows_1_1_ok mixed Try.func42 (by kernel_rfl) NN
theorem R_law41_NetworkKnows_1_1_eq {β : Type} (K : AV → Hp → Option β) (a0 : AV) (a1 : AV) (h : Hp) : (R_law41_NetworkKnows_1_1 [a0, a1] h).bind (fun p => K p.1 p.2) = f_law41_NetworkKnows_1_1 Try.prog t_law41_NetworkKnows_1_1 d_law41_NetworkKnows_1_1 NN K a0 a1 h := by
  rw [← f_law41_NetworkKnows_1_1_run]; exact runF_bind rfl
noncomputable def F_law41_NetworkKnows_1_1 : Fun := quietT R_law41_NetworkKnows_1_1
theorem F_law41_NetworkKnows_1_1_ok : CSound Try.prog 42 F_law41_NetworkKnows_1_1 := quietT_sound R_law41_NetworkKnows_1_1_ok
theorem F_law41_NetworkKnows_1_1_q {a0 : AV} {a1 : AV} {h : Hp} {g : List AObj} {v : AV} (hv : f_law41_NetworkKnows_1_1 Try.prog t_law41_NetworkKnows_1_1 d_law41_NetworkKnows_1_1 NN (fun v h => some (v, h)) a0 a1 h = some (v, h ++ g)) (hp : plain v = true) : F_law41_NetworkKnows_1_1 [a0, a1] h = some (v, h) := quietT_val (F := R_law41_NetworkKnows_1_1) (((bind_pair _).symm.trans (R_law41_NetworkKnows_1_1_eq (fun v h => some (v, h)) a0 a1 h)).trans hv) hp
noncomputable def d_slices_IndexFunc_Envelope__law41_NetworkKnows_1_1 : DTab := D0
theorem d_slices_IndexFunc_Envelope__law41_NetworkKnows_1_1_ok : DSound Try.prog d_slices_IndexFunc_Envelope__law41_NetworkKnows_1_1 := DSound.zero
noncomputable def t_slices_IndexFunc_Envelope__law41_NetworkKnows_1_1 : Tab := (updF T0 42 F_law41_NetworkKnows_1_1)
theorem t_slices_IndexFunc_Envelope__law41_NetworkKnows_1_1_ok : TSound Try.prog t_slices_IndexFunc_Envelope__law41_NetworkKnows_1_1 := (TSound.upd TSound.zero F_law41_NetworkKnows_1_1_ok)
@[simp] theorem t_slices_IndexFunc_Envelope__law41_NetworkKnows_1_1_42 : t_slices_IndexFunc_Envelope__law41_NetworkKnows_1_1 42 = some F_law41_NetworkKnows_1_1 := rfl
noncomputable def R_slices_IndexFunc_Envelope__law41_NetworkKnows_1_1 : Fun := runF Try.prog t_slices_IndexFunc_Envelope__law41_NetworkKnows_1_1 d_slices_IndexFunc_Envelope__law41_NetworkKnows_1_1 NN [0, 1, 4, 5, 7, 8, 9, 16] Try.f57 2
theorem R_slices_IndexFunc_Envelope__law41_NetworkKnows_1_1_ok : CSound Try.prog 57 R_slices_IndexFunc_Envelope__law41_NetworkKnows_1_1 := run_sound t_slices_IndexFunc_Envelope__law41_NetworkKnows_1_1_ok d_slices_IndexFunc_Envelope__law41_NetworkKnows_1_1_ok mixed Try.func57 (by kernel_rfl) NN
theorem R_slices_IndexFunc_Envelope__law41_NetworkKnows_1_1_eq {β : Type} (K : AV → Hp → Option β) (a0 : AV) (a1 : AV) (h : Hp) : (R_slices_IndexFunc_Envelope__law41_NetworkKnows_1_1 [a0, a1] h).bind (fun p => K p.1 p.2) = f_slices_IndexFunc_Envelope Try.prog t_slices_IndexFunc_Envelope__law41_NetworkKnows_1_1 d_slices_IndexFunc_Envelope__law41_NetworkKnows_1_1 NN K a0 a1 h := by
  rw [← f_slices_IndexFunc_Envelope_run]; exact runF_bind rfl
noncomputable def F_slices_IndexFunc_Envelope__law41_NetworkKnows_1_1 : Fun := quietT R_slices_IndexFunc_Envelope__law41_NetworkKnows_1_1
theorem F_slices_IndexFunc_Envelope__law41_NetworkKnows_1_1_ok : CSound Try.prog 57 F_slices_IndexFunc_Envelope__law41_NetworkKnows_1_1 := quietT_sound R_slices_IndexFunc_Envelope__law41_NetworkKnows_1_1_ok
theorem F_slices_IndexFunc_Envelope__law41_NetworkKnows_1_1_q {a0 : AV} {a1 : AV} {h : Hp} {g : List AObj} {v : AV} (hv : f_slices_IndexFunc_Envelope Try.prog t_slices_IndexFunc_Envelope__law41_NetworkKnows_1_1 d_slices_IndexFunc_Envelope__law41_NetworkKnows_1_1 NN (fun v h => some (v, h)) a0 a1 h = some (v, h ++ g)) (hp : plain v = true) : F_slices_IndexFunc_Envelope__law41_NetworkKnows_1_1 [a0, a1] h = some (v, h) := quietT_val (F := R_slices_IndexFunc_Envelope__law41_NetworkKnows_1_1) (((bind_pair _).symm.trans (R_slices_IndexFunc_Envelope__law41_NetworkKnows_1_1_eq (fun v h => some (v, h)) a0 a1 h)).trans hv) hp
noncomputable def d_slices_ContainsFunc_Envelope__law41_NetworkKnows_1_1 : DTab := D0
theorem d_slices_ContainsFunc_Envelope__law41_NetworkKnows_1_1_ok : DSound Try.prog d_slices_ContainsFunc_Envelope__law41_NetworkKnows_1_1 := DSound.zero
noncomputable def t_slices_ContainsFunc_Envelope__law41_NetworkKnows_1_1 : Tab := (updF T0 57 F_slices_IndexFunc_Envelope__law41_NetworkKnows_1_1)
theorem t_slices_ContainsFunc_Envelope__law41_NetworkKnows_1_1_ok : TSound Try.prog t_slices_ContainsFunc_Envelope__law41_NetworkKnows_1_1 := (TSound.upd TSound.zero F_slices_IndexFunc_Envelope__law41_NetworkKnows_1_1_ok)
@[simp] theorem t_slices_ContainsFunc_Envelope__law41_NetworkKnows_1_1_57 : t_slices_ContainsFunc_Envelope__law41_NetworkKnows_1_1 57 = some F_slices_IndexFunc_Envelope__law41_NetworkKnows_1_1 := rfl
noncomputable def R_slices_ContainsFunc_Envelope__law41_NetworkKnows_1_1 : Fun := runF Try.prog t_slices_ContainsFunc_Envelope__law41_NetworkKnows_1_1 d_slices_ContainsFunc_Envelope__law41_NetworkKnows_1_1 NN [0, 1, 4] Try.f31 2
theorem R_slices_ContainsFunc_Envelope__law41_NetworkKnows_1_1_ok : CSound Try.prog 31 R_slices_ContainsFunc_Envelope__law41_NetworkKnows_1_1 := run_sound t_slices_ContainsFunc_Envelope__law41_NetworkKnows_1_1_ok d_slices_ContainsFunc_Envelope__law41_NetworkKnows_1_1_ok mixed Try.func31 (by kernel_rfl) NN
theorem R_slices_ContainsFunc_Envelope__law41_NetworkKnows_1_1_eq {β : Type} (K : AV → Hp → Option β) (a0 : AV) (a1 : AV) (h : Hp) : (R_slices_ContainsFunc_Envelope__law41_NetworkKnows_1_1 [a0, a1] h).bind (fun p => K p.1 p.2) = f_slices_ContainsFunc_Envelope Try.prog t_slices_ContainsFunc_Envelope__law41_NetworkKnows_1_1 d_slices_ContainsFunc_Envelope__law41_NetworkKnows_1_1 NN K a0 a1 h := by
  rw [← f_slices_ContainsFunc_Envelope_run]; exact runF_bind rfl
noncomputable def F_slices_ContainsFunc_Envelope__law41_NetworkKnows_1_1 : Fun := quietT R_slices_ContainsFunc_Envelope__law41_NetworkKnows_1_1
theorem F_slices_ContainsFunc_Envelope__law41_NetworkKnows_1_1_ok : CSound Try.prog 31 F_slices_ContainsFunc_Envelope__law41_NetworkKnows_1_1 := quietT_sound R_slices_ContainsFunc_Envelope__law41_NetworkKnows_1_1_ok
theorem F_slices_ContainsFunc_Envelope__law41_NetworkKnows_1_1_q {a0 : AV} {a1 : AV} {h : Hp} {g : List AObj} {v : AV} (hv : f_slices_ContainsFunc_Envelope Try.prog t_slices_ContainsFunc_Envelope__law41_NetworkKnows_1_1 d_slices_ContainsFunc_Envelope__law41_NetworkKnows_1_1 NN (fun v h => some (v, h)) a0 a1 h = some (v, h ++ g)) (hp : plain v = true) : F_slices_ContainsFunc_Envelope__law41_NetworkKnows_1_1 [a0, a1] h = some (v, h) := quietT_val (F := R_slices_ContainsFunc_Envelope__law41_NetworkKnows_1_1) (((bind_pair _).symm.trans (R_slices_ContainsFunc_Envelope__law41_NetworkKnows_1_1_eq (fun v h => some (v, h)) a0 a1 h)).trans hv) hp
noncomputable def d_law41_NetworkKnows_1 : DTab := D0
theorem d_law41_NetworkKnows_1_ok : DSound Try.prog d_law41_NetworkKnows_1 := DSound.zero
noncomputable def t_law41_NetworkKnows_1 : Tab := (updF (updF (updF T0 31 F_slices_ContainsFunc_Envelope__law41_NetworkKnows_1_1) 37 F_slices_Contains_Message) 42 F_law41_NetworkKnows_1_1)
theorem t_law41_NetworkKnows_1_ok : TSound Try.prog t_law41_NetworkKnows_1 := (TSound.upd (TSound.upd (TSound.upd TSound.zero F_slices_ContainsFunc_Envelope__law41_NetworkKnows_1_1_ok) F_slices_Contains_Message_ok) F_law41_NetworkKnows_1_1_ok)
@[simp] theorem t_law41_NetworkKnows_1_31 : t_law41_NetworkKnows_1 31 = some F_slices_ContainsFunc_Envelope__law41_NetworkKnows_1_1 := rfl
@[simp] theorem t_law41_NetworkKnows_1_37 : t_law41_NetworkKnows_1 37 = some F_slices_Contains_Message := rfl
@[simp] theorem t_law41_NetworkKnows_1_42 : t_law41_NetworkKnows_1 42 = some F_law41_NetworkKnows_1_1 := rfl
noncomputable def R_law41_NetworkKnows_1 : Fun := runF Try.prog t_law41_NetworkKnows_1 d_law41_NetworkKnows_1 NN [0, 1, 2, 3, 4] Try.f41 3
theorem R_law41_NetworkKnows_1_ok : CSound Try.prog 41 R_law41_NetworkKnows_1 := run_sound t_law41_NetworkKnows_1_ok d_law41_NetworkKnows_1_ok mixed Try.func41 (by kernel_rfl) NN
theorem R_law41_NetworkKnows_1_eq {β : Type} (K : AV → Hp → Option β) (a0 : AV) (a1 : AV) (a2 : AV) (h : Hp) : (R_law41_NetworkKnows_1 [a0, a1, a2] h).bind (fun p => K p.1 p.2) = f_law41_NetworkKnows_1 Try.prog t_law41_NetworkKnows_1 d_law41_NetworkKnows_1 NN K a0 a1 a2 h := by
  rw [← f_law41_NetworkKnows_1_run]; exact runF_bind rfl
noncomputable def F_law41_NetworkKnows_1 : Fun := quietT R_law41_NetworkKnows_1
theorem F_law41_NetworkKnows_1_ok : CSound Try.prog 41 F_law41_NetworkKnows_1 := quietT_sound R_law41_NetworkKnows_1_ok
theorem F_law41_NetworkKnows_1_q {a0 : AV} {a1 : AV} {a2 : AV} {h : Hp} {g : List AObj} {v : AV} (hv : f_law41_NetworkKnows_1 Try.prog t_law41_NetworkKnows_1 d_law41_NetworkKnows_1 NN (fun v h => some (v, h)) a0 a1 a2 h = some (v, h ++ g)) (hp : plain v = true) : F_law41_NetworkKnows_1 [a0, a1, a2] h = some (v, h) := quietT_val (F := R_law41_NetworkKnows_1) (((bind_pair _).symm.trans (R_law41_NetworkKnows_1_eq (fun v h => some (v, h)) a0 a1 a2 h)).trans hv) hp
noncomputable def d_slices_IndexFunc_Message__law41_NetworkKnows_1 : DTab := D0
theorem d_slices_IndexFunc_Message__law41_NetworkKnows_1_ok : DSound Try.prog d_slices_IndexFunc_Message__law41_NetworkKnows_1 := DSound.zero
noncomputable def t_slices_IndexFunc_Message__law41_NetworkKnows_1 : Tab := (updF T0 41 F_law41_NetworkKnows_1)
theorem t_slices_IndexFunc_Message__law41_NetworkKnows_1_ok : TSound Try.prog t_slices_IndexFunc_Message__law41_NetworkKnows_1 := (TSound.upd TSound.zero F_law41_NetworkKnows_1_ok)
@[simp] theorem t_slices_IndexFunc_Message__law41_NetworkKnows_1_41 : t_slices_IndexFunc_Message__law41_NetworkKnows_1 41 = some F_law41_NetworkKnows_1 := rfl
noncomputable def R_slices_IndexFunc_Message__law41_NetworkKnows_1 : Fun := runF Try.prog t_slices_IndexFunc_Message__law41_NetworkKnows_1 d_slices_IndexFunc_Message__law41_NetworkKnows_1 NN [0, 1, 4, 5, 7, 8, 9, 16] Try.f65 2
theorem R_slices_IndexFunc_Message__law41_NetworkKnows_1_ok : CSound Try.prog 65 R_slices_IndexFunc_Message__law41_NetworkKnows_1 := run_sound t_slices_IndexFunc_Message__law41_NetworkKnows_1_ok d_slices_IndexFunc_Message__law41_NetworkKnows_1_ok mixed Try.func65 (by kernel_rfl) NN
theorem R_slices_IndexFunc_Message__law41_NetworkKnows_1_eq {β : Type} (K : AV → Hp → Option β) (a0 : AV) (a1 : AV) (h : Hp) : (R_slices_IndexFunc_Message__law41_NetworkKnows_1 [a0, a1] h).bind (fun p => K p.1 p.2) = f_slices_IndexFunc_Message Try.prog t_slices_IndexFunc_Message__law41_NetworkKnows_1 d_slices_IndexFunc_Message__law41_NetworkKnows_1 NN K a0 a1 h := by
  rw [← f_slices_IndexFunc_Message_run]; exact runF_bind rfl
noncomputable def F_slices_IndexFunc_Message__law41_NetworkKnows_1 : Fun := quietT R_slices_IndexFunc_Message__law41_NetworkKnows_1
theorem F_slices_IndexFunc_Message__law41_NetworkKnows_1_ok : CSound Try.prog 65 F_slices_IndexFunc_Message__law41_NetworkKnows_1 := quietT_sound R_slices_IndexFunc_Message__law41_NetworkKnows_1_ok
theorem F_slices_IndexFunc_Message__law41_NetworkKnows_1_q {a0 : AV} {a1 : AV} {h : Hp} {g : List AObj} {v : AV} (hv : f_slices_IndexFunc_Message Try.prog t_slices_IndexFunc_Message__law41_NetworkKnows_1 d_slices_IndexFunc_Message__law41_NetworkKnows_1 NN (fun v h => some (v, h)) a0 a1 h = some (v, h ++ g)) (hp : plain v = true) : F_slices_IndexFunc_Message__law41_NetworkKnows_1 [a0, a1] h = some (v, h) := quietT_val (F := R_slices_IndexFunc_Message__law41_NetworkKnows_1) (((bind_pair _).symm.trans (R_slices_IndexFunc_Message__law41_NetworkKnows_1_eq (fun v h => some (v, h)) a0 a1 h)).trans hv) hp
noncomputable def d_slices_ContainsFunc_Message__law41_NetworkKnows_1 : DTab := D0
theorem d_slices_ContainsFunc_Message__law41_NetworkKnows_1_ok : DSound Try.prog d_slices_ContainsFunc_Message__law41_NetworkKnows_1 := DSound.zero
noncomputable def t_slices_ContainsFunc_Message__law41_NetworkKnows_1 : Tab := (updF T0 65 F_slices_IndexFunc_Message__law41_NetworkKnows_1)
theorem t_slices_ContainsFunc_Message__law41_NetworkKnows_1_ok : TSound Try.prog t_slices_ContainsFunc_Message__law41_NetworkKnows_1 := (TSound.upd TSound.zero F_slices_IndexFunc_Message__law41_NetworkKnows_1_ok)
@[simp] theorem t_slices_ContainsFunc_Message__law41_NetworkKnows_1_65 : t_slices_ContainsFunc_Message__law41_NetworkKnows_1 65 = some F_slices_IndexFunc_Message__law41_NetworkKnows_1 := rfl
noncomputable def R_slices_ContainsFunc_Message__law41_NetworkKnows_1 : Fun := runF Try.prog t_slices_ContainsFunc_Message__law41_NetworkKnows_1 d_slices_ContainsFunc_Message__law41_NetworkKnows_1 NN [0, 1, 4] Try.f40 2
theorem R_slices_ContainsFunc_Message__law41_NetworkKnows_1_ok : CSound Try.prog 40 R_slices_ContainsFunc_Message__law41_NetworkKnows_1 := run_sound t_slices_ContainsFunc_Message__law41_NetworkKnows_1_ok d_slices_ContainsFunc_Message__law41_NetworkKnows_1_ok mixed Try.func40 (by kernel_rfl) NN
theorem R_slices_ContainsFunc_Message__law41_NetworkKnows_1_eq {β : Type} (K : AV → Hp → Option β) (a0 : AV) (a1 : AV) (h : Hp) : (R_slices_ContainsFunc_Message__law41_NetworkKnows_1 [a0, a1] h).bind (fun p => K p.1 p.2) = f_slices_ContainsFunc_Message Try.prog t_slices_ContainsFunc_Message__law41_NetworkKnows_1 d_slices_ContainsFunc_Message__law41_NetworkKnows_1 NN K a0 a1 h := by
  rw [← f_slices_ContainsFunc_Message_run]; exact runF_bind rfl
noncomputable def F_slices_ContainsFunc_Message__law41_NetworkKnows_1 : Fun := quietT R_slices_ContainsFunc_Message__law41_NetworkKnows_1
theorem F_slices_ContainsFunc_Message__law41_NetworkKnows_1_ok : CSound Try.prog 40 F_slices_ContainsFunc_Message__law41_NetworkKnows_1 := quietT_sound R_slices_ContainsFunc_Message__law41_NetworkKnows_1_ok
theorem F_slices_ContainsFunc_Message__law41_NetworkKnows_1_q {a0 : AV} {a1 : AV} {h : Hp} {g : List AObj} {v : AV} (hv : f_slices_ContainsFunc_Message Try.prog t_slices_ContainsFunc_Message__law41_NetworkKnows_1 d_slices_ContainsFunc_Message__law41_NetworkKnows_1 NN (fun v h => some (v, h)) a0 a1 h = some (v, h ++ g)) (hp : plain v = true) : F_slices_ContainsFunc_Message__law41_NetworkKnows_1 [a0, a1] h = some (v, h) := quietT_val (F := R_slices_ContainsFunc_Message__law41_NetworkKnows_1) (((bind_pair _).symm.trans (R_slices_ContainsFunc_Message__law41_NetworkKnows_1_eq (fun v h => some (v, h)) a0 a1 h)).trans hv) hp
noncomputable def d_law41_NetworkKnows : DTab := (updD (updD (updD D0 13 G_slices_Clone_Envelope) 16 (newD R_slices_Clone_int)) 18 (roD (quietT R_network_Known)))
theorem d_law41_NetworkKnows_ok : DSound Try.prog d_law41_NetworkKnows := (DSound.ro (DSound.new (DSound.ro DSound.zero G_slices_Clone_Envelope_ro F_slices_Clone_Envelope_ok) R_slices_Clone_int_ok) (ro_ro _) (quietT_sound R_network_Known_ok))
@[simp] theorem d_law41_NetworkKnows_13 : d_law41_NetworkKnows 13 = some G_slices_Clone_Envelope := rfl
@[simp] theorem d_law41_NetworkKnows_16 : d_law41_NetworkKnows 16 = some (newD R_slices_Clone_int) := rfl
@[simp] theorem d_law41_NetworkKnows_18 : d_law41_NetworkKnows 18 = some (roD (quietT R_network_Known)) := rfl
noncomputable def t_law41_NetworkKnows : Tab := (updF (updF (updF (updF (updF (updF (updF (updF (updF (updF (updF (updF (updF (updF T0 10 F_law41_awake) 13 F_slices_Clone_Envelope) 15 F_network_Deliver) 16 F_slices_Clone_int) 18 R_network_Known) 29 F_law41_few) 34 R_slices_Reverse_int) 35 R_slices_Concat_int) 36 F_slices_Equal_Message) 37 F_slices_Contains_Message) 38 F_document_Normal) 39 F_slices_Clone_Message) 40 F_slices_ContainsFunc_Message__law41_NetworkKnows_1) 41 F_law41_NetworkKnows_1)
theorem t_law41_NetworkKnows_ok : TSound Try.prog t_law41_NetworkKnows := (TSound.upd (TSound.upd (TSound.upd (TSound.upd (TSound.upd (TSound.upd (TSound.upd (TSound.upd (TSound.upd (TSound.upd (TSound.upd (TSound.upd (TSound.upd (TSound.upd TSound.zero F_law41_awake_ok) F_slices_Clone_Envelope_ok) F_network_Deliver_ok) F_slices_Clone_int_ok) R_network_Known_ok) F_law41_few_ok) R_slices_Reverse_int_ok) R_slices_Concat_int_ok) F_slices_Equal_Message_ok) F_slices_Contains_Message_ok) F_document_Normal_ok) F_slices_Clone_Message_ok) F_slices_ContainsFunc_Message__law41_NetworkKnows_1_ok) F_law41_NetworkKnows_1_ok)
@[simp] theorem t_law41_NetworkKnows_10 : t_law41_NetworkKnows 10 = some F_law41_awake := rfl
@[simp] theorem t_law41_NetworkKnows_13 : t_law41_NetworkKnows 13 = some F_slices_Clone_Envelope := rfl
@[simp] theorem t_law41_NetworkKnows_15 : t_law41_NetworkKnows 15 = some F_network_Deliver := rfl
@[simp] theorem t_law41_NetworkKnows_16 : t_law41_NetworkKnows 16 = some F_slices_Clone_int := rfl
@[simp] theorem t_law41_NetworkKnows_18 : t_law41_NetworkKnows 18 = some R_network_Known := rfl
@[simp] theorem t_law41_NetworkKnows_29 : t_law41_NetworkKnows 29 = some F_law41_few := rfl
@[simp] theorem t_law41_NetworkKnows_34 : t_law41_NetworkKnows 34 = some R_slices_Reverse_int := rfl
@[simp] theorem t_law41_NetworkKnows_35 : t_law41_NetworkKnows 35 = some R_slices_Concat_int := rfl
@[simp] theorem t_law41_NetworkKnows_36 : t_law41_NetworkKnows 36 = some F_slices_Equal_Message := rfl
@[simp] theorem t_law41_NetworkKnows_37 : t_law41_NetworkKnows 37 = some F_slices_Contains_Message := rfl
@[simp] theorem t_law41_NetworkKnows_38 : t_law41_NetworkKnows 38 = some F_document_Normal := rfl
@[simp] theorem t_law41_NetworkKnows_39 : t_law41_NetworkKnows 39 = some F_slices_Clone_Message := rfl
@[simp] theorem t_law41_NetworkKnows_40 : t_law41_NetworkKnows 40 = some F_slices_ContainsFunc_Message__law41_NetworkKnows_1 := rfl
@[simp] theorem t_law41_NetworkKnows_41 : t_law41_NetworkKnows 41 = some F_law41_NetworkKnows_1 := rfl
noncomputable def R_law41_NetworkKnows : Fun := runF Try.prog t_law41_NetworkKnows d_law41_NetworkKnows NN [0, 1, 2, 3, 8, 9, 10, 11, 12, 13, 14, 15, 16, 17, 19, 20, 21, 23, 32, 43, 101, 102, 103, 104, 105, 112] Try.f8 4
theorem R_law41_NetworkKnows_ok : CSound Try.prog 8 R_law41_NetworkKnows := run_sound t_law41_NetworkKnows_ok d_law41_NetworkKnows_ok mixed Try.func8 (by kernel_rfl) NN
theorem R_law41_NetworkKnows_eq {β : Type} (K : AV → Hp → Option β) (a0 : AV) (a1 : AV) (a2 : AV) (a3 : AV) (h : Hp) : (R_law41_NetworkKnows [a0, a1, a2, a3] h).bind (fun p => K p.1 p.2) = f_law41_NetworkKnows Try.prog t_law41_NetworkKnows d_law41_NetworkKnows NN K a0 a1 a2 a3 h := by
  rw [← f_law41_NetworkKnows_run]; exact runF_bind rfl
noncomputable def F_law41_NetworkKnows : Fun := closedX [.l 10, .l 1, .o, .o] [.o] R_law41_NetworkKnows
theorem F_law41_NetworkKnows_ok : CSound Try.prog 8 F_law41_NetworkKnows := closedX_sound _ _ R_law41_NetworkKnows_ok
theorem F_law41_NetworkKnows_run {a0 : AV} {a1 : AV} {a2 : AV} {a3 : AV} {v : AV} (ha : plains [a0, a1, a2, a3] = true) (hv : f_law41_NetworkKnows Try.prog t_law41_NetworkKnows d_law41_NetworkKnows NN (fun v g => cvt false g v) (nrm (.l 10) a0) (nrm (.l 1) a1) a2 a3 [] = some v) (h : Hp) : F_law41_NetworkKnows [a0, a1, a2, a3] h = some (v, h) := by
  have e : (R_law41_NetworkKnows (nrms [.l 10, .l 1, .o, .o] [a0, a1, a2, a3]) []).bind (fun (p : AV × Hp) => cvt false p.2 p.1) = some v := (R_law41_NetworkKnows_eq (fun v g => cvt false g v) (nrm (.l 10) a0) (nrm (.l 1) a1) a2 a3 []).trans hv
  exact (closedX_bind (shr := [.o]) ha e h).trans (congrArg (fun x => some (x, h)) (nrmR_rep 1 v))
end Go.AM


namespace Go.AM
set_option linter.unusedVariables false
set_option linter.unusedSimpArgs false
set_option linter.constructorNameAsVariable false
set_option maxRecDepth 30000
variable {β : Type} {P : Program} {kt : TypeId} {kk : IntKind}
theorem keyOk_int (hu : P.underlying kt = some (.int kk)) (n : Int) : keyOk P kt (.int kk n) = true := by
  have key : ∀ b, pureVal P (Instr.checkKey b 10000 kt (.int kk n)) = some () := by
    intro b
    rw [show (10000 : Nat) = 9999 + 1 from rfl]
    unfold Instr.checkKey
    rw [pureVal_bnd, pureVal_underlying hu]
    rfl
  simp [keyOk, key]
theorem keyEq_int (hu : P.underlying kt = some (.int kk)) (a b : Int) : keyEq P kt (.int kk a) (.int kk b) = some (decide (a = b)) := by
  have h1 : pureVal P (Op.equal kt (.int kk a) (.int kk b)) = some (a == b) := by
    unfold Op.equal
    rw [show Op.maxDepth = (Op.maxDepth - 1) + 1 from rfl]
    unfold Op.equalIn
    rw [pureVal_bnd, pureVal_underlying hu]
    simp only [Option.bind_some, if_true]
    rfl
  unfold keyEq
  rw [h1]
  by_cases hab : a = b
  · subst hab
    have : Instr.sameBits 10000 (.int kk a) (.int kk a) = true := by simp [Instr.sameBits]
    simp [this]
  · have : (a == b) = false := by simpa using hab
    rw [this]
    simp [hab]
end Go.AM


namespace Go.AM
set_option linter.unusedVariables false
def idOf : AV → Option Nat
  | .sl _ id .. => some id
  | _ => none
@[simp] theorem idOf_sl (sz id off len fr : Nat) (full : Bool) : idOf (.sl sz id off len fr full) = some id := rfl
@[simp] theorem idOf_nilS : idOf nilS = none := rfl
def Gro {α : Type} (sz : Nat) (f : α → List AV) (h : Hp) (v : AV) (l : List α) : Prop := (l = [] ∧ v = nilS) ∨ (l ≠ [] ∧ ∃ k, v = .sl sz k 0 l.length l.length false ∧ h[k]? = some (.arr sz (l.map f) true false))
section
variable {α β : Type} {sz : Nat} {f : α → List AV} {h h' : Hp} {v : AV} {l : List α}
theorem Gro.nil : Gro sz f h nilS [] := .inl ⟨rfl, rfl⟩
theorem Gro.keep (O : Gro sz f h v l) (hk : ∀ k o, idOf v = some k → h[k]? = some o → h'[k]? = some o) : Gro sz f h' v l := by
  rcases O with O | ⟨h1, k, rfl, h2⟩
  · exact .inl O
  · exact .inr ⟨h1, k, rfl, hk k _ rfl h2⟩
theorem Gro.app (O : Gro sz f h v l) (x : List AObj) : Gro sz f (h ++ x) v l := O.keep fun k o _ hk => get_app hk
theorem Gro.lt (O : Gro sz f h v l) {k : Nat} (hk : idOf v = some k) : k < h.length := by
  rcases O with ⟨_, rfl⟩ | ⟨h1, j, rfl, h2⟩
  · simp at hk
  · simp at hk; subst hk; exact (List.getElem?_eq_some_iff.1 h2).1
theorem Gro.len (O : Gro sz f h v l) (k : K β) : lenK v k = k (I l.length) := by
  rcases O with ⟨rfl, rfl⟩ | ⟨h1, j, rfl, h2⟩ <;> simp
theorem Gro.cvts (O : Gro sz f h v l) (hf : ∀ x st, (f x).all (fun c => bif st then isS c else plain c) = true) : ∃ w, (∀ st, Go.AM.cvt st h v = some w) ∧ nrm (.l sz) w = .lst sz l.isEmpty (l.map f) := by
  rcases O with ⟨rfl, rfl⟩ | ⟨h1, k, rfl, h2⟩
  · exact ⟨nilS, fun st => rfl, rfl⟩
  · have he : l.isEmpty = false := by simpa using h1
    refine ⟨.lst sz false (l.map f), fun st => cvt_whole h2 (by simp) (by simp) (okE_map fun x => hf x st), ?_⟩
    rw [he]; rfl
theorem Gro.snoc (β : Type) (O : Gro sz f h v l) {by_ m : Nat} {z : α} {b : Bool} (hm : h[m]? = some (.arr sz [f z] true false)) (hv : idOf v ≠ some m) (hf : ∀ x ∈ z :: l, (f x).length = sz) (hl : (l.length + 1) * by_ ≤ 140737488355328) :
    ∃ v' h', (∀ k : AV → Hp → Option β, effK (appE sz by_ v (.sl sz m 0 1 1 b) h h.length) h k = k v' h') ∧ Gro sz f h' v' (l ++ [z]) ∧ h.length ≤ h'.length ∧ (∀ j o, h[j]? = some o → idOf v ≠ some j → h'[j]? = some o) ∧ (idOf v' = idOf v ∨ idOf v' = some h.length) := by
  have hz : (f z).length = sz := hf z (by simp)
  rcases O with ⟨rfl, rfl⟩ | ⟨h1, k, rfl, h2⟩
  · have hb : by_ ≤ 140737488355328 := by simpa using hl
    refine ⟨.sl sz h.length 0 1 1 false, h ++ [.arr sz [f z] true false], fun k => ?_, .inr ⟨by simp, h.length, rfl, by simp⟩, by simp, fun j o hj _ => get_app hj, .inr rfl⟩
    simp [appE, readSl, hm, hz, hb, effK, ap]
  · have hkl := (List.getElem?_eq_some_iff.1 h2).1
    refine ⟨.sl sz k 0 (l ++ [z]).length (l ++ [z]).length false, h.set k (.arr sz ((l ++ [z]).map f) true false), fun k' => ?_, .inr ⟨by simp, k, rfl, by simp [hkl]⟩, by simp, fun j o hj hn => ?_, .inl rfl⟩
    · simp [appE, readSl, hm, h2, hz, hl, effK, ap]
    · have hkj : k ≠ j := by rintro rfl; exact hn rfl
      rw [List.getElem?_set_ne hkj]; exact hj
end
theorem closedX_scal' {shp shr : List Sh} {F : Fun} {h : Hp} {args as' asl : List AV} {v : AV} {h0 : Hp} (ha : cvts false h args = some as') (hn : nrms shp as' = nrms shp asl) (hp : plains asl = true) (hF : closedX shp shr F asl h0 = some (v, h0)) (hs : scal v = true) : closedX shp shr F args h = some (v, h) := by
  unfold closedX at hF ⊢
  rw [cvts_plain hp] at hF
  rw [ha]
  dsimp only at hF ⊢
  rw [hn]
  split at hF <;> try (simp at hF; done)
  rename_i w g hR
  split at hF <;> try (simp at hF; done)
  rename_i w' hw
  simp only [Option.some.injEq, Prod.mk.injEq] at hF
  obtain ⟨rfl, -⟩ := hF
  rw [hp, Bool.not_true] at hw
  have hw2 : ∀ st, cvt st g w = some w' := fun st => by
    cases st with
    | false => exact hw
    | true => exact cvt_scal hw (nrmR_scal hs)
  rw [hw2]
theorem Gro.snocE {α : Type} {sz : Nat} {f : α → List AV} {h : Hp} {v : AV} {l : List α} (O : Gro sz f h v l) {by_ m : Nat} {z : α} {b : Bool} (hm : h[m]? = some (.arr sz [f z] true false)) (hv : idOf v ≠ some m) (hf : ∀ x ∈ z :: l, (f x).length = sz) (hl : (l.length + 1) * by_ ≤ 140737488355328) :
    ∃ v' e, appE sz by_ v (.sl sz m 0 1 1 b) h h.length = some (v', e) ∧ Gro sz f (ap h e) v' (l ++ [z]) ∧ h.length ≤ (ap h e).length ∧ (∀ j o, h[j]? = some o → idOf v ≠ some j → (ap h e)[j]? = some o) ∧ (idOf v' = idOf v ∨ idOf v' = some h.length) := by
  have hz : (f z).length = sz := hf z (by simp)
  rcases O with ⟨rfl, rfl⟩ | ⟨h1, k, rfl, h2⟩
  · have hb : by_ ≤ 140737488355328 := by simpa using hl
    refine ⟨.sl sz h.length 0 1 1 false, ⟨[], [.arr sz [f z] true false], [m]⟩, by simp [appE, readSl, hm, hz, hb, idsOf], .inr ⟨by simp, h.length, rfl, by simp [ap]⟩, by simp [ap], fun j o hj _ => by simpa [ap] using get_app hj, .inr rfl⟩
  · have hkl := (List.getElem?_eq_some_iff.1 h2).1
    refine ⟨.sl sz k 0 (l ++ [z]).length (l ++ [z]).length false, ⟨[(k, .arr sz ((l ++ [z]).map f) true false)], [], [k, m]⟩, by simp [appE, readSl, hm, h2, hz, hl, idsOf], .inr ⟨by simp, k, rfl, by simp [ap, hkl]⟩, by simp [ap], fun j o hj hn => ?_, .inl rfl⟩
    have hkj : k ≠ j := by rintro rfl; exact hn rfl
    simp only [ap, List.foldl_cons, List.foldl_nil, List.append_nil]
    rw [List.getElem?_set_ne hkj]; exact hj
end Go.AM


namespace Go.AM
set_option linter.unusedVariables false
variable {α β : Type} {sz : Nat} {enc : α → List AV} {h : Hp}
structure Part (enc : α → List AV) (h : Hp) (p : AV × List α) : Prop where
  read : readSl h p.1 = some (p.2.map enc)
  len : lenK p.1 some = some (I p.2.length)
theorem Part.lenK {p : AV × List α} (q : Part enc h p) (k : K β) : Go.AM.lenK p.1 k = k (I p.2.length) := by rw [lenK_nat, q.len]; rfl
theorem Part.app {p : AV × List α} (q : Part enc h p) (g : List AObj) : Part enc (h ++ g) p := ⟨readSl_local q.read fun id _ o ho => get_app ho, q.len⟩
theorem Part.nil : Part enc h (nilS, []) := ⟨rfl, rfl⟩
theorem Part.lst (sz : Nat) (b : Bool) (l : List α) : Part enc h (.lst sz b (l.map enc), l) := ⟨rfl, by simp⟩
theorem Part.sl {sz id n : Nat} {b nl : Bool} {l : List α} (hid : h[id]? = some (.arr sz (l.map enc) true nl)) (hn : l.length = n) : Part enc h (.sl sz id 0 n n b, l) := by
  subst hn
  have ht : (l.map enc).take l.length = l.map enc := List.take_of_length_le (by simp)
  exact ⟨by simp [readSl, hid, ht], by simp⟩
def flat (ps : List (AV × List α)) : List α := ps.flatMap (·.2)
end Go.AM
namespace Go.AM
def notBehind {α : Type} (bef : α → α → Bool) : Option α → α → Bool
  | some q, p => !bef q p
  | none, _ => false
@[simp] theorem notBehind_some {α : Type} (bef : α → α → Bool) (q p : α) : notBehind bef (some q) p = !bef q p := rfl
@[simp] theorem notBehind_none {α : Type} (bef : α → α → Bool) (p : α) : notBehind bef none p = false := rfl
end Go.AM


namespace Go.AM
set_option linter.unusedVariables false
set_option linter.unusedSimpArgs false
section
variable {β : Type}
def Grm {α : Type} (sz : Nat) (f : α → List AV) (h : Hp) (v : AV) (l : List α) : Prop := ∃ k b, v = .sl sz k 0 l.length l.length b ∧ h[k]? = some (.arr sz (l.map f) true false) ∧ (b = true → l = [])
theorem Grm.keep {α : Type} {sz : Nat} {f : α → List AV} {h h' : Hp} {v : AV} {l : List α} (O : Grm sz f h v l) (hk : ∀ k o, idOf v = some k → h[k]? = some o → h'[k]? = some o) : Grm sz f h' v l := by
  obtain ⟨k, b, rfl, h2, h3⟩ := O
  exact ⟨k, b, rfl, hk k _ rfl h2, h3⟩
theorem Grm.app {α : Type} {sz : Nat} {f : α → List AV} {h : Hp} {v : AV} {l : List α} (O : Grm sz f h v l) (x : List AObj) : Grm sz f (h ++ x) v l := O.keep fun k o _ hk => get_app hk
theorem Grm.lt {α : Type} {sz : Nat} {f : α → List AV} {h : Hp} {v : AV} {l : List α} (O : Grm sz f h v l) : ∃ k, idOf v = some k ∧ k < h.length := by
  obtain ⟨k, b, rfl, h2, h3⟩ := O
  exact ⟨k, rfl, (List.getElem?_eq_some_iff.1 h2).1⟩
theorem Grm.snocE {α : Type} {sz : Nat} {f : α → List AV} {h : Hp} {v : AV} {l : List α} (O : Grm sz f h v l) {by_ m : Nat} {z : α} {b : Bool} (hm : h[m]? = some (.arr sz [f z] true false)) (hv : idOf v ≠ some m) (hf : ∀ x ∈ z :: l, (f x).length = sz) (hl : (l.length + 1) * by_ ≤ 140737488355328) :
    ∃ v' e, appE sz by_ v (.sl sz m 0 1 1 b) h h.length = some (v', e) ∧ Grm sz f (ap h e) v' (l ++ [z]) ∧ h.length ≤ (ap h e).length ∧ (∀ j o, h[j]? = some o → idOf v ≠ some j → (ap h e)[j]? = some o) ∧ (idOf v' = idOf v ∨ idOf v' = some h.length) ∧ (∀ i ∈ e.foot, some i = idOf v ∨ i = m) ∧ (∀ q ∈ e.puts, some q.1 = idOf v) := by
  have hz : (f z).length = sz := hf z (by simp)
  obtain ⟨k, bb, rfl, h2, h3⟩ := O
  have hkl := (List.getElem?_eq_some_iff.1 h2).1
  cases bb with
  | true =>
    have := h3 rfl
    subst this
    have hb : by_ ≤ 140737488355328 := by simpa using hl
    refine ⟨.sl sz h.length 0 1 1 false, ⟨[], [.arr sz [f z] true false], [k, m]⟩, by simp [appE, readSl, hm, hz, hb, idsOf, h2], ⟨h.length, false, rfl, by simp [ap], by simp⟩, by simp [ap], fun j o hj _ => by simpa [ap] using get_app hj, .inr rfl, fun i hi => by simp at hi; rcases hi with rfl | rfl <;> simp, by simp⟩
  | false =>
    refine ⟨.sl sz k 0 (l ++ [z]).length (l ++ [z]).length false, ⟨[(k, .arr sz ((l ++ [z]).map f) true false)], [], [k, m]⟩, by simp [appE, readSl, hm, h2, hz, hl, idsOf], ⟨k, false, rfl, by simp [ap, hkl], by simp⟩, by simp [ap], fun j o hj hn => ?_, .inl rfl, fun i hi => by simp at hi; rcases hi with rfl | rfl <;> simp, fun q hq => by simp at hq; subst hq; rfl⟩
    have hkj : k ≠ j := by rintro rfl; exact hn rfl
    simp only [ap, List.foldl_cons, List.foldl_nil, List.append_nil]
    rw [List.getElem?_set_ne hkj]; exact hj
theorem Grm.cvt {α : Type} {sz : Nat} {f : α → List AV} {h : Hp} {v : AV} {l : List α} (O : Grm sz f h v l) (hf : ∀ x st, (f x).all (fun c => bif st then isS c else plain c) = true) (st : Bool) : Go.AM.cvt st h v = some (.lst sz false (l.map f)) := by
  obtain ⟨k, b, rfl, h2, h3⟩ := O
  exact cvt_whole h2 (by simp) (by simp) (okE_map fun x => hf x st)
theorem Grm.len {α : Type} {sz : Nat} {f : α → List AV} {h : Hp} {v : AV} {l : List α} (O : Grm sz f h v l) (k : Go.AM.K β) : lenK v k = k (I l.length) := by
  obtain ⟨j, b, rfl, h2, h3⟩ := O
  simp
end
end Go.AM


namespace Go.AM
structure Msg where
  mv : Int
  kind : Int
  num : Int
  day : Int
  frm : Int
  to : Int
  alc : Int
deriving DecidableEq
def encM (m : Msg) : List AV := [I m.mv, I m.kind, I m.num, I m.day, I m.frm, I m.to, I m.alc]
structure Docu where
  mv : Int
  stage : Int
  frm : Int
  to : Int
  sent : Int
  got : Int
  chg : Int
deriving DecidableEq
def encDo (d : Docu) : List AV := [I d.mv, I d.stage, I d.frm, I d.to, I d.sent, I d.got, I d.chg]
section
variable {β : Type}
theorem effK_put {r : R} {v : AV} {id : Nat} {o : AObj} {ft : List Nat} {h : Hp} (hr : r = some (v, ⟨[(id, o)], [], ft⟩)) (k : AV → Hp → Option β) : effK r h k = k v (h.set id o) := by subst hr; simp [effK, ap]
theorem effD_put {r : R} {v : AV} {id : Nat} {o : AObj} {ft : List Nat} {h : Hp} (hr : r = some (v, ⟨[(id, o)], [], ft⟩)) (k : AV → Hp → Ent → Option β) : effD r h k = k v (h.set id o) (ft, [id]) := by subst hr; simp [effD, ap, wrOf]
theorem ld7_0_0 {a b c d e f g : AV} {t : Hp} {w n : Bool} (k : K β) : ldK 1 false (.ptr 0 0 0 1) (.arr 7 [[a, b, c, d, e, f, g]] w n :: t) k = k a := rfl
theorem es7_0_0 {a b c d e f g : AV} {x : Int} {t : Hp} {n : Bool} (k : AV → Hp → Option β) : effK (stE 1 (.ptr 0 0 0 1) (.s (.int .i64 x)) (.arr 7 [[a, b, c, d, e, f, g]] true n :: t)) (.arr 7 [[a, b, c, d, e, f, g]] true n :: t) k = k .u (.arr 7 [[(.s (.int .i64 x)), b, c, d, e, f, g]] true n :: t) := effK_put rfl k
theorem ed7_0_0 {a b c d e f g : AV} {x : Int} {t : Hp} {n : Bool} (k : AV → Hp → Ent → Option β) : effD (stE 1 (.ptr 0 0 0 1) (.s (.int .i64 x)) (.arr 7 [[a, b, c, d, e, f, g]] true n :: t)) (.arr 7 [[a, b, c, d, e, f, g]] true n :: t) k = k .u (.arr 7 [[(.s (.int .i64 x)), b, c, d, e, f, g]] true n :: t) ([0], [0]) := effD_put rfl k
theorem ld7_0_1 {a b c d e f g : AV} {t : Hp} {w n : Bool} (k : K β) : ldK 1 false (.ptr 0 0 1 1) (.arr 7 [[a, b, c, d, e, f, g]] w n :: t) k = k b := rfl
theorem es7_0_1 {a b c d e f g : AV} {x : Int} {t : Hp} {n : Bool} (k : AV → Hp → Option β) : effK (stE 1 (.ptr 0 0 1 1) (.s (.int .i64 x)) (.arr 7 [[a, b, c, d, e, f, g]] true n :: t)) (.arr 7 [[a, b, c, d, e, f, g]] true n :: t) k = k .u (.arr 7 [[a, (.s (.int .i64 x)), c, d, e, f, g]] true n :: t) := effK_put rfl k
theorem ed7_0_1 {a b c d e f g : AV} {x : Int} {t : Hp} {n : Bool} (k : AV → Hp → Ent → Option β) : effD (stE 1 (.ptr 0 0 1 1) (.s (.int .i64 x)) (.arr 7 [[a, b, c, d, e, f, g]] true n :: t)) (.arr 7 [[a, b, c, d, e, f, g]] true n :: t) k = k .u (.arr 7 [[a, (.s (.int .i64 x)), c, d, e, f, g]] true n :: t) ([0], [0]) := effD_put rfl k
theorem ld7_0_2 {a b c d e f g : AV} {t : Hp} {w n : Bool} (k : K β) : ldK 1 false (.ptr 0 0 2 1) (.arr 7 [[a, b, c, d, e, f, g]] w n :: t) k = k c := rfl
theorem es7_0_2 {a b c d e f g : AV} {x : Int} {t : Hp} {n : Bool} (k : AV → Hp → Option β) : effK (stE 1 (.ptr 0 0 2 1) (.s (.int .i64 x)) (.arr 7 [[a, b, c, d, e, f, g]] true n :: t)) (.arr 7 [[a, b, c, d, e, f, g]] true n :: t) k = k .u (.arr 7 [[a, b, (.s (.int .i64 x)), d, e, f, g]] true n :: t) := effK_put rfl k
theorem ed7_0_2 {a b c d e f g : AV} {x : Int} {t : Hp} {n : Bool} (k : AV → Hp → Ent → Option β) : effD (stE 1 (.ptr 0 0 2 1) (.s (.int .i64 x)) (.arr 7 [[a, b, c, d, e, f, g]] true n :: t)) (.arr 7 [[a, b, c, d, e, f, g]] true n :: t) k = k .u (.arr 7 [[a, b, (.s (.int .i64 x)), d, e, f, g]] true n :: t) ([0], [0]) := effD_put rfl k
theorem ld7_0_3 {a b c d e f g : AV} {t : Hp} {w n : Bool} (k : K β) : ldK 1 false (.ptr 0 0 3 1) (.arr 7 [[a, b, c, d, e, f, g]] w n :: t) k = k d := rfl
theorem es7_0_3 {a b c d e f g : AV} {x : Int} {t : Hp} {n : Bool} (k : AV → Hp → Option β) : effK (stE 1 (.ptr 0 0 3 1) (.s (.int .i64 x)) (.arr 7 [[a, b, c, d, e, f, g]] true n :: t)) (.arr 7 [[a, b, c, d, e, f, g]] true n :: t) k = k .u (.arr 7 [[a, b, c, (.s (.int .i64 x)), e, f, g]] true n :: t) := effK_put rfl k
theorem ed7_0_3 {a b c d e f g : AV} {x : Int} {t : Hp} {n : Bool} (k : AV → Hp → Ent → Option β) : effD (stE 1 (.ptr 0 0 3 1) (.s (.int .i64 x)) (.arr 7 [[a, b, c, d, e, f, g]] true n :: t)) (.arr 7 [[a, b, c, d, e, f, g]] true n :: t) k = k .u (.arr 7 [[a, b, c, (.s (.int .i64 x)), e, f, g]] true n :: t) ([0], [0]) := effD_put rfl k
theorem ld7_0_4 {a b c d e f g : AV} {t : Hp} {w n : Bool} (k : K β) : ldK 1 false (.ptr 0 0 4 1) (.arr 7 [[a, b, c, d, e, f, g]] w n :: t) k = k e := rfl
theorem es7_0_4 {a b c d e f g : AV} {x : Int} {t : Hp} {n : Bool} (k : AV → Hp → Option β) : effK (stE 1 (.ptr 0 0 4 1) (.s (.int .i64 x)) (.arr 7 [[a, b, c, d, e, f, g]] true n :: t)) (.arr 7 [[a, b, c, d, e, f, g]] true n :: t) k = k .u (.arr 7 [[a, b, c, d, (.s (.int .i64 x)), f, g]] true n :: t) := effK_put rfl k
theorem ed7_0_4 {a b c d e f g : AV} {x : Int} {t : Hp} {n : Bool} (k : AV → Hp → Ent → Option β) : effD (stE 1 (.ptr 0 0 4 1) (.s (.int .i64 x)) (.arr 7 [[a, b, c, d, e, f, g]] true n :: t)) (.arr 7 [[a, b, c, d, e, f, g]] true n :: t) k = k .u (.arr 7 [[a, b, c, d, (.s (.int .i64 x)), f, g]] true n :: t) ([0], [0]) := effD_put rfl k
theorem ld7_0_5 {a b c d e f g : AV} {t : Hp} {w n : Bool} (k : K β) : ldK 1 false (.ptr 0 0 5 1) (.arr 7 [[a, b, c, d, e, f, g]] w n :: t) k = k f := rfl
theorem es7_0_5 {a b c d e f g : AV} {x : Int} {t : Hp} {n : Bool} (k : AV → Hp → Option β) : effK (stE 1 (.ptr 0 0 5 1) (.s (.int .i64 x)) (.arr 7 [[a, b, c, d, e, f, g]] true n :: t)) (.arr 7 [[a, b, c, d, e, f, g]] true n :: t) k = k .u (.arr 7 [[a, b, c, d, e, (.s (.int .i64 x)), g]] true n :: t) := effK_put rfl k
theorem ed7_0_5 {a b c d e f g : AV} {x : Int} {t : Hp} {n : Bool} (k : AV → Hp → Ent → Option β) : effD (stE 1 (.ptr 0 0 5 1) (.s (.int .i64 x)) (.arr 7 [[a, b, c, d, e, f, g]] true n :: t)) (.arr 7 [[a, b, c, d, e, f, g]] true n :: t) k = k .u (.arr 7 [[a, b, c, d, e, (.s (.int .i64 x)), g]] true n :: t) ([0], [0]) := effD_put rfl k
theorem ld7_0_6 {a b c d e f g : AV} {t : Hp} {w n : Bool} (k : K β) : ldK 1 false (.ptr 0 0 6 1) (.arr 7 [[a, b, c, d, e, f, g]] w n :: t) k = k g := rfl
theorem es7_0_6 {a b c d e f g : AV} {x : Int} {t : Hp} {n : Bool} (k : AV → Hp → Option β) : effK (stE 1 (.ptr 0 0 6 1) (.s (.int .i64 x)) (.arr 7 [[a, b, c, d, e, f, g]] true n :: t)) (.arr 7 [[a, b, c, d, e, f, g]] true n :: t) k = k .u (.arr 7 [[a, b, c, d, e, f, (.s (.int .i64 x))]] true n :: t) := effK_put rfl k
theorem ed7_0_6 {a b c d e f g : AV} {x : Int} {t : Hp} {n : Bool} (k : AV → Hp → Ent → Option β) : effD (stE 1 (.ptr 0 0 6 1) (.s (.int .i64 x)) (.arr 7 [[a, b, c, d, e, f, g]] true n :: t)) (.arr 7 [[a, b, c, d, e, f, g]] true n :: t) k = k .u (.arr 7 [[a, b, c, d, e, f, (.s (.int .i64 x))]] true n :: t) ([0], [0]) := effD_put rfl k
theorem lw7_0 {a b c d e f g : AV} {t : Hp} {w n : Bool} (k : K β) : ldK 7 true (.ptr 0 0 0 1) (.arr 7 [[a, b, c, d, e, f, g]] w n :: t) k = k (.agg [a, b, c, d, e, f, g]) := rfl
theorem ew7_0 {a b c d e f g : AV} {x0 x1 x2 x3 x4 x5 x6 : Int} {t : Hp} {n : Bool} (k : AV → Hp → Option β) : effK (stE 7 (.ptr 0 0 0 1) (.agg [(.s (.int .i64 x0)), (.s (.int .i64 x1)), (.s (.int .i64 x2)), (.s (.int .i64 x3)), (.s (.int .i64 x4)), (.s (.int .i64 x5)), (.s (.int .i64 x6))]) (.arr 7 [[a, b, c, d, e, f, g]] true n :: t)) (.arr 7 [[a, b, c, d, e, f, g]] true n :: t) k = k .u (.arr 7 [[(.s (.int .i64 x0)), (.s (.int .i64 x1)), (.s (.int .i64 x2)), (.s (.int .i64 x3)), (.s (.int .i64 x4)), (.s (.int .i64 x5)), (.s (.int .i64 x6))]] true n :: t) := effK_put rfl k
theorem bx7_0 {x0 x1 x2 x3 x4 x5 x6 : Int} (k : AV → Hp → Option β) : effK (boxE 7 (.agg [(.s (.int .i64 x0)), (.s (.int .i64 x1)), (.s (.int .i64 x2)), (.s (.int .i64 x3)), (.s (.int .i64 x4)), (.s (.int .i64 x5)), (.s (.int .i64 x6))]) ([] : Hp).length) [] k = k (.ptr 0 0 0 1) [.arr 7 [[(.s (.int .i64 x0)), (.s (.int .i64 x1)), (.s (.int .i64 x2)), (.s (.int .i64 x3)), (.s (.int .i64 x4)), (.s (.int .i64 x5)), (.s (.int .i64 x6))]] true false] := rfl
theorem ld7_1_0 {o0 : AObj} {a b c d e f g : AV} {t : Hp} {w n : Bool} (k : K β) : ldK 1 false (.ptr 1 0 0 1) (o0 :: .arr 7 [[a, b, c, d, e, f, g]] w n :: t) k = k a := rfl
theorem es7_1_0 {o0 : AObj} {a b c d e f g : AV} {x : Int} {t : Hp} {n : Bool} (k : AV → Hp → Option β) : effK (stE 1 (.ptr 1 0 0 1) (.s (.int .i64 x)) (o0 :: .arr 7 [[a, b, c, d, e, f, g]] true n :: t)) (o0 :: .arr 7 [[a, b, c, d, e, f, g]] true n :: t) k = k .u (o0 :: .arr 7 [[(.s (.int .i64 x)), b, c, d, e, f, g]] true n :: t) := effK_put rfl k
theorem ed7_1_0 {o0 : AObj} {a b c d e f g : AV} {x : Int} {t : Hp} {n : Bool} (k : AV → Hp → Ent → Option β) : effD (stE 1 (.ptr 1 0 0 1) (.s (.int .i64 x)) (o0 :: .arr 7 [[a, b, c, d, e, f, g]] true n :: t)) (o0 :: .arr 7 [[a, b, c, d, e, f, g]] true n :: t) k = k .u (o0 :: .arr 7 [[(.s (.int .i64 x)), b, c, d, e, f, g]] true n :: t) ([1], [1]) := effD_put rfl k
theorem ld7_1_1 {o0 : AObj} {a b c d e f g : AV} {t : Hp} {w n : Bool} (k : K β) : ldK 1 false (.ptr 1 0 1 1) (o0 :: .arr 7 [[a, b, c, d, e, f, g]] w n :: t) k = k b := rfl
theorem es7_1_1 {o0 : AObj} {a b c d e f g : AV} {x : Int} {t : Hp} {n : Bool} (k : AV → Hp → Option β) : effK (stE 1 (.ptr 1 0 1 1) (.s (.int .i64 x)) (o0 :: .arr 7 [[a, b, c, d, e, f, g]] true n :: t)) (o0 :: .arr 7 [[a, b, c, d, e, f, g]] true n :: t) k = k .u (o0 :: .arr 7 [[a, (.s (.int .i64 x)), c, d, e, f, g]] true n :: t) := effK_put rfl k
theorem ed7_1_1 {o0 : AObj} {a b c d e f g : AV} {x : Int} {t : Hp} {n : Bool} (k : AV → Hp → Ent → Option β) : effD (stE 1 (.ptr 1 0 1 1) (.s (.int .i64 x)) (o0 :: .arr 7 [[a, b, c, d, e, f, g]] true n :: t)) (o0 :: .arr 7 [[a, b, c, d, e, f, g]] true n :: t) k = k .u (o0 :: .arr 7 [[a, (.s (.int .i64 x)), c, d, e, f, g]] true n :: t) ([1], [1]) := effD_put rfl k
theorem ld7_1_2 {o0 : AObj} {a b c d e f g : AV} {t : Hp} {w n : Bool} (k : K β) : ldK 1 false (.ptr 1 0 2 1) (o0 :: .arr 7 [[a, b, c, d, e, f, g]] w n :: t) k = k c := rfl
theorem es7_1_2 {o0 : AObj} {a b c d e f g : AV} {x : Int} {t : Hp} {n : Bool} (k : AV → Hp → Option β) : effK (stE 1 (.ptr 1 0 2 1) (.s (.int .i64 x)) (o0 :: .arr 7 [[a, b, c, d, e, f, g]] true n :: t)) (o0 :: .arr 7 [[a, b, c, d, e, f, g]] true n :: t) k = k .u (o0 :: .arr 7 [[a, b, (.s (.int .i64 x)), d, e, f, g]] true n :: t) := effK_put rfl k
theorem ed7_1_2 {o0 : AObj} {a b c d e f g : AV} {x : Int} {t : Hp} {n : Bool} (k : AV → Hp → Ent → Option β) : effD (stE 1 (.ptr 1 0 2 1) (.s (.int .i64 x)) (o0 :: .arr 7 [[a, b, c, d, e, f, g]] true n :: t)) (o0 :: .arr 7 [[a, b, c, d, e, f, g]] true n :: t) k = k .u (o0 :: .arr 7 [[a, b, (.s (.int .i64 x)), d, e, f, g]] true n :: t) ([1], [1]) := effD_put rfl k
theorem ld7_1_3 {o0 : AObj} {a b c d e f g : AV} {t : Hp} {w n : Bool} (k : K β) : ldK 1 false (.ptr 1 0 3 1) (o0 :: .arr 7 [[a, b, c, d, e, f, g]] w n :: t) k = k d := rfl
theorem es7_1_3 {o0 : AObj} {a b c d e f g : AV} {x : Int} {t : Hp} {n : Bool} (k : AV → Hp → Option β) : effK (stE 1 (.ptr 1 0 3 1) (.s (.int .i64 x)) (o0 :: .arr 7 [[a, b, c, d, e, f, g]] true n :: t)) (o0 :: .arr 7 [[a, b, c, d, e, f, g]] true n :: t) k = k .u (o0 :: .arr 7 [[a, b, c, (.s (.int .i64 x)), e, f, g]] true n :: t) := effK_put rfl k
theorem ed7_1_3 {o0 : AObj} {a b c d e f g : AV} {x : Int} {t : Hp} {n : Bool} (k : AV → Hp → Ent → Option β) : effD (stE 1 (.ptr 1 0 3 1) (.s (.int .i64 x)) (o0 :: .arr 7 [[a, b, c, d, e, f, g]] true n :: t)) (o0 :: .arr 7 [[a, b, c, d, e, f, g]] true n :: t) k = k .u (o0 :: .arr 7 [[a, b, c, (.s (.int .i64 x)), e, f, g]] true n :: t) ([1], [1]) := effD_put rfl k
theorem ld7_1_4 {o0 : AObj} {a b c d e f g : AV} {t : Hp} {w n : Bool} (k : K β) : ldK 1 false (.ptr 1 0 4 1) (o0 :: .arr 7 [[a, b, c, d, e, f, g]] w n :: t) k = k e := rfl
theorem es7_1_4 {o0 : AObj} {a b c d e f g : AV} {x : Int} {t : Hp} {n : Bool} (k : AV → Hp → Option β) : effK (stE 1 (.ptr 1 0 4 1) (.s (.int .i64 x)) (o0 :: .arr 7 [[a, b, c, d, e, f, g]] true n :: t)) (o0 :: .arr 7 [[a, b, c, d, e, f, g]] true n :: t) k = k .u (o0 :: .arr 7 [[a, b, c, d, (.s (.int .i64 x)), f, g]] true n :: t) := effK_put rfl k
theorem ed7_1_4 {o0 : AObj} {a b c d e f g : AV} {x : Int} {t : Hp} {n : Bool} (k : AV → Hp → Ent → Option β) : effD (stE 1 (.ptr 1 0 4 1) (.s (.int .i64 x)) (o0 :: .arr 7 [[a, b, c, d, e, f, g]] true n :: t)) (o0 :: .arr 7 [[a, b, c, d, e, f, g]] true n :: t) k = k .u (o0 :: .arr 7 [[a, b, c, d, (.s (.int .i64 x)), f, g]] true n :: t) ([1], [1]) := effD_put rfl k
theorem ld7_1_5 {o0 : AObj} {a b c d e f g : AV} {t : Hp} {w n : Bool} (k : K β) : ldK 1 false (.ptr 1 0 5 1) (o0 :: .arr 7 [[a, b, c, d, e, f, g]] w n :: t) k = k f := rfl
theorem es7_1_5 {o0 : AObj} {a b c d e f g : AV} {x : Int} {t : Hp} {n : Bool} (k : AV → Hp → Option β) : effK (stE 1 (.ptr 1 0 5 1) (.s (.int .i64 x)) (o0 :: .arr 7 [[a, b, c, d, e, f, g]] true n :: t)) (o0 :: .arr 7 [[a, b, c, d, e, f, g]] true n :: t) k = k .u (o0 :: .arr 7 [[a, b, c, d, e, (.s (.int .i64 x)), g]] true n :: t) := effK_put rfl k
theorem ed7_1_5 {o0 : AObj} {a b c d e f g : AV} {x : Int} {t : Hp} {n : Bool} (k : AV → Hp → Ent → Option β) : effD (stE 1 (.ptr 1 0 5 1) (.s (.int .i64 x)) (o0 :: .arr 7 [[a, b, c, d, e, f, g]] true n :: t)) (o0 :: .arr 7 [[a, b, c, d, e, f, g]] true n :: t) k = k .u (o0 :: .arr 7 [[a, b, c, d, e, (.s (.int .i64 x)), g]] true n :: t) ([1], [1]) := effD_put rfl k
theorem ld7_1_6 {o0 : AObj} {a b c d e f g : AV} {t : Hp} {w n : Bool} (k : K β) : ldK 1 false (.ptr 1 0 6 1) (o0 :: .arr 7 [[a, b, c, d, e, f, g]] w n :: t) k = k g := rfl
theorem es7_1_6 {o0 : AObj} {a b c d e f g : AV} {x : Int} {t : Hp} {n : Bool} (k : AV → Hp → Option β) : effK (stE 1 (.ptr 1 0 6 1) (.s (.int .i64 x)) (o0 :: .arr 7 [[a, b, c, d, e, f, g]] true n :: t)) (o0 :: .arr 7 [[a, b, c, d, e, f, g]] true n :: t) k = k .u (o0 :: .arr 7 [[a, b, c, d, e, f, (.s (.int .i64 x))]] true n :: t) := effK_put rfl k
theorem ed7_1_6 {o0 : AObj} {a b c d e f g : AV} {x : Int} {t : Hp} {n : Bool} (k : AV → Hp → Ent → Option β) : effD (stE 1 (.ptr 1 0 6 1) (.s (.int .i64 x)) (o0 :: .arr 7 [[a, b, c, d, e, f, g]] true n :: t)) (o0 :: .arr 7 [[a, b, c, d, e, f, g]] true n :: t) k = k .u (o0 :: .arr 7 [[a, b, c, d, e, f, (.s (.int .i64 x))]] true n :: t) ([1], [1]) := effD_put rfl k
theorem lw7_1 {o0 : AObj} {a b c d e f g : AV} {t : Hp} {w n : Bool} (k : K β) : ldK 7 true (.ptr 1 0 0 1) (o0 :: .arr 7 [[a, b, c, d, e, f, g]] w n :: t) k = k (.agg [a, b, c, d, e, f, g]) := rfl
theorem ew7_1 {o0 : AObj} {a b c d e f g : AV} {x0 x1 x2 x3 x4 x5 x6 : Int} {t : Hp} {n : Bool} (k : AV → Hp → Option β) : effK (stE 7 (.ptr 1 0 0 1) (.agg [(.s (.int .i64 x0)), (.s (.int .i64 x1)), (.s (.int .i64 x2)), (.s (.int .i64 x3)), (.s (.int .i64 x4)), (.s (.int .i64 x5)), (.s (.int .i64 x6))]) (o0 :: .arr 7 [[a, b, c, d, e, f, g]] true n :: t)) (o0 :: .arr 7 [[a, b, c, d, e, f, g]] true n :: t) k = k .u (o0 :: .arr 7 [[(.s (.int .i64 x0)), (.s (.int .i64 x1)), (.s (.int .i64 x2)), (.s (.int .i64 x3)), (.s (.int .i64 x4)), (.s (.int .i64 x5)), (.s (.int .i64 x6))]] true n :: t) := effK_put rfl k
theorem bx7_1 {o0 : AObj} {x0 x1 x2 x3 x4 x5 x6 : Int} (k : AV → Hp → Option β) : effK (boxE 7 (.agg [(.s (.int .i64 x0)), (.s (.int .i64 x1)), (.s (.int .i64 x2)), (.s (.int .i64 x3)), (.s (.int .i64 x4)), (.s (.int .i64 x5)), (.s (.int .i64 x6))]) ([o0] : Hp).length) [o0] k = k (.ptr 1 0 0 1) [o0, .arr 7 [[(.s (.int .i64 x0)), (.s (.int .i64 x1)), (.s (.int .i64 x2)), (.s (.int .i64 x3)), (.s (.int .i64 x4)), (.s (.int .i64 x5)), (.s (.int .i64 x6))]] true false] := rfl
theorem ld7_2_0 {o0 : AObj} {o1 : AObj} {a b c d e f g : AV} {t : Hp} {w n : Bool} (k : K β) : ldK 1 false (.ptr 2 0 0 1) (o0 :: o1 :: .arr 7 [[a, b, c, d, e, f, g]] w n :: t) k = k a := rfl
theorem es7_2_0 {o0 : AObj} {o1 : AObj} {a b c d e f g : AV} {x : Int} {t : Hp} {n : Bool} (k : AV → Hp → Option β) : effK (stE 1 (.ptr 2 0 0 1) (.s (.int .i64 x)) (o0 :: o1 :: .arr 7 [[a, b, c, d, e, f, g]] true n :: t)) (o0 :: o1 :: .arr 7 [[a, b, c, d, e, f, g]] true n :: t) k = k .u (o0 :: o1 :: .arr 7 [[(.s (.int .i64 x)), b, c, d, e, f, g]] true n :: t) := effK_put rfl k
theorem ed7_2_0 {o0 : AObj} {o1 : AObj} {a b c d e f g : AV} {x : Int} {t : Hp} {n : Bool} (k : AV → Hp → Ent → Option β) : effD (stE 1 (.ptr 2 0 0 1) (.s (.int .i64 x)) (o0 :: o1 :: .arr 7 [[a, b, c, d, e, f, g]] true n :: t)) (o0 :: o1 :: .arr 7 [[a, b, c, d, e, f, g]] true n :: t) k = k .u (o0 :: o1 :: .arr 7 [[(.s (.int .i64 x)), b, c, d, e, f, g]] true n :: t) ([2], [2]) := effD_put rfl k
theorem ld7_2_1 {o0 : AObj} {o1 : AObj} {a b c d e f g : AV} {t : Hp} {w n : Bool} (k : K β) : ldK 1 false (.ptr 2 0 1 1) (o0 :: o1 :: .arr 7 [[a, b, c, d, e, f, g]] w n :: t) k = k b := rfl
theorem es7_2_1 {o0 : AObj} {o1 : AObj} {a b c d e f g : AV} {x : Int} {t : Hp} {n : Bool} (k : AV → Hp → Option β) : effK (stE 1 (.ptr 2 0 1 1) (.s (.int .i64 x)) (o0 :: o1 :: .arr 7 [[a, b, c, d, e, f, g]] true n :: t)) (o0 :: o1 :: .arr 7 [[a, b, c, d, e, f, g]] true n :: t) k = k .u (o0 :: o1 :: .arr 7 [[a, (.s (.int .i64 x)), c, d, e, f, g]] true n :: t) := effK_put rfl k
theorem ed7_2_1 {o0 : AObj} {o1 : AObj} {a b c d e f g : AV} {x : Int} {t : Hp} {n : Bool} (k : AV → Hp → Ent → Option β) : effD (stE 1 (.ptr 2 0 1 1) (.s (.int .i64 x)) (o0 :: o1 :: .arr 7 [[a, b, c, d, e, f, g]] true n :: t)) (o0 :: o1 :: .arr 7 [[a, b, c, d, e, f, g]] true n :: t) k = k .u (o0 :: o1 :: .arr 7 [[a, (.s (.int .i64 x)), c, d, e, f, g]] true n :: t) ([2], [2]) := effD_put rfl k
theorem ld7_2_2 {o0 : AObj} {o1 : AObj} {a b c d e f g : AV} {t : Hp} {w n : Bool} (k : K β) : ldK 1 false (.ptr 2 0 2 1) (o0 :: o1 :: .arr 7 [[a, b, c, d, e, f, g]] w n :: t) k = k c := rfl
theorem es7_2_2 {o0 : AObj} {o1 : AObj} {a b c d e f g : AV} {x : Int} {t : Hp} {n : Bool} (k : AV → Hp → Option β) : effK (stE 1 (.ptr 2 0 2 1) (.s (.int .i64 x)) (o0 :: o1 :: .arr 7 [[a, b, c, d, e, f, g]] true n :: t)) (o0 :: o1 :: .arr 7 [[a, b, c, d, e, f, g]] true n :: t) k = k .u (o0 :: o1 :: .arr 7 [[a, b, (.s (.int .i64 x)), d, e, f, g]] true n :: t) := effK_put rfl k
theorem ed7_2_2 {o0 : AObj} {o1 : AObj} {a b c d e f g : AV} {x : Int} {t : Hp} {n : Bool} (k : AV → Hp → Ent → Option β) : effD (stE 1 (.ptr 2 0 2 1) (.s (.int .i64 x)) (o0 :: o1 :: .arr 7 [[a, b, c, d, e, f, g]] true n :: t)) (o0 :: o1 :: .arr 7 [[a, b, c, d, e, f, g]] true n :: t) k = k .u (o0 :: o1 :: .arr 7 [[a, b, (.s (.int .i64 x)), d, e, f, g]] true n :: t) ([2], [2]) := effD_put rfl k
theorem ld7_2_3 {o0 : AObj} {o1 : AObj} {a b c d e f g : AV} {t : Hp} {w n : Bool} (k : K β) : ldK 1 false (.ptr 2 0 3 1) (o0 :: o1 :: .arr 7 [[a, b, c, d, e, f, g]] w n :: t) k = k d := rfl
theorem es7_2_3 {o0 : AObj} {o1 : AObj} {a b c d e f g : AV} {x : Int} {t : Hp} {n : Bool} (k : AV → Hp → Option β) : effK (stE 1 (.ptr 2 0 3 1) (.s (.int .i64 x)) (o0 :: o1 :: .arr 7 [[a, b, c, d, e, f, g]] true n :: t)) (o0 :: o1 :: .arr 7 [[a, b, c, d, e, f, g]] true n :: t) k = k .u (o0 :: o1 :: .arr 7 [[a, b, c, (.s (.int .i64 x)), e, f, g]] true n :: t) := effK_put rfl k
theorem ed7_2_3 {o0 : AObj} {o1 : AObj} {a b c d e f g : AV} {x : Int} {t : Hp} {n : Bool} (k : AV → Hp → Ent → Option β) : effD (stE 1 (.ptr 2 0 3 1) (.s (.int .i64 x)) (o0 :: o1 :: .arr 7 [[a, b, c, d, e, f, g]] true n :: t)) (o0 :: o1 :: .arr 7 [[a, b, c, d, e, f, g]] true n :: t) k = k .u (o0 :: o1 :: .arr 7 [[a, b, c, (.s (.int .i64 x)), e, f, g]] true n :: t) ([2], [2]) := effD_put rfl k
theorem ld7_2_4 {o0 : AObj} {o1 : AObj} {a b c d e f g : AV} {t : Hp} {w n : Bool} (k : K β) : ldK 1 false (.ptr 2 0 4 1) (o0 :: o1 :: .arr 7 [[a, b, c, d, e, f, g]] w n :: t) k = k e := rfl
theorem es7_2_4 {o0 : AObj} {o1 : AObj} {a b c d e f g : AV} {x : Int} {t : Hp} {n : Bool} (k : AV → Hp → Option β) : effK (stE 1 (.ptr 2 0 4 1) (.s (.int .i64 x)) (o0 :: o1 :: .arr 7 [[a, b, c, d, e, f, g]] true n :: t)) (o0 :: o1 :: .arr 7 [[a, b, c, d, e, f, g]] true n :: t) k = k .u (o0 :: o1 :: .arr 7 [[a, b, c, d, (.s (.int .i64 x)), f, g]] true n :: t) := effK_put rfl k
theorem ed7_2_4 {o0 : AObj} {o1 : AObj} {a b c d e f g : AV} {x : Int} {t : Hp} {n : Bool} (k : AV → Hp → Ent → Option β) : effD (stE 1 (.ptr 2 0 4 1) (.s (.int .i64 x)) (o0 :: o1 :: .arr 7 [[a, b, c, d, e, f, g]] true n :: t)) (o0 :: o1 :: .arr 7 [[a, b, c, d, e, f, g]] true n :: t) k = k .u (o0 :: o1 :: .arr 7 [[a, b, c, d, (.s (.int .i64 x)), f, g]] true n :: t) ([2], [2]) := effD_put rfl k
theorem ld7_2_5 {o0 : AObj} {o1 : AObj} {a b c d e f g : AV} {t : Hp} {w n : Bool} (k : K β) : ldK 1 false (.ptr 2 0 5 1) (o0 :: o1 :: .arr 7 [[a, b, c, d, e, f, g]] w n :: t) k = k f := rfl
theorem es7_2_5 {o0 : AObj} {o1 : AObj} {a b c d e f g : AV} {x : Int} {t : Hp} {n : Bool} (k : AV → Hp → Option β) : effK (stE 1 (.ptr 2 0 5 1) (.s (.int .i64 x)) (o0 :: o1 :: .arr 7 [[a, b, c, d, e, f, g]] true n :: t)) (o0 :: o1 :: .arr 7 [[a, b, c, d, e, f, g]] true n :: t) k = k .u (o0 :: o1 :: .arr 7 [[a, b, c, d, e, (.s (.int .i64 x)), g]] true n :: t) := effK_put rfl k
theorem ed7_2_5 {o0 : AObj} {o1 : AObj} {a b c d e f g : AV} {x : Int} {t : Hp} {n : Bool} (k : AV → Hp → Ent → Option β) : effD (stE 1 (.ptr 2 0 5 1) (.s (.int .i64 x)) (o0 :: o1 :: .arr 7 [[a, b, c, d, e, f, g]] true n :: t)) (o0 :: o1 :: .arr 7 [[a, b, c, d, e, f, g]] true n :: t) k = k .u (o0 :: o1 :: .arr 7 [[a, b, c, d, e, (.s (.int .i64 x)), g]] true n :: t) ([2], [2]) := effD_put rfl k
theorem ld7_2_6 {o0 : AObj} {o1 : AObj} {a b c d e f g : AV} {t : Hp} {w n : Bool} (k : K β) : ldK 1 false (.ptr 2 0 6 1) (o0 :: o1 :: .arr 7 [[a, b, c, d, e, f, g]] w n :: t) k = k g := rfl
theorem es7_2_6 {o0 : AObj} {o1 : AObj} {a b c d e f g : AV} {x : Int} {t : Hp} {n : Bool} (k : AV → Hp → Option β) : effK (stE 1 (.ptr 2 0 6 1) (.s (.int .i64 x)) (o0 :: o1 :: .arr 7 [[a, b, c, d, e, f, g]] true n :: t)) (o0 :: o1 :: .arr 7 [[a, b, c, d, e, f, g]] true n :: t) k = k .u (o0 :: o1 :: .arr 7 [[a, b, c, d, e, f, (.s (.int .i64 x))]] true n :: t) := effK_put rfl k
theorem ed7_2_6 {o0 : AObj} {o1 : AObj} {a b c d e f g : AV} {x : Int} {t : Hp} {n : Bool} (k : AV → Hp → Ent → Option β) : effD (stE 1 (.ptr 2 0 6 1) (.s (.int .i64 x)) (o0 :: o1 :: .arr 7 [[a, b, c, d, e, f, g]] true n :: t)) (o0 :: o1 :: .arr 7 [[a, b, c, d, e, f, g]] true n :: t) k = k .u (o0 :: o1 :: .arr 7 [[a, b, c, d, e, f, (.s (.int .i64 x))]] true n :: t) ([2], [2]) := effD_put rfl k
theorem lw7_2 {o0 : AObj} {o1 : AObj} {a b c d e f g : AV} {t : Hp} {w n : Bool} (k : K β) : ldK 7 true (.ptr 2 0 0 1) (o0 :: o1 :: .arr 7 [[a, b, c, d, e, f, g]] w n :: t) k = k (.agg [a, b, c, d, e, f, g]) := rfl
theorem ew7_2 {o0 : AObj} {o1 : AObj} {a b c d e f g : AV} {x0 x1 x2 x3 x4 x5 x6 : Int} {t : Hp} {n : Bool} (k : AV → Hp → Option β) : effK (stE 7 (.ptr 2 0 0 1) (.agg [(.s (.int .i64 x0)), (.s (.int .i64 x1)), (.s (.int .i64 x2)), (.s (.int .i64 x3)), (.s (.int .i64 x4)), (.s (.int .i64 x5)), (.s (.int .i64 x6))]) (o0 :: o1 :: .arr 7 [[a, b, c, d, e, f, g]] true n :: t)) (o0 :: o1 :: .arr 7 [[a, b, c, d, e, f, g]] true n :: t) k = k .u (o0 :: o1 :: .arr 7 [[(.s (.int .i64 x0)), (.s (.int .i64 x1)), (.s (.int .i64 x2)), (.s (.int .i64 x3)), (.s (.int .i64 x4)), (.s (.int .i64 x5)), (.s (.int .i64 x6))]] true n :: t) := effK_put rfl k
theorem bx7_2 {o0 : AObj} {o1 : AObj} {x0 x1 x2 x3 x4 x5 x6 : Int} (k : AV → Hp → Option β) : effK (boxE 7 (.agg [(.s (.int .i64 x0)), (.s (.int .i64 x1)), (.s (.int .i64 x2)), (.s (.int .i64 x3)), (.s (.int .i64 x4)), (.s (.int .i64 x5)), (.s (.int .i64 x6))]) ([o0, o1] : Hp).length) [o0, o1] k = k (.ptr 2 0 0 1) [o0, o1, .arr 7 [[(.s (.int .i64 x0)), (.s (.int .i64 x1)), (.s (.int .i64 x2)), (.s (.int .i64 x3)), (.s (.int .i64 x4)), (.s (.int .i64 x5)), (.s (.int .i64 x6))]] true false] := rfl
theorem ld7_3_0 {o0 : AObj} {o1 : AObj} {o2 : AObj} {a b c d e f g : AV} {t : Hp} {w n : Bool} (k : K β) : ldK 1 false (.ptr 3 0 0 1) (o0 :: o1 :: o2 :: .arr 7 [[a, b, c, d, e, f, g]] w n :: t) k = k a := rfl
theorem es7_3_0 {o0 : AObj} {o1 : AObj} {o2 : AObj} {a b c d e f g : AV} {x : Int} {t : Hp} {n : Bool} (k : AV → Hp → Option β) : effK (stE 1 (.ptr 3 0 0 1) (.s (.int .i64 x)) (o0 :: o1 :: o2 :: .arr 7 [[a, b, c, d, e, f, g]] true n :: t)) (o0 :: o1 :: o2 :: .arr 7 [[a, b, c, d, e, f, g]] true n :: t) k = k .u (o0 :: o1 :: o2 :: .arr 7 [[(.s (.int .i64 x)), b, c, d, e, f, g]] true n :: t) := effK_put rfl k
theorem ed7_3_0 {o0 : AObj} {o1 : AObj} {o2 : AObj} {a b c d e f g : AV} {x : Int} {t : Hp} {n : Bool} (k : AV → Hp → Ent → Option β) : effD (stE 1 (.ptr 3 0 0 1) (.s (.int .i64 x)) (o0 :: o1 :: o2 :: .arr 7 [[a, b, c, d, e, f, g]] true n :: t)) (o0 :: o1 :: o2 :: .arr 7 [[a, b, c, d, e, f, g]] true n :: t) k = k .u (o0 :: o1 :: o2 :: .arr 7 [[(.s (.int .i64 x)), b, c, d, e, f, g]] true n :: t) ([3], [3]) := effD_put rfl k
theorem ld7_3_1 {o0 : AObj} {o1 : AObj} {o2 : AObj} {a b c d e f g : AV} {t : Hp} {w n : Bool} (k : K β) : ldK 1 false (.ptr 3 0 1 1) (o0 :: o1 :: o2 :: .arr 7 [[a, b, c, d, e, f, g]] w n :: t) k = k b := rfl
theorem es7_3_1 {o0 : AObj} {o1 : AObj} {o2 : AObj} {a b c d e f g : AV} {x : Int} {t : Hp} {n : Bool} (k : AV → Hp → Option β) : effK (stE 1 (.ptr 3 0 1 1) (.s (.int .i64 x)) (o0 :: o1 :: o2 :: .arr 7 [[a, b, c, d, e, f, g]] true n :: t)) (o0 :: o1 :: o2 :: .arr 7 [[a, b, c, d, e, f, g]] true n :: t) k = k .u (o0 :: o1 :: o2 :: .arr 7 [[a, (.s (.int .i64 x)), c, d, e, f, g]] true n :: t) := effK_put rfl k
theorem ed7_3_1 {o0 : AObj} {o1 : AObj} {o2 : AObj} {a b c d e f g : AV} {x : Int} {t : Hp} {n : Bool} (k : AV → Hp → Ent → Option β) : effD (stE 1 (.ptr 3 0 1 1) (.s (.int .i64 x)) (o0 :: o1 :: o2 :: .arr 7 [[a, b, c, d, e, f, g]] true n :: t)) (o0 :: o1 :: o2 :: .arr 7 [[a, b, c, d, e, f, g]] true n :: t) k = k .u (o0 :: o1 :: o2 :: .arr 7 [[a, (.s (.int .i64 x)), c, d, e, f, g]] true n :: t) ([3], [3]) := effD_put rfl k
theorem ld7_3_2 {o0 : AObj} {o1 : AObj} {o2 : AObj} {a b c d e f g : AV} {t : Hp} {w n : Bool} (k : K β) : ldK 1 false (.ptr 3 0 2 1) (o0 :: o1 :: o2 :: .arr 7 [[a, b, c, d, e, f, g]] w n :: t) k = k c := rfl
theorem es7_3_2 {o0 : AObj} {o1 : AObj} {o2 : AObj} {a b c d e f g : AV} {x : Int} {t : Hp} {n : Bool} (k : AV → Hp → Option β) : effK (stE 1 (.ptr 3 0 2 1) (.s (.int .i64 x)) (o0 :: o1 :: o2 :: .arr 7 [[a, b, c, d, e, f, g]] true n :: t)) (o0 :: o1 :: o2 :: .arr 7 [[a, b, c, d, e, f, g]] true n :: t) k = k .u (o0 :: o1 :: o2 :: .arr 7 [[a, b, (.s (.int .i64 x)), d, e, f, g]] true n :: t) := effK_put rfl k
theorem ed7_3_2 {o0 : AObj} {o1 : AObj} {o2 : AObj} {a b c d e f g : AV} {x : Int} {t : Hp} {n : Bool} (k : AV → Hp → Ent → Option β) : effD (stE 1 (.ptr 3 0 2 1) (.s (.int .i64 x)) (o0 :: o1 :: o2 :: .arr 7 [[a, b, c, d, e, f, g]] true n :: t)) (o0 :: o1 :: o2 :: .arr 7 [[a, b, c, d, e, f, g]] true n :: t) k = k .u (o0 :: o1 :: o2 :: .arr 7 [[a, b, (.s (.int .i64 x)), d, e, f, g]] true n :: t) ([3], [3]) := effD_put rfl k
theorem ld7_3_3 {o0 : AObj} {o1 : AObj} {o2 : AObj} {a b c d e f g : AV} {t : Hp} {w n : Bool} (k : K β) : ldK 1 false (.ptr 3 0 3 1) (o0 :: o1 :: o2 :: .arr 7 [[a, b, c, d, e, f, g]] w n :: t) k = k d := rfl
theorem es7_3_3 {o0 : AObj} {o1 : AObj} {o2 : AObj} {a b c d e f g : AV} {x : Int} {t : Hp} {n : Bool} (k : AV → Hp → Option β) : effK (stE 1 (.ptr 3 0 3 1) (.s (.int .i64 x)) (o0 :: o1 :: o2 :: .arr 7 [[a, b, c, d, e, f, g]] true n :: t)) (o0 :: o1 :: o2 :: .arr 7 [[a, b, c, d, e, f, g]] true n :: t) k = k .u (o0 :: o1 :: o2 :: .arr 7 [[a, b, c, (.s (.int .i64 x)), e, f, g]] true n :: t) := effK_put rfl k
theorem ed7_3_3 {o0 : AObj} {o1 : AObj} {o2 : AObj} {a b c d e f g : AV} {x : Int} {t : Hp} {n : Bool} (k : AV → Hp → Ent → Option β) : effD (stE 1 (.ptr 3 0 3 1) (.s (.int .i64 x)) (o0 :: o1 :: o2 :: .arr 7 [[a, b, c, d, e, f, g]] true n :: t)) (o0 :: o1 :: o2 :: .arr 7 [[a, b, c, d, e, f, g]] true n :: t) k = k .u (o0 :: o1 :: o2 :: .arr 7 [[a, b, c, (.s (.int .i64 x)), e, f, g]] true n :: t) ([3], [3]) := effD_put rfl k
theorem ld7_3_4 {o0 : AObj} {o1 : AObj} {o2 : AObj} {a b c d e f g : AV} {t : Hp} {w n : Bool} (k : K β) : ldK 1 false (.ptr 3 0 4 1) (o0 :: o1 :: o2 :: .arr 7 [[a, b, c, d, e, f, g]] w n :: t) k = k e := rfl
theorem es7_3_4 {o0 : AObj} {o1 : AObj} {o2 : AObj} {a b c d e f g : AV} {x : Int} {t : Hp} {n : Bool} (k : AV → Hp → Option β) : effK (stE 1 (.ptr 3 0 4 1) (.s (.int .i64 x)) (o0 :: o1 :: o2 :: .arr 7 [[a, b, c, d, e, f, g]] true n :: t)) (o0 :: o1 :: o2 :: .arr 7 [[a, b, c, d, e, f, g]] true n :: t) k = k .u (o0 :: o1 :: o2 :: .arr 7 [[a, b, c, d, (.s (.int .i64 x)), f, g]] true n :: t) := effK_put rfl k
theorem ed7_3_4 {o0 : AObj} {o1 : AObj} {o2 : AObj} {a b c d e f g : AV} {x : Int} {t : Hp} {n : Bool} (k : AV → Hp → Ent → Option β) : effD (stE 1 (.ptr 3 0 4 1) (.s (.int .i64 x)) (o0 :: o1 :: o2 :: .arr 7 [[a, b, c, d, e, f, g]] true n :: t)) (o0 :: o1 :: o2 :: .arr 7 [[a, b, c, d, e, f, g]] true n :: t) k = k .u (o0 :: o1 :: o2 :: .arr 7 [[a, b, c, d, (.s (.int .i64 x)), f, g]] true n :: t) ([3], [3]) := effD_put rfl k
theorem ld7_3_5 {o0 : AObj} {o1 : AObj} {o2 : AObj} {a b c d e f g : AV} {t : Hp} {w n : Bool} (k : K β) : ldK 1 false (.ptr 3 0 5 1) (o0 :: o1 :: o2 :: .arr 7 [[a, b, c, d, e, f, g]] w n :: t) k = k f := rfl
theorem es7_3_5 {o0 : AObj} {o1 : AObj} {o2 : AObj} {a b c d e f g : AV} {x : Int} {t : Hp} {n : Bool} (k : AV → Hp → Option β) : effK (stE 1 (.ptr 3 0 5 1) (.s (.int .i64 x)) (o0 :: o1 :: o2 :: .arr 7 [[a, b, c, d, e, f, g]] true n :: t)) (o0 :: o1 :: o2 :: .arr 7 [[a, b, c, d, e, f, g]] true n :: t) k = k .u (o0 :: o1 :: o2 :: .arr 7 [[a, b, c, d, e, (.s (.int .i64 x)), g]] true n :: t) := effK_put rfl k
theorem ed7_3_5 {o0 : AObj} {o1 : AObj} {o2 : AObj} {a b c d e f g : AV} {x : Int} {t : Hp} {n : Bool} (k : AV → Hp → Ent → Option β) : effD (stE 1 (.ptr 3 0 5 1) (.s (.int .i64 x)) (o0 :: o1 :: o2 :: .arr 7 [[a, b, c, d, e, f, g]] true n :: t)) (o0 :: o1 :: o2 :: .arr 7 [[a, b, c, d, e, f, g]] true n :: t) k = k .u (o0 :: o1 :: o2 :: .arr 7 [[a, b, c, d, e, (.s (.int .i64 x)), g]] true n :: t) ([3], [3]) := effD_put rfl k
theorem ld7_3_6 {o0 : AObj} {o1 : AObj} {o2 : AObj} {a b c d e f g : AV} {t : Hp} {w n : Bool} (k : K β) : ldK 1 false (.ptr 3 0 6 1) (o0 :: o1 :: o2 :: .arr 7 [[a, b, c, d, e, f, g]] w n :: t) k = k g := rfl
theorem es7_3_6 {o0 : AObj} {o1 : AObj} {o2 : AObj} {a b c d e f g : AV} {x : Int} {t : Hp} {n : Bool} (k : AV → Hp → Option β) : effK (stE 1 (.ptr 3 0 6 1) (.s (.int .i64 x)) (o0 :: o1 :: o2 :: .arr 7 [[a, b, c, d, e, f, g]] true n :: t)) (o0 :: o1 :: o2 :: .arr 7 [[a, b, c, d, e, f, g]] true n :: t) k = k .u (o0 :: o1 :: o2 :: .arr 7 [[a, b, c, d, e, f, (.s (.int .i64 x))]] true n :: t) := effK_put rfl k
theorem ed7_3_6 {o0 : AObj} {o1 : AObj} {o2 : AObj} {a b c d e f g : AV} {x : Int} {t : Hp} {n : Bool} (k : AV → Hp → Ent → Option β) : effD (stE 1 (.ptr 3 0 6 1) (.s (.int .i64 x)) (o0 :: o1 :: o2 :: .arr 7 [[a, b, c, d, e, f, g]] true n :: t)) (o0 :: o1 :: o2 :: .arr 7 [[a, b, c, d, e, f, g]] true n :: t) k = k .u (o0 :: o1 :: o2 :: .arr 7 [[a, b, c, d, e, f, (.s (.int .i64 x))]] true n :: t) ([3], [3]) := effD_put rfl k
theorem lw7_3 {o0 : AObj} {o1 : AObj} {o2 : AObj} {a b c d e f g : AV} {t : Hp} {w n : Bool} (k : K β) : ldK 7 true (.ptr 3 0 0 1) (o0 :: o1 :: o2 :: .arr 7 [[a, b, c, d, e, f, g]] w n :: t) k = k (.agg [a, b, c, d, e, f, g]) := rfl
theorem ew7_3 {o0 : AObj} {o1 : AObj} {o2 : AObj} {a b c d e f g : AV} {x0 x1 x2 x3 x4 x5 x6 : Int} {t : Hp} {n : Bool} (k : AV → Hp → Option β) : effK (stE 7 (.ptr 3 0 0 1) (.agg [(.s (.int .i64 x0)), (.s (.int .i64 x1)), (.s (.int .i64 x2)), (.s (.int .i64 x3)), (.s (.int .i64 x4)), (.s (.int .i64 x5)), (.s (.int .i64 x6))]) (o0 :: o1 :: o2 :: .arr 7 [[a, b, c, d, e, f, g]] true n :: t)) (o0 :: o1 :: o2 :: .arr 7 [[a, b, c, d, e, f, g]] true n :: t) k = k .u (o0 :: o1 :: o2 :: .arr 7 [[(.s (.int .i64 x0)), (.s (.int .i64 x1)), (.s (.int .i64 x2)), (.s (.int .i64 x3)), (.s (.int .i64 x4)), (.s (.int .i64 x5)), (.s (.int .i64 x6))]] true n :: t) := effK_put rfl k
theorem bx7_3 {o0 : AObj} {o1 : AObj} {o2 : AObj} {x0 x1 x2 x3 x4 x5 x6 : Int} (k : AV → Hp → Option β) : effK (boxE 7 (.agg [(.s (.int .i64 x0)), (.s (.int .i64 x1)), (.s (.int .i64 x2)), (.s (.int .i64 x3)), (.s (.int .i64 x4)), (.s (.int .i64 x5)), (.s (.int .i64 x6))]) ([o0, o1, o2] : Hp).length) [o0, o1, o2] k = k (.ptr 3 0 0 1) [o0, o1, o2, .arr 7 [[(.s (.int .i64 x0)), (.s (.int .i64 x1)), (.s (.int .i64 x2)), (.s (.int .i64 x3)), (.s (.int .i64 x4)), (.s (.int .i64 x5)), (.s (.int .i64 x6))]] true false] := rfl
end
abbrev SLm (b : Bool) (l : List Msg) : AV := .lst 7 (b && l.isEmpty) (l.map encM)
end Go.AM


namespace Go.AM
set_option linter.unusedVariables false
variable {β : Type}
theorem arithK_cg {op : BinOp} {x : AV} {y : AV} {k : K β} {x' : AV} {y' : AV} (e_x : x = x') (e_y : y = y') : arithK op x y k = arithK op x' y' k := by subst e_x e_y; rfl
theorem eqK_cg {P : Program} {neq : Bool} {ty : TypeId} {x : AV} {y : AV} {h : Hp} {k : K β} {x' : AV} {y' : AV} {h' : Hp} (e_x : x = x') (e_y : y = y') (e_h : h = h') : eqK P neq ty x y h k = eqK P neq ty x' y' h' k := by subst e_x e_y e_h; rfl
theorem notK_cg {x : AV} {k : K β} {x' : AV} (e_x : x = x') : notK x k = notK x' k := by subst e_x; rfl
theorem convK_cg {P : Program} {a : TypeId} {b : TypeId} {x : AV} {k : K β} {x' : AV} (e_x : x = x') : convK P a b x k = convK P a b x' k := by subst e_x; rfl
theorem pickK_cg {c : AV} {a : AV} {b : AV} {k : K β} {c' : AV} {a' : AV} {b' : AV} (e_c : c = c') (e_a : a = a') (e_b : b = b') : pickK c a b k = pickK c' a' b' k := by subst e_c e_a e_b; rfl
theorem buildK_cg {z : List AV} {parts : List (Option (Nat × Nat) × AV)} {k : K β} {z' : List AV} (e_z : z = z') : buildK z parts k = buildK z' parts k := by subst e_z; rfl
theorem ldK_cg {n : Nat} {agg : Bool} {p : AV} {h : Hp} {k : K β} {p' : AV} {h' : Hp} (e_p : p = p') (e_h : h = h') : ldK n agg p h k = ldK n agg p' h' k := by subst e_p e_h; rfl
theorem nilK_cg {x : AV} {k : K β} {x' : AV} (e_x : x = x') : nilK x k = nilK x' k := by subst e_x; rfl
theorem sliceK_cg {n : Nat} {x : AV} {lo : Option AV} {hi : Option AV} {mx : Option AV} {k : K β} {x' : AV} (e_x : x = x') : sliceK n x lo hi mx k = sliceK n x' lo hi mx k := by subst e_x; rfl
theorem faK_cg {off : Nat} {p : AV} {k : K β} {p' : AV} (e_p : p = p') : faK off p k = faK off p' k := by subst e_p; rfl
theorem fldK_cg {n : Nat} {agg : Bool} {off : Nat} {x : AV} {k : K β} {x' : AV} (e_x : x = x') : fldK n agg off x k = fldK n agg off x' k := by subst e_x; rfl
theorem iaK_cg {n : Nat} {x : AV} {i : AV} {k : K β} {x' : AV} {i' : AV} (e_x : x = x') (e_i : i = i') : iaK n x i k = iaK n x' i' k := by subst e_x e_i; rfl
theorem iaA_cg {n : Nat} {len : Nat} {x : AV} {i : AV} {k : K β} {x' : AV} {i' : AV} (e_x : x = x') (e_i : i = i') : iaA n len x i k = iaA n len x' i' k := by subst e_x e_i; rfl
theorem lookK_cg {P : Program} {kt : TypeId} {z : AV} {ok : Bool} {m : AV} {kk : AV} {h : Hp} {k : K β} {z' : AV} {m' : AV} {kk' : AV} {h' : Hp} (e_z : z = z') (e_m : m = m') (e_kk : kk = kk') (e_h : h = h') : lookK P kt z ok m kk h k = lookK P kt z' ok m' kk' h' k := by subst e_z e_m e_kk e_h; rfl
theorem capK_cg {x : AV} {k : K β} {x' : AV} (e_x : x = x') : capK x k = capK x' k := by subst e_x; rfl
theorem exK_cg {x : AV} {i : Nat} {k : K β} {x' : AV} (e_x : x = x') : exK x i k = exK x' i k := by subst e_x; rfl
theorem lenK_cg {x : AV} {k : K β} {x' : AV} (e_x : x = x') : lenK x k = lenK x' k := by subst e_x; rfl
theorem minK_cg {x : AV} {y : AV} {k : K β} {x' : AV} {y' : AV} (e_x : x = x') (e_y : y = y') : minK x y k = minK x' y' k := by subst e_x e_y; rfl
theorem maxK_cg {x : AV} {y : AV} {k : K β} {x' : AV} {y' : AV} (e_x : x = x') (e_y : y = y') : maxK x y k = maxK x' y' k := by subst e_x e_y; rfl
theorem effK_cg {r : R} {h : Hp} {k : AV → Hp → Option β} {r' : R} {h' : Hp} (e_r : r = r') (e_h : h = h') : effK r h k = effK r' h' k := by subst e_r e_h; rfl
theorem callK_cg {F : Option Fun} {args : List AV} {h : Hp} {k : AV → Hp → Option β} {F' : Option Fun} {args' : List AV} {h' : Hp} (e_F : F = F') (e_args : args = args') (e_h : h = h') : callK F args h k = callK F' args' h' k := by subst e_F e_args e_h; rfl
theorem callVK_cg {T : Tab} {f : AV} {args : List AV} {h : Hp} {k : AV → Hp → Option β} {T' : Tab} {f' : AV} {args' : List AV} {h' : Hp} (e_T : T = T') (e_f : f = f') (e_args : args = args') (e_h : h = h') : callVK T f args h k = callVK T' f' args' h' k := by subst e_T e_f e_args e_h; rfl
theorem effD_cg {r : R} {h : Hp} {k : AV → Hp → Ent → Option β} {r' : R} {h' : Hp} (e_r : r = r') (e_h : h = h') : effD r h k = effD r' h' k := by subst e_r e_h; rfl
theorem gopD_cg {g : Option Bool} {h : Hp} {run : (AV → Hp → Ent → Option β) → Option β} {k : AV → Hp → Ent → Option β} {g' : Option Bool} {h' : Hp} (e_g : g = g') (e_h : h = h') : gopD g h run k = gopD g' h' run k := by subst e_g e_h; rfl
theorem grpK_cg {want : Bool} {x : AV} {h : Hp} {run : (AV → Hp → Option β) → Option β} {k : AV → Hp → Option β} {x' : AV} {h' : Hp} {run' : (AV → Hp → Option β) → Option β} (e_x : x = x') (e_h : h = h') (e_run : ∀ K, run K = run' K) : grpK want x h run k = grpK want x' h' run' k := by
  have : run = run' := funext e_run
  subst e_x e_h this; rfl
theorem condK_cg {c : AV} {a : Option β} {b : Option β} {c' : AV} (e_c : c = c') : condK c a b = condK c' a b := by subst e_c; rfl
theorem cond_cg {α : Type} {c c' : Bool} {a b : α} (e : c = c') : cond c a b = cond c' a b := by subst e; rfl
end Go.AM


namespace Go.AM
open Go.Proofs
set_option linter.unusedVariables false
set_option linter.unusedSimpArgs false
set_option linter.constructorNameAsVariable false
set_option maxRecDepth 20000
attribute [local congr] arithK_cg eqK_cg notK_cg convK_cg pickK_cg buildK_cg ldK_cg nilK_cg sliceK_cg faK_cg fldK_cg iaK_cg iaA_cg lookK_cg capK_cg exK_cg lenK_cg minK_cg maxK_cg effK_cg callK_cg callVK_cg effD_cg gopD_cg grpK_cg condK_cg cond_cg
def isNode (n : Int) : Bool := decide (1 ≤ n) && decide (n ≤ 99)
def formM (m : Msg) : Bool :=
  if m.kind = 1 then m.num == 0 && isNode m.frm && isNode m.to && m.frm != m.to && decide (1 ≤ m.alc) && decide (m.alc ≤ 10737418240000)
  else if m.kind = 2 then decide (1 ≤ m.num) && decide (m.num ≤ 64) && m.frm == 0 && isNode m.to && m.alc == 0
  else if m.kind = 3 then m.num == 0 && m.frm == 0 && m.to == 0 && decide (0 ≤ m.alc) && decide (m.alc ≤ 10737418240000)
  else m.num == 0 && m.frm == 0 && m.to == 0 && m.alc == 0
def rangeM (m : Msg) : Bool := decide (m.mv < 1) || decide (1073741824 < m.mv) || decide (m.kind < 1) || decide (5 < m.kind) || decide (m.day < 0) || decide (100000 < m.day)
def checkM (m : Msg) : Int := if rangeM m = true then 2 else if formM m = true then 0 else 1
theorem F_document_node_val (n : Int) (h : Hp) : F_document_node [I n] h = some (B (isNode n), h) := F_document_node_run rfl (by simp [f_document_node, isNode]) h
theorem F_document_Check_val (m : Msg) (h : Hp) : F_document_Check [.agg (encM m)] h = some (I (checkM m), h) := by
  refine F_document_Check_run (by simp [encM]) ?_ h
  obtain ⟨mv, kind, num, day, frm, to, alc⟩ := m
  obtain ⟨r, hr⟩ : ∃ r, rangeM ⟨mv, kind, num, day, frm, to, alc⟩ = r := ⟨_, rfl⟩
  have hr' := hr
  simp only [rangeM] at hr'
  simp only [checkM, hr]
  have b0 : ∀ k : Go.AM.K AV, buildK [I 0, I 0, I 0, I 0, I 0, I 0, I 0] [(some (0, 1), I mv), (some (1, 1), I kind), (some (3, 1), I day)] k = k (.agg [I mv, I kind, I 0, I day, I 0, I 0, I 0]) := fun k => rfl
  simp only [f_document_Check, encM, encDo, faK_ptr, faK_ep, Nat.zero_add, Nat.add_zero, Nat.reduceAdd, ld7_0_0, es7_0_0, ed7_0_0, ld7_0_1, es7_0_1, ed7_0_1, ld7_0_2, es7_0_2, ed7_0_2, ld7_0_3, es7_0_3, ed7_0_3, ld7_0_4, es7_0_4, ed7_0_4, ld7_0_5, es7_0_5, ed7_0_5, ld7_0_6, es7_0_6, ed7_0_6, lw7_0, ew7_0, bx7_0, ld7_1_0, es7_1_0, ed7_1_0, ld7_1_1, es7_1_1, ed7_1_1, ld7_1_2, es7_1_2, ed7_1_2, ld7_1_3, es7_1_3, ed7_1_3, ld7_1_4, es7_1_4, ed7_1_4, ld7_1_5, es7_1_5, ed7_1_5, ld7_1_6, es7_1_6, ed7_1_6, lw7_1, ew7_1, bx7_1, ld7_2_0, es7_2_0, ed7_2_0, ld7_2_1, es7_2_1, ed7_2_1, ld7_2_2, es7_2_2, ed7_2_2, ld7_2_3, es7_2_3, ed7_2_3, ld7_2_4, es7_2_4, ed7_2_4, ld7_2_5, es7_2_5, ed7_2_5, ld7_2_6, es7_2_6, ed7_2_6, lw7_2, ew7_2, bx7_2, ld7_3_0, es7_3_0, ed7_3_0, ld7_3_1, es7_3_1, ed7_3_1, ld7_3_2, es7_3_2, ed7_3_2, ld7_3_3, es7_3_3, ed7_3_3, ld7_3_4, es7_3_4, ed7_3_4, ld7_3_5, es7_3_5, ed7_3_5, ld7_3_6, es7_3_6, ed7_3_6, lw7_3, ew7_3, bx7_3, ldK_ep, arithK_lss, arithK_leq, arithK_gtr, arithK_geq, grpK_or, grpK_and, condK_bool, eqK_int, notK_bool, Bool.false_xor, Bool.true_xor, callK_F, exK_tup, lenK_lst, lenK_sl, lenK_nil, List.length_map, hr', b0]
  have n1 := F_document_node_val frm
  have n2 := F_document_node_val to
  clear hr hr'
  cases r with
  | true => rfl
  | false =>
    by_cases k1 : kind = 1
    · subst k1
      simp only [if_true, Bool.false_eq_true, if_false, beq_self_eq_true, t_document_Check_67, callK_F, f_document_Check_j2, f_document_Check_j1, n1, n2, encM, encDo, faK_ptr, faK_ep, Nat.zero_add, Nat.add_zero, Nat.reduceAdd, ld7_0_0, es7_0_0, ed7_0_0, ld7_0_1, es7_0_1, ed7_0_1, ld7_0_2, es7_0_2, ed7_0_2, ld7_0_3, es7_0_3, ed7_0_3, ld7_0_4, es7_0_4, ed7_0_4, ld7_0_5, es7_0_5, ed7_0_5, ld7_0_6, es7_0_6, ed7_0_6, lw7_0, ew7_0, bx7_0, ld7_1_0, es7_1_0, ed7_1_0, ld7_1_1, es7_1_1, ed7_1_1, ld7_1_2, es7_1_2, ed7_1_2, ld7_1_3, es7_1_3, ed7_1_3, ld7_1_4, es7_1_4, ed7_1_4, ld7_1_5, es7_1_5, ed7_1_5, ld7_1_6, es7_1_6, ed7_1_6, lw7_1, ew7_1, bx7_1, ld7_2_0, es7_2_0, ed7_2_0, ld7_2_1, es7_2_1, ed7_2_1, ld7_2_2, es7_2_2, ed7_2_2, ld7_2_3, es7_2_3, ed7_2_3, ld7_2_4, es7_2_4, ed7_2_4, ld7_2_5, es7_2_5, ed7_2_5, ld7_2_6, es7_2_6, ed7_2_6, lw7_2, ew7_2, bx7_2, ld7_3_0, es7_3_0, ed7_3_0, ld7_3_1, es7_3_1, ed7_3_1, ld7_3_2, es7_3_2, ed7_3_2, ld7_3_3, es7_3_3, ed7_3_3, ld7_3_4, es7_3_4, ed7_3_4, ld7_3_5, es7_3_5, ed7_3_5, ld7_3_6, es7_3_6, ed7_3_6, lw7_3, ew7_3, bx7_3, ldK_ep, arithK_lss, arithK_leq, arithK_gtr, arithK_geq, grpK_or, grpK_and, condK_bool, eqK_int, notK_bool, Bool.false_xor, Bool.true_xor, callK_F, exK_tup, lenK_lst, lenK_sl, lenK_nil, List.length_map, formM, show (disjAll [(3, 7), (5, 7), (5, 9)] [([], []), (idsOf (AV.ptr 0 0 4 1), []), ([], []), (idsOf (AV.ptr 0 0 5 1), []), ([], []), (idsOf (AV.ptr 0 0 6 1), []), ([], []), ([1], [1]), ([], []), ([1], [1]), ([], []), ([1], [1])]) = true from rfl, cond_true, eqs_31]
      clear n1 n2 b0
      by_cases h1 : num = 0
      · subst h1
        simp only [beq_self_eq_true, Bool.true_and, Bool.and_self, Bool.not_true, Bool.or_false, show (frm != to) = !(frm == to) from rfl]
        generalize (isNode frm && isNode to && !(frm == to) && decide (1 ≤ alc) && decide (alc ≤ 10737418240000)) = e
        cases e <;> rfl
      · simp [h1]
    by_cases k2 : kind = 2
    · subst k2
      simp only [if_true, Bool.false_eq_true, if_false, beq_self_eq_true, t_document_Check_67, callK_F, f_document_Check_j2, f_document_Check_j1, n1, n2, encM, encDo, faK_ptr, faK_ep, Nat.zero_add, Nat.add_zero, Nat.reduceAdd, ld7_0_0, es7_0_0, ed7_0_0, ld7_0_1, es7_0_1, ed7_0_1, ld7_0_2, es7_0_2, ed7_0_2, ld7_0_3, es7_0_3, ed7_0_3, ld7_0_4, es7_0_4, ed7_0_4, ld7_0_5, es7_0_5, ed7_0_5, ld7_0_6, es7_0_6, ed7_0_6, lw7_0, ew7_0, bx7_0, ld7_1_0, es7_1_0, ed7_1_0, ld7_1_1, es7_1_1, ed7_1_1, ld7_1_2, es7_1_2, ed7_1_2, ld7_1_3, es7_1_3, ed7_1_3, ld7_1_4, es7_1_4, ed7_1_4, ld7_1_5, es7_1_5, ed7_1_5, ld7_1_6, es7_1_6, ed7_1_6, lw7_1, ew7_1, bx7_1, ld7_2_0, es7_2_0, ed7_2_0, ld7_2_1, es7_2_1, ed7_2_1, ld7_2_2, es7_2_2, ed7_2_2, ld7_2_3, es7_2_3, ed7_2_3, ld7_2_4, es7_2_4, ed7_2_4, ld7_2_5, es7_2_5, ed7_2_5, ld7_2_6, es7_2_6, ed7_2_6, lw7_2, ew7_2, bx7_2, ld7_3_0, es7_3_0, ed7_3_0, ld7_3_1, es7_3_1, ed7_3_1, ld7_3_2, es7_3_2, ed7_3_2, ld7_3_3, es7_3_3, ed7_3_3, ld7_3_4, es7_3_4, ed7_3_4, ld7_3_5, es7_3_5, ed7_3_5, ld7_3_6, es7_3_6, ed7_3_6, lw7_3, ew7_3, bx7_3, ldK_ep, arithK_lss, arithK_leq, arithK_gtr, arithK_geq, grpK_or, grpK_and, condK_bool, eqK_int, notK_bool, Bool.false_xor, Bool.true_xor, callK_F, exK_tup, lenK_lst, lenK_sl, lenK_nil, List.length_map, formM, show (disjAll [(3, 5)] [([], []), (idsOf (AV.ptr 0 0 2 1), []), ([], []), (idsOf (AV.ptr 0 0 5 1), []), ([], []), ([1], [1]), ([], []), ([1], [1])]) = true from rfl, cond_true, eqs_31, show ((2 : Int) == 1) = false from rfl, show ¬ ((2 : Int) = 1) by decide]
      clear n1 n2 b0
      by_cases h1 : frm = 0
      · by_cases h2 : alc = 0
        · subst h1 h2
          simp only [beq_self_eq_true, Bool.true_and, Bool.and_true, Bool.not_true, Bool.or_false]
          generalize (decide (1 ≤ num) && decide (num ≤ 64) && isNode to) = e
          cases e <;> rfl
        · simp [h1, h2]
      · simp [h1]
    by_cases k3 : kind = 3
    · subst k3
      simp only [if_true, Bool.false_eq_true, if_false, beq_self_eq_true, t_document_Check_67, callK_F, f_document_Check_j2, f_document_Check_j1, n1, n2, encM, encDo, faK_ptr, faK_ep, Nat.zero_add, Nat.add_zero, Nat.reduceAdd, ld7_0_0, es7_0_0, ed7_0_0, ld7_0_1, es7_0_1, ed7_0_1, ld7_0_2, es7_0_2, ed7_0_2, ld7_0_3, es7_0_3, ed7_0_3, ld7_0_4, es7_0_4, ed7_0_4, ld7_0_5, es7_0_5, ed7_0_5, ld7_0_6, es7_0_6, ed7_0_6, lw7_0, ew7_0, bx7_0, ld7_1_0, es7_1_0, ed7_1_0, ld7_1_1, es7_1_1, ed7_1_1, ld7_1_2, es7_1_2, ed7_1_2, ld7_1_3, es7_1_3, ed7_1_3, ld7_1_4, es7_1_4, ed7_1_4, ld7_1_5, es7_1_5, ed7_1_5, ld7_1_6, es7_1_6, ed7_1_6, lw7_1, ew7_1, bx7_1, ld7_2_0, es7_2_0, ed7_2_0, ld7_2_1, es7_2_1, ed7_2_1, ld7_2_2, es7_2_2, ed7_2_2, ld7_2_3, es7_2_3, ed7_2_3, ld7_2_4, es7_2_4, ed7_2_4, ld7_2_5, es7_2_5, ed7_2_5, ld7_2_6, es7_2_6, ed7_2_6, lw7_2, ew7_2, bx7_2, ld7_3_0, es7_3_0, ed7_3_0, ld7_3_1, es7_3_1, ed7_3_1, ld7_3_2, es7_3_2, ed7_3_2, ld7_3_3, es7_3_3, ed7_3_3, ld7_3_4, es7_3_4, ed7_3_4, ld7_3_5, es7_3_5, ed7_3_5, ld7_3_6, es7_3_6, ed7_3_6, lw7_3, ew7_3, bx7_3, ldK_ep, arithK_lss, arithK_leq, arithK_gtr, arithK_geq, grpK_or, grpK_and, condK_bool, eqK_int, notK_bool, Bool.false_xor, Bool.true_xor, callK_F, exK_tup, lenK_lst, lenK_sl, lenK_nil, List.length_map, formM, eqs_31, show ((3 : Int) == 1) = false from rfl, show ((3 : Int) == 2) = false from rfl, show ¬ ((3 : Int) = 1) by decide, show ¬ ((3 : Int) = 2) by decide]
      clear n1 n2 b0
      generalize hE : (decide (0 ≤ alc) && decide (alc ≤ 10737418240000)) = e
      have hA : ∀ x : Bool, (x && decide (0 ≤ alc) && decide (alc ≤ 10737418240000)) = (x && e) := fun x => by rw [Bool.and_assoc, hE]
      rw [hA]
      by_cases h1 : num = 0 <;> by_cases h2 : frm = 0 <;> by_cases h3 : to = 0 <;> simp [h1, h2, h3] <;> cases e <;> simp
    · have e1 : (kind == 1) = false := by simpa using k1
      have e2 : (kind == 2) = false := by simpa using k2
      have e3 : (kind == 3) = false := by simpa using k3
      simp only [if_true, Bool.false_eq_true, if_false, beq_self_eq_true, f_document_Check_j2, f_document_Check_j1, encM, encDo, faK_ptr, faK_ep, Nat.zero_add, Nat.add_zero, Nat.reduceAdd, ld7_0_0, es7_0_0, ed7_0_0, ld7_0_1, es7_0_1, ed7_0_1, ld7_0_2, es7_0_2, ed7_0_2, ld7_0_3, es7_0_3, ed7_0_3, ld7_0_4, es7_0_4, ed7_0_4, ld7_0_5, es7_0_5, ed7_0_5, ld7_0_6, es7_0_6, ed7_0_6, lw7_0, ew7_0, bx7_0, ld7_1_0, es7_1_0, ed7_1_0, ld7_1_1, es7_1_1, ed7_1_1, ld7_1_2, es7_1_2, ed7_1_2, ld7_1_3, es7_1_3, ed7_1_3, ld7_1_4, es7_1_4, ed7_1_4, ld7_1_5, es7_1_5, ed7_1_5, ld7_1_6, es7_1_6, ed7_1_6, lw7_1, ew7_1, bx7_1, ld7_2_0, es7_2_0, ed7_2_0, ld7_2_1, es7_2_1, ed7_2_1, ld7_2_2, es7_2_2, ed7_2_2, ld7_2_3, es7_2_3, ed7_2_3, ld7_2_4, es7_2_4, ed7_2_4, ld7_2_5, es7_2_5, ed7_2_5, ld7_2_6, es7_2_6, ed7_2_6, lw7_2, ew7_2, bx7_2, ld7_3_0, es7_3_0, ed7_3_0, ld7_3_1, es7_3_1, ed7_3_1, ld7_3_2, es7_3_2, ed7_3_2, ld7_3_3, es7_3_3, ed7_3_3, ld7_3_4, es7_3_4, ed7_3_4, ld7_3_5, es7_3_5, ed7_3_5, ld7_3_6, es7_3_6, ed7_3_6, lw7_3, ew7_3, bx7_3, ldK_ep, arithK_lss, arithK_leq, arithK_gtr, arithK_geq, grpK_or, grpK_and, condK_bool, eqK_int, notK_bool, Bool.false_xor, Bool.true_xor, callK_F, exK_tup, lenK_lst, lenK_sl, lenK_nil, List.length_map, formM, eqs_31, e1, e2, e3, k1, k2, k3]
      clear n1 n2 b0
      by_cases h1 : num = 0 <;> by_cases h2 : frm = 0 <;> by_cases h3 : to = 0 <;> by_cases h4 : alc = 0 <;> simp [h1, h2, h3, h4]
def cellsM (m : Msg) : List Int := [m.mv, m.kind, m.num, m.day, m.frm, m.to, m.alc]
def cmpZ (a b : Int) : Int := if a < b then -1 else if b < a then 1 else 0
theorem F_cmp_isNaN_int_val (a : Int) (h : Hp) : F_cmp_isNaN_int [I a] h = some (B false, h) := F_cmp_isNaN_int_run rfl (by simp [f_cmp_isNaN_int]) h
theorem F_cmp_Compare_int_val (a b : Int) (h : Hp) : F_cmp_Compare_int [I a, I b] h = some (I (cmpZ a b), h) := by
  refine F_cmp_Compare_int_run rfl ?_ h
  have n1 := F_cmp_isNaN_int_val
  by_cases h1 : a < b
  · simp [f_cmp_Compare_int, n1, h1, cmpZ]
  · by_cases h2 : b < a <;> simp [f_cmp_Compare_int, n1, h1, h2, cmpZ]
theorem G_cmp_Compare_int_val (a b : Int) (h : Hp) (base : Nat) : G_cmp_Compare_int [I a, I b] h base = some (I (cmpZ a b), EF []) := (closedXD_val (F_cmp_Compare_int_val a b h) base).trans (by simp [idss, ids])
def orZ : List Int → Int
  | [] => 0
  | a :: l => if a ≠ 0 then a else orZ l
theorem Or_L2 {T : Tab} {D : DTab} {N : Nat} {x0 : AV → Hp → Option AV} {xr : AV → Hp → Option AV} {h : Hp} (l : List Int) (b : Bool) (hx : ∀ z, x0 (I z) h = xr (I z) h) (hl : l.length < 1000) : ∀ (n : Nat) (pre post : List Int), l = pre ++ post → post.length < n →
    f_cmp_Or_int_L2 Try.prog T D N x0 xr n (I 0) (.lst 1 b (l.map fun z => [I z])) (I l.length) (I pre.length) h = xr (I (orZ post)) h := by
  intro n
  induction n with
  | zero => intro pre post _ h2; omega
  | succ n ih =>
    intro pre post hc hn
    show f_cmp_Or_int_b2 Try.prog T D N (f_cmp_Or_int_L2 Try.prog T D N x0 xr n) x0 xr _ _ _ _ h = _
    cases post with
    | nil =>
      have : l = pre := by simpa using hc
      subst this
      simp only [f_cmp_Or_int_b2, encM, encDo, faK_ptr, faK_ep, Nat.zero_add, Nat.add_zero, Nat.reduceAdd, ld7_0_0, es7_0_0, ed7_0_0, ld7_0_1, es7_0_1, ed7_0_1, ld7_0_2, es7_0_2, ed7_0_2, ld7_0_3, es7_0_3, ed7_0_3, ld7_0_4, es7_0_4, ed7_0_4, ld7_0_5, es7_0_5, ed7_0_5, ld7_0_6, es7_0_6, ed7_0_6, lw7_0, ew7_0, bx7_0, ld7_1_0, es7_1_0, ed7_1_0, ld7_1_1, es7_1_1, ed7_1_1, ld7_1_2, es7_1_2, ed7_1_2, ld7_1_3, es7_1_3, ed7_1_3, ld7_1_4, es7_1_4, ed7_1_4, ld7_1_5, es7_1_5, ed7_1_5, ld7_1_6, es7_1_6, ed7_1_6, lw7_1, ew7_1, bx7_1, ld7_2_0, es7_2_0, ed7_2_0, ld7_2_1, es7_2_1, ed7_2_1, ld7_2_2, es7_2_2, ed7_2_2, ld7_2_3, es7_2_3, ed7_2_3, ld7_2_4, es7_2_4, ed7_2_4, ld7_2_5, es7_2_5, ed7_2_5, ld7_2_6, es7_2_6, ed7_2_6, lw7_2, ew7_2, bx7_2, ld7_3_0, es7_3_0, ed7_3_0, ld7_3_1, es7_3_1, ed7_3_1, ld7_3_2, es7_3_2, ed7_3_2, ld7_3_3, es7_3_3, ed7_3_3, ld7_3_4, es7_3_4, ed7_3_4, ld7_3_5, es7_3_5, ed7_3_5, ld7_3_6, es7_3_6, ed7_3_6, lw7_3, ew7_3, bx7_3, ldK_ep, arithK_lss, arithK_leq, arithK_gtr, arithK_geq, grpK_or, grpK_and, condK_bool, eqK_int, notK_bool, Bool.false_xor, Bool.true_xor, callK_F, exK_tup, lenK_lst, lenK_sl, lenK_nil, List.length_map]
      simp [orZ, hx]
    | cons c post =>
      have hi : pre.length < l.length := by rw [hc]; simp
      have hci : l[pre.length]? = some c := by rw [hc]; simp
      have hlt : ((pre.length : Int) < (l.length : Int)) := by omega
      have hw : IntKind.i64.wrap ((pre.length : Int) + 1) = (((pre ++ [c]).length : Nat) : Int) := by rw [wrap64 (by omega) (by omega)]; simp
      have ic : ∀ k : Go.AM.K AV, iaK 1 (.lst 1 b (l.map fun z => [I z])) (I pre.length) k = k (.ep [I c] 0) := fun k => iaK_at pre.length rfl hci k
      have step := ih (pre ++ [c]) post (by simpa using hc) (by simpa using hn)
      by_cases h0 : c = 0
      · simp [f_cmp_Or_int_b2, hlt, ic, h0, hw, orZ] at step ⊢
        exact step
      · simp [f_cmp_Or_int_b2, hlt, ic, h0, orZ]
theorem or_lex : ∀ {n : Nat} {a b : List Int}, a.length = n → b.length = n → orZ (List.zipWith cmpZ a b) = lexZ a b
  | 0, a, b, ha, hb => by rw [List.eq_nil_of_length_eq_zero ha, List.eq_nil_of_length_eq_zero hb]; rfl
  | n + 1, [], b, ha, hb => by simp at ha
  | n + 1, a :: l, [], ha, hb => by simp at hb
  | n + 1, a :: l, b :: r, ha, hb => by
    have ih := or_lex (n := n) (a := l) (b := r) (by simpa using ha) (by simpa using hb)
    simp only [List.zipWith_cons_cons, orZ, lexZ, ih, cmpZ]
    by_cases h1 : a < b
    · simp [h1]
    · by_cases h2 : b < a <;> simp [h1, h2]
end Go.AM


namespace Go.AM
open Go.Proofs
set_option linter.unusedVariables false
set_option linter.unusedSimpArgs false
set_option linter.constructorNameAsVariable false
set_option maxRecDepth 20000
attribute [local congr] arithK_cg eqK_cg notK_cg convK_cg pickK_cg buildK_cg ldK_cg nilK_cg sliceK_cg faK_cg fldK_cg iaK_cg iaA_cg lookK_cg capK_cg exK_cg lenK_cg minK_cg maxK_cg effK_cg callK_cg callVK_cg effD_cg gopD_cg grpK_cg condK_cg cond_cg
theorem effD_ro {β : Type} (v : AV) (ft : List Nat) (h : Hp) (k : AV → Hp → Ent → Option β) : effD (some (v, EF ft)) h k = k v h (ft, []) := by simp [effD, ap, wrOf]
theorem effD_nw {β : Type} (v : AV) (o : AObj) (h : Hp) (k : AV → Hp → Ent → Option β) : effD (some (v, EN o)) h k = k v (h ++ [o]) ([], [h.length]) := by simp [effD, ap, wrOf]
theorem F_cmp_Or_int_at (c : List Int) (hl : c.length < 1000) {h : Hp} {id n : Nat} {b : Bool} (hid : h[id]? = some (.arr 1 (c.map fun z => [I z]) true false)) (hn : c.length = n) : F_cmp_Or_int [.sl 1 id 0 n n b] h = some (I (orZ c), h) := by
  subst hn
  refine (F_cmp_Or_int_own (a0 := .lst 1 false (c.map fun z => [I z])) ?_ fun st => ?_)
  · rw [cvts_cons, cvt_whole hid (by simp) (by simp) (okE_map fun x => rfl), cvts_nil]
  · have := Or_L2 (T := t_cmp_Or_int) (D := d_cmp_Or_int) (N := NN) (x0 := fun w7_3 h => f_cmp_Or_int_j1 Try.prog t_cmp_Or_int d_cmp_Or_int NN (fun v g => cvt st g v) w7_3 h) (xr := fun w8_2 h => cvt st h w8_2) (h := []) c false (fun z => rfl) hl NN [] c rfl (by have := NN_ge; omega)
    simp only [nrm, nrmC, f_cmp_Or_int, lenK_lst, List.length_map]
    exact this.trans rfl
theorem F_document_compare_val (a b : Msg) (h : Hp) : F_document_compare [.agg (encM a), .agg (encM b)] h = some (I (lexZ (cellsM a) (cellsM b)), h) := by
  refine F_document_compare_run (by simp [encM]) ?_ h
  obtain ⟨a0, a1, a2, a3, a4, a5, a6⟩ := a
  obtain ⟨b0, b1, b2, b3, b4, b5, b6⟩ := b
  have g := G_cmp_Compare_int_val
  have bs : ∀ (c0 c1 c2 c3 c4 c5 c6 : Int), bsE 1 [.s (.int .i64 0)] 7 [(0, I c0), (1, I c1), (2, I c2), (3, I c3), (4, I c4), (5, I c5), (6, I c6)] ([AObj.arr 7 [[I a0, I a1, I a2, I a3, I a4, I a5, I a6]] true false, .arr 7 [[I b0, I b1, I b2, I b3, I b4, I b5, I b6]] true false] : Hp).length = some (.sl 1 2 0 7 7 true, EN (.arr 1 [[I c0], [I c1], [I c2], [I c3], [I c4], [I c5], [I c6]] true false)) := fun _ _ _ _ _ _ _ => rfl
  have go : ∀ (c0 c1 c2 c3 c4 c5 c6 : Int) (o0 o1 : AObj) (base : Nat), G_cmp_Or_int [.sl 1 2 0 7 7 true] [o0, o1, .arr 1 [[I c0], [I c1], [I c2], [I c3], [I c4], [I c5], [I c6]] true false] base = some (I (orZ [c0, c1, c2, c3, c4, c5, c6]), EF [2]) := fun c0 c1 c2 c3 c4 c5 c6 o0 o1 base =>
    (closedXD_val (F_cmp_Or_int_at [c0, c1, c2, c3, c4, c5, c6] (by simp) rfl rfl) base).trans rfl
  simp -implicitDefEqProofs only [f_document_compare, encM, encDo, faK_ptr, faK_ep, Nat.zero_add, Nat.add_zero, Nat.reduceAdd, ld7_0_0, es7_0_0, ed7_0_0, ld7_0_1, es7_0_1, ed7_0_1, ld7_0_2, es7_0_2, ed7_0_2, ld7_0_3, es7_0_3, ed7_0_3, ld7_0_4, es7_0_4, ed7_0_4, ld7_0_5, es7_0_5, ed7_0_5, ld7_0_6, es7_0_6, ed7_0_6, lw7_0, ew7_0, bx7_0, ld7_1_0, es7_1_0, ed7_1_0, ld7_1_1, es7_1_1, ed7_1_1, ld7_1_2, es7_1_2, ed7_1_2, ld7_1_3, es7_1_3, ed7_1_3, ld7_1_4, es7_1_4, ed7_1_4, ld7_1_5, es7_1_5, ed7_1_5, ld7_1_6, es7_1_6, ed7_1_6, lw7_1, ew7_1, bx7_1, ld7_2_0, es7_2_0, ed7_2_0, ld7_2_1, es7_2_1, ed7_2_1, ld7_2_2, es7_2_2, ed7_2_2, ld7_2_3, es7_2_3, ed7_2_3, ld7_2_4, es7_2_4, ed7_2_4, ld7_2_5, es7_2_5, ed7_2_5, ld7_2_6, es7_2_6, ed7_2_6, lw7_2, ew7_2, bx7_2, ld7_3_0, es7_3_0, ed7_3_0, ld7_3_1, es7_3_1, ed7_3_1, ld7_3_2, es7_3_2, ed7_3_2, ld7_3_3, es7_3_3, ed7_3_3, ld7_3_4, es7_3_4, ed7_3_4, ld7_3_5, es7_3_5, ed7_3_5, ld7_3_6, es7_3_6, ed7_3_6, lw7_3, ew7_3, bx7_3, ldK_ep, arithK_lss, arithK_leq, arithK_gtr, arithK_geq, grpK_or, grpK_and, condK_bool, eqK_int, notK_bool, Bool.false_xor, Bool.true_xor, callK_F, exK_tup, lenK_lst, lenK_sl, lenK_nil, List.length_map, d_document_compare_77, d_document_compare_76, callE_F, g, effD_ro, bs, effD_nw, List.cons_append, List.nil_append, go]
  have := or_lex (n := 7) (a := [a0, a1, a2, a3, a4, a5, a6]) (b := [b0, b1, b2, b3, b4, b5, b6]) rfl rfl
  simp only [List.zipWith_cons_cons, List.zipWith_nil_left] at this
  rw [this]
  rfl
theorem eqs_Me (x y : Msg) (n : Bool) (h : Hp) {β : Type} (k : Go.AM.K β) : eqK Try.prog n 31 (.agg (encM x)) (.agg (encM y)) h k = k (B (xor n (x == y))) := by
  obtain ⟨a0, a1, a2, a3, a4, a5, a6⟩ := x
  obtain ⟨b0, b1, b2, b3, b4, b5, b6⟩ := y
  have : ((⟨a0, a1, a2, a3, a4, a5, a6⟩ : Msg) == ⟨b0, b1, b2, b3, b4, b5, b6⟩) = ((a0 == b0) && ((a1 == b1) && ((a2 == b2) && ((a3 == b3) && ((a4 == b4) && ((a5 == b5) && ((a6 == b6) && true))))))) := by
    rw [Bool.eq_iff_iff]; simp
  simp only [encM, eqs_31, this]
end Go.AM


namespace Go.AM
open Go.Proofs
set_option linter.unusedVariables false
set_option linter.unusedSimpArgs false
set_option linter.constructorNameAsVariable false
set_option maxRecDepth 20000
attribute [local congr] arithK_cg eqK_cg notK_cg convK_cg pickK_cg buildK_cg ldK_cg nilK_cg sliceK_cg faK_cg fldK_cg iaK_cg iaA_cg lookK_cg capK_cg exK_cg lenK_cg minK_cg maxK_cg effK_cg callK_cg callVK_cg effD_cg gopD_cg grpK_cg condK_cg cond_cg
def compL : List Msg → List Msg
  | [] => []
  | [a] => [a]
  | a :: b :: l => if a = b then compL (b :: l) else a :: compL (b :: l)
theorem compL_snoc (y x : Msg) : ∀ q : List Msg, compL (q ++ [y] ++ [x]) = if y = x then compL (q ++ [y]) else compL (q ++ [y]) ++ [x]
  | [] => by
    simp only [List.nil_append, List.cons_append, compL]
    split
    · rename_i e; rw [e]
    · rfl
  | [a] => by
    have ih := compL_snoc y x []
    simp only [List.nil_append, List.cons_append, compL] at ih ⊢
    split <;> split <;> simp_all
  | a :: b :: q => by
    have ih := compL_snoc y x (b :: q)
    simp only [List.cons_append, compL] at ih ⊢
    rw [ih]
    split <;> split <;> simp_all
theorem compL_length : ∀ l : List Msg, (compL l).length ≤ l.length
  | [] => by simp [compL]
  | [a] => by simp [compL]
  | a :: b :: l => by
    have := compL_length (b :: l)
    simp only [compL, List.length_cons] at this ⊢
    split <;> simp at * <;> omega
theorem take_succ_get {l : List Msg} {i : Nat} {x : Msg} (hx : l[i]? = some x) : l.take (i + 1) = l.take i ++ [x] := by
  rw [List.take_add_one, hx]; rfl
theorem compL_next {l : List Msg} {i : Nat} {x y : Msg} (hi : 1 ≤ i) (hx : l[i]? = some x) (hy : l[i - 1]? = some y) : compL (l.take (i + 1)) = if y = x then compL (l.take i) else compL (l.take i) ++ [x] := by
  obtain ⟨j, rfl⟩ : ∃ j, i = j + 1 := ⟨i - 1, by omega⟩
  rw [take_succ_get hx, take_succ_get (by simpa using hy), compL_snoc]
theorem ld_el {β : Type} {W : List Msg} {id i n : Nat} {h : Hp} {b : Bool} {x : Msg} (hid : h[id]? = some (.arr 7 (W.map encM) true b)) (hn : W.length = n) (hx : W[i]? = some x) (k : Go.AM.K β) : ldK 7 true (.ptr id i 0 n) h k = k (.agg (encM x)) := by
  simp [hid, hn, hx, encM]
theorem st_el {β : Type} {W : List Msg} {id i n : Nat} {h : Hp} {b : Bool} {x : Msg} (hid : h[id]? = some (.arr 7 (W.map encM) true b)) (hn : W.length = n) (hi : i < W.length) (k : AV → Hp → Option β) : effK (stE 7 (.ptr id i 0 n) (.agg (encM x)) h) h k = k .u (h.set id (.arr 7 ((W.set i x).map encM) true b)) := by
  have hx : W[i]? = some W[i] := List.getElem?_eq_getElem hi
  have : stE 7 (.ptr id i 0 n) (.agg (encM x)) h = some (.u, ⟨[(id, .arr 7 ((W.map encM).set i (encM x)) true b)], [], [id]⟩) := by
    simp [hid, hn, hx, encM]
  rw [this, effK_put rfl, List.map_set]
theorem ia_sl {β : Type} {id off len fr : Nat} {b : Bool} {m : Int} (i : Nat) (hm : m = i) (hi : i < len) (k : Go.AM.K β) : iaK 7 (.sl 7 id off len fr b) (I m) k = k (.ptr id (off + i) 0 fr) := by
  subst hm
  rw [iaK_sl (by omega) (by omega)]
  simp
theorem sl_lo {β : Type} {id n k : Nat} (hk : k ≤ n) (K : Go.AM.K β) : sliceK 7 (.sl 7 id 0 n n false) (some (I k)) none none K = K (.sl 7 id k (n - k) n false) := by
  have : (0 : Int) ≤ (k : Int) := by omega
  simp [sliceK, boundOr, hk]
theorem sl_hi {β : Type} {id n k : Nat} (hk : k ≤ n) (K : Go.AM.K β) : sliceK 7 (.sl 7 id 0 n n false) none (some (I k)) none K = K (.sl 7 id 0 k n false) := by
  have : (0 : Int) ≤ (k : Int) := by omega
  simp [sliceK, boundOr, hk]
abbrev zM : List AV := [.s (.int .i64 0), .s (.int .i64 0), .s (.int .i64 0), .s (.int .i64 0), .s (.int .i64 0), .s (.int .i64 0), .s (.int .i64 0)]
theorem Compact_L5 {β : Type} {T : Tab} {D : DTab} {N : Nat} {x2 : AV → AV → Hp → Option β} {l : List Msg} {id k : Nat} {h0 : Hp} (hid : id < h0.length) (hl : l.length < 1000000) : ∀ (n i : Nat) (W : List Msg) (w : Nat), 1 ≤ i → k + i ≤ l.length → l.length < k + i + n →
    W.length = l.length → w = (compL (l.take (k + i))).length → w + 1 ≤ k + i → W.take w = compL (l.take (k + i)) → W.drop (k + i - 1) = l.drop (k + i - 1) →
    ∃ W' : List Msg, W'.length = l.length ∧ W'.take (compL l).length = compL l ∧
      f_slices_Compact_Message_L5 Try.prog T D N x2 n (.sl 7 id 0 l.length l.length false) (I w) (.sl 7 id k (l.length - k) l.length false) (I i) (h0.set id (.arr 7 (W.map encM) true false)) =
        x2 (.sl 7 id 0 l.length l.length false) (I (compL l).length) (h0.set id (.arr 7 (W'.map encM) true false)) := by
  intro n
  induction n with
  | zero => intro i W w _ h2 h3; omega
  | succ n ih =>
    intro i W w hi h2 h3 hW hw hwi ht hd
    have hget : (h0.set id (.arr 7 (W.map encM) true false))[id]? = some (.arr 7 (W.map encM) true false) := by simp [hid]
    rcases Nat.lt_or_ge (k + i) l.length with hlt | hge
    · have hx : l[k + i]? = some l[k + i] := List.getElem?_eq_getElem hlt
      have hy : l[k + i - 1]? = some l[k + i - 1] := List.getElem?_eq_getElem (by omega)
      have hWx : W[k + i]? = some l[k + i] := by
        have := congrArg (fun q => q[1]?) hd
        simp only [List.getElem?_drop] at this
        rw [show k + i - 1 + 1 = k + i by omega] at this
        rw [this, hx]
      have hWy : W[k + i - 1]? = some l[k + i - 1] := by
        have := congrArg (fun q => q[0]?) hd
        simp only [List.getElem?_drop, Nat.add_zero] at this
        rw [this, hy]
      have hnx := compL_next (by omega) hx hy
      generalize hxx : l[k + i] = x at *
      generalize hyy : l[k + i - 1] = y at *
      have c1 : ((i : Int) < ((l.length - k : Nat) : Int)) := by omega
      have w1 : IntKind.i64.wrap ((i : Int) - 1) = ((i - 1 : Nat) : Int) := by rw [wrap64 (by omega) (by omega)]; omega
      have w2 : IntKind.i64.wrap ((i : Int) + 1) = ((i + 1 : Nat) : Int) := by rw [wrap64 (by omega) (by omega)]; omega
      have w3 : IntKind.i64.wrap ((w : Int) + 1) = ((w + 1 : Nat) : Int) := by rw [wrap64 (by omega) (by omega)]; omega
      have i1 : ∀ K : Go.AM.K β, iaK 7 (.sl 7 id k (l.length - k) l.length false) (I i) K = K (.ptr id (k + i) 0 l.length) := fun K => ia_sl i rfl (by omega) K
      have i2 : ∀ K : Go.AM.K β, iaK 7 (.sl 7 id k (l.length - k) l.length false) (I ((i - 1 : Nat) : Int)) K = K (.ptr id (k + (i - 1)) 0 l.length) := fun K => ia_sl (i - 1) rfl (by omega) K
      have i3 : ∀ K : Go.AM.K β, iaK 7 (.sl 7 id 0 l.length l.length false) (I w) K = K (.ptr id (0 + w) 0 l.length) := fun K => ia_sl w rfl (by omega) K
      have l1 := fun K : Go.AM.K β => ld_el hget hW hWx K
      have l2 := fun K : Go.AM.K β => ld_el (i := k + (i - 1)) hget hW (by rw [show k + (i - 1) = k + i - 1 by omega]; exact hWy) K
      have s1 := fun K : AV → Hp → Option β => st_el (i := 0 + w) (x := x) hget hW (by omega) K
      show ∃ W', _ ∧ _ ∧ f_slices_Compact_Message_b5 Try.prog T D N (f_slices_Compact_Message_L5 Try.prog T D N x2 n) x2 _ _ _ _ _ = _
      simp -implicitDefEqProofs only [f_slices_Compact_Message_b5, lenK_sl, arithK_lss, c1, decide_true, condK_bool, if_true, i1, l1, arithK_sub, w1, i2, l2, eqs_Me, Bool.true_xor, i3, s1, arithK_add, w3, f_slices_Compact_Message_j7, f_slices_Compact_Message_j6, w2, List.set_set]
      by_cases hxy : y = x
      · have e : (x == y) = true := by simp [hxy]
        rw [if_pos hxy] at hnx
        simp only [e, Bool.not_true, Bool.false_eq_true, if_false]
        have hkk : k + (i + 1) = k + i + 1 := by omega
        obtain ⟨W', g1, g2, g3⟩ := ih (i + 1) W w (by omega) (by omega) (by omega) hW (by rw [hkk, hnx]; exact hw) (by omega) (by rw [hkk, hnx]; exact ht) (by
          have := congrArg (List.drop 1) hd
          simp only [List.drop_drop] at this
          rw [show k + (i + 1) - 1 = k + i - 1 + 1 by omega]
          exact this)
        exact ⟨W', g1, g2, g3⟩
      · have e : (x == y) = false := by simpa using Ne.symm hxy
        rw [if_neg hxy] at hnx
        simp only [e, Bool.not_false, if_true]
        have hkk : k + (i + 1) = k + i + 1 := by omega
        rw [Nat.zero_add]
        obtain ⟨W', g1, g2, g3⟩ := ih (i + 1) (W.set w x) (w + 1) (by omega) (by omega) (by omega) (by simpa using hW) (by rw [hkk, hnx, List.length_append, ← hw]; rfl) (by omega) (by
          rw [hkk, hnx, ← ht]
          rw [List.take_add_one, List.take_set_of_le (Nat.le_refl _), List.getElem?_set_self (by omega)]
          rfl) (by
          have := congrArg (List.drop 1) hd
          simp only [List.drop_drop] at this
          rw [show k + (i + 1) - 1 = k + i - 1 + 1 by omega, List.drop_set_of_lt (by omega)]
          exact this)
        exact ⟨W', g1, g2, g3⟩
    · have hN : k + i = l.length := by omega
      have c1 : ¬ ((i : Int) < ((l.length - k : Nat) : Int)) := by omega
      refine ⟨W, hW, ?_, ?_⟩
      · rw [hN, List.take_length] at ht hw
        rw [← hw]; exact ht
      · show f_slices_Compact_Message_b5 Try.prog T D N (f_slices_Compact_Message_L5 Try.prog T D N x2 n) x2 _ _ _ _ _ = _
        rw [hN, List.take_length] at hw
        simp only [f_slices_Compact_Message_b5, lenK_sl, arithK_lss, c1, decide_false, condK_bool, Bool.false_eq_true, if_false]
        rw [hw]
theorem Compact_j4 {β : Type} {T : Tab} {D : DTab} {N : Nat} {xn : AV → AV → Hp → Option β} {x0 : AV → Hp → Option β} {xr : AV → Hp → Option β} {W : List Msg} {id w n : Nat} {h : Hp} (hid : h[id]? = some (.arr 7 (W.map encM) true false)) (hW : W.length = n) (hw : w ≤ n) :
    f_slices_Compact_Message_j4 Try.prog T D N xn x0 xr (.sl 7 id 0 n n false) (I w) h = xr (.sl 7 id 0 w n false) (h.set id (.arr 7 ((W.take w).map encM ++ List.replicate (n - w) zM) true false)) := by
  have hc : clrE 7 zM (.sl 7 id w (n - w) n false) h = some (.tup [], ⟨[(id, .arr 7 ((W.map encM).take w ++ List.replicate (n - w) zM ++ (W.map encM).drop (w + (n - w))) true false)], [], [id]⟩) := by
    simp only [clrE, hid]
    rw [if_pos (by simp [hW]; omega)]
  simp only [f_slices_Compact_Message_j4, sl_lo hw, sl_hi hw]
  rw [hc, effK_put rfl]
  rw [show (W.map encM).drop (w + (n - w)) = [] from List.drop_eq_nil_of_le (by simp; omega), List.append_nil, List.map_take]
theorem Compact_L2 {β : Type} {T : Tab} {D : DTab} {N : Nat} {x0 : AV → Hp → Option β} {xr : AV → Hp → Option β} {l : List Msg} {id : Nat} {h : Hp} (hid : h[id]? = some (.arr 7 (l.map encM) true false)) (hl : l.length < 1000000) (hN : 1000000 ≤ N) (hx : ∀ v h, x0 v h = xr v h) : ∀ (n i : Nat), 1 ≤ i → i ≤ l.length → l.length < i + n → compL (l.take i) = l.take i →
    f_slices_Compact_Message_L2 Try.prog T D N x0 xr n (.sl 7 id 0 l.length l.length false) (I i) h = xr (.sl 7 id 0 (compL l).length l.length false) (h.set id (.arr 7 ((compL l).map encM ++ List.replicate (l.length - (compL l).length) zM) true false)) := by
  intro n
  have hlt0 : id < h.length := (List.getElem?_eq_some_iff.1 hid).1
  induction n with
  | zero => intro i h1 h2 h3; omega
  | succ n ih =>
    intro i h1 h2 h3 hc
    show f_slices_Compact_Message_b2 Try.prog T D N (f_slices_Compact_Message_L2 Try.prog T D N x0 xr n) x0 xr _ _ _ = _
    rcases Nat.lt_or_ge i l.length with hlt | hge
    · have hx' : l[i]? = some l[i] := List.getElem?_eq_getElem hlt
      have hy : l[i - 1]? = some l[i - 1] := List.getElem?_eq_getElem (by omega)
      have hnx := compL_next h1 hx' hy
      generalize hxx : l[i] = x at *
      generalize hyy : l[i - 1] = y at *
      have c1 : ((i : Int) < (l.length : Int)) := by omega
      have w1 : IntKind.i64.wrap ((i : Int) - 1) = ((i - 1 : Nat) : Int) := by rw [wrap64 (by omega) (by omega)]; omega
      have w2 : IntKind.i64.wrap ((i : Int) + 1) = ((i + 1 : Nat) : Int) := by rw [wrap64 (by omega) (by omega)]; omega
      have i1 : ∀ K : Go.AM.K β, iaK 7 (.sl 7 id 0 l.length l.length false) (I i) K = K (.ptr id (0 + i) 0 l.length) := fun K => ia_sl i rfl (by omega) K
      have i2 : ∀ K : Go.AM.K β, iaK 7 (.sl 7 id 0 l.length l.length false) (I ((i - 1 : Nat) : Int)) K = K (.ptr id (0 + (i - 1)) 0 l.length) := fun K => ia_sl (i - 1) rfl (by omega) K
      have l1 := fun K : Go.AM.K β => ld_el (i := 0 + i) hid rfl (by simpa using hx') K
      have l2 := fun K : Go.AM.K β => ld_el (i := 0 + (i - 1)) hid rfl (by simpa using hy) K
      simp -implicitDefEqProofs only [f_slices_Compact_Message_b2, lenK_sl, arithK_lss, c1, decide_true, condK_bool, if_true, i1, l1, arithK_sub, w1, i2, l2, eqs_Me, Bool.false_xor, f_slices_Compact_Message_j3, arithK_add, w2, sl_lo (Nat.le_of_lt hlt)]
      by_cases hxy : y = x
      · have e : (x == y) = true := by simp [hxy]
        rw [if_pos hxy] at hnx
        simp only [e, if_true]
        have hs : h = h.set id (.arr 7 (l.map encM) true false) := (set_same hid).symm
        obtain ⟨W', g1, g2, g3⟩ := Compact_L5 (T := T) (D := D) (N := N) (x2 := fun w32_0 w32_3 h => f_slices_Compact_Message_j4 Try.prog T D N (f_slices_Compact_Message_L2 Try.prog T D N x0 xr n) x0 xr w32_0 w32_3 h) (l := l) (id := id) (k := i) (h0 := h) hlt0 hl N 1 l i (by omega) (by omega) (by omega) rfl (by rw [hnx, hc]; simp; omega) (by omega) (by rw [hnx, hc]) rfl
        rw [← hs] at g3
        refine g3.trans ?_
        rw [Compact_j4 (W := W') (by simp [hlt0]) g1 (compL_length l), List.set_set, g2]
      · have e : (x == y) = false := by simpa using Ne.symm hxy
        rw [if_neg hxy] at hnx
        simp only [e, Bool.false_eq_true, if_false]
        exact ih (i + 1) (by omega) (by omega) (by omega) (by rw [hnx, hc, take_succ_get hx'])
    · have hN : i = l.length := by omega
      subst hN
      have c1 : ¬ ((l.length : Int) < (l.length : Int)) := by omega
      rw [List.take_length] at hc
      simp only [f_slices_Compact_Message_b2, lenK_sl, arithK_lss, c1, decide_false, condK_bool, Bool.false_eq_true, if_false, hx, hc, Nat.sub_self, List.replicate_zero, List.append_nil]
      rw [set_same hid]
theorem R_Compact_val {l : List Msg} {id : Nat} {h : Hp} (hid : h[id]? = some (.arr 7 (l.map encM) true false)) (hl : l.length < 1000000) : R_slices_Compact_Message [.sl 7 id 0 l.length l.length false] h = some (.sl 7 id 0 (compL l).length l.length false, h.set id (.arr 7 ((compL l).map encM ++ List.replicate (l.length - (compL l).length) zM) true false)) := by
  rw [R_slices_Compact_Message_raw]
  by_cases h2 : l.length < 2
  · have hc : compL l = l := by
      match l, h2 with
      | [], _ => rfl
      | [a], _ => rfl
    have c1 : ((l.length : Int) < 2) := by omega
    simp only [f_slices_Compact_Message, lenK_sl, arithK_lss, c1, decide_true, condK_bool, if_true, hc, Nat.sub_self, List.replicate_zero, List.append_nil]
    rw [set_same hid]
  · have c1 : ¬ ((l.length : Int) < 2) := by omega
    simp only [f_slices_Compact_Message, lenK_sl, arithK_lss, c1, decide_false, condK_bool, Bool.false_eq_true, if_false]
    have := Compact_L2 (T := t_slices_Compact_Message) (D := d_slices_Compact_Message) (N := NN) (x0 := fun w33_0 h => f_slices_Compact_Message_j1 Try.prog t_slices_Compact_Message d_slices_Compact_Message NN (fun v h => some (v, h)) w33_0 h) (xr := fun w34_2 h => some (w34_2, h)) hid hl NN_ge (fun v h => rfl) NN 1 (by omega) (by omega) (by have := NN_ge; omega) (by
      match l, h2 with
      | a :: l, _ => rfl)
    exact this
theorem R_Compact_nil (h : Hp) : R_slices_Compact_Message [nilS] h = some (nilS, h) := by
  rw [R_slices_Compact_Message_raw]
  simp [f_slices_Compact_Message]
theorem R_Clone_Msg (l : List Msg) (b : Bool) (hl : l.length < 1000000) (h : Hp) : R_slices_Clone_Message [SLm b l] h = if (b && l.isEmpty) = true then some (nilS, h) else some (.sl 7 (h.length + 1) 0 l.length l.length false, h ++ [.arr 7 [] true false, .arr 7 (l.map encM) true false]) := by
  rw [R_slices_Clone_Message_raw]
  by_cases hb : (b && l.isEmpty) = true
  · simp [f_slices_Clone_Message, hb]
  · have hb' : (b && l.isEmpty) = false := by simpa using hb
    have hle : l.length * 56 ≤ 140737488355328 := by omega
    have h2 : ((l.map encM).all fun e => e.length == 7) = true := by simp [encM]
    simp [f_slices_Clone_Message, hb', bsE, fillS, appE, readSl, hle, h2, ap]
def ltM (a b : Msg) : Bool := ltZ (cellsM a) (cellsM b)
def sortM (l : List Msg) : List Msg := l.mergeSort fun x y => !ltM y x
theorem cmp_rows (x y : List Int) (hx : x.length = 7) (hy : y.length = 7) : F_document_compare [.agg (encZ x), .agg (encZ y)] [] = some (.s (.int .i64 (lexZ x y)), []) := by
  match x, hx, y, hy with
  | [a0, a1, a2, a3, a4, a5, a6], _, [b0, b1, b2, b3, b4, b5, b6], _ => exact F_document_compare_val ⟨a0, a1, a2, a3, a4, a5, a6⟩ ⟨b0, b1, b2, b3, b4, b5, b6⟩ []
theorem F_Sort_val {l : List Msg} {id : Nat} {h : Hp} {b : Bool} (hid : h[id]? = some (.arr 7 (l.map encM) true b)) (hl : l.length < 1000000) : F_slices_SortFunc_Message__document_compare [.sl 7 id 0 l.length l.length false, .fn 63 []] h = some (.tup [], h.set id (.arr 7 ((sortM l).map encM) true b)) := by
  have e1 : ((l.map encM).drop 0).take l.length = (l.map cellsM).map encZ := by
    rw [List.drop_zero, List.map_map, List.take_of_length_le (by simp)]
    rfl
  refine (sortZ_val (g := 63) cmp_rows hid (by simp) (by simp) (by omega) (l := l.map cellsM) (by simp [cellsM]) e1).trans ?_
  have e2 : (l.map cellsM).mergeSort (fun x y => !ltZ y x) = (sortM l).map cellsM := by
    unfold sortM
    rw [List.map_mergeSort]
    intro a _ b _
    rfl
  rw [e2, List.map_map, show encZ ∘ cellsM = encM from rfl, List.take_zero, List.nil_append, List.drop_eq_nil_of_le (by simp), List.append_nil]
theorem F_Sort_nil (h : Hp) : F_slices_SortFunc_Message__document_compare [nilS, .fn 63 []] h = some (.tup [], h) := rfl
def normL (l : List Msg) : List Msg := compL (sortM l)
section
variable {β : Type} {P : Program} {T : Tab} {D : DTab} {N : Nat} {K : AV → Hp → Option β}
theorem IndexFunc_Message_L2 {x0 : Hp → Option β} {xr : AV → Hp → Option β} {l : List Msg} {b : Bool} {fv : AV} {h : Hp} {p : Msg → Bool} (hl : l.length < 4611686018427387904) (hp : ∀ x ∈ l, ∀ k : AV → Hp → Option β, callVK T fv [.agg (encM x)] h k = k (B (p x)) h) :
    ∀ (n i : Nat), i ≤ l.length → l.length < i + n → f_slices_IndexFunc_Message_L2 P T D N x0 xr n (.lst 7 b (l.map encM)) fv (I l.length) (I i) h = match (l.drop i).findIdx? p with | some j => xr (I ((i + j : Nat) : Int)) h | none => x0 h := by
  intro n
  induction n with
  | zero => intro i h1 h2; omega
  | succ n ih =>
    intro i h1 h2
    show f_slices_IndexFunc_Message_b2 P T D N (f_slices_IndexFunc_Message_L2 P T D N x0 xr n) x0 xr _ _ _ _ h = _
    unfold f_slices_IndexFunc_Message_b2
    rcases Nat.lt_or_ge i l.length with hi | hi
    · have hx : l[i]? = some l[i] := List.getElem?_eq_getElem hi
      have hlt : ((i : Int) < (l.length : Int)) := by omega
      have hw : IntKind.i64.wrap ((i : Int) + 1) = ((i + 1 : Nat) : Int) := by rw [wrap64 (by omega) (by omega)]; omega
      have hpx := hp l[i] (List.getElem_mem hi)
      rw [List.drop_eq_getElem_cons hi, List.findIdx?_cons]
      simp [hlt, hx, hw, encM] at hpx ⊢
      rw [hpx]
      cases hc : p l[i] with
      | true => simp
      | false =>
        have h3 := ih (i + 1) hi (by omega)
        rw [show ((i : Int) + 1) = ((i + 1 : Nat) : Int) by omega]
        simp only [Bool.false_eq_true, if_false]
        refine h3.trans ?_
        cases (List.drop (i + 1) l).findIdx? p with
        | none => rfl
        | some j =>
          show xr (I ((i + 1 + j : Nat) : Int)) h = xr (I ((i + (j + 1) : Nat) : Int)) h
          rw [show i + 1 + j = i + (j + 1) by omega]
    · have : i = l.length := by omega
      subst this
      simp
theorem IndexFunc_Message_K {l : List Msg} {b : Bool} {fv : AV} {h : Hp} {p : Msg → Bool} {K : AV → Hp → Option β} (hl : l.length < N) (hN : N < 4611686018427387904) (hp : ∀ x ∈ l, ∀ k : AV → Hp → Option β, callVK T fv [.agg (encM x)] h k = k (B (p x)) h) :
    f_slices_IndexFunc_Message P T D N K (.lst 7 b (l.map encM)) fv h = K (I (match l.findIdx? p with | some j => (j : Int) | none => -1)) h := by
  unfold f_slices_IndexFunc_Message
  simp only [lenK_lst, List.length_map]
  have := IndexFunc_Message_L2 (P := P) (D := D) (N := N) (b := b) (x0 := fun h => f_slices_IndexFunc_Message_j1 P T D N K h) (xr := fun a h => K a h) (by omega) hp N 0 (Nat.zero_le _) (by omega)
  simp only [List.drop_zero] at this
  refine this.trans ?_
  cases l.findIdx? p with
  | none => rfl
  | some j => simp
end
theorem F_document_Normal_1_val (m : Msg) (h : Hp) : F_document_Normal_1 [.agg (encM m)] h = some (B (checkM m != 0), h) := by
  refine F_document_Normal_1_run (by simp [encM]) ?_ h
  have f := F_document_Check_val m
  obtain ⟨a0, a1, a2, a3, a4, a5, a6⟩ := m
  simp only [encM] at f
  simp -implicitDefEqProofs only [f_document_Normal_1, encM, encDo, faK_ptr, faK_ep, Nat.zero_add, Nat.add_zero, Nat.reduceAdd, ld7_0_0, es7_0_0, ed7_0_0, ld7_0_1, es7_0_1, ed7_0_1, ld7_0_2, es7_0_2, ed7_0_2, ld7_0_3, es7_0_3, ed7_0_3, ld7_0_4, es7_0_4, ed7_0_4, ld7_0_5, es7_0_5, ed7_0_5, ld7_0_6, es7_0_6, ed7_0_6, lw7_0, ew7_0, bx7_0, ld7_1_0, es7_1_0, ed7_1_0, ld7_1_1, es7_1_1, ed7_1_1, ld7_1_2, es7_1_2, ed7_1_2, ld7_1_3, es7_1_3, ed7_1_3, ld7_1_4, es7_1_4, ed7_1_4, ld7_1_5, es7_1_5, ed7_1_5, ld7_1_6, es7_1_6, ed7_1_6, lw7_1, ew7_1, bx7_1, ld7_2_0, es7_2_0, ed7_2_0, ld7_2_1, es7_2_1, ed7_2_1, ld7_2_2, es7_2_2, ed7_2_2, ld7_2_3, es7_2_3, ed7_2_3, ld7_2_4, es7_2_4, ed7_2_4, ld7_2_5, es7_2_5, ed7_2_5, ld7_2_6, es7_2_6, ed7_2_6, lw7_2, ew7_2, bx7_2, ld7_3_0, es7_3_0, ed7_3_0, ld7_3_1, es7_3_1, ed7_3_1, ld7_3_2, es7_3_2, ed7_3_2, ld7_3_3, es7_3_3, ed7_3_3, ld7_3_4, es7_3_4, ed7_3_4, ld7_3_5, es7_3_5, ed7_3_5, ld7_3_6, es7_3_6, ed7_3_6, lw7_3, ew7_3, bx7_3, ldK_ep, arithK_lss, arithK_leq, arithK_gtr, arithK_geq, grpK_or, grpK_and, condK_bool, eqK_int, notK_bool, Bool.false_xor, Bool.true_xor, callK_F, exK_tup, lenK_lst, lenK_sl, lenK_nil, List.length_map, t_document_Normal_1_47, f]
  rfl
theorem F_Contains_check (l : List Msg) (hl : l.length < 1000000) (b : Bool) (h : Hp) : F_slices_ContainsFunc_Message__document_Normal_1 [SLm b l, .fn 61 []] h = some (B (l.any fun m => checkM m != 0), h) := by
  have e : ∀ h, F_slices_IndexFunc_Message__document_Normal_1 [SLm b l, .fn 61 []] h = some (I (match l.findIdx? (fun m => checkM m != 0) with | some j => (j : Int) | none => -1), h) :=
    F_slices_IndexFunc_Message__document_Normal_1_run rfl (by
      simp only [nrm, nrmC]
      rw [IndexFunc_Message_K (p := fun m => checkM m != 0) (by have := NN_ge; omega) NN_lt (fun x hx k => by simp [F_document_Normal_1_val])]
      rfl)
  refine F_slices_ContainsFunc_Message__document_Normal_1_run rfl ?_ h
  simp only [nrm, nrmC, f_slices_ContainsFunc_Message, t_slices_ContainsFunc_Message__document_Normal_1_65, callK_F, e]
  have : (l.any fun m => checkM m != 0) = (l.findIdx? fun m => checkM m != 0).isSome := by rw [List.findIdx?_isSome]
  rw [this]
  cases l.findIdx? (fun m => checkM m != 0) <;> simp
def errM (l : List Msg) : Int := if 64 < l.length then 8 else if (l.any fun m => checkM m != 0) = true then 1 else 0
theorem normL_length (l : List Msg) : (normL l).length ≤ l.length := by
  have := compL_length (sortM l)
  unfold normL
  unfold sortM at this ⊢
  rwa [List.length_mergeSort] at this
theorem compL_nil {l : List Msg} : compL l = [] ↔ l = [] := by
  match l with
  | [] => simp [compL]
  | [a] => simp [compL]
  | a :: b :: l =>
    have ih := @compL_nil (b :: l)
    simp only [compL]
    split <;> simp_all
theorem sortM_length (l : List Msg) : (sortM l).length = l.length := by unfold sortM; rw [List.length_mergeSort]
theorem normL_empty (l : List Msg) : (normL l).isEmpty = l.isEmpty := by
  rw [Bool.eq_iff_iff, List.isEmpty_iff, List.isEmpty_iff]
  unfold normL
  rw [compL_nil, ← List.length_eq_zero_iff, sortM_length, List.length_eq_zero_iff]
def normR (b : Bool) (l : List Msg) : AV := .tup [if errM l = 0 then SLm b (normL l) else .lst 7 true [], I (errM l)]
theorem Normal_key (l : List Msg) (b : Bool) (hl : l.length < 1000000) : ∀ st, (f_document_Normal Try.prog t_document_Normal d_document_Normal NN (fun v g => cvt st g v) (SLm b l) []) = some (.tup [if errM l = 0 then (if (b && l.isEmpty) = true then nilS else SLm b (normL l)) else nilS, I (errM l)]) := by
  intro st
  have f1 := F_Contains_check l hl b
  have f2 := R_Clone_Msg l b hl
  by_cases h1 : 64 < l.length
  · have c1 : ((64 : Int) < (l.length : Int)) := by omega
    simp [f_document_Normal, c1, errM, h1]
  · have c1 : ¬ ((64 : Int) < (l.length : Int)) := by omega
    cases h2 : (l.any fun m => checkM m != 0) with
    | true =>
      rw [h2] at f1
      simp only [f_document_Normal, lenK_lst, List.length_map, arithK_gtr, c1, decide_false, condK_bool, Bool.false_eq_true, if_false, t_document_Normal_40, callK_F, f1, if_true, errM, h1, h2]
      rfl
    | false =>
      rw [h2] at f1
      simp only [f_document_Normal, lenK_lst, List.length_map, arithK_gtr, c1, decide_false, condK_bool, Bool.false_eq_true, if_false, t_document_Normal_40, t_document_Normal_39, t_document_Normal_62, t_document_Normal_64, callK_F, f1, errM, h1, h2, f2, if_true]
      by_cases hb : (b && l.isEmpty) = true
      · simp only [hb, if_true, F_Sort_nil, R_Compact_nil]
        rfl
      · have hb' : (b && l.isEmpty) = false := by simpa using hb
        simp only [hb', Bool.false_eq_true, if_false, List.length_nil, Nat.zero_add, List.nil_append]
        rw [F_Sort_val (l := l) (b := false) rfl hl]
        simp only [List.set_cons_succ, List.set_cons_zero]
        have hs := sortM_length l
        have := R_Compact_val (l := sortM l) (id := 1) (h := [.arr 7 [] true false, .arr 7 ((sortM l).map encM) true false]) rfl (by omega)
        rw [hs] at this
        rw [this]
        simp only [List.set_cons_succ, List.set_cons_zero, cvt_tup, cvts_cons, cvts_nil, cvt_s]
        have hn : (compL (sortM l)).length ≤ l.length := by have := compL_length (sortM l); omega
        have : cvt st [.arr 7 [] true false, .arr 7 ((compL (sortM l)).map encM ++ List.replicate (l.length - (compL (sortM l)).length) zM) true false] (.sl 7 1 0 (compL (sortM l)).length l.length false) = some (.lst 7 false ((compL (sortM l)).map encM)) := by
          have ok : okE st ((compL (sortM l)).map encM) = true := okE_map fun x => by cases st <;> simp [encM, isS]
          have tk : (((compL (sortM l)).map encM ++ List.replicate (l.length - (compL (sortM l)).length) zM).drop 0).take (compL (sortM l)).length = (compL (sortM l)).map encM := by
            rw [List.drop_zero, List.take_append_of_le_length (by simp), List.take_of_length_le (by simp)]
          have hg : ([.arr 7 [] true false, .arr 7 ((compL (sortM l)).map encM ++ List.replicate (l.length - (compL (sortM l)).length) zM) true false] : Hp)[1]? = some (.arr 7 ((compL (sortM l)).map encM ++ List.replicate (l.length - (compL (sortM l)).length) zM) true false) := rfl
          unfold cvt
          rw [hg]
          simp only []
          rw [if_pos (by simp; omega), tk, if_pos ok]
        rw [this]
        show some (AV.tup [AV.lst 7 false ((normL l).map encM), I 0]) = some (.tup [.lst 7 (b && (normL l).isEmpty) ((normL l).map encM), I 0])
        rw [normL_empty, hb']
theorem Normal_nrm (l : List Msg) (b : Bool) (h : Hp) : (some (nrmR [.l 7, .o] (AV.tup [if errM l = 0 then (if (b && l.isEmpty) = true then nilS else SLm b (normL l)) else nilS, I (errM l)]), h) : Option (AV × Hp)) = some (normR b l, h) := by
  unfold normR
  by_cases h0 : errM l = 0
  · simp only [h0, if_true]
    by_cases hb : (b && l.isEmpty) = true
    · have hb2 : (b && (normL l).isEmpty) = true := by rw [normL_empty]; exact hb
      have hn : normL l = [] := by simpa using (Bool.and_eq_true_iff.1 hb2).2
      have hb1 := (Bool.and_eq_true_iff.1 hb).1
      subst hb1
      simp only [hb, if_true, SLm, hn, List.map_nil]
      rfl
    · rw [if_neg hb]
      rfl
  · simp only [h0, if_false]
    rfl
theorem F_document_Normal_at (l : List Msg) {b : Bool} (hl : l.length < 1000000) {h : Hp} {v a : AV} (hv : cvts false h [v] = some [a]) (ha : nrm (.l 7) a = SLm b l) : F_document_Normal [v] h = some (normR b l, h) :=
  (F_document_Normal_own (a0 := a) hv (fun st => by rw [ha]; exact Normal_key l b hl st)).trans (Normal_nrm l b h)
end Go.AM


namespace Go.AM
set_option linter.unusedVariables false
set_option linter.unusedSimpArgs false
section
variable {β α : Type}
theorem effK_putg {r : R} {v : AV} {id : Nat} {o : AObj} {ft : List Nat} {h : Hp} (hr : r = some (v, ⟨[(id, o)], [], ft⟩)) (k : AV → Hp → Option β) : effK r h k = k v (h.set id o) := by subst hr; simp [effK, ap]
end
structure Kept (h hh : Hp) (k : Nat) : Prop where
  len : h.length ≤ hh.length
  same : ∀ j, j ≠ k → j < h.length → hh[j]? = h[j]?
theorem Kept.refl (h : Hp) (k : Nat) : Kept h h k := ⟨Nat.le_refl _, fun _ _ _ => rfl⟩
theorem Kept.app {h hh : Hp} {k : Nat} (K : Kept h hh k) (g : Hp) : Kept h (hh ++ g) k := ⟨by have := K.len; simp; omega, fun j h1 h2 => by rw [List.getElem?_append_left (by have := K.len; omega)]; exact K.same j h1 h2⟩
theorem Kept.set {h hh : Hp} {k : Nat} (K : Kept h hh k) (o : AObj) : Kept h (hh.set k o) k := ⟨by have := K.len; simpa using this, fun j h1 h2 => by rw [List.getElem?_set_ne (Ne.symm h1)]; exact K.same j h1 h2⟩
structure DelInv {α : Type} (f : α → List AV) (p : α → Bool) (sz : Nat) (l : List α) (h : Hp) (k i w : Nat) (hh : Hp) (W : List α) : Prop where
  kept : Kept h hh k
  at_ : hh[k]? = some (.arr sz (W.map f) true false)
  len : W.length = l.length
  hw : w = ((l.take i).filter fun x => !p x).length
  pre : W.take w = (l.take i).filter fun x => !p x
  post : W.drop i = l.drop i
section
variable {α : Type} {f : α → List AV} {p : α → Bool} {sz : Nat} {l : List α} {h : Hp} {k i w : Nat} {hh : Hp} {W : List α}
theorem DelInv.wi (I : DelInv f p sz l h k i w hh W) : w ≤ i := by
  rw [I.hw]
  exact Nat.le_trans (List.length_filter_le _ _) (by rw [List.length_take]; omega)
theorem DelInv.get (I : DelInv f p sz l h k i w hh W) {x : α} (hx : l[i]? = some x) : W[i]? = some x := by
  have := congrArg (fun q => q[0]?) I.post
  simpa [hx] using this
theorem take_succ_of {l : List α} {i : Nat} {x : α} (hx : l[i]? = some x) : l.take (i + 1) = l.take i ++ [x] := by rw [List.take_add_one, hx]; rfl
theorem DelInv.skip (I : DelInv f p sz l h k i w hh W) {x : α} (hx : l[i]? = some x) (hp : p x = true) (g : Hp) : DelInv f p sz l h k (i + 1) w (hh ++ g) W := by
  have e : (l.take (i + 1)).filter (fun x => !p x) = (l.take i).filter fun x => !p x := by rw [take_succ_of hx]; simp [hp]
  refine ⟨I.kept.app g, get_app I.at_, I.len, by rw [e]; exact I.hw, by rw [e]; exact I.pre, ?_⟩
  have := congrArg (List.drop 1) I.post
  simpa [List.drop_drop] using this
theorem DelInv.keep (I : DelInv f p sz l h k i w hh W) {x : α} (hx : l[i]? = some x) (hp : p x = false) (g : Hp) : DelInv f p sz l h k (i + 1) (w + 1) ((hh ++ g).set k (.arr sz ((W.set w x).map f) true false)) (W.set w x) := by
  have hi := (List.getElem?_eq_some_iff.1 hx).1
  have hw := I.wi
  have hl := I.len
  have e : (l.take (i + 1)).filter (fun x => !p x) = ((l.take i).filter fun x => !p x) ++ [x] := by rw [take_succ_of hx]; simp [hp]
  refine ⟨(I.kept.app g).set _, ?_, by simpa using hl, by rw [e, List.length_append, ← I.hw]; rfl, ?_, ?_⟩
  · have := (List.getElem?_eq_some_iff.1 (get_app (g := g) I.at_)).1
    rw [List.getElem?_set_self this]
  · rw [e, ← I.pre, List.take_add_one, List.take_set, List.getElem?_set_self (by omega), List.set_eq_of_length_le (by rw [List.length_take]; omega)]
    rfl
  · rw [List.drop_set_of_lt (by omega)]
    have := congrArg (List.drop 1) I.post
    simpa [List.drop_drop] using this
end
end Go.AM


namespace Go.AM
set_option linter.unusedVariables false
set_option linter.unusedSimpArgs false
set_option linter.constructorNameAsVariable false
set_option maxRecDepth 30000
variable {β : Type} {P : Program} {kt : TypeId} {kk : IntKind}
structure TwoInts (P : Program) (kt : TypeId) (t : TypeId) : Prop where
  st : ∃ fs : Array Field, P.underlying kt = some (.struct fs) ∧ ∃ f0 f1 : Field, fs = #[f0, f1] ∧ f0.type = t ∧ f1.type = t ∧ f0.offset = 0 ∧ f1.offset = 1 ∧ (f0.name = "_") = False ∧ (f1.name = "_") = False
  it : P.underlying t = some (.int .i64)
  held : P.stoodInHeld kt = false
theorem part_at {t : TypeId} (it : P.underlying t = some (.int .i64)) (cs : Array Value) (i : Nat) {v : Value} (hv : cs[i]? = some v) : pureVal P (part t cs i) = some v := by
  unfold part
  rw [pureVal_bnd]
  have : pureVal P (isAgg t) = some false := by
    unfold isAgg
    rw [pureVal_bnd, pureVal_underlying it]
    rfl
  rw [this, Option.bind_some]
  simp [hv]
  rfl
theorem equal_int {t : TypeId} (it : P.underlying t = some (.int .i64)) (d : Nat) (a b : Int) : pureVal P (Op.equalIn (d + 1) t (.int .i64 a) (.int .i64 b)) = some (a == b) := by
  unfold Op.equalIn
  rw [pureVal_bnd, pureVal_underlying it]
  rfl
theorem equal_two {t : TypeId} (H : TwoInts P kt t) (a b c e : Int) : pureVal P (Op.equal kt (.agg #[.int .i64 a, .int .i64 b]) (.agg #[.int .i64 c, .int .i64 e])) = some (a == c && b == e) := by
  obtain ⟨⟨fs, hu, f0, f1, rfl, t0, t1, o0, o1, q0, q1⟩, it, hh⟩ := H
  unfold Op.equal
  rw [show Op.maxDepth = (Op.maxDepth - 2) + 1 + 1 from rfl]
  unfold Op.equalIn
  rw [pureVal_bnd, pureVal_underlying hu]
  simp only [Option.bind_some]
  have pp : pureVal P program = some P := rfl
  have e0 := part_at it #[.int .i64 a, .int .i64 b] 0 (v := .int .i64 a) rfl
  have e1 := part_at it #[.int .i64 a, .int .i64 b] 1 (v := .int .i64 b) rfl
  have e2 := part_at it #[.int .i64 c, .int .i64 e] 0 (v := .int .i64 c) rfl
  have e3 := part_at it #[.int .i64 c, .int .i64 e] 1 (v := .int .i64 e) rfl
  have g0 := equal_int it (Op.maxDepth - 2) a c
  have g1 := equal_int it (Op.maxDepth - 2) b e
  rw [pureVal_bnd, pp, Option.bind_some, hh]
  simp only [Bool.false_eq_true, if_false, ← Array.forIn_toList, List.forIn_cons, List.forIn_nil, pureVal_bnd, t0, t1, o0, o1, q0, q1, e0, e1, e2, e3, g0, g1, Option.bind_some, ne_eq, not_false_eq_true, if_true]
  cases h1 : (a == c) <;> cases h2 : (b == e) <;> simp [h1, h2, pureVal_bnd, pureVal_pure, e1, e3, g1]
theorem keyEq_two {t : TypeId} (H : TwoInts P kt t) (a b c e : Int) : keyEq P kt (.agg #[.int .i64 a, .int .i64 b]) (.agg #[.int .i64 c, .int .i64 e]) = some (decide ((a, b) = (c, e))) := by
  unfold keyEq
  rw [equal_two H]
  by_cases h1 : a = c
  · by_cases h2 : b = e
    · subst h1 h2
      have : Instr.sameBits 10000 (.agg #[.int .i64 a, .int .i64 b]) (.agg #[.int .i64 a, .int .i64 b]) = true := by simp [Instr.sameBits]
      simp [this]
    · have : (b == e) = false := by simpa using h2
      rw [this]
      simp [h2]
  · have : (a == c) = false := by simpa using h1
    rw [this]
    simp [h1]
theorem keyOk_two {t : TypeId} (H : TwoInts P kt t) (a b : Int) : keyOk P kt (.agg #[.int .i64 a, .int .i64 b]) = true := by
  obtain ⟨⟨fs, hu, f0, f1, rfl, t0, t1, o0, o1, q0, q1⟩, it, hh⟩ := H
  have ck : ∀ (m : Bool) (n : Nat) (v : Int), pureVal P (Instr.checkKey m (n + 1) t (.int .i64 v)) = some () := by
    intro m n v
    unfold Instr.checkKey
    rw [pureVal_bnd, pureVal_underlying it]
    rfl
  have e0 := part_at it #[.int .i64 a, .int .i64 b] 0 (v := .int .i64 a) rfl
  have e1 := part_at it #[.int .i64 a, .int .i64 b] 1 (v := .int .i64 b) rfl
  have key : ∀ m, pureVal P (Instr.checkKey m 10000 kt (.agg #[.int .i64 a, .int .i64 b])) = some () := by
    intro m
    rw [show (10000 : Nat) = 9998 + 1 + 1 from rfl]
    unfold Instr.checkKey
    rw [pureVal_bnd, pureVal_underlying hu]
    simp only [Option.bind_some]
    simp only [← Array.forIn_toList, List.forIn_cons, List.forIn_nil, pureVal_bnd, t0, t1, o0, o1, q0, q1, e0, e1, ck, Option.bind_some, ne_eq, not_false_eq_true, if_true, pureVal_pure]
  unfold keyOk
  rw [key, key]
  rfl
abbrev keyT (p : Int × Int) : Value := .agg #[.int .i64 p.1, .int .i64 p.2]
abbrev keyA (p : Int × Int) : AV := .agg [.s (.int .i64 p.1), .s (.int .i64 p.2)]
section
variable {α : Type}
def kvT (f : α → AV) (c : List ((Int × Int) × α)) : List (Value × AV) := c.map fun e => (keyT e.1, f e.2)
def fndT : List ((Int × Int) × α) → Int × Int → Option (Nat × α)
  | [], _ => none
  | (q, x) :: r, p => if p = q then some (0, x) else (fndT r p).map fun y => (y.1 + 1, y.2)
def updT : List ((Int × Int) × α) → Int × Int → α → List ((Int × Int) × α)
  | [], p, x => [(p, x)]
  | (q, y) :: r, p, x => if p = q then (p, x) :: r else (q, y) :: updT r p x
theorem fndT_upd : ∀ (c : List ((Int × Int) × α)) (p q : Int × Int) (x : α), (fndT (updT c p x) q).map (·.2) = if q = p then some x else (fndT c q).map (·.2)
  | [], p, q, x => by simp only [updT, fndT]; by_cases e : q = p <;> simp [e]
  | (r, y) :: c, p, q, x => by
    have ih := fndT_upd c p q x
    simp only [updT]
    by_cases e : p = r
    · subst e
      simp only [if_true, fndT]
      by_cases e2 : q = p <;> simp [e2]
    · simp only [if_neg e, fndT]
      by_cases e2 : q = r
      · subst e2
        simp [Ne.symm e]
      · simp only [if_neg e2, Option.map_map]
        rw [show ((fun x : Nat × α => x.2) ∘ fun y : Nat × α => (y.1 + 1, y.2)) = fun x => x.2 from rfl]
        exact ih
variable {f : α → AV} {t : TypeId}
theorem lookupKV_two (H : TwoInts P kt t) (p : Int × Int) : ∀ c : List ((Int × Int) × α), lookupKV (kvT f c) (keyEq P kt) (keyT p) = some ((fndT c p).map fun r => f r.2)
  | [] => rfl
  | (q, x) :: c => by
    have ih := lookupKV_two H p c
    simp only [kvT, List.map_cons, lookupKV, keyEq_two H, fndT] at ih ⊢
    by_cases e : p = q
    · subst e; simp
    · have hd : decide ((p.1, p.2) = (q.1, q.2)) = false := decide_eq_false e
      simp only [hd, if_neg e, ih, Option.map_map]
      rfl
theorem updateKV_two (H : TwoInts P kt t) (p : Int × Int) (x : α) : ∀ c : List ((Int × Int) × α), updateKV (kvT f c) (keyEq P kt) (keyT p) (f x) = some (kvT f (updT c p x))
  | [] => rfl
  | (q, y) :: c => by
    have ih := updateKV_two H p x c
    simp only [kvT, List.map_cons, updateKV, keyEq_two H, updT] at ih ⊢
    by_cases e : p = q
    · subst e; simp
    · have hd : decide ((p.1, p.2) = (q.1, q.2)) = false := decide_eq_false e
      simp only [hd, if_neg e, ih, Option.map_some, List.map_cons]
theorem lookK_two {h : Hp} {id : Nat} {c : List ((Int × Int) × α)} {z : AV} {ok : Bool} {p : Int × Int} (H : TwoInts P kt t) (hid : h[id]? = some (.map (kvT f c))) (k : K β) :
    lookK P kt z ok (.mp id) (keyA p) h k = match fndT c p with
      | some r => k (if ok then .tup [f r.2, .s (.bool true)] else f r.2)
      | none => k (if ok then .tup [z, .s (.bool false)] else z) := by
  unfold lookK
  have e : toV (keyA p) = some (keyT p) := rfl
  simp only [e, hid, keyOk_two H, lookupKV_two H p c, if_true]
  cases fndT c p <;> rfl
theorem mupE_two {h : Hp} {id : Nat} {c : List ((Int × Int) × α)} {p : Int × Int} {x : α} (H : TwoInts P kt t) (hid : h[id]? = some (.map (kvT f c))) :
    mupE P kt (.mp id) (keyA p) (f x) h = some (.u, ⟨[(id, .map (kvT f (updT c p x)))], [], [id]⟩) := by
  unfold mupE
  have e : toV (keyA p) = some (keyT p) := rfl
  simp only [e, hid, keyOk_two H, updateKV_two H p x c, if_true]
end
theorem leftIt_mem {n j : Nat} {seen : List Nat} : j ∈ leftIt n seen ↔ j < n ∧ j ∉ seen := by
  unfold leftIt
  rw [List.mem_filter, List.mem_range]
  simp
theorem leftIt_snoc {n j : Nat} {seen : List Nat} (hj : j ∈ leftIt n seen) : (leftIt n (seen ++ [j])).length < (leftIt n seen).length := by
  obtain ⟨h1, h2⟩ := leftIt_mem.1 hj
  unfold leftIt
  have : (List.range n).filter (fun i => !(seen ++ [j]).contains i) = ((List.range n).filter fun i => !seen.contains i).filter fun i => i != j := by
    rw [List.filter_filter]
    congr 1
    funext i
    simp [List.contains_append]
    by_cases e : i = j <;> simp [e]
  rw [this]
  exact List.length_filter_lt_length_iff_exists.2 ⟨j, hj, by simp⟩
theorem allSame_of {d x : Option β} {l : List (Option β)} (h0 : l = [] → d = x) (h : ∀ y ∈ l, y = x) : allSame d l = x := by
  cases l with
  | nil => exact h0 rfl
  | cons y ys =>
    simp only [allSame]
    rw [if_pos fun z hz => by rw [h z (by simp [hz]), h y (by simp)]]
    exact h y (by simp)
theorem nextK_of {h : Hp} {id m n : Nat} {seen : List Nat} {kvs : List (Value × AV)} {X : Option β} (hid : h[id]? = some (.iter m n seen)) (hm : h[m]? = some (.map kvs)) (hn : kvs.length = n) (k : AV → Hp → Option β)
    (h0 : leftIt n seen = [] → k (.tup [.s (.bool false)]) h = X) (h1 : ∀ j ∈ leftIt n seen, k (.tup [.s (.bool true), .u, .u]) (h.set id (.iter m n (seen ++ [j]))) = X) : nextK (.it id) h k = X := by
  unfold nextK
  simp only [hid, hm, hn, if_true]
  refine allSame_of (fun e => h0 (by simpa using e)) fun y hy => ?_
  obtain ⟨j, hj, rfl⟩ := List.mem_map.1 hy
  exact h1 j hj
theorem entryK_at {h : Hp} {id m n j : Nat} {seen : List Nat} {kvs : List (Value × AV)} {ky : Value} {v : AV} (hid : h[id]? = some (.iter m n (seen ++ [j]))) (hm : h[m]? = some (.map kvs)) (hn : kvs.length = n) (hj : kvs[j]? = some (ky, v)) (k : K β) : entryK (.it id) h k = k (.tup [keyAV ky, v]) := by
  unfold entryK
  simp only [hid, hm, List.getLast?_append, List.getLast?_singleton, Option.some_or, hn, if_true, hj]
end Go.AM


namespace Go.AM
open Go.Proofs
set_option linter.unusedVariables false
set_option linter.unusedSimpArgs false
set_option linter.constructorNameAsVariable false
set_option maxRecDepth 20000
attribute [local congr] arithK_cg eqK_cg notK_cg convK_cg pickK_cg buildK_cg ldK_cg nilK_cg sliceK_cg faK_cg fldK_cg iaK_cg iaA_cg lookK_cg capK_cg exK_cg lenK_cg minK_cg maxK_cg effK_cg callK_cg callVK_cg effD_cg gopD_cg grpK_cg condK_cg cond_cg
structure Envl where
  frm : Int
  to : Int
  num : Int
  msg : Msg
deriving DecidableEq
def encV (e : Envl) : List AV := [I e.frm, I e.to, I e.num, I e.msg.mv, I e.msg.kind, I e.msg.num, I e.msg.day, I e.msg.frm, I e.msg.to, I e.msg.alc]
abbrev zE : List AV := [I 0, I 0, I 0, I 0, I 0, I 0, I 0, I 0, I 0, I 0]
section
variable {β : Type}
theorem nbx {h : Hp} (k : AV → Hp → Option β) : effK (boxE 10 (.agg zE) h.length) h k = k (.ptr h.length 0 0 1) (h ++ [.arr 10 [zE] true false]) := effK_box 10 h.length (.agg zE) h k rfl rfl rfl
theorem nst {h : Hp} {m : Envl} (k : AV → Hp → Option β) : effK (stE 10 (.ptr h.length 0 0 1) (.agg (encV m)) (h ++ [.arr 10 [zE] true false])) (h ++ [.arr 10 [zE] true false]) k = k .u (h ++ [.arr 10 [encV m] true false]) := by
  rw [effK_putg (v := .u) (id := h.length) (o := .arr 10 [encV m] true false) (ft := [h.length]) (by simp [encV]), set_new0]; rfl
theorem nl0 {h : Hp} {m : Envl} (k : Go.AM.K β) : ldK 1 false (.ptr h.length 0 0 1) (h ++ [.arr 10 [encV m] true false]) k = k (I m.frm) := by simp [encV]
theorem nl1 {h : Hp} {m : Envl} (k : Go.AM.K β) : ldK 1 false (.ptr h.length 0 1 1) (h ++ [.arr 10 [encV m] true false]) k = k (I m.to) := by simp [encV]
theorem nl2 {h : Hp} {m : Envl} (k : Go.AM.K β) : ldK 1 false (.ptr h.length 0 2 1) (h ++ [.arr 10 [encV m] true false]) k = k (I m.num) := by simp [encV]
theorem nl3 {h : Hp} {m : Envl} (k : Go.AM.K β) : ldK 7 true (.ptr h.length 0 3 1) (h ++ [.arr 10 [encV m] true false]) k = k (.agg (encM m.msg)) := by simp [encV, encM]
end
def rangeE (e : Envl) : Bool := decide (e.frm < 1) || decide (99 < e.frm) || decide (e.to < 1) || decide (99 < e.to) || decide (e.num < 1) || decide (1073741824 < e.num)
def formE (e : Envl) : Int := if rangeE e = true then 2 else if e.frm = e.to then 10 else if checkM e.msg ≠ 0 then 1 else 0
abbrev fU : Unit → AV := fun _ => B true
theorem twoN : TwoInts Try.prog 73 3 := ⟨⟨_, Try.underlying73, _, _, rfl, rfl, rfl, rfl, rfl, eq_false (by decide), eq_false (by decide)⟩, Try.underlying3, by kernel_rfl⟩
def chkE : List ((Int × Int) × Unit) → Nat → List Envl → Int × Int
  | _, _, [] => (-1, 0)
  | c, i, x :: l => if formE x ≠ 0 then ((i : Int), formE x) else if (fndT c (x.frm, x.num)).isSome = true then ((i : Int), 6) else chkE (updT c (x.frm, x.num) ()) (i + 1) l
def chkS (l : List Envl) : Int × Int := if 64 < l.length then (-1, 8) else chkE [] 0 l
theorem Check_L2 {T : Tab} {D : DTab} {N : Nat} {x0 : Hp → Option AV} {xr : AV → AV → Hp → Option AV} {X : Int × Int → Option AV} {l : List Envl} {b : Bool} (hT : T 47 = some F_document_Check) (hl : l.length < 1000000) (h0 : ∀ h, x0 h = X (-1, 0)) (hr : ∀ (i e : Int) h, xr (I i) (I e) h = X (i, e)) : ∀ (n : Nat) (pre post : List Envl) (c : List ((Int × Int) × Unit)) (h : Hp), l = pre ++ post → post.length < n → h[0]? = some (.map (kvT fU c)) →
    f_network_Check_L2 Try.prog T D N x0 xr n (.mp 0) (.lst 10 b (l.map encV)) (I l.length) (I pre.length) h = X (chkE c pre.length post) := by
  intro n
  induction n with
  | zero => intro pre post c h _ h2; omega
  | succ n ih =>
    intro pre post c h hc hn hm
    show f_network_Check_b2 Try.prog T D N (f_network_Check_L2 Try.prog T D N x0 xr n) x0 xr _ _ _ _ h = _
    cases post with
    | nil =>
      have : l = pre := by simpa using hc
      subst this
      have c1 : ¬ ((l.length : Int) < (l.length : Int)) := by omega
      simp -implicitDefEqProofs only [f_network_Check_b2, arithK_lss, c1, decide_false, condK_bool, Bool.false_eq_true, if_false]
      exact h0 h
    | cons x post =>
      have hi : pre.length < l.length := by rw [hc]; simp
      have hx : l[pre.length]? = some x := by rw [hc]; simp
      have hlt : ((pre.length : Int) < (l.length : Int)) := by omega
      have hw : IntKind.i64.wrap ((pre.length : Int) + 1) = (((pre ++ [x]).length : Nat) : Int) := by rw [wrap64 (by omega) (by omega)]; simp
      have ic : ∀ k : Go.AM.K AV, iaK 10 (.lst 10 b (l.map encV)) (I pre.length) k = k (.ep (encV x) 0) := fun k => iaK_at pre.length rfl hx k
      have ld : ∀ k : Go.AM.K AV, ldK 10 true (.ep (encV x) 0) h k = k (.agg (encV x)) := fun k => rfl
      obtain ⟨h1, hh1⟩ : ∃ h1, h1 = h ++ [AObj.arr 10 [encV x] true false] := ⟨_, rfl⟩
      have hm1 : h1[0]? = some (.map (kvT fU c)) := by rw [hh1]; exact get_app hm
      have m0 : ∀ k : Go.AM.K AV, ldK 1 false (.ptr h.length 0 0 1) h1 k = k (I x.frm) := fun k => by rw [hh1]; exact nl0 k
      have m1 : ∀ k : Go.AM.K AV, ldK 1 false (.ptr h.length 0 1 1) h1 k = k (I x.to) := fun k => by rw [hh1]; exact nl1 k
      have m2 : ∀ k : Go.AM.K AV, ldK 1 false (.ptr h.length 0 2 1) h1 k = k (I x.num) := fun k => by rw [hh1]; exact nl2 k
      have m3 : ∀ k : Go.AM.K AV, ldK 7 true (.ptr h.length 0 3 1) h1 k = k (.agg (encM x.msg)) := fun k => by rw [hh1]; exact nl3 k
      have bd : ∀ k : Go.AM.K AV, buildK [.s (.int .i64 0), .s (.int .i64 0)] [(some (0, 1), I x.frm), (some (1, 1), I x.num)] k = k (keyA (x.frm, x.num)) := fun k => rfl
      have lk : ∀ k : Go.AM.K AV, lookK Try.prog 73 (.s (.bool false)) false (.mp 0) (keyA (x.frm, x.num)) h1 k = k (B (fndT c (x.frm, x.num)).isSome) := fun k => by
        rw [lookK_two (p := (x.frm, x.num)) (f := fU) (c := c) twoN hm1]
        cases fndT c (x.frm, x.num) <;> rfl
      have mu : ∀ k : AV → Hp → Option AV, effK (mupE Try.prog 73 (.mp 0) (keyA (x.frm, x.num)) (.s (.bool true)) h1) h1 k = k .u (h1.set 0 (.map (kvT fU (updT c (x.frm, x.num) ())))) := fun k =>
        effK_putg (mupE_two (p := (x.frm, x.num)) (f := fU) (x := ()) (c := c) twoN hm1) k
      have fd := F_document_Check_val x.msg
      have ns : ∀ k : AV → Hp → Option AV, effK (stE 10 (.ptr h.length 0 0 1) (.agg (encV x)) (h ++ [.arr 10 [zE] true false])) (h ++ [.arr 10 [zE] true false]) k = k .u h1 := fun k => by rw [hh1]; exact nst k
      have rg : ((((decide (x.frm < 1) || decide (x.frm > 99)) || decide (x.to < 1)) || decide (x.to > 99)) || decide (x.num < 1) || decide (x.num > 1073741824)) = rangeE x := rfl
      simp -implicitDefEqProofs only [f_network_Check_b2, arithK_lss, hlt, decide_true, condK_bool, if_true, ic, ld, nbx, ns, faK_ptr, Nat.zero_add, m0, m1, m2, m3, arithK_gtr, grpK_or, rg, eqK_int, Bool.false_xor, Bool.true_xor, hT, callK_F, fd, bd, lk, mu, arithK_add, hw, hr]
      have ih1 := ih (pre ++ [x]) post (updT c (x.frm, x.num) ()) (h1.set 0 (.map (kvT fU (updT c (x.frm, x.num) ())))) (by simpa using hc) (by simpa using hn) (List.getElem?_set_self (List.getElem?_eq_some_iff.1 hm1).1)
      rw [show (pre ++ [x]).length = pre.length + 1 by simp] at ih1 ⊢
      simp only [chkE]
      cases hrg : rangeE x with
      | true => simp [formE, hrg]
      | false =>
        by_cases e1 : x.frm = x.to
        · simp [formE, hrg, e1]
        · by_cases e2 : checkM x.msg = 0
          · cases e3 : (fndT c (x.frm, x.num)).isSome with
            | true => simp [formE, hrg, e1, e2]
            | false =>
              simp [formE, hrg, e1, e2]
              simpa using ih1
          · simp [formE, hrg, e1, e2]
def tupP (r : Int × Int) : AV := .tup [I r.1, I r.2]
theorem F_network_Check_val (l : List Envl) (b : Bool) (hl : l.length < 1000000) (h : Hp) : F_network_Check [.lst 10 b (l.map encV)] h = some (tupP (chkS l), h) := by
  refine F_network_Check_run (a0 := .lst 10 b (l.map encV)) (v := tupP (chkS l)) rfl ?_ h
  unfold chkS
  simp only [nrm, nrmC]
  simp -implicitDefEqProofs only [f_network_Check, lenK_lst, List.length_map, arithK_gtr, condK_bool]
  by_cases h64 : 64 < l.length
  · have c : (l.length : Int) > 64 := by omega
    simp only [c, decide_true, if_true, if_pos h64]
    rfl
  · have c : ¬ (l.length : Int) > 64 := by omega
    have em : ∀ k : AV → Hp → Option AV, effK (some (.mp ([] : Hp).length, EN (.map []))) [] k = k (.mp 0) [.map []] := fun k => rfl
    simp only [c, decide_false, Bool.false_eq_true, if_false, if_neg h64, em]
    exact Check_L2 (X := fun r => some (tupP r)) rfl hl (fun h => rfl) (fun i e h => rfl) NN [] l [] [.map []] rfl (by have := NN_ge; omega) rfl
end Go.AM


namespace Go.AM
open Go.Proofs
set_option linter.unusedVariables false
set_option linter.unusedSimpArgs false
set_option linter.constructorNameAsVariable false
set_option maxRecDepth 20000
attribute [local congr] arithK_cg eqK_cg notK_cg convK_cg pickK_cg buildK_cg ldK_cg nilK_cg sliceK_cg faK_cg fldK_cg iaK_cg iaA_cg lookK_cg capK_cg exK_cg lenK_cg minK_cg maxK_cg effK_cg callK_cg callVK_cg effD_cg gopD_cg grpK_cg condK_cg cond_cg
abbrev enI (n : Int) : List AV := [I n]
section
variable {β : Type} {P : Program} {T : Tab} {D : DTab} {N : Nat} {K : AV → Hp → Option β}
theorem IndexFunc_int_L2 {x0 : Hp → Option β} {xr : AV → Hp → Option β} {l : List Int} {b : Bool} {fv : AV} {h : Hp} {p : Int → Bool} (hl : l.length < 4611686018427387904) (hp : ∀ x ∈ l, ∀ k : AV → Hp → Option β, callVK T fv [I x] h k = k (B (p x)) h) :
    ∀ (n i : Nat), i ≤ l.length → l.length < i + n → f_slices_IndexFunc_int_L2 P T D N x0 xr n (.lst 1 b (l.map enI)) fv (I l.length) (I i) h = match (l.drop i).findIdx? p with | some j => xr (I ((i + j : Nat) : Int)) h | none => x0 h := by
  intro n
  induction n with
  | zero => intro i h1 h2; omega
  | succ n ih =>
    intro i h1 h2
    show f_slices_IndexFunc_int_b2 P T D N (f_slices_IndexFunc_int_L2 P T D N x0 xr n) x0 xr _ _ _ _ h = _
    unfold f_slices_IndexFunc_int_b2
    rcases Nat.lt_or_ge i l.length with hi | hi
    · have hx : l[i]? = some l[i] := List.getElem?_eq_getElem hi
      have hlt : ((i : Int) < (l.length : Int)) := by omega
      have hw : IntKind.i64.wrap ((i : Int) + 1) = ((i + 1 : Nat) : Int) := by rw [wrap64 (by omega) (by omega)]; omega
      have hpx := hp l[i] (List.getElem_mem hi)
      rw [List.drop_eq_getElem_cons hi, List.findIdx?_cons]
      simp [hlt, hx, hw, enI] at hpx ⊢
      rw [hpx]
      cases hc : p l[i] with
      | true => simp
      | false =>
        have h3 := ih (i + 1) hi (by omega)
        rw [show ((i : Int) + 1) = ((i + 1 : Nat) : Int) by omega]
        simp only [Bool.false_eq_true, if_false]
        refine h3.trans ?_
        cases (List.drop (i + 1) l).findIdx? p with
        | none => rfl
        | some j =>
          show xr (I ((i + 1 + j : Nat) : Int)) h = xr (I ((i + (j + 1) : Nat) : Int)) h
          rw [show i + 1 + j = i + (j + 1) by omega]
    · have : i = l.length := by omega
      subst this
      simp
theorem IndexFunc_int_K {l : List Int} {b : Bool} {fv : AV} {h : Hp} {p : Int → Bool} {K : AV → Hp → Option β} (hl : l.length < N) (hN : N < 4611686018427387904) (hp : ∀ x ∈ l, ∀ k : AV → Hp → Option β, callVK T fv [I x] h k = k (B (p x)) h) :
    f_slices_IndexFunc_int P T D N K (.lst 1 b (l.map enI)) fv h = K (I (match l.findIdx? p with | some j => (j : Int) | none => -1)) h := by
  unfold f_slices_IndexFunc_int
  simp only [lenK_lst, List.length_map]
  have := IndexFunc_int_L2 (P := P) (D := D) (N := N) (b := b) (x0 := fun h => f_slices_IndexFunc_int_j1 P T D N K h) (xr := fun a h => K a h) (by omega) hp N 0 (Nat.zero_le _) (by omega)
  simp only [List.drop_zero] at this
  refine this.trans ?_
  cases l.findIdx? p with
  | none => rfl
  | some j => simp
end
def outL (l : List Envl) (i : Int) : Bool := decide (i < 0) || decide (i ≥ (l.length : Int))
def askS (l : List Envl) (sch : List Int) : Int := if (chkS l).2 ≠ 0 then 1 else if 256 < sch.length then 8 else if sch.any (outL l) = true then 2 else 0
theorem asked1_at {l : List Envl} {b : Bool} {i : Int} {h : Hp} (h0 : h[0]? = some (.arr 1 [[.lst 10 b (l.map encV)]] true false)) : F_network_asked_1 [I i, .ptr 0 0 0 1] h = some (B (outL l i), h) := by
  refine F_network_asked_1_q (g := []) ?_ rfl
  rw [List.append_nil]
  have ld : ∀ k : Go.AM.K (AV × Hp), ldK 1 false (.ptr 0 0 0 1) h k = k (.lst 10 b (l.map encV)) := fun k => by rw [ldK_ptr, h0]; rfl
  simp -implicitDefEqProofs only [f_network_asked_1, arithK_lss, ld, lenK_lst, List.length_map, arithK_geq, grpK_or]
  rfl
theorem F_network_asked_val (l : List Envl) (b : Bool) (sch : List Int) (b2 : Bool) (hl : l.length < 1000000) (hs : sch.length < 1000000) (h : Hp) : F_network_asked [.lst 10 b (l.map encV), .lst 1 b2 (sch.map enI)] h = some (I (askS l sch), h) := by
  refine F_network_asked_run (a0 := .lst 10 b (l.map encV)) (a1 := .lst 1 b2 (sch.map enI)) rfl ?_ h
  simp only [nrm, nrmC]
  have fc := F_network_Check_val l b hl
  obtain ⟨H, hH⟩ : ∃ H : Hp, H = [.arr 1 [[.lst 10 b (l.map encV)]] true false] := ⟨_, rfl⟩
  have h0 : H[0]? = some (.arr 1 [[.lst 10 b (l.map encV)]] true false) := by rw [hH]; rfl
  have bx : ∀ k : AV → Hp → Option AV, effK (boxE 1 (.lst 10 b (l.map encV)) ([] : Hp).length) [] k = k (.ptr 0 0 0 1) H := fun k => by rw [hH]; rfl
  have ld : ∀ k : Go.AM.K AV, ldK 1 false (.ptr 0 0 0 1) H k = k (.lst 10 b (l.map encV)) := fun k => by rw [ldK_ptr, h0]; rfl
  have fi : F_slices_IndexFunc_int__network_asked_1 [.lst 1 b2 (sch.map enI), .fn 73 [.ptr 0 0 0 1]] H = some (I (match sch.findIdx? (outL l) with | some j => (j : Int) | none => -1), H) :=
    F_slices_IndexFunc_int__network_asked_1_q (g := []) (by
      rw [List.append_nil]
      refine IndexFunc_int_K (l := sch) (p := outL l) (by have := NN_ge; omega) NN_lt (fun x hx k => ?_)
      show callK (t_slices_IndexFunc_int__network_asked_1 73) [I x, .ptr 0 0 0 1] H k = _
      simp -implicitDefEqProofs only [t_slices_IndexFunc_int__network_asked_1_73, callK_F, asked1_at h0]) rfl
  have fC : F_slices_ContainsFunc_int__network_asked_1 [.lst 1 b2 (sch.map enI), .fn 73 [.ptr 0 0 0 1]] H = some (B (sch.any (outL l)), H) :=
    F_slices_ContainsFunc_int__network_asked_1_q (g := []) (by
      rw [List.append_nil]
      simp -implicitDefEqProofs only [f_slices_ContainsFunc_int, t_slices_ContainsFunc_int__network_asked_1_80, callK_F, fi, arithK_geq]
      have : sch.any (outL l) = (sch.findIdx? (outL l)).isSome := by rw [List.findIdx?_isSome]
      rw [this]
      cases sch.findIdx? (outL l) <;> simp) rfl
  have x0 : ∀ k : Go.AM.K AV, exK (tupP (chkS l)) 0 k = k (I (chkS l).1) := fun k => rfl
  have x1 : ∀ k : Go.AM.K AV, exK (tupP (chkS l)) 1 k = k (I (chkS l).2) := fun k => rfl
  simp -implicitDefEqProofs only [f_network_asked, bx, ld, t_network_asked_12, t_network_asked_72, callK_F, fc, x0, x1, eqK_int, Bool.true_xor, condK_bool, lenK_lst, List.length_map, arithK_gtr, fC]
  unfold askS
  by_cases q1 : (chkS l).2 = 0
  · by_cases q2 : 256 < sch.length
    · have c : (sch.length : Int) > 256 := by omega
      have c' : ¬ (sch.length : Int) ≤ 256 := by omega
      simp [q1, q2, c]
    · have c : ¬ (sch.length : Int) > 256 := by omega
      clear fC fi
      cases q3 : sch.any (outL l) with
      | true => simp [q1, q2, c] <;> omega
      | false => simp [q1, q2, c] <;> omega
  · simp [q1]
theorem askS_ok {l : List Envl} {sch : List Int} (h : askS l sch = 0) : (chkS l).2 = 0 ∧ l.length ≤ 64 ∧ sch.length ≤ 256 ∧ ∀ i ∈ sch, 0 ≤ i ∧ i < (l.length : Int) := by
  unfold askS at h
  split at h
  · simp at h
  · rename_i h1
    split at h
    · simp at h
    · rename_i h2
      split at h
      · simp at h
      · rename_i h3
        simp only [ne_eq, Decidable.not_not] at h1
        refine ⟨h1, ?_, by omega, fun i hi => ?_⟩
        · unfold chkS at h1
          split at h1
          · simp at h1
          · omega
        · have : outL l i = false := by
            cases q : outL l i with
            | false => rfl
            | true => exact absurd (List.any_eq_true.2 ⟨i, hi, q⟩) h3
          simp only [outL, Bool.or_eq_false_iff, decide_eq_false_iff_not] at this
          omega
theorem deliv_L2 {β : Type} {T : Tab} {D : DTab} {N : Nat} {x0 : Hp → Option β} {xr : Hp → Option β} {Y : Fun} {L p1 : Nat} {l : List Envl} {b : Bool} {sch : List Int} {b2 : Bool} {Inv : List Int → Hp → Prop} (hY : T YB = some Y) (hl : sch.length < 1000000) (hs : ∀ i ∈ sch, 0 ≤ i ∧ i < (l.length : Int))
    (hv : ∀ pre h, Inv pre h → h[p1]? = some (.arr 1 [[.lst 10 b (l.map encV)]] true false))
    (hr : ∀ (pre post : List Int) (s : Int) (e : Envl) h, sch = pre ++ s :: post → l[s.toNat]? = some e → Inv pre h → ∃ h', Y [ymark, .yl L, I s, .agg (encV e)] h = some (B true, h') ∧ Inv (pre ++ [s]) h') : ∀ (n : Nat) (pre post : List Int) (h : Hp), sch = pre ++ post → post.length < n → Inv pre h →
    ∃ h', f_network_deliveries_1_L2 Try.prog T D N x0 xr n (.yl L) (.ptr p1 0 0 1) (.lst 1 b2 (sch.map enI)) (I sch.length) (I pre.length) h = x0 h' ∧ Inv sch h' := by
  intro n
  induction n with
  | zero => intro pre post h _ h2; omega
  | succ n ih =>
    intro pre post h hc hn hI
    show ∃ h', f_network_deliveries_1_b2 Try.prog T D N (f_network_deliveries_1_L2 Try.prog T D N x0 xr n) x0 xr _ _ _ _ _ h = _ ∧ _
    cases post with
    | nil =>
      have : sch = pre := by simpa using hc
      subst this
      have c1 : ¬ ((sch.length : Int) < (sch.length : Int)) := by omega
      refine ⟨h, ?_, hI⟩
      simp -implicitDefEqProofs only [f_network_deliveries_1_b2, arithK_lss, c1, decide_false, condK_bool, Bool.false_eq_true, if_false]
    | cons s post =>
      have hi : pre.length < sch.length := by rw [hc]; simp
      have hx : sch[pre.length]? = some s := by rw [hc]; simp
      obtain ⟨s0, s1⟩ := hs s (by rw [hc]; simp)
      have hsl : s.toNat < l.length := by omega
      have he : l[s.toNat]? = some l[s.toNat] := List.getElem?_eq_getElem hsl
      generalize l[s.toNat] = e at he
      obtain ⟨h', y1, y2⟩ := hr pre post s e h hc he hI
      obtain ⟨h'', z1, z2⟩ := ih (pre ++ [s]) post h' (by simpa using hc) (by simpa using hn) y2
      refine ⟨h'', ?_, z2⟩
      rw [← z1]
      have hlt : ((pre.length : Int) < (sch.length : Int)) := by omega
      have hw : IntKind.i64.wrap ((pre.length : Int) + 1) = (((pre ++ [s]).length : Nat) : Int) := by rw [wrap64 (by omega) (by omega)]; simp
      have ic : ∀ k : Go.AM.K β, iaK 1 (.lst 1 b2 (sch.map enI)) (I pre.length) k = k (.ep (enI s) 0) := fun k => iaK_at pre.length rfl hx k
      have ld : ∀ k : Go.AM.K β, ldK 1 false (.ep (enI s) 0) h k = k (I s) := fun k => rfl
      have ll : ∀ k : Go.AM.K β, ldK 1 false (.ptr p1 0 0 1) h k = k (.lst 10 b (l.map encV)) := fun k => by rw [ldK_ptr, hv pre h hI]; rfl
      have ie : ∀ k : Go.AM.K β, iaK 10 (.lst 10 b (l.map encV)) (I s) k = k (.ep (encV e) 0) := fun k => iaK_at s.toNat (by omega) he k
      have le : ∀ k : Go.AM.K β, ldK 10 true (.ep (encV e) 0) h k = k (.agg (encV e)) := fun k => rfl
      have cy : ∀ k : AV → Hp → Option β, callVK T (.yl L) [I s, .agg (encV e)] h k = k (B true) h' := fun k => by
        show callK (T YB) (ymark :: .yl L :: [I s, .agg (encV e)]) h k = _
        rw [hY, callK_F, y1]
      simp -implicitDefEqProofs only [f_network_deliveries_1_b2, arithK_lss, hlt, decide_true, condK_bool, if_true, ic, ld, ll, ie, le, cy, notK_bool, Bool.not_true, Bool.false_eq_true, if_false, arithK_add, hw]
end Go.AM


namespace Go.AM
open Go.Proofs
set_option linter.unusedVariables false
set_option linter.unusedSimpArgs false
set_option linter.constructorNameAsVariable false
set_option maxRecDepth 20000
attribute [local congr] arithK_cg eqK_cg notK_cg convK_cg pickK_cg buildK_cg ldK_cg nilK_cg sliceK_cg faK_cg fldK_cg iaK_cg iaA_cg lookK_cg capK_cg exK_cg lenK_cg minK_cg maxK_cg effK_cg callK_cg callVK_cg effD_cg gopD_cg grpK_cg condK_cg cond_cg
def dlv (l : List Envl) (sch : List Int) : List Envl := sch.filterMap fun s => l[s.toNat]?
def toL (l : List Envl) (sch : List Int) (node : Int) : List Envl := (dlv l sch).filter fun e => e.to == node
theorem toL_snoc {l : List Envl} {pre : List Int} {s node : Int} {e : Envl} (h : l[s.toNat]? = some e) : toL l (pre ++ [s]) node = if e.to = node then toL l pre node ++ [e] else toL l pre node := by
  unfold toL dlv
  rw [List.filterMap_append, List.filter_append]
  by_cases q : e.to = node <;> simp [h, q]
theorem toL_len (l : List Envl) (sch : List Int) (node : Int) : (toL l sch node).length ≤ sch.length := Nat.le_trans (List.length_filter_le _ _) (List.length_filterMap_le _ _)
theorem set_appN {h : Hp} {g : List AObj} {id : Nat} {x o : AObj} (hid : h[id]? = some x) : (h ++ g).set id o = h.set id o ++ g := by
  rw [List.set_append_left _ _ (List.getElem?_eq_some_iff.1 hid).1]
theorem beginN {β : Type} {h : Hp} {g : List AObj} {L m : Nat} {ps : Array Tmp} {asg body : Code} {ts : Tm} {pend : Option Code} (hL : h[L]? = some (.loop m ps asg body ts .ready pend)) (k : Hp → Option β) :
    beginX L m ps asg body ts (h ++ g) k = k (h.set L (.loop m ps asg body ts .busy pend) ++ g) := by
  unfold beginX
  rw [get_app hL]
  simp only
  rw [set_appN hL]
theorem getSetN {h : Hp} {i j : Nat} {x o : AObj} (hj : h[j]? = some x) (hij : i ≠ j) : (h.set i o)[j]? = some x := by rw [List.getElem?_set_ne hij]; exact hj
theorem getSelfN {h : Hp} {i : Nat} {x o : AObj} (hi : h[i]? = some x) : (h.set i o)[i]? = some o := List.getElem?_set_self (List.getElem?_eq_some_iff.1 hi).1
noncomputable abbrev loopT (st : LoopState) (pd : Option Code) : AObj := .loop lpm_network_to_0 lpp_network_to_0 lpa_network_to_0 lpb_network_to_0 (envT [(5, .ptr 0 0 0 1), (9, .ptr 1 0 0 1)]) st pd
structure InvT (l : List Envl) (b : Bool) (sch : List Int) (b2 : Bool) (node : Int) (pre : List Int) (h : Hp) : Prop where
  l0 : h[0]? = some (.arr 1 [[I node]] true false)
  l1 : ∃ v, h[1]? = some (.arr 1 [[v]] true false) ∧ Gro 10 encV h v (toL l pre node) ∧ (∀ k, idOf v = some k → 5 ≤ k) ∧ okC v = true
  l2 : h[2]? = some (.arr 1 [[.lst 10 b (l.map encV)]] true false)
  l3 : h[3]? = some (.arr 1 [[.lst 1 b2 (sch.map enI)]] true false)
  l4 : h[4]? = some (loopT .ready none)
theorem to_round {l : List Envl} {b b2 : Bool} {sch pre post : List Int} {node s : Int} {e : Envl} {h : Hp} (hc : sch = pre ++ s :: post) (hl : sch.length < 100000) (he : l[s.toNat]? = some e) (hI : InvT l b sch b2 node pre h) :
    ∃ h', Y_network_to [ymark, .yl 4, I s, .agg (encV e)] h = some (B true, h') ∧ InvT l b sch b2 node (pre ++ [s]) h' := by
  obtain ⟨h0, ⟨v, h1, h1a, h1b, h1c⟩, h2, h3, h4⟩ := hI
  rw [Y_network_to_R0 h4]
  have hpl : pre.length < sch.length := by rw [hc]; simp
  have hol := toL_len l pre node
  obtain ⟨x, hx⟩ : ∃ x, x = h.set 4 (loopT .busy none) ++ [AObj.arr 10 [encV e] true false] := ⟨_, rfl⟩
  have keep : ∀ j o', h[j]? = some o' → j ≠ 4 → x[j]? = some o' := fun j o' hj hn => by rw [hx]; exact get_app (getSetN hj (Ne.symm hn))
  have z0 := keep 0 _ h0 (by decide)
  have z1 := keep 1 _ h1 (by decide)
  have z2 := keep 2 _ h2 (by decide)
  have z3 := keep 3 _ h3 (by decide)
  have z4 : x[4]? = some (loopT .busy none) := by rw [hx]; exact get_app (getSelfN h4)
  have hsl : (h.set 4 (loopT .busy none)).length = h.length := by simp
  have zb : x[h.length]? = some (.arr 10 [encV e] true false) := by rw [hx, ← hsl, get_new0]; rfl
  have zG : Gro 10 encV x v (toL l pre node) := h1a.keep fun k o' hk hko => keep k o' hko (by have := h1b k hk; omega)
  have hxl : x.length = h.length + 1 := by rw [hx]; simp
  have hb : ∀ k : Hp → Option (AV × Hp), beginX 4 lpm_network_to_0 lpp_network_to_0 lpa_network_to_0 lpb_network_to_0 (envT [(5, .ptr 0 0 0 1), (9, .ptr 1 0 0 1)]) (h ++ [.arr 10 [encV e] true false]) k = k x := fun k => by rw [hx]; exact beginN h4 k
  have e1 : ∀ k : Go.AM.K (AV × Hp), ldK 1 false (.ptr h.length 0 1 1) x k = k (I e.to) := fun k => by rw [ldK_ptr, zb]; rfl
  have e0 : ∀ k : Go.AM.K (AV × Hp), ldK 1 false (.ptr 0 0 0 1) x k = k (I node) := fun k => by rw [ldK_ptr, z0]; rfl
  have ev : ∀ k : Go.AM.K (AV × Hp), ldK 1 false (.ptr 1 0 0 1) x k = k v := fun k => by rw [ldK_ptr, z1]; rfl
  have ew : ∀ k : Go.AM.K (AV × Hp), ldK 10 true (.ptr h.length 0 0 1) x k = k (.agg (encV e)) := fun k => by rw [ldK_ptr, zb]; rfl
  have h5 : 4 < h.length := (List.getElem?_eq_some_iff.1 h4).1
  simp -implicitDefEqProofs only [f_network_to_R0, nbx, nst, hb, faK_ptr, Nat.zero_add, e1, e0, eqK_int, Bool.false_xor, condK_bool]
  by_cases q : e.to = node
  · have qb : (e.to == node) = true := by simpa using q
    have bs : ∀ k : AV → Hp → Option (AV × Hp), effK (bsE 10 zE 1 [(0, .agg (encV e))] x.length) x k = k (.sl 10 x.length 0 1 1 true) (x ++ [.arr 10 [encV e] true false]) := fun k => by simp [bsE, fillS, encV, effK, ap]
    obtain ⟨v', h', q1, q2, q3, q4, q5⟩ := Gro.snoc (AV × Hp) (zG.app [.arr 10 [encV e] true false]) (by_ := 80) (m := x.length) (z := e) (b := true) (by rw [get_new0]; rfl) (fun hk => by have := zG.lt hk; omega) (fun x _ => rfl) (by omega)
    have r : ∀ j o', x[j]? = some o' → j < 5 → h'[j]? = some o' := fun j o' hj h7 => q4 j o' (get_app hj) (fun hk => by have := h1b j hk; omega)
    have r1 := r 1 _ z1 (by decide)
    have hv5 : ∀ k, idOf v' = some k → 5 ≤ k := fun k hk => by
      rcases q5 with e | e
      · exact h1b k (e ▸ hk)
      · rw [e] at hk; simp at hk; omega
    have q2' := q2
    rcases q2 with ⟨hn, -⟩ | ⟨-, kk, rfl, -⟩
    · simp at hn
    obtain ⟨nn, hnn⟩ : ∃ nn, nn = (toL l pre node ++ [e]).length := ⟨_, rfl⟩
    rw [← hnn] at q2' hv5 q1
    have st : ∀ k : AV → Hp → Option (AV × Hp), effK (stE 1 (.ptr 1 0 0 1) (.sl 10 kk 0 nn nn false) h') h' k = k .u (h'.set 1 (.arr 1 [[.sl 10 kk 0 nn nn false]] true false)) := fun k => effK_putg (v := .u) (ft := [1]) (by rw [stE_ptr, r1]; rfl) k
    have hs : ∀ j o', h'[j]? = some o' → j ≠ 1 → j ≠ 4 → ((h'.set 1 (.arr 1 [[.sl 10 kk 0 nn nn false]] true false)).set 4 (loopT .ready none))[j]? = some o' := fun j o' hj h3 h6 => getSetN (getSetN hj (Ne.symm h3)) (Ne.symm h6)
    refine ⟨(h'.set 1 (.arr 1 [[.sl 10 kk 0 nn nn false]] true false)).set 4 (loopT .ready none), ?_, hs 0 _ (r 0 _ z0 (by decide)) (by decide) (by decide), ⟨.sl 10 kk 0 nn nn false, getSetN (getSelfN r1) (by decide), ?_, hv5, rfl⟩, hs 2 _ (r 2 _ z2 (by decide)) (by decide) (by decide), hs 3 _ (r 3 _ z3 (by decide)) (by decide) (by decide), getSelfN (getSetN (r 4 _ z4 (by decide)) (by decide))⟩
    · simp -implicitDefEqProofs only [qb, if_true, ev, ew, bs, q1, st, f_network_to_j2]
    · rw [toL_snoc he, if_pos q]
      exact q2'.keep fun k o' hk hko => hs k o' hko (by have := hv5 k hk; omega) (by have := hv5 k hk; omega)
  · have qb : (e.to == node) = false := by simpa using q
    have hs : ∀ j o', x[j]? = some o' → j ≠ 4 → (x.set 4 (loopT .ready none))[j]? = some o' := fun j o' hj h6 => getSetN hj (Ne.symm h6)
    refine ⟨x.set 4 (loopT .ready none), ?_, hs 0 _ z0 (by decide), ⟨v, hs 1 _ z1 (by decide), ?_, h1b, h1c⟩, hs 2 _ z2 (by decide), hs 3 _ z3 (by decide), getSelfN z4⟩
    · simp -implicitDefEqProofs only [qb, Bool.false_eq_true, if_false, f_network_to_j2]
    · rw [toL_snoc he, if_neg q]
      exact zG.keep fun k o' hk hko => hs k o' hko (by have := h1b k hk; omega)
end Go.AM


namespace Go.AM
open Go.Proofs
set_option linter.unusedVariables false
set_option linter.unusedSimpArgs false
set_option linter.constructorNameAsVariable false
set_option maxRecDepth 20000
attribute [local congr] arithK_cg eqK_cg notK_cg convK_cg pickK_cg buildK_cg ldK_cg nilK_cg sliceK_cg faK_cg fldK_cg iaK_cg iaA_cg lookK_cg capK_cg exK_cg lenK_cg minK_cg maxK_cg effK_cg callK_cg callVK_cg effD_cg gopD_cg grpK_cg condK_cg cond_cg
theorem rangeX_ok {β : Type} {T : Tab} {F : Fun} {f : FuncId} {caps : List AV} {h h' : Hp} {m : Nat} {ps : Array Tmp} {asg body : Code} {ts : Tm} {v : AV} {pend : Option Code} {k : Option Code → Hp → Option β} (hT : T f = some F) (hF : F (.yl h.length :: caps) (h ++ [.loop m ps asg body ts .ready none]) = some (v, h')) (hl : h'[h.length]? = some (.loop m ps asg body ts .ready pend)) :
    rangeX T (.fn f caps) m ps asg body ts h k = k pend (h'.set h.length (.loop m ps asg body ts .exhausted pend)) := by
  unfold rangeX
  simp only [hT, callK_F, hF, hl]
theorem deliveries_raw {l : List Envl} {b : Bool} {sch : List Int} {b2 : Bool} {h : Hp} : F_network_deliveries [.lst 10 b (l.map encV), .lst 1 b2 (sch.map enI)] h = some (.fn 78 [.ptr (h.length + 1) 0 0 1, .ptr h.length 0 0 1], h ++ [.arr 1 [[.lst 10 b (l.map encV)]] true false, .arr 1 [[.lst 1 b2 (sch.map enI)]] true false]) := by
  rw [F_network_deliveries_raw]
  have b1 : ∀ (v : AV) (h : Hp) (k : AV → Hp → Option (AV × Hp)), cellsOf v = [v] → okC v = true → effK (boxE 1 v h.length) h k = k (.ptr h.length 0 0 1) (h ++ [.arr 1 [[v]] true false]) := fun v h k e1 e2 => by
    have := effK_box 1 h.length v h k rfl (by rw [e1]; rfl) (by rw [e1]; simp only [List.all_cons, List.all_nil, e2, Bool.and_self])
    rw [this, e1]
  unfold f_network_deliveries
  rw [b1 _ _ _ rfl rfl, b1 _ _ _ rfl rfl]
  simp
def toS (l : List Envl) (sch : List Int) (node : Int) : List Envl × Int := if askS l sch ≠ 0 then ([], askS l sch) else if isNode node = false then ([], 2) else (toL l sch node, 0)
def dlvV (l : List Envl) (sch : List Int) (node : Int) : AV := .tup [.lst 10 (toS l sch node).1.isEmpty ((toS l sch node).1.map encV), I (toS l sch node).2]
theorem to_run {l : List Envl} {b : Bool} {sch : List Int} {b2 : Bool} {node : Int} (hl : l.length < 1000000) (hs : sch.length < 1000000) : ∃ w, (∀ st, f_network_to Try.prog t_network_to d_network_to NN (fun v g => cvt st g v) (.lst 10 b (l.map encV)) (.lst 1 b2 (sch.map enI)) (I node) [] = some (.tup [w, I (toS l sch node).2])) ∧ nrm (.l 10) w = .lst 10 (toS l sch node).1.isEmpty ((toS l sch node).1.map encV) := by
  have fa := F_network_asked_val l b sch b2 hl hs
  have bx : ∀ k : AV → Hp → Option AV, effK (boxE 1 (I node) ([] : Hp).length) [] k = k (.ptr 0 0 0 1) [.arr 1 [[I node]] true false] := fun k => rfl
  have ld : ∀ k : Go.AM.K AV, ldK 1 false (.ptr 0 0 0 1) [.arr 1 [[I node]] true false] k = k (I node) := fun k => rfl
  have hnode : (decide (node < 1) || decide (node > 99)) = !isNode node := by
    unfold isNode
    by_cases h1 : node < 1
    · have h2 : ¬ 1 ≤ node := by omega
      simp [h1, h2]
    · have h2 : 1 ≤ node := by omega
      by_cases h3 : node > 99
      · have h4 : ¬ node ≤ 99 := by omega
        simp [h1, h2, h3, h4]
      · have h4 : node ≤ 99 := by omega
        simp [h1, h2, h3, h4]
  simp -implicitDefEqProofs only [f_network_to, bx, t_network_to_53, callK_F, fa, eqK_int, Bool.true_xor, condK_bool, ld, arithK_lss, arithK_gtr, grpK_or, hnode]
  by_cases q : askS l sch = 0
  · have e1 : (askS l sch == 0) = true := by simpa using q
    obtain ⟨-, k1, k2, k3⟩ := askS_ok q
    simp only [e1, Bool.not_true, Bool.false_eq_true, if_false]
    have hS : toS l sch node = if isNode node = false then ([], 2) else (toL l sch node, 0) := if_neg (by simp [q])
    cases hn : isNode node with
    | false =>
      have hS2 : toS l sch node = ([], 2) := by rw [hS, hn]; rfl
      rw [hS2]
      exact ⟨nilS, fun st => rfl, rfl⟩
    | true =>
      have hS2 : toS l sch node = (toL l sch node, 0) := by rw [hS, hn]; rfl
      rw [hS2]
      have b1 : ∀ k : AV → Hp → Option AV, effK (boxE 1 nilS ([.arr 1 [[I node]] true false] : Hp).length) [.arr 1 [[I node]] true false] k = k (.ptr 1 0 0 1) [.arr 1 [[I node]] true false, .arr 1 [[nilS]] true false] := fun k => rfl
      have fd := deliveries_raw (l := l) (b := b) (sch := sch) (b2 := b2) (h := [.arr 1 [[I node]] true false, .arr 1 [[nilS]] true false])
      have I0 : InvT l b sch b2 node [] [.arr 1 [[I node]] true false, .arr 1 [[nilS]] true false, .arr 1 [[.lst 10 b (l.map encV)]] true false, .arr 1 [[.lst 1 b2 (sch.map enI)]] true false, loopT .ready none] :=
        ⟨rfl, ⟨nilS, rfl, .nil, by simp, rfl⟩, rfl, rfl, rfl⟩
      obtain ⟨h', d1, d2⟩ := deliv_L2 (T := t_network_deliveries_1__network_to) (D := D0) (N := NN) (x0 := fun h => f_network_deliveries_1_j1 Try.prog t_network_deliveries_1__network_to D0 NN (fun v h => some (v, h)) h) (xr := fun h => some (.tup [], h)) (L := 4) (p1 := 2) (b2 := b2) (Inv := InvT l b sch b2 node) t_network_deliveries_1__network_to_Y hs k3 (fun pre h I => I.l2)
        (fun pre post s e h hc he I => to_round hc (by omega) he I) NN [] sch _ rfl (by have := NN_ge; omega) I0
      have hF : F_network_deliveries_1__network_to [.yl 4, .ptr 3 0 0 1, .ptr 2 0 0 1] [.arr 1 [[I node]] true false, .arr 1 [[nilS]] true false, .arr 1 [[.lst 10 b (l.map encV)]] true false, .arr 1 [[.lst 1 b2 (sch.map enI)]] true false, loopT .ready none] = some (.tup [], h') := by
        rw [F_network_deliveries_1__network_to_raw]
        have ls : ∀ k : Go.AM.K (AV × Hp), ldK 1 false (.ptr 3 0 0 1) [.arr 1 [[I node]] true false, .arr 1 [[nilS]] true false, .arr 1 [[.lst 10 b (l.map encV)]] true false, .arr 1 [[.lst 1 b2 (sch.map enI)]] true false, loopT .ready none] k = k (.lst 1 b2 (sch.map enI)) := fun k => rfl
        unfold f_network_deliveries_1
        rw [ls, lenK_lst, List.length_map]
        exact d1
      obtain ⟨-, ⟨v, g1, g2, g3, g4⟩, -, -, g5⟩ := d2
      have hcv := (g2.keep (h' := h'.set 4 (loopT .exhausted none)) fun k o' hk hko => getSetN hko (by have := g3 k hk; omega)).cvts (fun x st => by cases st <;> simp [encV, isS])
      obtain ⟨w, w1, w2⟩ := hcv
      refine ⟨w, fun st => ?_, w2⟩
      have gv : ∀ k : Go.AM.K AV, ldK 1 false (.ptr 1 0 0 1) (h'.set 4 (loopT .exhausted none)) k = k v := fun k => by rw [ldK_ptr, getSetN g1 (by decide)]; rfl
      simp -implicitDefEqProofs only [Bool.not_true, Bool.false_eq_true, if_false, b1, t_network_to_69, callK_F, fd]
      refine (rangeX_ok (h := [.arr 1 [[I node]] true false, .arr 1 [[nilS]] true false, .arr 1 [[.lst 10 b (l.map encV)]] true false, .arr 1 [[.lst 1 b2 (sch.map enI)]] true false]) t_network_to_78 hF g5).trans ?_
      show f_network_to_j1 Try.prog t_network_to d_network_to NN (fun v g => cvt st g v) (.ptr 1 0 0 1) (h'.set 4 (loopT .exhausted none)) = _
      simp -implicitDefEqProofs only [f_network_to_j1, gv]
      simp only [cvt_tup, cvts_cons, cvts_nil, w1, cvt_s]
      rfl
  · have e1 : (askS l sch == 0) = false := by simpa using q
    have hS2 : toS l sch node = ([], askS l sch) := if_pos q
    rw [hS2]
    refine ⟨nilS, fun st => ?_, rfl⟩
    simp only [e1, Bool.not_false, if_true]
    rfl
theorem F_network_to_val (l : List Envl) (b : Bool) (sch : List Int) (b2 : Bool) (node : Int) (hl : l.length < 1000000) (hs : sch.length < 1000000) (h : Hp) : F_network_to [.lst 10 b (l.map encV), .lst 1 b2 (sch.map enI), I node] h = some (dlvV l sch node, h) := by
  obtain ⟨w, w1, w2⟩ := to_run (l := l) (b := b) (sch := sch) (b2 := b2) (node := node) hl hs
  refine (F_network_to_run (a0 := .lst 10 b (l.map encV)) (a1 := .lst 1 b2 (sch.map enI)) (a2 := I node) rfl (w1 false) h).trans ?_
  show some (AV.tup [nrm (.l 10) w, I (toS l sch node).2], h) = _
  rw [w2]; rfl
theorem F_network_to_at (l : List Envl) (b : Bool) (sch : List Int) {b2 : Bool} (node : Int) (hl : l.length < 1000000) (hs : sch.length < 1000000) {h : Hp} {v a : AV} (hv : cvt false h v = some a) (ha : nrm (.l 1) a = .lst 1 b2 (sch.map enI)) : F_network_to [.lst 10 b (l.map encV), v, I node] h = some (dlvV l sch node, h) := by
  obtain ⟨w, w1, w2⟩ := to_run (l := l) (b := b) (sch := sch) (b2 := b2) (node := node) hl hs
  refine (F_network_to_own (a0 := .lst 10 b (l.map encV)) (a1 := a) (a2 := I node) (by simp only [cvts_cons, cvts_nil, hv]; rfl) (fun st => by rw [ha]; exact w1 st)).trans ?_
  show some (AV.tup [nrm (.l 10) w, I (toS l sch node).2], h) = _
  rw [w2]; rfl
theorem F_network_Deliver_val (l : List Envl) (b : Bool) (sch : List Int) (b2 : Bool) (node : Int) (hl : l.length < 1000000) (hs : sch.length < 1000000) (h : Hp) : F_network_Deliver [.lst 10 b (l.map encV), .lst 1 b2 (sch.map enI), I node] h = some (dlvV l sch node, h) := by
  refine (F_network_Deliver_run (a0 := .lst 10 b (l.map encV)) (a1 := .lst 1 b2 (sch.map enI)) (a2 := I node) (v := dlvV l sch node) rfl ?_ h).trans rfl
  have ft := F_network_to_val l b sch b2 node hl hs
  simp only [nrm, nrmC]
  simp -implicitDefEqProofs only [f_network_Deliver, t_network_Deliver_49, callK_F, ft]
  rfl
end Go.AM


namespace Go.AM
open Go.Proofs
set_option linter.unusedVariables false
set_option linter.unusedSimpArgs false
set_option linter.constructorNameAsVariable false
set_option maxRecDepth 20000
attribute [local congr] arithK_cg eqK_cg notK_cg convK_cg pickK_cg buildK_cg ldK_cg nilK_cg sliceK_cg faK_cg fldK_cg iaK_cg iaA_cg lookK_cg capK_cg exK_cg lenK_cg minK_cg maxK_cg effK_cg callK_cg callVK_cg effD_cg gopD_cg grpK_cg condK_cg cond_cg
def kvI (c : List (Int × Int)) : List (Value × AV) := c.map fun e => (Value.int .i64 e.1, I e.2)
def hasK (c : List (Int × Int)) (n : Int) : Bool := c.any fun e => e.1 == n
section
variable {β : Type} {P : Program} {kt : TypeId}
theorem lookupI (hu : P.underlying kt = some (.int .i64)) (n : Int) : ∀ c : List (Int × Int), ∃ r : Option AV, lookupKV (kvI c) (keyEq P kt) (.int .i64 n) = some r ∧ r.isSome = hasK c n
  | [] => ⟨none, rfl, rfl⟩
  | e :: c => by
    obtain ⟨r, h1, h2⟩ := lookupI hu n c
    simp only [kvI, List.map_cons, lookupKV, keyEq_int hu] at h1 ⊢
    by_cases q : n = e.1
    · refine ⟨some (I e.2), by simp [q], ?_⟩
      simp [hasK, q]
    · refine ⟨r, ?_, ?_⟩
      · simp only [q, decide_false]; exact h1
      · rw [h2]
        have : (e.1 == n) = false := by simpa using (fun h : e.1 = n => q h.symm)
        simp [hasK, this]
theorem lookI {h : Hp} {id : Nat} {c : List (Int × Int)} {z : AV} {n : Int} (hu : P.underlying kt = some (.int .i64)) (hid : h[id]? = some (.map (kvI c))) : ∃ v : AV, ∀ {β : Type} (k : K β), lookK P kt z true (.mp id) (I n) h k = k (.tup [v, B (hasK c n)]) := by
  obtain ⟨r, h1, h2⟩ := lookupI hu n c
  have e : toV (I n) = some (.int .i64 n) := rfl
  cases r with
  | none =>
    refine ⟨z, fun k => ?_⟩
    unfold lookK
    simp only [e, hid, keyOk_int hu, h1, if_true]
    rw [← h2]; rfl
  | some v =>
    refine ⟨v, fun k => ?_⟩
    unfold lookK
    simp only [e, hid, keyOk_int hu, h1, if_true]
    rw [← h2]; rfl
theorem updateI (hu : P.underlying kt = some (.int .i64)) (n v : Int) : ∀ c : List (Int × Int), hasK c n = false → updateKV (kvI c) (keyEq P kt) (.int .i64 n) (I v) = some (kvI (c ++ [(n, v)]))
  | [], _ => rfl
  | e :: c, h => by
    simp only [hasK, List.any_cons, Bool.or_eq_false_iff, beq_eq_false_iff_ne] at h
    have ih := updateI hu n v c h.2
    simp only [kvI, List.map_cons, List.cons_append, updateKV, keyEq_int hu] at ih ⊢
    have q : ¬ n = e.1 := fun q => h.1 q.symm
    simp [q, ih]
theorem mupI {h : Hp} {id : Nat} {c : List (Int × Int)} {n v : Int} (hu : P.underlying kt = some (.int .i64)) (hid : h[id]? = some (.map (kvI c))) (hc : hasK c n = false) : mupE P kt (.mp id) (I n) (I v) h = some (.u, ⟨[(id, .map (kvI (c ++ [(n, v)])))], [], [id]⟩) := by
  unfold mupE
  have e : toV (I n) = some (.int .i64 n) := rfl
  simp only [e, hid, keyOk_int hu, updateI hu n v c hc, if_true]
end
def fstP : List (Int × Int) → Nat → List Int → List (Int × Int)
  | c, _, [] => c
  | c, n, s :: r => if hasK c s = true then fstP c (n + 1) r else fstP (c ++ [(s, (n : Int))]) (n + 1) r
theorem fstP_snoc : ∀ (pre : List Int) (c : List (Int × Int)) (n : Nat) (s : Int), fstP c n (pre ++ [s]) = if hasK (fstP c n pre) s = true then fstP c n pre else fstP c n pre ++ [(s, ((n + pre.length : Nat) : Int))]
  | [], c, n, s => by
    show fstP c n [s] = if hasK c s = true then c else c ++ [(s, ((n + 0 : Nat) : Int))]
    rw [fstP]
    rfl
  | p :: pre, c, n, s => by
    have e : ((n + 1 + pre.length : Nat) : Int) = ((n + (p :: pre).length : Nat) : Int) := by simp; omega
    simp only [List.cons_append, fstP]
    split
    · rw [fstP_snoc pre, e]
    · rw [fstP_snoc pre, e]
abbrev fstS (sch : List Int) : List (Int × Int) := fstP [] 0 sch
noncomputable abbrev loopF (st : LoopState) (pd : Option Code) : AObj := .loop lpm_network_firsts_0 lpp_network_firsts_0 lpa_network_firsts_0 lpb_network_firsts_0 (envT [(5, .ptr 1 0 0 1), (6, .ptr 2 0 0 1)]) st pd
structure InvF (l : List Envl) (b : Bool) (pre : List Int) (h : Hp) : Prop where
  l0 : h[0]? = some (.map (kvI (fstS pre)))
  l1 : h[1]? = some (.arr 1 [[.mp 0]] true false)
  l2 : h[2]? = some (.arr 1 [[I pre.length]] true false)
  l3 : h[3]? = some (.arr 1 [[.lst 10 b (l.map encV)]] true false)
  l5 : h[5]? = some (loopF .ready none)
theorem first_round {l : List Envl} {b : Bool} {sch pre post : List Int} {s : Int} {e : Envl} {h : Hp} (hc : sch = pre ++ s :: post) (hl : sch.length < 100000) (hI : InvF l b pre h) :
    ∃ h', Y_network_firsts [ymark, .yl 5, I s, .agg (encV e)] h = some (B true, h') ∧ InvF l b (pre ++ [s]) h' := by
  obtain ⟨h0, h1, h2, h3, h5⟩ := hI
  rw [Y_network_firsts_R0 h5]
  have hpl : pre.length < sch.length := by rw [hc]; simp
  obtain ⟨x, hx⟩ : ∃ x, x = h.set 5 (loopF .busy none) := ⟨_, rfl⟩
  have keep : ∀ j o', h[j]? = some o' → j ≠ 5 → x[j]? = some o' := fun j o' hj hn => by rw [hx]; exact getSetN hj (Ne.symm hn)
  have z0 := keep 0 _ h0 (by decide)
  have z1 := keep 1 _ h1 (by decide)
  have z2 := keep 2 _ h2 (by decide)
  have z3 := keep 3 _ h3 (by decide)
  have z5 : x[5]? = some (loopF .busy none) := by rw [hx]; exact getSelfN h5
  have hb : ∀ k : Hp → Option (AV × Hp), beginX 5 lpm_network_firsts_0 lpp_network_firsts_0 lpa_network_firsts_0 lpb_network_firsts_0 (envT [(5, .ptr 1 0 0 1), (6, .ptr 2 0 0 1)]) h k = k x := fun k => by
    rw [hx]
    unfold beginX
    rw [h5]
  have e1 : ∀ k : Go.AM.K (AV × Hp), ldK 1 false (.ptr 1 0 0 1) x k = k (.mp 0) := fun k => by rw [ldK_ptr, z1]; rfl
  have e2 : ∀ k : Go.AM.K (AV × Hp), ldK 1 false (.ptr 2 0 0 1) x k = k (I pre.length) := fun k => by rw [ldK_ptr, z2]; rfl
  obtain ⟨lv, lk⟩ := lookI (z := .s (.int .i64 0)) (n := s) Try.underlying3 z0
  have hw : IntKind.i64.wrap ((pre.length : Int) + 1) = (((pre ++ [s]).length : Nat) : Int) := by rw [wrap64 (by omega) (by omega)]; simp
  have x0 : ∀ k : Go.AM.K (AV × Hp), exK (.tup [lv, B (hasK (fstS pre) s)]) 0 k = k lv := fun k => rfl
  have x1 : ∀ k : Go.AM.K (AV × Hp), exK (.tup [lv, B (hasK (fstS pre) s)]) 1 k = k (B (hasK (fstS pre) s)) := fun k => rfl
  have hsn : fstS (pre ++ [s]) = if hasK (fstS pre) s = true then fstS pre else fstS pre ++ [(s, (pre.length : Int))] := by rw [fstS, fstP_snoc]; simp
  have st2 : ∀ (y : Hp) (hy : y[2]? = some (.arr 1 [[I pre.length]] true false)) (k : AV → Hp → Option (AV × Hp)), effK (stE 1 (.ptr 2 0 0 1) (I (((pre ++ [s]).length : Nat) : Int)) y) y k = k .u (y.set 2 (.arr 1 [[I (((pre ++ [s]).length : Nat) : Int)]] true false)) := fun y hy k => effK_putg (v := .u) (ft := [2]) (by rw [stE_ptr, hy]; rfl) k
  have ld2 : ∀ (y : Hp) (hy : y[2]? = some (.arr 1 [[I pre.length]] true false)) (k : Go.AM.K (AV × Hp)), ldK 1 false (.ptr 2 0 0 1) y k = k (I pre.length) := fun y hy k => by rw [ldK_ptr, hy]; rfl
  cases hk : hasK (fstS pre) s with
  | true =>
    rw [hk] at lk x0 x1
    have st2x := st2 x z2
    have hs : ∀ j o', x[j]? = some o' → j ≠ 2 → j ≠ 5 → ((x.set 2 (.arr 1 [[I (((pre ++ [s]).length : Nat) : Int)]] true false)).set 5 (loopF .ready none))[j]? = some o' := fun j o' hj h3 h6 => getSetN (getSetN hj (Ne.symm h3)) (Ne.symm h6)
    refine ⟨(x.set 2 (.arr 1 [[I (((pre ++ [s]).length : Nat) : Int)]] true false)).set 5 (loopF .ready none), ?_, ?_, hs 1 _ z1 (by decide) (by decide), getSetN (getSelfN z2) (by decide), hs 3 _ z3 (by decide) (by decide), getSelfN (getSetN z5 (by decide))⟩
    · simp -implicitDefEqProofs only [f_network_firsts_R0, hb, e1, lk, x0, x1, notK_bool, Bool.not_true, condK_bool, Bool.false_eq_true, if_false, f_network_firsts_j2, e2, arithK_add, hw, st2x]
    · rw [hsn, if_pos hk]
      exact hs 0 _ z0 (by decide) (by decide)
  | false =>
    rw [hk] at lk x0 x1
    obtain ⟨y, hy⟩ : ∃ y, y = x.set 0 (.map (kvI (fstS pre ++ [(s, (pre.length : Int))]))) := ⟨_, rfl⟩
    have mu : ∀ k : AV → Hp → Option (AV × Hp), effK (mupE Try.prog 3 (.mp 0) (I s) (I pre.length) x) x k = k .u y := fun k => by
      rw [hy]
      exact effK_putg (mupI (v := (pre.length : Int)) Try.underlying3 z0 hk) k
    have y2 : y[2]? = some (.arr 1 [[I pre.length]] true false) := by rw [hy]; exact getSetN z2 (by decide)
    have hs : ∀ j o', y[j]? = some o' → j ≠ 2 → j ≠ 5 → ((y.set 2 (.arr 1 [[I (((pre ++ [s]).length : Nat) : Int)]] true false)).set 5 (loopF .ready none))[j]? = some o' := fun j o' hj h3 h6 => getSetN (getSetN hj (Ne.symm h3)) (Ne.symm h6)
    have yk : ∀ j o', x[j]? = some o' → j ≠ 0 → y[j]? = some o' := fun j o' hj hn => by rw [hy]; exact getSetN hj (Ne.symm hn)
    have st2y := st2 y y2
    have ld2y := ld2 y y2
    refine ⟨(y.set 2 (.arr 1 [[I (((pre ++ [s]).length : Nat) : Int)]] true false)).set 5 (loopF .ready none), ?_, ?_, hs 1 _ (yk 1 _ z1 (by decide)) (by decide) (by decide), getSetN (getSelfN y2) (by decide), hs 3 _ (yk 3 _ z3 (by decide)) (by decide) (by decide), getSelfN (getSetN (yk 5 _ z5 (by decide)) (by decide))⟩
    · simp -implicitDefEqProofs only [f_network_firsts_R0, hb, e1, lk, x0, x1, notK_bool, Bool.not_false, condK_bool, if_true, e2, mu, f_network_firsts_j2, ld2y, arithK_add, hw, st2y]
    · rw [hsn, hk]
      exact hs 0 _ (by rw [hy]; exact getSelfN z0) (by decide) (by decide)
theorem firsts_run {l : List Envl} {b : Bool} {sch : List Int} {b2 : Bool} (hs : sch.length < 100000) (hr : ∀ i ∈ sch, 0 ≤ i ∧ i < (l.length : Int)) : ∃ h', F_network_firsts [.lst 10 b (l.map encV), .lst 1 b2 (sch.map enI)] [] = some (.mp 0, h') ∧ h'[0]? = some (.map (kvI (fstS sch))) := by
  have em : ∀ k : AV → Hp → Option (AV × Hp), effK (some (.mp ([] : Hp).length, EN (.map []))) [] k = k (.mp 0) [.map []] := fun k => rfl
  have b1 : ∀ k : AV → Hp → Option (AV × Hp), effK (boxE 1 (.s (.map none)) ([.map []] : Hp).length) [.map []] k = k (.ptr 1 0 0 1) [.map [], .arr 1 [[.s (.map none)]] true false] := fun k => rfl
  have s1 : ∀ k : AV → Hp → Option (AV × Hp), effK (stE 1 (.ptr 1 0 0 1) (.mp 0) [.map [], .arr 1 [[.s (.map none)]] true false]) [.map [], .arr 1 [[.s (.map none)]] true false] k = k .u [.map [], .arr 1 [[.mp 0]] true false] := fun k => rfl
  have b2' : ∀ k : AV → Hp → Option (AV × Hp), effK (boxE 1 (.s (.int .i64 0)) ([.map [], .arr 1 [[.mp 0]] true false] : Hp).length) [.map [], .arr 1 [[.mp 0]] true false] k = k (.ptr 2 0 0 1) [.map [], .arr 1 [[.mp 0]] true false, .arr 1 [[I 0]] true false] := fun k => rfl
  have s2 : ∀ k : AV → Hp → Option (AV × Hp), effK (stE 1 (.ptr 2 0 0 1) (.s (.int .i64 0)) [.map [], .arr 1 [[.mp 0]] true false, .arr 1 [[I 0]] true false]) [.map [], .arr 1 [[.mp 0]] true false, .arr 1 [[I 0]] true false] k = k .u [.map [], .arr 1 [[.mp 0]] true false, .arr 1 [[I 0]] true false] := fun k => rfl
  have fd := deliveries_raw (l := l) (b := b) (sch := sch) (b2 := b2) (h := [.map [], .arr 1 [[.mp 0]] true false, .arr 1 [[I 0]] true false])
  have I0 : InvF l b [] [.map [], .arr 1 [[.mp 0]] true false, .arr 1 [[I 0]] true false, .arr 1 [[.lst 10 b (l.map encV)]] true false, .arr 1 [[.lst 1 b2 (sch.map enI)]] true false, loopF .ready none] := ⟨rfl, rfl, rfl, rfl, rfl⟩
  obtain ⟨h', d1, d2⟩ := deliv_L2 (T := t_network_deliveries_1__network_firsts) (D := D0) (N := NN) (x0 := fun h => f_network_deliveries_1_j1 Try.prog t_network_deliveries_1__network_firsts D0 NN (fun v h => some (v, h)) h) (xr := fun h => some (.tup [], h)) (L := 5) (p1 := 3) (b2 := b2) (Inv := InvF l b) t_network_deliveries_1__network_firsts_Y (by omega) hr (fun pre h I => I.l3)
    (fun pre post s e h hc he I => first_round hc hs I) NN [] sch _ rfl (by have := NN_ge; omega) I0
  have hF : F_network_deliveries_1__network_firsts [.yl 5, .ptr 4 0 0 1, .ptr 3 0 0 1] [.map [], .arr 1 [[.mp 0]] true false, .arr 1 [[I 0]] true false, .arr 1 [[.lst 10 b (l.map encV)]] true false, .arr 1 [[.lst 1 b2 (sch.map enI)]] true false, loopF .ready none] = some (.tup [], h') := by
    rw [F_network_deliveries_1__network_firsts_raw]
    have ls : ∀ k : Go.AM.K (AV × Hp), ldK 1 false (.ptr 4 0 0 1) [.map [], .arr 1 [[.mp 0]] true false, .arr 1 [[I 0]] true false, .arr 1 [[.lst 10 b (l.map encV)]] true false, .arr 1 [[.lst 1 b2 (sch.map enI)]] true false, loopF .ready none] k = k (.lst 1 b2 (sch.map enI)) := fun k => rfl
    unfold f_network_deliveries_1
    rw [ls, lenK_lst, List.length_map]
    exact d1
  obtain ⟨g0, g1, -, -, g5⟩ := d2
  refine ⟨h'.set 5 (loopF .exhausted none), ?_, getSetN g0 (by decide)⟩
  have gv : ∀ k : Go.AM.K (AV × Hp), ldK 1 false (.ptr 1 0 0 1) (h'.set 5 (loopF .exhausted none)) k = k (.mp 0) := fun k => by rw [ldK_ptr, getSetN g1 (by decide)]; rfl
  rw [F_network_firsts_raw]
  simp -implicitDefEqProofs only [f_network_firsts, em, b1, s1, b2', s2, t_network_firsts_69, callK_F, fd]
  refine (rangeX_ok (h := [.map [], .arr 1 [[.mp 0]] true false, .arr 1 [[I 0]] true false, .arr 1 [[.lst 10 b (l.map encV)]] true false, .arr 1 [[.lst 1 b2 (sch.map enI)]] true false]) t_network_firsts_78 hF g5).trans ?_
  show f_network_firsts_j1 Try.prog t_network_firsts d_network_firsts NN (fun v h => some (v, h)) (.ptr 1 0 0 1) (h'.set 5 (loopF .exhausted none)) = _
  simp -implicitDefEqProofs only [f_network_firsts_j1, gv]
end Go.AM

