import Derived.Test.YtlnjnfbdcdmacaaDbj
/- drawback: the example. -/
namespace Go.AM
open Go.Proofs
set_option linter.unusedVariables false
set_option linter.unusedSimpArgs false
set_option linter.constructorNameAsVariable false
set_option maxRecDepth 20000
section
abbrev wP : List Paid := [⟨1, 1, 5, 3, 10⟩]
abbrev wC (d : Int) : List Claim := [⟨1, 6, 1⟩, ⟨1, 6, 1⟩, ⟨1, d, 1⟩]
abbrev eP : List (List AV) := [[I 1, I 1, I 5, I 3, I 10]]
abbrev eC (d : Int) : List (List AV) := [[I 1, I 6, I 1], [I 1, I 6, I 1], [I 1, I d, I 1]]
theorem aw1 (h : Hp) (id : Nat) (b : Bool) (hid : h[id]? = some (.arr 5 eP true false)) : F_slices_Clone_Paid [.sl 5 id 0 1 1 b] h = some (.lst 5 false eP, h) := F_slices_Clone_Paid_in ⟨1, 1, 5, 3, 10⟩ h (by simp [cvts, cvt, hid, okE, plain, encP])
theorem aw2 (h : Hp) (id : Nat) (b : Bool) (d : Int) (hid : h[id]? = some (.arr 3 (eC d) true false)) : R_slices_Clone_Claim [.sl 3 id 0 3 3 b] h = some (.sl 3 (h.length + 1) 0 3 3 false, h ++ [.arr 3 [] true false, .arr 3 (eC d) true false]) := by
  have hl := (List.getElem?_eq_some_iff.1 hid).1
  have hid' := fun x : List AObj => get_app (g := x) hid
  rw [R_slices_Clone_Claim_raw]
  simp only [f_slices_Clone_Claim]
  rw [eqK_sl (fr := 3) _ (by simp) hid rfl]
  simp [bsE, fillS, appE, readSl, hid, hid', ap]
theorem aw3 (h : Hp) (id : Nat) (b : Bool) (d : Int) (hid : h[id]? = some (.arr 3 (eC d) true false)) : R_slices_Clone_Claim [.sl 3 id 0 1 3 b] h = some (.sl 3 (h.length + 1) 0 1 1 false, h ++ [.arr 3 [] true false, .arr 3 [[I 1, I 6, I 1]] true false]) := by
  have hl := (List.getElem?_eq_some_iff.1 hid).1
  have hid' := fun x : List AObj => get_app (g := x) hid
  rw [R_slices_Clone_Claim_raw]
  simp only [f_slices_Clone_Claim]
  rw [eqK_sl (fr := 3) _ (by simp) hid rfl]
  simp [bsE, fillS, appE, readSl, hid, hid', ap]
theorem aw4 (h : Hp) (id : Nat) (b : Bool) (hid : h[id]? = some (.arr 3 (eC 35) true false)) : F_drawback_Refund [.lst 5 false eP, .sl 3 id 0 3 3 b, I 30] h = some (.tup [.lst 1 false [[I 3], [I 3], [I 4]], I (-1), I 0], h) :=
  (F_drawback_Refund_in wP (wC 35) false false 30 h (by simp [cvts, cvt, hid, okE, plain, encP, encC])).trans (by kernel_rfl)
theorem aw5 (h : Hp) (id : Nat) (b : Bool) (hid : h[id]? = some (.arr 3 [[I 1, I 6, I 1]] true false)) : F_drawback_Left [.lst 5 false eP, .sl 3 id 0 1 1 b, I 30, I 1] h = some (.tup [I 2, I 7, I 0], h) :=
  (F_drawback_Left_in wP [⟨1, 6, 1⟩] false false 30 1 h (by simp [cvts, cvt, hid, okE, plain, encP, encC])).trans (by kernel_rfl)
theorem aw6 (h : Hp) (id : Nat) (b : Bool) (hid : h[id]? = some (.arr 3 (eC 35) true false)) : F_drawback_Total [.lst 5 false eP, .sl 3 id 0 3 3 b, I 30] h = some (.tup [I 10, I 0], h) :=
  (F_drawback_Total_in wP (wC 35) false false 30 h (by simp [cvts, cvt, hid, okE, plain, encP, encC])).trans (by kernel_rfl)
theorem aw7 (h : Hp) : F_drawback_Overdue [.lst 5 false eP, nilS, I 30, I 36] h = some (.tup [.lst 1 false [[I 1]], I 0], h) := by
  have := F_drawback_Overdue_val wP [] false true 30 36 h
  refine Eq.trans ?_ (this.trans (by kernel_rfl))
  rfl
theorem aw8 (h : Hp) (id : Nat) (b : Bool) (hid : h[id]? = some (.arr 3 (eC 36) true false)) : F_drawback_Refund [.lst 5 false eP, .sl 3 id 0 3 3 b, I 30] h = some (.tup [.lst 1 true [], I 2, I 23], h) :=
  (F_drawback_Refund_in wP (wC 36) false false 30 h (by simp [cvts, cvt, hid, okE, plain, encP, encC])).trans (by kernel_rfl)
theorem aw9 (h : Hp) : F_drawback_Check [.lst 5 false eP] h = some (.tup [I (-1), I 0], h) := (F_drawback_Check_val wP false h).trans (by kernel_rfl)
theorem aw10 (h : Hp) (id : Nat) (b : Bool) (hid : h[id]? = some (.arr 1 [[I 3], [I 3], [I 4]] true false)) : F_slices_Equal_int [.lst 1 false [[I 3], [I 3], [I 4]], .sl 1 id 0 3 3 b] h = some (B true, h) :=
  (F_slices_Equal_int_in [3, 3, 4] [3, 3, 4] false false (by simp) (by simp) h (by simp [cvts, cvt, hid, okE, plain, encI])).trans (by kernel_rfl)
theorem aw11 (h : Hp) (id : Nat) (b : Bool) (hid : h[id]? = some (.arr 1 [[I 1]] true false)) : F_slices_Equal_int [.lst 1 false [[I 1]], .sl 1 id 0 1 1 b] h = some (B true, h) :=
  (F_slices_Equal_int_in [1] [1] false false (by simp) (by simp) h (by simp [cvts, cvt, hid, okE, plain, encI])).trans (by kernel_rfl)
theorem F_law48_awake_val (h : Hp) : F_law48_awake [] h = some (B true, h) := by
  refine F_law48_awake_run rfl ?_ h
  simp [f_law48_awake, buildK, fillA, bsE, fillS, aw1, aw2, aw3, aw4, aw5, aw6, aw7, aw8, aw9, aw10, aw11, sliceK, boundOr, iaK_sl, show IntKind.i64.wrap 0 = 0 from by kernel_rfl]
end
end Go.AM
