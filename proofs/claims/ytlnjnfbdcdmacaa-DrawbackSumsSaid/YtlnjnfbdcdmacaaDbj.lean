import Derived.Test.YtlnjnfbdcdmacaaDbi
/- drawback: Refund, Left, Total, Clone of arguments that lie in the heap; awake. -/
namespace Go.AM
open Go.Proofs
set_option linter.unusedVariables false
set_option linter.unusedSimpArgs false
set_option linter.constructorNameAsVariable false
set_option maxRecDepth 20000
theorem OutG.cvts {g : List AObj} {v : AV} {r : List Int} (O : OutG g v r) (a b c : AObj) : ∃ w, (∀ st, Go.AM.cvt st (a :: b :: c :: g) v = some w) ∧ nrm (.l 1) w = SL 1 encI r.isEmpty r := by
  rcases O with ⟨rfl, rfl⟩ | ⟨h1, k, rfl, h2⟩
  · exact ⟨nilS, fun st => rfl, rfl⟩
  · have he : r.isEmpty = false := by simpa using h1
    refine ⟨.lst 1 false (r.map encI), fun st => cvt_whole (by simpa using h2) (by simp) (by simp) (okE_map (by intro x; cases st <;> rfl)), ?_⟩
    rw [he]; rfl
theorem F_drawback_Refund_in (l : List Paid) (claims : List Claim) (b1 b2 : Bool) (limit : Int) (h : Hp) {x0 x1 : AV} (ha : cvts false h [x0, x1, I limit] = some [.lst 5 b1 (l.map encP), .lst 3 b2 (claims.map encC), I limit]) : F_drawback_Refund [x0, x1, I limit] h =
    some (.tup [SL 1 encI (refundS l claims limit).1.isEmpty (refundS l claims limit).1, I (refundS l claims limit).2.1, I (refundS l claims limit).2.2], h) := by
  have hc := carry_val l claims b1 b2 limit
  unfold refundS
  revert hc
  cases hS : carryS l claims limit with
  | inl je =>
    rintro ⟨h1, H, h2⟩
    refine (F_drawback_Refund_own (v := .tup [nilS, I je.1, I je.2]) ha (fun st => ?_)).trans rfl
    simp [f_drawback_Refund, h2]
  | inr r =>
    rintro ⟨v, kp, kc, g, h1, O, -⟩
    obtain ⟨w, hw, q1⟩ := O.cvts (.map kp) (.map kc) (fileO (lastL claims) limit)
    refine (F_drawback_Refund_own (v := .tup [w, I (-1), I 0]) ha (fun st => ?_)).trans ?_
    · simp [f_drawback_Refund, h1, hw]
    · show some (AV.tup [nrm (.l 1) w, I (-1), I 0], h) = _
      rw [q1]
theorem F_drawback_Left_in (l : List Paid) (claims : List Claim) (b1 b2 : Bool) (limit id : Int) (h : Hp) {x0 x1 : AV} (ha : cvts false h [x0, x1, I limit, I id] = some [.lst 5 b1 (l.map encP), .lst 3 b2 (claims.map encC), I limit, I id]) : F_drawback_Left [x0, x1, I limit, I id] h =
    some (.tup [I (leftS l claims limit id).1, I (leftS l claims limit id).2.1, I (leftS l claims limit id).2.2], h) := closedX_scal ha (F_drawback_Left_val l claims b1 b2 limit id []) rfl
theorem F_drawback_Total_in (l : List Paid) (claims : List Claim) (b1 b2 : Bool) (limit : Int) (h : Hp) {x0 x1 : AV} (ha : cvts false h [x0, x1, I limit] = some [.lst 5 b1 (l.map encP), .lst 3 b2 (claims.map encC), I limit]) : F_drawback_Total [x0, x1, I limit] h =
    some (.tup [I (totalS l claims limit).1, I (totalS l claims limit).2], h) := closedX_scal ha (F_drawback_Total_val l claims b1 b2 limit []) rfl
theorem F_slices_Equal_int_in (xs ys : List Int) (b1 b2 : Bool) (hb : xs.length < 1000000) (hy : ys.length < 1000000) (h : Hp) {x0 x1 : AV} (ha : cvts false h [x0, x1] = some [.lst 1 b1 (xs.map encI), .lst 1 b2 (ys.map encI)]) : F_slices_Equal_int [x0, x1] h = some (B (decide (xs = ys)), h) :=
  closedX_scal ha (F_slices_Equal_int_val xs ys b1 b2 hb hy []) rfl
theorem F_slices_Clone_Paid_in (p : Paid) (h : Hp) {x0 : AV} (ha : cvts false h [x0] = some [.lst 5 false [encP p]]) : F_slices_Clone_Paid [x0] h = some (.lst 5 false [encP p], h) := by
  refine (F_slices_Clone_Paid_own (v := .lst 5 false [encP p]) ha (fun st => ?_)).trans rfl
  have h3 : okE st [encP p] = true := okE_map (l := [p]) (f := encP) (by intro x; cases st <;> simp [encP, isS])
  simp [f_slices_Clone_Paid, bsE, fillS, appE, readSl, ap, encP]
  exact cvt_whole rfl rfl rfl h3
end Go.AM
