import Derived.Test.YtlnjnfbdcdmacaaDbp
/- drawback: DrawbackSums, the law. -/
namespace Go.AM
open Go.Proofs
set_option linter.unusedVariables false
set_option linter.unusedSimpArgs false
set_option linter.constructorNameAsVariable false
set_option maxRecDepth 20000
theorem all_claims_known {l : List Paid} {limit : Int} : ∀ (cs ahead : List Claim) (r : List Int), runC l limit ahead cs = .inr r → ∀ c ∈ cs, (paidL l c.paid).isSome = true
  | [], _, _, _ => by simp
  | c :: cs, ahead, r, h => by
    simp only [runC] at h
    by_cases he : errC l limit ahead c = 0
    · rw [if_pos he] at h
      cases hr : runC l limit (ahead ++ [c]) cs with
      | inl e => rw [hr] at h; simp at h
      | inr r' =>
        obtain ⟨p', hp', -⟩ := err0 he
        intro d hd
        rcases List.mem_cons.1 hd with rfl | hd
        · rw [hp']; rfl
        · exact all_claims_known cs _ r' hr d hd
    · rw [if_neg he] at h; simp at h
theorem sums_law (l : List Paid) (b1 : Bool) (claims : List Claim) (b2 : Bool) (limit : Int) : F_law48_DrawbackSums [SL 5 encP b1 l, SL 3 encC b2 claims, I limit] [] = some (B true, []) := by
  refine F_law48_DrawbackSums_run rfl ?_ []
  cases hf : few l.length claims.length with
  | false => simp [f_law48_DrawbackSums, F_law48_awake_val, F_ref48_Few_val, hf]
  | true =>
    obtain ⟨m1, m2⟩ := few_bd hf
    have c1 := F_slices_Clone_Paid_val l b1 (by omega)
    have c2 := F_slices_Clone_Claim_val claims b2 (by omega)
    have rf := F_drawback_Refund_val l claims
    cases hS : carryS l claims limit with
    | inl je =>
      have he := carryS_inl hS
      have e1 : refundS l claims limit = ([], je.1, je.2) := by simp [refundS, hS]
      simp [f_law48_DrawbackSums, F_law48_awake_val, F_ref48_Few_val, hf, c1, c2, rf, e1, he]
    | inr r =>
      obtain ⟨g1, g2, g3, g4, g5⟩ := carryS_within hS
      obtain ⟨q1, q2, q3, q4⟩ := carryS_inr hS
      obtain ⟨d1, d2, d3⟩ := checkP_ok q1
      have e1 : refundS l claims limit = (r, -1, 0) := by simp [refundS, hS]
      have e5 : totalS l claims limit = (r.sum, 0) := by simp [totalS, hS]
      have e6 := sum_pick l d3 claims r g3 (all_claims_known claims [] r q4)
      obtain ⟨h', k1⟩ := sums_L2 (T := t_law48_DrawbackSums) (x0 := fun w121_0 w121_1 w121_2 w121_10 h => f_law48_DrawbackSums_j1 Try.prog t_law48_DrawbackSums d_law48_DrawbackSums NN (fun v g => cvt false g v) w121_0 w121_1 w121_2 w121_10 h) (xr := fun w122_6 h => cvt false h w122_6) hS m1 m2 b1 b2 (r.isEmpty && r.isEmpty) NN [] l 0 [] rfl (by have := NN_ge; omega) (by simp)
      have e4 : ((r.length : Int) = (claims.length : Int)) := by omega
      rw [e6, Int.zero_add] at k1
      have tv := F_drawback_Total_val l claims (b1 && l.isEmpty) (b2 && claims.isEmpty) limit
      rw [e5] at tv
      simp [f_law48_DrawbackSums, F_law48_awake_val, F_ref48_Few_val, hf, c1, c2, rf, e1, e4]
      refine k1.trans ?_
      simp [f_law48_DrawbackSums_j1, c1, c2, tv]
end Go.AM
