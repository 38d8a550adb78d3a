import Derived.Test.YtlnjnfbdcdmacaaDbk
/- drawback: DrawbackNear. -/
namespace Go.AM
open Go.Proofs
set_option linter.unusedVariables false
set_option linter.unusedSimpArgs false
set_option linter.constructorNameAsVariable false
set_option maxRecDepth 20000
/-- One claim of one paid duty. -/
theorem refund_one (p : Paid) (alc limit : Int) : refundS [p] [⟨p.id, p.day, alc⟩] limit = if badP p then ([], -1, 1) else if win limit 0 100000 = false then ([], -1, 2) else
    if stepErr (paidL [p]) (fun _ => 0) 0 limit ⟨p.id, p.day, alc⟩ = 0 then ([partOf p alc - partOf p 0], -1, 0) else ([], 0, stepErr (paidL [p]) (fun _ => 0) 0 limit ⟨p.id, p.day, alc⟩) := by
  have h0 : claimedL [] = fun _ => 0 := by funext n; rfl
  have hp : paidL [p] p.id = some p := by simp [paidL]
  have hc : (checkP [p]).2 = if badP p then 2 else 0 := by
    by_cases hb : badP p = true <;> simp [checkP, checkAt, hb]
  by_cases hb : badP p = true
  · simp [refundS, carryS, hc, hb]
  · by_cases hl : win limit 0 100000 = false
    · simp [refundS, carryS, hc, hb, hl]
    · by_cases he : stepErr (paidL [p]) (fun _ => 0) 0 limit ⟨p.id, p.day, alc⟩ = 0
      · simp [refundS, carryS, hc, hb, hl, runC, errC, h0, lastL, he, refundC, hp]
      · simp [refundS, carryS, hc, hb, hl, runC, errC, h0, lastL, he]
theorem partOf_zero (p : Paid) : partOf p 0 = 0 := by
  unfold partOf propOf
  split
  · rfl
  · split
    · rfl
    · split
      · simp
      · rfl
theorem stepErr_one (p : Paid) (alc limit : Int) (hb : badP p = false) (hl : win limit 0 100000 = true) : stepErr (paidL [p]) (fun _ => 0) 0 limit ⟨p.id, p.day, alc⟩ = 0 ↔ 1 ≤ alc ∧ alc ≤ p.alc := by
  have hp : paidL [p] p.id = some p := by simp [paidL]
  simp [badP, win] at hb hl
  unfold stepErr
  simp only [hp]
  simp [bad1, win]
  split
  · simp; omega
  · split
    · simp; omega
    · split
      · simp; omega
      · split
        · simp; omega
        · simp; omega
theorem prop_one (p : Paid) (alc : Int) (hb : badP p = false) (h1 : 1 ≤ alc) (h2 : alc ≤ p.alc) : (propOf p.duty alc p.alc).2.2 = 0 := by
  simp [badP, win] at hb
  have q : p.duty * alc / p.alc ≤ p.duty := by
    refine Int.le_trans (Int.ediv_le_ediv (by omega) (Int.mul_le_mul_of_nonneg_left h2 (by omega))) ?_
    rw [Int.mul_ediv_cancel _ (by omega)]; omega
  have q2 : p.duty * alc / p.alc ≤ 128849018880000 := by omega
  have hm : (amt p.duty && amt alc && amt p.alc) = true := by simp [amt]; omega
  unfold propOf
  rw [hm]
  simp [show ¬ p.alc = 0 by omega, q2]
theorem partOf_all (p : Paid) (hb : badP p = false) : partOf p p.alc = p.duty := by
  simp [badP, win] at hb
  have q : p.duty * p.alc / p.alc = p.duty := Int.mul_ediv_cancel _ (by omega)
  have q2 : p.duty ≤ 128849018880000 := by omega
  have hm : (amt p.duty && amt p.alc && amt p.alc) = true := by simp [amt]; omega
  unfold partOf propOf
  rw [hm]
  simp [q, q2, show ¬ p.alc = 0 by omega]
/-- Where a claim of one paid duty is not refused. -/
def oneOk (p : Paid) (alc limit : Int) : Bool := !badP p && win limit 0 100000 && decide (1 ≤ alc) && decide (alc ≤ p.alc)
theorem one_ok (p : Paid) (alc limit : Int) (h : oneOk p alc limit = true) : refundS [p] [⟨p.id, p.day, alc⟩] limit = ([partOf p alc], -1, 0) := by
  simp [oneOk] at h
  obtain ⟨⟨⟨h1, h2⟩, h3⟩, h4⟩ := h
  rw [refund_one, if_neg (by simp [h1]), if_neg (by simp [h2]), if_pos ((stepErr_one p alc limit h1 h2).2 ⟨h3, h4⟩), partOf_zero, Int.sub_zero]
theorem one_not (p : Paid) (alc limit : Int) (h : oneOk p alc limit = false) : (refundS [p] [⟨p.id, p.day, alc⟩] limit).1 = [] ∧ (refundS [p] [⟨p.id, p.day, alc⟩] limit).2.2 ≠ 0 := by
  rw [refund_one]
  by_cases hb : badP p = true
  · rw [if_pos hb]; simp
  · rw [if_neg hb]
    by_cases hl : win limit 0 100000 = false
    · rw [if_pos hl]; simp
    · rw [if_neg hl]
      have hb' : badP p = false := by simpa using hb
      have hl' : win limit 0 100000 = true := by simpa using hl
      have : ¬ (1 ≤ alc ∧ alc ≤ p.alc) := by
        rintro ⟨q1, q2⟩
        simp [oneOk, hb', hl', q1, q2] at h
      have hs : ¬ stepErr (paidL [p]) (fun _ => 0) 0 limit ⟨p.id, p.day, alc⟩ = 0 := fun e => this ((stepErr_one p alc limit hb' hl').1 e)
      rw [if_neg hs]
      exact ⟨rfl, hs⟩
theorem near_law (p : Paid) (alc limit : Int) : F_law48_DrawbackNear [.agg (encP p), I alc, I limit] [] = some (B true, []) := by
  have R := fun (alc : Int) (h : Hp) (i j : Nat) (b c : Bool) (h1 : h[i]? = some (.arr 5 [encP p] true false)) (h2 : h[j]? = some (.arr 3 [[I p.id, I p.day, I alc]] true false)) =>
    F_drawback_Refund_in [p] [⟨p.id, p.day, alc⟩] false false limit h (x0 := .sl 5 i 0 1 1 b) (x1 := .sl 3 j 0 1 1 c) (by simp [cvts, cvt, h1, h2, okE, plain, encP, encC])
  simp only [encP] at R
  refine F_law48_DrawbackNear_run rfl ?_ []
  cases ho : oneOk p alc limit with
  | false =>
    obtain ⟨e1, e2⟩ := one_not p alc limit ho
    have R1 := R alc
    simp [e1] at R1
    simp [f_law48_DrawbackNear, encP, boxE, F_law48_awake_val, buildK, fillA, bsE, fillS, R1, e2]
  | true =>
    have ho2 : oneOk p p.alc limit = true := by simp [oneOk] at ho ⊢; exact ⟨ho.1.1, by omega⟩
    have hb : badP p = false := by simp [oneOk] at ho; exact ho.1.1.1
    have e3 := prop_one p alc hb (by simp [oneOk] at ho; omega) (by simp [oneOk] at ho; omega)
    have e4 := partOf_all p hb
    have e5 : (propOf p.duty alc p.alc).1 = partOf p alc := rfl
    have R1 := R alc
    simp [one_ok p alc limit ho] at R1
    have R2 := R p.alc
    simp [one_ok p p.alc limit ho2, e4] at R2
    simp [f_law48_DrawbackNear, encP, boxE, F_law48_awake_val, buildK, fillA, bsE, fillS, R1, R2, F_proportion_Of_val, e3, e5]
end Go.AM
