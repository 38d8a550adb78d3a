import Derived.Test.YtlnjnfbdcdmacaaDba
/- Clone. -/
namespace Go.AM
open Go.Proofs
set_option linter.unusedVariables false
set_option linter.unusedSimpArgs false
set_option linter.constructorNameAsVariable false
set_option maxRecDepth 20000
section
variable {β : Type} {P : Program} {T : Tab} {D : DTab} {N : Nat} {K : AV → Hp → Option β}
/-- A slice as a list. -/
abbrev SL {α : Type} (sz : Nat) (f : α → List AV) (b : Bool) (l : List α) : AV := .lst sz (b && l.isEmpty) (l.map f)
theorem F_slices_Clone_Paid_val (l : List Paid) (b : Bool) (hl : l.length < 1000000) (h : Hp) : F_slices_Clone_Paid [SL 5 encP b l] h = some (SL 5 encP b l, h) := by
  refine (F_slices_Clone_Paid_run (v := if b && l.isEmpty then nilS else SL 5 encP b l) rfl ?_ h).trans ?_
  · by_cases hb : (b && l.isEmpty) = true
    · simp [f_slices_Clone_Paid, hb]
    · have hb' : (b && l.isEmpty) = false := by simpa using hb
      have hle : l.length * 40 ≤ 140737488355328 := by omega
      have h2 : ((l.map encP).all fun e => e.length == 5) = true := by simp [encP]
      have h3 : okE false (l.map encP) = true := okE_map (by intro x; simp [encP])
      simp [f_slices_Clone_Paid, hb', bsE, fillS, appE, readSl, hle, h2, ap]
      rw [cvt_whole rfl (by simp) (by simp) h3, SL, hb']
  · by_cases hb : (b && l.isEmpty) = true
    · obtain ⟨rfl, hl0⟩ := Bool.and_eq_true_iff.1 hb
      have : l = [] := by simpa using hl0
      subst this
      rfl
    · rw [if_neg hb]
      rfl
theorem F_slices_Clone_Claim_val (l : List Claim) (b : Bool) (hl : l.length < 1000000) (h : Hp) : F_slices_Clone_Claim [SL 3 encC b l] h = some (SL 3 encC b l, h) := by
  refine (F_slices_Clone_Claim_run (v := if b && l.isEmpty then nilS else SL 3 encC b l) rfl ?_ h).trans ?_
  · by_cases hb : (b && l.isEmpty) = true
    · simp [f_slices_Clone_Claim, hb]
    · have hb' : (b && l.isEmpty) = false := by simpa using hb
      have hle : l.length * 24 ≤ 140737488355328 := by omega
      have h2 : ((l.map encC).all fun e => e.length == 3) = true := by simp [encC]
      have h3 : okE false (l.map encC) = true := okE_map (by intro x; simp [encC])
      simp [f_slices_Clone_Claim, hb', bsE, fillS, appE, readSl, hle, h2, ap]
      rw [cvt_whole rfl (by simp) (by simp) h3, SL, hb']
  · by_cases hb : (b && l.isEmpty) = true
    · obtain ⟨rfl, hl0⟩ := Bool.and_eq_true_iff.1 hb
      have : l = [] := by simpa using hl0
      subst this
      rfl
    · rw [if_neg hb]
      rfl
end
end Go.AM
