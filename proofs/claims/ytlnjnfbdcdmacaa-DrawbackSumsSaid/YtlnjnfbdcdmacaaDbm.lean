import Derived.Test.YtlnjnfbdcdmacaaDbl
import Derived.Test.YtlnjnfbdcdmacaaAmRow
/- drawback: arguments. -/
namespace Go.AM
open Go.Proofs
set_option linter.unusedVariables false
theorem has_Paid {cs : List AV} (h : HasTs [.int .i64, .int .i64, .int .i64, .int .i64, .int .i64] cs) : ∃ p : Paid, cs = encP p := by
  simp only [HasTs, HasT] at h
  obtain ⟨_, _, rfl, ⟨a, rfl, _⟩, _, _, rfl, ⟨b, rfl, _⟩, _, _, rfl, ⟨c, rfl, _⟩, _, _, rfl, ⟨d, rfl, _⟩, _, _, rfl, ⟨e, rfl, _⟩, rfl⟩ := h
  exact ⟨⟨a, b, c, d, e⟩, rfl⟩
theorem has_Claim {cs : List AV} (h : HasTs [.int .i64, .int .i64, .int .i64] cs) : ∃ p : Claim, cs = encC p := by
  simp only [HasTs, HasT] at h
  obtain ⟨_, _, rfl, ⟨a, rfl, _⟩, _, _, rfl, ⟨b, rfl, _⟩, _, _, rfl, ⟨c, rfl, _⟩, rfl⟩ := h
  exact ⟨⟨a, b, c⟩, rfl⟩
theorem has_Paids {a : AV} (h : HasT (.sl [.int .i64, .int .i64, .int .i64, .int .i64, .int .i64]) a) : ∃ (l : List Paid) (b : Bool), a = SL 5 encP b l := has_list (fun _ h => has_Paid h) h
theorem has_Claims {a : AV} (h : HasT (.sl [.int .i64, .int .i64, .int .i64]) a) : ∃ (l : List Claim) (b : Bool), a = SL 3 encC b l := has_list (fun _ h => has_Claim h) h
end Go.AM
