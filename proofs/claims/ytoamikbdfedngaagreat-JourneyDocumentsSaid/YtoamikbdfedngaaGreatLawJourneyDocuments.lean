/- 'JourneyDocuments' returns true for every input, and its arguments read behind the call as they did. No condition. (Printed by program: the row.) -/
import Derived.Test.YtoamikbdfedngaaGreatRows
import Derived.Test.YtoamikbdfedngaaGreatG7
import Derived.WalkKit
import Derived.ProofKit
import Derived.OpenShut
import Derived.ShutString
import Derived.ChangeOld
import Derived.Below
import Derived.SizedLaws
namespace Go.Proofs.YtoamikbdfedngaaGreat.journeyDocuments
open Go.ChangeShapes Go.WideShapes Go.ChangeAt Go.RowKit
set_option linter.unusedVariables false
theorem own : ownKnob Tryz.prog.godebug = none := by kernel_rfl
theorem laidOut : laidOutB Tryz.prog = true := by kernel_rfl
set_option maxRecDepth 100000 in
theorem lifted (os : Os) (started : os.Started) (H : Type) (enc : TypeId × Value → H) :
    ReturnsInHanded {} Tryz.checked os 4 .any (Rows.journeyDocumentsSpec.pre6 enc Tryz.prog Tryz.f4 Rows.journeyDocumentsRow.domain false) (Rows.journeyDocumentsSpec.post enc Tryz.prog Tryz.f4 false true false false) := by
  refine returnsInHanded_of_change_sized (C := Tryz.checked) own started (by kernel_rfl) Tryz.func4
    (ChangeSpec.witness6 (enc := enc) (C := Tryz.checked) false ⟨#[], #[.slice none 0 0, .int .i64 0], []⟩ 8 (by kernel_rfl) (by kernel_rfl) (by kernel_rfl) (by kernel_rfl)) ?_
  intro W base args ds gs before hval0 hW hcnd hsz0 _
  have hval : ∀ (j : Nat) t v, Tryz.f4.params[j]? = some t → args[j]? = some v → Value.okWide Tryz.prog W .any base t v := hval0
  have hW' := hW
  obtain ⟨p, q, hA0, hV, rfl, hfz, hnd⟩ := hW
  have hA : DataW.TrodAll enc Tryz.prog W 0 (fun _ => true) true Tryz.f4.params.toList args.toList ds p := hA0
  rw [Tryz.params4] at hA hval
  obtain ⟨v0, vs0, d0, ds0, p0, q0, hargs, rfl, rfl, h0, r0⟩ := trodAll_cons hA
  obtain ⟨v1, vs1, d1, ds1, p1, q1, rfl, rfl, rfl, h1, r1⟩ := trodAll_cons r0
  obtain ⟨rfl, rfl, rfl⟩ := trodAll_nil r1
  obtain rfl : args = #[v0, v1] := by cases args; simp_all
  obtain ⟨rfl, rfl⟩ := trodVars_none hV
  have k0 := h0
  have lt0 : ∀ x ∈ p0, x.block < W.heap.size := by obtain ⟨m, hm⟩ := k0; exact DataW.trod_lt m _ _ _ hm
  obtain ⟨a0, len0, cap0, rfl⟩ := okWide_slice Tryz.underlying22 (hval 0 22 v0 rfl rfl)
  obtain ⟨as0, T0, V0⟩ := Go.AM.open_cell (P := Tryz.prog) (n := 9) (ty := .sl [.int .i64, .int .i64, .int .i64, .int .i64, .int .i64]) rfl (by kernel_rfl) h0
  obtain ⟨x0_0, x0_1, rfl⟩ := Go.AM.has_Legs T0
  obtain ⟨a1, rfl, rfl, rfl, w1⟩ := open_int Tryz.underlying3 (hval 1 3 v1 rfl rfl) h1
  have V1 : Go.AM.VR (Go.AM.mu0 W) [] (.s (.int .i64 a1)) (.int .i64 a1) := by simp [Go.AM.VR, Go.AM.gv]
  refine (Go.AM.row_calls Go.AM.F_law45_JourneyDocuments_ok (Go.AM.documents_law x0_0 x0_1 a1) (by simp only [Go.AM.VRs]; exact ⟨_, _, rfl, V0, ⟨_, _, rfl, V1, rfl⟩⟩)).mono fun e W' ⟨he, bel⟩ => ?_
  subst he
  exact ⟨_, rfl, _, _, _, [], _, [], hW', trodAll_mk1 (shut_bool Tryz.underlying4 _), (trodAll_cons_mk (Below.trod laidOut (by kernel_rfl) (of_decide_eq_true (by kernel_rfl)) k0 bel lt0) (trodAll_cons_mk (shut_int Tryz.underlying3 w1) trodAll_mk0)), rfl, bel.frame _, fun h => by cases h⟩
theorem over : Rows.journeyDocumentsRow.holds Tryz.pinned (OpenSpec.ofChange Rows.journeyDocumentsSpec) :=
  OpenClaim.holds_of_wide 4 Tryz.f4 rfl rfl rfl rfl rfl rfl rfl ⟨rfl, rfl, rfl, rfl, rfl⟩ rfl rfl rfl rfl rfl (by kernel_rfl) Tryz.func4 (by kernel_rfl)
    (of_decide_eq_true (by kernel_rfl)) (by unfold Func.isWrapper; first | (rw [if_pos (by decide +kernel)]; kernel_rfl) | (rw [if_neg (by decide +kernel)]; exact ⟨rfl, rfl⟩))
    (fun os started H enc _ => lifted os started H enc)
theorem proved : Rows.JourneyDocumentsSaid := over
end Go.Proofs.YtoamikbdfedngaaGreat.journeyDocuments
namespace Go.Proofs.YtoamikbdfedngaaGreat
/-- The row, for the claim. -/
theorem journeyDocuments_holds : Rows.JourneyDocumentsSaid := journeyDocuments.proved
#print axioms journeyDocuments_holds
end Go.Proofs.YtoamikbdfedngaaGreat
