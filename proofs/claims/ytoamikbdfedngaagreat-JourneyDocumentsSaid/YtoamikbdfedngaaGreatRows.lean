/-
  No cell of these rows narrows 'for every input' (looked for: loops, veiled, ifaces, maps, wideKeys, modest, calm, conditions, laid).
  DERIVED. THE GIVEN ROWS OF THIS SEAT. 2 by the template 'for every input the law returns true; each argument reads behind the call as it read before'; 0 by the template 'total and deterministic' (their statements: YtoamikbdfedngaaGreatTotals.lean).
  GIVEN WITH THE SEED: the statements are not yours to turn. If you find one false, say at which input.
  Laid BY PROGRAM, IN A SANDBOX (cutbox-rows.mjs): the forced cells as the released guide's own fill.sh prints them over the translation 4a6141a4b2a0f021… (all of the seat's roots in one cut). By AI agents, Wed Nov 11 2026. No macro, syntax, notation, axiom, sorry.
-/
import Derived.Test.YtoamikbdfedngaaGreatChecked
import GoSem.Claim
import GoSem.ClaimJoined
import GoSem.ClaimMapViews
import Derived.JoinedTies
import Derived.KernelRfl
namespace Go.Proofs.YtoamikbdfedngaaGreat
/- THE CELL 'sum', in the pinned program and in every row, IS THE sha256 OF THE DUMP (.gsa) THAT YtoamikbdfedngaaGreatProg.lean LOADS. Nothing in Lean hashes anything: it is a label: what it is worth is what the hold of that sum in a sandbox is worth. -/
noncomputable def Tryz.pinned : Pinned := { name := "ytoamikbdfedngaagreat", sum := "4a6141a4b2a0f0212b2dce29e8ee29d28ceb9451ccf15788c3c2c092ac3f16f3", checked := Tryz.checked }
namespace Rows
def none {H : Type} : Left H := { results := [], args := [] }

/-- 'spilelaw45.JourneyTells': WHATEVER THE INPUT: true; the input reads as it did. -/
def journeyTellsSpec : ChangeSpec := { name := "journeyTells", fn := fun _ => fun
  | [d1, d2, d3] => { results := [.lit (.bool true)], args := [d1, d2, d3] }
  | _ => none }
def journeyTellsRow : OpenClaim := { program := "ytoamikbdfedngaagreat", sum := "4a6141a4b2a0f0212b2dce29e8ee29d28ceb9451ccf15788c3c2c092ac3f16f3", func := "spile/spilelaw45.JourneyTells", spec := "journeyTells", unfollowed := true, recurses := true, named := ["math/bits.divideError", "math/bits.overflowError"], plainKeys := false, apart := false }
def JourneyTellsSaid : Prop := journeyTellsRow.holds Tryz.pinned (OpenSpec.ofChange journeyTellsSpec)

/-- ITS FALSE NEIGHBOUR: 'it returns false'. Refute it at one input. -/
def journeyTellsWrong : ChangeSpec := { name := "journeyTells", fn := fun _ => fun
  | [d1, d2, d3] => { results := [.lit (.bool false)], args := [d1, d2, d3] }
  | _ => none }
def JourneyTellsWrongFalsely : Prop := journeyTellsRow.holds Tryz.pinned (OpenSpec.ofChange journeyTellsWrong)

/-- 'spilelaw45.JourneyDocuments': WHATEVER THE INPUT: true; the input reads as it did. -/
def journeyDocumentsSpec : ChangeSpec := { name := "journeyDocuments", fn := fun _ => fun
  | [d1, d2] => { results := [.lit (.bool true)], args := [d1, d2] }
  | _ => none }
def journeyDocumentsRow : OpenClaim := { program := "ytoamikbdfedngaagreat", sum := "4a6141a4b2a0f0212b2dce29e8ee29d28ceb9451ccf15788c3c2c092ac3f16f3", func := "spile/spilelaw45.JourneyDocuments", spec := "journeyDocuments", unfollowed := true, recurses := true, named := ["math/bits.divideError", "math/bits.overflowError"], plainKeys := false, apart := false }
def JourneyDocumentsSaid : Prop := journeyDocumentsRow.holds Tryz.pinned (OpenSpec.ofChange journeyDocumentsSpec)

/-- ITS FALSE NEIGHBOUR: 'it returns false'. Refute it at one input. -/
def journeyDocumentsWrong : ChangeSpec := { name := "journeyDocuments", fn := fun _ => fun
  | [d1, d2] => { results := [.lit (.bool false)], args := [d1, d2] }
  | _ => none }
def JourneyDocumentsWrongFalsely : Prop := journeyDocumentsRow.holds Tryz.pinned (OpenSpec.ofChange journeyDocumentsWrong)

/- THE SECOND FORM. 'bulk': how many values and letters a reading holds, each counted each time it is reached (what is shared counts as often as it is met; a slice's spare places count too). A statement '..UptoSaid' is the law's where the arguments, and the package variables that the reading takes, are together of bulk at most 1048576: NARROWER than '..Said'. Prove '..Said' where nothing that the law and all that it calls make is longer than what came in: it says more and counts as full. Else prove '..UptoSaid'. A law counts once. -/
mutual
def uptoBulk {H : Type} : DataW H → Nat
  | .lit (.string bytes) => bytes.length + 1
  | .lit _ => 1
  | .nil => 1
  | .ptr d => uptoBulk d + 1
  | .slice elems spare => uptoBulkAll elems + uptoBulkAll spare + 1
  | .agg parts => uptoBulkAll parts + 1
  | .iface _ d => uptoBulk d + 1
  | .map entries => uptoBulkEntries entries + 1
  | .held _ => 1
def uptoBulkAll {H : Type} : List (DataW H) → Nat
  | [] => 0
  | d :: r => uptoBulk d + uptoBulkAll r
def uptoBulkEntries {H : Type} : List (Lit × DataW H) → Nat
  | [] => 0
  | x :: r => uptoBulkEntry x + uptoBulkEntries r
def uptoBulkEntry {H : Type} : Lit × DataW H → Nat
  | (.string bytes, d) => bytes.length + uptoBulk d + 1
  | (_, d) => uptoBulk d + 1
 end
def uptoSmall : (H : Type) → List (DataW H) → Bool := fun _ ds => decide (uptoBulkAll ds ≤ 1048576)
def OpenSpec.upto (s : _root_.Go.ChangeSpec) : _root_.Go.OpenSpec := { _root_.Go.OpenSpec.ofChange s with cond := some uptoSmall }

/-- 'spilelaw45.JourneyTells', WHERE WHAT IT READS IS OF BULK AT MOST 1048576: true; the input reads as it did. -/
def journeyTellsUptoRow : OpenClaim := { program := "ytoamikbdfedngaagreat", sum := "4a6141a4b2a0f0212b2dce29e8ee29d28ceb9451ccf15788c3c2c092ac3f16f3", func := "spile/spilelaw45.JourneyTells", spec := "journeyTells", unfollowed := true, recurses := true, named := ["math/bits.divideError", "math/bits.overflowError"], plainKeys := false, apart := false, narrowed := true }
def JourneyTellsUptoSaid : Prop := journeyTellsUptoRow.holds Tryz.pinned (OpenSpec.upto journeyTellsSpec)

/-- 'spilelaw45.JourneyDocuments', WHERE WHAT IT READS IS OF BULK AT MOST 1048576: true; the input reads as it did. -/
def journeyDocumentsUptoRow : OpenClaim := { program := "ytoamikbdfedngaagreat", sum := "4a6141a4b2a0f0212b2dce29e8ee29d28ceb9451ccf15788c3c2c092ac3f16f3", func := "spile/spilelaw45.JourneyDocuments", spec := "journeyDocuments", unfollowed := true, recurses := true, named := ["math/bits.divideError", "math/bits.overflowError"], plainKeys := false, apart := false, narrowed := true }
def JourneyDocumentsUptoSaid : Prop := journeyDocumentsUptoRow.holds Tryz.pinned (OpenSpec.upto journeyDocumentsSpec)

end Rows
end Go.Proofs.YtoamikbdfedngaaGreat
