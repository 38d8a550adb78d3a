/-
  No cell of these rows narrows 'for every input' (looked for: loops, veiled, ifaces, maps, wideKeys, modest, calm, conditions, laid).
  DERIVED. THE GIVEN ROWS OF THIS SEAT. 5 by the template 'for every input the law returns true; each argument reads behind the call as it read before'; 0 by the template 'total and deterministic' (their statements: YtoamikbdfedngaaTotals.lean).
  GIVEN WITH THE SEED: the statements are not yours to turn. If you find one false, say at which input.
  Laid BY PROGRAM, IN A SANDBOX (cutbox-rows.mjs): the forced cells as the released guide's own fill.sh prints them over the translation c7a32c07d4f3feb5… (all of the seat's roots in one cut). By AI agents, Wed Nov 11 2026. No macro, syntax, notation, axiom, sorry.
-/
import Derived.Test.YtoamikbdfedngaaChecked
import GoSem.Claim
import GoSem.ClaimJoined
import GoSem.ClaimMapViews
import Derived.JoinedTies
import Derived.KernelRfl
namespace Go.Proofs.Ytoamikbdfedngaa
/- THE CELL 'sum', in the pinned program and in every row, IS THE sha256 OF THE DUMP (.gsa) THAT YtoamikbdfedngaaProg.lean LOADS. Nothing in Lean hashes anything: it is a label: what it is worth is what the hold of that sum in a sandbox is worth. -/
noncomputable def Try.pinned : Pinned := { name := "ytoamikbdfedngaa", sum := "c7a32c07d4f3feb5761056b3fc4e10fbcbabac0f9dc92a419334bb3918986b54", checked := Try.checked }
namespace Rows
def none {H : Type} : Left H := { results := [], args := [] }

/-- 'spilelaw45.JourneyTransits': WHATEVER THE INPUT: true; the input reads as it did. -/
def journeyTransitsSpec : ChangeSpec := { name := "journeyTransits", fn := fun _ => fun
  | [d1, d2] => { results := [.lit (.bool true)], args := [d1, d2] }
  | _ => none }
def journeyTransitsRow : OpenClaim := { program := "ytoamikbdfedngaa", sum := "c7a32c07d4f3feb5761056b3fc4e10fbcbabac0f9dc92a419334bb3918986b54", func := "spile/spilelaw45.JourneyTransits", spec := "journeyTransits", unfollowed := true, recurses := true, named := ["math/bits.divideError", "math/bits.overflowError"], apart := false }
def JourneyTransitsSaid : Prop := journeyTransitsRow.holds Try.pinned (OpenSpec.ofChange journeyTransitsSpec)

/-- ITS FALSE NEIGHBOUR: 'it returns false'. Refute it at one input. -/
def journeyTransitsWrong : ChangeSpec := { name := "journeyTransits", fn := fun _ => fun
  | [d1, d2] => { results := [.lit (.bool false)], args := [d1, d2] }
  | _ => none }
def JourneyTransitsWrongFalsely : Prop := journeyTransitsRow.holds Try.pinned (OpenSpec.ofChange journeyTransitsWrong)

/-- 'spilelaw45.JourneyClaims': WHATEVER THE INPUT: true; the input reads as it did. -/
def journeyClaimsSpec : ChangeSpec := { name := "journeyClaims", fn := fun _ => fun
  | [d1, d2] => { results := [.lit (.bool true)], args := [d1, d2] }
  | _ => none }
def journeyClaimsRow : OpenClaim := { program := "ytoamikbdfedngaa", sum := "c7a32c07d4f3feb5761056b3fc4e10fbcbabac0f9dc92a419334bb3918986b54", func := "spile/spilelaw45.JourneyClaims", spec := "journeyClaims", unfollowed := true, recurses := true, named := ["math/bits.divideError", "math/bits.overflowError"], apart := false }
def JourneyClaimsSaid : Prop := journeyClaimsRow.holds Try.pinned (OpenSpec.ofChange journeyClaimsSpec)

/-- ITS FALSE NEIGHBOUR: 'it returns false'. Refute it at one input. -/
def journeyClaimsWrong : ChangeSpec := { name := "journeyClaims", fn := fun _ => fun
  | [d1, d2] => { results := [.lit (.bool false)], args := [d1, d2] }
  | _ => none }
def JourneyClaimsWrongFalsely : Prop := journeyClaimsRow.holds Try.pinned (OpenSpec.ofChange journeyClaimsWrong)

/-- 'spilelaw45.JourneyRuns': WHATEVER THE INPUT: true; the input reads as it did. -/
def journeyRunsSpec : ChangeSpec := { name := "journeyRuns", fn := fun _ => fun
  | [d1, d2] => { results := [.lit (.bool true)], args := [d1, d2] }
  | _ => none }
def journeyRunsRow : OpenClaim := { program := "ytoamikbdfedngaa", sum := "c7a32c07d4f3feb5761056b3fc4e10fbcbabac0f9dc92a419334bb3918986b54", func := "spile/spilelaw45.JourneyRuns", spec := "journeyRuns", unfollowed := true, recurses := true, named := ["math/bits.divideError", "math/bits.overflowError"], apart := false }
def JourneyRunsSaid : Prop := journeyRunsRow.holds Try.pinned (OpenSpec.ofChange journeyRunsSpec)

/-- ITS FALSE NEIGHBOUR: 'it returns false'. Refute it at one input. -/
def journeyRunsWrong : ChangeSpec := { name := "journeyRuns", fn := fun _ => fun
  | [d1, d2] => { results := [.lit (.bool false)], args := [d1, d2] }
  | _ => none }
def JourneyRunsWrongFalsely : Prop := journeyRunsRow.holds Try.pinned (OpenSpec.ofChange journeyRunsWrong)

/-- 'spilelaw45.JourneyCloses': WHATEVER THE INPUT: true; the input reads as it did. -/
def journeyClosesSpec : ChangeSpec := { name := "journeyCloses", fn := fun _ => fun
  | [d1, d2] => { results := [.lit (.bool true)], args := [d1, d2] }
  | _ => none }
def journeyClosesRow : OpenClaim := { program := "ytoamikbdfedngaa", sum := "c7a32c07d4f3feb5761056b3fc4e10fbcbabac0f9dc92a419334bb3918986b54", func := "spile/spilelaw45.JourneyCloses", spec := "journeyCloses", unfollowed := true, recurses := true, named := ["math/bits.divideError", "math/bits.overflowError"], apart := false }
def JourneyClosesSaid : Prop := journeyClosesRow.holds Try.pinned (OpenSpec.ofChange journeyClosesSpec)

/-- ITS FALSE NEIGHBOUR: 'it returns false'. Refute it at one input. -/
def journeyClosesWrong : ChangeSpec := { name := "journeyCloses", fn := fun _ => fun
  | [d1, d2] => { results := [.lit (.bool false)], args := [d1, d2] }
  | _ => none }
def JourneyClosesWrongFalsely : Prop := journeyClosesRow.holds Try.pinned (OpenSpec.ofChange journeyClosesWrong)

/-- 'spilelaw45.JourneyKnown': WHATEVER THE INPUT: true; the input reads as it did. -/
def journeyKnownSpec : ChangeSpec := { name := "journeyKnown", fn := fun _ => fun
  | [d1, d2] => { results := [.lit (.bool true)], args := [d1, d2] }
  | _ => none }
def journeyKnownRow : OpenClaim := { program := "ytoamikbdfedngaa", sum := "c7a32c07d4f3feb5761056b3fc4e10fbcbabac0f9dc92a419334bb3918986b54", func := "spile/spilelaw45.JourneyKnown", spec := "journeyKnown", unfollowed := true, recurses := true, named := ["math/bits.divideError", "math/bits.overflowError"], apart := false }
def JourneyKnownSaid : Prop := journeyKnownRow.holds Try.pinned (OpenSpec.ofChange journeyKnownSpec)

/-- ITS FALSE NEIGHBOUR: 'it returns false'. Refute it at one input. -/
def journeyKnownWrong : ChangeSpec := { name := "journeyKnown", fn := fun _ => fun
  | [d1, d2] => { results := [.lit (.bool false)], args := [d1, d2] }
  | _ => none }
def JourneyKnownWrongFalsely : Prop := journeyKnownRow.holds Try.pinned (OpenSpec.ofChange journeyKnownWrong)

/- THE SECOND FORM. 'bulk': how many values and letters a reading holds, each counted each time it is reached (what is shared counts as often as it is met; a slice's spare places count too). A statement '..UptoSaid' is the law's where the arguments, and the package variables that the reading takes, are together of bulk at most 1048576: NARROWER than '..Said'. Prove '..Said' where nothing that the law and all that it calls make is longer than what came in: it says more and counts as full. Else prove '..UptoSaid'. A law counts once. -/
mutual
def uptoBulk {H : Type} : DataW H → Nat
  | .lit (.string bytes) => bytes.length + 1
  | .lit _ => 1
  | .nil => 1
  | .ptr d => uptoBulk d + 1
  | .slice elems spare => uptoBulkAll elems + uptoBulkAll spare + 1
  | .agg parts => uptoBulkAll parts + 1
  | .iface _ d => uptoBulk d + 1
  | .map entries => uptoBulkEntries entries + 1
  | .held _ => 1
def uptoBulkAll {H : Type} : List (DataW H) → Nat
  | [] => 0
  | d :: r => uptoBulk d + uptoBulkAll r
def uptoBulkEntries {H : Type} : List (Lit × DataW H) → Nat
  | [] => 0
  | x :: r => uptoBulkEntry x + uptoBulkEntries r
def uptoBulkEntry {H : Type} : Lit × DataW H → Nat
  | (.string bytes, d) => bytes.length + uptoBulk d + 1
  | (_, d) => uptoBulk d + 1
 end
def uptoSmall : (H : Type) → List (DataW H) → Bool := fun _ ds => decide (uptoBulkAll ds ≤ 1048576)
def OpenSpec.upto (s : _root_.Go.ChangeSpec) : _root_.Go.OpenSpec := { _root_.Go.OpenSpec.ofChange s with cond := some uptoSmall }

/-- 'spilelaw45.JourneyTransits', WHERE WHAT IT READS IS OF BULK AT MOST 1048576: true; the input reads as it did. -/
def journeyTransitsUptoRow : OpenClaim := { program := "ytoamikbdfedngaa", sum := "c7a32c07d4f3feb5761056b3fc4e10fbcbabac0f9dc92a419334bb3918986b54", func := "spile/spilelaw45.JourneyTransits", spec := "journeyTransits", unfollowed := true, recurses := true, named := ["math/bits.divideError", "math/bits.overflowError"], apart := false, narrowed := true }
def JourneyTransitsUptoSaid : Prop := journeyTransitsUptoRow.holds Try.pinned (OpenSpec.upto journeyTransitsSpec)

/-- 'spilelaw45.JourneyClaims', WHERE WHAT IT READS IS OF BULK AT MOST 1048576: true; the input reads as it did. -/
def journeyClaimsUptoRow : OpenClaim := { program := "ytoamikbdfedngaa", sum := "c7a32c07d4f3feb5761056b3fc4e10fbcbabac0f9dc92a419334bb3918986b54", func := "spile/spilelaw45.JourneyClaims", spec := "journeyClaims", unfollowed := true, recurses := true, named := ["math/bits.divideError", "math/bits.overflowError"], apart := false, narrowed := true }
def JourneyClaimsUptoSaid : Prop := journeyClaimsUptoRow.holds Try.pinned (OpenSpec.upto journeyClaimsSpec)

/-- 'spilelaw45.JourneyRuns', WHERE WHAT IT READS IS OF BULK AT MOST 1048576: true; the input reads as it did. -/
def journeyRunsUptoRow : OpenClaim := { program := "ytoamikbdfedngaa", sum := "c7a32c07d4f3feb5761056b3fc4e10fbcbabac0f9dc92a419334bb3918986b54", func := "spile/spilelaw45.JourneyRuns", spec := "journeyRuns", unfollowed := true, recurses := true, named := ["math/bits.divideError", "math/bits.overflowError"], apart := false, narrowed := true }
def JourneyRunsUptoSaid : Prop := journeyRunsUptoRow.holds Try.pinned (OpenSpec.upto journeyRunsSpec)

/-- 'spilelaw45.JourneyCloses', WHERE WHAT IT READS IS OF BULK AT MOST 1048576: true; the input reads as it did. -/
def journeyClosesUptoRow : OpenClaim := { program := "ytoamikbdfedngaa", sum := "c7a32c07d4f3feb5761056b3fc4e10fbcbabac0f9dc92a419334bb3918986b54", func := "spile/spilelaw45.JourneyCloses", spec := "journeyCloses", unfollowed := true, recurses := true, named := ["math/bits.divideError", "math/bits.overflowError"], apart := false, narrowed := true }
def JourneyClosesUptoSaid : Prop := journeyClosesUptoRow.holds Try.pinned (OpenSpec.upto journeyClosesSpec)

/-- 'spilelaw45.JourneyKnown', WHERE WHAT IT READS IS OF BULK AT MOST 1048576: true; the input reads as it did. -/
def journeyKnownUptoRow : OpenClaim := { program := "ytoamikbdfedngaa", sum := "c7a32c07d4f3feb5761056b3fc4e10fbcbabac0f9dc92a419334bb3918986b54", func := "spile/spilelaw45.JourneyKnown", spec := "journeyKnown", unfollowed := true, recurses := true, named := ["math/bits.divideError", "math/bits.overflowError"], apart := false, narrowed := true }
def JourneyKnownUptoSaid : Prop := journeyKnownUptoRow.holds Try.pinned (OpenSpec.upto journeyKnownSpec)

end Rows
end Go.Proofs.Ytoamikbdfedngaa
