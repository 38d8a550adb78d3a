/-
  No cell of these rows narrows 'for every input' (looked for: loops, veiled, ifaces, maps, wideKeys, modest, calm, conditions, laid).
  DERIVED. THE GIVEN ROWS OF THIS SEAT. 7 by the template 'for every input the law returns true; each argument reads behind the call as it read before'; 0 by the template 'total and deterministic' (their statements: YtnllddiplcmdnaaTotals.lean).
  GIVEN WITH THE SEED: the statements are not yours to turn. If you find one false, say at which input.
  Laid BY PROGRAM, IN A SANDBOX (cutbox-rows.mjs): the forced cells as the released guide's own fill.sh prints them over the translation af7157818e8de717… (all of the seat's roots in one cut). By AI agents, Wed Nov 11 2026. No macro, syntax, notation, axiom, sorry.
-/
import Derived.Test.YtnllddiplcmdnaaChecked
import GoSem.Claim
import GoSem.ClaimJoined
import GoSem.ClaimMapViews
import Derived.JoinedTies
import Derived.KernelRfl
namespace Go.Proofs.Ytnllddiplcmdnaa
/- THE CELL 'sum', in the pinned program and in every row, IS THE sha256 OF THE DUMP (.gsa) THAT YtnllddiplcmdnaaProg.lean LOADS. Nothing in Lean hashes anything: it is a label: what it is worth is what the hold of that sum in a sandbox is worth. -/
noncomputable def Try.pinned : Pinned := { name := "ytnllddiplcmdnaa", sum := "af7157818e8de717304eb76e257dadad821a47990c3fb0b9beb3b163343343d0", checked := Try.checked }
namespace Rows
def none {H : Type} : Left H := { results := [], args := [] }

/-- 'spilelaw31.SeasonAllows': WHATEVER THE INPUT: true; the input reads as it did. -/
def seasonAllowsSpec : ChangeSpec := { name := "seasonAllows", fn := fun _ => fun
  | [d1, d2] => { results := [.lit (.bool true)], args := [d1, d2] }
  | _ => none }
def seasonAllowsRow : OpenClaim := { program := "ytnllddiplcmdnaa", sum := "af7157818e8de717304eb76e257dadad821a47990c3fb0b9beb3b163343343d0", func := "spile/spilelaw31.SeasonAllows", spec := "seasonAllows", unfollowed := true, recurses := true, named := ["math/bits.divideError", "math/bits.overflowError"], apart := false }
def SeasonAllowsSaid : Prop := seasonAllowsRow.holds Try.pinned (OpenSpec.ofChange seasonAllowsSpec)

/-- ITS FALSE NEIGHBOUR: 'it returns false'. Refute it at one input. -/
def seasonAllowsWrong : ChangeSpec := { name := "seasonAllows", fn := fun _ => fun
  | [d1, d2] => { results := [.lit (.bool false)], args := [d1, d2] }
  | _ => none }
def SeasonAllowsWrongFalsely : Prop := seasonAllowsRow.holds Try.pinned (OpenSpec.ofChange seasonAllowsWrong)

/-- 'spilelaw31.SeasonParts': WHATEVER THE INPUT: true; the input reads as it did. -/
def seasonPartsSpec : ChangeSpec := { name := "seasonParts", fn := fun _ => fun
  | [d1, d2, d3] => { results := [.lit (.bool true)], args := [d1, d2, d3] }
  | _ => none }
def seasonPartsRow : OpenClaim := { program := "ytnllddiplcmdnaa", sum := "af7157818e8de717304eb76e257dadad821a47990c3fb0b9beb3b163343343d0", func := "spile/spilelaw31.SeasonParts", spec := "seasonParts", unfollowed := true, recurses := true, named := ["math/bits.divideError", "math/bits.overflowError"], apart := false }
def SeasonPartsSaid : Prop := seasonPartsRow.holds Try.pinned (OpenSpec.ofChange seasonPartsSpec)

/-- ITS FALSE NEIGHBOUR: 'it returns false'. Refute it at one input. -/
def seasonPartsWrong : ChangeSpec := { name := "seasonParts", fn := fun _ => fun
  | [d1, d2, d3] => { results := [.lit (.bool false)], args := [d1, d2, d3] }
  | _ => none }
def SeasonPartsWrongFalsely : Prop := seasonPartsRow.holds Try.pinned (OpenSpec.ofChange seasonPartsWrong)

/-- 'spilelaw31.SeasonBounded': WHATEVER THE INPUT: true; the input reads as it did. -/
def seasonBoundedSpec : ChangeSpec := { name := "seasonBounded", fn := fun _ => fun
  | [d1, d2, d3] => { results := [.lit (.bool true)], args := [d1, d2, d3] }
  | _ => none }
def seasonBoundedRow : OpenClaim := { program := "ytnllddiplcmdnaa", sum := "af7157818e8de717304eb76e257dadad821a47990c3fb0b9beb3b163343343d0", func := "spile/spilelaw31.SeasonBounded", spec := "seasonBounded", unfollowed := true, recurses := true, named := ["math/bits.divideError", "math/bits.overflowError"], apart := false }
def SeasonBoundedSaid : Prop := seasonBoundedRow.holds Try.pinned (OpenSpec.ofChange seasonBoundedSpec)

/-- ITS FALSE NEIGHBOUR: 'it returns false'. Refute it at one input. -/
def seasonBoundedWrong : ChangeSpec := { name := "seasonBounded", fn := fun _ => fun
  | [d1, d2, d3] => { results := [.lit (.bool false)], args := [d1, d2, d3] }
  | _ => none }
def SeasonBoundedWrongFalsely : Prop := seasonBoundedRow.holds Try.pinned (OpenSpec.ofChange seasonBoundedWrong)

/-- 'spilelaw31.SeasonRates': WHATEVER THE INPUT: true; the input reads as it did. -/
def seasonRatesSpec : ChangeSpec := { name := "seasonRates", fn := fun _ => fun
  | [d1, d2, d3] => { results := [.lit (.bool true)], args := [d1, d2, d3] }
  | _ => none }
def seasonRatesRow : OpenClaim := { program := "ytnllddiplcmdnaa", sum := "af7157818e8de717304eb76e257dadad821a47990c3fb0b9beb3b163343343d0", func := "spile/spilelaw31.SeasonRates", spec := "seasonRates", unfollowed := true, recurses := true, named := ["math/bits.divideError", "math/bits.overflowError"], apart := false }
def SeasonRatesSaid : Prop := seasonRatesRow.holds Try.pinned (OpenSpec.ofChange seasonRatesSpec)

/-- ITS FALSE NEIGHBOUR: 'it returns false'. Refute it at one input. -/
def seasonRatesWrong : ChangeSpec := { name := "seasonRates", fn := fun _ => fun
  | [d1, d2, d3] => { results := [.lit (.bool false)], args := [d1, d2, d3] }
  | _ => none }
def SeasonRatesWrongFalsely : Prop := seasonRatesRow.holds Try.pinned (OpenSpec.ofChange seasonRatesWrong)

/-- 'spilelaw31.SeasonFound': WHATEVER THE INPUT: true; the input reads as it did. -/
def seasonFoundSpec : ChangeSpec := { name := "seasonFound", fn := fun _ => fun
  | [d1, d2, d3] => { results := [.lit (.bool true)], args := [d1, d2, d3] }
  | _ => none }
def seasonFoundRow : OpenClaim := { program := "ytnllddiplcmdnaa", sum := "af7157818e8de717304eb76e257dadad821a47990c3fb0b9beb3b163343343d0", func := "spile/spilelaw31.SeasonFound", spec := "seasonFound", unfollowed := true, recurses := true, named := ["math/bits.divideError", "math/bits.overflowError"], apart := false }
def SeasonFoundSaid : Prop := seasonFoundRow.holds Try.pinned (OpenSpec.ofChange seasonFoundSpec)

/-- ITS FALSE NEIGHBOUR: 'it returns false'. Refute it at one input. -/
def seasonFoundWrong : ChangeSpec := { name := "seasonFound", fn := fun _ => fun
  | [d1, d2, d3] => { results := [.lit (.bool false)], args := [d1, d2, d3] }
  | _ => none }
def SeasonFoundWrongFalsely : Prop := seasonFoundRow.holds Try.pinned (OpenSpec.ofChange seasonFoundWrong)

/-- 'spilelaw31.SeasonAdds': WHATEVER THE INPUT: true; the input reads as it did. -/
def seasonAddsSpec : ChangeSpec := { name := "seasonAdds", fn := fun _ => fun
  | [d1, d2] => { results := [.lit (.bool true)], args := [d1, d2] }
  | _ => none }
def seasonAddsRow : OpenClaim := { program := "ytnllddiplcmdnaa", sum := "af7157818e8de717304eb76e257dadad821a47990c3fb0b9beb3b163343343d0", func := "spile/spilelaw31.SeasonAdds", spec := "seasonAdds", unfollowed := true, recurses := true, named := ["math/bits.divideError", "math/bits.overflowError"], apart := false }
def SeasonAddsSaid : Prop := seasonAddsRow.holds Try.pinned (OpenSpec.ofChange seasonAddsSpec)

/-- ITS FALSE NEIGHBOUR: 'it returns false'. Refute it at one input. -/
def seasonAddsWrong : ChangeSpec := { name := "seasonAdds", fn := fun _ => fun
  | [d1, d2] => { results := [.lit (.bool false)], args := [d1, d2] }
  | _ => none }
def SeasonAddsWrongFalsely : Prop := seasonAddsRow.holds Try.pinned (OpenSpec.ofChange seasonAddsWrong)

/-- 'spilelaw31.SeasonVersions': WHATEVER THE INPUT: true; the input reads as it did. -/
def seasonVersionsSpec : ChangeSpec := { name := "seasonVersions", fn := fun _ => fun
  | [d1, d2, d3] => { results := [.lit (.bool true)], args := [d1, d2, d3] }
  | _ => none }
def seasonVersionsRow : OpenClaim := { program := "ytnllddiplcmdnaa", sum := "af7157818e8de717304eb76e257dadad821a47990c3fb0b9beb3b163343343d0", func := "spile/spilelaw31.SeasonVersions", spec := "seasonVersions", unfollowed := true, recurses := true, named := ["math/bits.divideError", "math/bits.overflowError"], apart := false }
def SeasonVersionsSaid : Prop := seasonVersionsRow.holds Try.pinned (OpenSpec.ofChange seasonVersionsSpec)

/-- ITS FALSE NEIGHBOUR: 'it returns false'. Refute it at one input. -/
def seasonVersionsWrong : ChangeSpec := { name := "seasonVersions", fn := fun _ => fun
  | [d1, d2, d3] => { results := [.lit (.bool false)], args := [d1, d2, d3] }
  | _ => none }
def SeasonVersionsWrongFalsely : Prop := seasonVersionsRow.holds Try.pinned (OpenSpec.ofChange seasonVersionsWrong)

/- THE SECOND FORM. 'bulk': how many values and letters a reading holds, each counted each time it is reached (what is shared counts as often as it is met; a slice's spare places count too). A statement '..UptoSaid' is the law's where the arguments, and the package variables that the reading takes, are together of bulk at most 1048576: NARROWER than '..Said'. Prove '..Said' where nothing that the law and all that it calls make is longer than what came in: it says more and counts as full. Else prove '..UptoSaid'. A law counts once. -/
mutual
def uptoBulk {H : Type} : DataW H → Nat
  | .lit (.string bytes) => bytes.length + 1
  | .lit _ => 1
  | .nil => 1
  | .ptr d => uptoBulk d + 1
  | .slice elems spare => uptoBulkAll elems + uptoBulkAll spare + 1
  | .agg parts => uptoBulkAll parts + 1
  | .iface _ d => uptoBulk d + 1
  | .map entries => uptoBulkEntries entries + 1
  | .held _ => 1
def uptoBulkAll {H : Type} : List (DataW H) → Nat
  | [] => 0
  | d :: r => uptoBulk d + uptoBulkAll r
def uptoBulkEntries {H : Type} : List (Lit × DataW H) → Nat
  | [] => 0
  | x :: r => uptoBulkEntry x + uptoBulkEntries r
def uptoBulkEntry {H : Type} : Lit × DataW H → Nat
  | (.string bytes, d) => bytes.length + uptoBulk d + 1
  | (_, d) => uptoBulk d + 1
 end
def uptoSmall : (H : Type) → List (DataW H) → Bool := fun _ ds => decide (uptoBulkAll ds ≤ 1048576)
def OpenSpec.upto (s : _root_.Go.ChangeSpec) : _root_.Go.OpenSpec := { _root_.Go.OpenSpec.ofChange s with cond := some uptoSmall }

/-- 'spilelaw31.SeasonAllows', WHERE WHAT IT READS IS OF BULK AT MOST 1048576: true; the input reads as it did. -/
def seasonAllowsUptoRow : OpenClaim := { program := "ytnllddiplcmdnaa", sum := "af7157818e8de717304eb76e257dadad821a47990c3fb0b9beb3b163343343d0", func := "spile/spilelaw31.SeasonAllows", spec := "seasonAllows", unfollowed := true, recurses := true, named := ["math/bits.divideError", "math/bits.overflowError"], apart := false, narrowed := true }
def SeasonAllowsUptoSaid : Prop := seasonAllowsUptoRow.holds Try.pinned (OpenSpec.upto seasonAllowsSpec)

/-- 'spilelaw31.SeasonParts', WHERE WHAT IT READS IS OF BULK AT MOST 1048576: true; the input reads as it did. -/
def seasonPartsUptoRow : OpenClaim := { program := "ytnllddiplcmdnaa", sum := "af7157818e8de717304eb76e257dadad821a47990c3fb0b9beb3b163343343d0", func := "spile/spilelaw31.SeasonParts", spec := "seasonParts", unfollowed := true, recurses := true, named := ["math/bits.divideError", "math/bits.overflowError"], apart := false, narrowed := true }
def SeasonPartsUptoSaid : Prop := seasonPartsUptoRow.holds Try.pinned (OpenSpec.upto seasonPartsSpec)

/-- 'spilelaw31.SeasonBounded', WHERE WHAT IT READS IS OF BULK AT MOST 1048576: true; the input reads as it did. -/
def seasonBoundedUptoRow : OpenClaim := { program := "ytnllddiplcmdnaa", sum := "af7157818e8de717304eb76e257dadad821a47990c3fb0b9beb3b163343343d0", func := "spile/spilelaw31.SeasonBounded", spec := "seasonBounded", unfollowed := true, recurses := true, named := ["math/bits.divideError", "math/bits.overflowError"], apart := false, narrowed := true }
def SeasonBoundedUptoSaid : Prop := seasonBoundedUptoRow.holds Try.pinned (OpenSpec.upto seasonBoundedSpec)

/-- 'spilelaw31.SeasonRates', WHERE WHAT IT READS IS OF BULK AT MOST 1048576: true; the input reads as it did. -/
def seasonRatesUptoRow : OpenClaim := { program := "ytnllddiplcmdnaa", sum := "af7157818e8de717304eb76e257dadad821a47990c3fb0b9beb3b163343343d0", func := "spile/spilelaw31.SeasonRates", spec := "seasonRates", unfollowed := true, recurses := true, named := ["math/bits.divideError", "math/bits.overflowError"], apart := false, narrowed := true }
def SeasonRatesUptoSaid : Prop := seasonRatesUptoRow.holds Try.pinned (OpenSpec.upto seasonRatesSpec)

/-- 'spilelaw31.SeasonFound', WHERE WHAT IT READS IS OF BULK AT MOST 1048576: true; the input reads as it did. -/
def seasonFoundUptoRow : OpenClaim := { program := "ytnllddiplcmdnaa", sum := "af7157818e8de717304eb76e257dadad821a47990c3fb0b9beb3b163343343d0", func := "spile/spilelaw31.SeasonFound", spec := "seasonFound", unfollowed := true, recurses := true, named := ["math/bits.divideError", "math/bits.overflowError"], apart := false, narrowed := true }
def SeasonFoundUptoSaid : Prop := seasonFoundUptoRow.holds Try.pinned (OpenSpec.upto seasonFoundSpec)

/-- 'spilelaw31.SeasonAdds', WHERE WHAT IT READS IS OF BULK AT MOST 1048576: true; the input reads as it did. -/
def seasonAddsUptoRow : OpenClaim := { program := "ytnllddiplcmdnaa", sum := "af7157818e8de717304eb76e257dadad821a47990c3fb0b9beb3b163343343d0", func := "spile/spilelaw31.SeasonAdds", spec := "seasonAdds", unfollowed := true, recurses := true, named := ["math/bits.divideError", "math/bits.overflowError"], apart := false, narrowed := true }
def SeasonAddsUptoSaid : Prop := seasonAddsUptoRow.holds Try.pinned (OpenSpec.upto seasonAddsSpec)

/-- 'spilelaw31.SeasonVersions', WHERE WHAT IT READS IS OF BULK AT MOST 1048576: true; the input reads as it did. -/
def seasonVersionsUptoRow : OpenClaim := { program := "ytnllddiplcmdnaa", sum := "af7157818e8de717304eb76e257dadad821a47990c3fb0b9beb3b163343343d0", func := "spile/spilelaw31.SeasonVersions", spec := "seasonVersions", unfollowed := true, recurses := true, named := ["math/bits.divideError", "math/bits.overflowError"], apart := false, narrowed := true }
def SeasonVersionsUptoSaid : Prop := seasonVersionsUptoRow.holds Try.pinned (OpenSpec.upto seasonVersionsSpec)

end Rows
end Go.Proofs.Ytnllddiplcmdnaa
