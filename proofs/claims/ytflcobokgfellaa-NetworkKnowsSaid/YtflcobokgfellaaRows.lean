/-
  No cell of these rows narrows 'for every input' (looked for: loops, veiled, ifaces, maps, wideKeys, modest, calm, conditions, laid).
  DERIVED. THE GIVEN ROWS OF THIS SEAT. 7 by the template 'for every input the law returns true; each argument reads behind the call as it read before'; 0 by the template 'total and deterministic' (their statements: YtflcobokgfellaaTotals.lean).
  GIVEN WITH THE SEED: the statements are not yours to turn. If you find one false, say at which input.
  Laid BY PROGRAM, IN A SANDBOX (cutbox-rows.mjs): the forced cells as the released guide's own fill.sh prints them over the translation 2a713d1b8dd464c8… (all of the seat's roots in one cut). By AI agents, Wed Nov 11 2026. No macro, syntax, notation, axiom, sorry.
-/
import Derived.Test.YtflcobokgfellaaChecked
import GoSem.Claim
import GoSem.ClaimJoined
import GoSem.ClaimMapViews
import Derived.JoinedTies
import Derived.KernelRfl
namespace Go.Proofs.Ytflcobokgfellaa
/- THE CELL 'sum', in the pinned program and in every row, IS THE sha256 OF THE DUMP (.gsa) THAT YtflcobokgfellaaProg.lean LOADS. Nothing in Lean hashes anything: it is a label: what it is worth is what the hold of that sum in a sandbox is worth. -/
noncomputable def Try.pinned : Pinned := { name := "ytflcobokgfellaa", sum := "2a713d1b8dd464c880364cc0369cff1a63ca7a28e42167eb1b4529bd980a1f0c", checked := Try.checked }
namespace Rows
def none {H : Type} : Left H := { results := [], args := [] }

/-- 'spilelaw41.NetworkDelivers': WHATEVER THE INPUT: true; the input reads as it did. -/
def networkDeliversSpec : ChangeSpec := { name := "networkDelivers", fn := fun _ => fun
  | [d1, d2, d3] => { results := [.lit (.bool true)], args := [d1, d2, d3] }
  | _ => none }
def networkDeliversRow : OpenClaim := { program := "ytflcobokgfellaa", sum := "2a713d1b8dd464c880364cc0369cff1a63ca7a28e42167eb1b4529bd980a1f0c", func := "spile/spilelaw41.NetworkDelivers", spec := "networkDelivers", unfollowed := true, recurses := true, plainKeys := false, apart := false }
def NetworkDeliversSaid : Prop := networkDeliversRow.holds Try.pinned (OpenSpec.ofChange networkDeliversSpec)

/-- ITS FALSE NEIGHBOUR: 'it returns false'. Refute it at one input. -/
def networkDeliversWrong : ChangeSpec := { name := "networkDelivers", fn := fun _ => fun
  | [d1, d2, d3] => { results := [.lit (.bool false)], args := [d1, d2, d3] }
  | _ => none }
def NetworkDeliversWrongFalsely : Prop := networkDeliversRow.holds Try.pinned (OpenSpec.ofChange networkDeliversWrong)

/-- 'spilelaw41.NetworkCounts': WHATEVER THE INPUT: true; the input reads as it did. -/
def networkCountsSpec : ChangeSpec := { name := "networkCounts", fn := fun _ => fun
  | [d1, d2] => { results := [.lit (.bool true)], args := [d1, d2] }
  | _ => none }
def networkCountsRow : OpenClaim := { program := "ytflcobokgfellaa", sum := "2a713d1b8dd464c880364cc0369cff1a63ca7a28e42167eb1b4529bd980a1f0c", func := "spile/spilelaw41.NetworkCounts", spec := "networkCounts", unfollowed := true, recurses := true, plainKeys := false, apart := false }
def NetworkCountsSaid : Prop := networkCountsRow.holds Try.pinned (OpenSpec.ofChange networkCountsSpec)

/-- ITS FALSE NEIGHBOUR: 'it returns false'. Refute it at one input. -/
def networkCountsWrong : ChangeSpec := { name := "networkCounts", fn := fun _ => fun
  | [d1, d2] => { results := [.lit (.bool false)], args := [d1, d2] }
  | _ => none }
def NetworkCountsWrongFalsely : Prop := networkCountsRow.holds Try.pinned (OpenSpec.ofChange networkCountsWrong)

/-- 'spilelaw41.NetworkAccounts': WHATEVER THE INPUT: true; the input reads as it did. -/
def networkAccountsSpec : ChangeSpec := { name := "networkAccounts", fn := fun _ => fun
  | [d1, d2] => { results := [.lit (.bool true)], args := [d1, d2] }
  | _ => none }
def networkAccountsRow : OpenClaim := { program := "ytflcobokgfellaa", sum := "2a713d1b8dd464c880364cc0369cff1a63ca7a28e42167eb1b4529bd980a1f0c", func := "spile/spilelaw41.NetworkAccounts", spec := "networkAccounts", unfollowed := true, recurses := true, plainKeys := false, apart := false }
def NetworkAccountsSaid : Prop := networkAccountsRow.holds Try.pinned (OpenSpec.ofChange networkAccountsSpec)

/-- ITS FALSE NEIGHBOUR: 'it returns false'. Refute it at one input. -/
def networkAccountsWrong : ChangeSpec := { name := "networkAccounts", fn := fun _ => fun
  | [d1, d2] => { results := [.lit (.bool false)], args := [d1, d2] }
  | _ => none }
def NetworkAccountsWrongFalsely : Prop := networkAccountsRow.holds Try.pinned (OpenSpec.ofChange networkAccountsWrong)

/-- 'spilelaw41.NetworkStraight': WHATEVER THE INPUT: true; the input reads as it did. -/
def networkStraightSpec : ChangeSpec := { name := "networkStraight", fn := fun _ => fun
  | [d] => { results := [.lit (.bool true)], args := [d] }
  | _ => none }
def networkStraightRow : OpenClaim := { program := "ytflcobokgfellaa", sum := "2a713d1b8dd464c880364cc0369cff1a63ca7a28e42167eb1b4529bd980a1f0c", func := "spile/spilelaw41.NetworkStraight", spec := "networkStraight", unfollowed := true, recurses := true, plainKeys := false, apart := false }
def NetworkStraightSaid : Prop := networkStraightRow.holds Try.pinned (OpenSpec.ofChange networkStraightSpec)

/-- ITS FALSE NEIGHBOUR: 'it returns false'. Refute it at one input. -/
def networkStraightWrong : ChangeSpec := { name := "networkStraight", fn := fun _ => fun
  | [d] => { results := [.lit (.bool false)], args := [d] }
  | _ => none }
def NetworkStraightWrongFalsely : Prop := networkStraightRow.holds Try.pinned (OpenSpec.ofChange networkStraightWrong)

/-- 'spilelaw41.NetworkTurned': WHATEVER THE INPUT: true; the input reads as it did. -/
def networkTurnedSpec : ChangeSpec := { name := "networkTurned", fn := fun _ => fun
  | [d1, d2] => { results := [.lit (.bool true)], args := [d1, d2] }
  | _ => none }
def networkTurnedRow : OpenClaim := { program := "ytflcobokgfellaa", sum := "2a713d1b8dd464c880364cc0369cff1a63ca7a28e42167eb1b4529bd980a1f0c", func := "spile/spilelaw41.NetworkTurned", spec := "networkTurned", unfollowed := true, recurses := true, plainKeys := false, apart := false }
def NetworkTurnedSaid : Prop := networkTurnedRow.holds Try.pinned (OpenSpec.ofChange networkTurnedSpec)

/-- ITS FALSE NEIGHBOUR: 'it returns false'. Refute it at one input. -/
def networkTurnedWrong : ChangeSpec := { name := "networkTurned", fn := fun _ => fun
  | [d1, d2] => { results := [.lit (.bool false)], args := [d1, d2] }
  | _ => none }
def NetworkTurnedWrongFalsely : Prop := networkTurnedRow.holds Try.pinned (OpenSpec.ofChange networkTurnedWrong)

/-- 'spilelaw41.NetworkKnows': WHATEVER THE INPUT: true; the input reads as it did. -/
def networkKnowsSpec : ChangeSpec := { name := "networkKnows", fn := fun _ => fun
  | [d1, d2, d3, d4] => { results := [.lit (.bool true)], args := [d1, d2, d3, d4] }
  | _ => none }
def networkKnowsRow : OpenClaim := { program := "ytflcobokgfellaa", sum := "2a713d1b8dd464c880364cc0369cff1a63ca7a28e42167eb1b4529bd980a1f0c", func := "spile/spilelaw41.NetworkKnows", spec := "networkKnows", unfollowed := true, recurses := true, plainKeys := false, apart := false }
def NetworkKnowsSaid : Prop := networkKnowsRow.holds Try.pinned (OpenSpec.ofChange networkKnowsSpec)

/-- ITS FALSE NEIGHBOUR: 'it returns false'. Refute it at one input. -/
def networkKnowsWrong : ChangeSpec := { name := "networkKnows", fn := fun _ => fun
  | [d1, d2, d3, d4] => { results := [.lit (.bool false)], args := [d1, d2, d3, d4] }
  | _ => none }
def NetworkKnowsWrongFalsely : Prop := networkKnowsRow.holds Try.pinned (OpenSpec.ofChange networkKnowsWrong)

/-- 'spilelaw41.NetworkDocuments': WHATEVER THE INPUT: true; the input reads as it did. -/
def networkDocumentsSpec : ChangeSpec := { name := "networkDocuments", fn := fun _ => fun
  | [d1, d2, d3, d4] => { results := [.lit (.bool true)], args := [d1, d2, d3, d4] }
  | _ => none }
def networkDocumentsRow : OpenClaim := { program := "ytflcobokgfellaa", sum := "2a713d1b8dd464c880364cc0369cff1a63ca7a28e42167eb1b4529bd980a1f0c", func := "spile/spilelaw41.NetworkDocuments", spec := "networkDocuments", unfollowed := true, recurses := true, plainKeys := false, apart := false }
def NetworkDocumentsSaid : Prop := networkDocumentsRow.holds Try.pinned (OpenSpec.ofChange networkDocumentsSpec)

/-- ITS FALSE NEIGHBOUR: 'it returns false'. Refute it at one input. -/
def networkDocumentsWrong : ChangeSpec := { name := "networkDocuments", fn := fun _ => fun
  | [d1, d2, d3, d4] => { results := [.lit (.bool false)], args := [d1, d2, d3, d4] }
  | _ => none }
def NetworkDocumentsWrongFalsely : Prop := networkDocumentsRow.holds Try.pinned (OpenSpec.ofChange networkDocumentsWrong)

/- THE SECOND FORM. 'bulk': how many values and letters a reading holds, each counted each time it is reached (what is shared counts as often as it is met; a slice's spare places count too). A statement '..UptoSaid' is the law's where the arguments, and the package variables that the reading takes, are together of bulk at most 1048576: NARROWER than '..Said'. Prove '..Said' where nothing that the law and all that it calls make is longer than what came in: it says more and counts as full. Else prove '..UptoSaid'. A law counts once. -/
mutual
def uptoBulk {H : Type} : DataW H → Nat
  | .lit (.string bytes) => bytes.length + 1
  | .lit _ => 1
  | .nil => 1
  | .ptr d => uptoBulk d + 1
  | .slice elems spare => uptoBulkAll elems + uptoBulkAll spare + 1
  | .agg parts => uptoBulkAll parts + 1
  | .iface _ d => uptoBulk d + 1
  | .map entries => uptoBulkEntries entries + 1
  | .held _ => 1
def uptoBulkAll {H : Type} : List (DataW H) → Nat
  | [] => 0
  | d :: r => uptoBulk d + uptoBulkAll r
def uptoBulkEntries {H : Type} : List (Lit × DataW H) → Nat
  | [] => 0
  | x :: r => uptoBulkEntry x + uptoBulkEntries r
def uptoBulkEntry {H : Type} : Lit × DataW H → Nat
  | (.string bytes, d) => bytes.length + uptoBulk d + 1
  | (_, d) => uptoBulk d + 1
 end
def uptoSmall : (H : Type) → List (DataW H) → Bool := fun _ ds => decide (uptoBulkAll ds ≤ 1048576)
def OpenSpec.upto (s : _root_.Go.ChangeSpec) : _root_.Go.OpenSpec := { _root_.Go.OpenSpec.ofChange s with cond := some uptoSmall }

/-- 'spilelaw41.NetworkDelivers', WHERE WHAT IT READS IS OF BULK AT MOST 1048576: true; the input reads as it did. -/
def networkDeliversUptoRow : OpenClaim := { program := "ytflcobokgfellaa", sum := "2a713d1b8dd464c880364cc0369cff1a63ca7a28e42167eb1b4529bd980a1f0c", func := "spile/spilelaw41.NetworkDelivers", spec := "networkDelivers", unfollowed := true, recurses := true, plainKeys := false, apart := false, narrowed := true }
def NetworkDeliversUptoSaid : Prop := networkDeliversUptoRow.holds Try.pinned (OpenSpec.upto networkDeliversSpec)

/-- 'spilelaw41.NetworkCounts', WHERE WHAT IT READS IS OF BULK AT MOST 1048576: true; the input reads as it did. -/
def networkCountsUptoRow : OpenClaim := { program := "ytflcobokgfellaa", sum := "2a713d1b8dd464c880364cc0369cff1a63ca7a28e42167eb1b4529bd980a1f0c", func := "spile/spilelaw41.NetworkCounts", spec := "networkCounts", unfollowed := true, recurses := true, plainKeys := false, apart := false, narrowed := true }
def NetworkCountsUptoSaid : Prop := networkCountsUptoRow.holds Try.pinned (OpenSpec.upto networkCountsSpec)

/-- 'spilelaw41.NetworkAccounts', WHERE WHAT IT READS IS OF BULK AT MOST 1048576: true; the input reads as it did. -/
def networkAccountsUptoRow : OpenClaim := { program := "ytflcobokgfellaa", sum := "2a713d1b8dd464c880364cc0369cff1a63ca7a28e42167eb1b4529bd980a1f0c", func := "spile/spilelaw41.NetworkAccounts", spec := "networkAccounts", unfollowed := true, recurses := true, plainKeys := false, apart := false, narrowed := true }
def NetworkAccountsUptoSaid : Prop := networkAccountsUptoRow.holds Try.pinned (OpenSpec.upto networkAccountsSpec)

/-- 'spilelaw41.NetworkStraight', WHERE WHAT IT READS IS OF BULK AT MOST 1048576: true; the input reads as it did. -/
def networkStraightUptoRow : OpenClaim := { program := "ytflcobokgfellaa", sum := "2a713d1b8dd464c880364cc0369cff1a63ca7a28e42167eb1b4529bd980a1f0c", func := "spile/spilelaw41.NetworkStraight", spec := "networkStraight", unfollowed := true, recurses := true, plainKeys := false, apart := false, narrowed := true }
def NetworkStraightUptoSaid : Prop := networkStraightUptoRow.holds Try.pinned (OpenSpec.upto networkStraightSpec)

/-- 'spilelaw41.NetworkTurned', WHERE WHAT IT READS IS OF BULK AT MOST 1048576: true; the input reads as it did. -/
def networkTurnedUptoRow : OpenClaim := { program := "ytflcobokgfellaa", sum := "2a713d1b8dd464c880364cc0369cff1a63ca7a28e42167eb1b4529bd980a1f0c", func := "spile/spilelaw41.NetworkTurned", spec := "networkTurned", unfollowed := true, recurses := true, plainKeys := false, apart := false, narrowed := true }
def NetworkTurnedUptoSaid : Prop := networkTurnedUptoRow.holds Try.pinned (OpenSpec.upto networkTurnedSpec)

/-- 'spilelaw41.NetworkKnows', WHERE WHAT IT READS IS OF BULK AT MOST 1048576: true; the input reads as it did. -/
def networkKnowsUptoRow : OpenClaim := { program := "ytflcobokgfellaa", sum := "2a713d1b8dd464c880364cc0369cff1a63ca7a28e42167eb1b4529bd980a1f0c", func := "spile/spilelaw41.NetworkKnows", spec := "networkKnows", unfollowed := true, recurses := true, plainKeys := false, apart := false, narrowed := true }
def NetworkKnowsUptoSaid : Prop := networkKnowsUptoRow.holds Try.pinned (OpenSpec.upto networkKnowsSpec)

/-- 'spilelaw41.NetworkDocuments', WHERE WHAT IT READS IS OF BULK AT MOST 1048576: true; the input reads as it did. -/
def networkDocumentsUptoRow : OpenClaim := { program := "ytflcobokgfellaa", sum := "2a713d1b8dd464c880364cc0369cff1a63ca7a28e42167eb1b4529bd980a1f0c", func := "spile/spilelaw41.NetworkDocuments", spec := "networkDocuments", unfollowed := true, recurses := true, plainKeys := false, apart := false, narrowed := true }
def NetworkDocumentsUptoSaid : Prop := networkDocumentsUptoRow.holds Try.pinned (OpenSpec.upto networkDocumentsSpec)

end Rows
end Go.Proofs.Ytflcobokgfellaa
