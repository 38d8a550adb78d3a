/-
  No cell of these rows narrows 'for every input' (looked for: loops, veiled, ifaces, maps, wideKeys, modest, calm, conditions, laid).
  DERIVED. THE GIVEN ROWS OF THIS SEAT. 7 by the template 'for every input the law returns true; each argument reads behind the call as it read before'; 0 by the template 'total and deterministic' (their statements: YtlnjnfbdcdmacaaTotals.lean).
  GIVEN WITH THE SEED: the statements are not yours to turn. If you find one false, say at which input.
  Laid BY PROGRAM, IN A SANDBOX (cutbox-rows.mjs): the forced cells as the released guide's own fill.sh prints them over the translation e7f889fa2f94cb48… (all of the seat's roots in one cut). By AI agents, Wed Nov 11 2026. No macro, syntax, notation, axiom, sorry.
-/
import Derived.Test.YtlnjnfbdcdmacaaChecked
import GoSem.Claim
import GoSem.ClaimJoined
import GoSem.ClaimMapViews
import Derived.JoinedTies
import Derived.KernelRfl
namespace Go.Proofs.Ytlnjnfbdcdmacaa
/- THE CELL 'sum', in the pinned program and in every row, IS THE sha256 OF THE DUMP (.gsa) THAT YtlnjnfbdcdmacaaProg.lean LOADS. Nothing in Lean hashes anything: it is a label: what it is worth is what the hold of that sum in a sandbox is worth. -/
noncomputable def Try.pinned : Pinned := { name := "ytlnjnfbdcdmacaa", sum := "e7f889fa2f94cb48563dfca6fab126d5f184791f36892563c5f42fcea24a8bf2", checked := Try.checked }
namespace Rows
def none {H : Type} : Left H := { results := [], args := [] }

/-- 'spilelaw48.DrawbackRefunds': WHATEVER THE INPUT: true; the input reads as it did. -/
def drawbackRefundsSpec : ChangeSpec := { name := "drawbackRefunds", fn := fun _ => fun
  | [d1, d2, d3] => { results := [.lit (.bool true)], args := [d1, d2, d3] }
  | _ => none }
def drawbackRefundsRow : OpenClaim := { program := "ytlnjnfbdcdmacaa", sum := "e7f889fa2f94cb48563dfca6fab126d5f184791f36892563c5f42fcea24a8bf2", func := "spile/spilelaw48.DrawbackRefunds", spec := "drawbackRefunds", unfollowed := true, recurses := true, named := ["math/bits.divideError", "math/bits.overflowError"], apart := false }
def DrawbackRefundsSaid : Prop := drawbackRefundsRow.holds Try.pinned (OpenSpec.ofChange drawbackRefundsSpec)

/-- ITS FALSE NEIGHBOUR: 'it returns false'. Refute it at one input. -/
def drawbackRefundsWrong : ChangeSpec := { name := "drawbackRefunds", fn := fun _ => fun
  | [d1, d2, d3] => { results := [.lit (.bool false)], args := [d1, d2, d3] }
  | _ => none }
def DrawbackRefundsWrongFalsely : Prop := drawbackRefundsRow.holds Try.pinned (OpenSpec.ofChange drawbackRefundsWrong)

/-- 'spilelaw48.DrawbackLeaves': WHATEVER THE INPUT: true; the input reads as it did. -/
def drawbackLeavesSpec : ChangeSpec := { name := "drawbackLeaves", fn := fun _ => fun
  | [d1, d2, d3, d4] => { results := [.lit (.bool true)], args := [d1, d2, d3, d4] }
  | _ => none }
def drawbackLeavesRow : OpenClaim := { program := "ytlnjnfbdcdmacaa", sum := "e7f889fa2f94cb48563dfca6fab126d5f184791f36892563c5f42fcea24a8bf2", func := "spile/spilelaw48.DrawbackLeaves", spec := "drawbackLeaves", unfollowed := true, recurses := true, named := ["math/bits.divideError", "math/bits.overflowError"], apart := false }
def DrawbackLeavesSaid : Prop := drawbackLeavesRow.holds Try.pinned (OpenSpec.ofChange drawbackLeavesSpec)

/-- ITS FALSE NEIGHBOUR: 'it returns false'. Refute it at one input. -/
def drawbackLeavesWrong : ChangeSpec := { name := "drawbackLeaves", fn := fun _ => fun
  | [d1, d2, d3, d4] => { results := [.lit (.bool false)], args := [d1, d2, d3, d4] }
  | _ => none }
def DrawbackLeavesWrongFalsely : Prop := drawbackLeavesRow.holds Try.pinned (OpenSpec.ofChange drawbackLeavesWrong)

/-- 'spilelaw48.DrawbackLate': WHATEVER THE INPUT: true; the input reads as it did. -/
def drawbackLateSpec : ChangeSpec := { name := "drawbackLate", fn := fun _ => fun
  | [d1, d2, d3, d4] => { results := [.lit (.bool true)], args := [d1, d2, d3, d4] }
  | _ => none }
def drawbackLateRow : OpenClaim := { program := "ytlnjnfbdcdmacaa", sum := "e7f889fa2f94cb48563dfca6fab126d5f184791f36892563c5f42fcea24a8bf2", func := "spile/spilelaw48.DrawbackLate", spec := "drawbackLate", unfollowed := true, recurses := true, named := ["math/bits.divideError", "math/bits.overflowError"], apart := false }
def DrawbackLateSaid : Prop := drawbackLateRow.holds Try.pinned (OpenSpec.ofChange drawbackLateSpec)

/-- ITS FALSE NEIGHBOUR: 'it returns false'. Refute it at one input. -/
def drawbackLateWrong : ChangeSpec := { name := "drawbackLate", fn := fun _ => fun
  | [d1, d2, d3, d4] => { results := [.lit (.bool false)], args := [d1, d2, d3, d4] }
  | _ => none }
def DrawbackLateWrongFalsely : Prop := drawbackLateRow.holds Try.pinned (OpenSpec.ofChange drawbackLateWrong)

/-- 'spilelaw48.DrawbackSums': WHATEVER THE INPUT: true; the input reads as it did. -/
def drawbackSumsSpec : ChangeSpec := { name := "drawbackSums", fn := fun _ => fun
  | [d1, d2, d3] => { results := [.lit (.bool true)], args := [d1, d2, d3] }
  | _ => none }
def drawbackSumsRow : OpenClaim := { program := "ytlnjnfbdcdmacaa", sum := "e7f889fa2f94cb48563dfca6fab126d5f184791f36892563c5f42fcea24a8bf2", func := "spile/spilelaw48.DrawbackSums", spec := "drawbackSums", unfollowed := true, recurses := true, named := ["math/bits.divideError", "math/bits.overflowError"], apart := false }
def DrawbackSumsSaid : Prop := drawbackSumsRow.holds Try.pinned (OpenSpec.ofChange drawbackSumsSpec)

/-- ITS FALSE NEIGHBOUR: 'it returns false'. Refute it at one input. -/
def drawbackSumsWrong : ChangeSpec := { name := "drawbackSums", fn := fun _ => fun
  | [d1, d2, d3] => { results := [.lit (.bool false)], args := [d1, d2, d3] }
  | _ => none }
def DrawbackSumsWrongFalsely : Prop := drawbackSumsRow.holds Try.pinned (OpenSpec.ofChange drawbackSumsWrong)

/-- 'spilelaw48.DrawbackOthers': WHATEVER THE INPUT: true; the input reads as it did. -/
def drawbackOthersSpec : ChangeSpec := { name := "drawbackOthers", fn := fun _ => fun
  | [d1, d2, d3, d4] => { results := [.lit (.bool true)], args := [d1, d2, d3, d4] }
  | _ => none }
def drawbackOthersRow : OpenClaim := { program := "ytlnjnfbdcdmacaa", sum := "e7f889fa2f94cb48563dfca6fab126d5f184791f36892563c5f42fcea24a8bf2", func := "spile/spilelaw48.DrawbackOthers", spec := "drawbackOthers", unfollowed := true, recurses := true, named := ["math/bits.divideError", "math/bits.overflowError"], apart := false }
def DrawbackOthersSaid : Prop := drawbackOthersRow.holds Try.pinned (OpenSpec.ofChange drawbackOthersSpec)

/-- ITS FALSE NEIGHBOUR: 'it returns false'. Refute it at one input. -/
def drawbackOthersWrong : ChangeSpec := { name := "drawbackOthers", fn := fun _ => fun
  | [d1, d2, d3, d4] => { results := [.lit (.bool false)], args := [d1, d2, d3, d4] }
  | _ => none }
def DrawbackOthersWrongFalsely : Prop := drawbackOthersRow.holds Try.pinned (OpenSpec.ofChange drawbackOthersWrong)

/-- 'spilelaw48.DrawbackNear': WHATEVER THE INPUT: true; the input reads as it did. -/
def drawbackNearSpec : ChangeSpec := { name := "drawbackNear", fn := fun _ => fun
  | [d1, d2, d3] => { results := [.lit (.bool true)], args := [d1, d2, d3] }
  | _ => none }
def drawbackNearRow : OpenClaim := { program := "ytlnjnfbdcdmacaa", sum := "e7f889fa2f94cb48563dfca6fab126d5f184791f36892563c5f42fcea24a8bf2", func := "spile/spilelaw48.DrawbackNear", spec := "drawbackNear", unfollowed := true, recurses := true, named := ["math/bits.divideError", "math/bits.overflowError"], apart := false }
def DrawbackNearSaid : Prop := drawbackNearRow.holds Try.pinned (OpenSpec.ofChange drawbackNearSpec)

/-- ITS FALSE NEIGHBOUR: 'it returns false'. Refute it at one input. -/
def drawbackNearWrong : ChangeSpec := { name := "drawbackNear", fn := fun _ => fun
  | [d1, d2, d3] => { results := [.lit (.bool false)], args := [d1, d2, d3] }
  | _ => none }
def DrawbackNearWrongFalsely : Prop := drawbackNearRow.holds Try.pinned (OpenSpec.ofChange drawbackNearWrong)

/-- 'spilelaw48.DrawbackDivided': WHATEVER THE INPUT: true; the input reads as it did. -/
def drawbackDividedSpec : ChangeSpec := { name := "drawbackDivided", fn := fun _ => fun
  | [d1, d2, d3, d4, d5] => { results := [.lit (.bool true)], args := [d1, d2, d3, d4, d5] }
  | _ => none }
def drawbackDividedRow : OpenClaim := { program := "ytlnjnfbdcdmacaa", sum := "e7f889fa2f94cb48563dfca6fab126d5f184791f36892563c5f42fcea24a8bf2", func := "spile/spilelaw48.DrawbackDivided", spec := "drawbackDivided", unfollowed := true, recurses := true, named := ["math/bits.divideError", "math/bits.overflowError"], apart := false }
def DrawbackDividedSaid : Prop := drawbackDividedRow.holds Try.pinned (OpenSpec.ofChange drawbackDividedSpec)

/-- ITS FALSE NEIGHBOUR: 'it returns false'. Refute it at one input. -/
def drawbackDividedWrong : ChangeSpec := { name := "drawbackDivided", fn := fun _ => fun
  | [d1, d2, d3, d4, d5] => { results := [.lit (.bool false)], args := [d1, d2, d3, d4, d5] }
  | _ => none }
def DrawbackDividedWrongFalsely : Prop := drawbackDividedRow.holds Try.pinned (OpenSpec.ofChange drawbackDividedWrong)

/- THE SECOND FORM. 'bulk': how many values and letters a reading holds, each counted each time it is reached (what is shared counts as often as it is met; a slice's spare places count too). A statement '..UptoSaid' is the law's where the arguments, and the package variables that the reading takes, are together of bulk at most 1048576: NARROWER than '..Said'. Prove '..Said' where nothing that the law and all that it calls make is longer than what came in: it says more and counts as full. Else prove '..UptoSaid'. A law counts once. -/
mutual
def uptoBulk {H : Type} : DataW H → Nat
  | .lit (.string bytes) => bytes.length + 1
  | .lit _ => 1
  | .nil => 1
  | .ptr d => uptoBulk d + 1
  | .slice elems spare => uptoBulkAll elems + uptoBulkAll spare + 1
  | .agg parts => uptoBulkAll parts + 1
  | .iface _ d => uptoBulk d + 1
  | .map entries => uptoBulkEntries entries + 1
  | .held _ => 1
def uptoBulkAll {H : Type} : List (DataW H) → Nat
  | [] => 0
  | d :: r => uptoBulk d + uptoBulkAll r
def uptoBulkEntries {H : Type} : List (Lit × DataW H) → Nat
  | [] => 0
  | x :: r => uptoBulkEntry x + uptoBulkEntries r
def uptoBulkEntry {H : Type} : Lit × DataW H → Nat
  | (.string bytes, d) => bytes.length + uptoBulk d + 1
  | (_, d) => uptoBulk d + 1
 end
def uptoSmall : (H : Type) → List (DataW H) → Bool := fun _ ds => decide (uptoBulkAll ds ≤ 1048576)
def OpenSpec.upto (s : _root_.Go.ChangeSpec) : _root_.Go.OpenSpec := { _root_.Go.OpenSpec.ofChange s with cond := some uptoSmall }

/-- 'spilelaw48.DrawbackRefunds', WHERE WHAT IT READS IS OF BULK AT MOST 1048576: true; the input reads as it did. -/
def drawbackRefundsUptoRow : OpenClaim := { program := "ytlnjnfbdcdmacaa", sum := "e7f889fa2f94cb48563dfca6fab126d5f184791f36892563c5f42fcea24a8bf2", func := "spile/spilelaw48.DrawbackRefunds", spec := "drawbackRefunds", unfollowed := true, recurses := true, named := ["math/bits.divideError", "math/bits.overflowError"], apart := false, narrowed := true }
def DrawbackRefundsUptoSaid : Prop := drawbackRefundsUptoRow.holds Try.pinned (OpenSpec.upto drawbackRefundsSpec)

/-- 'spilelaw48.DrawbackLeaves', WHERE WHAT IT READS IS OF BULK AT MOST 1048576: true; the input reads as it did. -/
def drawbackLeavesUptoRow : OpenClaim := { program := "ytlnjnfbdcdmacaa", sum := "e7f889fa2f94cb48563dfca6fab126d5f184791f36892563c5f42fcea24a8bf2", func := "spile/spilelaw48.DrawbackLeaves", spec := "drawbackLeaves", unfollowed := true, recurses := true, named := ["math/bits.divideError", "math/bits.overflowError"], apart := false, narrowed := true }
def DrawbackLeavesUptoSaid : Prop := drawbackLeavesUptoRow.holds Try.pinned (OpenSpec.upto drawbackLeavesSpec)

/-- 'spilelaw48.DrawbackLate', WHERE WHAT IT READS IS OF BULK AT MOST 1048576: true; the input reads as it did. -/
def drawbackLateUptoRow : OpenClaim := { program := "ytlnjnfbdcdmacaa", sum := "e7f889fa2f94cb48563dfca6fab126d5f184791f36892563c5f42fcea24a8bf2", func := "spile/spilelaw48.DrawbackLate", spec := "drawbackLate", unfollowed := true, recurses := true, named := ["math/bits.divideError", "math/bits.overflowError"], apart := false, narrowed := true }
def DrawbackLateUptoSaid : Prop := drawbackLateUptoRow.holds Try.pinned (OpenSpec.upto drawbackLateSpec)

/-- 'spilelaw48.DrawbackSums', WHERE WHAT IT READS IS OF BULK AT MOST 1048576: true; the input reads as it did. -/
def drawbackSumsUptoRow : OpenClaim := { program := "ytlnjnfbdcdmacaa", sum := "e7f889fa2f94cb48563dfca6fab126d5f184791f36892563c5f42fcea24a8bf2", func := "spile/spilelaw48.DrawbackSums", spec := "drawbackSums", unfollowed := true, recurses := true, named := ["math/bits.divideError", "math/bits.overflowError"], apart := false, narrowed := true }
def DrawbackSumsUptoSaid : Prop := drawbackSumsUptoRow.holds Try.pinned (OpenSpec.upto drawbackSumsSpec)

/-- 'spilelaw48.DrawbackOthers', WHERE WHAT IT READS IS OF BULK AT MOST 1048576: true; the input reads as it did. -/
def drawbackOthersUptoRow : OpenClaim := { program := "ytlnjnfbdcdmacaa", sum := "e7f889fa2f94cb48563dfca6fab126d5f184791f36892563c5f42fcea24a8bf2", func := "spile/spilelaw48.DrawbackOthers", spec := "drawbackOthers", unfollowed := true, recurses := true, named := ["math/bits.divideError", "math/bits.overflowError"], apart := false, narrowed := true }
def DrawbackOthersUptoSaid : Prop := drawbackOthersUptoRow.holds Try.pinned (OpenSpec.upto drawbackOthersSpec)

/-- 'spilelaw48.DrawbackNear', WHERE WHAT IT READS IS OF BULK AT MOST 1048576: true; the input reads as it did. -/
def drawbackNearUptoRow : OpenClaim := { program := "ytlnjnfbdcdmacaa", sum := "e7f889fa2f94cb48563dfca6fab126d5f184791f36892563c5f42fcea24a8bf2", func := "spile/spilelaw48.DrawbackNear", spec := "drawbackNear", unfollowed := true, recurses := true, named := ["math/bits.divideError", "math/bits.overflowError"], apart := false, narrowed := true }
def DrawbackNearUptoSaid : Prop := drawbackNearUptoRow.holds Try.pinned (OpenSpec.upto drawbackNearSpec)

/-- 'spilelaw48.DrawbackDivided', WHERE WHAT IT READS IS OF BULK AT MOST 1048576: true; the input reads as it did. -/
def drawbackDividedUptoRow : OpenClaim := { program := "ytlnjnfbdcdmacaa", sum := "e7f889fa2f94cb48563dfca6fab126d5f184791f36892563c5f42fcea24a8bf2", func := "spile/spilelaw48.DrawbackDivided", spec := "drawbackDivided", unfollowed := true, recurses := true, named := ["math/bits.divideError", "math/bits.overflowError"], apart := false, narrowed := true }
def DrawbackDividedUptoSaid : Prop := drawbackDividedUptoRow.holds Try.pinned (OpenSpec.upto drawbackDividedSpec)

end Rows
end Go.Proofs.Ytlnjnfbdcdmacaa
