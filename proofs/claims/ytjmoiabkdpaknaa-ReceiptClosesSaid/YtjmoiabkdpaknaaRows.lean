/-
  No cell of these rows narrows 'for every input' (looked for: loops, veiled, ifaces, maps, wideKeys, modest, calm, conditions, laid).
  DERIVED. THE GIVEN ROWS OF THIS SEAT. 7 by the template 'for every input the law returns true; each argument reads behind the call as it read before'; 0 by the template 'total and deterministic' (their statements: YtjmoiabkdpaknaaTotals.lean).
  GIVEN WITH THE SEED: the statements are not yours to turn. If you find one false, say at which input.
  Laid BY PROGRAM, IN A SANDBOX (cutbox-rows.mjs): the forced cells as the released guide's own fill.sh prints them over the translation 0c5fb9691e70aa17… (all of the seat's roots in one cut). By AI agents, Wed Nov 11 2026. No macro, syntax, notation, axiom, sorry.
-/
import Derived.Test.YtjmoiabkdpaknaaChecked
import GoSem.Claim
import GoSem.ClaimJoined
import GoSem.ClaimMapViews
import Derived.JoinedTies
import Derived.KernelRfl
namespace Go.Proofs.Ytjmoiabkdpaknaa
/- THE CELL 'sum', in the pinned program and in every row, IS THE sha256 OF THE DUMP (.gsa) THAT YtjmoiabkdpaknaaProg.lean LOADS. Nothing in Lean hashes anything: it is a label: what it is worth is what the hold of that sum in a sandbox is worth. -/
noncomputable def Try.pinned : Pinned := { name := "ytjmoiabkdpaknaa", sum := "0c5fb9691e70aa178514d79140bb31c28fb9f1f5f6a606e0ceacdf54ff18fd38", checked := Try.checked }
namespace Rows
def none {H : Type} : Left H := { results := [], args := [] }

/-- 'spilelaw44.ReceiptCompares': WHATEVER THE INPUT: true; the input reads as it did. -/
def receiptComparesSpec : ChangeSpec := { name := "receiptCompares", fn := fun _ => fun
  | [d1, d2] => { results := [.lit (.bool true)], args := [d1, d2] }
  | _ => none }
def receiptComparesRow : OpenClaim := { program := "ytjmoiabkdpaknaa", sum := "0c5fb9691e70aa178514d79140bb31c28fb9f1f5f6a606e0ceacdf54ff18fd38", func := "spile/spilelaw44.ReceiptCompares", spec := "receiptCompares", unfollowed := true, recurses := true, named := ["math/bits.divideError", "math/bits.overflowError"], apart := false }
def ReceiptComparesSaid : Prop := receiptComparesRow.holds Try.pinned (OpenSpec.ofChange receiptComparesSpec)

/-- ITS FALSE NEIGHBOUR: 'it returns false'. Refute it at one input. -/
def receiptComparesWrong : ChangeSpec := { name := "receiptCompares", fn := fun _ => fun
  | [d1, d2] => { results := [.lit (.bool false)], args := [d1, d2] }
  | _ => none }
def ReceiptComparesWrongFalsely : Prop := receiptComparesRow.holds Try.pinned (OpenSpec.ofChange receiptComparesWrong)

/-- 'spilelaw44.ReceiptExact': WHATEVER THE INPUT: true; the input reads as it did. -/
def receiptExactSpec : ChangeSpec := { name := "receiptExact", fn := fun _ => fun
  | [d] => { results := [.lit (.bool true)], args := [d] }
  | _ => none }
def receiptExactRow : OpenClaim := { program := "ytjmoiabkdpaknaa", sum := "0c5fb9691e70aa178514d79140bb31c28fb9f1f5f6a606e0ceacdf54ff18fd38", func := "spile/spilelaw44.ReceiptExact", spec := "receiptExact", unfollowed := true, recurses := true, named := ["math/bits.divideError", "math/bits.overflowError"], apart := false }
def ReceiptExactSaid : Prop := receiptExactRow.holds Try.pinned (OpenSpec.ofChange receiptExactSpec)

/-- ITS FALSE NEIGHBOUR: 'it returns false'. Refute it at one input. -/
def receiptExactWrong : ChangeSpec := { name := "receiptExact", fn := fun _ => fun
  | [d] => { results := [.lit (.bool false)], args := [d] }
  | _ => none }
def ReceiptExactWrongFalsely : Prop := receiptExactRow.holds Try.pinned (OpenSpec.ofChange receiptExactWrong)

/-- 'spilelaw44.ReceiptWider': WHATEVER THE INPUT: true; the input reads as it did. -/
def receiptWiderSpec : ChangeSpec := { name := "receiptWider", fn := fun _ => fun
  | [d1, d2] => { results := [.lit (.bool true)], args := [d1, d2] }
  | _ => none }
def receiptWiderRow : OpenClaim := { program := "ytjmoiabkdpaknaa", sum := "0c5fb9691e70aa178514d79140bb31c28fb9f1f5f6a606e0ceacdf54ff18fd38", func := "spile/spilelaw44.ReceiptWider", spec := "receiptWider", unfollowed := true, recurses := true, named := ["math/bits.divideError", "math/bits.overflowError"], apart := false }
def ReceiptWiderSaid : Prop := receiptWiderRow.holds Try.pinned (OpenSpec.ofChange receiptWiderSpec)

/-- ITS FALSE NEIGHBOUR: 'it returns false'. Refute it at one input. -/
def receiptWiderWrong : ChangeSpec := { name := "receiptWider", fn := fun _ => fun
  | [d1, d2] => { results := [.lit (.bool false)], args := [d1, d2] }
  | _ => none }
def ReceiptWiderWrongFalsely : Prop := receiptWiderRow.holds Try.pinned (OpenSpec.ofChange receiptWiderWrong)

/-- 'spilelaw44.ReceiptLimits': WHATEVER THE INPUT: true; the input reads as it did. -/
def receiptLimitsSpec : ChangeSpec := { name := "receiptLimits", fn := fun _ => fun
  | [d1, d2] => { results := [.lit (.bool true)], args := [d1, d2] }
  | _ => none }
def receiptLimitsRow : OpenClaim := { program := "ytjmoiabkdpaknaa", sum := "0c5fb9691e70aa178514d79140bb31c28fb9f1f5f6a606e0ceacdf54ff18fd38", func := "spile/spilelaw44.ReceiptLimits", spec := "receiptLimits", unfollowed := true, recurses := true, named := ["math/bits.divideError", "math/bits.overflowError"], apart := false }
def ReceiptLimitsSaid : Prop := receiptLimitsRow.holds Try.pinned (OpenSpec.ofChange receiptLimitsSpec)

/-- ITS FALSE NEIGHBOUR: 'it returns false'. Refute it at one input. -/
def receiptLimitsWrong : ChangeSpec := { name := "receiptLimits", fn := fun _ => fun
  | [d1, d2] => { results := [.lit (.bool false)], args := [d1, d2] }
  | _ => none }
def ReceiptLimitsWrongFalsely : Prop := receiptLimitsRow.holds Try.pinned (OpenSpec.ofChange receiptLimitsWrong)

/-- 'spilelaw44.ReceiptCloses': WHATEVER THE INPUT: true; the input reads as it did. -/
def receiptClosesSpec : ChangeSpec := { name := "receiptCloses", fn := fun _ => fun
  | [d] => { results := [.lit (.bool true)], args := [d] }
  | _ => none }
def receiptClosesRow : OpenClaim := { program := "ytjmoiabkdpaknaa", sum := "0c5fb9691e70aa178514d79140bb31c28fb9f1f5f6a606e0ceacdf54ff18fd38", func := "spile/spilelaw44.ReceiptCloses", spec := "receiptCloses", unfollowed := true, recurses := true, named := ["math/bits.divideError", "math/bits.overflowError"], apart := false }
def ReceiptClosesSaid : Prop := receiptClosesRow.holds Try.pinned (OpenSpec.ofChange receiptClosesSpec)

/-- ITS FALSE NEIGHBOUR: 'it returns false'. Refute it at one input. -/
def receiptClosesWrong : ChangeSpec := { name := "receiptCloses", fn := fun _ => fun
  | [d] => { results := [.lit (.bool false)], args := [d] }
  | _ => none }
def ReceiptClosesWrongFalsely : Prop := receiptClosesRow.holds Try.pinned (OpenSpec.ofChange receiptClosesWrong)

/-- 'spilelaw44.ReceiptTotals': WHATEVER THE INPUT: true; the input reads as it did. -/
def receiptTotalsSpec : ChangeSpec := { name := "receiptTotals", fn := fun _ => fun
  | [d1, d2, d3] => { results := [.lit (.bool true)], args := [d1, d2, d3] }
  | _ => none }
def receiptTotalsRow : OpenClaim := { program := "ytjmoiabkdpaknaa", sum := "0c5fb9691e70aa178514d79140bb31c28fb9f1f5f6a606e0ceacdf54ff18fd38", func := "spile/spilelaw44.ReceiptTotals", spec := "receiptTotals", unfollowed := true, recurses := true, named := ["math/bits.divideError", "math/bits.overflowError"], apart := false }
def ReceiptTotalsSaid : Prop := receiptTotalsRow.holds Try.pinned (OpenSpec.ofChange receiptTotalsSpec)

/-- ITS FALSE NEIGHBOUR: 'it returns false'. Refute it at one input. -/
def receiptTotalsWrong : ChangeSpec := { name := "receiptTotals", fn := fun _ => fun
  | [d1, d2, d3] => { results := [.lit (.bool false)], args := [d1, d2, d3] }
  | _ => none }
def ReceiptTotalsWrongFalsely : Prop := receiptTotalsRow.holds Try.pinned (OpenSpec.ofChange receiptTotalsWrong)

/-- 'spilelaw44.ReceiptRefuses': WHATEVER THE INPUT: true; the input reads as it did. -/
def receiptRefusesSpec : ChangeSpec := { name := "receiptRefuses", fn := fun _ => fun
  | [d1, d2] => { results := [.lit (.bool true)], args := [d1, d2] }
  | _ => none }
def receiptRefusesRow : OpenClaim := { program := "ytjmoiabkdpaknaa", sum := "0c5fb9691e70aa178514d79140bb31c28fb9f1f5f6a606e0ceacdf54ff18fd38", func := "spile/spilelaw44.ReceiptRefuses", spec := "receiptRefuses", unfollowed := true, recurses := true, named := ["math/bits.divideError", "math/bits.overflowError"], apart := false }
def ReceiptRefusesSaid : Prop := receiptRefusesRow.holds Try.pinned (OpenSpec.ofChange receiptRefusesSpec)

/-- ITS FALSE NEIGHBOUR: 'it returns false'. Refute it at one input. -/
def receiptRefusesWrong : ChangeSpec := { name := "receiptRefuses", fn := fun _ => fun
  | [d1, d2] => { results := [.lit (.bool false)], args := [d1, d2] }
  | _ => none }
def ReceiptRefusesWrongFalsely : Prop := receiptRefusesRow.holds Try.pinned (OpenSpec.ofChange receiptRefusesWrong)

/- THE SECOND FORM. 'bulk': how many values and letters a reading holds, each counted each time it is reached (what is shared counts as often as it is met; a slice's spare places count too). A statement '..UptoSaid' is the law's where the arguments, and the package variables that the reading takes, are together of bulk at most 1048576: NARROWER than '..Said'. Prove '..Said' where nothing that the law and all that it calls make is longer than what came in: it says more and counts as full. Else prove '..UptoSaid'. A law counts once. -/
mutual
def uptoBulk {H : Type} : DataW H → Nat
  | .lit (.string bytes) => bytes.length + 1
  | .lit _ => 1
  | .nil => 1
  | .ptr d => uptoBulk d + 1
  | .slice elems spare => uptoBulkAll elems + uptoBulkAll spare + 1
  | .agg parts => uptoBulkAll parts + 1
  | .iface _ d => uptoBulk d + 1
  | .map entries => uptoBulkEntries entries + 1
  | .held _ => 1
def uptoBulkAll {H : Type} : List (DataW H) → Nat
  | [] => 0
  | d :: r => uptoBulk d + uptoBulkAll r
def uptoBulkEntries {H : Type} : List (Lit × DataW H) → Nat
  | [] => 0
  | x :: r => uptoBulkEntry x + uptoBulkEntries r
def uptoBulkEntry {H : Type} : Lit × DataW H → Nat
  | (.string bytes, d) => bytes.length + uptoBulk d + 1
  | (_, d) => uptoBulk d + 1
 end
def uptoSmall : (H : Type) → List (DataW H) → Bool := fun _ ds => decide (uptoBulkAll ds ≤ 1048576)
def OpenSpec.upto (s : _root_.Go.ChangeSpec) : _root_.Go.OpenSpec := { _root_.Go.OpenSpec.ofChange s with cond := some uptoSmall }

/-- 'spilelaw44.ReceiptCompares', WHERE WHAT IT READS IS OF BULK AT MOST 1048576: true; the input reads as it did. -/
def receiptComparesUptoRow : OpenClaim := { program := "ytjmoiabkdpaknaa", sum := "0c5fb9691e70aa178514d79140bb31c28fb9f1f5f6a606e0ceacdf54ff18fd38", func := "spile/spilelaw44.ReceiptCompares", spec := "receiptCompares", unfollowed := true, recurses := true, named := ["math/bits.divideError", "math/bits.overflowError"], apart := false, narrowed := true }
def ReceiptComparesUptoSaid : Prop := receiptComparesUptoRow.holds Try.pinned (OpenSpec.upto receiptComparesSpec)

/-- 'spilelaw44.ReceiptExact', WHERE WHAT IT READS IS OF BULK AT MOST 1048576: true; the input reads as it did. -/
def receiptExactUptoRow : OpenClaim := { program := "ytjmoiabkdpaknaa", sum := "0c5fb9691e70aa178514d79140bb31c28fb9f1f5f6a606e0ceacdf54ff18fd38", func := "spile/spilelaw44.ReceiptExact", spec := "receiptExact", unfollowed := true, recurses := true, named := ["math/bits.divideError", "math/bits.overflowError"], apart := false, narrowed := true }
def ReceiptExactUptoSaid : Prop := receiptExactUptoRow.holds Try.pinned (OpenSpec.upto receiptExactSpec)

/-- 'spilelaw44.ReceiptWider', WHERE WHAT IT READS IS OF BULK AT MOST 1048576: true; the input reads as it did. -/
def receiptWiderUptoRow : OpenClaim := { program := "ytjmoiabkdpaknaa", sum := "0c5fb9691e70aa178514d79140bb31c28fb9f1f5f6a606e0ceacdf54ff18fd38", func := "spile/spilelaw44.ReceiptWider", spec := "receiptWider", unfollowed := true, recurses := true, named := ["math/bits.divideError", "math/bits.overflowError"], apart := false, narrowed := true }
def ReceiptWiderUptoSaid : Prop := receiptWiderUptoRow.holds Try.pinned (OpenSpec.upto receiptWiderSpec)

/-- 'spilelaw44.ReceiptLimits', WHERE WHAT IT READS IS OF BULK AT MOST 1048576: true; the input reads as it did. -/
def receiptLimitsUptoRow : OpenClaim := { program := "ytjmoiabkdpaknaa", sum := "0c5fb9691e70aa178514d79140bb31c28fb9f1f5f6a606e0ceacdf54ff18fd38", func := "spile/spilelaw44.ReceiptLimits", spec := "receiptLimits", unfollowed := true, recurses := true, named := ["math/bits.divideError", "math/bits.overflowError"], apart := false, narrowed := true }
def ReceiptLimitsUptoSaid : Prop := receiptLimitsUptoRow.holds Try.pinned (OpenSpec.upto receiptLimitsSpec)

/-- 'spilelaw44.ReceiptCloses', WHERE WHAT IT READS IS OF BULK AT MOST 1048576: true; the input reads as it did. -/
def receiptClosesUptoRow : OpenClaim := { program := "ytjmoiabkdpaknaa", sum := "0c5fb9691e70aa178514d79140bb31c28fb9f1f5f6a606e0ceacdf54ff18fd38", func := "spile/spilelaw44.ReceiptCloses", spec := "receiptCloses", unfollowed := true, recurses := true, named := ["math/bits.divideError", "math/bits.overflowError"], apart := false, narrowed := true }
def ReceiptClosesUptoSaid : Prop := receiptClosesUptoRow.holds Try.pinned (OpenSpec.upto receiptClosesSpec)

/-- 'spilelaw44.ReceiptTotals', WHERE WHAT IT READS IS OF BULK AT MOST 1048576: true; the input reads as it did. -/
def receiptTotalsUptoRow : OpenClaim := { program := "ytjmoiabkdpaknaa", sum := "0c5fb9691e70aa178514d79140bb31c28fb9f1f5f6a606e0ceacdf54ff18fd38", func := "spile/spilelaw44.ReceiptTotals", spec := "receiptTotals", unfollowed := true, recurses := true, named := ["math/bits.divideError", "math/bits.overflowError"], apart := false, narrowed := true }
def ReceiptTotalsUptoSaid : Prop := receiptTotalsUptoRow.holds Try.pinned (OpenSpec.upto receiptTotalsSpec)

/-- 'spilelaw44.ReceiptRefuses', WHERE WHAT IT READS IS OF BULK AT MOST 1048576: true; the input reads as it did. -/
def receiptRefusesUptoRow : OpenClaim := { program := "ytjmoiabkdpaknaa", sum := "0c5fb9691e70aa178514d79140bb31c28fb9f1f5f6a606e0ceacdf54ff18fd38", func := "spile/spilelaw44.ReceiptRefuses", spec := "receiptRefuses", unfollowed := true, recurses := true, named := ["math/bits.divideError", "math/bits.overflowError"], apart := false, narrowed := true }
def ReceiptRefusesUptoSaid : Prop := receiptRefusesUptoRow.holds Try.pinned (OpenSpec.upto receiptRefusesSpec)

end Rows
end Go.Proofs.Ytjmoiabkdpaknaa
