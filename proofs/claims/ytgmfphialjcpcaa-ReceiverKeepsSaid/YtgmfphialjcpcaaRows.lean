/-
  No cell of these rows narrows 'for every input' (looked for: loops, veiled, ifaces, maps, wideKeys, modest, calm, conditions, laid).
  DERIVED. THE GIVEN ROWS OF THIS SEAT. 6 by the template 'for every input the law returns true; each argument reads behind the call as it read before'; 0 by the template 'total and deterministic' (their statements: YtgmfphialjcpcaaTotals.lean).
  GIVEN WITH THE SEED: the statements are not yours to turn. If you find one false, say at which input.
  Laid BY PROGRAM, IN A SANDBOX (cutbox-rows.mjs): the forced cells as the released guide's own fill.sh prints them over the translation 8bd6583e3cf324ef… (all of the seat's roots in one cut). By AI agents, Wed Nov 11 2026. No macro, syntax, notation, axiom, sorry.
-/
import Derived.Test.YtgmfphialjcpcaaChecked
import GoSem.Claim
import GoSem.ClaimJoined
import GoSem.ClaimMapViews
import Derived.JoinedTies
import Derived.KernelRfl
namespace Go.Proofs.Ytgmfphialjcpcaa
/- THE CELL 'sum', in the pinned program and in every row, IS THE sha256 OF THE DUMP (.gsa) THAT YtgmfphialjcpcaaProg.lean LOADS. Nothing in Lean hashes anything: it is a label: what it is worth is what the hold of that sum in a sandbox is worth. -/
noncomputable def Try.pinned : Pinned := { name := "ytgmfphialjcpcaa", sum := "8bd6583e3cf324ef99d263a205c7492a692b9e6e48ab9bab2e31d662dd420ff4", checked := Try.checked }
namespace Rows
def none {H : Type} : Left H := { results := [], args := [] }

/-- 'spilelaw43.ReceiverTakes': WHATEVER THE INPUT: true; the input reads as it did. -/
def receiverTakesSpec : ChangeSpec := { name := "receiverTakes", fn := fun _ => fun
  | [d1, d2] => { results := [.lit (.bool true)], args := [d1, d2] }
  | _ => none }
def receiverTakesRow : OpenClaim := { program := "ytgmfphialjcpcaa", sum := "8bd6583e3cf324ef99d263a205c7492a692b9e6e48ab9bab2e31d662dd420ff4", func := "spile/spilelaw43.ReceiverTakes", spec := "receiverTakes", inPlace := ["slices.overlaps[spile/api.Heard]"], unfollowed := true, recurses := true, plainKeys := false, apart := false }
def ReceiverTakesSaid : Prop := receiverTakesRow.holds Try.pinned (OpenSpec.ofChange receiverTakesSpec)

/-- ITS FALSE NEIGHBOUR: 'it returns false'. Refute it at one input. -/
def receiverTakesWrong : ChangeSpec := { name := "receiverTakes", fn := fun _ => fun
  | [d1, d2] => { results := [.lit (.bool false)], args := [d1, d2] }
  | _ => none }
def ReceiverTakesWrongFalsely : Prop := receiverTakesRow.holds Try.pinned (OpenSpec.ofChange receiverTakesWrong)

/-- 'spilelaw43.ReceiverAgrees': WHATEVER THE INPUT: true; the input reads as it did. -/
def receiverAgreesSpec : ChangeSpec := { name := "receiverAgrees", fn := fun _ => fun
  | [d1, d2] => { results := [.lit (.bool true)], args := [d1, d2] }
  | _ => none }
def receiverAgreesRow : OpenClaim := { program := "ytgmfphialjcpcaa", sum := "8bd6583e3cf324ef99d263a205c7492a692b9e6e48ab9bab2e31d662dd420ff4", func := "spile/spilelaw43.ReceiverAgrees", spec := "receiverAgrees", inPlace := ["slices.overlaps[spile/api.Heard]"], unfollowed := true, recurses := true, plainKeys := false, apart := false }
def ReceiverAgreesSaid : Prop := receiverAgreesRow.holds Try.pinned (OpenSpec.ofChange receiverAgreesSpec)

/-- ITS FALSE NEIGHBOUR: 'it returns false'. Refute it at one input. -/
def receiverAgreesWrong : ChangeSpec := { name := "receiverAgrees", fn := fun _ => fun
  | [d1, d2] => { results := [.lit (.bool false)], args := [d1, d2] }
  | _ => none }
def ReceiverAgreesWrongFalsely : Prop := receiverAgreesRow.holds Try.pinned (OpenSpec.ofChange receiverAgreesWrong)

/-- 'spilelaw43.ReceiverOnce': WHATEVER THE INPUT: true; the input reads as it did. -/
def receiverOnceSpec : ChangeSpec := { name := "receiverOnce", fn := fun _ => fun
  | [d1, d2] => { results := [.lit (.bool true)], args := [d1, d2] }
  | _ => none }
def receiverOnceRow : OpenClaim := { program := "ytgmfphialjcpcaa", sum := "8bd6583e3cf324ef99d263a205c7492a692b9e6e48ab9bab2e31d662dd420ff4", func := "spile/spilelaw43.ReceiverOnce", spec := "receiverOnce", inPlace := ["slices.overlaps[spile/api.Heard]"], unfollowed := true, recurses := true, plainKeys := false, apart := false }
def ReceiverOnceSaid : Prop := receiverOnceRow.holds Try.pinned (OpenSpec.ofChange receiverOnceSpec)

/-- ITS FALSE NEIGHBOUR: 'it returns false'. Refute it at one input. -/
def receiverOnceWrong : ChangeSpec := { name := "receiverOnce", fn := fun _ => fun
  | [d1, d2] => { results := [.lit (.bool false)], args := [d1, d2] }
  | _ => none }
def ReceiverOnceWrongFalsely : Prop := receiverOnceRow.holds Try.pinned (OpenSpec.ofChange receiverOnceWrong)

/-- 'spilelaw43.ReceiverLast': WHATEVER THE INPUT: true; the input reads as it did. -/
def receiverLastSpec : ChangeSpec := { name := "receiverLast", fn := fun _ => fun
  | [d1, d2, d3] => { results := [.lit (.bool true)], args := [d1, d2, d3] }
  | _ => none }
def receiverLastRow : OpenClaim := { program := "ytgmfphialjcpcaa", sum := "8bd6583e3cf324ef99d263a205c7492a692b9e6e48ab9bab2e31d662dd420ff4", func := "spile/spilelaw43.ReceiverLast", spec := "receiverLast", inPlace := ["slices.overlaps[spile/api.Heard]"], unfollowed := true, recurses := true, plainKeys := false, apart := false }
def ReceiverLastSaid : Prop := receiverLastRow.holds Try.pinned (OpenSpec.ofChange receiverLastSpec)

/-- ITS FALSE NEIGHBOUR: 'it returns false'. Refute it at one input. -/
def receiverLastWrong : ChangeSpec := { name := "receiverLast", fn := fun _ => fun
  | [d1, d2, d3] => { results := [.lit (.bool false)], args := [d1, d2, d3] }
  | _ => none }
def ReceiverLastWrongFalsely : Prop := receiverLastRow.holds Try.pinned (OpenSpec.ofChange receiverLastWrong)

/-- 'spilelaw43.ReceiverOrder': WHATEVER THE INPUT: true; the input reads as it did. -/
def receiverOrderSpec : ChangeSpec := { name := "receiverOrder", fn := fun _ => fun
  | [d1, d2] => { results := [.lit (.bool true)], args := [d1, d2] }
  | _ => none }
def receiverOrderRow : OpenClaim := { program := "ytgmfphialjcpcaa", sum := "8bd6583e3cf324ef99d263a205c7492a692b9e6e48ab9bab2e31d662dd420ff4", func := "spile/spilelaw43.ReceiverOrder", spec := "receiverOrder", inPlace := ["slices.overlaps[spile/api.Heard]"], unfollowed := true, recurses := true, plainKeys := false, apart := false }
def ReceiverOrderSaid : Prop := receiverOrderRow.holds Try.pinned (OpenSpec.ofChange receiverOrderSpec)

/-- ITS FALSE NEIGHBOUR: 'it returns false'. Refute it at one input. -/
def receiverOrderWrong : ChangeSpec := { name := "receiverOrder", fn := fun _ => fun
  | [d1, d2] => { results := [.lit (.bool false)], args := [d1, d2] }
  | _ => none }
def ReceiverOrderWrongFalsely : Prop := receiverOrderRow.holds Try.pinned (OpenSpec.ofChange receiverOrderWrong)

/-- 'spilelaw43.ReceiverKeeps': WHATEVER THE INPUT: true; the input reads as it did. -/
def receiverKeepsSpec : ChangeSpec := { name := "receiverKeeps", fn := fun _ => fun
  | [d1, d2, d3] => { results := [.lit (.bool true)], args := [d1, d2, d3] }
  | _ => none }
def receiverKeepsRow : OpenClaim := { program := "ytgmfphialjcpcaa", sum := "8bd6583e3cf324ef99d263a205c7492a692b9e6e48ab9bab2e31d662dd420ff4", func := "spile/spilelaw43.ReceiverKeeps", spec := "receiverKeeps", inPlace := ["slices.overlaps[spile/api.Heard]"], unfollowed := true, recurses := true, plainKeys := false, apart := false }
def ReceiverKeepsSaid : Prop := receiverKeepsRow.holds Try.pinned (OpenSpec.ofChange receiverKeepsSpec)

/-- ITS FALSE NEIGHBOUR: 'it returns false'. Refute it at one input. -/
def receiverKeepsWrong : ChangeSpec := { name := "receiverKeeps", fn := fun _ => fun
  | [d1, d2, d3] => { results := [.lit (.bool false)], args := [d1, d2, d3] }
  | _ => none }
def ReceiverKeepsWrongFalsely : Prop := receiverKeepsRow.holds Try.pinned (OpenSpec.ofChange receiverKeepsWrong)

/- THE SECOND FORM. 'bulk': how many values and letters a reading holds, each counted each time it is reached (what is shared counts as often as it is met; a slice's spare places count too). A statement '..UptoSaid' is the law's where the arguments, and the package variables that the reading takes, are together of bulk at most 1048576: NARROWER than '..Said'. Prove '..Said' where nothing that the law and all that it calls make is longer than what came in: it says more and counts as full. Else prove '..UptoSaid'. A law counts once. -/
mutual
def uptoBulk {H : Type} : DataW H → Nat
  | .lit (.string bytes) => bytes.length + 1
  | .lit _ => 1
  | .nil => 1
  | .ptr d => uptoBulk d + 1
  | .slice elems spare => uptoBulkAll elems + uptoBulkAll spare + 1
  | .agg parts => uptoBulkAll parts + 1
  | .iface _ d => uptoBulk d + 1
  | .map entries => uptoBulkEntries entries + 1
  | .held _ => 1
def uptoBulkAll {H : Type} : List (DataW H) → Nat
  | [] => 0
  | d :: r => uptoBulk d + uptoBulkAll r
def uptoBulkEntries {H : Type} : List (Lit × DataW H) → Nat
  | [] => 0
  | x :: r => uptoBulkEntry x + uptoBulkEntries r
def uptoBulkEntry {H : Type} : Lit × DataW H → Nat
  | (.string bytes, d) => bytes.length + uptoBulk d + 1
  | (_, d) => uptoBulk d + 1
 end
def uptoSmall : (H : Type) → List (DataW H) → Bool := fun _ ds => decide (uptoBulkAll ds ≤ 1048576)
def OpenSpec.upto (s : _root_.Go.ChangeSpec) : _root_.Go.OpenSpec := { _root_.Go.OpenSpec.ofChange s with cond := some uptoSmall }

/-- 'spilelaw43.ReceiverTakes', WHERE WHAT IT READS IS OF BULK AT MOST 1048576: true; the input reads as it did. -/
def receiverTakesUptoRow : OpenClaim := { program := "ytgmfphialjcpcaa", sum := "8bd6583e3cf324ef99d263a205c7492a692b9e6e48ab9bab2e31d662dd420ff4", func := "spile/spilelaw43.ReceiverTakes", spec := "receiverTakes", inPlace := ["slices.overlaps[spile/api.Heard]"], unfollowed := true, recurses := true, plainKeys := false, apart := false, narrowed := true }
def ReceiverTakesUptoSaid : Prop := receiverTakesUptoRow.holds Try.pinned (OpenSpec.upto receiverTakesSpec)

/-- 'spilelaw43.ReceiverAgrees', WHERE WHAT IT READS IS OF BULK AT MOST 1048576: true; the input reads as it did. -/
def receiverAgreesUptoRow : OpenClaim := { program := "ytgmfphialjcpcaa", sum := "8bd6583e3cf324ef99d263a205c7492a692b9e6e48ab9bab2e31d662dd420ff4", func := "spile/spilelaw43.ReceiverAgrees", spec := "receiverAgrees", inPlace := ["slices.overlaps[spile/api.Heard]"], unfollowed := true, recurses := true, plainKeys := false, apart := false, narrowed := true }
def ReceiverAgreesUptoSaid : Prop := receiverAgreesUptoRow.holds Try.pinned (OpenSpec.upto receiverAgreesSpec)

/-- 'spilelaw43.ReceiverOnce', WHERE WHAT IT READS IS OF BULK AT MOST 1048576: true; the input reads as it did. -/
def receiverOnceUptoRow : OpenClaim := { program := "ytgmfphialjcpcaa", sum := "8bd6583e3cf324ef99d263a205c7492a692b9e6e48ab9bab2e31d662dd420ff4", func := "spile/spilelaw43.ReceiverOnce", spec := "receiverOnce", inPlace := ["slices.overlaps[spile/api.Heard]"], unfollowed := true, recurses := true, plainKeys := false, apart := false, narrowed := true }
def ReceiverOnceUptoSaid : Prop := receiverOnceUptoRow.holds Try.pinned (OpenSpec.upto receiverOnceSpec)

/-- 'spilelaw43.ReceiverLast', WHERE WHAT IT READS IS OF BULK AT MOST 1048576: true; the input reads as it did. -/
def receiverLastUptoRow : OpenClaim := { program := "ytgmfphialjcpcaa", sum := "8bd6583e3cf324ef99d263a205c7492a692b9e6e48ab9bab2e31d662dd420ff4", func := "spile/spilelaw43.ReceiverLast", spec := "receiverLast", inPlace := ["slices.overlaps[spile/api.Heard]"], unfollowed := true, recurses := true, plainKeys := false, apart := false, narrowed := true }
def ReceiverLastUptoSaid : Prop := receiverLastUptoRow.holds Try.pinned (OpenSpec.upto receiverLastSpec)

/-- 'spilelaw43.ReceiverOrder', WHERE WHAT IT READS IS OF BULK AT MOST 1048576: true; the input reads as it did. -/
def receiverOrderUptoRow : OpenClaim := { program := "ytgmfphialjcpcaa", sum := "8bd6583e3cf324ef99d263a205c7492a692b9e6e48ab9bab2e31d662dd420ff4", func := "spile/spilelaw43.ReceiverOrder", spec := "receiverOrder", inPlace := ["slices.overlaps[spile/api.Heard]"], unfollowed := true, recurses := true, plainKeys := false, apart := false, narrowed := true }
def ReceiverOrderUptoSaid : Prop := receiverOrderUptoRow.holds Try.pinned (OpenSpec.upto receiverOrderSpec)

/-- 'spilelaw43.ReceiverKeeps', WHERE WHAT IT READS IS OF BULK AT MOST 1048576: true; the input reads as it did. -/
def receiverKeepsUptoRow : OpenClaim := { program := "ytgmfphialjcpcaa", sum := "8bd6583e3cf324ef99d263a205c7492a692b9e6e48ab9bab2e31d662dd420ff4", func := "spile/spilelaw43.ReceiverKeeps", spec := "receiverKeeps", inPlace := ["slices.overlaps[spile/api.Heard]"], unfollowed := true, recurses := true, plainKeys := false, apart := false, narrowed := true }
def ReceiverKeepsUptoSaid : Prop := receiverKeepsUptoRow.holds Try.pinned (OpenSpec.upto receiverKeepsSpec)

end Rows
end Go.Proofs.Ytgmfphialjcpcaa
