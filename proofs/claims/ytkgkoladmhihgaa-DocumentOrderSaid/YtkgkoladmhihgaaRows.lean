/-
  No cell of these rows narrows 'for every input' (looked for: loops, veiled, ifaces, maps, wideKeys, modest, calm, conditions, laid).
  DERIVED. THE GIVEN ROWS OF THIS SEAT. 7 by the template 'for every input the law returns true; each argument reads behind the call as it read before'; 0 by the template 'total and deterministic' (their statements: YtkgkoladmhihgaaTotals.lean).
  GIVEN WITH THE SEED: the statements are not yours to turn. If you find one false, say at which input.
  Laid BY PROGRAM, IN A SANDBOX (cutbox-rows.mjs): the forced cells as the released guide's own fill.sh prints them over the translation 27820d0ceae8c198… (all of the seat's roots in one cut). By AI agents, Wed Nov 11 2026. No macro, syntax, notation, axiom, sorry.
-/
import Derived.Test.YtkgkoladmhihgaaChecked
import GoSem.Claim
import GoSem.ClaimJoined
import GoSem.ClaimMapViews
import Derived.JoinedTies
import Derived.KernelRfl
namespace Go.Proofs.Ytkgkoladmhihgaa
/- THE CELL 'sum', in the pinned program and in every row, IS THE sha256 OF THE DUMP (.gsa) THAT YtkgkoladmhihgaaProg.lean LOADS. Nothing in Lean hashes anything: it is a label: what it is worth is what the hold of that sum in a sandbox is worth. -/
noncomputable def Try.pinned : Pinned := { name := "ytkgkoladmhihgaa", sum := "27820d0ceae8c1984723883087437982ee920d6566198c5803a3ebee1a91a891", checked := Try.checked }
namespace Rows
def none {H : Type} : Left H := { results := [], args := [] }

/-- 'spilelaw40.DocumentForms': WHATEVER THE INPUT: true; the input reads as it did. -/
def documentFormsSpec : ChangeSpec := { name := "documentForms", fn := fun _ => fun
  | [d1, d2] => { results := [.lit (.bool true)], args := [d1, d2] }
  | _ => none }
def documentFormsRow : OpenClaim := { program := "ytkgkoladmhihgaa", sum := "27820d0ceae8c1984723883087437982ee920d6566198c5803a3ebee1a91a891", func := "spile/spilelaw40.DocumentForms", spec := "documentForms", unfollowed := true, recurses := true, plainKeys := false, apart := false }
def DocumentFormsSaid : Prop := documentFormsRow.holds Try.pinned (OpenSpec.ofChange documentFormsSpec)

/-- ITS FALSE NEIGHBOUR: 'it returns false'. Refute it at one input. -/
def documentFormsWrong : ChangeSpec := { name := "documentForms", fn := fun _ => fun
  | [d1, d2] => { results := [.lit (.bool false)], args := [d1, d2] }
  | _ => none }
def DocumentFormsWrongFalsely : Prop := documentFormsRow.holds Try.pinned (OpenSpec.ofChange documentFormsWrong)

/-- 'spilelaw40.DocumentFolds': WHATEVER THE INPUT: true; the input reads as it did. -/
def documentFoldsSpec : ChangeSpec := { name := "documentFolds", fn := fun _ => fun
  | [d1, d2, d3] => { results := [.lit (.bool true)], args := [d1, d2, d3] }
  | _ => none }
def documentFoldsRow : OpenClaim := { program := "ytkgkoladmhihgaa", sum := "27820d0ceae8c1984723883087437982ee920d6566198c5803a3ebee1a91a891", func := "spile/spilelaw40.DocumentFolds", spec := "documentFolds", unfollowed := true, recurses := true, plainKeys := false, apart := false }
def DocumentFoldsSaid : Prop := documentFoldsRow.holds Try.pinned (OpenSpec.ofChange documentFoldsSpec)

/-- ITS FALSE NEIGHBOUR: 'it returns false'. Refute it at one input. -/
def documentFoldsWrong : ChangeSpec := { name := "documentFolds", fn := fun _ => fun
  | [d1, d2, d3] => { results := [.lit (.bool false)], args := [d1, d2, d3] }
  | _ => none }
def DocumentFoldsWrongFalsely : Prop := documentFoldsRow.holds Try.pinned (OpenSpec.ofChange documentFoldsWrong)

/-- 'spilelaw40.DocumentLater': WHATEVER THE INPUT: true; the input reads as it did. -/
def documentLaterSpec : ChangeSpec := { name := "documentLater", fn := fun _ => fun
  | [d1, d2] => { results := [.lit (.bool true)], args := [d1, d2] }
  | _ => none }
def documentLaterRow : OpenClaim := { program := "ytkgkoladmhihgaa", sum := "27820d0ceae8c1984723883087437982ee920d6566198c5803a3ebee1a91a891", func := "spile/spilelaw40.DocumentLater", spec := "documentLater", unfollowed := true, recurses := true, plainKeys := false, apart := false }
def DocumentLaterSaid : Prop := documentLaterRow.holds Try.pinned (OpenSpec.ofChange documentLaterSpec)

/-- ITS FALSE NEIGHBOUR: 'it returns false'. Refute it at one input. -/
def documentLaterWrong : ChangeSpec := { name := "documentLater", fn := fun _ => fun
  | [d1, d2] => { results := [.lit (.bool false)], args := [d1, d2] }
  | _ => none }
def DocumentLaterWrongFalsely : Prop := documentLaterRow.holds Try.pinned (OpenSpec.ofChange documentLaterWrong)

/-- 'spilelaw40.DocumentAlone': WHATEVER THE INPUT: true; the input reads as it did. -/
def documentAloneSpec : ChangeSpec := { name := "documentAlone", fn := fun _ => fun
  | [d1, d2] => { results := [.lit (.bool true)], args := [d1, d2] }
  | _ => none }
def documentAloneRow : OpenClaim := { program := "ytkgkoladmhihgaa", sum := "27820d0ceae8c1984723883087437982ee920d6566198c5803a3ebee1a91a891", func := "spile/spilelaw40.DocumentAlone", spec := "documentAlone", unfollowed := true, recurses := true, plainKeys := false, apart := false }
def DocumentAloneSaid : Prop := documentAloneRow.holds Try.pinned (OpenSpec.ofChange documentAloneSpec)

/-- ITS FALSE NEIGHBOUR: 'it returns false'. Refute it at one input. -/
def documentAloneWrong : ChangeSpec := { name := "documentAlone", fn := fun _ => fun
  | [d1, d2] => { results := [.lit (.bool false)], args := [d1, d2] }
  | _ => none }
def DocumentAloneWrongFalsely : Prop := documentAloneRow.holds Try.pinned (OpenSpec.ofChange documentAloneWrong)

/-- 'spilelaw40.DocumentForward': WHATEVER THE INPUT: true; the input reads as it did. -/
def documentForwardSpec : ChangeSpec := { name := "documentForward", fn := fun _ => fun
  | [d1, d2, d3] => { results := [.lit (.bool true)], args := [d1, d2, d3] }
  | _ => none }
def documentForwardRow : OpenClaim := { program := "ytkgkoladmhihgaa", sum := "27820d0ceae8c1984723883087437982ee920d6566198c5803a3ebee1a91a891", func := "spile/spilelaw40.DocumentForward", spec := "documentForward", unfollowed := true, recurses := true, plainKeys := false, apart := false }
def DocumentForwardSaid : Prop := documentForwardRow.holds Try.pinned (OpenSpec.ofChange documentForwardSpec)

/-- ITS FALSE NEIGHBOUR: 'it returns false'. Refute it at one input. -/
def documentForwardWrong : ChangeSpec := { name := "documentForward", fn := fun _ => fun
  | [d1, d2, d3] => { results := [.lit (.bool false)], args := [d1, d2, d3] }
  | _ => none }
def DocumentForwardWrongFalsely : Prop := documentForwardRow.holds Try.pinned (OpenSpec.ofChange documentForwardWrong)

/-- 'spilelaw40.DocumentChains': WHATEVER THE INPUT: true; the input reads as it did. -/
def documentChainsSpec : ChangeSpec := { name := "documentChains", fn := fun _ => fun
  | [d1, d2, d3, d4, d5] => { results := [.lit (.bool true)], args := [d1, d2, d3, d4, d5] }
  | _ => none }
def documentChainsRow : OpenClaim := { program := "ytkgkoladmhihgaa", sum := "27820d0ceae8c1984723883087437982ee920d6566198c5803a3ebee1a91a891", func := "spile/spilelaw40.DocumentChains", spec := "documentChains", unfollowed := true, recurses := true, plainKeys := false, apart := false }
def DocumentChainsSaid : Prop := documentChainsRow.holds Try.pinned (OpenSpec.ofChange documentChainsSpec)

/-- ITS FALSE NEIGHBOUR: 'it returns false'. Refute it at one input. -/
def documentChainsWrong : ChangeSpec := { name := "documentChains", fn := fun _ => fun
  | [d1, d2, d3, d4, d5] => { results := [.lit (.bool false)], args := [d1, d2, d3, d4, d5] }
  | _ => none }
def DocumentChainsWrongFalsely : Prop := documentChainsRow.holds Try.pinned (OpenSpec.ofChange documentChainsWrong)

/-- 'spilelaw40.DocumentOrder': WHATEVER THE INPUT: true; the input reads as it did. -/
def documentOrderSpec : ChangeSpec := { name := "documentOrder", fn := fun _ => fun
  | [d1, d2] => { results := [.lit (.bool true)], args := [d1, d2] }
  | _ => none }
def documentOrderRow : OpenClaim := { program := "ytkgkoladmhihgaa", sum := "27820d0ceae8c1984723883087437982ee920d6566198c5803a3ebee1a91a891", func := "spile/spilelaw40.DocumentOrder", spec := "documentOrder", inPlace := ["slices.overlaps[spile/api.Message]"], unfollowed := true, recurses := true, plainKeys := false, apart := false }
def DocumentOrderSaid : Prop := documentOrderRow.holds Try.pinned (OpenSpec.ofChange documentOrderSpec)

/-- ITS FALSE NEIGHBOUR: 'it returns false'. Refute it at one input. -/
def documentOrderWrong : ChangeSpec := { name := "documentOrder", fn := fun _ => fun
  | [d1, d2] => { results := [.lit (.bool false)], args := [d1, d2] }
  | _ => none }
def DocumentOrderWrongFalsely : Prop := documentOrderRow.holds Try.pinned (OpenSpec.ofChange documentOrderWrong)

/- THE SECOND FORM. 'bulk': how many values and letters a reading holds, each counted each time it is reached (what is shared counts as often as it is met; a slice's spare places count too). A statement '..UptoSaid' is the law's where the arguments, and the package variables that the reading takes, are together of bulk at most 1048576: NARROWER than '..Said'. Prove '..Said' where nothing that the law and all that it calls make is longer than what came in: it says more and counts as full. Else prove '..UptoSaid'. A law counts once. -/
mutual
def uptoBulk {H : Type} : DataW H → Nat
  | .lit (.string bytes) => bytes.length + 1
  | .lit _ => 1
  | .nil => 1
  | .ptr d => uptoBulk d + 1
  | .slice elems spare => uptoBulkAll elems + uptoBulkAll spare + 1
  | .agg parts => uptoBulkAll parts + 1
  | .iface _ d => uptoBulk d + 1
  | .map entries => uptoBulkEntries entries + 1
  | .held _ => 1
def uptoBulkAll {H : Type} : List (DataW H) → Nat
  | [] => 0
  | d :: r => uptoBulk d + uptoBulkAll r
def uptoBulkEntries {H : Type} : List (Lit × DataW H) → Nat
  | [] => 0
  | x :: r => uptoBulkEntry x + uptoBulkEntries r
def uptoBulkEntry {H : Type} : Lit × DataW H → Nat
  | (.string bytes, d) => bytes.length + uptoBulk d + 1
  | (_, d) => uptoBulk d + 1
 end
def uptoSmall : (H : Type) → List (DataW H) → Bool := fun _ ds => decide (uptoBulkAll ds ≤ 1048576)
def OpenSpec.upto (s : _root_.Go.ChangeSpec) : _root_.Go.OpenSpec := { _root_.Go.OpenSpec.ofChange s with cond := some uptoSmall }

/-- 'spilelaw40.DocumentForms', WHERE WHAT IT READS IS OF BULK AT MOST 1048576: true; the input reads as it did. -/
def documentFormsUptoRow : OpenClaim := { program := "ytkgkoladmhihgaa", sum := "27820d0ceae8c1984723883087437982ee920d6566198c5803a3ebee1a91a891", func := "spile/spilelaw40.DocumentForms", spec := "documentForms", unfollowed := true, recurses := true, plainKeys := false, apart := false, narrowed := true }
def DocumentFormsUptoSaid : Prop := documentFormsUptoRow.holds Try.pinned (OpenSpec.upto documentFormsSpec)

/-- 'spilelaw40.DocumentFolds', WHERE WHAT IT READS IS OF BULK AT MOST 1048576: true; the input reads as it did. -/
def documentFoldsUptoRow : OpenClaim := { program := "ytkgkoladmhihgaa", sum := "27820d0ceae8c1984723883087437982ee920d6566198c5803a3ebee1a91a891", func := "spile/spilelaw40.DocumentFolds", spec := "documentFolds", unfollowed := true, recurses := true, plainKeys := false, apart := false, narrowed := true }
def DocumentFoldsUptoSaid : Prop := documentFoldsUptoRow.holds Try.pinned (OpenSpec.upto documentFoldsSpec)

/-- 'spilelaw40.DocumentLater', WHERE WHAT IT READS IS OF BULK AT MOST 1048576: true; the input reads as it did. -/
def documentLaterUptoRow : OpenClaim := { program := "ytkgkoladmhihgaa", sum := "27820d0ceae8c1984723883087437982ee920d6566198c5803a3ebee1a91a891", func := "spile/spilelaw40.DocumentLater", spec := "documentLater", unfollowed := true, recurses := true, plainKeys := false, apart := false, narrowed := true }
def DocumentLaterUptoSaid : Prop := documentLaterUptoRow.holds Try.pinned (OpenSpec.upto documentLaterSpec)

/-- 'spilelaw40.DocumentAlone', WHERE WHAT IT READS IS OF BULK AT MOST 1048576: true; the input reads as it did. -/
def documentAloneUptoRow : OpenClaim := { program := "ytkgkoladmhihgaa", sum := "27820d0ceae8c1984723883087437982ee920d6566198c5803a3ebee1a91a891", func := "spile/spilelaw40.DocumentAlone", spec := "documentAlone", unfollowed := true, recurses := true, plainKeys := false, apart := false, narrowed := true }
def DocumentAloneUptoSaid : Prop := documentAloneUptoRow.holds Try.pinned (OpenSpec.upto documentAloneSpec)

/-- 'spilelaw40.DocumentForward', WHERE WHAT IT READS IS OF BULK AT MOST 1048576: true; the input reads as it did. -/
def documentForwardUptoRow : OpenClaim := { program := "ytkgkoladmhihgaa", sum := "27820d0ceae8c1984723883087437982ee920d6566198c5803a3ebee1a91a891", func := "spile/spilelaw40.DocumentForward", spec := "documentForward", unfollowed := true, recurses := true, plainKeys := false, apart := false, narrowed := true }
def DocumentForwardUptoSaid : Prop := documentForwardUptoRow.holds Try.pinned (OpenSpec.upto documentForwardSpec)

/-- 'spilelaw40.DocumentChains', WHERE WHAT IT READS IS OF BULK AT MOST 1048576: true; the input reads as it did. -/
def documentChainsUptoRow : OpenClaim := { program := "ytkgkoladmhihgaa", sum := "27820d0ceae8c1984723883087437982ee920d6566198c5803a3ebee1a91a891", func := "spile/spilelaw40.DocumentChains", spec := "documentChains", unfollowed := true, recurses := true, plainKeys := false, apart := false, narrowed := true }
def DocumentChainsUptoSaid : Prop := documentChainsUptoRow.holds Try.pinned (OpenSpec.upto documentChainsSpec)

/-- 'spilelaw40.DocumentOrder', WHERE WHAT IT READS IS OF BULK AT MOST 1048576: true; the input reads as it did. -/
def documentOrderUptoRow : OpenClaim := { program := "ytkgkoladmhihgaa", sum := "27820d0ceae8c1984723883087437982ee920d6566198c5803a3ebee1a91a891", func := "spile/spilelaw40.DocumentOrder", spec := "documentOrder", inPlace := ["slices.overlaps[spile/api.Message]"], unfollowed := true, recurses := true, plainKeys := false, apart := false, narrowed := true }
def DocumentOrderUptoSaid : Prop := documentOrderUptoRow.holds Try.pinned (OpenSpec.upto documentOrderSpec)

end Rows
end Go.Proofs.Ytkgkoladmhihgaa
