/-
  No cell of these rows narrows 'for every input' (looked for: loops, veiled, ifaces, maps, wideKeys, modest, calm, conditions, laid).
  DERIVED. THE GIVEN ROWS OF THIS SEAT. 7 by the template 'for every input the law returns true; each argument reads behind the call as it read before'; 0 by the template 'total and deterministic' (their statements: YtfmbbfidjcgeiaaTotals.lean).
  GIVEN WITH THE SEED: the statements are not yours to turn. If you find one false, say at which input.
  Laid BY PROGRAM, IN A SANDBOX (cutbox-rows.mjs): the forced cells as the released guide's own fill.sh prints them over the translation fdab6965c0e30f48… (all of the seat's roots in one cut). By AI agents, Wed Nov 11 2026. No macro, syntax, notation, axiom, sorry.
-/
import Derived.Test.YtfmbbfidjcgeiaaChecked
import GoSem.Claim
import GoSem.ClaimJoined
import GoSem.ClaimMapViews
import Derived.JoinedTies
import Derived.KernelRfl
namespace Go.Proofs.Ytfmbbfidjcgeiaa
/- THE CELL 'sum', in the pinned program and in every row, IS THE sha256 OF THE DUMP (.gsa) THAT YtfmbbfidjcgeiaaProg.lean LOADS. Nothing in Lean hashes anything: it is a label: what it is worth is what the hold of that sum in a sandbox is worth. -/
noncomputable def Try.pinned : Pinned := { name := "ytfmbbfidjcgeiaa", sum := "fdab6965c0e30f48d9cde1a71d132f4a52c841322bd0694c2d9d1e09dd1de78f", checked := Try.checked }
namespace Rows
def none {H : Type} : Left H := { results := [], args := [] }

/-- 'annalistlaw18.TreeSplit': WHATEVER THE INPUT: true; the input reads as it did. -/
def treeSplitSpec : ChangeSpec := { name := "treeSplit", fn := fun _ => fun
  | [d1, d2, d3, d4] => { results := [.lit (.bool true)], args := [d1, d2, d3, d4] }
  | _ => none }
def treeSplitRow : OpenClaim := { program := "ytfmbbfidjcgeiaa", sum := "fdab6965c0e30f48d9cde1a71d132f4a52c841322bd0694c2d9d1e09dd1de78f", func := "annalist/annalistlaw18.TreeSplit", spec := "treeSplit", inPlace := ["math/bits.Add64", "internal/bytealg.abigen_runtime_cmpstring"], unfollowed := true, recurses := true, apart := false }
def TreeSplitSaid : Prop := treeSplitRow.holds Try.pinned (OpenSpec.ofChange treeSplitSpec)

/-- ITS FALSE NEIGHBOUR: 'it returns false'. Refute it at one input. -/
def treeSplitWrong : ChangeSpec := { name := "treeSplit", fn := fun _ => fun
  | [d1, d2, d3, d4] => { results := [.lit (.bool false)], args := [d1, d2, d3, d4] }
  | _ => none }
def TreeSplitWrongFalsely : Prop := treeSplitRow.holds Try.pinned (OpenSpec.ofChange treeSplitWrong)

/-- 'annalistlaw18.MovingDefinition': WHATEVER THE INPUT: true; the input reads as it did. -/
def movingDefinitionSpec : ChangeSpec := { name := "movingDefinition", fn := fun _ => fun
  | [d1, d2, d3, d4, d5] => { results := [.lit (.bool true)], args := [d1, d2, d3, d4, d5] }
  | _ => none }
def movingDefinitionRow : OpenClaim := { program := "ytfmbbfidjcgeiaa", sum := "fdab6965c0e30f48d9cde1a71d132f4a52c841322bd0694c2d9d1e09dd1de78f", func := "annalist/annalistlaw18.MovingDefinition", spec := "movingDefinition", inPlace := ["math/bits.Add64", "internal/bytealg.abigen_runtime_cmpstring"], unfollowed := true, recurses := true, apart := false }
def MovingDefinitionSaid : Prop := movingDefinitionRow.holds Try.pinned (OpenSpec.ofChange movingDefinitionSpec)

/-- ITS FALSE NEIGHBOUR: 'it returns false'. Refute it at one input. -/
def movingDefinitionWrong : ChangeSpec := { name := "movingDefinition", fn := fun _ => fun
  | [d1, d2, d3, d4, d5] => { results := [.lit (.bool false)], args := [d1, d2, d3, d4, d5] }
  | _ => none }
def MovingDefinitionWrongFalsely : Prop := movingDefinitionRow.holds Try.pinned (OpenSpec.ofChange movingDefinitionWrong)

/-- 'annalistlaw18.MovingWider': WHATEVER THE INPUT: true; the input reads as it did. -/
def movingWiderSpec : ChangeSpec := { name := "movingWider", fn := fun _ => fun
  | [d1, d2, d3, d4] => { results := [.lit (.bool true)], args := [d1, d2, d3, d4] }
  | _ => none }
def movingWiderRow : OpenClaim := { program := "ytfmbbfidjcgeiaa", sum := "fdab6965c0e30f48d9cde1a71d132f4a52c841322bd0694c2d9d1e09dd1de78f", func := "annalist/annalistlaw18.MovingWider", spec := "movingWider", inPlace := ["internal/bytealg.abigen_runtime_cmpstring", "math/bits.Add64"], unfollowed := true, recurses := true, apart := false }
def MovingWiderSaid : Prop := movingWiderRow.holds Try.pinned (OpenSpec.ofChange movingWiderSpec)

/-- ITS FALSE NEIGHBOUR: 'it returns false'. Refute it at one input. -/
def movingWiderWrong : ChangeSpec := { name := "movingWider", fn := fun _ => fun
  | [d1, d2, d3, d4] => { results := [.lit (.bool false)], args := [d1, d2, d3, d4] }
  | _ => none }
def MovingWiderWrongFalsely : Prop := movingWiderRow.holds Try.pinned (OpenSpec.ofChange movingWiderWrong)

/-- 'annalistlaw18.MovingTotal': WHATEVER THE INPUT: true; the input reads as it did. -/
def movingTotalSpec : ChangeSpec := { name := "movingTotal", fn := fun _ => fun
  | [d1, d2] => { results := [.lit (.bool true)], args := [d1, d2] }
  | _ => none }
def movingTotalRow : OpenClaim := { program := "ytfmbbfidjcgeiaa", sum := "fdab6965c0e30f48d9cde1a71d132f4a52c841322bd0694c2d9d1e09dd1de78f", func := "annalist/annalistlaw18.MovingTotal", spec := "movingTotal", inPlace := ["internal/bytealg.abigen_runtime_cmpstring", "math/bits.Add64"], unfollowed := true, recurses := true, apart := false }
def MovingTotalSaid : Prop := movingTotalRow.holds Try.pinned (OpenSpec.ofChange movingTotalSpec)

/-- ITS FALSE NEIGHBOUR: 'it returns false'. Refute it at one input. -/
def movingTotalWrong : ChangeSpec := { name := "movingTotal", fn := fun _ => fun
  | [d1, d2] => { results := [.lit (.bool false)], args := [d1, d2] }
  | _ => none }
def MovingTotalWrongFalsely : Prop := movingTotalRow.holds Try.pinned (OpenSpec.ofChange movingTotalWrong)

/-- 'annalistlaw18.TreeOperations': WHATEVER THE INPUT: true; the input reads as it did. -/
def treeOperationsSpec : ChangeSpec := { name := "treeOperations", fn := fun _ => fun
  | [d1, d2] => { results := [.lit (.bool true)], args := [d1, d2] }
  | _ => none }
def treeOperationsRow : OpenClaim := { program := "ytfmbbfidjcgeiaa", sum := "fdab6965c0e30f48d9cde1a71d132f4a52c841322bd0694c2d9d1e09dd1de78f", func := "annalist/annalistlaw18.TreeOperations", spec := "treeOperations", inPlace := ["math/bits.Add64", "internal/bytealg.abigen_runtime_cmpstring"], unfollowed := true, recurses := true, apart := false }
def TreeOperationsSaid : Prop := treeOperationsRow.holds Try.pinned (OpenSpec.ofChange treeOperationsSpec)

/-- ITS FALSE NEIGHBOUR: 'it returns false'. Refute it at one input. -/
def treeOperationsWrong : ChangeSpec := { name := "treeOperations", fn := fun _ => fun
  | [d1, d2] => { results := [.lit (.bool false)], args := [d1, d2] }
  | _ => none }
def TreeOperationsWrongFalsely : Prop := treeOperationsRow.holds Try.pinned (OpenSpec.ofChange treeOperationsWrong)

/-- 'annalistlaw18.TreeCopies': WHATEVER THE INPUT: true; the input reads as it did. -/
def treeCopiesSpec : ChangeSpec := { name := "treeCopies", fn := fun _ => fun
  | [d1, d2, d3] => { results := [.lit (.bool true)], args := [d1, d2, d3] }
  | _ => none }
def treeCopiesRow : OpenClaim := { program := "ytfmbbfidjcgeiaa", sum := "fdab6965c0e30f48d9cde1a71d132f4a52c841322bd0694c2d9d1e09dd1de78f", func := "annalist/annalistlaw18.TreeCopies", spec := "treeCopies", inPlace := ["math/bits.Add64", "internal/bytealg.abigen_runtime_cmpstring"], unfollowed := true, recurses := true, apart := false }
def TreeCopiesSaid : Prop := treeCopiesRow.holds Try.pinned (OpenSpec.ofChange treeCopiesSpec)

/-- ITS FALSE NEIGHBOUR: 'it returns false'. Refute it at one input. -/
def treeCopiesWrong : ChangeSpec := { name := "treeCopies", fn := fun _ => fun
  | [d1, d2, d3] => { results := [.lit (.bool false)], args := [d1, d2, d3] }
  | _ => none }
def TreeCopiesWrongFalsely : Prop := treeCopiesRow.holds Try.pinned (OpenSpec.ofChange treeCopiesWrong)

/-- 'annalistlaw18.MovingCovers': WHATEVER THE INPUT: true; the input reads as it did. -/
def movingCoversSpec : ChangeSpec := { name := "movingCovers", fn := fun _ => fun
  | [d1, d2, d3] => { results := [.lit (.bool true)], args := [d1, d2, d3] }
  | _ => none }
def movingCoversRow : OpenClaim := { program := "ytfmbbfidjcgeiaa", sum := "fdab6965c0e30f48d9cde1a71d132f4a52c841322bd0694c2d9d1e09dd1de78f", func := "annalist/annalistlaw18.MovingCovers", spec := "movingCovers", inPlace := ["internal/bytealg.abigen_runtime_cmpstring", "math/bits.Add64"], unfollowed := true, recurses := true, apart := false }
def MovingCoversSaid : Prop := movingCoversRow.holds Try.pinned (OpenSpec.ofChange movingCoversSpec)

/-- ITS FALSE NEIGHBOUR: 'it returns false'. Refute it at one input. -/
def movingCoversWrong : ChangeSpec := { name := "movingCovers", fn := fun _ => fun
  | [d1, d2, d3] => { results := [.lit (.bool false)], args := [d1, d2, d3] }
  | _ => none }
def MovingCoversWrongFalsely : Prop := movingCoversRow.holds Try.pinned (OpenSpec.ofChange movingCoversWrong)

/- THE SECOND FORM. 'bulk': how many values and letters a reading holds, each counted each time it is reached (what is shared counts as often as it is met; a slice's spare places count too). A statement '..UptoSaid' is the law's where the arguments, and the package variables that the reading takes, are together of bulk at most 1048576: NARROWER than '..Said'. Prove '..Said' where nothing that the law and all that it calls make is longer than what came in: it says more and counts as full. Else prove '..UptoSaid'. A law counts once. -/
mutual
def uptoBulk {H : Type} : DataW H → Nat
  | .lit (.string bytes) => bytes.length + 1
  | .lit _ => 1
  | .nil => 1
  | .ptr d => uptoBulk d + 1
  | .slice elems spare => uptoBulkAll elems + uptoBulkAll spare + 1
  | .agg parts => uptoBulkAll parts + 1
  | .iface _ d => uptoBulk d + 1
  | .map entries => uptoBulkEntries entries + 1
  | .held _ => 1
def uptoBulkAll {H : Type} : List (DataW H) → Nat
  | [] => 0
  | d :: r => uptoBulk d + uptoBulkAll r
def uptoBulkEntries {H : Type} : List (Lit × DataW H) → Nat
  | [] => 0
  | x :: r => uptoBulkEntry x + uptoBulkEntries r
def uptoBulkEntry {H : Type} : Lit × DataW H → Nat
  | (.string bytes, d) => bytes.length + uptoBulk d + 1
  | (_, d) => uptoBulk d + 1
 end
def uptoSmall : (H : Type) → List (DataW H) → Bool := fun _ ds => decide (uptoBulkAll ds ≤ 1048576)
def OpenSpec.upto (s : _root_.Go.ChangeSpec) : _root_.Go.OpenSpec := { _root_.Go.OpenSpec.ofChange s with cond := some uptoSmall }

/-- 'annalistlaw18.TreeSplit', WHERE WHAT IT READS IS OF BULK AT MOST 1048576: true; the input reads as it did. -/
def treeSplitUptoRow : OpenClaim := { program := "ytfmbbfidjcgeiaa", sum := "fdab6965c0e30f48d9cde1a71d132f4a52c841322bd0694c2d9d1e09dd1de78f", func := "annalist/annalistlaw18.TreeSplit", spec := "treeSplit", inPlace := ["math/bits.Add64", "internal/bytealg.abigen_runtime_cmpstring"], unfollowed := true, recurses := true, apart := false, narrowed := true }
def TreeSplitUptoSaid : Prop := treeSplitUptoRow.holds Try.pinned (OpenSpec.upto treeSplitSpec)

/-- 'annalistlaw18.MovingDefinition', WHERE WHAT IT READS IS OF BULK AT MOST 1048576: true; the input reads as it did. -/
def movingDefinitionUptoRow : OpenClaim := { program := "ytfmbbfidjcgeiaa", sum := "fdab6965c0e30f48d9cde1a71d132f4a52c841322bd0694c2d9d1e09dd1de78f", func := "annalist/annalistlaw18.MovingDefinition", spec := "movingDefinition", inPlace := ["math/bits.Add64", "internal/bytealg.abigen_runtime_cmpstring"], unfollowed := true, recurses := true, apart := false, narrowed := true }
def MovingDefinitionUptoSaid : Prop := movingDefinitionUptoRow.holds Try.pinned (OpenSpec.upto movingDefinitionSpec)

/-- 'annalistlaw18.MovingWider', WHERE WHAT IT READS IS OF BULK AT MOST 1048576: true; the input reads as it did. -/
def movingWiderUptoRow : OpenClaim := { program := "ytfmbbfidjcgeiaa", sum := "fdab6965c0e30f48d9cde1a71d132f4a52c841322bd0694c2d9d1e09dd1de78f", func := "annalist/annalistlaw18.MovingWider", spec := "movingWider", inPlace := ["internal/bytealg.abigen_runtime_cmpstring", "math/bits.Add64"], unfollowed := true, recurses := true, apart := false, narrowed := true }
def MovingWiderUptoSaid : Prop := movingWiderUptoRow.holds Try.pinned (OpenSpec.upto movingWiderSpec)

/-- 'annalistlaw18.MovingTotal', WHERE WHAT IT READS IS OF BULK AT MOST 1048576: true; the input reads as it did. -/
def movingTotalUptoRow : OpenClaim := { program := "ytfmbbfidjcgeiaa", sum := "fdab6965c0e30f48d9cde1a71d132f4a52c841322bd0694c2d9d1e09dd1de78f", func := "annalist/annalistlaw18.MovingTotal", spec := "movingTotal", inPlace := ["internal/bytealg.abigen_runtime_cmpstring", "math/bits.Add64"], unfollowed := true, recurses := true, apart := false, narrowed := true }
def MovingTotalUptoSaid : Prop := movingTotalUptoRow.holds Try.pinned (OpenSpec.upto movingTotalSpec)

/-- 'annalistlaw18.TreeOperations', WHERE WHAT IT READS IS OF BULK AT MOST 1048576: true; the input reads as it did. -/
def treeOperationsUptoRow : OpenClaim := { program := "ytfmbbfidjcgeiaa", sum := "fdab6965c0e30f48d9cde1a71d132f4a52c841322bd0694c2d9d1e09dd1de78f", func := "annalist/annalistlaw18.TreeOperations", spec := "treeOperations", inPlace := ["math/bits.Add64", "internal/bytealg.abigen_runtime_cmpstring"], unfollowed := true, recurses := true, apart := false, narrowed := true }
def TreeOperationsUptoSaid : Prop := treeOperationsUptoRow.holds Try.pinned (OpenSpec.upto treeOperationsSpec)

/-- 'annalistlaw18.TreeCopies', WHERE WHAT IT READS IS OF BULK AT MOST 1048576: true; the input reads as it did. -/
def treeCopiesUptoRow : OpenClaim := { program := "ytfmbbfidjcgeiaa", sum := "fdab6965c0e30f48d9cde1a71d132f4a52c841322bd0694c2d9d1e09dd1de78f", func := "annalist/annalistlaw18.TreeCopies", spec := "treeCopies", inPlace := ["math/bits.Add64", "internal/bytealg.abigen_runtime_cmpstring"], unfollowed := true, recurses := true, apart := false, narrowed := true }
def TreeCopiesUptoSaid : Prop := treeCopiesUptoRow.holds Try.pinned (OpenSpec.upto treeCopiesSpec)

/-- 'annalistlaw18.MovingCovers', WHERE WHAT IT READS IS OF BULK AT MOST 1048576: true; the input reads as it did. -/
def movingCoversUptoRow : OpenClaim := { program := "ytfmbbfidjcgeiaa", sum := "fdab6965c0e30f48d9cde1a71d132f4a52c841322bd0694c2d9d1e09dd1de78f", func := "annalist/annalistlaw18.MovingCovers", spec := "movingCovers", inPlace := ["internal/bytealg.abigen_runtime_cmpstring", "math/bits.Add64"], unfollowed := true, recurses := true, apart := false, narrowed := true }
def MovingCoversUptoSaid : Prop := movingCoversUptoRow.holds Try.pinned (OpenSpec.upto movingCoversSpec)

end Rows
end Go.Proofs.Ytfmbbfidjcgeiaa
